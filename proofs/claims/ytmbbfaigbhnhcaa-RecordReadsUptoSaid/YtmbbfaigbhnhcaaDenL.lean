/-
  Loops over functions wherever they stand: in loops, in conditions, in rounds of one another.
-/
import Derived.Test.YtmbbfaigbhnhcaaDenJ
import Derived.RangeFuncNested
set_option linter.unusedSimpArgs false
set_option linter.unusedVariables false
namespace Go.Den
open Go.RowKit
variable {ds : List Deferred}

/-- How a round of an inner loop may be left. -/
def outOfN {α : Type} (L : Nat) (Qi : World → Prop) (I : List α → World → Prop) (Ix : Code → List α → World → Prop) (xs : List α) (W : World) : Exit → World → Prop
  | .normal, W' => I xs W' ∧ Qi W' ∧ Same [L] W W'
  | .ret, W' => Ix .ret xs W' ∧ Same [L] W W'
  | .exit id, W' => Ix (.exit id) xs W' ∧ Same [L] W W'
  | _, _ => False

/-- As RangeK; the body is told of its own loop's record. -/
def RangeK2 (P : Program) (fv : Value) (kds : List Kd) (B : Nat → Fn kds (BodyK → Prop)) (w : World) (Kn Kr : Nat → World → Prop) (Ke : List (Nat × (Nat → World → Prop))) : Prop :=
  ∃ (α : Type) (gf : Nat) (lb : Array Value) (encs : α → Array Value) (Qi : World → Prop) (G : List α → α → World → World → Prop) (S Sp : List α → Prop) (I : List α → World → Prop) (Ix : Code → List α → World → Prop),
    fv = .func (.func gf) #[] lb ∧ (∃ fn, P.funcs[gf]? = some fn ∧ fn.body.isSome = true) ∧ (∀ W W', Qi W → Trn (w.heap.size + 1) W W' → Qi W') ∧
    (∀ W, Grw w W → W.heap.size = w.heap.size + 2 → SeqX P gf lb encs Qi G S Sp W ∧ I [] W) ∧
    (∀ pre W W', I pre W → Trn (w.heap.size + 1) W W' → I pre W') ∧ (∀ c pre W W', Ix c pre W → Trn (w.heap.size + 1) W W' → Ix c pre W') ∧
    (∀ x, (encs x).size = kds.length ∧ viewL kds (encs x).toList (fun r => r fun body => ∀ pre W0 W1 W, I pre W0 → Grw W0 W1 → G pre x W0 W1 → Trn (w.heap.size + 1) W1 W → (∃ r, W.heap[w.heap.size + 1]? = some (.loop r)) → body W (outOf w.heap.size (w.heap.size + 1) Qi I Ix (pre ++ [x]) W)) (B (w.heap.size + 1))) ∧
    (∀ xs W0 W1 W, S xs → I xs W0 → Grw W0 W1 → Trn (w.heap.size + 1) W1 W → W.heap[w.heap.size]? = some (.deferred (some [])) → Kn w.heap.size W) ∧
    (∀ c pre W0 W1 W, Sp pre → Ix c pre W0 → Grw W0 W1 → Trn (w.heap.size + 1) W1 W → W.heap[w.heap.size]? = some (.deferred (some [])) → (c = .ret ∧ Kr w.heap.size W) ∨ (∃ x ∈ Ke, c = .exit x.1 ∧ x.2 w.heap.size W))

/-- A loop over an iterator within a round of the loop whose record is L0: one block is made: its record. -/
def RangeN (P : Program) (L0 : Nat) (fv : Value) (kds : List Kd) (B : Nat → Fn kds (BodyK → Prop)) (w : World) (Kn Kr : World → Prop) (Ke : List (Nat × (World → Prop))) : Prop :=
  ∃ (α : Type) (gf : Nat) (lb : Array Value) (encs : α → Array Value) (Qi : World → Prop) (G : List α → α → World → World → Prop) (S Sp : List α → Prop) (I : List α → World → Prop) (Ix : Code → List α → World → Prop),
    fv = .func (.func gf) #[] lb ∧ (∃ fn, P.funcs[gf]? = some fn ∧ fn.body.isSome = true) ∧ (∃ r, w.heap[L0]? = some (.loop r)) ∧ (∀ W W', Qi W → Trn w.heap.size W W' → Qi W') ∧
    (∀ W, Grw w W → W.heap.size = w.heap.size + 1 → SeqX P gf lb encs Qi G S Sp W ∧ I [] W) ∧
    (∀ pre W W', I pre W → Trn w.heap.size W W' → I pre W') ∧ (∀ c pre W W', Ix c pre W → Trn w.heap.size W W' → Ix c pre W') ∧
    (∀ x, (encs x).size = kds.length ∧ viewL kds (encs x).toList (fun r => r fun body => ∀ pre W0 W1 W, I pre W0 → Grw W0 W1 → G pre x W0 W1 → Trn w.heap.size W1 W → (∃ r, W.heap[w.heap.size]? = some (.loop r)) → body W (outOfN w.heap.size Qi I Ix (pre ++ [x]) W)) (B w.heap.size)) ∧
    (∀ xs W0 W1 W, S xs → I xs W0 → Grw W0 W1 → Trn w.heap.size W1 W → Kn W) ∧
    (∀ c pre W0 W1 W, Sp pre → Ix c pre W0 → Grw W0 W1 → Trn w.heap.size W1 W → (c = .ret ∧ Kr W) ∨ (∃ x ∈ Ke, c = .exit x.1 ∧ x.2 W))

def hasR : Code → Bool
  | .seq a b => hasR a || hasR b
  | .cond _ a b => hasR a || hasR b
  | .block _ c => hasR c
  | .loop c => hasR c
  | .rangeFunc _ _ _ _ => true
  | _ => false

/-- The ways by which a body jumps out, also out of loops over functions within it. -/
def exitsR : Code → List Nat
  | .seq a b => exitsR a ++ exitsR b
  | .cond _ a b => exitsR a ++ exitsR b
  | .block id c => (exitsR c).filter fun x => !Nat.beq x id
  | .loop c => exitsR c
  | .exit id => [id]
  | .rangeFunc _ _ _ b => exitsR b
  | _ => []

def sameKeys : List Nat → List (Nat × Kd) → Bool
  | [], [] => true
  | x :: a, y :: b => Nat.beq x y.1 && sameKeys a b
  | _, _ => false
def findR : List (List (Nat × Kd)) → List Nat → Option (List (Nat × Kd))
  | [], _ => none
  | R :: RS, ks => cond (sameKeys ks R) (some R) (findR RS ks)
theorem of_sameKeys : ∀ {a : List Nat} {R : List (Nat × Kd)}, sameKeys a R = true → a = R.map (·.1)
  | [], [], _ => rfl
  | x :: a, y :: b, h => by
    simp only [sameKeys, Bool.and_eq_true] at h
    rw [List.map_cons, Nat.eq_of_beq_eq_true h.1, of_sameKeys h.2]
  | [], _ :: _, h => by cases h
  | _ :: _, [], h => by cases h
theorem of_findR : ∀ {RS : List (List (Nat × Kd))} {ks : List Nat} {R : List (Nat × Kd)}, findR RS ks = some R → ks = R.map (·.1)
  | R0 :: RS, ks, R, h => by
    unfold findR at h
    cases hb : sameKeys ks R0 with
    | true => rw [hb] at h; simp only [cond_true, Option.some.injEq] at h; subst h; exact of_sameKeys hb
    | false => rw [hb] at h; exact of_findR h

def dAny (P : Program) (N : Nat) (H : Hints) (RS : List (List (Nat × Kd))) : Code → Option Nat → Env → (List Nat → Exit → Env → World → Prop) → World → Prop
  | .seq a b, L, l, Q, w => cond (hasR a || hasR b)
      (match hintAt H.joins b with
        | none => cond (hasR a)
          (dAny P N H RS a L l (fun ms e l' w' => match e with
            | .normal => dAny P N H RS b L l' (fun ms' e l' w' => Q (ms' ++ ms) e l' w') w'
            | e => Q ms e l' w') w)
          (dCode P N H a l (fun e l' w' => match e with
            | .normal => dAny P N H RS b L l' Q w'
            | e => Q [] e l' w') w)
        | some h => cond (kept a h.keep) (match keepEnv l h.keep with
          | none => False
          | some kl => cond (hasR a)
            (∃ J : Fn (h.mods.map (·.2)) (List Nat → World → Prop),
              dAny P N H RS a L l (fun ms e l' w' => match e with
                | .normal => match getVals l' (h.mods.map (·.1)) with
                  | some vs => viewL (h.mods.map (·.2)) vs (fun r => r ms w') J
                  | none => False
                | e => Q ms e l' w') w ∧
              allK (h.mods.map (·.2)) J fun vs r => ∀ ms w', r ms w' → dAny P N H RS b L (zipEnv h.mods vs ++ kl) (fun ms' e l' w' => Q (ms' ++ ms) e l' w') w')
            (∃ J : Fn (h.mods.map (·.2)) (World → Prop),
              dCode P N H a l (fun e l' w' => match e with
                | .normal => match getVals l' (h.mods.map (·.1)) with
                  | some vs => viewL (h.mods.map (·.2)) vs (fun r => r w') J
                  | none => False
                | e => Q [] e l' w') w ∧
              allK (h.mods.map (·.2)) J fun vs r => ∀ w', r w' → dAny P N H RS b L (zipEnv h.mods vs ++ kl) Q w')) False)
      (dCode P N H (.seq a b) l (Q []) w)
  | .cond c x y, L, l, Q, w => cond (hasR x || hasR y)
      (match look l [] [] c with
        | some (.bool b) => if b = true then dAny P N H RS x L l Q w else dAny P N H RS y L l Q w
        | _ => False)
      (dCode P N H (.cond c x y) l (Q []) w)
  | .block id c, L, l, Q, w => cond (hasR c)
      (dAny P N H RS c L l (fun ms e l' w' => match e with
        | .exit id' => cond (Nat.beq id' id) (Q ms .normal l' w') (Q ms (.exit id') l' w')
        | e => Q ms e l' w') w)
      (dCode P N H (.block id c) l (Q []) w)
  | .loop c, L, l, Q, w => cond (hasR c)
      (match hintAt H.loops c with
      | none => False
      | some h => cond (kept c h.keep) (match keepEnv l h.keep, getVals l (h.mods.map (·.1)) with
        | some kl, some vs0 => ∃ Inv : Fn (h.mods.map (·.2)) (List Nat → Nat → World → Prop),
            viewL (h.mods.map (·.2)) vs0 (fun r => ∃ n, r [] n w) Inv ∧
            allK (h.mods.map (·.2)) Inv fun vs r => ∀ ms n w', r ms n w' →
              dAny P N H RS c L (zipEnv h.mods vs ++ kl) (fun ms' e l' w'' => match e with
                | .normal => match getVals l' (h.mods.map (·.1)) with
                  | some vs' => viewL (h.mods.map (·.2)) vs' (fun r' => ∃ n', n' < n ∧ r' (ms' ++ ms) n' w'') Inv
                  | none => False
                | e => Q (ms' ++ ms) e l' w'') w'
        | _, _ => False) False)
      (dCode P N H (.loop c) l (Q []) w)
  | .rangeFunc g ps asg body, L, l, Q, w => match findR RS ps.toList with
    | none => False
    | some R => cond (noDefs asg && noDefs body && nodupB (R.map (·.1)) && R.all fun x => Nat.blt x.1 N)
      (match look l [] [] g with
      | some fv => match L with
        | none => RangeK2 P fv (R.map (·.2)) (fun r => curry _ fun vs C => ∀ W : World,
            dCode P N H asg (zipEnv R vs ++ l) (fun e l' W' => e = .normal ∧ W' = W ∧ C (fun W2 post => dAny P N H RS body (some r) l' (fun _ e _ W3 => post e W3) W2)) W) w
              (fun D w' => Q [D] .normal l w') (fun D w' => Q [D] .ret l w') ((exitsR body).map fun id => (id, fun D w' => Q [D] (.exit id) l w'))
        | some L0 => RangeN P L0 fv (R.map (·.2)) (fun r => curry _ fun vs C => ∀ W : World,
            dCode P N H asg (zipEnv R vs ++ l) (fun e l' W' => e = .normal ∧ W' = W ∧ C (fun W2 post => dAny P N H RS body (some r) l' (fun _ e _ W3 => post e W3) W2)) W) w
              (fun w' => Q [] .normal l w') (fun w' => Q [] .ret l w') ((exitsR body).map fun id => (id, fun w' => Q [] (.exit id) l w'))
      | none => False) False
  | c, L, l, Q, w => dCode P N H c l (Q []) w

/-- A function that holds such. -/
def dFuncA (P : Program) (H : Hints) (RS : List (List (Nat × Kd))) (fn : Func) (args : List Value) (K : Value → World → Prop) (w : World) : Prop :=
  match fn.body with
  | none => False
  | some c => cond (Nat.ble args.length fn.ntmps) (dAny P fn.ntmps H RS c none (initEnv 0 args) (fun ms e l w' => match e with
      | .normal => EndM ms w' fun w' => dResults P l w' fn.results.toList fun vs => K (mkRes vs) w'
      | .ret => EndM ms w' fun w' => dResults P l w' fn.results.toList fun vs => K (mkRes vs) w'
      | _ => False) w) False

section
variable {P : Program} {N : Nat} {H : Hints} {R : List (Nat × Kd)} {RS : List (List (Nat × Kd))}

theorem rangeA_sound (hP : OkP P) {g : Operand} {ps : Array Nat} {asg body : Code} {l : Env} {w : World} {a : Act} {Q : Exit → Act → World → Prop} {fv : Value} {K : Exit → Nat → World → Prop} {ids : List Nat} {dB : Nat → Env → (Exit → World → Prop) → World → Prop} (hl0 : EnvOk ds N a l)
    (hd1 : noDefs asg = true) (hBs : ∀ (r : Nat) {l' : Env} {post : Exit → World → Prop} {w : World} {a : Act}, EnvOk [] N a l' → dB r l' post w → body.wpIn (Fence.wide.inRound r) 0 P (fun e _ w' => post e w') a w) (hps : ps.toList = R.map (·.1)) (hn : (R.map (·.1)).Nodup) (hlt' : ∀ x ∈ R, x.1 < N) (hg : a.eval g = fv)
    (h : RangeK2 P fv (R.map (·.2)) (fun r => curry _ fun vs C => ∀ W : World,
          dCode P N H asg (zipEnv R vs ++ l) (fun e l' W' => e = .normal ∧ W' = W ∧ C (fun W2 post => dB r l' post W2)) W) w (K .normal) (K .ret) (ids.map fun id => (id, K (.exit id))))
    (hK : ∀ e D w', (e = .normal ∨ e = .ret ∨ ∃ id, e = .exit id) → K e D w' → Q e { a with defers := { target := .collected D, args := #[] } :: a.defers } w') :
    (Code.rangeFunc g ps asg body).wpIn Fence.wide 1 P Q a w := by
  obtain ⟨α, gf, lb, encs, Qi, G, S, Sp, I, Ix, hfv, ⟨fn, hfn, hbd⟩, hQi, hst, hI, hIx, hbody, hdone, hstop⟩ := h
  have hsz : ∀ x, (encs x).size = ps.size := fun x => by
    rw [(hbody x).1, List.length_map, ← Array.length_toList, hps, List.length_map]
  have hsz' : ∀ x, (encs x).size = R.length := fun x => by rw [(hbody x).1, List.length_map]
  refine wpIn_rangeFunc ?_
  intro f0 _
  obtain ⟨rec, hrec⟩ : ∃ rec : LoopState → Option Code → Loop, ∀ st pe, rec st pe = { state := st, pending := pe, fn := f0, tmps := a.tmps, params := ps, assign := asg, body, defers := w.heap.size } := ⟨_, fun _ _ => rfl⟩
  obtain ⟨W1, hW1⟩ : ∃ W1, W1 = (w.alloc (.deferred (some []))).alloc (.loop (rec .ready none)) := ⟨_, rfl⟩
  have s1 : W1.heap.size = w.heap.size + 2 := by rw [hW1]; simp
  have g1 : Grw w W1 := by rw [hW1]; exact (Grw.alloc _ _).trans (Grw.alloc _ _)
  have hL1 : W1.heap[w.heap.size + 1]? = some (.loop (rec .ready none)) := by
    rw [hW1]
    have := World.alloc_heap_new (w.alloc (.deferred (some []))) (.loop (rec .ready none))
    rwa [World.size_alloc] at this
  have hD1 : W1.heap[w.heap.size]? = some (.deferred (some [])) := by
    rw [hW1]
    exact ((Grw.alloc _ _).block _ (by simp)).trans (World.alloc_heap_new w _)
  obtain ⟨hseq, hI0⟩ := hst W1 g1 s1
  refine ⟨w.heap.size + 1, [{ target := .collected w.heap.size, args := #[] }], W1, { target := .fn (.func gf) lb, args := #[.func (.yield (w.heap.size + 1)) #[] #[]] }, W1, gf,
    #[.func (.yield (w.heap.size + 1)) #[] #[]] ++ lb, W1, ?_, ?_, fun _ _ => trivial, ?_, fun h => (by cases h), ?_⟩
  · rw [hW1, hrec]; exact run_enterLoop_outer _ _ _ _ _
  · simp only [resolve, hg.trans hfv]
    simp [go_sem]
  · simp [invoke, go_sem, run_callFunc hP hfn hbd]
  · -- the iterator, at the invariant and at the two blocks
    refine (hseq (w.heap.size + 1) (fun pre W => I pre W ∧ W.heap[w.heap.size + 1]? = some (.loop (rec .ready none)) ∧ W.heap[w.heap.size]? = some (.deferred (some [])))
      (fun pre W => ∃ c, Ix c pre W ∧ W.heap[w.heap.size + 1]? = some (.loop (rec .done (some c))) ∧ W.heap[w.heap.size]? = some (.deferred (some []))) ?_ ⟨hI0, hL1, hD1⟩).mono ?_
    · -- one round
      rintro pre x V0 V1 ⟨hi, hl, hd⟩ hg01 hG
      have hlt0 : w.heap.size + 1 < V0.heap.size := (Array.getElem?_eq_some_iff.1 hl).1
      have hl' : V1.heap[w.heap.size + 1]? = some (.loop (rec .ready none)) := (hg01.block _ hlt0).trans hl
      have hd' : V1.heap[w.heap.size]? = some (.deferred (some [])) := (hg01.block _ (by omega)).trans hd
      have hlt : w.heap.size + 1 < V1.heap.size := (Array.getElem?_eq_some_iff.1 hl').1
      have hy := run_yield (P := P) (args := encs x) hl' (by rw [hrec]; exact hsz x)
      rw [hrec] at hy
      have hv := of_viewL_curry (hbody x).2
      have he := enter_round (R := R) hl0 hps (hsz' x) hn hlt'
      refine ⟨f0, _, asg, body, hy, roundIn_of_wpIn trivial (wpIn_mono (dCode_soundR hP (r := w.heap.size + 1) (n := 0) asg hd1 he (hv V1)) ?_)⟩
      rintro e a1 V2 ⟨_, l', hl1, rfl, rfl, hB⟩
      refine ⟨_, run_beginRound hl' (by rw [hrec]), ?_⟩
      obtain ⟨V3, hV3⟩ : ∃ V3, V3 = V2.putObj (w.heap.size + 1) (.loop { rec .ready none with state := .busy }) := ⟨_, rfl⟩
      rw [← hV3]
      have t3 : Trn (w.heap.size + 1) V2 V3 := by rw [hV3]; exact Trn.put _ _ _
      have hl3 : V3.heap[w.heap.size + 1]? = some (.loop { rec .ready none with state := .busy }) := by rw [hV3]; exact World.putObj_heap_same hlt
      have hd3 : V3.heap[w.heap.size]? = some (.deferred (some [])) := (t3.block _ (by omega) (by omega)).trans hd'
      have hlt3 : w.heap.size + 1 < V3.heap.size := (Array.getElem?_eq_some_iff.1 hl3).1
      refine wpIn_mono (hBs (w.heap.size + 1) hl1 (hB pre V0 V2 V3 hi hg01 hG t3 ⟨_, hl3⟩)) ?_
      rintro e a2 V4 hq
      -- the record, behind the round
      have fin : ∀ (jump : Option Code), Same [w.heap.size, w.heap.size + 1] V3 V4 →
          (Instr.endRound (w.heap.size + 1) jump).run P V4 = .ok (.bool jump.isNone) (V4.putObj (w.heap.size + 1) (.loop (rec (if jump.isNone then .ready else .done) jump))) ∧
          (V4.putObj (w.heap.size + 1) (.loop (rec (if jump.isNone then .ready else .done) jump))).heap[w.heap.size + 1]? = some (.loop (rec (if jump.isNone then .ready else .done) jump)) ∧
          (V4.putObj (w.heap.size + 1) (.loop (rec (if jump.isNone then .ready else .done) jump))).heap[w.heap.size]? = some (.deferred (some [])) := fun jump hs => by
        have hl4 := hs.at (by simp) hl3
        have hd4 := hs.at (by simp) hd3
        have := run_endRound (P := P) jump hl4
        simp only [hrec] at this ⊢
        exact ⟨this, World.putObj_heap_same (Array.getElem?_eq_some_iff.1 hl4).1, (World.putObj_heap_other (by omega)).trans hd4⟩
      cases e with
      | normal =>
        obtain ⟨hi4, hq4, hs4⟩ := hq
        obtain ⟨hr, hl5, hd5⟩ := fin none hs4
        exact ⟨_, _, hr, .inl ⟨rfl, ⟨hI _ _ _ hi4 (Trn.put _ _ _), hl5, hd5⟩, hQi _ _ hq4 (Trn.put _ _ _)⟩⟩
      | ret =>
        obtain ⟨hi4, hs4⟩ := hq
        obtain ⟨hr, hl5, hd5⟩ := fin (some .ret) hs4
        exact ⟨_, _, hr, .inr ⟨rfl, .ret, hIx _ _ _ _ hi4 (Trn.put _ _ _), hl5, hd5⟩⟩
      | exit id =>
        obtain ⟨hi4, hs4⟩ := hq
        obtain ⟨hr, hl5, hd5⟩ := fin (some (.exit id)) hs4
        exact ⟨_, _, hr, .inr ⟨rfl, .exit id, hIx _ _ _ _ hi4 (Trn.put _ _ _), hl5, hd5⟩⟩
      | _ => exact (show False from hq).elim
    · -- behind the iterator
      rintro e V ⟨⟨v, rfl⟩, (⟨xs, V0, hS, ⟨hi, hl, hd⟩, hg⟩ | ⟨pre, V0, hSp, ⟨c, hi, hl, hd⟩, hg⟩)⟩
      · have hlt := (Array.getElem?_eq_some_iff.1 hl).1
        have hl' := (hg.block _ hlt).trans hl
        have hd' := (hg.block _ (by omega)).trans hd
        have := run_endLoop (P := P) hl' (by rw [hrec]; simp)
        rw [hrec] at this
        exact ⟨none, _, this, hK .normal _ _ (.inl rfl) (hdone xs V0 V _ hS hi hg (Trn.put _ _ _) ((World.putObj_heap_other (by omega)).trans hd'))⟩
      · have hlt := (Array.getElem?_eq_some_iff.1 hl).1
        have hl' := (hg.block _ hlt).trans hl
        have hd' := (hg.block _ (by omega)).trans hd
        have := run_endLoop (P := P) hl' (by rw [hrec]; simp)
        rw [hrec] at this
        obtain ⟨V5, hV5⟩ : ∃ V5, V5 = V.putObj (w.heap.size + 1) (.loop { state := .exhausted, pending := some c, fn := f0, tmps := a.tmps, params := ps, assign := asg, body, defers := w.heap.size }) := ⟨_, rfl⟩
        refine ⟨some c, V5, by rw [hV5]; exact this, ?_⟩
        have hd5 : V5.heap[w.heap.size]? = some (.deferred (some [])) := by rw [hV5]; exact (World.putObj_heap_other (by omega)).trans hd'
        have ht5 : Trn (w.heap.size + 1) V V5 := by rw [hV5]; exact Trn.put _ _ _
        clear hV5
        rcases hstop c pre V0 V V5 hSp hi hg ht5 hd5 with ⟨rfl, hk⟩ | ⟨x, hx, rfl, hk⟩
        · exact wpIn_ret (hK .ret _ _ (.inr (.inl rfl)) hk)
        · obtain ⟨id, _, rfl⟩ := List.mem_map.1 hx
          exact wpIn_exit (hK (.exit id) _ _ (.inr (.inr ⟨id, rfl⟩)) hk)


theorem rangeN_sound (hP : OkP P) {g : Operand} {ps : Array Nat} {asg body : Code} {l : Env} {w : World} {a : Act} {Q : Exit → Act → World → Prop} {fv : Value} {K : Exit → World → Prop} {L0 : Nat} {ids : List Nat} {dB : Nat → Env → (Exit → World → Prop) → World → Prop} (hl0 : EnvOk ds N a l)
    (hd1 : noDefs asg = true) (hBs : ∀ (r : Nat) {l' : Env} {post : Exit → World → Prop} {w : World} {a : Act}, EnvOk [] N a l' → dB r l' post w → body.wpIn (Fence.wide.inRound r) 0 P (fun e _ w' => post e w') a w) (hps : ps.toList = R.map (·.1)) (hn : (R.map (·.1)).Nodup) (hlt' : ∀ x ∈ R, x.1 < N) (hg : a.eval g = fv)
    (h : RangeN P L0 fv (R.map (·.2)) (fun r => curry _ fun vs C => ∀ W : World,
          dCode P N H asg (zipEnv R vs ++ l) (fun e l' W' => e = .normal ∧ W' = W ∧ C (fun W2 post => dB r l' post W2)) W) w (K .normal) (K .ret) (ids.map fun id => (id, K (.exit id))))
    (hK : ∀ e w', (e = .normal ∨ e = .ret ∨ ∃ id, e = .exit id) → K e w' → Q e a w') :
    (Code.rangeFunc g ps asg body).wpIn (Fence.wide.inRound L0) 0 P Q a w := by
  obtain ⟨α, gf, lb, encs, Qi, G, S, Sp, I, Ix, hfv, ⟨fn, hfn, hbd⟩, ⟨r0, hr0⟩, hQi, hst, hI, hIx, hbody, hdone, hstop⟩ := h
  have hsz : ∀ x, (encs x).size = ps.size := fun x => by
    rw [(hbody x).1, List.length_map, ← Array.length_toList, hps, List.length_map]
  have hsz' : ∀ x, (encs x).size = R.length := fun x => by rw [(hbody x).1, List.length_map]
  refine wpIn_rangeFunc ?_
  intro f0 _
  obtain ⟨rec, hrec⟩ : ∃ rec : LoopState → Option Code → Loop, ∀ st pe, rec st pe = { state := st, pending := pe, fn := f0, tmps := a.tmps, params := ps, assign := asg, body, defers := r0.defers } := ⟨_, fun _ _ => rfl⟩
  obtain ⟨W1, hW1⟩ : ∃ W1, W1 = w.alloc (.loop (rec .ready none)) := ⟨_, rfl⟩
  have s1 : W1.heap.size = w.heap.size + 1 := by rw [hW1]; simp
  have g1 : Grw w W1 := by rw [hW1]; exact Grw.alloc _ _
  have hL1 : W1.heap[w.heap.size]? = some (.loop (rec .ready none)) := by
    rw [hW1]; exact World.alloc_heap_new w _
  obtain ⟨hseq, hI0⟩ := hst W1 g1 s1
  refine ⟨w.heap.size, [], W1, { target := .fn (.func gf) lb, args := #[.func (.yield (w.heap.size)) #[] #[]] }, W1, gf,
    #[.func (.yield (w.heap.size)) #[] #[]] ++ lb, W1, ?_, ?_, fun _ _ => trivial, ?_, fun h => (by cases h), ?_⟩
  · rw [hW1, hrec]; exact run_enterLoop_inner hr0 _ _ _ _ _
  · simp only [resolve, hg.trans hfv]
    simp [go_sem]
  · simp [invoke, go_sem, run_callFunc hP hfn hbd]
  · -- the iterator, at the invariant and at the two blocks
    refine (hseq (w.heap.size) (fun pre W => I pre W ∧ W.heap[w.heap.size]? = some (.loop (rec .ready none)))
      (fun pre W => ∃ c, Ix c pre W ∧ W.heap[w.heap.size]? = some (.loop (rec .done (some c)))) ?_ ⟨hI0, hL1⟩).mono ?_
    · -- one round
      rintro pre x V0 V1 ⟨hi, hl⟩ hg01 hG
      have hlt0 : w.heap.size < V0.heap.size := (Array.getElem?_eq_some_iff.1 hl).1
      have hl' : V1.heap[w.heap.size]? = some (.loop (rec .ready none)) := (hg01.block _ hlt0).trans hl
      have hlt : w.heap.size < V1.heap.size := (Array.getElem?_eq_some_iff.1 hl').1
      have hy := run_yield (P := P) (args := encs x) hl' (by rw [hrec]; exact hsz x)
      rw [hrec] at hy
      have hv := of_viewL_curry (hbody x).2
      have he := enter_round (R := R) hl0 hps (hsz' x) hn hlt'
      refine ⟨f0, _, asg, body, hy, roundIn_of_wpIn trivial (wpIn_mono (dCode_soundR hP (r := w.heap.size) (n := 0) asg hd1 he (hv V1)) ?_)⟩
      rintro e a1 V2 ⟨_, l', hl1, rfl, rfl, hB⟩
      refine ⟨_, run_beginRound hl' (by rw [hrec]), ?_⟩
      obtain ⟨V3, hV3⟩ : ∃ V3, V3 = V2.putObj (w.heap.size) (.loop { rec .ready none with state := .busy }) := ⟨_, rfl⟩
      rw [← hV3]
      have t3 : Trn (w.heap.size) V2 V3 := by rw [hV3]; exact Trn.put _ _ _
      have hl3 : V3.heap[w.heap.size]? = some (.loop { rec .ready none with state := .busy }) := by rw [hV3]; exact World.putObj_heap_same hlt
      have hlt3 : w.heap.size < V3.heap.size := (Array.getElem?_eq_some_iff.1 hl3).1
      refine wpIn_mono (hBs w.heap.size hl1 (hB pre V0 V2 V3 hi hg01 hG t3 ⟨_, hl3⟩)) ?_
      rintro e a2 V4 hq
      -- the record, behind the round
      have fin : ∀ (jump : Option Code), Same [w.heap.size] V3 V4 →
          (Instr.endRound (w.heap.size) jump).run P V4 = .ok (.bool jump.isNone) (V4.putObj (w.heap.size) (.loop (rec (if jump.isNone then .ready else .done) jump))) ∧
          (V4.putObj (w.heap.size) (.loop (rec (if jump.isNone then .ready else .done) jump))).heap[w.heap.size]? = some (.loop (rec (if jump.isNone then .ready else .done) jump)) := fun jump hs => by
        have hl4 := hs.at (by simp) hl3
        have := run_endRound (P := P) jump hl4
        simp only [hrec] at this ⊢
        exact ⟨this, World.putObj_heap_same (Array.getElem?_eq_some_iff.1 hl4).1⟩
      cases e with
      | normal =>
        obtain ⟨hi4, hq4, hs4⟩ := hq
        obtain ⟨hr, hl5⟩ := fin none hs4
        exact ⟨_, _, hr, .inl ⟨rfl, ⟨hI _ _ _ hi4 (Trn.put _ _ _), hl5⟩, hQi _ _ hq4 (Trn.put _ _ _)⟩⟩
      | ret =>
        obtain ⟨hi4, hs4⟩ := hq
        obtain ⟨hr, hl5⟩ := fin (some .ret) hs4
        exact ⟨_, _, hr, .inr ⟨rfl, .ret, hIx _ _ _ _ hi4 (Trn.put _ _ _), hl5⟩⟩
      | exit id =>
        obtain ⟨hi4, hs4⟩ := hq
        obtain ⟨hr, hl5⟩ := fin (some (.exit id)) hs4
        exact ⟨_, _, hr, .inr ⟨rfl, .exit id, hIx _ _ _ _ hi4 (Trn.put _ _ _), hl5⟩⟩
      | _ => exact (show False from hq).elim
    · -- behind the iterator
      rintro e V ⟨⟨v, rfl⟩, (⟨xs, V0, hS, ⟨hi, hl⟩, hg⟩ | ⟨pre, V0, hSp, ⟨c, hi, hl⟩, hg⟩)⟩
      · have hlt := (Array.getElem?_eq_some_iff.1 hl).1
        have hl' := (hg.block _ hlt).trans hl
        have := run_endLoop (P := P) hl' (by rw [hrec]; simp)
        rw [hrec] at this
        exact ⟨none, _, this, hK .normal _ (.inl rfl) (hdone xs V0 V _ hS hi hg (Trn.put _ _ _))⟩
      · have hlt := (Array.getElem?_eq_some_iff.1 hl).1
        have hl' := (hg.block _ hlt).trans hl
        have := run_endLoop (P := P) hl' (by rw [hrec]; simp)
        rw [hrec] at this
        obtain ⟨V5, hV5⟩ : ∃ V5, V5 = V.putObj (w.heap.size) (.loop { state := .exhausted, pending := some c, fn := f0, tmps := a.tmps, params := ps, assign := asg, body, defers := r0.defers }) := ⟨_, rfl⟩
        refine ⟨some c, V5, by rw [hV5]; exact this, ?_⟩
        have ht5 : Trn (w.heap.size) V V5 := by rw [hV5]; exact Trn.put _ _ _
        clear hV5
        rcases hstop c pre V0 V V5 hSp hi hg ht5 with ⟨rfl, hk⟩ | ⟨x, hx, rfl, hk⟩
        · exact wpIn_ret (hK .ret _ (.inr (.inl rfl)) hk)
        · obtain ⟨id, _, rfl⟩ := List.mem_map.1 hx
          exact wpIn_exit (hK (.exit id) _ (.inr (.inr ⟨id, rfl⟩)) hk)


theorem env_again2 {ds' : List Deferred} {a a' : Act} {l l' kl : Env} {h : Hint} {vs : List Value} {c : Code} (hl : EnvOk ds N a l) (hl' : EnvOk ds' N a' l') (ho : Off (writes c) a a') (hk : kept c h.keep = true)
    (hkl : keepEnv l h.keep = some kl) (hv : getVals l' (h.mods.map (·.1)) = some vs) : EnvOk ds' N a' (zipEnv h.mods vs ++ kl) :=
  env_again (a := { a with defers := ds' }) ⟨hl.size, rfl, hl.at'⟩ hl' (fun t ht => ho t ht) hk hkl hv

def fenceL : Option Nat → Fence
  | none => Fence.wide
  | some r => Fence.wide.inRound r
def depL : Option Nat → Nat
  | none => 1
  | some _ => 0
def AnyPost (ds : List Deferred) (N : Nat) (ws : List Nat) (a : Act) (Q : List Nat → Exit → Env → World → Prop) : Exit → Act → World → Prop :=
  fun e a' w' => Off ws a a' ∧ ∃ ms l', EnvOk (marksOf ms ++ ds) N a' l' ∧ Q ms e l' w'

theorem plainL' (hP : OkP P) {c : Code} (L : Option Nat) {l : Env} {Q : Exit → Env → World → Prop} {w : World} {a : Act} (hd : L ≠ none → noDefs c = true) (hl : EnvOk ds N a l) (h : dCode P N H c l Q w) :
    c.wpIn (fenceL L) (depL L) P (Post ds N (writes c) a Q) a w := by
  cases L with
  | none => exact wpIn_wide.2 (dCode_sound hP c hl h)
  | some r => exact dCode_soundR hP c (hd (by simp)) hl h
theorem plainL (hP : OkP P) {c : Code} (L : Option Nat) {l : Env} {Q : List Nat → Exit → Env → World → Prop} {w : World} {a : Act} (hd : L ≠ none → noDefs c = true) (hl : EnvOk ds N a l) (h : dCode P N H c l (Q []) w) :
    c.wpIn (fenceL L) (depL L) P (AnyPost ds N (writes c) a Q) a w := by
  refine wpIn_mono (plainL' hP L hd hl h) ?_
  rintro e a' w' ⟨ho, l', hl', hq⟩
  exact ⟨ho, [], l', hl', hq⟩
theorem marks_app {ms ms' : List Nat} : marksOf (ms' ++ ms) ++ ds = marksOf ms' ++ (marksOf ms ++ ds) := by simp [marksOf]

set_option maxHeartbeats 2000000 in
theorem dAny_sound (hP : OkP P) : ∀ (c : Code) (L : Option Nat) {ds : List Deferred} {l : Env} {Q : List Nat → Exit → Env → World → Prop} {w : World} {a : Act}, (L ≠ none → noDefs c = true) → EnvOk ds N a l → dAny P N H RS c L l Q w → c.wpIn (fenceL L) (depL L) P (AnyPost ds N (writes c) a Q) a w
  | .seq x y, L, ds, l, Q, w, a, hd, hl, h => by
    have hdx : L ≠ none → noDefs x = true := fun hL => by have := hd hL; simp only [noDefs, Bool.and_eq_true] at this; exact this.1
    have hdy : L ≠ none → noDefs y = true := fun hL => by have := hd hL; simp only [noDefs, Bool.and_eq_true] at this; exact this.2
    unfold dAny at h
    cases hb : (hasR x || hasR y) with
    | false => rw [hb] at h; exact plainL hP L hd hl h
    | true =>
      rw [hb] at h
      simp only [cond_true] at h
      have ihx := fun {ds l Q w a} => dAny_sound hP x L (ds := ds) (l := l) (Q := Q) (w := w) (a := a) hdx
      have ihy := fun {ds l Q w a} => dAny_sound hP y L (ds := ds) (l := l) (Q := Q) (w := w) (a := a) hdy
      have ox : ∀ {a' : Act}, Off (writes x) a a' → Off (writes (.seq x y)) a a' := fun ho => ho.mono fun t ht => by simp [writes, ht]
      have oy : ∀ {a' a'' : Act}, Off (writes x) a a' → Off (writes y) a' a'' → Off (writes (.seq x y)) a a'' := fun ho ho' => (ho.mono fun t ht => by simp [writes, ht]).trans (ho'.mono fun t ht => by simp [writes, ht])
      refine wpIn_seq ?_
      split at h
      · cases hx : hasR x with
        | true =>
          rw [hx] at h
          simp only [cond_true] at h
          refine wpIn_mono (ihx hl h) ?_
          rintro e a' w' ⟨ho, ms, l', hl', hq⟩
          cases e with
          | normal =>
            refine wpIn_mono (ihy hl' hq) ?_
            rintro e a'' w'' ⟨ho', ms', l'', hl'', hq'⟩
            exact ⟨oy ho ho', ms' ++ ms, l'', by rw [marks_app]; exact hl'', hq'⟩
          | _ => exact ⟨ox ho, ms, l', hl', hq⟩
        | false =>
          rw [hx] at h
          simp only [cond_false] at h
          refine wpIn_mono (plainL' hP L hdx hl h) ?_
          rintro e a' w' ⟨ho, l', hl', hq⟩
          cases e with
          | normal =>
            refine wpIn_mono (ihy hl' hq) ?_
            rintro e a'' w'' ⟨ho', ms', l'', hl'', hq'⟩
            exact ⟨oy ho ho', ms', l'', hl'', hq'⟩
          | _ => exact ⟨ox ho, [], l', hl', hq⟩
      · rename_i hh _
        cases hk : kept x hh.keep with
        | false => rw [hk] at h; exact h.elim
        | true =>
          rw [hk] at h
          simp only [cond_true] at h
          split at h
          · exact h.elim
          · rename_i kl hkl
            cases hx : hasR x with
            | true =>
              rw [hx] at h
              simp only [cond_true] at h
              obtain ⟨J, h1, h2⟩ := h
              refine wpIn_mono (ihx hl h1) ?_
              rintro e a' w' ⟨ho, ms, l', hl', hq⟩
              cases e with
              | normal =>
                simp only at hq
                split at hq
                · rename_i vs hvs
                  obtain ⟨r, hr, hb2⟩ := of_viewL hq h2
                  refine wpIn_mono (ihy (env_again2 hl hl' ho hk hkl hvs) (hb2 ms w' hr)) ?_
                  rintro e a'' w'' ⟨ho', ms', l'', hl'', hq'⟩
                  exact ⟨oy ho ho', ms' ++ ms, l'', by rw [marks_app]; exact hl'', hq'⟩
                · exact hq.elim
              | _ => exact ⟨ox ho, ms, l', hl', hq⟩
            | false =>
              rw [hx] at h
              simp only [cond_false] at h
              obtain ⟨J, h1, h2⟩ := h
              refine wpIn_mono (plainL' hP L hdx hl h1) ?_
              rintro e a' w' ⟨ho, l', hl', hq⟩
              cases e with
              | normal =>
                simp only at hq
                split at hq
                · rename_i vs hvs
                  obtain ⟨r, hr, hb2⟩ := of_viewL hq h2
                  refine wpIn_mono (ihy (env_again2 hl hl' ho hk hkl hvs) (hb2 w' hr)) ?_
                  rintro e a'' w'' ⟨ho', ms', l'', hl'', hq'⟩
                  exact ⟨oy ho ho', ms', l'', hl'', hq'⟩
                · exact hq.elim
              | _ => exact ⟨ox ho, [], l', hl', hq⟩
  | .cond c x y, L, ds, l, Q, w, a, hd, hl, h => by
    have hdx : L ≠ none → noDefs x = true := fun hL => by have := hd hL; simp only [noDefs, Bool.and_eq_true] at this; exact this.1
    have hdy : L ≠ none → noDefs y = true := fun hL => by have := hd hL; simp only [noDefs, Bool.and_eq_true] at this; exact this.2
    unfold dAny at h
    cases hb : (hasR x || hasR y) with
    | false => rw [hb] at h; exact plainL hP L hd hl h
    | true =>
      rw [hb] at h
      simp only [cond_true] at h
      have ihx := fun {ds l Q w a} => dAny_sound hP x L (ds := ds) (l := l) (Q := Q) (w := w) (a := a) hdx
      have ihy := fun {ds l Q w a} => dAny_sound hP y L (ds := ds) (l := l) (Q := Q) (w := w) (a := a) hdy
      split at h
      · rename_i b hb'
        have he := of_look hl FlOk.nil holds_nil c _ hb'
        refine wpIn_cond he ?_
        cases b with
        | true =>
          simp only [if_true] at h ⊢
          refine wpIn_mono (ihx hl h) ?_
          rintro e a' w' ⟨ho, r⟩
          exact ⟨ho.mono fun t ht => by simp [writes, ht], r⟩
        | false =>
          simp only [Bool.false_eq_true, if_false] at h ⊢
          refine wpIn_mono (ihy hl h) ?_
          rintro e a' w' ⟨ho, r⟩
          exact ⟨ho.mono fun t ht => by simp [writes, ht], r⟩
      · exact h.elim
  | .block id c, L, ds, l, Q, w, a, hd, hl, h => by
    have hdc : L ≠ none → noDefs c = true := fun hL => by have := hd hL; simpa only [noDefs] using this
    unfold dAny at h
    cases hb : hasR c with
    | false => rw [hb] at h; exact plainL hP L hd hl h
    | true =>
      rw [hb] at h
      simp only [cond_true] at h
      refine wpIn_block (wpIn_mono (dAny_sound hP c L hdc hl h) ?_)
      rintro e a' w' ⟨ho, ms, l', hl', hq⟩
      cases e with
      | exit id' =>
        simp only [Exit.inBlock]
        simp only at hq
        by_cases hid : id' = id
        · rw [if_pos hid]
          have : Nat.beq id' id = true := by rw [hid]; simp
          rw [this] at hq
          exact ⟨ho, ms, l', hl', hq⟩
        · rw [if_neg hid]
          have : Nat.beq id' id = false := by
            cases hb : Nat.beq id' id with
            | false => rfl
            | true => exact absurd (Nat.eq_of_beq_eq_true hb) hid
          rw [this] at hq
          exact ⟨ho, ms, l', hl', hq⟩
      | _ => exact ⟨ho, ms, l', hl', hq⟩
  | .loop c, L, ds, l, Q, w, a, hd, hl, h => by
    have hdc : L ≠ none → noDefs c = true := fun hL => by have := hd hL; simpa only [noDefs] using this
    unfold dAny at h
    cases hbr : hasR c with
    | false => rw [hbr] at h; exact plainL hP L hd hl h
    | true =>
      rw [hbr] at h
      simp only [cond_true] at h
      have ih := fun {ds l Q w a} => dAny_sound hP c L (ds := ds) (l := l) (Q := Q) (w := w) (a := a) hdc
      split at h
      · exact h.elim
      · rename_i hh _
        cases hb : kept c hh.keep with
        | false => rw [hb] at h; exact h.elim
        | true =>
          rw [hb] at h
          simp only [cond_true] at h
          split at h
          · rename_i kl vs0 hkl hvs0
            obtain ⟨Inv, h1, h2⟩ := h
            have start : ∃ (n : Nat) (vs : List Value) (r : List Nat → Nat → World → Prop), getVals l (hh.mods.map (·.1)) = some vs ∧ r [] n w ∧ (∀ ms n w', r ms n w' → dAny P N H RS c L (zipEnv hh.mods vs ++ kl) (fun ms' e l' w'' => match e with
                | .normal => match getVals l' (hh.mods.map (·.1)) with
                  | some vs' => viewL (hh.mods.map (·.2)) vs' (fun r' => ∃ n', n' < n ∧ r' (ms' ++ ms) n' w'') Inv
                  | none => False
                | e => Q (ms' ++ ms) e l' w'') w') := by
              obtain ⟨r, ⟨n, hr⟩, hB⟩ := of_viewL h1 h2
              exact ⟨n, vs0, r, hvs0, hr, hB⟩
            obtain ⟨n0, vs, r0, hvs, hr0, hB0⟩ := start
            refine wpIn_loop_ghost (fun n a' w' => Off (writes c) a a' ∧ ∃ (ms : List Nat) (l' : Env) (vs : List Value) (r : List Nat → Nat → World → Prop), EnvOk (marksOf ms ++ ds) N a' l' ∧ getVals l' (hh.mods.map (·.1)) = some vs ∧ r ms n w' ∧
                (∀ ms n w', r ms n w' → dAny P N H RS c L (zipEnv hh.mods vs ++ kl) (fun ms' e l' w'' => match e with
                | .normal => match getVals l' (hh.mods.map (·.1)) with
                  | some vs' => viewL (hh.mods.map (·.2)) vs' (fun r' => ∃ n', n' < n ∧ r' (ms' ++ ms) n' w'') Inv
                  | none => False
                | e => Q (ms' ++ ms) e l' w'') w')) n0 ⟨Off.refl _ _, [], l, vs, r0, hl, hvs, hr0, hB0⟩ ?_
            rintro n a1 w1 ⟨ho, ms1, l1, vs1, r1, hl1, hvs1, hr1, hB1⟩
            refine wpIn_mono (ih (env_again2 hl hl1 ho hb hkl hvs1) (hB1 ms1 n w1 hr1)) ?_
            rintro e a' w' ⟨ho', ms', l', hl', hq⟩
            rw [← marks_app] at hl'
            cases e with
            | normal =>
              simp only at hq
              split at hq
              · rename_i vs' hvs'
                obtain ⟨r', ⟨n', hlt, hr'⟩, hB'⟩ := of_viewL hq h2
                exact ⟨n', hlt, ho.trans ho', ms' ++ ms1, l', vs', r', hl', hvs', hr', hB'⟩
              · exact hq.elim
            | _ => exact ⟨ho.trans ho', ms' ++ ms1, l', hl', hq⟩
          · exact h.elim
  | .rangeFunc g ps asg body, L, ds, l, Q, w, a, hd, hl, h => by
    unfold dAny at h
    split at h
    · exact h.elim
    · rename_i R hR
      have hps := of_findR hR
      cases hb : (noDefs asg && noDefs body && nodupB (R.map (·.1)) && R.all fun x => Nat.blt x.1 N) with
      | false => rw [hb] at h; exact h.elim
      | true =>
        rw [hb] at h
        simp only [cond_true] at h
        simp only [Bool.and_eq_true] at hb
        obtain ⟨⟨⟨hd1, hd2⟩, hnd⟩, hlt⟩ := hb
        have hlt' : ∀ x ∈ R, x.1 < N := fun x hx => by have := List.all_eq_true.1 hlt x hx; simpa using this
        have hBs : ∀ (r : Nat) {l' : Env} {post : Exit → World → Prop} {w : World} {a : Act}, EnvOk [] N a l' → dAny P N H RS body (some r) l' (fun _ e _ W3 => post e W3) w → body.wpIn (Fence.wide.inRound r) 0 P (fun e _ w' => post e w') a w := fun r {l' post w a} hl' hq =>
          wpIn_mono (dAny_sound hP body (some r) (fun _ => hd2) hl' hq) (fun e a' w' hx => by
            obtain ⟨_, ms, l'', _, hq'⟩ := hx
            exact hq')
        split at h
        · rename_i fv hfv
          have hg := of_look hl FlOk.nil holds_nil g _ hfv
          split at h
          · exact rangeA_sound hP hl hd1 hBs hps (of_nodupB hnd) hlt' hg (K := fun e D w' => Q [D] e l w') (dB := fun r l' post W2 => dAny P N H RS body (some r) l' (fun _ e _ W3 => post e W3) W2) h
              (fun e D w' _ hk => ⟨fun _ _ => rfl, [D], l, ⟨hl.size, by simp [marksOf, hl.defers], hl.at'⟩, hk⟩)
          · rename_i L0
            exact rangeN_sound hP hl hd1 hBs hps (of_nodupB hnd) hlt' hg (K := fun e w' => Q [] e l w') (dB := fun r l' post W2 => dAny P N H RS body (some r) l' (fun _ e _ W3 => post e W3) W2) h
              (fun e w' _ hk => ⟨fun _ _ => rfl, [], l, hl, hk⟩)
        · exact h.elim
  | .skip, L, ds, l, Q, w, a, hd, hl, h => plainL hP L hd hl h
  | .label _, L, ds, l, Q, w, a, hd, hl, h => plainL hP L hd hl h
  | .region _ _ _, L, ds, l, Q, w, a, hd, hl, h => plainL hP L hd hl h
  | .exit _, L, ds, l, Q, w, a, hd, hl, h => plainL hP L hd hl h
  | .ret, L, ds, l, Q, w, a, hd, hl, h => plainL hP L hd hl h
  | .scope _, L, ds, l, Q, w, a, hd, hl, h => plainL hP L hd hl h
  | .goto _, L, ds, l, Q, w, a, hd, hl, h => plainL hP L hd hl h
  | .refuse _, L, ds, l, Q, w, a, hd, hl, h => plainL hP L hd hl h

theorem leaves_marks1 {fn : Func} {tmps : Array Value} {RR : Ending → World → Prop} : ∀ {ms : List Nat} {w : World}, EndM ms w (fun w' => ∃ v, (results fn tmps).run P w' = .ok v w' ∧ RR (.returned v) w') → LeavesInM Fence.wide 1 P fn tmps RR (marksOf ms) .returning w
  | [], w, h => h
  | D :: ms, w, h => ⟨by simp, .inl ⟨D, _, rfl, run_takeDeferred h.1, leaves_marks1 h.2⟩⟩

/-- **A function whose formula holds returns.** -/
theorem dFuncA_sound (hP : OkP P) {f : FuncId} {fn : Func} {args : List Value} {K : Value → World → Prop} {w : World} (hf : P.funcs[f]? = some fn)
    (h : dFuncA P H RS fn args K w) : Calls P f args.toArray w fun e w' => ∃ v, e = .returned v ∧ K v w' := by
  unfold dFuncA at h
  split at h
  · exact h.elim
  · rename_i c hc
    cases hb : Nat.ble args.length fn.ntmps with
    | false => rw [hb] at h; exact h.elim
    | true =>
      rw [hb] at h
      simp only [cond_true] at h
      have hle : args.length ≤ fn.ntmps := Nat.le_of_ble_eq_true hb
      refine (callsIn_wide (n := 1)).1 (callsIn_of_wp_marks hf hc trivial ?_)
      have hl : EnvOk [] fn.ntmps ⟨args.toArray ++ Array.replicate (fn.ntmps - args.toArray.size) undef, []⟩ (initEnv 0 args) := by
        refine ⟨by simp; omega, rfl, fun t v ht => ?_⟩
        obtain ⟨_, h2⟩ := gt_initEnv ht
        simp only [Nat.sub_zero] at h2
        have hlt := (List.getElem?_eq_some_iff.1 h2).1
        rw [Array.getElem?_append_left (by simpa using hlt)]
        simpa using h2
      refine wpIn_mono (dAny_sound hP c none (fun h => absurd rfl h) hl h) ?_
      rintro e a' w' ⟨_, ms, l', hl', hq⟩
      have hdef : a'.defers = marksOf ms := by rw [hl'.defers, List.append_nil]
      have fin : EndM ms w' (fun w'' => dResults P l' w'' fn.results.toList (fun vs => K (mkRes vs) w'')) → LeavesInM Fence.wide 1 P fn a'.tmps (fun e w' => ∃ v, e = .returned v ∧ K v w') a'.defers .returning w' := by
        intro hr
        rw [hdef]
        refine leaves_marks1 (hr.mono fun w'' hr => ?_)
        obtain ⟨vs, hv, hK⟩ := of_dResults hl' hr
        refine ⟨mkRes vs, ?_, mkRes vs, rfl, hK⟩
        rw [results_eq, Array.mapM_eq_mapM_toList]
        simp only [Sem.run_bind, Sem.run_map, hv, Result.andThen_ok, Sem.run_pure]
        congr 1
        unfold mkRes
        split
        · rename_i h1
          have hlen : vs.length = 1 := by simpa using h1
          match vs, hlen with
          | [v], _ => rfl
        · rename_i h1
          have hlen : vs.length ≠ 1 := by simpa using h1
          match vs, hlen with
          | [], _ => rfl
          | _ :: _ :: _, _ => rfl
      cases e with
      | normal => exact fin hq
      | ret => exact fin hq
      | _ => exact hq.elim

/-- The same, in the form of a call. -/
theorem callK_ofA (hP : OkP P) {f : FuncId} {fn : Func} {args : List Value} {shs : List Sh} {RR : Fn (kdsOf shs) (World → Prop)} {w : World} (hf : P.funcs[f]? = some fn)
    (h : dFuncA P H RS fn args (fun v w' => viewRet shs v RR w') w) : CallK P f args shs w RR := dFuncA_sound hP hf h
end
end Go.Den
