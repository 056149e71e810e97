/-
  The statement 'for x := range seq' as one formula, and the function that holds it.
-/
import Derived.Test.YtmbbfaigbhnhcaaDenI
set_option linter.unusedSimpArgs false
set_option linter.unusedVariables false
namespace Go.Den
open Go.RowKit
variable {ds : List Deferred}

/-- These blocks lie as they lay. -/
def Same (B : List Nat) (W W' : World) : Prop := W.heap.size ≤ W'.heap.size ∧ ∀ k ∈ B, W'.heap[k]? = W.heap[k]?
/-- New blocks alone. -/
structure Grw (w w' : World) : Prop where
  os : w'.os = w.os
  tape : w'.tape = w.tape
  output : w'.output = w.output
  size : w.heap.size ≤ w'.heap.size
  block : ∀ k, k < w.heap.size → w'.heap[k]? = w.heap[k]?
/-- One block turned, and new blocks. -/
structure Trn (l : Nat) (w w' : World) : Prop where
  os : w'.os = w.os
  tape : w'.tape = w.tape
  output : w'.output = w.output
  size : w.heap.size ≤ w'.heap.size
  block : ∀ k, k < w.heap.size → k ≠ l → w'.heap[k]? = w.heap[k]?

theorem Grw.refl (w : World) : Grw w w := ⟨rfl, rfl, rfl, Nat.le_refl _, fun _ _ => rfl⟩
theorem Grw.trans {a b c : World} (h : Grw a b) (h' : Grw b c) : Grw a c := ⟨h'.os.trans h.os, h'.tape.trans h.tape, h'.output.trans h.output, Nat.le_trans h.size h'.size, fun k hk => (h'.block k (Nat.lt_of_lt_of_le hk h.size)).trans (h.block k hk)⟩
theorem Trn.put (l : Nat) (w : World) (o : Obj) : Trn l w (w.putObj l o) := ⟨rfl, rfl, rfl, by simp, fun k _ hk => World.putObj_heap_other hk⟩
theorem Trn.refl (l : Nat) (w : World) : Trn l w w := ⟨rfl, rfl, rfl, Nat.le_refl _, fun _ _ _ => rfl⟩
theorem Grw.alloc (w : World) (o : Obj) : Grw w (w.alloc o) := by
  refine ⟨rfl, rfl, rfl, by simp, fun k hk => Below.heap_alloc w o k hk⟩
theorem Same.at {B : List Nat} {W W' : World} (h : Same B W W') {k : Nat} {o : Obj} (hk : k ∈ B) (ho : W.heap[k]? = some o) : W'.heap[k]? = some o := (h.2 k hk).trans ho


/-- The contract of an iterator that makes new blocks alone: called in W at a yield, whatever the caller's invariant: what comes is told by G, in two worlds, of which the first is that behind the round before; Qi is what the iterator must find behind a round that goes on. -/
def SeqX {α : Type} (P : Program) (gf : Nat) (lb : Array Value) (encs : α → Array Value) (Qi : World → Prop) (G : List α → α → World → World → Prop) (S Sp : List α → Prop) (W : World) : Prop :=
  ∀ (l : Nat) (J Jx : List α → World → Prop),
    (∀ pre x W0 W1, J pre W0 → Grw W0 W1 → G pre x W0 W1 → YieldAt Fence.wide 0 P l (encs x) W1 fun e W' =>
      (e = .returned (.bool true) ∧ J (pre ++ [x]) W' ∧ Qi W') ∨ (e = .returned (.bool false) ∧ Jx (pre ++ [x]) W')) →
    J [] W → CallsIn Fence.wide 0 P gf (#[.func (.yield l) #[] #[]] ++ lb) W fun e W' =>
      (∃ v, e = .returned v) ∧ ((∃ xs W0, S xs ∧ J xs W0 ∧ Grw W0 W') ∨ (∃ pre W0, Sp pre ∧ Jx pre W0 ∧ Grw W0 W'))

/-- How a round may be left. -/
def outOf {α : Type} (D L : Nat) (Qi : World → Prop) (I : List α → World → Prop) (Ix : Code → List α → World → Prop) (xs : List α) (W : World) : Exit → World → Prop
  | .normal, W' => I xs W' ∧ Qi W' ∧ Same [D, L] W W'
  | .ret, W' => Ix .ret xs W' ∧ Same [D, L] W W'
  | .exit id, W' => Ix (.exit id) xs W' ∧ Same [D, L] W W'
  | _, _ => False

/-- What is asked of a body's formula. -/
abbrev BodyK := (World → (Exit → World → Prop) → Prop) → Prop

/-- A loop over an iterator, by the iterator's contract: two blocks are made: D, for the rounds' deferred calls, and the loop's record behind it. -/
def RangeK (P : Program) (fv : Value) (kds : List Kd) (B : Fn kds (BodyK → Prop)) (w : World) (Kn Kr : Nat → World → Prop) (Ke : List (Nat × (Nat → World → Prop))) : Prop :=
  ∃ (α : Type) (gf : Nat) (lb : Array Value) (encs : α → Array Value) (Qi : World → Prop) (G : List α → α → World → World → Prop) (S Sp : List α → Prop) (I : List α → World → Prop) (Ix : Code → List α → World → Prop),
    fv = .func (.func gf) #[] lb ∧ (∃ fn, P.funcs[gf]? = some fn ∧ fn.body.isSome = true) ∧ (∀ W W', Qi W → Trn (w.heap.size + 1) W W' → Qi W') ∧
    (∀ W, Grw w W → W.heap.size = w.heap.size + 2 → SeqX P gf lb encs Qi G S Sp W ∧ I [] W) ∧
    (∀ pre W W', I pre W → Trn (w.heap.size + 1) W W' → I pre W') ∧ (∀ c pre W W', Ix c pre W → Trn (w.heap.size + 1) W W' → Ix c pre W') ∧
    (∀ x, (encs x).size = kds.length ∧ viewL kds (encs x).toList (fun r => r fun body => ∀ pre W0 W1 W, I pre W0 → Grw W0 W1 → G pre x W0 W1 → Trn (w.heap.size + 1) W1 W → body W (outOf w.heap.size (w.heap.size + 1) Qi I Ix (pre ++ [x]) W)) B) ∧
    (∀ xs W0 W1 W, S xs → I xs W0 → Grw W0 W1 → Trn (w.heap.size + 1) W1 W → W.heap[w.heap.size]? = some (.deferred (some [])) → Kn w.heap.size W) ∧
    (∀ c pre W0 W1 W, Sp pre → Ix c pre W0 → Grw W0 W1 → Trn (w.heap.size + 1) W1 W → W.heap[w.heap.size]? = some (.deferred (some [])) → (c = .ret ∧ Kr w.heap.size W) ∨ (∃ x ∈ Ke, c = .exit x.1 ∧ x.2 w.heap.size W))

/-- The blocks for the rounds' deferred calls are shut. -/
def EndM : List Nat → World → (World → Prop) → Prop
  | [], w, K => K w
  | D :: ms, w, K => w.heap[D]? = some (.deferred (some [])) ∧ EndM ms (w.putObj D (.deferred none)) K

def hasRange : Code → Bool
  | .seq a b => hasRange a || hasRange b
  | .block _ c => hasRange c
  | .rangeFunc _ _ _ _ => true
  | _ => false

/-- The ways by which a body jumps out. -/
def exitsOf : Code → List Nat
  | .seq a b => exitsOf a ++ exitsOf b
  | .cond _ a b => exitsOf a ++ exitsOf b
  | .block id c => (exitsOf c).filter fun x => !Nat.beq x id
  | .loop c => exitsOf c
  | .exit id => [id]
  | _ => []

def nodupB : List Nat → Bool
  | [] => true
  | x :: r => (!r.any (Nat.beq x)) && nodupB r

theorem of_nodupB : ∀ {l : List Nat}, nodupB l = true → l.Nodup
  | [], _ => List.nodup_nil
  | x :: r, h => by
    simp only [nodupB, Bool.and_eq_true, Bool.not_eq_true'] at h
    refine List.nodup_cons.2 ⟨fun hm => ?_, of_nodupB h.2⟩
    have : r.any (Nat.beq x) = true := List.any_eq_true.2 ⟨x, hm, by simp⟩
    rw [this] at h
    cases h.1

def dTop (P : Program) (N : Nat) (H : Hints) (R : List (Nat × Kd)) : Code → Env → (List Nat → Exit → Env → World → Prop) → World → Prop
  | .seq a b, l, Q, w => cond (hasRange a || hasRange b)
      (cond (hasRange a)
        (dTop P N H R a l (fun ms e l' w' => match e with
          | .normal => dTop P N H R b l' (fun ms' e l' w' => Q (ms' ++ ms) e l' w') w'
          | e => Q ms e l' w') w)
        (match hintAt H.joins b with
        | none => dCode P N H a l (fun e l' w' => match e with
          | .normal => dTop P N H R b l' Q w'
          | e => Q [] e l' w') w
        | some h => cond (kept a h.keep) (match keepEnv l h.keep with
          | none => False
          | some kl => ∃ J : Fn (h.mods.map (·.2)) (World → Prop),
              dCode P N H a l (fun e l' w' => match e with
                | .normal => match getVals l' (h.mods.map (·.1)) with
                  | some vs => viewL (h.mods.map (·.2)) vs (fun r => r w') J
                  | none => False
                | e => Q [] e l' w') w ∧
              allK (h.mods.map (·.2)) J fun vs r => ∀ w', r w' → dTop P N H R b (zipEnv h.mods vs ++ kl) Q w') False))
      (dCode P N H (.seq a b) l (Q []) w)
  | .block id c, l, Q, w => cond (hasRange c)
      (dTop P N H R c l (fun ms e l' w' => match e with
        | .exit id' => cond (Nat.beq id' id) (Q ms .normal l' w') (Q ms (.exit id') l' w')
        | e => Q ms e l' w') w)
      (dCode P N H (.block id c) l (Q []) w)
  | .rangeFunc g ps asg body, l, Q, w =>
    cond (noDefs asg && noDefs body && Nat.beq ps.size R.length && (ps.toList.zip (R.map (·.1))).all (fun x => Nat.beq x.1 x.2) && nodupB (R.map (·.1)) && R.all fun x => Nat.blt x.1 N)
      (match look l [] [] g with
      | some fv => RangeK P fv (R.map (·.2)) (curry _ fun vs C => ∀ W : World,
          dCode P N H asg (zipEnv R vs ++ l) (fun e l' W' => e = .normal ∧ W' = W ∧ C (fun W2 post => dCode P N H body l' (fun e _ W3 => post e W3) W2)) W) w
            (fun D w' => Q [D] .normal l w') (fun D w' => Q [D] .ret l w') ((exitsOf body).map fun id => (id, fun D w' => Q [D] (.exit id) l w'))
      | none => False) False
  | c, l, Q, w => dCode P N H c l (Q []) w

/-- A function that holds one. -/
def dFuncM (P : Program) (H : Hints) (R : List (Nat × Kd)) (fn : Func) (args : List Value) (K : Value → World → Prop) (w : World) : Prop :=
  match fn.body with
  | none => False
  | some c => cond (Nat.ble args.length fn.ntmps) (dTop P fn.ntmps H R c (initEnv 0 args) (fun ms e l w' => match e with
      | .normal => EndM ms w' fun w' => dResults P l w' fn.results.toList fun vs => K (mkRes vs) w'
      | .ret => EndM ms w' fun w' => dResults P l w' fn.results.toList fun vs => K (mkRes vs) w'
      | _ => False) w) False

section
variable {P : Program} {N : Nat} {H : Hints} {R : List (Nat × Kd)}

def marksOf (ms : List Nat) : List Deferred := ms.map fun D => { target := .collected D, args := #[] }

theorem foldl_size : ∀ (l : List (Nat × Value)) (t : Array Value), (l.foldl (fun t x => t.setIfInBounds x.1 x.2) t).size = t.size
  | [], t => rfl
  | x :: l, t => by rw [List.foldl_cons, foldl_size l]; simp

/-- The loop's variables are laid into the round's frame. -/
theorem foldl_get : ∀ (l : List (Nat × Value)) (t : Array Value) (p : Nat) (v : Value), (∀ x ∈ l, x.1 < t.size) → (l.map (·.1)).Nodup → (p, v) ∈ l → (l.foldl (fun t x => t.setIfInBounds x.1 x.2) t)[p]? = some v
  | [], t, p, v, _, _, h => by cases h
  | x :: l, t, p, v, hs, hn, h => by
    rw [List.foldl_cons]
    rw [List.map_cons, List.nodup_cons] at hn
    by_cases hp : (p, v) ∈ l
    · exact foldl_get l _ p v (fun y hy => by simpa using hs y (by simp [hy])) hn.2 hp
    · rcases List.mem_cons.1 h with h | h
      · subst h
        have : ∀ (l : List (Nat × Value)) (t : Array Value), p ∉ l.map (·.1) → (l.foldl (fun t x => t.setIfInBounds x.1 x.2) t)[p]? = t[p]? := by
          intro l
          induction l with
          | nil => intro t _; rfl
          | cons y l ih =>
            intro t hy
            rw [List.foldl_cons, ih _ (fun h => hy (by simp [h]))]
            rw [Array.getElem?_setIfInBounds_ne (fun e => hy (by simp [e]))]
        rw [this l _ hn.1, Array.getElem?_setIfInBounds_self_of_lt (hs (p, v) (by simp))]
      · exact absurd h hp

theorem foldl_other : ∀ (l : List (Nat × Value)) (t : Array Value) (p : Nat), p ∉ l.map (·.1) → (l.foldl (fun t x => t.setIfInBounds x.1 x.2) t)[p]? = t[p]?
  | [], t, p, _ => rfl
  | y :: l, t, p, hy => by
    rw [List.foldl_cons, foldl_other l _ p (fun h => hy (by simp [h]))]
    rw [Array.getElem?_setIfInBounds_ne (fun e => hy (by simp [e]))]


theorem gt_append : ∀ {A l : Env} {t : Nat} {v : Value}, gt (A ++ l) t = some (some v) → gt A t = some (some v) ∨ (t ∉ A.map (·.1) ∧ gt l t = some (some v))
  | [], l, t, v, h => .inr ⟨by simp, h⟩
  | (j, u) :: A, l, t, v, h => by
    simp only [List.cons_append, gt] at h ⊢
    cases hb : Nat.beq j t with
    | true =>
      rw [hb] at h
      exact .inl h
    | false =>
      rw [hb] at h
      simp only [cond_false] at h ⊢
      rcases gt_append h with h | ⟨h1, h2⟩
      · exact .inl h
      · refine .inr ⟨?_, h2⟩
        simp only [List.map_cons, List.mem_cons, not_or]
        refine ⟨fun e => ?_, h1⟩
        rw [e] at hb
        simp at hb

theorem zip_keys : ∀ {R : List (Nat × Kd)} {vs : List Value}, vs.length = R.length → (zipEnv R vs).map (·.1) = R.map (·.1)
  | [], [], _ => rfl
  | _ :: R, _ :: vs, h => by simp only [zipEnv, List.map_cons, zip_keys (R := R) (vs := vs) (by simpa using h)]

theorem gt_zip : ∀ {R : List (Nat × Kd)} {vs : List Value} {t : Nat} {v : Value}, gt (zipEnv R vs) t = some (some v) → (t, v) ∈ (R.map (·.1)).zip vs
  | [], vs, t, v, h => by simp [zipEnv, gt] at h
  | (j, k) :: R, [], t, v, h => by simp [zipEnv, gt] at h
  | (j, k) :: R, u :: vs, t, v, h => by
    simp only [zipEnv, gt] at h
    cases hb : Nat.beq j t with
    | true =>
      rw [hb] at h
      simp only [cond_true, Option.some.injEq] at h
      have := Nat.eq_of_beq_eq_true hb
      simp [this, h]
    | false =>
      rw [hb] at h
      have := gt_zip h
      simp [this]

theorem enter_round {a : Act} {l : Env} {ps : Array Nat} {vs : Array Value} (hl : EnvOk ds N a l) (hps : ps.toList = R.map (·.1)) (hv : vs.size = R.length) (hn : (R.map (·.1)).Nodup) (hlt : ∀ x ∈ R, x.1 < N) :
    EnvOk [] N { tmps := (ps.zip vs).foldl (fun t (p, v) => t.setIfInBounds p v) a.tmps, defers := [] } (zipEnv R vs.toList ++ l) := by
  have e : (ps.zip vs).foldl (fun t (p, v) => t.setIfInBounds p v) a.tmps = ((R.map (·.1)).zip vs.toList).foldl (fun t x => t.setIfInBounds x.1 x.2) a.tmps := by
    rw [← hps, ← Array.foldl_toList, Array.toList_zip]
  have hk : ((R.map (·.1)).zip vs.toList).map (·.1) = R.map (·.1) := by
    rw [List.map_fst_zip]
    simp [hv]
  refine ⟨?_, rfl, fun t v hg => ?_⟩
  · simp only [e, foldl_size]; exact hl.size
  · simp only [e]
    rcases gt_append hg with h | ⟨h1, h2⟩
    · refine foldl_get _ _ _ _ ?_ (by rw [hk]; exact hn) (gt_zip h)
      intro x hx
      have := (List.of_mem_zip hx).1
      obtain ⟨y, hy, hy2⟩ := List.mem_map.1 this
      rw [hl.size, ← hy2]
      exact hlt y hy
    · rw [zip_keys (by simpa using hv)] at h1
      rw [foldl_other _ _ _ (by rw [hk]; exact h1)]
      exact hl.at' _ _ h2

theorem zip_all_eq : ∀ {a b : List Nat}, a.length = b.length → ((a.zip b).all fun x => Nat.beq x.1 x.2) = true → a = b
  | [], [], _, _ => rfl
  | x :: a, y :: b, hl, h => by
    simp only [List.zip_cons_cons, List.all_cons, Bool.and_eq_true] at h
    rw [Nat.eq_of_beq_eq_true h.1, zip_all_eq (by simpa using hl) h.2]

def TopPost (N : Nat) (ds : List Deferred) (Q : List Nat → Exit → Env → World → Prop) : Exit → Act → World → Prop :=
  fun e a' w' => ∃ ms l', EnvOk (marksOf ms ++ ds) N a' l' ∧ Q ms e l' w'

theorem top_plain (hP : OkP P) {c : Code} {l : Env} {Q : List Nat → Exit → Env → World → Prop} {w : World} {a : Act} (hl : EnvOk ds N a l) (h : dCode P N H c l (Q []) w) : c.wp P (TopPost N ds Q) a w := by
  refine wp_mono (dCode_sound hP c hl h) ?_
  rintro e a' w' ⟨_, l', hl', hq⟩
  exact ⟨[], l', hl', hq⟩

theorem range_sound (hP : OkP P) {g : Operand} {ps : Array Nat} {asg body : Code} {l : Env} {w : World} {a : Act} {Q : Exit → Act → World → Prop} {fv : Value} {K : Exit → Nat → World → Prop} {ids : List Nat} (hl0 : EnvOk ds N a l)
    (hd1 : noDefs asg = true) (hd2 : noDefs body = true) (hps : ps.toList = R.map (·.1)) (hn : (R.map (·.1)).Nodup) (hlt' : ∀ x ∈ R, x.1 < N) (hg : a.eval g = fv)
    (h : RangeK P fv (R.map (·.2)) (curry _ fun vs C => ∀ W : World,
          dCode P N H asg (zipEnv R vs ++ l) (fun e l' W' => e = .normal ∧ W' = W ∧ C (fun W2 post => dCode P N H body l' (fun e _ W3 => post e W3) W2)) W) w (K .normal) (K .ret) (ids.map fun id => (id, K (.exit id))))
    (hK : ∀ e D w', (e = .normal ∨ e = .ret ∨ ∃ id, e = .exit id) → K e D w' → Q e { a with defers := { target := .collected D, args := #[] } :: a.defers } w') :
    (Code.rangeFunc g ps asg body).wp P Q a w := by
  obtain ⟨α, gf, lb, encs, Qi, G, S, Sp, I, Ix, hfv, ⟨fn, hfn, hbd⟩, hQi, hst, hI, hIx, hbody, hdone, hstop⟩ := h
  have hsz : ∀ x, (encs x).size = ps.size := fun x => by
    rw [(hbody x).1, List.length_map, ← Array.length_toList, hps, List.length_map]
  have hsz' : ∀ x, (encs x).size = R.length := fun x => by rw [(hbody x).1, List.length_map]
  refine (wpIn_wide (n := 1)).1 (wpIn_rangeFunc ?_)
  intro f0 _
  obtain ⟨rec, hrec⟩ : ∃ rec : LoopState → Option Code → Loop, ∀ st pe, rec st pe = { state := st, pending := pe, fn := f0, tmps := a.tmps, params := ps, assign := asg, body, defers := w.heap.size } := ⟨_, fun _ _ => rfl⟩
  obtain ⟨W1, hW1⟩ : ∃ W1, W1 = (w.alloc (.deferred (some []))).alloc (.loop (rec .ready none)) := ⟨_, rfl⟩
  have s1 : W1.heap.size = w.heap.size + 2 := by rw [hW1]; simp
  have g1 : Grw w W1 := by rw [hW1]; exact (Grw.alloc _ _).trans (Grw.alloc _ _)
  have hL1 : W1.heap[w.heap.size + 1]? = some (.loop (rec .ready none)) := by
    rw [hW1]
    have := World.alloc_heap_new (w.alloc (.deferred (some []))) (.loop (rec .ready none))
    rwa [World.size_alloc] at this
  have hD1 : W1.heap[w.heap.size]? = some (.deferred (some [])) := by
    rw [hW1]
    exact ((Grw.alloc _ _).block _ (by simp)).trans (World.alloc_heap_new w _)
  obtain ⟨hseq, hI0⟩ := hst W1 g1 s1
  refine ⟨w.heap.size + 1, [{ target := .collected w.heap.size, args := #[] }], W1, { target := .fn (.func gf) lb, args := #[.func (.yield (w.heap.size + 1)) #[] #[]] }, W1, gf,
    #[.func (.yield (w.heap.size + 1)) #[] #[]] ++ lb, W1, ?_, ?_, fun _ _ => trivial, ?_, fun h => (by cases h), ?_⟩
  · rw [hW1, hrec]; exact run_enterLoop_outer _ _ _ _ _
  · simp only [resolve, hg.trans hfv]
    simp [go_sem]
  · simp [invoke, go_sem, run_callFunc hP hfn hbd]
  · -- the iterator, at the invariant and at the two blocks
    refine (hseq (w.heap.size + 1) (fun pre W => I pre W ∧ W.heap[w.heap.size + 1]? = some (.loop (rec .ready none)) ∧ W.heap[w.heap.size]? = some (.deferred (some [])))
      (fun pre W => ∃ c, Ix c pre W ∧ W.heap[w.heap.size + 1]? = some (.loop (rec .done (some c))) ∧ W.heap[w.heap.size]? = some (.deferred (some []))) ?_ ⟨hI0, hL1, hD1⟩).mono ?_
    · -- one round
      rintro pre x V0 V1 ⟨hi, hl, hd⟩ hg01 hG
      have hlt0 : w.heap.size + 1 < V0.heap.size := (Array.getElem?_eq_some_iff.1 hl).1
      have hl' : V1.heap[w.heap.size + 1]? = some (.loop (rec .ready none)) := (hg01.block _ hlt0).trans hl
      have hd' : V1.heap[w.heap.size]? = some (.deferred (some [])) := (hg01.block _ (by omega)).trans hd
      have hlt : w.heap.size + 1 < V1.heap.size := (Array.getElem?_eq_some_iff.1 hl').1
      have hy := run_yield (P := P) (args := encs x) hl' (by rw [hrec]; exact hsz x)
      rw [hrec] at hy
      have hv := of_viewL_curry (hbody x).2
      have he := enter_round (R := R) hl0 hps (hsz' x) hn hlt'
      refine ⟨f0, _, asg, body, hy, roundIn_of_wpIn trivial (wpIn_mono (dCode_soundR hP (r := w.heap.size + 1) (n := 0) asg hd1 he (hv V1)) ?_)⟩
      rintro e a1 V2 ⟨_, l', hl1, rfl, rfl, hB⟩
      refine ⟨_, run_beginRound hl' (by rw [hrec]), ?_⟩
      obtain ⟨V3, hV3⟩ : ∃ V3, V3 = V2.putObj (w.heap.size + 1) (.loop { rec .ready none with state := .busy }) := ⟨_, rfl⟩
      rw [← hV3]
      have t3 : Trn (w.heap.size + 1) V2 V3 := by rw [hV3]; exact Trn.put _ _ _
      have hl3 : V3.heap[w.heap.size + 1]? = some (.loop { rec .ready none with state := .busy }) := by rw [hV3]; exact World.putObj_heap_same hlt
      have hd3 : V3.heap[w.heap.size]? = some (.deferred (some [])) := (t3.block _ (by omega) (by omega)).trans hd'
      have hlt3 : w.heap.size + 1 < V3.heap.size := (Array.getElem?_eq_some_iff.1 hl3).1
      refine wpIn_mono (dCode_soundR hP (r := w.heap.size + 1) (n := 0) body hd2 hl1 (hB pre V0 V2 V3 hi hg01 hG t3)) ?_
      rintro e a2 V4 ⟨_, _, _, hq⟩
      -- the record, behind the round
      have fin : ∀ (jump : Option Code), Same [w.heap.size, w.heap.size + 1] V3 V4 →
          (Instr.endRound (w.heap.size + 1) jump).run P V4 = .ok (.bool jump.isNone) (V4.putObj (w.heap.size + 1) (.loop (rec (if jump.isNone then .ready else .done) jump))) ∧
          (V4.putObj (w.heap.size + 1) (.loop (rec (if jump.isNone then .ready else .done) jump))).heap[w.heap.size + 1]? = some (.loop (rec (if jump.isNone then .ready else .done) jump)) ∧
          (V4.putObj (w.heap.size + 1) (.loop (rec (if jump.isNone then .ready else .done) jump))).heap[w.heap.size]? = some (.deferred (some [])) := fun jump hs => by
        have hl4 := hs.at (by simp) hl3
        have hd4 := hs.at (by simp) hd3
        have := run_endRound (P := P) jump hl4
        simp only [hrec] at this ⊢
        exact ⟨this, World.putObj_heap_same (Array.getElem?_eq_some_iff.1 hl4).1, (World.putObj_heap_other (by omega)).trans hd4⟩
      cases e with
      | normal =>
        obtain ⟨hi4, hq4, hs4⟩ := hq
        obtain ⟨hr, hl5, hd5⟩ := fin none hs4
        exact ⟨_, _, hr, .inl ⟨rfl, ⟨hI _ _ _ hi4 (Trn.put _ _ _), hl5, hd5⟩, hQi _ _ hq4 (Trn.put _ _ _)⟩⟩
      | ret =>
        obtain ⟨hi4, hs4⟩ := hq
        obtain ⟨hr, hl5, hd5⟩ := fin (some .ret) hs4
        exact ⟨_, _, hr, .inr ⟨rfl, .ret, hIx _ _ _ _ hi4 (Trn.put _ _ _), hl5, hd5⟩⟩
      | exit id =>
        obtain ⟨hi4, hs4⟩ := hq
        obtain ⟨hr, hl5, hd5⟩ := fin (some (.exit id)) hs4
        exact ⟨_, _, hr, .inr ⟨rfl, .exit id, hIx _ _ _ _ hi4 (Trn.put _ _ _), hl5, hd5⟩⟩
      | _ => exact (show False from hq).elim
    · -- behind the iterator
      rintro e V ⟨⟨v, rfl⟩, (⟨xs, V0, hS, ⟨hi, hl, hd⟩, hg⟩ | ⟨pre, V0, hSp, ⟨c, hi, hl, hd⟩, hg⟩)⟩
      · have hlt := (Array.getElem?_eq_some_iff.1 hl).1
        have hl' := (hg.block _ hlt).trans hl
        have hd' := (hg.block _ (by omega)).trans hd
        have := run_endLoop (P := P) hl' (by rw [hrec]; simp)
        rw [hrec] at this
        exact ⟨none, _, this, hK .normal _ _ (.inl rfl) (hdone xs V0 V _ hS hi hg (Trn.put _ _ _) ((World.putObj_heap_other (by omega)).trans hd'))⟩
      · have hlt := (Array.getElem?_eq_some_iff.1 hl).1
        have hl' := (hg.block _ hlt).trans hl
        have hd' := (hg.block _ (by omega)).trans hd
        have := run_endLoop (P := P) hl' (by rw [hrec]; simp)
        rw [hrec] at this
        obtain ⟨V5, hV5⟩ : ∃ V5, V5 = V.putObj (w.heap.size + 1) (.loop { state := .exhausted, pending := some c, fn := f0, tmps := a.tmps, params := ps, assign := asg, body, defers := w.heap.size }) := ⟨_, rfl⟩
        refine ⟨some c, V5, by rw [hV5]; exact this, ?_⟩
        have hd5 : V5.heap[w.heap.size]? = some (.deferred (some [])) := by rw [hV5]; exact (World.putObj_heap_other (by omega)).trans hd'
        have ht5 : Trn (w.heap.size + 1) V V5 := by rw [hV5]; exact Trn.put _ _ _
        clear hV5
        rcases hstop c pre V0 V V5 hSp hi hg ht5 hd5 with ⟨rfl, hk⟩ | ⟨x, hx, rfl, hk⟩
        · exact wpIn_ret (hK .ret _ _ (.inr (.inl rfl)) hk)
        · obtain ⟨id, _, rfl⟩ := List.mem_map.1 hx
          exact wpIn_exit (hK (.exit id) _ _ (.inr (.inr ⟨id, rfl⟩)) hk)

theorem dTop_sound (hP : OkP P) : ∀ (c : Code) {ds : List Deferred} {l : Env} {Q : List Nat → Exit → Env → World → Prop} {w : World} {a : Act}, EnvOk ds N a l → dTop P N H R c l Q w → c.wp P (TopPost N ds Q) a w
  | .seq x y, ds, l, Q, w, a, hl, h => by
    unfold dTop at h
    cases hb : (hasRange x || hasRange y) with
    | false => rw [hb] at h; exact top_plain hP hl h
    | true =>
      rw [hb] at h
      simp only [cond_true] at h
      have ihx := fun {ds l Q w a} => dTop_sound hP x (ds := ds) (l := l) (Q := Q) (w := w) (a := a)
      have ihy := fun {ds l Q w a} => dTop_sound hP y (ds := ds) (l := l) (Q := Q) (w := w) (a := a)
      cases hx : hasRange x with
      | true =>
        rw [hx] at h
        simp only [cond_true] at h
        refine wp_seq (wp_mono (ihx hl h) ?_)
        rintro e a' w' ⟨ms, l', hl', hq⟩
        cases e with
        | normal =>
          refine wp_mono (ihy hl' hq) ?_
          rintro e a'' w'' ⟨ms', l'', hl'', hq'⟩
          refine ⟨ms' ++ ms, l'', ?_, hq'⟩
          have : marksOf (ms' ++ ms) ++ ds = marksOf ms' ++ (marksOf ms ++ ds) := by simp [marksOf]
          rw [this]; exact hl''
        | _ => exact ⟨ms, l', hl', hq⟩
      | false =>
        rw [hx] at h
        simp only [cond_false] at h
        refine wp_seq ?_
        split at h
        · refine wp_mono (dCode_sound hP x hl h) ?_
          rintro e a' w' ⟨_, l', hl', hq⟩
          cases e with
          | normal => exact ihy hl' hq
          | _ => exact ⟨[], l', hl', hq⟩
        · rename_i hh _
          cases hk : kept x hh.keep with
          | false => rw [hk] at h; exact h.elim
          | true =>
            rw [hk] at h
            simp only [cond_true] at h
            split at h
            · exact h.elim
            · rename_i kl hkl
              obtain ⟨J, h1, h2⟩ := h
              refine wp_mono (dCode_sound hP x hl h1) ?_
              rintro e a' w' ⟨ho, l', hl', hq⟩
              cases e with
              | normal =>
                simp only at hq
                split at hq
                · rename_i vs hvs
                  obtain ⟨r, hr, hb2⟩ := of_viewL hq h2
                  exact ihy (env_again hl hl' ho hk hkl hvs) (hb2 w' hr)
                · exact hq.elim
              | _ => exact ⟨[], l', hl', hq⟩
  | .block id c, ds, l, Q, w, a, hl, h => by
    unfold dTop at h
    cases hb : hasRange c with
    | false => rw [hb] at h; exact top_plain hP hl h
    | true =>
      rw [hb] at h
      simp only [cond_true] at h
      refine wp_block (wp_mono (dTop_sound hP c hl h) ?_)
      rintro e a' w' ⟨ms, l', hl', hq⟩
      cases e with
      | exit id' =>
        simp only [Exit.inBlock]
        simp only at hq
        by_cases hid : id' = id
        · rw [if_pos hid]
          have : Nat.beq id' id = true := by rw [hid]; simp
          rw [this] at hq
          exact ⟨ms, l', hl', hq⟩
        · rw [if_neg hid]
          have : Nat.beq id' id = false := by
            cases hb : Nat.beq id' id with
            | false => rfl
            | true => exact absurd (Nat.eq_of_beq_eq_true hb) hid
          rw [this] at hq
          exact ⟨ms, l', hl', hq⟩
      | _ => exact ⟨ms, l', hl', hq⟩
  | .rangeFunc g ps asg body, ds, l, Q, w, a, hl, h => by
    unfold dTop at h
    cases hb : (noDefs asg && noDefs body && Nat.beq ps.size R.length && (ps.toList.zip (R.map (·.1))).all (fun x => Nat.beq x.1 x.2) && nodupB (R.map (·.1)) && R.all fun x => Nat.blt x.1 N) with
    | false => rw [hb] at h; exact h.elim
    | true =>
      rw [hb] at h
      simp only [cond_true] at h
      simp only [Bool.and_eq_true] at hb
      obtain ⟨⟨⟨⟨⟨hd1, hd2⟩, hs⟩, hz⟩, hnd⟩, hlt⟩ := hb
      split at h
      · rename_i fv hfv
        have hps : ps.toList = R.map (·.1) := zip_all_eq (by rw [Array.length_toList, List.length_map]; exact Nat.eq_of_beq_eq_true hs) hz
        refine range_sound hP hl hd1 hd2 hps (of_nodupB hnd) (fun x hx => by have := List.all_eq_true.1 hlt x hx; simpa using this) (of_look hl FlOk.nil holds_nil g _ hfv) (K := fun e D w' => Q [D] e l w') h ?_
        rintro e D w' _ hk
        exact ⟨[D], l, ⟨hl.size, by simp [marksOf, hl.defers], hl.at'⟩, hk⟩
      · exact h.elim
  | .skip, ds, l, Q, w, a, hl, h => top_plain hP hl h
  | .label _, ds, l, Q, w, a, hl, h => top_plain hP hl h
  | .region _ _ _, ds, l, Q, w, a, hl, h => top_plain hP hl h
  | .cond _ _ _, ds, l, Q, w, a, hl, h => top_plain hP hl h
  | .loop _, ds, l, Q, w, a, hl, h => top_plain hP hl h
  | .exit _, ds, l, Q, w, a, hl, h => top_plain hP hl h
  | .ret, ds, l, Q, w, a, hl, h => top_plain hP hl h
  | .scope _, ds, l, Q, w, a, hl, h => top_plain hP hl h
  | .goto _, ds, l, Q, w, a, hl, h => top_plain hP hl h
  | .refuse _, ds, l, Q, w, a, hl, h => top_plain hP hl h

theorem leaves_marks {fn : Func} {tmps : Array Value} {RR : Ending → World → Prop} : ∀ {ms : List Nat} {w : World}, EndM ms w (fun w' => ∃ v, (results fn tmps).run P w' = .ok v w' ∧ RR (.returned v) w') → LeavesInM Fence.wide 0 P fn tmps RR (marksOf ms) .returning w
  | [], w, h => h
  | D :: ms, w, h => ⟨by simp, .inl ⟨D, _, rfl, run_takeDeferred h.1, leaves_marks h.2⟩⟩

theorem EndM.mono : ∀ {ms : List Nat} {w : World} {K K' : World → Prop}, EndM ms w K → (∀ w, K w → K' w) → EndM ms w K'
  | [], w, K, K', h, hk => hk _ h
  | D :: ms, w, K, K', h, hk => ⟨h.1, EndM.mono h.2 hk⟩

/-- **A function whose formula holds returns.** -/
theorem dFuncM_sound (hP : OkP P) {f : FuncId} {fn : Func} {args : List Value} {K : Value → World → Prop} {w : World} (hf : P.funcs[f]? = some fn)
    (h : dFuncM P H R fn args K w) : Calls P f args.toArray w fun e w' => ∃ v, e = .returned v ∧ K v w' := by
  unfold dFuncM at h
  split at h
  · exact h.elim
  · rename_i c hc
    cases hb : Nat.ble args.length fn.ntmps with
    | false => rw [hb] at h; exact h.elim
    | true =>
      rw [hb] at h
      simp only [cond_true] at h
      have hle : args.length ≤ fn.ntmps := Nat.le_of_ble_eq_true hb
      refine (callsIn_wide (n := 0)).1 (callsIn_of_wp_marks hf hc trivial (wpIn_wide.2 ?_))
      have hl : EnvOk [] fn.ntmps ⟨args.toArray ++ Array.replicate (fn.ntmps - args.toArray.size) undef, []⟩ (initEnv 0 args) := by
        refine ⟨by simp; omega, rfl, fun t v ht => ?_⟩
        obtain ⟨_, h2⟩ := gt_initEnv ht
        simp only [Nat.sub_zero] at h2
        have hlt := (List.getElem?_eq_some_iff.1 h2).1
        rw [Array.getElem?_append_left (by simpa using hlt)]
        simpa using h2
      refine wp_mono (dTop_sound hP c hl h) ?_
      rintro e a' w' ⟨ms, l', hl', hq⟩
      have hdef : a'.defers = marksOf ms := by rw [hl'.defers, List.append_nil]
      have fin : EndM ms w' (fun w'' => dResults P l' w'' fn.results.toList (fun vs => K (mkRes vs) w'')) → LeavesInM Fence.wide 0 P fn a'.tmps (fun e w' => ∃ v, e = .returned v ∧ K v w') a'.defers .returning w' := by
        intro hr
        rw [hdef]
        refine leaves_marks (hr.mono fun w'' hr => ?_)
        obtain ⟨vs, hv, hK⟩ := of_dResults hl' hr
        refine ⟨mkRes vs, ?_, mkRes vs, rfl, hK⟩
        rw [results_eq, Array.mapM_eq_mapM_toList]
        simp only [Sem.run_bind, Sem.run_map, hv, Result.andThen_ok, Sem.run_pure]
        congr 1
        unfold mkRes
        split
        · rename_i h1
          have hlen : vs.length = 1 := by simpa using h1
          match vs, hlen with
          | [v], _ => rfl
        · rename_i h1
          have hlen : vs.length ≠ 1 := by simpa using h1
          match vs, hlen with
          | [], _ => rfl
          | _ :: _ :: _, _ => rfl
      cases e with
      | normal => exact fin hq
      | ret => exact fin hq
      | _ => exact hq.elim

/-- The same, in the form of a call. -/
theorem callK_ofM (hP : OkP P) {f : FuncId} {fn : Func} {args : List Value} {shs : List Sh} {RR : Fn (kdsOf shs) (World → Prop)} {w : World} (hf : P.funcs[f]? = some fn)
    (h : dFuncM P H R fn args (fun v w' => viewRet shs v RR w') w) : CallK P f args shs w RR := dFuncM_sound hP hf h
end
end Go.Den
