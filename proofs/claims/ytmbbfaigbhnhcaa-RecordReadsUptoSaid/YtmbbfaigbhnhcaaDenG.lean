/-
  A denotation of the model's code as one formula for each function. Part G: code and functions; soundness.
-/
import Derived.Test.YtmbbfaigbhnhcaaDenS
set_option linter.unusedSimpArgs false
set_option linter.unusedVariables false
namespace Go.Den
variable {ds : List Deferred}

/-- May the operation be reckoned although its guard is open? -/
def pureOp (P : Program) (op : Op) : Bool :=
  match op with
  | .move _ | .pick _ _ _ | .unOp _ _ _ | .extract _ _ => true
  | .binOp o t _ y _ =>
    match o with
    | .quo | .rem | .shl | .shr => false
    | _ => match P.underlying t with
      | some (.int _) | some .bool => true
      | some .string => match o with
        | .add => false
        | _ => true
      | some (.pointer _) | some (.slice _) | some (.map _ _) => isConst y
      | _ => false
  | .call c => match c.callee, c.argTypes.toList with
    | .builtin .len, [t] => match P.underlying t with
      | some (.slice _) | some .string => true
      | _ => false
    | _, _ => false
  | .convert src dst _ => match P.underlying src, P.underlying dst with
    | some (.int _), some (.int _) => true
    | _, _ => false
  | _ => false

def splits (P : Program) (ops : Array Oper) : Bool := ops.toList.any fun o => o.guard.isSome && !pureOp P o.op

def dRegion (P : Program) (N : Nat) (ops : Array Oper) (draw : Bool) (l : Env) (w : World) (K : Env → World → Prop) : Prop :=
  match draw with
  | false => dOps P N ops (splits P ops) (textIts 0 ops.toList) l [] [] w K
  | true => cond (mixOk P ops) (dOps P N ops (splits P ops) (drawIts P ops) l [] [] w.drew K)
      (cond (flOk P ops) (dFl P N ops (splits P ops) (allRows P ops) (flItems P ops) 0 (waitOf (allRows P ops) (flsOf (allRows P ops))) [] l [] [] w.drew K)
      (cond (treeOk P ops) (dTr P N ops (splits P ops) (trRows P ops) (trOf P ops) l [] [] w.drew K) False))

/-- Which variables a loop or a meeting of ways speaks of, and which are kept as they are. -/
structure Hint where
  mods : List (Nat × Kd)
  keep : List Nat

structure Hints where
  loops : List (Nat × Hint)
  joins : List (Nat × Hint)

def findH : List (Nat × Hint) → Nat → Option Hint
  | [], _ => none
  | (k, h) :: r, n => cond (Nat.beq k n) (some h) (findH r n)

def firstReg : Code → Option Nat
  | .region id _ _ => some id
  | .seq a b => match firstReg a with
    | some r => some r
    | none => firstReg b
  | .cond _ a b => match firstReg a with
    | some r => some r
    | none => firstReg b
  | .block _ c => firstReg c
  | .loop c => firstReg c
  | .scope c => firstReg c
  | _ => none

def hintAt (hs : List (Nat × Hint)) (c : Code) : Option Hint :=
  match hs with
  | [] => none
  | h :: t => match firstReg c with
    | some r => findH (h :: t) r
    | none => none

def writes : Code → List Nat
  | .region _ ops _ => dstsOf ops.toList
  | .seq a b => writes a ++ writes b
  | .cond _ a b => writes a ++ writes b
  | .block _ c => writes c
  | .loop c => writes c
  | _ => []

def keepEnv (l : Env) : List Nat → Option Env
  | [] => some []
  | t :: r => match gt l t, keepEnv l r with
    | some (some v), some e => some ((t, some v) :: e)
    | _, _ => none

def getVals (l : Env) : List Nat → Option (List Value)
  | [] => some []
  | t :: r => match gt l t, getVals l r with
    | some (some v), some e => some (v :: e)
    | _, _ => none

def zipEnv : List (Nat × Kd) → List Value → Env
  | (t, _) :: r, v :: vs => (t, some v) :: zipEnv r vs
  | _, _ => []

def kept (c : Code) (ts : List Nat) : Bool := ts.all fun t => !((writes c).any (Nat.beq t))

def dCode (P : Program) (N : Nat) (H : Hints) : Code → Env → (Exit → Env → World → Prop) → World → Prop
  | .skip, l, Q, w => Q .normal l w
  | .label _, l, Q, w => Q .normal l w
  | .region _ ops draw, l, Q, w => dRegion P N ops draw l w fun l' w' => Q .normal l' w'
  | .seq a b, l, Q, w =>
    match hintAt H.joins b with
    | none => dCode P N H a l (fun e l' w' => match e with
      | .normal => dCode P N H b l' Q w'
      | e => Q e l' w') w
    | some h => cond (kept a h.keep) (match keepEnv l h.keep with
      | none => False
      | some kl => ∃ J : Fn (h.mods.map (·.2)) (World → Prop),
          dCode P N H a l (fun e l' w' => match e with
            | .normal => match getVals l' (h.mods.map (·.1)) with
              | some vs => viewL (h.mods.map (·.2)) vs (fun r => r w') J
              | none => False
            | e => Q e l' w') w ∧
          allK (h.mods.map (·.2)) J fun vs r => ∀ w', r w' → dCode P N H b (zipEnv h.mods vs ++ kl) Q w') False
  | .cond c x y, l, Q, w =>
    match look l [] [] c with
    | some (.bool b) => if b = true then dCode P N H x l Q w else dCode P N H y l Q w
    | _ => False
  | .block id c, l, Q, w => dCode P N H c l (fun e l' w' => match e with
      | .exit id' => cond (Nat.beq id' id) (Q .normal l' w') (Q (.exit id') l' w')
      | e => Q e l' w') w
  | .loop c, l, Q, w =>
    match hintAt H.loops c with
    | none => False
    | some h => cond (kept c h.keep) (match keepEnv l h.keep, getVals l (h.mods.map (·.1)) with
      | some kl, some vs0 => ∃ Inv : Fn (h.mods.map (·.2)) (Nat → World → Prop),
          viewL (h.mods.map (·.2)) vs0 (fun r => ∃ n, r n w) Inv ∧
          allK (h.mods.map (·.2)) Inv fun vs r => ∀ n w', r n w' →
            dCode P N H c (zipEnv h.mods vs ++ kl) (fun e l' w'' => match e with
              | .normal => match getVals l' (h.mods.map (·.1)) with
                | some vs' => viewL (h.mods.map (·.2)) vs' (fun r' => ∃ n', n' < n ∧ r' n' w'') Inv
                | none => False
              | e => Q e l' w'') w'
      | _, _ => False) False
  | .exit id, l, Q, w => Q (.exit id) l w
  | .ret, l, Q, w => Q .ret l w
  | _, _, _, _ => False

def dResults (P : Program) (l : Env) (w : World) : List ResultVar → (List Value → Prop) → Prop
  | [], K => K []
  | .tmp t :: r, K => match gt l t with
    | some (some v) => dResults P l w r fun vs => K (v :: vs)
    | _ => False
  | .cell t ty :: r, K => match gt l t with
    | some (some (.pointer p)) => NN p fun a => dLoad P ty w a fun v => dResults P l w r fun vs => K (v :: vs)
    | _ => False

def initEnv : Nat → List Value → Env
  | _, [] => []
  | i, v :: vs => (i, some v) :: initEnv (i + 1) vs

/-- A function's body, at its arguments. -/
def dFunc (P : Program) (H : Hints) (fn : Func) (args : List Value) (K : Value → World → Prop) (w : World) : Prop :=
  match fn.body with
  | none => False
  | some c => cond (Nat.ble args.length fn.ntmps) (dCode P fn.ntmps H c (initEnv 0 args) (fun e l w' => match e with
      | .normal => dResults P l w' fn.results.toList fun vs => K (mkRes vs) w'
      | .ret => dResults P l w' fn.results.toList fun vs => K (mkRes vs) w'
      | _ => False) w) False

section
variable {P : Program} {N : Nat} {H : Hints}

theorem FlOk.nil {a : Act} : FlOk a [] := fun _ h => by cases h

theorem textIts_o : ∀ (i : Nat) (os : List Oper), (textIts i os).map (·.o) = os
  | _, [] => rfl
  | i, o :: r => by simp [textIts, textIts_o (i + 1) r]

theorem dRegion_list (hP : OkP P) {ops : Array Oper} {l : Env} {w : World} {a : Act} {K : Env → World → Prop} (hl : EnvOk ds N a l)
    (h : dRegion P N ops false l w K) : wpList P ops (fun e a' w' => e = .normal ∧ Off (dstsOf ops.toList) a a' ∧ ∃ l', EnvOk ds N a' l' ∧ K l' w') ops.toList a w := by
  unfold dRegion at h
  simp only at h
  have := dOps_list (Q := fun e a' w' => e = .normal ∧ Off (dstsOf ops.toList) a a' ∧ ∃ l', EnvOk ds N a' l' ∧ K l' w') hP (textIts 0 ops.toList) hl FlOk.nil h (by
    intro a' l' w' ho hl' hK
    refine ⟨rfl, ho.mono ?_, l', hl', hK⟩
    intro t ht
    have e : dstsIt (textIts 0 ops.toList) = dstsOf ops.toList := by
      conv => rhs; rw [← textIts_o 0 ops.toList]
      simp [dstsIt, dstsOf, List.filterMap_map, Function.comp_def]
    rw [← e]; exact ht)
  rw [textIts_o] at this
  exact this

theorem dRegion_any (hP : OkP P) {ops : Array Oper} {l : Env} {w : World} {a : Act} {K : Env → World → Prop} (hl : EnvOk ds N a l)
    (h : dRegion P N ops true l w K) : wpAny P .any ops (fun e a' w' => e = .normal ∧ Off (dstsOf ops.toList) a a' ∧ ∃ l', EnvOk ds N a' l' ∧ K l' w') ops.size (Array.replicate ops.size false) a { w with drawn := w.drawn + 1 } := by
  unfold dRegion at h
  simp only at h
  cases hb : mixOk P ops with
  | false =>
    rw [hb] at h
    simp only [cond_false] at h
    cases hf : flOk P ops with
    | true =>
      rw [hf] at h
      simp only [cond_true] at h
      refine wpAny_of_E (as := ancL ops.toList []) (C := []) _ _ _ _ ?_
      have := dFl_region hP hf (Q := fun e a' w' => e = .normal ∧ Off (dstsOf ops.toList) a a' ∧ ∃ l', EnvOk ds N a' l' ∧ K l' w') (fun c a w hq => by cases hq.1) hl (fun a' l' w' ho hl' hK => ⟨rfl, ho, l', hl', hK⟩) h
      rw [bitsA_zero] at this
      exact this
    | false =>
    rw [hf] at h
    simp only [cond_false] at h
    cases ht : treeOk P ops with
    | false => rw [ht] at h; exact h.elim
    | true =>
      rw [ht] at h
      simp only [cond_true] at h
      unfold treeOk at ht
      simp only [Bool.and_eq_true] at ht
      obtain ⟨⟨ht1, ht2⟩, ht3⟩ := ht
      refine wpAny_of_E (as := ancL ops.toList []) (C := []) _ _ _ _ ?_
      have := (dTr_mix hP ht1 (Q := fun e a' w' => e = .normal ∧ Off (dstsOf ops.toList) a a' ∧ ∃ l', EnvOk ds N a' l' ∧ K l' w') (fun c a w hq => by cases hq.1) _ rfl
        (trRows P ops) rfl (a0 := a) (K := K) (fun a' l' w' ho hl' hK => ⟨rfl, ho, l', hl', hK⟩) (trOf P ops) true 0 ops.size (Nat.le_of_ble_eq_true ht2)
        (fun j hj => by simp at hj) (fun _ hx => (by cases hx)) ht3 hl FlOk.nil (Off.refl _ _) h).1 rfl
      rw [bitsA_zero] at this
      exact this
  | true =>
    rw [hb] at h
    simp only [cond_true] at h
    unfold mixOk at hb
    simp only [Bool.and_eq_true] at hb
    obtain ⟨⟨hb1, hb2⟩, hb3⟩ := hb
    refine wpAny_of_E (as := ancL ops.toList []) (C := []) _ _ _ _ ?_
    have := dOps_mix hP hb1 (Q := fun e a' w' => e = .normal ∧ Off (dstsOf ops.toList) a a' ∧ ∃ l', EnvOk ds N a' l' ∧ K l' w') (fun c a w hq => by cases hq.1) _ rfl
      (canonOf (rowsOf P 0 ops.toList (ancL ops.toList []))) 0 (fun x hx => canonOf_mem hx) (fun j hj => by simp at hj) (fun _ hx => (by cases hx)) hb3 hl FlOk.nil h (by
        intro a' l' w' ho hl' hK
        refine ⟨rfl, ho.mono ?_, l', hl', hK⟩
        intro t ht
        simp only [dstsIt, List.mem_filterMap, List.mem_map] at ht
        obtain ⟨it, ⟨x, hx, rfl⟩, hd⟩ := ht
        obtain ⟨jj, h1, _⟩ := rowsOf_mem (canonOf_mem hx)
        simp only [dstsOf, List.mem_filterMap]
        exact ⟨x.o, List.mem_of_getElem? h1, hd⟩)
    rw [bitsA_zero, Nat.eq_of_beq_eq_true hb2] at this
    exact this

theorem wp_dRegion (hP : OkP P) {id : Nat} {ops : Array Oper} {draw : Bool} {l : Env} {w : World} {a : Act} {K : Env → World → Prop} (hl : EnvOk ds N a l)
    (h : dRegion P N ops draw l w K) : (Code.region id ops draw).wp P (fun e a' w' => e = .normal ∧ Off (dstsOf ops.toList) a a' ∧ ∃ l', EnvOk ds N a' l' ∧ K l' w') a w := by
  cases draw with
  | false => exact wp_region_list (dRegion_list hP hl h)
  | true => exact wp_region_any hP.mixed (dRegion_any hP hl h)

theorem gt_all {l : Env} {a : Act} (h : ∀ t v, (t, some v) ∈ l → a.tmps[t]? = some v) : ∀ t v, gt l t = some (some v) → a.tmps[t]? = some v := by
  induction l with
  | nil => intro t v hg; simp [gt] at hg
  | cons x r ih =>
    intro t v hg
    obtain ⟨j, u⟩ := x
    simp only [gt] at hg
    cases hb : Nat.beq j t with
    | true =>
      rw [hb] at hg
      simp only [cond_true, Option.some.injEq] at hg
      subst hg
      rw [← Nat.eq_of_beq_eq_true hb]
      exact h j v (by simp)
    | false => rw [hb] at hg; exact ih (fun t v ht => h t v (by simp [ht])) t v hg

theorem mem_keepEnv {l : Env} : ∀ {ts : List Nat} {kl : Env}, keepEnv l ts = some kl → ∀ t v, (t, some v) ∈ kl → t ∈ ts ∧ gt l t = some (some v)
  | [], kl, h, t, v, hm => by simp only [keepEnv, Option.some.injEq] at h; subst h; cases hm
  | x :: r, kl, h, t, v, hm => by
    simp only [keepEnv] at h
    split at h
    · rename_i u e hg hk
      simp only [Option.some.injEq] at h
      subst h
      rcases List.mem_cons.1 hm with hm | hm
      · simp only [Prod.mk.injEq, Option.some.injEq] at hm
        obtain ⟨rfl, rfl⟩ := hm
        exact ⟨by simp, hg⟩
      · obtain ⟨h1, h2⟩ := mem_keepEnv hk t v hm
        exact ⟨by simp [h1], h2⟩
    · cases h

theorem mem_zipEnv {a : Act} {l : Env} (hl : ∀ t v, gt l t = some (some v) → a.tmps[t]? = some v) : ∀ {ms : List (Nat × Kd)} {vs : List Value}, getVals l (ms.map (·.1)) = some vs →
    ∀ t v, (t, some v) ∈ zipEnv ms vs → a.tmps[t]? = some v
  | [], vs, h, t, v, hm => by simp [zipEnv] at hm
  | (x, k) :: r, vs, h, t, v, hm => by
    simp only [List.map_cons, getVals] at h
    split at h
    · rename_i u e hg hk
      simp only [Option.some.injEq] at h
      subst h
      simp only [zipEnv] at hm
      rcases List.mem_cons.1 hm with hm | hm
      · simp only [Prod.mk.injEq, Option.some.injEq] at hm
        obtain ⟨rfl, rfl⟩ := hm
        exact hl _ _ hg
      · exact mem_zipEnv hl hk t v hm
    · cases h

theorem of_kept {c : Code} {ts : List Nat} (h : kept c ts = true) : ∀ t ∈ ts, t ∉ writes c := by
  intro t ht hw
  have := List.all_eq_true.1 h t ht
  simp only [Bool.not_eq_true'] at this
  have h2 : (writes c).any (Nat.beq t) = true := List.any_eq_true.2 ⟨t, hw, by simp⟩
  rw [h2] at this
  cases this

theorem env_again {a a' : Act} {l l' kl : Env} {h : Hint} {vs : List Value} {c : Code} (hl : EnvOk ds N a l) (hl' : EnvOk ds N a' l') (ho : Off (writes c) a a') (hk : kept c h.keep = true)
    (hkl : keepEnv l h.keep = some kl) (hv : getVals l' (h.mods.map (·.1)) = some vs) : EnvOk ds N a' (zipEnv h.mods vs ++ kl) := by
  refine ⟨hl'.size, hl'.defers, gt_all ?_⟩
  intro t v hm
  rcases List.mem_append.1 hm with hm | hm
  · exact mem_zipEnv hl'.at' hv t v hm
  · obtain ⟨h1, h2⟩ := mem_keepEnv hkl t v hm
    rw [ho t (of_kept hk t h1)]
    exact hl.at' t v h2

def Post (ds : List Deferred) (N : Nat) (ws : List Nat) (a : Act) (Q : Exit → Env → World → Prop) : Exit → Act → World → Prop :=
  fun e a' w' => Off ws a a' ∧ ∃ l', EnvOk ds N a' l' ∧ Q e l' w'

theorem dCode_sound (hP : OkP P) : ∀ (c : Code) {l : Env} {Q : Exit → Env → World → Prop} {w : World} {a : Act}, EnvOk ds N a l → dCode P N H c l Q w →
    c.wp P (Post ds N (writes c) a Q) a w
  | .skip, l, Q, w, a, hl, h => wp_skip ⟨Off.refl _ _, l, hl, h⟩
  | .label _, l, Q, w, a, hl, h => wp_label ⟨Off.refl _ _, l, hl, h⟩
  | .region id ops draw, l, Q, w, a, hl, h => by
    refine wp_mono (wp_dRegion hP hl h) ?_
    rintro e a' w' ⟨rfl, ho, l', hl', hK⟩
    exact ⟨ho, l', hl', hK⟩
  | .seq x y, l, Q, w, a, hl, h => by
    have ihx := fun {l Q w a} => dCode_sound hP x (l := l) (Q := Q) (w := w) (a := a)
    have ihy := fun {l Q w a} => dCode_sound hP y (l := l) (Q := Q) (w := w) (a := a)
    unfold dCode at h
    refine wp_seq ?_
    split at h
    · refine wp_mono (ihx hl h) ?_
      rintro e a' w' ⟨ho, l', hl', hq⟩
      have hox : Off (writes (.seq x y)) a a' := ho.mono fun t ht => by simp [writes, ht]
      cases e with
      | normal =>
        refine wp_mono (ihy hl' hq) ?_
        rintro e a'' w'' ⟨ho', l'', hl'', hq'⟩
        exact ⟨hox.trans (ho'.mono fun t ht => by simp [writes, ht]), l'', hl'', hq'⟩
      | _ => exact ⟨hox, l', hl', hq⟩
    · rename_i hh _
      cases hb : kept x hh.keep with
      | false => rw [hb] at h; exact h.elim
      | true =>
        rw [hb] at h
        simp only [cond_true] at h
        split at h
        · exact h.elim
        · rename_i kl hkl
          obtain ⟨J, h1, h2⟩ := h
          refine wp_mono (ihx hl h1) ?_
          rintro e a' w' ⟨ho, l', hl', hq⟩
          have hox : Off (writes (.seq x y)) a a' := ho.mono fun t ht => by simp [writes, ht]
          cases e with
          | normal =>
            simp only at hq
            split at hq
            · rename_i vs hvs
              obtain ⟨r, hr, hb2⟩ := of_viewL hq h2
              refine wp_mono (ihy (env_again hl hl' ho hb hkl hvs) (hb2 w' hr)) ?_
              rintro e a'' w'' ⟨ho', l'', hl'', hq'⟩
              exact ⟨hox.trans (ho'.mono fun t ht => by simp [writes, ht]), l'', hl'', hq'⟩
            · exact hq.elim
          | _ => exact ⟨hox, l', hl', hq⟩
  | .cond c x y, l, Q, w, a, hl, h => by
    have ihx := fun {l Q w a} => dCode_sound hP x (l := l) (Q := Q) (w := w) (a := a)
    have ihy := fun {l Q w a} => dCode_sound hP y (l := l) (Q := Q) (w := w) (a := a)
    unfold dCode at h
    split at h
    · rename_i b hb
      have he := of_look hl FlOk.nil holds_nil c _ hb
      refine wp_cond he ?_
      cases b with
      | true =>
        simp only [if_true] at h ⊢
        refine wp_mono (ihx hl h) ?_
        rintro e a' w' ⟨ho, r⟩
        exact ⟨ho.mono fun t ht => by simp [writes, ht], r⟩
      | false =>
        simp only [Bool.false_eq_true, if_false] at h ⊢
        refine wp_mono (ihy hl h) ?_
        rintro e a' w' ⟨ho, r⟩
        exact ⟨ho.mono fun t ht => by simp [writes, ht], r⟩
    · exact h.elim
  | .block id c, l, Q, w, a, hl, h => by
    have ih := fun {l Q w a} => dCode_sound hP c (l := l) (Q := Q) (w := w) (a := a)
    unfold dCode at h
    refine wp_block (wp_mono (ih hl h) ?_)
    rintro e a' w' ⟨ho, l', hl', hq⟩
    cases e with
    | exit id' =>
      simp only [Exit.inBlock]
      simp only at hq
      by_cases hid : id' = id
      · rw [if_pos hid]
        have : Nat.beq id' id = true := by rw [hid]; simp
        rw [this] at hq
        exact ⟨ho, l', hl', hq⟩
      · rw [if_neg hid]
        have : Nat.beq id' id = false := by
          cases hb : Nat.beq id' id with
          | false => rfl
          | true => exact absurd (Nat.eq_of_beq_eq_true hb) hid
        rw [this] at hq
        exact ⟨ho, l', hl', hq⟩
    | _ => exact ⟨ho, l', hl', hq⟩
  | .loop c, l, Q, w, a, hl, h => by
    have ih := fun {l Q w a} => dCode_sound hP c (l := l) (Q := Q) (w := w) (a := a)
    unfold dCode at h
    split at h
    · exact h.elim
    · rename_i hh _
      cases hb : kept c hh.keep with
      | false => rw [hb] at h; exact h.elim
      | true =>
        rw [hb] at h
        simp only [cond_true] at h
        split at h
        · rename_i kl vs0 hkl hvs0
          obtain ⟨Inv, h1, h2⟩ := h
          have start : ∃ (n : Nat) (vs : List Value) (r : Nat → World → Prop), getVals l (hh.mods.map (·.1)) = some vs ∧ r n w ∧ (∀ n w', r n w' → dCode P N H c (zipEnv hh.mods vs ++ kl) (fun e l' w'' => match e with
              | .normal => match getVals l' (hh.mods.map (·.1)) with
                | some vs' => viewL (hh.mods.map (·.2)) vs' (fun r' => ∃ n', n' < n ∧ r' n' w'') Inv
                | none => False
              | e => Q e l' w'') w') := by
            obtain ⟨r, ⟨n, hr⟩, hB⟩ := of_viewL h1 h2
            exact ⟨n, vs0, r, hvs0, hr, hB⟩
          obtain ⟨n0, vs, r0, hvs, hr0, hB0⟩ := start
          refine wp_loop_ghost (fun n a' w' => Off (writes c) a a' ∧ ∃ (l' : Env) (vs : List Value) (r : Nat → World → Prop), EnvOk ds N a' l' ∧ getVals l' (hh.mods.map (·.1)) = some vs ∧ r n w' ∧
              (∀ n w', r n w' → dCode P N H c (zipEnv hh.mods vs ++ kl) (fun e l' w'' => match e with
              | .normal => match getVals l' (hh.mods.map (·.1)) with
                | some vs' => viewL (hh.mods.map (·.2)) vs' (fun r' => ∃ n', n' < n ∧ r' n' w'') Inv
                | none => False
              | e => Q e l' w'') w')) n0 ⟨Off.refl _ _, l, vs, r0, hl, hvs, hr0, hB0⟩ ?_
          rintro n a1 w1 ⟨ho, l1, vs1, r1, hl1, hvs1, hr1, hB1⟩
          refine wp_mono (ih (env_again hl hl1 ho hb hkl hvs1) (hB1 n w1 hr1)) ?_
          rintro e a' w' ⟨ho', l', hl', hq⟩
          cases e with
          | normal =>
            simp only at hq
            split at hq
            · rename_i vs' hvs'
              obtain ⟨r', ⟨n', hlt, hr'⟩, hB'⟩ := of_viewL hq h2
              exact ⟨n', hlt, ho.trans ho', l', vs', r', hl', hvs', hr', hB'⟩
            · exact hq.elim
          | _ => exact ⟨ho.trans ho', l', hl', hq⟩
        · exact h.elim
  | .exit id, l, Q, w, a, hl, h => wp_exit ⟨Off.refl _ _, l, hl, h⟩
  | .ret, l, Q, w, a, hl, h => wp_ret ⟨Off.refl _ _, l, hl, h⟩
  | .rangeFunc _ _ _ _, _, _, _, _, _, h => h.elim
  | .scope _, _, _, _, _, _, h => h.elim
  | .goto _, _, _, _, _, _, h => h.elim
  | .refuse _, _, _, _, _, _, h => h.elim

theorem gt_initEnv : ∀ {vs : List Value} {i t : Nat} {v : Value}, gt (initEnv i vs) t = some (some v) → i ≤ t ∧ vs[t - i]? = some v
  | [], i, t, v, h => by simp [initEnv, gt] at h
  | u :: vs, i, t, v, h => by
    simp only [initEnv, gt] at h
    cases hb : Nat.beq i t with
    | true =>
      rw [hb] at h
      simp only [cond_true, Option.some.injEq] at h
      have := Nat.eq_of_beq_eq_true hb
      subst this
      simp [h]
    | false =>
      rw [hb] at h
      obtain ⟨h1, h2⟩ := gt_initEnv h
      refine ⟨by omega, ?_⟩
      rw [show t - i = (t - (i + 1)) + 1 by omega]
      simpa using h2

def resF (tmps : Array Value) : ResultVar → Sem Value
  | .tmp t => pure (tmps.getD t undef)
  | .cell x t => do loadVar t (← asAddr (tmps.getD x undef))

theorem results_eq (fn : Func) (tmps : Array Value) :
    results fn tmps = (do let vs ← fn.results.mapM (resF tmps); pure (if h : vs.size = 1 then vs[0] else .tuple vs)) := by
  unfold results
  congr 1

theorem of_dResults {a : Act} {l : Env} {w : World} (hl : EnvOk ds N a l) : ∀ {rs : List ResultVar} {K : List Value → Prop}, dResults P l w rs K →
    ∃ vs, (rs.mapM (resF a.tmps)).run P w = .ok vs w ∧ K vs
  | [], K, h => ⟨[], by simp, h⟩
  | .tmp t :: r, K, h => by
    simp only [dResults] at h
    split at h
    · rename_i v hv
      obtain ⟨vs, hr, hK⟩ := of_dResults hl h
      have := hl.at' _ _ hv
      have h1 : (resF a.tmps (.tmp t)).run P w = .ok v w := by simp [resF, this]
      exact ⟨v :: vs, by simp only [List.mapM_cons, Sem.run_bind, h1, Result.andThen_ok, hr, Sem.run_pure], hK⟩
    · exact h.elim
  | .cell t ty :: r, K, h => by
    simp only [dResults] at h
    split at h
    · rename_i p hv
      obtain ⟨ad, rfl, h1⟩ := of_NN h
      obtain ⟨v, hfp1, hv1, h2⟩ := of_dLoad h1
      obtain ⟨vs, hr, hK⟩ := of_dResults hl h2
      have := hl.at' _ _ hv
      have h1 : (resF a.tmps (.cell t ty)).run P w = .ok v w := by simp [resF, this, asAddr, hv1 w hfp1]
      exact ⟨v :: vs, by simp only [List.mapM_cons, Sem.run_bind, h1, Result.andThen_ok, hr, Sem.run_pure], hK⟩
    · exact h.elim

/-- **A function whose formula holds returns.** -/
theorem dFunc_sound (hP : OkP P) {f : FuncId} {fn : Func} {args : List Value} {K : Value → World → Prop} {w : World} (hf : P.funcs[f]? = some fn)
    (h : dFunc P H fn args K w) : Calls P f args.toArray w fun e w' => ∃ v, e = .returned v ∧ K v w' := by
  unfold dFunc at h
  split at h
  · exact h.elim
  · rename_i c hc
    cases hb : Nat.ble args.length fn.ntmps with
    | false => rw [hb] at h; exact h.elim
    | true =>
      rw [hb] at h
      simp only [cond_true] at h
      have hle : args.length ≤ fn.ntmps := Nat.le_of_ble_eq_true hb
      refine calls_of_wp hf hc ?_
      have hl : EnvOk [] fn.ntmps ⟨args.toArray ++ Array.replicate (fn.ntmps - args.toArray.size) undef, []⟩ (initEnv 0 args) := by
        refine ⟨by simp; omega, rfl, fun t v ht => ?_⟩
        obtain ⟨_, h2⟩ := gt_initEnv ht
        simp only [Nat.sub_zero] at h2
        have hlt := (List.getElem?_eq_some_iff.1 h2).1
        rw [Array.getElem?_append_left (by simpa using hlt)]
        simpa using h2
      refine wp_mono (dCode_sound hP c hl h) ?_
      rintro e a' w' ⟨_, l', hl', hq⟩
      have fin : dResults P l' w' fn.results.toList (fun vs => K (mkRes vs) w') → a'.defers = [] ∧ ∃ v, (results fn a'.tmps).run P w' = .ok v w' ∧ ∃ v', Ending.returned v = .returned v' ∧ K v' w' := by
        intro hr
        obtain ⟨vs, hv, hK⟩ := of_dResults hl' hr
        refine ⟨hl'.defers, mkRes vs, ?_, mkRes vs, rfl, hK⟩
        rw [results_eq, Array.mapM_eq_mapM_toList]
        simp only [Sem.run_bind, Sem.run_map, hv, Result.andThen_ok, Sem.run_pure]
        congr 1
        unfold mkRes
        split
        · rename_i h1
          have hlen : vs.length = 1 := by simpa using h1
          match vs, hlen with
          | [v], _ => rfl
        · rename_i h1
          have hlen : vs.length ≠ 1 := by simpa using h1
          match vs, hlen with
          | [], _ => rfl
          | _ :: _ :: _, _ => rfl
      cases e with
      | normal => exact fin hq
      | ret => exact fin hq
      | _ => exact hq.elim

/-- The same, in the form of a call. -/
theorem callK_of (hP : OkP P) {f : FuncId} {fn : Func} {args : List Value} {shs : List Sh} {R : Fn (kdsOf shs) (World → Prop)} {w : World} (hf : P.funcs[f]? = some fn)
    (h : dFunc P H fn args (fun v w' => viewRet shs v R w') w) : CallK P f args shs w R := dFunc_sound hP hf h

end
end Go.Den
