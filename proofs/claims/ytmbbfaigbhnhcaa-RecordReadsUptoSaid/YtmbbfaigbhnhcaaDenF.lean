/-
  A denotation of the model's code as one formula for each function. Part F: rows of operations, code, functions; soundness.
-/
import Derived.Test.YtmbbfaigbhnhcaaDenE
import Derived.Deep.LoopGhost
import Derived.OrdersHeld
set_option linter.unusedSimpArgs false
set_option linter.unusedVariables false
namespace Go.Den

def flFree (fl : FEnv) (d : Nat) : Bool := fl.all fun x => !(Nat.beq x.1 d) && x.2.1.all fun g => !(Nat.beq g.1 d)

def putK (N : Nat) (fl : FEnv) (dst : Option Nat) (l : Env) (v : Value) (K : Env → Prop) : Prop :=
  match dst with
  | none => K l
  | some d => cond (Nat.blt d N && flFree fl d) (K ((d, some v) :: l)) False

/-- Cells that are held to be as they were: which operation read them, where, what. -/
abbrev CEnv := List (Nat × Hold)

/-- An operation, its number, and (where the order is open) whom it waits for. -/
structure It where
  o : Oper
  idx : Nat
  anc : Option Nat

def addC (it : It) (fp : List Hold) (C : CEnv) : CEnv :=
  match it.anc with
  | none => C
  | some _ => fp.map (fun x => (it.idx, x)) ++ C

def keepL (m : Nat) (w : World) (K : Prop) : CEnv → Prop
  | [] => K
  | (k, h) :: r => cond (Nat.testBit m k) (keepL m w K r) (holdAt w h ∧ keepL m w K r)

def keepC (it : It) (C : CEnv) (w : World) (K : Prop) : Prop :=
  match it.anc with
  | none => K
  | some m => cond (isAlloc it.o.op) K (keepL m w K C)

/-- What a writing operation waits for is held no longer. -/
def dropC (it : It) (C : CEnv) : CEnv :=
  match it.anc with
  | none => C
  | some m => C.filter fun x => !Nat.testBit m x.1

/-- As dRo, with what is to be held. -/
def dRoF (P : Program) (op : Op) (ty : TypeId) (ρ : Operand → Option Value) (ρ' : Nat → Bool → Operand → Option Value) (w : World) (K : Value → List Hold → Prop) : Prop :=
  match op with
  | .load t x => match ρ x with
    | some (.pointer p) => NN p fun a => dLoad P t w a fun v => K v ((fpA P t a v).map fun x => .cell x.1 x.2)
    | _ => False
  | op => dRo P op ty ρ ρ' w fun v => K v (fpOf P ρ op v)

theorem of_dRoF {P : Program} {e : Operand → Value} {ρ : Operand → Option Value} {ρ' : Nat → Bool → Operand → Option Value} {w : World}
    (hρ : ∀ x v, ρ x = some v → e x = v) (hρ' : ∀ c b x v, e (.tmp c) = .bool b → ρ' c b x = some v → e x = v)
    {op : Op} {ty : TypeId} {K : Value → List Hold → Prop} (h : dRoF P op ty ρ ρ' w K)
    (dst : Option Tmp) (pos : String) (after : Array Edge) (g : Option (Nat × Bool)) :
    ∃ v fp, (isLoad P op = false → fp = []) ∧ (∀ x ∈ fp, holdAt w x) ∧ (∀ w', (wl P op = true ∨ (isLoad P op = false ∧ Ext w w') ∨ (isLoad P op = true ∧ ∀ x ∈ fp, holdAt w' x)) → (execOp e ⟨dst, op, ty, pos, after, g⟩).run P w' = .ok (.value v) w') ∧ K v fp := by
  have key : dRo P op ty ρ ρ' w (fun v => K v (fpOf P ρ op v)) := by
    unfold dRoF at h
    split at h
    · rename_i t x
      split at h
      · rename_i p h1
        obtain ⟨a, rfl, hK⟩ := of_NN h
        simp only [dRo, h1, NN, fpOf]
        exact hK
      · exact h.elim
    · exact h
  obtain ⟨v, h1, h2, h3⟩ := of_dRo hρ hρ' key dst pos after g
  exact ⟨v, _, fun hl => fp_nil hl, h1, h2, h3⟩

def exec1 (P : Program) (N : Nat) (it : It) (l : Env) (fl : FEnv) (C : CEnv) (w : World) (K : Env → CEnv → World → Prop) : Prop :=
  cond (dRoOk P it.o.op)
    (dRoF P it.o.op it.o.type (look l fl []) (fun c b => look l fl [(c, b)]) w fun v fp => putK N fl it.o.dst l v fun l' => K l' (addC it fp C) w)
    (dEff P it.o.op it.o.type (look l fl []) w fun v w' => keepC it C w' (putK N fl it.o.dst l v fun l' => K l' (dropC it C) w'))

def lookFlags : FEnv → Nat → Option (List (Nat × Bool))
  | [], _ => none
  | (d, G, _) :: r, t => cond (Nat.beq d t) (some G) (lookFlags r t)

def flagsOf (l : Env) (fl : FEnv) (g : Nat) : Option (List (Nat × Bool)) :=
  match gt l g with
  | some (some _) => some []
  | some none => lookFlags fl g
  | none => none

/-- One operation, and what follows. -/
def dStep (P : Program) (N : Nat) (ops : Array Oper) (split : Bool) (it : It) (l : Env) (fl : FEnv) (C : CEnv) (w : World) (G : Env → FEnv → CEnv → World → Prop) : Prop :=
    match it.o.guard with
    | none => exec1 P N it l fl C w fun l' C' w' => G l' fl C' w'
    | some (j, want) =>
      match (ops[j]?).bind (·.dst) with
      | none => False
      | some g =>
        match split with
        | true =>
          match gt l g with
          | some (some (.bool c)) =>
            if c = true then
              cond want (exec1 P N it ((g, some (.bool true)) :: l) fl C w fun l' C' w' => G l' fl C' w')
                (putK N fl it.o.dst ((g, some (.bool true)) :: l) undef fun l' => G l' fl C w)
            else
              cond want (putK N fl it.o.dst ((g, some (.bool false)) :: l) undef fun l' => G l' fl C w)
                (exec1 P N it ((g, some (.bool false)) :: l) fl C w fun l' C' w' => G l' fl C' w')
          | some (some (.tuple _)) => putK N fl it.o.dst l undef fun l' => G l' fl C w
          | _ => False
        | false =>
          match flagsOf l fl g with
          | none => False
          | some G' =>
            match pureVal P it.o.op it.o.type (look l fl ((g, want) :: G')) (fun c b => look l fl ((c, b) :: (g, want) :: G')), it.o.dst with
            | some v, some d => cond (Nat.blt d N && flFree fl d && ((g, want) :: G').all fun x => !(Nat.beq x.1 d))
                (G ((d, none) :: l) ((d, (g, want) :: G', v) :: fl) C w) False
            | _, _ => False

def dOps (P : Program) (N : Nat) (ops : Array Oper) (split : Bool) : List It → Env → FEnv → CEnv → World → (Env → World → Prop) → Prop
  | [], l, _, _, w, K => K l w
  | it :: rest, l, fl, C, w, K => dStep P N ops split it l fl C w fun l' fl' C' w' => dOps P N ops split rest l' fl' C' w' K

/-! ### Soundness of rows -/

variable {ds : List Deferred}

structure EnvOk (ds : List Deferred) (N : Nat) (a : Act) (l : Env) : Prop where
  size : a.tmps.size = N
  defers : a.defers = ds
  at' : ∀ t v, gt l t = some (some v) → a.tmps[t]? = some v

def holds (a : Act) (F : List (Nat × Bool)) : Prop := ∀ g ∈ F, a.tmps[g.1]? = some (.bool g.2)

def FlOk (a : Act) (fl : FEnv) : Prop := ∀ x ∈ fl, (holds a x.2.1 → a.tmps[x.1]? = some x.2.2) ∧ (¬ holds a x.2.1 → a.tmps[x.1]? = some undef)

def Off (ws : List Nat) (a a' : Act) : Prop := ∀ t, t ∉ ws → a'.tmps[t]? = a.tmps[t]?

theorem Off.refl (ws : List Nat) (a : Act) : Off ws a a := fun _ _ => rfl
theorem Off.trans {ws : List Nat} {a b c : Act} (h : Off ws a b) (h' : Off ws b c) : Off ws a c := fun t ht => (h' t ht).trans (h t ht)
theorem Off.mono {ws ws' : List Nat} {a b : Act} (h : Off ws a b) (hs : ∀ t, t ∈ ws → t ∈ ws') : Off ws' a b := fun t ht => h t fun hm => ht (hs t hm)

theorem put_get {a : Act} {d t : Nat} {v : Value} : (a.put (some d) v).tmps[t]? = if t = d then (if d < a.tmps.size then some v else none) else a.tmps[t]? := by
  simp only [Act.put, Array.getElem?_setIfInBounds]
  by_cases h : d = t
  · subst h; simp
  · have h' : t ≠ d := fun e => h e.symm
    simp [h, h']

theorem subF_holds {a : Act} {G F : List (Nat × Bool)} (h : subF G F = true) (hF : holds a F) : holds a G := by
  intro g hg
  have := List.all_eq_true.1 h g hg
  obtain ⟨f, hf, he⟩ := List.any_eq_true.1 this
  simp only [Bool.and_eq_true, beq_iff_eq] at he
  have h1 := hF f hf
  rw [Nat.eq_of_beq_eq_true he.1, he.2]
  exact h1

theorem of_lookF {a : Act} {F : List (Nat × Bool)} (hF : holds a F) : ∀ {fl : FEnv} {t : Nat} {v : Value}, FlOk a fl → lookF F fl t = some v → a.tmps[t]? = some v
  | [], _, _, _, h => by simp [lookF] at h
  | (d, G, u) :: r, t, v, hfl, h => by
    simp only [lookF] at h
    cases hb : Nat.beq d t with
    | true =>
      rw [hb] at h
      cases hs : subF G F with
      | true =>
        rw [hs] at h
        simp only [cond_true, Option.some.injEq] at h
        subst h
        have := (hfl (d, G, u) (by simp)).1 (subF_holds hs hF)
        rw [← Nat.eq_of_beq_eq_true hb]; exact this
      | false => rw [hs] at h; simp at h
    | false =>
      rw [hb] at h
      exact of_lookF hF (fun x hx => hfl x (by simp [hx])) h

theorem of_look {N : Nat} {a : Act} {l : Env} {fl : FEnv} {F : List (Nat × Bool)} (hl : EnvOk ds N a l) (hfl : FlOk a fl) (hF : holds a F) (x : Operand) (v : Value)
    (h : look l fl F x = some v) : a.eval x = v := by
  cases x with
  | tmp t =>
    simp only [look] at h
    have key : a.tmps[t]? = some v := by
      split at h
      · rename_i u hu
        simp only [Option.some.injEq] at h; subst h
        exact hl.at' _ _ hu
      · exact of_lookF hF hfl h
      · cases h
    simp [Act.eval, key]
  | const u => simp only [look, Option.some.injEq] at h; subst h; rfl
  | «global» g => simp only [look, Option.some.injEq] at h; subst h; rfl
  | func f => simp only [look, Option.some.injEq] at h; subst h; rfl

theorem eval_tmp_bool {a : Act} {c : Nat} {b : Bool} (h : a.eval (.tmp c) = .bool b) : a.tmps[c]? = some (.bool b) := by
  simp only [Act.eval, Array.getD_eq_getD_getElem?] at h
  cases hc : a.tmps[c]? with
  | none => rw [hc] at h; simp [undef] at h
  | some v => rw [hc] at h; simp at h; rw [h]

theorem holds_nil {a : Act} : holds a [] := fun _ h => by cases h
theorem holds_cons {a : Act} {g : Nat} {b : Bool} {F : List (Nat × Bool)} (h : a.tmps[g]? = some (.bool b)) (hF : holds a F) : holds a ((g, b) :: F) := by
  intro x hx
  rcases List.mem_cons.1 hx with rfl | hx
  · exact h
  · exact hF x hx

theorem of_flFree {fl : FEnv} {d : Nat} (h : flFree fl d = true) : ∀ x ∈ fl, x.1 ≠ d ∧ ∀ g ∈ x.2.1, g.1 ≠ d := by
  intro x hx
  have := List.all_eq_true.1 h x hx
  simp only [Bool.and_eq_true, Bool.not_eq_true'] at this
  refine ⟨fun e => by rw [e] at this; simp at this, fun g hg e => ?_⟩
  have h2 := List.all_eq_true.1 this.2 g hg
  rw [e] at h2; simp at h2

theorem holds_put {a : Act} {F : List (Nat × Bool)} {d : Nat} {v : Value} (h : ∀ g ∈ F, g.1 ≠ d) : holds (a.put (some d) v) F ↔ holds a F := by
  constructor
  · intro hh g hg
    have := hh g hg
    rw [put_get, if_neg (h g hg)] at this
    exact this
  · intro hh g hg
    rw [put_get, if_neg (h g hg)]
    exact hh g hg

theorem FlOk.put {a : Act} {fl : FEnv} {d : Nat} {v : Value} (h : FlOk a fl) (hf : flFree fl d = true) : FlOk (a.put (some d) v) fl := by
  intro x hx
  obtain ⟨h1, h2⟩ := of_flFree hf x hx
  rw [put_get, if_neg h1, holds_put h2]
  exact h x hx

theorem EnvOk.put {N : Nat} {a : Act} {l : Env} {d : Nat} {v : Value} (h : EnvOk ds N a l) (hd : d < N) : EnvOk ds N (a.put (some d) v) ((d, some v) :: l) := by
  refine ⟨by simp [Act.put, h.size], by simp [Act.put, h.defers], fun t u hu => ?_⟩
  rw [put_get]
  simp only [gt] at hu
  by_cases ht : t = d
  · subst ht
    rw [if_pos rfl, if_pos (by rw [h.size]; exact hd)]
    have : Nat.beq t t = true := by simp
    rw [this] at hu
    simpa using hu
  · rw [if_neg ht]
    have : Nat.beq d t = false := by
      cases hb : Nat.beq d t with
      | false => rfl
      | true => exact absurd (Nat.eq_of_beq_eq_true hb).symm ht
    rw [this] at hu
    exact h.at' t u hu

theorem EnvOk.putNone {N : Nat} {a : Act} {l : Env} {d : Nat} {v : Value} (h : EnvOk ds N a l) : EnvOk ds N (a.put (some d) v) ((d, none) :: l) := by
  refine ⟨by simp [Act.put, h.size], by simp [Act.put, h.defers], fun t u hu => ?_⟩
  rw [put_get]
  simp only [gt] at hu
  by_cases ht : t = d
  · subst ht
    have : Nat.beq t t = true := by simp
    rw [this] at hu
    simp at hu
  · rw [if_neg ht]
    have : Nat.beq d t = false := by
      cases hb : Nat.beq d t with
      | false => rfl
      | true => exact absurd (Nat.eq_of_beq_eq_true hb).symm ht
    rw [this] at hu
    exact h.at' t u hu

theorem EnvOk.known {N : Nat} {a : Act} {l : Env} {g : Nat} {v : Value} (h : EnvOk ds N a l) (hg : a.tmps[g]? = some v) : EnvOk ds N a ((g, some v) :: l) := by
  refine ⟨h.size, h.defers, fun t u hu => ?_⟩
  simp only [gt] at hu
  cases hb : Nat.beq g t with
  | true =>
    rw [hb] at hu
    simp only [cond_true, Option.some.injEq] at hu
    subst hu
    rw [← Nat.eq_of_beq_eq_true hb]; exact hg
  | false => rw [hb] at hu; exact h.at' t u hu

theorem of_putK {N : Nat} {fl : FEnv} {dst : Option Nat} {a : Act} {l : Env} {v : Value} {K : Env → Prop} (hl : EnvOk ds N a l) (hfl : FlOk a fl) (h : putK N fl dst l v K) :
    ∃ l', EnvOk ds N (a.put dst v) l' ∧ FlOk (a.put dst v) fl ∧ K l' := by
  unfold putK at h
  split at h
  · exact ⟨l, hl, hfl, h⟩
  · rename_i d
    cases hb : (Nat.blt d N && flFree fl d) with
    | false => rw [hb] at h; exact h.elim
    | true =>
      rw [hb] at h
      simp only [Bool.and_eq_true] at hb
      exact ⟨_, hl.put (by simpa using hb.1), hfl.put hb.2, h⟩

section
variable {P : Program} {N : Nat} {ops : Array Oper}

def keepOk (it : It) (C : CEnv) (w : World) : Prop :=
  match it.anc with
  | none => True
  | some m => ∀ x ∈ C, Nat.testBit m x.1 = false → holdAt w x.2

theorem of_keepL {m : Nat} {w : World} {K : Prop} : ∀ {C : CEnv}, keepL m w K C → (∀ x ∈ C, Nat.testBit m x.1 = false → holdAt w x.2) ∧ K
  | [], h => ⟨fun _ hx => (by cases hx), h⟩
  | (k, hd) :: r, h => by
    simp only [keepL] at h
    cases hb : Nat.testBit m k with
    | true =>
      rw [hb] at h
      obtain ⟨h1, h2⟩ := of_keepL h
      refine ⟨fun x hx hm => ?_, h2⟩
      rcases List.mem_cons.1 hx with rfl | hx
      · rw [hb] at hm; cases hm
      · exact h1 x hx hm
    | false =>
      rw [hb] at h
      obtain ⟨h0, h⟩ := h
      obtain ⟨h1, h2⟩ := of_keepL h
      refine ⟨fun x hx hm => ?_, h2⟩
      rcases List.mem_cons.1 hx with rfl | hx
      · exact h0
      · exact h1 x hx hm

theorem of_keepC {it : It} {C : CEnv} {w : World} {K : Prop} (h : keepC it C w K) : (isAlloc it.o.op = false → keepOk it C w) ∧ K := by
  obtain ⟨o, idx, anc⟩ := it
  cases anc with
  | none => exact ⟨fun _ => trivial, h⟩
  | some m =>
    simp only [keepC] at h
    cases hb : isAlloc o.op with
    | true => rw [hb] at h; exact ⟨fun hh => (by cases hh), h⟩
    | false =>
      rw [hb] at h
      obtain ⟨h1, h2⟩ := of_keepL h
      exact ⟨fun _ => h1, h2⟩

/-- The worlds in which an operation gives what it gave. -/
def OKw (P : Program) (op : Op) (fp : List Hold) (w w' : World) : Prop :=
  wl P op = true ∨ (isLoad P op = false ∧ Ext w w') ∨ (isLoad P op = true ∧ ∀ x ∈ fp, holdAt w' x)

/-- What one operation leaves: a value in the same world, or whatever the rest is asked at. -/
inductive Step (ds : List Deferred) (P : Program) (N : Nat) (ops : Array Oper) (it : It) (a : Act) (C : CEnv) (w : World) (G : Env → FEnv → CEnv → World → Prop) : Prop
  | val (v : Value) (l : Env) (fl : FEnv) (fp : List Hold) (hfp : isLoad P it.o.op = false → fp = []) (h1 : Region.wanted it.o (yielded ops a.tmps) = true) (h0 : ∀ x ∈ fp, holdAt w x)
      (h2 : ∀ w', OKw P it.o.op fp w w' → (execOp a.eval it.o).run P w' = .ok (.value v) w')
      (h3 : EnvOk ds N (a.put it.o.dst v) l) (h4 : FlOk (a.put it.o.dst v) fl) (h5 : G l fl (addC it fp C) w)
  | skip (l : Env) (fl : FEnv) (h1 : Region.wanted it.o (yielded ops a.tmps) = false) (h3 : EnvOk ds N (a.put it.o.dst undef) l) (h4 : FlOk (a.put it.o.dst undef) fl) (h5 : G l fl C w)
  | eff (h0 : dRoOk P it.o.op = false) (h1 : Region.wanted it.o (yielded ops a.tmps) = true)
      (h2 : ∀ Q, it.o.wp P a w (fun a' w' => (isAlloc it.o.op = true → Ext w w') ∧ (isAlloc it.o.op = false → keepOk it C w') ∧ ∃ v l fl, a' = a.put it.o.dst v ∧ EnvOk ds N a' l ∧ FlOk a' fl ∧ G l fl (dropC it C) w') Q)

theorem step_exec1 (hP : OkP P) {it : It} {a : Act} {l : Env} {fl : FEnv} {C : CEnv} {w : World} {G : Env → FEnv → CEnv → World → Prop} (hl : EnvOk ds N a l) (hfl : FlOk a fl)
    (hw : Region.wanted it.o (yielded ops a.tmps) = true) (h : exec1 P N it l fl C w fun l' C' w' => G l' fl C' w') : Step ds P N ops it a C w G := by
  have hρ : ∀ x v, look l fl [] x = some v → a.eval x = v := fun x v hx => of_look hl hfl holds_nil x v hx
  have hρ' : ∀ c b x v, a.eval (.tmp c) = .bool b → look l fl [(c, b)] x = some v → a.eval x = v := fun c b x v hc hx =>
    of_look hl hfl (holds_cons (eval_tmp_bool hc) holds_nil) x v hx
  unfold exec1 at h
  obtain ⟨⟨dst, op, ty, pos, after, guard⟩, idx, anc⟩ := it
  cases hb : dRoOk P op with
  | true =>
    simp only [hb, cond_true] at h
    obtain ⟨v, fp, hfp, h0, hr, hK⟩ := of_dRoF hρ hρ' h dst pos after guard
    obtain ⟨l', h1, h2, h3⟩ := of_putK hl hfl hK
    exact .val v l' fl fp hfp hw h0 hr h1 h2 h3
  | false =>
    simp only [hb, cond_false] at h
    refine .eff hb hw fun Q => ?_
    refine Oper.wp_mono ?_ (of_dEff (Q := Q) hP hρ h dst pos after guard)
    rintro a' w' ⟨v, rfl, hK, hx⟩
    obtain ⟨hk, hK⟩ := of_keepC hK
    obtain ⟨l', h1, h2, h3⟩ := of_putK hl hfl hK
    exact ⟨hx, hk, v, l', fl, rfl, h1, h2, h3⟩

theorem yielded_of {a : Act} {j g : Nat} (hg : (ops[j]?).bind (·.dst) = some g) : yielded ops a.tmps j = match a.tmps[g]? with | some (.bool b) => some b | _ => none := by
  unfold yielded
  rw [hg]; rfl

theorem step_of {split : Bool} (hP : OkP P) {it : It} {a : Act} {l : Env} {fl : FEnv} {C : CEnv} {w : World} {G : Env → FEnv → CEnv → World → Prop} (hl : EnvOk ds N a l) (hfl : FlOk a fl)
    (h : dStep P N ops split it l fl C w G) : Step ds P N ops it a C w G := by
  unfold dStep at h
  split at h
  · rename_i hg
    exact step_exec1 hP hl hfl (by simp [Region.wanted, hg]) h
  · rename_i j want hg
    split at h
    · exact h.elim
    · rename_i g hgd
      have hy := yielded_of (a := a) hgd
      split at h
      · split at h
        · rename_i c hc
          have hcell := hl.at' _ _ hc
          rw [hcell] at hy
          simp only at hy
          have hwant : Region.wanted it.o (yielded ops a.tmps) = (some c == some want) := by simp [Region.wanted, hg, hy]
          split at h
          · rename_i hct
            subst hct
            have hl' := hl.known hcell
            cases want with
            | true => exact step_exec1 hP hl' hfl (by rw [hwant]; rfl) h
            | false =>
              simp only [cond_false] at h
              obtain ⟨l', h1, h2, h3⟩ := of_putK hl' hfl h
              exact .skip l' fl (by rw [hwant]; rfl) h1 h2 h3
          · rename_i hct
            have hcf : c = false := by simpa using hct
            subst hcf
            have hl' := hl.known hcell
            cases want with
            | true =>
              simp only [cond_true] at h
              obtain ⟨l', h1, h2, h3⟩ := of_putK hl' hfl h
              exact .skip l' fl (by rw [hwant]; rfl) h1 h2 h3
            | false => exact step_exec1 hP hl' hfl (by rw [hwant]; rfl) h
        · rename_i vs hc
          have hcell := hl.at' _ _ hc
          rw [hcell] at hy
          simp only at hy
          obtain ⟨l', h1, h2, h3⟩ := of_putK hl hfl h
          exact .skip l' fl (by simp [Region.wanted, hg, hy]) h1 h2 h3
        · exact h.elim
      · split at h
        · exact h.elim
        · rename_i G hG
          split at h
          · rename_i v d hv hd
            cases hb : (Nat.blt d N && flFree fl d && ((g, want) :: G).all fun x => !(Nat.beq x.1 d)) with
            | false => rw [hb] at h; exact h.elim
            | true =>
              rw [hb] at h
              simp only [cond_true] at h
              simp only [Bool.and_eq_true] at hb
              obtain ⟨⟨hb1, hb2⟩, hb3⟩ := hb
              have hdN : d < N := by simpa using hb1
              have hne : ∀ x ∈ ((g, want) :: G), x.1 ≠ d := by
                intro x hx e
                have := List.all_eq_true.1 hb3 x hx
                rw [e] at this; simp at this
              -- the guard's flags hold where it says 'wanted'
              have hgG : a.tmps[g]? = some (.bool want) → holds a G := by
                intro hcell
                unfold flagsOf at hG
                split at hG
                · simp only [Option.some.injEq] at hG; subst hG; exact holds_nil
                · have key : ∀ (fl : FEnv), FlOk a fl → lookFlags fl g = some G → holds a G := by
                    intro fl
                    induction fl with
                    | nil => intro _ hh; simp [lookFlags] at hh
                    | cons x r ih =>
                      intro hfl hh
                      obtain ⟨d', G', u⟩ := x
                      simp only [lookFlags] at hh
                      cases hbb : Nat.beq d' g with
                      | true =>
                        rw [hbb] at hh
                        simp only [cond_true, Option.some.injEq] at hh
                        subst hh
                        have h2 := (hfl (d', G', u) (by simp)).2
                        rw [Nat.eq_of_beq_eq_true hbb] at h2
                        exact Classical.byContradiction fun hn => by
                          have := h2 hn
                          rw [hcell] at this
                          simp [undef] at this
                      | false =>
                        rw [hbb] at hh
                        exact ih (fun x hx => hfl x (by simp [hx])) hh
                  exact key fl hfl hG
                · cases hG
              have hput : a.put it.o.dst = a.put (some d) := by rw [hd]
              by_cases hcell : a.tmps[g]? = some (.bool want)
              · have hF : holds a ((g, want) :: G) := holds_cons hcell (hgG hcell)
                have hw : Region.wanted it.o (yielded ops a.tmps) = true := by
                  rw [hcell] at hy
                  simp [Region.wanted, hg, hy]
                obtain ⟨⟨dst, op, ty, pos, after, guard⟩, idx, anc⟩ := it
                have hr := fun (w' : World) => of_pureVal (w := w') (fun x v hx => of_look hl hfl hF x v hx)
                  (fun c b x v hc hx => of_look hl hfl (holds_cons (eval_tmp_bool hc) hF) x v hx) hv dst pos after guard
                refine .val v _ _ [] (fun _ => rfl) hw (fun _ hx => (by cases hx)) (fun w' _ => hr w') ?_ ?_ (by cases anc <;> exact h)
                · rw [hput]; exact hl.putNone
                · rw [hput]
                  intro x hx
                  rcases List.mem_cons.1 hx with rfl | hx
                  · refine ⟨fun _ => by rw [put_get, if_pos rfl, if_pos (by rw [hl.size]; exact hdN)], fun hn => absurd ((holds_put hne).2 hF) hn⟩
                  · exact hfl.put hb2 x hx
              · have hw : Region.wanted it.o (yielded ops a.tmps) = false := by
                  simp only [Region.wanted, hg, hy]
                  split
                  · rename_i b hbb
                    cases b <;> cases want <;> first | rfl | exact absurd hbb hcell
                  · rfl
                refine .skip _ _ hw ?_ ?_ h
                · rw [hput]; exact hl.putNone
                · rw [hput]
                  intro x hx
                  rcases List.mem_cons.1 hx with rfl | hx
                  · refine ⟨fun hh => ?_, fun _ => by rw [put_get, if_pos rfl, if_pos (by rw [hl.size]; exact hdN)]⟩
                    have := (holds_put hne).1 hh
                    exact absurd (this (g, want) (by simp)) hcell
                  · exact hfl.put hb2 x hx
          · exact h.elim

def dstsOf (os : List Oper) : List Nat := os.filterMap (·.dst)
def dstsIt (os : List It) : List Nat := os.filterMap (·.o.dst)

theorem off_put {it : It} {rest : List It} {a : Act} {v : Value} : Off (dstsIt (it :: rest)) a (a.put it.o.dst v) := by
  intro t ht
  cases hd : it.o.dst with
  | none => rfl
  | some d =>
    rw [put_get, if_neg]
    intro e
    subst e
    exact ht (by simp [dstsIt, hd])

theorem off_tail {it : It} {rest : List It} {a b : Act} (h : Off (dstsIt rest) a b) : Off (dstsIt (it :: rest)) a b :=
  h.mono fun t ht => by
    simp only [dstsIt, List.mem_filterMap] at ht ⊢
    obtain ⟨x, hx, hd⟩ := ht
    exact ⟨x, by simp [hx], hd⟩

theorem dOps_list {split : Bool} (hP : OkP P) {Q : Exit → Act → World → Prop} : ∀ (os : List It) {l : Env} {fl : FEnv} {C : CEnv} {w : World} {a : Act} {K : Env → World → Prop},
    EnvOk ds N a l → FlOk a fl → dOps P N ops split os l fl C w K →
    (∀ a' l' w', Off (dstsIt os) a a' → EnvOk ds N a' l' → K l' w' → Q .normal a' w') → wpList P ops Q (os.map (·.o)) a w
  | [], l, fl, C, w, a, K, hl, hfl, h, hK => hK a l w (Off.refl _ _) hl h
  | it :: rest, l, fl, C, w, a, K, hl, hfl, h, hK => by
    have ih := fun {l fl C w a} => dOps_list (split := split) hP (Q := Q) rest (l := l) (fl := fl) (C := C) (w := w) (a := a) (K := K)
    simp only [List.map_cons]
    rcases step_of hP hl hfl h with ⟨v, l', fl', fp, hfp, h1, h0, h2, h3, h4, h5⟩ | ⟨l', fl', h1, h3, h4, h5⟩ | ⟨h0, h1, h2⟩
    · unfold wpList
      rw [if_pos h1]
      refine .inl ?_
      unfold Oper.wp
      rw [h2 w (by unfold OKw; cases hb : isLoad P it.o.op <;> simp [Ext.refl]; right; exact fun a hx => h0 a hx)]
      exact ih h3 h4 h5 fun a' l' w' ho => hK a' l' w' (off_put.trans (off_tail ho))
    · unfold wpList
      rw [if_neg (by rw [h1]; simp)]
      exact ih h3 h4 h5 fun a' l' w' ho => hK a' l' w' (off_put.trans (off_tail ho))
    · unfold wpList
      rw [if_pos h1]
      refine .inl (Oper.wp_mono ?_ (h2 Q))
      rintro a' w' ⟨_, _, v, l', fl', rfl, h3, h4, h5⟩
      exact ih h3 h4 h5 fun a' l' w' ho => hK a' l' w' (off_put.trans (off_tail ho))

/-! ### Regions that draw their order -/

/-- Reads, or only makes a block. -/
def headOp (P : Program) (o : Oper) : Bool := dRoOk P o.op || isAlloc o.op

def headAt (P : Program) (ops : Array Oper) (i : Nat) : Bool :=
  match ops[i]? with
  | some o => headOp P o
  | none => false

/-- What an operation leaves as it was. -/
def Gd (P : Program) (ops : Array Oper) (as : List Nat) (C : CEnv) (i : Nat) (w w' : World) : Prop :=
  (headAt P ops i = true → Ext w w') ∧ ∀ x ∈ C, (as.getD i 0).testBit x.1 = false → holdAt w x.2 → holdAt w' x.2

theorem Gd.refl {as : List Nat} {C : CEnv} {i : Nat} {w : World} : Gd P ops as C i w w := ⟨fun _ => Ext.refl w, fun _ _ _ h => h⟩

/-- Whatever order is picked; what is a head operation leaves what was there. -/
def wpAnyE (P : Program) (md : Region.Mode) (ops : Array Oper) (as : List Nat) (Q : Exit → Act → World → Prop) (C : CEnv) : Nat → Array Bool → Act → World → Prop
  | 0, listed, a, w => Region.ready md ops listed = [] ∧ Q .normal a w
  | fuel + 1, listed, a, w =>
    (Region.ready md ops listed = [] → Q .normal a w) ∧
    ∀ i ∈ Region.ready md ops listed, wpOp P ops Q i (fun a' w' => Gd P ops as C i w w' ∧ wpAnyE P md ops as Q C fuel (listed.setIfInBounds i true) a' w') a w

theorem wpAny_of_E {md : Region.Mode} {as : List Nat} {C : CEnv} {Q : Exit → Act → World → Prop} : ∀ (fuel : Nat) (listed : Array Bool) (a : Act) (w : World), wpAnyE P md ops as Q C fuel listed a w → wpAny P md ops Q fuel listed a w
  | 0, _, _, _, h => h
  | fuel + 1, _, _, _, h => ⟨h.1, fun i hi => wpOp_mono (fun a' w' h' => wpAny_of_E fuel _ a' w' h'.2) (h.2 i hi)⟩

theorem wpAnyE_mono {md : Region.Mode} {as : List Nat} {C C' : CEnv} (hC : ∀ x ∈ C, x ∈ C') {Q : Exit → Act → World → Prop} : ∀ (fuel : Nat) (listed : Array Bool) (a : Act) (w : World),
    wpAnyE P md ops as Q C' fuel listed a w → wpAnyE P md ops as Q C fuel listed a w
  | 0, _, _, _, h => h
  | fuel + 1, _, _, _, h => ⟨h.1, fun i hi => wpOp_mono (fun a' w' h' => ⟨⟨h'.1.1, fun x hx => h'.1.2 x (hC x hx)⟩, wpAnyE_mono hC fuel _ a' w' h'.2⟩) (h.2 i hi)⟩

theorem wpAnyE_more {md : Region.Mode} {as : List Nat} {C C2 : CEnv} {Q : Exit → Act → World → Prop} (_ : True) : ∀ (fuel : Nat) (listed : Array Bool) (a : Act) (w : World),
    (∀ y ∈ C, y ∈ C2 ∨ ∀ i, listed.getD i true = false → headAt P ops i = true ∨ (as.getD i 0).testBit y.1 = true) →
    wpAnyE P md ops as Q C2 fuel listed a w → wpAnyE P md ops as Q C fuel listed a w
  | 0, _, _, _, _, h => h
  | fuel + 1, listed, a, w, hC, h => ⟨h.1, fun i hi => wpOp_mono (fun a' w' h' => ⟨⟨h'.1.1, fun y hy hb hc => by
      rcases hC y hy with h1 | h1
      · exact h'.1.2 y h1 hb hc
      · rcases h1 i (mem_ready.1 hi).1 with h2 | h2
        · exact (h'.1.1 h2).hold hc
        · rw [hb] at h2; cases h2⟩,
      wpAnyE_more trivial fuel _ a' w' (fun y hy => (hC y hy).imp id fun h1 k hk => by
        by_cases hik : i = k
        · subst hik; exact h1 i (mem_ready.1 hi).1
        · rw [getD_set_ne true hik] at hk; exact h1 k hk) h'.2⟩) (h.2 i hi)⟩

theorem wpAnyE_first {md : Region.Mode} {as : List Nat} {C : CEnv} {Q : Exit → Act → World → Prop} {S : World → Prop} {i : Nat} {oi : Oper} {v : Value} (L : Array Bool) (hi : ops[i]? = some oi)
    (hsel : ∀ (j : Nat) (o : Oper) cs b, ops[j]? = some o → o.op ≠ .select cs b)
    (hQ : ∀ c a w, Q (.panic c) (a.put oi.dst v) w → Q (.panic c) a w) (hfix : ∀ j ∈ Region.ready md ops L, j = i) (hsz : L.size = ops.size) :
    ∀ (fuel : Nat) (listed : Array Bool) (a : Act) (w : World),
      (∀ j oj, ops[j]? = some oj → j ≠ i → listed.getD j true = false → (∀ e ∈ oj.after, Region.binds md e = true → e.on ≠ i) → oi.apart ops oj = true) →
      (∀ j, listed.getD j false = true → L.getD j false = true) → (∀ j, listed.getD j true = false → L.getD j true = true → ∀ w w', Gd P ops as C j w w' → S w → S w') →
      i ∈ Region.ready md ops listed → YieldsIf P ops S oi v a → S w →
      wpAnyE P md ops as Q C fuel (listed.setIfInBounds i true) (a.put oi.dst v) w → wpAnyE P md ops as Q C (fuel + 1) listed a w := by
  intro fuel
  induction fuel with
  | zero =>
    intro listed a w _ _ _ hr hy hS H
    refine ⟨fun h => (by rw [h] at hr; cases hr), fun j hj => ?_⟩
    by_cases hji : j = i
    · subst hji; exact hy.wpOp hi hS ⟨Gd.refl, H⟩
    · have := ready_mono hj hji
      rw [H.1] at this
      cases this
  | succ fuel ih =>
    intro listed a w hfree hsub hhead hr hy hS H
    refine ⟨fun h => (by rw [h] at hr; cases hr), fun j hj => ?_⟩
    by_cases hji : j = i
    · subst hji; exact hy.wpOp hi hS ⟨Gd.refl, H⟩
    · have h1 := H.2 j (ready_mono hj hji)
      obtain ⟨hjun, oj, hoj, hall⟩ := mem_ready.1 hj
      have hnot : ∀ e ∈ oj.after, Region.binds md e = true → e.on ≠ i := fun e he hb heq => by
        have h1 := hall e he hb
        have h0 := (mem_ready.1 hr).1
        rw [heq] at h1
        rcases Nat.lt_or_ge i listed.size with h' | h'
        · simp [h'] at h0 h1; rw [h0] at h1; cases h1
        · simp [Array.getElem?_eq_none h'] at h1
      have hjL : L.getD j true = true := by
        cases hLj : L.getD j true with
        | true => rfl
        | false =>
          have : j ∈ Region.ready md ops L := mem_ready.2 ⟨hLj, oj, hoj, fun e he hb => hsub _ (hall e he hb)⟩
          exact absurd (hfix j this) hji
      have hjlt : j < L.size := by rw [hsz]; exact (Array.getElem?_eq_some_iff.1 hoj).1
      have hjin : L.getD j false = true := by simp [hjlt] at hjL ⊢; exact hjL
      have hjh := hhead j hjun hjL
      have h2 := wpOp_putIf hoj (hfree j oj hoj hji hjun hnot) (fun cs b => hsel i oi cs b hi) (fun cs b => hsel j oj cs b hoj) hQ hy h1
      have hfree' : ∀ k ok, ops[k]? = some ok → k ≠ i → (listed.setIfInBounds j true).getD k true = false →
          (∀ e ∈ ok.after, Region.binds md e = true → e.on ≠ i) → oi.apart ops ok = true := fun k ok hk hki hun hno => by
        refine hfree k ok hk hki ?_ hno
        by_cases hjk : j = k
        · subst hjk; exact hjun
        · rw [getD_set_ne true hjk] at hun; exact hun
      have hhead' : ∀ k, (listed.setIfInBounds j true).getD k true = false → L.getD k true = true → ∀ w w', Gd P ops as C k w w' → S w → S w' := fun k hun hL => by
        by_cases hjk : j = k
        · subst hjk; exact hjh
        · rw [getD_set_ne true hjk] at hun; exact hhead k hun hL
      have hsub' : ∀ k, (listed.setIfInBounds j true).getD k false = true → L.getD k false = true := fun k hk => by
        by_cases hjk : j = k
        · subst hjk; exact hjin
        · rw [getD_set_ne false hjk] at hk; exact hsub k hk
      refine wpOp_mono (fun a' w' h3 => ⟨h3.2.1, ih (listed.setIfInBounds j true) a' w' hfree' hsub' hhead' (ready_mono hr (Ne.symm hji)) h3.1 (hjh _ _ h3.2.1 hS) ?_⟩) h2
      rw [Array.setIfInBounds_comm _ _ hji]
      exact h3.2.2

/-- Whom an operation waits for, straight and through others: as the bits of a number. -/
def maskOf (acc : List Nat) (es : List Edge) : Nat := es.foldl (fun s e => cond (Region.binds .any e) (s ||| 2 ^ e.on ||| acc.getD e.on 0) s) 0
def dirOf (es : List Edge) : Nat := es.foldl (fun s e => cond (Region.binds .any e) (s ||| 2 ^ e.on) s) 0
def ancL : List Oper → List Nat → List Nat
  | [], acc => acc
  | o :: r, acc => ancL r (acc ++ [maskOf acc o.after.toList])

structure Row where
  o : Oper
  idx : Nat
  anc : Nat
  dir : Nat
  ro : Bool
  hd : Bool

def rowsOf (P : Program) : Nat → List Oper → List Nat → List Row
  | i, o :: r, m :: ms => ⟨o, i, m, dirOf o.after.toList, dRoOk P o.op, headOp P o⟩ :: rowsOf P (i + 1) r ms
  | _, _, _ => []

/-- What reads comes up as early as it may. -/
def canon (ros : List Row) : List Row → List Row
  | [] => ros
  | e :: es => ros.filter (fun r => !(e :: es).any fun x => Nat.testBit r.anc x.idx) ++ e :: canon (ros.filter fun r => (e :: es).any fun x => Nat.testBit r.anc x.idx) es

def canonOf (rows : List Row) : List Row := canon (rows.filter (·.ro)) (rows.filter fun r => !r.ro)

def itOf (x : Row) : It := ⟨x.o, x.idx, some x.anc⟩

def drawIts (P : Program) (ops : Array Oper) : List It := (canonOf (rowsOf P 0 ops.toList (ancL ops.toList []))).map itOf
def textIts : Nat → List Oper → List It
  | _, [] => []
  | i, o :: r => ⟨o, i, none⟩ :: textIts (i + 1) r

def mixTail (P : Program) (ops : Array Oper) (x : Row) : List Row → Bool
  | [] => true
  | y :: r => (match x.ro with
    | true => (Nat.testBit y.dir x.idx || x.o.apart ops y.o) && (wl P x.o.op || isLoad P x.o.op || Nat.testBit y.anc x.idx || y.hd)
    | false => Nat.testBit y.anc x.idx && Nat.beq (x.anc ||| y.anc) y.anc) && mixTail P ops x r

def mixAll (P : Program) (ops : Array Oper) : Nat → List Row → Bool
  | done, [] => (List.range ops.size).all fun i => Nat.testBit done i
  | done, x :: r => Nat.beq (x.anc ||| done) done && !Nat.testBit done x.idx && mixTail P ops x r && mixAll P ops (done ||| 2 ^ x.idx) r

def mixOk (P : Program) (ops : Array Oper) : Bool :=
  Region.noSelect ops && Nat.beq (canonOf (rowsOf P 0 ops.toList (ancL ops.toList []))).length ops.size && mixAll P ops 0 (canonOf (rowsOf P 0 ops.toList (ancL ops.toList [])))

theorem ancL_append : ∀ (os : List Oper) (acc : List Nat), ∃ t, ancL os acc = acc ++ t ∧ t.length = os.length
  | [], acc => ⟨[], by simp [ancL], rfl⟩
  | o :: r, acc => by
    obtain ⟨t, ht, hl⟩ := ancL_append r (acc ++ [maskOf acc o.after.toList])
    exact ⟨maskOf acc o.after.toList :: t, by simp [ancL, ht], by simp [hl]⟩

theorem ancL_get : ∀ (os : List Oper) (acc : List Nat) (j : Nat) (o : Oper), os[j]? = some o → (ancL os acc)[acc.length + j]? = some (maskOf ((ancL os acc).take (acc.length + j)) o.after.toList)
  | [], acc, j, o, h => by simp at h
  | x :: r, acc, 0, o, h => by
    simp only [List.getElem?_cons_zero, Option.some.injEq] at h
    subst h
    obtain ⟨t, ht, hl⟩ := ancL_append r (acc ++ [maskOf acc x.after.toList])
    simp [ancL, ht]
  | x :: r, acc, j + 1, o, h => by
    have := ancL_get r (acc ++ [maskOf acc x.after.toList]) j o (by simpa using h)
    simp only [List.length_append, List.length_singleton] at this
    simp only [ancL]
    rw [show acc.length + (j + 1) = acc.length + 1 + j by omega]
    exact this

theorem testBit_or3 {s a b k : Nat} : (s ||| a ||| b).testBit k = (s.testBit k || a.testBit k || b.testBit k) := by simp [Nat.testBit_or]

theorem maskOf_bit {acc : List Nat} {k : Nat} : ∀ (es : List Edge) (s : Nat), (es.foldl (fun s e => cond (Region.binds .any e) (s ||| 2 ^ e.on ||| acc.getD e.on 0) s) s).testBit k = true →
    s.testBit k = true ∨ ∃ e ∈ es, Region.binds .any e = true ∧ (e.on = k ∨ (acc.getD e.on 0).testBit k = true)
  | [], s, h => .inl h
  | e :: es, s, h => by
    simp only [List.foldl_cons] at h
    rcases maskOf_bit es _ h with h1 | ⟨e', he', h2⟩
    · cases hb : Region.binds .any e with
      | false => rw [hb] at h1; exact .inl h1
      | true =>
        rw [hb] at h1
        simp only [cond_true, testBit_or3, Bool.or_eq_true, Nat.testBit_two_pow, decide_eq_true_eq] at h1
        rcases h1 with (h1 | h1) | h1
        · exact .inl h1
        · exact .inr ⟨e, by simp, hb, .inl h1⟩
        · exact .inr ⟨e, by simp, hb, .inr h1⟩
    · exact .inr ⟨e', by simp [he'], h2⟩

theorem maskOf_has {acc : List Nat} {e : Edge} (hb : Region.binds .any e = true) : ∀ (es : List Edge) (s : Nat), (e ∈ es ∨ s.testBit e.on = true) →
    (es.foldl (fun s e => cond (Region.binds .any e) (s ||| 2 ^ e.on ||| acc.getD e.on 0) s) s).testBit e.on = true
  | [], s, h => by rcases h with h | h; cases h; exact h
  | x :: es, s, h => by
    simp only [List.foldl_cons]
    refine maskOf_has hb es _ ?_
    rcases h with h | h
    · rcases List.mem_cons.1 h with rfl | h
      · right; rw [hb]; simp [testBit_or3]
      · exact .inl h
    · right
      cases Region.binds .any x <;> simp [testBit_or3, h]

theorem dirOf_bit {k : Nat} : ∀ (es : List Edge) (s : Nat), (es.foldl (fun s e => cond (Region.binds .any e) (s ||| 2 ^ e.on) s) s).testBit k = true →
    s.testBit k = true ∨ ∃ e ∈ es, Region.binds .any e = true ∧ e.on = k
  | [], s, h => .inl h
  | e :: es, s, h => by
    simp only [List.foldl_cons] at h
    rcases dirOf_bit es _ h with h1 | ⟨e', he', h2⟩
    · cases hb : Region.binds .any e with
      | false => rw [hb] at h1; exact .inl h1
      | true =>
        rw [hb] at h1
        simp only [cond_true, Nat.testBit_or, Bool.or_eq_true, Nat.testBit_two_pow, decide_eq_true_eq] at h1
        rcases h1 with h1 | h1
        · exact .inl h1
        · exact .inr ⟨e, by simp, hb, h1⟩
    · exact .inr ⟨e', by simp [he'], h2⟩

/-- Those whose bits stand have come up. -/
def bitsA (n d : Nat) : Array Bool := ((List.range n).map fun j => d.testBit j).toArray

theorem bitsA_getD {n k j : Nat} {d : Bool} : (bitsA n k).getD j d = if j < n then k.testBit j else d := by
  simp only [bitsA, Array.getD_eq_getD_getElem?, List.getElem?_toArray, List.getElem?_map]
  by_cases h : j < n
  · simp [h]
  · have : (List.range n)[j]? = none := by simp; omega
    simp [this, h]

theorem bitsA_set {n d k : Nat} : (bitsA n d).setIfInBounds k true = bitsA n (d ||| 2 ^ k) := by
  apply Array.ext'
  apply List.ext_getElem?
  intro i
  simp only [Array.toList_setIfInBounds, bitsA, List.getElem?_set, List.length_map, List.length_range, List.getElem?_map, Nat.testBit_or, Nat.testBit_two_pow]
  by_cases h : i < n
  · by_cases hk : k = i
    · subst hk; simp [h]
    · simp [hk, h]
  · have hn : (List.range n)[i]? = none := by simp; omega
    by_cases hk : k = i
    · subst hk; simp [hn, h]
    · simp [hk, hn]

theorem bitsA_zero {n : Nat} : bitsA n 0 = Array.replicate n false := by
  apply Array.ext'
  simp [bitsA, List.map_const']

/-- All that does not wait for number k. -/
def without (as : List Nat) (n k : Nat) : Array Bool := ((List.range n).map fun j => !decide (j = k) && !(as.getD j 0).testBit k).toArray

theorem without_getD {as : List Nat} {n k j : Nat} {d : Bool} : (without as n k).getD j d = if j < n then (!decide (j = k) && !(as.getD j 0).testBit k) else d := by
  simp only [without, Array.getD_eq_getD_getElem?, List.getElem?_toArray, List.getElem?_map]
  by_cases h : j < n
  · simp [h]
  · have : (List.range n)[j]? = none := by simp; omega
    simp [this, h]

theorem rowsOf_mem {P : Program} : ∀ {os : List Oper} {ms : List Nat} {i : Nat} {x : Row}, x ∈ rowsOf P i os ms →
    ∃ j, os[j]? = some x.o ∧ ms[j]? = some x.anc ∧ x.idx = i + j ∧ x.dir = dirOf x.o.after.toList ∧ x.ro = dRoOk P x.o.op ∧ x.hd = headOp P x.o
  | [], ms, i, x, h => by cases ms <;> cases h
  | o :: os, [], i, x, h => by cases h
  | o :: os, m :: ms, i, x, h => by
    rcases List.mem_cons.1 h with rfl | h
    · exact ⟨0, rfl, rfl, rfl, rfl, rfl, rfl⟩
    · obtain ⟨j, h1, h2, h3, h4⟩ := rowsOf_mem h
      exact ⟨j + 1, by simpa using h1, by simpa using h2, by omega, h4⟩

theorem canon_mem : ∀ {es ros : List Row} {x : Row}, x ∈ canon ros es → x ∈ ros ∨ x ∈ es
  | [], ros, x, h => .inl h
  | e :: es, ros, x, h => by
    simp only [canon, List.mem_append, List.mem_filter, List.mem_cons] at h
    rcases h with h | h | h
    · exact .inl h.1
    · exact .inr (by simp [h])
    · rcases canon_mem h with h | h
      · exact .inl (List.mem_filter.1 h).1
      · exact .inr (by simp [h])

theorem canonOf_mem {rows : List Row} {x : Row} (h : x ∈ canonOf rows) : x ∈ rows := by
  rcases canon_mem h with h | h
  · exact (List.mem_filter.1 h).1
  · exact (List.mem_filter.1 h).1

theorem mixTail_mem {P : Program} {x : Row} : ∀ {ys : List Row} {y : Row}, mixTail P ops x ys = true → y ∈ ys →
    (match x.ro with
    | true => (Nat.testBit y.dir x.idx || x.o.apart ops y.o) && (wl P x.o.op || isLoad P x.o.op || Nat.testBit y.anc x.idx || y.hd)
    | false => Nat.testBit y.anc x.idx && Nat.beq (x.anc ||| y.anc) y.anc) = true
  | [], y, _, h => by cases h
  | z :: ys, y, hm, h => by
    simp only [mixTail, Bool.and_eq_true] at hm
    rcases List.mem_cons.1 h with rfl | h
    · exact hm.1
    · exact mixTail_mem hm.2 h

theorem mixAll_rest {P : Program} : ∀ {rs : List Row} {done : Nat}, mixAll P ops done rs = true → ∀ j, j < ops.size → done.testBit j = false → ∃ y ∈ rs, y.idx = j
  | [], done, h, j, hj, hd => by
    have := List.all_eq_true.1 h j (List.mem_range.2 hj)
    rw [hd] at this; cases this
  | x :: r, done, h, j, hj, hd => by
    simp only [mixAll, Bool.and_eq_true] at h
    by_cases hx : x.idx = j
    · exact ⟨x, by simp, hx⟩
    · obtain ⟨y, hy, he⟩ := mixAll_rest h.2 j hj (by simp [Nat.testBit_or, hd, Nat.testBit_two_pow, hx])
      exact ⟨y, by simp [hy], he⟩

theorem sub_bits {a d k : Nat} (h : a ||| d = d) (hk : a.testBit k = true) : d.testBit k = true := by
  rw [← h]; simp [Nat.testBit_or, hk]

theorem dOps_mix {split : Bool} (hP : OkP P) (hs : Region.noSelect ops = true) {Q : Exit → Act → World → Prop} (hQ : ∀ c a w, ¬ Q (.panic c) a w)
    (as : List Nat) (has : as = ancL ops.toList []) :
    ∀ (rs : List Row) (done : Nat) {l : Env} {fl : FEnv} {C : CEnv} {w : World} {a : Act} {K : Env → World → Prop},
    (∀ x ∈ rs, x ∈ rowsOf P 0 ops.toList as) → (∀ j, done.testBit j = true → j < ops.size ∧ as.getD j 0 ||| done = done) → (∀ x ∈ C, holdAt w x.2) → mixAll P ops done rs = true →
    EnvOk ds N a l → FlOk a fl → dOps P N ops split (rs.map itOf) l fl C w K →
    (∀ a' l' w', Off (dstsIt (rs.map itOf)) a a' → EnvOk ds N a' l' → K l' w' → Q .normal a' w') → wpAnyE P .any ops as Q C rs.length (bitsA ops.size done) a w
  | [], done, l, fl, C, w, a, K, hrs, hdone, hC, hB, hl, hfl, h, hK => by
    refine ⟨?_, hK a l w (Off.refl _ _) hl h⟩
    refine List.eq_nil_iff_forall_not_mem.2 fun j hj => ?_
    obtain ⟨h1, oj, h2, _⟩ := mem_ready.1 hj
    have hlt := (Array.getElem?_eq_some_iff.1 h2).1
    rw [bitsA_getD, if_pos hlt] at h1
    have := List.all_eq_true.1 hB j (List.mem_range.2 hlt)
    rw [h1] at this; cases this
  | x :: rs, done, l, fl, C, w, a, K, hrs, hdone, hC, hB, hl, hfl, h, hK => by
    have hrest := mixAll_rest hB
    simp only [mixAll, Bool.and_eq_true, Bool.not_eq_true'] at hB
    obtain ⟨⟨⟨hb1, hb0⟩, hb2⟩, hB'⟩ := hB
    have hsub : x.anc ||| done = done := Nat.eq_of_beq_eq_true hb1
    have rowFact : ∀ y ∈ rowsOf P 0 ops.toList as, ops[y.idx]? = some y.o ∧ as[y.idx]? = some y.anc ∧ y.dir = dirOf y.o.after.toList ∧ y.ro = dRoOk P y.o.op ∧ y.hd = headOp P y.o := by
      intro y hy
      obtain ⟨j, h1, h2, h3, h4⟩ := rowsOf_mem hy
      rw [Nat.zero_add] at h3
      rw [h3]
      exact ⟨by simpa using h1, h2, h4⟩
    obtain ⟨h0, hax, hdir, hxro, hxhd⟩ := rowFact x (hrs x (by simp))
    have haxD : as.getD x.idx 0 = x.anc := by simp [hax]
    have hklt : x.idx < ops.size := (Array.getElem?_eq_some_iff.1 h0).1
    have hanc : ∀ j oj, ops[j]? = some oj → as[j]? = some (maskOf (as.take j) oj.after.toList) := by
      intro j oj hj
      have := ancL_get ops.toList [] j oj (by simpa using hj)
      rw [has]
      simpa using this
    have hancD : ∀ j oj, ops[j]? = some oj → as.getD j 0 = maskOf (as.take j) oj.after.toList := fun j oj hj => by simp [hanc j oj hj]
    have hready : x.idx ∈ Region.ready .any ops (bitsA ops.size done) := by
      refine mem_ready.2 ⟨by rw [bitsA_getD, if_pos hklt]; exact hb0, x.o, h0, fun e he hbe => ?_⟩
      have h2 : x.anc.testBit e.on = true := by
        rw [← haxD, hancD _ _ h0]
        exact maskOf_has hbe _ _ (.inl (by simpa using he))
      have h3 := sub_bits hsub h2
      rw [bitsA_getD, if_pos (hdone _ h3).1]
      exact h3
    have hlater : ∀ j oj, j ≠ x.idx → ops[j]? = some oj → done.testBit j = false → ∃ y ∈ rs, y.idx = j ∧ y.o = oj ∧ y.anc = as.getD j 0 ∧ y.dir = dirOf oj.after.toList ∧ y.hd = headOp P oj := by
      intro j oj hne hj hun
      have hjlt := (Array.getElem?_eq_some_iff.1 hj).1
      obtain ⟨y, hy, he⟩ := hrest j hjlt hun
      rcases List.mem_cons.1 hy with rfl | hy
      · exact absurd he.symm hne
      · obtain ⟨g1, g2, g3, g4, g5⟩ := rowFact y (hrs y (by simp [hy]))
        rw [he] at g1 g2
        have : y.o = oj := Option.some.inj (g1.symm.trans hj)
        exact ⟨y, hy, he, this, by simp [g2], by rw [g3, this], by rw [g5, this]⟩
    have hdone' : ∀ j, (done ||| 2 ^ x.idx).testBit j = true → j < ops.size ∧ as.getD j 0 ||| (done ||| 2 ^ x.idx) = done ||| 2 ^ x.idx := by
      intro j hj
      simp only [Nat.testBit_or, Bool.or_eq_true, Nat.testBit_two_pow, decide_eq_true_eq] at hj
      rcases hj with hj | hj
      · obtain ⟨g1, g2⟩ := hdone j hj
        exact ⟨g1, by rw [← Nat.or_assoc, g2]⟩
      · subst hj
        exact ⟨hklt, by rw [haxD, ← Nat.or_assoc, hsub]⟩
    have ih := fun {l fl C w a} => dOps_mix (split := split) hP hs (Q := Q) hQ as has rs (done ||| 2 ^ x.idx) (l := l) (fl := fl) (C := C) (w := w) (a := a) (K := K) (fun y hy => hrs y (by simp [hy])) hdone'
    have hst := step_of hP hl hfl h
    -- where a set of bits holds whom an operation waits for
    have through : ∀ i oi, ops[i]? = some oi → (as.getD i 0).testBit x.idx = true → ∃ e ∈ oi.after, Region.binds .any e = true ∧ (e.on = x.idx ∨ (as.getD e.on 0).testBit x.idx = true) := by
      intro i oi hi hb
      rw [hancD i oi hi] at hb
      rcases maskOf_bit _ _ hb with h5 | ⟨e, he, hbe, h5⟩
      · simp at h5
      · refine ⟨e, by simpa using he, hbe, h5.imp id fun h6 => ?_⟩
        have h7 : (as.take i).getD e.on 0 = as.getD e.on 0 ∨ (as.take i).getD e.on 0 = 0 := by
          simp only [List.getD_eq_getElem?_getD, List.getElem?_take]
          split
          · exact .inl rfl
          · exact .inr rfl
        rcases h7 with h7 | h7
        · rw [h7] at h6; exact h6
        · rw [h7] at h6; simp at h6
    cases hro : dRoOk P x.o.op with
    | true =>
      have hxro' : x.ro = true := hxro.trans hro
      have go : ∀ (v : Value) (S : World → Prop) (C' : CEnv), (∀ j, j < ops.size → j ≠ x.idx → done.testBit j = false → (as.getD j 0).testBit x.idx = false → ∀ w w', Gd P ops as C' j w w' → S w → S w') →
          YieldsIf P ops S x.o v a → S w → wpAnyE P .any ops as Q C' rs.length (bitsA ops.size (done ||| 2 ^ x.idx)) (a.put x.o.dst v) w →
          wpAnyE P .any ops as Q C' (rs.length + 1) (bitsA ops.size done) a w := by
        intro v S C' hpres hy hS hrest'
        refine wpAnyE_first (S := S) (without as ops.size x.idx) h0 (Region.noSelect_spec hs) (fun c a w hq => absurd hq (hQ c _ w)) ?_ (by simp [without]) _ _ _ _ ?_ ?_ ?_ hready hy hS (by rw [bitsA_set]; exact hrest')
        · intro j hj
          obtain ⟨h1, oj, h2, h3⟩ := mem_ready.1 hj
          have hjlt := (Array.getElem?_eq_some_iff.1 h2).1
          rw [without_getD, if_pos hjlt] at h1
          by_cases hjk : j = x.idx
          · exact hjk
          · simp only [hjk, decide_false, Bool.not_false, Bool.true_and, Bool.not_eq_false'] at h1
            obtain ⟨e, he, hbe, h5⟩ := through j oj h2 h1
            have h6 := h3 e he hbe
            rw [without_getD] at h6
            split at h6
            · simp only [Bool.and_eq_true, Bool.not_eq_true', decide_eq_false_iff_not] at h6
              rcases h5 with h5 | h5
              · exact absurd h5 h6.1
              · rw [h6.2] at h5; cases h5
            · cases h6
        · intro j oj hj hjk hun hno
          have hjlt := (Array.getElem?_eq_some_iff.1 hj).1
          rw [bitsA_getD, if_pos hjlt] at hun
          obtain ⟨y, hy', e1, e2, e3, e4, e5⟩ := hlater j oj hjk hj hun
          have hmt := mixTail_mem hb2 hy'
          rw [hxro'] at hmt
          simp only [Bool.and_eq_true, Bool.or_eq_true] at hmt
          rcases hmt.1 with h1 | h1
          · rw [e4] at h1
            rcases dirOf_bit _ _ h1 with h2 | ⟨e, he, hbe, h2⟩
            · simp at h2
            · exact absurd h2 (hno e (by simpa using he) hbe)
          · rw [e2] at h1; exact h1
        · intro j hj
          rw [bitsA_getD] at hj
          split at hj
          · rename_i hjlt
            rw [without_getD, if_pos hjlt]
            have hne : j ≠ x.idx := by intro e; rw [e, hb0] at hj; cases hj
            have : (as.getD j 0).testBit x.idx = false := by
              cases hbit : (as.getD j 0).testBit x.idx with
              | false => rfl
              | true =>
                have := sub_bits (hdone j hj).2 hbit
                rw [hb0] at this; cases this
            simp only [hne, decide_false, Bool.not_false, Bool.true_and, Bool.not_eq_true', this]
          · cases hj
        · intro j hj hLj
          rw [bitsA_getD] at hj
          split at hj
          · rename_i hjlt
            rw [without_getD, if_pos hjlt] at hLj
            simp only [Bool.and_eq_true, Bool.not_eq_true', decide_eq_false_iff_not] at hLj
            exact hpres j hjlt hLj.1 hj hLj.2
          · cases hj
      rcases hst with ⟨v, l', fl', fp, hfp, h1, h01, h2, h3, h4, h5⟩ | ⟨l', fl', h1, h3, h4, h5⟩ | ⟨hn, h1, h2⟩
      · have hCx : ∀ y ∈ C, y ∈ addC (itOf x) fp C := fun y hy => by simp [addC, itOf, hy]
        refine wpAnyE_mono hCx _ _ _ _ ?_
        refine go v (OKw P x.o.op fp w) _ ?_ (.inl ⟨h1, h2⟩) ?_ (ih ?_ hB' h3 h4 h5 fun a' l' w' ho => hK a' l' w' (off_put.trans (off_tail ho)))
        · intro j hjlt hjk hun hanc0 w1 w2 hg hok
          rcases hok with hok | ⟨hok, hx⟩ | ⟨hok, hc⟩
          · exact .inl hok
          · have hj' : ops[j]? = some ops[j] := by simp [hjlt]
            obtain ⟨y, hy', e1, e2, e3, e4, e5⟩ := hlater j ops[j] hjk hj' hun
            have hmt := mixTail_mem hb2 hy'
            rw [hxro'] at hmt
            simp only [Bool.and_eq_true, Bool.or_eq_true] at hmt
            rcases hmt.2 with ((h7 | h7) | h7) | h7
            · exact .inl h7
            · rw [hok] at h7; cases h7
            · rw [e3, hanc0] at h7; cases h7
            · refine .inr (.inl ⟨hok, hx.trans (hg.1 ?_)⟩)
              simp only [headAt, hj']
              rw [← e5]; exact h7
          · refine .inr (.inr ⟨hok, fun z hz => ?_⟩)
            exact hg.2 (x.idx, z) (by simp [addC, itOf, hz]) hanc0 (hc z hz)
        · unfold OKw
          cases hb : isLoad P x.o.op with
          | true => exact .inr (.inr ⟨rfl, h01⟩)
          | false => exact .inr (.inl ⟨rfl, Ext.refl w⟩)
        · intro y hy
          simp only [addC, itOf, List.mem_append, List.mem_map] at hy
          rcases hy with ⟨z, hz, rfl⟩ | hy
          · exact h01 z hz
          · exact hC y hy
      · exact go undef (fun _ => True) C (fun _ _ _ _ _ _ _ _ _ => trivial) (.inr ⟨h1, rfl⟩) trivial (ih hC hB' h3 h4 h5 fun a' l' w' ho => hK a' l' w' (off_put.trans (off_tail ho)))
      · have hn' : dRoOk P x.o.op = false := hn
        rw [hro] at hn'; cases hn'
    | false =>
      have hxro' : x.ro = false := hxro.trans hro
      refine ⟨fun h1 => (by rw [h1] at hready; cases hready), fun i hi => ?_⟩
      have hik : i = x.idx := by
        obtain ⟨h1, oi, h2, h3⟩ := mem_ready.1 hi
        have hilt := (Array.getElem?_eq_some_iff.1 h2).1
        rw [bitsA_getD, if_pos hilt] at h1
        by_cases hne : i = x.idx
        · exact hne
        · exfalso
          obtain ⟨y, hy', e1, e2, e3, e4, e5⟩ := hlater i oi hne h2 h1
          have hmt := mixTail_mem hb2 hy'
          rw [hxro'] at hmt
          simp only [Bool.and_eq_true] at hmt
          have hmt1 := hmt.1
          rw [e3] at hmt1
          obtain ⟨e, he, hbe, h5⟩ := through i oi h2 hmt1
          have h6 := h3 e he hbe
          rw [bitsA_getD] at h6
          split at h6
          · rcases h5 with h5 | h5
            · rw [h5, hb0] at h6; cases h6
            · have := sub_bits (hdone _ h6).2 h5
              rw [hb0] at this; cases this
          · cases h6
      subst hik
      unfold wpOp
      simp only [h0]
      rw [bitsA_set]
      rcases hst with ⟨v, l', fl', fp, hfp, h1, h01, h2, h3, h4, h5⟩ | ⟨l', fl', h1, h3, h4, h5⟩ | ⟨hn, h1, h2⟩
      · have h1' : Region.wanted x.o (yielded ops a.tmps) = true := h1
        rw [if_pos h1']
        refine .inl ?_
        unfold Oper.wp
        have h2' : (execOp a.eval x.o).run P w = .ok (.value v) w := h2 w (by
          unfold OKw
          cases hb : isLoad P (itOf x).o.op with
          | true => exact .inr (.inr ⟨rfl, h01⟩)
          | false => exact .inr (.inl ⟨rfl, Ext.refl w⟩))
        rw [h2']
        refine ⟨Gd.refl, ?_⟩
        refine wpAnyE_mono (C' := addC (itOf x) fp C) (fun y hy => by simp [addC, itOf, hy]) _ _ _ _ (ih ?_ hB' h3 h4 h5 fun a' l' w' ho => hK a' l' w' (off_put.trans (off_tail ho)))
        intro y hy
        simp only [addC, itOf, List.mem_append, List.mem_map] at hy
        rcases hy with ⟨z, hz, rfl⟩ | hy
        · exact h01 z hz
        · exact hC y hy
      · have h1' : Region.wanted x.o (yielded ops a.tmps) = false := h1
        rw [if_neg (by rw [h1']; simp)]
        exact ⟨Gd.refl, ih hC hB' h3 h4 h5 fun a' l' w' ho => hK a' l' w' (off_put.trans (off_tail ho))⟩
      · have h1' : Region.wanted x.o (yielded ops a.tmps) = true := h1
        rw [if_pos h1']
        refine .inl (Oper.wp_mono ?_ (h2 Q))
        rintro a' w' ⟨hxx, hkp, v, l', fl', rfl, h3, h4, h5⟩
        have hcells : ∀ y ∈ C, (as.getD x.idx 0).testBit y.1 = false → holdAt w' y.2 := by
          intro y hy hb
          cases hal : isAlloc x.o.op with
          | true => exact (hxx hal).hold (hC y hy)
          | false =>
            have := hkp hal
            simp only [keepOk, itOf] at this
            exact this y hy (by rw [← haxD]; exact hb)
        refine ⟨⟨fun hh => hxx ?_, fun y hy hb _ => hcells y hy hb⟩, ?_⟩
        · have : headOp P x.o = true := by simpa [headAt, h0] using hh
          have hn' : dRoOk P x.o.op = false := hn
          simp only [headOp, hn', Bool.false_or] at this
          exact this
        · refine wpAnyE_more (C2 := dropC (itOf x) C) trivial _ _ _ _ ?_ (ih ?_ hB' h3 h4 h5 fun a' l' w' ho => hK a' l' w' (off_put.trans (off_tail ho)))
          · intro y hy
            cases hb : x.anc.testBit y.1 with
            | false => exact .inl (by simp [dropC, itOf, hy, hb])
            | true =>
              refine .inr fun i hi => ?_
              rw [bitsA_getD] at hi
              split at hi
              · rename_i hilt
                simp only [Nat.testBit_or, Bool.or_eq_false_iff, Nat.testBit_two_pow, decide_eq_false_iff_not] at hi
                have hi' : ops[i]? = some ops[i] := by simp [hilt]
                obtain ⟨z, hz, e1, e2, e3, e4, e5⟩ := hlater i ops[i] (fun e => hi.2 e.symm) hi' hi.1
                have hmt := mixTail_mem hb2 hz
                rw [hxro'] at hmt
                simp only [Bool.and_eq_true] at hmt
                right
                rw [← e3]
                exact sub_bits (Nat.eq_of_beq_eq_true hmt.2) hb
              · cases hi
          · intro y hy
            simp only [dropC, itOf, List.mem_filter, Bool.not_eq_true'] at hy
            exact hcells y hy.1 (by rw [haxD]; exact hy.2)

end
end Go.Den
