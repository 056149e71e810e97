/-
  A denotation of the model's code as one formula for each function (weakest preconditions over typed values), and its soundness. Part A: kinds of values, environments, single operations.
-/
import Derived.WalkKit
import Derived.StillTail
import Derived.KernelRfl
set_option linter.unusedSimpArgs false
set_option linter.unusedVariables false
namespace Go.Den

/-- A slice's value. -/
structure Sl where
  a : Option Addr
  len : Nat
  cap : Nat

def Sl.v (s : Sl) : Value := .slice s.a s.len s.cap

/-- Kinds of one-cell values. -/
inductive Kd where
  | i (k : IntKind) | b | s | p | sl | m | v

abbrev Kd.T : Kd → Type
  | .i _ => Int | .b => Bool | .s => ByteArray | .p => Option Addr | .sl => Sl | .m => Option Nat | .v => Value

def Kd.inj : (k : Kd) → k.T → Value
  | .i k, n => .int k n
  | .b, x => .bool x
  | .s, x => .string x
  | .p, x => .pointer x
  | .sl, x => .slice x.a x.len x.cap
  | .m, x => .map x
  | .v, x => x

def Kd.view : (k : Kd) → Value → (k.T → Prop) → Prop
  | .i k, .int k' n, f => cond (decide (k' = k)) (f n) False
  | .b, .bool x, f => f x
  | .s, .string x, f => f x
  | .p, .pointer x, f => f x
  | .sl, .slice a n c, f => f ⟨a, n, c⟩
  | .m, .map x, f => f x
  | .v, x, f => f x
  | _, _, _ => False

theorem Kd.of_view {k : Kd} {v : Value} {f : k.T → Prop} (h : k.view v f) : ∃ x, v = k.inj x ∧ f x := by
  cases k <;> cases v <;> simp only [Kd.view] at h <;> first
    | exact h.elim
    | exact ⟨_, rfl, h⟩
    | (rename_i k k' n
       cases hk : decide (k' = k) with
       | true => rw [hk] at h; obtain rfl := of_decide_eq_true hk; exact ⟨_, rfl, h⟩
       | false => rw [hk] at h; exact h.elim)

theorem Kd.view_inj {k : Kd} (x : k.T) (f : k.T → Prop) : k.view (k.inj x) f = f x := by
  cases k <;> simp [Kd.view, Kd.inj]

/-- Functions of several typed values. -/
def Fn : List Kd → Type → Type
  | [], R => R
  | k :: ks, R => k.T → Fn ks R

def viewL {R : Type} : (ks : List Kd) → List Value → (R → Prop) → Fn ks R → Prop
  | [], [], f, g => f g
  | k :: ks, v :: vs, f, g => k.view v fun x => viewL ks vs f (g x)
  | _, _, _, _ => False

def viewL2 {R S : Type} : (ks : List Kd) → List Value → (R → S → Prop) → Fn ks R → Fn ks S → Prop
  | [], [], f, g, h => f g h
  | k :: ks, v :: vs, f, g, h => k.view v fun x => viewL2 ks vs f (g x) (h x)
  | _, _, _, _, _ => False

def allK {R : Type} : (ks : List Kd) → Fn ks R → (List Value → R → Prop) → Prop
  | [], g, f => f [] g
  | k :: ks, g, f => ∀ x : k.T, allK ks (g x) fun vs r => f (k.inj x :: vs) r

def allK2 {R S : Type} : (ks : List Kd) → Fn ks R → Fn ks S → (List Value → R → S → Prop) → Prop
  | [], g, h, f => f [] g h
  | k :: ks, g, h, f => ∀ x : k.T, allK2 ks (g x) (h x) fun vs r s => f (k.inj x :: vs) r s

def curry {R : Type} : (ks : List Kd) → (List Value → R) → Fn ks R
  | [], f => f []
  | k :: ks, f => fun x => curry ks fun vs => f (k.inj x :: vs)

theorem of_viewL {R : Type} : ∀ {ks : List Kd} {vs : List Value} {f : R → Prop} {g : Fn ks R} {F : List Value → R → Prop},
    viewL ks vs f g → allK ks g F → ∃ r, f r ∧ F vs r
  | [], [], f, g, F, h, h2 => ⟨g, h, h2⟩
  | k :: ks, v :: vs, f, g, F, h, h2 => by
    obtain ⟨x, rfl, hx⟩ := Kd.of_view h
    exact of_viewL (F := fun vs r => F (k.inj x :: vs) r) hx (h2 x)
  | [], _ :: _, _, _, _, h, _ => h.elim
  | _ :: _, [], _, _, _, h, _ => h.elim

theorem of_viewL2 {R S : Type} : ∀ {ks : List Kd} {vs : List Value} {f : R → S → Prop} {g : Fn ks R} {h : Fn ks S} {F : List Value → R → S → Prop},
    viewL2 ks vs f g h → allK2 ks g h F → ∃ r s, f r s ∧ F vs r s
  | [], [], f, g, h, F, h1, h2 => ⟨g, h, h1, h2⟩
  | k :: ks, v :: vs, f, g, h, F, h1, h2 => by
    obtain ⟨x, rfl, hx⟩ := Kd.of_view h1
    exact of_viewL2 (F := fun vs r s => F (k.inj x :: vs) r s) hx (h2 x)
  | [], _ :: _, _, _, _, _, h, _ => h.elim
  | _ :: _, [], _, _, _, _, h, _ => h.elim

theorem of_viewL_curry {R : Type} : ∀ {ks : List Kd} {vs : List Value} {f : R → Prop} {F : List Value → R},
    viewL ks vs f (curry ks F) → f (F vs)
  | [], [], f, F, h => h
  | k :: ks, v :: vs, f, F, h => by
    obtain ⟨x, rfl, hx⟩ := Kd.of_view h
    exact of_viewL_curry (F := fun vs => F (k.inj x :: vs)) hx
  | [], _ :: _, _, _, h => h.elim
  | _ :: _, [], _, _, h => h.elim

/-- Shapes of values: one cell, or a struct's or array's cells. -/
inductive Sh where
  | one (k : Kd)
  | agg (ks : List Kd)

def Sh.kds : Sh → List Kd
  | .one k => [k]
  | .agg ks => ks

def kdsOf : List Sh → List Kd
  | [] => []
  | s :: r => s.kds ++ kdsOf r

def cellKd (d : TypeDesc) : Kd :=
  match d with
  | .int k => .i k
  | .bool => .b
  | .string => .s
  | .pointer _ => .p
  | .slice _ => .sl
  | .map _ _ => .m
  | _ => .v

/-- The kinds of a type's cells, in order. -/
def cellKds (P : Program) : Nat → TypeId → List Kd
  | 0, _ => [.v]
  | n + 1, t =>
    match P.underlying t with
    | some (.struct fs) => fs.toList.flatMap fun f => cellKds P n f.type
    | some (.array len e) => (List.replicate len (cellKds P n e)).flatten
    | some d => [cellKd d]
    | none => [.v]

def isAggD : TypeDesc → Bool
  | .struct _ | .array _ _ => true
  | _ => false

def shapeOf (P : Program) (t : TypeId) : Sh :=
  match P.underlying t with
  | some (.struct fs) => .agg (cellKds P 16 t)
  | some (.array n e) => .agg (cellKds P 16 t)
  | some d => .one (cellKd d)
  | none => .one .v

/-- Values of several shapes out of their cells, and back. -/
def unflat : List Sh → List Value → List Value
  | [], _ => []
  | .one _ :: r, v :: vs => v :: unflat r vs
  | .one _ :: r, [] => []
  | .agg ks :: r, vs => .agg (vs.take ks.length).toArray :: unflat r (vs.drop ks.length)

def flat1 : Sh → Value → Option (List Value)
  | .one _, v => some [v]
  | .agg ks, .agg cs => cond (Nat.beq cs.size ks.length) (some cs.toList) none
  | .agg _, _ => none

def flat : List Sh → List Value → Option (List Value)
  | [], [] => some []
  | s :: r, v :: vs => match flat1 s v, flat r vs with
    | some x, some y => some (x ++ y)
    | _, _ => none
  | _, _ => none

theorem unflat_flat : ∀ {shs : List Sh} {vs cs : List Value}, flat shs vs = some cs → unflat shs cs = vs
  | [], [], cs, h => by simp only [flat, Option.some.injEq] at h; subst h; rfl
  | s :: r, v :: vs, cs, h => by
    simp only [flat] at h
    cases h1 : flat1 s v with
    | none => simp [h1] at h
    | some x =>
      cases h2 : flat r vs with
      | none => simp [h1, h2] at h
      | some y =>
        simp only [h1, h2, Option.some.injEq] at h
        subst h
        have ih := unflat_flat h2
        cases s with
        | one k => simp only [flat1, Option.some.injEq] at h1; subst h1; simp [unflat, ih]
        | agg ks =>
          cases v <;> simp only [flat1] at h1 <;> try (cases h1; done)
          rename_i c
          cases hb : Nat.beq c.size ks.length with
          | false => simp [hb] at h1
          | true =>
            simp only [hb, cond_true, Option.some.injEq] at h1
            subst h1
            have hl : c.toList.length = ks.length := by simpa using Nat.eq_of_beq_eq_true hb
            have h3 : List.take ks.length (c.toList ++ y) = c.toList := by rw [← hl]; exact List.take_left
            have h4 : List.drop ks.length (c.toList ++ y) = y := by rw [← hl]; exact List.drop_left
            simp only [unflat, h3, h4, ih]
  | [], _ :: _, _, h => by simp [flat] at h
  | _ :: _, [], _, h => by simp [flat] at h

/-- A function's results as one value. -/
def mkRes : List Value → Value
  | [v] => v
  | vs => .tuple vs.toArray

def resList : List Sh → Value → Option (List Value)
  | [_], v => some [v]
  | _, .tuple vs => some vs.toList
  | _, _ => none

theorem mkRes_resList {shs : List Sh} {v : Value} {vs : List Value} (h : resList shs v = some vs) (hl : vs.length = shs.length) : mkRes vs = v := by
  unfold resList at h
  split at h
  · simp only [Option.some.injEq] at h; subst h; rfl
  · rename_i ws hne
    simp only [Option.some.injEq] at h
    subst h
    unfold mkRes
    split
    · rename_i x hx
      rw [hx] at hl
      match shs, hl with
      | [s], _ => exact absurd rfl (hne s)
    · simp
  · cases h

/-- What is asked of results of known shapes. -/
def viewRet (shs : List Sh) (v : Value) (R : Fn (kdsOf shs) (World → Prop)) (w : World) : Prop :=
  match resList shs v with
  | some vs => match flat shs vs with
    | some cs => viewL (kdsOf shs) cs (fun r => r w) R
    | none => False
  | none => False

theorem flat_length : ∀ {shs : List Sh} {vs cs : List Value}, flat shs vs = some cs → vs.length = shs.length
  | [], [], _, _ => rfl
  | s :: r, v :: vs, cs, h => by
    simp only [flat] at h
    cases h2 : flat r vs with
    | none => cases h1 : flat1 s v <;> simp [h1, h2] at h
    | some y => simp [flat_length h2]
  | [], _ :: _, _, h => by simp [flat] at h
  | _ :: _, [], _, h => by simp [flat] at h

theorem of_viewRet_curry {shs : List Sh} {v : Value} {F : List Value → World → Prop} {w : World}
    (h : viewRet shs v (curry (kdsOf shs) F) w) : ∃ cs, F cs w ∧ mkRes (unflat shs cs) = v := by
  unfold viewRet at h
  split at h
  · rename_i vs hv
    split at h
    · rename_i cs hc
      exact ⟨cs, of_viewL_curry h, by rw [unflat_flat hc]; exact mkRes_resList hv (flat_length hc)⟩
    · exact h.elim
  · exact h.elim

/-! ### Atoms of the formulas -/

/-- The pointer is not nil. -/
def NN (p : Option Addr) (K : Addr → Prop) : Prop :=
  match p with
  | some a => K a
  | none => False

/-- A load of one cell. -/
def Ld (k : Kd) (w : World) (a : Addr) (K : k.T → Prop) : Prop := ∃ x, w.cell? a = some (k.inj x) ∧ K x

/-- A load of several cells. -/
def LdL (w : World) (a : Addr) : List Kd → Nat → (List Value → Prop) → Prop
  | [], _, K => K []
  | k :: ks, i, K => Ld k w (a.add i) fun x => LdL w a ks (i + 1) fun vs => K (k.inj x :: vs)

/-- A store of one cell. -/
def St (a : Addr) (v : Value) (w : World) (K : World → Prop) : Prop :=
  v.oneCell' = true ∧ (w.cell? a).isSome = true ∧ w.frozen? a = false ∧ K (w.setCell a v)

def StL (a : Addr) : List Value → Nat → World → (World → Prop) → Prop
  | [], _, w, K => K w
  | v :: vs, i, w, K => St (a.add i) v w fun w' => StL a vs (i + 1) w' K

/-- A new block. -/
def Nw (o : Obj) (w : World) (K : Addr → World → Prop) : Prop := K ⟨w.heap.size, 0, none⟩ (w.alloc o)

/-- An index into a slice: the element's address. -/
def Ix (s : Option Addr) (len : Nat) (i : Int) (sz : Nat) (K : Addr → Prop) : Prop :=
  0 ≤ i ∧ i < len ∧ NN s fun a => K (a.add (i.toNat * sz))

/-- An index into an array: the element's address. -/
def IxA (a : Addr) (len : Nat) (i : Int) (sz : Nat) (K : Addr → Prop) : Prop :=
  0 ≤ i ∧ i < len ∧ K (a.add (i.toNat * sz))

/-- The slice of bytes holds these. -/
def BytesAt (w : World) (s : Sl) (b : ByteArray) : Prop :=
  b.data.toList.length = s.len ∧ ((s.a = none ∧ s.len = 0) ∨ ∃ a, s.a = some a ∧ ∀ j x, b.data.toList[j]? = some x → w.cell? (a.add j) = some (.int .u8 x.toNat))

/-- A slice of bytes read as a string. -/
def RdB (w : World) (s : Sl) (K : ByteArray → Prop) : Prop := ∃ b, BytesAt w s b ∧ K b

/-- What is held to be as it was. -/
inductive Hold where
  | cell (a : Addr) (v : Value)
  | bytes (s : Sl) (b : ByteArray)

def holdAt (w : World) : Hold → Prop
  | .cell a v => w.cell? a = some v
  | .bytes s b => BytesAt w s b

/-- A byte of a string. -/
def IxS (s : ByteArray) (i : Int) (K : Int → Prop) : Prop :=
  0 ≤ i ∧ ∃ b, s[i.toNat]? = some b ∧ K (b.toNat : Int)

/-- A piece of a slice. -/
def Cut (s : Sl) (l h m : Int) (sz : Nat) (K : Sl → Prop) : Prop :=
  0 ≤ l ∧ l ≤ h ∧ h ≤ m ∧ m ≤ s.cap ∧
    K ⟨if m.toNat = l.toNat then s.a else s.a.map (·.add (l.toNat * sz)), h.toNat - l.toNat, m.toNat - l.toNat⟩

/-- A piece of an array. -/
def CutA (a : Addr) (n : Nat) (l h m : Int) (sz : Nat) (K : Sl → Prop) : Prop :=
  0 ≤ l ∧ l ≤ h ∧ h ≤ m ∧ m ≤ n ∧
    K ⟨some (if m.toNat = l.toNat then a else a.add (l.toNat * sz)), h.toNat - l.toNat, m.toNat - l.toNat⟩

/-- A piece of a string. -/
def CutS (s : ByteArray) (l h : Int) (K : ByteArray → Prop) : Prop :=
  0 ≤ l ∧ l ≤ h ∧ h ≤ s.size ∧ K (s.extract l.toNat h.toNat)

/-- A world with further blocks. -/
def Ext (w w' : World) : Prop := w.heap.size ≤ w'.heap.size ∧ ∀ b, b < w.heap.size → w'.heap[b]? = w.heap[b]?

theorem Ext.refl (w : World) : Ext w w := ⟨Nat.le_refl _, fun _ _ => rfl⟩
theorem Ext.trans {a b c : World} (h : Ext a b) (h' : Ext b c) : Ext a c :=
  ⟨Nat.le_trans h.1 h'.1, fun k hk => (h'.2 k (Nat.lt_of_lt_of_le hk h.1)).trans (h.2 k hk)⟩
theorem Ext.alloc (w : World) (o : Obj) : Ext w (w.alloc o) :=
  ⟨by simp, fun b hb => by simp only [World.alloc]; rw [Array.getElem?_push]; rw [if_neg (by omega)]⟩
theorem Ext.cell {w w' : World} (h : Ext w w') {a : Addr} {v : Value} (hc : w.cell? a = some v) : w'.cell? a = some v := by
  have hb := World.block_lt_of_cell? w a hc
  unfold World.cell? at hc ⊢
  rw [h.2 a.block hb]
  exact hc

theorem Ext.hold {w w' : World} (h : Ext w w') {x : Hold} (hc : holdAt w x) : holdAt w' x := by
  cases x with
  | cell a v => exact h.cell hc
  | bytes s b =>
    obtain ⟨h1, h2⟩ := hc
    refine ⟨h1, h2.imp id ?_⟩
    rintro ⟨a, ha, hb⟩
    exact ⟨a, ha, fun j x hj => h.cell (hb j x hj)⟩

/-- Whatever runs and leaves the world alone, also where further blocks lie. -/
def RunRo (k : Kd) (P : Program) (sem : Sem Value) (w : World) (K : k.T → Prop) : Prop :=
  ∃ x, (∀ w', Ext w w' → sem.run P w' = .ok (k.inj x) w') ∧ K x

/-- Whatever runs. -/
def Run (k : Kd) (P : Program) (sem : Sem Value) (w : World) (K : k.T → World → Prop) : Prop :=
  ∃ x w', sem.run P w = .ok (k.inj x) w' ∧ K x w'

/-- Whatever runs, with several results. -/
def RunL (shs : List Sh) (P : Program) (sem : Sem Value) (w : World) (R : Fn (kdsOf shs) (World → Prop)) : Prop :=
  ∃ v w', sem.run P w = .ok v w' ∧ viewRet shs v R w'

def RunU (P : Program) (sem : Sem Unit) (w : World) (K : World → Prop) : Prop :=
  ∃ w', sem.run P w = .ok () w' ∧ K w'

/-- A call of a Go function that returns. -/
def CallK (P : Program) (f : FuncId) (args : List Value) (shs : List Sh) (w : World) (R : Fn (kdsOf shs) (World → Prop)) : Prop :=
  Calls P f args.toArray w fun e w' => ∃ v, e = .returned v ∧ viewRet shs v R w'

theorem of_Ld {k : Kd} {w : World} {a : Addr} {K : k.T → Prop} (h : Ld k w a K) : ∃ x, w.cell? a = some (k.inj x) ∧ K x := h

theorem of_LdL {w : World} {a : Addr} : ∀ {ks : List Kd} {i : Nat} {K : List Value → Prop}, LdL w a ks i K →
    ∃ vs, vs.length = ks.length ∧ (∀ j v, vs[j]? = some v → w.cell? (a.add (i + j)) = some v) ∧ K vs
  | [], i, K, h => ⟨[], rfl, by simp, h⟩
  | k :: ks, i, K, h => by
    obtain ⟨x, hx, h⟩ := h
    obtain ⟨vs, hl, hc, hK⟩ := of_LdL h
    refine ⟨k.inj x :: vs, by simp [hl], fun j v hj => ?_, hK⟩
    cases j with
    | zero => simp only [List.getElem?_cons_zero, Option.some.injEq] at hj; subst hj; exact hx
    | succ j => have := hc j v (by simpa using hj); rwa [show i + 1 + j = i + (j + 1) by omega] at this

theorem of_StL {P : Program} {a : Addr} : ∀ {vs : List Value} {i : Nat} {w : World} {K : World → Prop}, StL a vs i w K →
    ∃ w', (storeCells a vs i).run P w = .ok () w' ∧ K w'
  | [], i, w, K, h => ⟨w, rfl, h⟩
  | v :: vs, i, w, K, h => by
    obtain ⟨h1, h2, h3, h4⟩ := h
    obtain ⟨w', hr, hK⟩ := of_StL (P := P) h4
    obtain ⟨u, hu⟩ := Option.isSome_iff_exists.1 h2
    refine ⟨w', ?_, hK⟩
    simp only [storeCells, Sem.run_bind, run_store P w (a.add i) v .plain h1, hu, h3]
    simpa using hr

end Go.Den
