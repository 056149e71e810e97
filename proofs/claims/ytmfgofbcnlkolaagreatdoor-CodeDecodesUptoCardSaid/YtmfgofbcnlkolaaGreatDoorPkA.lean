/-
  Part 1 of the proof: CodeDecodes is true of the given program where what it reads is of bulk at most 1048576: its row, and the card tied to the program's text.
-/
import Derived.WalkKit
import Derived.StillTail
import Derived.KernelRfl
import Derived.Laws.BytesArg
import Derived.Deep.LoopGhost
import Derived.OrdersHeld
set_option linter.unusedSimpArgs false
set_option linter.unusedVariables false
set_option maxRecDepth 100000
section
namespace Go.Den
structure Sl where
 a : Option Addr
 len : Nat
 cap : Nat
def Sl.v (s : Sl) : Value := .slice s.a s.len s.cap
inductive Kd where
 | i (k : IntKind) | b | s | p | sl | m | v
abbrev Kd.T : Kd → Type
 | .i _ => Int | .b => Bool | .s => ByteArray | .p => Option Addr | .sl => Sl | .m => Option Nat | .v => Value
def Kd.inj : (k : Kd) → k.T → Value
 | .i k, n => .int k n
 | .b, x => .bool x
 | .s, x => .string x
 | .p, x => .pointer x
 | .sl, x => .slice x.a x.len x.cap
 | .m, x => .map x
 | .v, x => x
def Kd.view : (k : Kd) → Value → (k.T → Prop) → Prop
 | .i k, .int k' n, f => cond (decide (k' = k)) (f n) False
 | .b, .bool x, f => f x
 | .s, .string x, f => f x
 | .p, .pointer x, f => f x
 | .sl, .slice a n c, f => f ⟨a, n, c⟩
 | .m, .map x, f => f x
 | .v, x, f => f x
 | _, _, _ => False
theorem Kd.of_view {k : Kd} {v : Value} {f : k.T → Prop} (h : k.view v f) : ∃ x, v = k.inj x ∧ f x := by
  cases k <;> cases v <;> simp only [Kd.view] at h <;> first
    | exact h.elim
    | exact ⟨_, rfl, h⟩
    | (rename_i k k' n
       cases hk : decide (k' = k) with
       | true => rw [hk] at h; obtain rfl := of_decide_eq_true hk; exact ⟨_, rfl, h⟩
       | false => rw [hk] at h; exact h.elim)
def Fn : List Kd → Type → Type
 | [], R => R
 | k :: ks, R => k.T → Fn ks R
def viewL {R : Type} : (ks : List Kd) → List Value → (R → Prop) → Fn ks R → Prop
 | [], [], f, g => f g
 | k :: ks, v :: vs, f, g => k.view v fun x => viewL ks vs f (g x)
 | _, _, _, _ => False
def allK {R : Type} : (ks : List Kd) → Fn ks R → (List Value → R → Prop) → Prop
 | [], g, f => f [] g
 | k :: ks, g, f => ∀ x : k.T, allK ks (g x) fun vs r => f (k.inj x :: vs) r
def curry {R : Type} : (ks : List Kd) → (List Value → R) → Fn ks R
 | [], f => f []
 | k :: ks, f => fun x => curry ks fun vs => f (k.inj x :: vs)
theorem of_viewL {R : Type} : ∀ {ks : List Kd} {vs : List Value} {f : R → Prop} {g : Fn ks R} {F : List Value → R → Prop},
  viewL ks vs f g → allK ks g F → ∃ r, f r ∧ F vs r
 | [], [], f, g, F, h, h2 => ⟨g, h, h2⟩
 | k :: ks, v :: vs, f, g, F, h, h2 => by
  obtain ⟨x, rfl, hx⟩ := Kd.of_view h
  exact of_viewL (F := fun vs r => F (k.inj x :: vs) r) hx (h2 x)
 | [], _ :: _, _, _, _, h, _ => h.elim
 | _ :: _, [], _, _, _, h, _ => h.elim
theorem of_viewL_curry {R : Type} : ∀ {ks : List Kd} {vs : List Value} {f : R → Prop} {F : List Value → R},
  viewL ks vs f (curry ks F) → f (F vs)
 | [], [], f, F, h => h
 | k :: ks, v :: vs, f, F, h => by
  obtain ⟨x, rfl, hx⟩ := Kd.of_view h
  exact of_viewL_curry (F := fun vs => F (k.inj x :: vs)) hx
 | [], _ :: _, _, _, h => h.elim
 | _ :: _, [], _, _, h => h.elim
inductive Sh where
 | one (k : Kd)
 | agg (ks : List Kd)
def Sh.kds : Sh → List Kd
 | .one k => [k]
 | .agg ks => ks
def kdsOf : List Sh → List Kd
 | [] => []
 | s :: r => s.kds ++ kdsOf r
def cellKd (d : TypeDesc) : Kd :=
 match d with
 | .int k => .i k
 | .bool => .b
 | .string => .s
 | .pointer _ => .p
 | .slice _ => .sl
 | .map _ _ => .m
 | _ => .v
def cellKds (P : Program) : Nat → TypeId → List Kd
 | 0, _ => [.v]
 | n + 1, t =>
  match P.underlying t with
  | some (.struct fs) => fs.toList.flatMap fun f => cellKds P n f.type
  | some (.array len e) => (List.replicate len (cellKds P n e)).flatten
  | some d => [cellKd d]
  | none => [.v]
def isAggD : TypeDesc → Bool
 | .struct _ | .array _ _ => true
 | _ => false
def shapeOf (P : Program) (t : TypeId) : Sh :=
 match P.underlying t with
 | some (.struct fs) => .agg (cellKds P 16 t)
 | some (.array n e) => .agg (cellKds P 16 t)
 | some d => .one (cellKd d)
 | none => .one .v
def unflat : List Sh → List Value → List Value
 | [], _ => []
 | .one _ :: r, v :: vs => v :: unflat r vs
 | .one _ :: r, [] => []
 | .agg ks :: r, vs => .agg (vs.take ks.length).toArray :: unflat r (vs.drop ks.length)
def flat1 : Sh → Value → Option (List Value)
 | .one _, v => some [v]
 | .agg ks, .agg cs => cond (Nat.beq cs.size ks.length) (some cs.toList) none
 | .agg _, _ => none
def flat : List Sh → List Value → Option (List Value)
 | [], [] => some []
 | s :: r, v :: vs => match flat1 s v, flat r vs with
  | some x, some y => some (x ++ y)
  | _, _ => none
 | _, _ => none
theorem unflat_flat : ∀ {shs : List Sh} {vs cs : List Value}, flat shs vs = some cs → unflat shs cs = vs
 | [], [], cs, h => by simp only [flat, Option.some.injEq] at h; subst h; rfl
 | s :: r, v :: vs, cs, h => by
  simp only [flat] at h
  cases h1 : flat1 s v with
  | none => simp [h1] at h
  | some x =>
   cases h2 : flat r vs with
   | none => simp [h1, h2] at h
   | some y =>
    simp only [h1, h2, Option.some.injEq] at h
    subst h
    have ih := unflat_flat h2
    cases s with
    | one k => simp only [flat1, Option.some.injEq] at h1; subst h1; simp [unflat, ih]
    | agg ks =>
     cases v <;> simp only [flat1] at h1 <;> try (cases h1; done)
     rename_i c
     cases hb : Nat.beq c.size ks.length with
     | false => simp [hb] at h1
     | true =>
      simp only [hb, cond_true, Option.some.injEq] at h1
      subst h1
      have hl : c.toList.length = ks.length := by simpa using Nat.eq_of_beq_eq_true hb
      have h3 : List.take ks.length (c.toList ++ y) = c.toList := by rw [← hl]; exact List.take_left
      have h4 : List.drop ks.length (c.toList ++ y) = y := by rw [← hl]; exact List.drop_left
      simp only [unflat, h3, h4, ih]
 | [], _ :: _, _, h => by simp [flat] at h
 | _ :: _, [], _, h => by simp [flat] at h
def mkRes : List Value → Value
 | [v] => v
 | vs => .tuple vs.toArray
def resList : List Sh → Value → Option (List Value)
 | [_], v => some [v]
 | _, .tuple vs => some vs.toList
 | _, _ => none
theorem mkRes_resList {shs : List Sh} {v : Value} {vs : List Value} (h : resList shs v = some vs) (hl : vs.length = shs.length) : mkRes vs = v := by
 unfold resList at h
 split at h
 ·simp only [Option.some.injEq] at h; subst h; rfl
 ·rename_i ws hne
  simp only [Option.some.injEq] at h
  subst h
  unfold mkRes
  split
  ·rename_i x hx
   rw [hx] at hl
   match shs, hl with
   | [s], _ => exact absurd rfl (hne s)
  ·simp
 ·cases h
def viewRet (shs : List Sh) (v : Value) (R : Fn (kdsOf shs) (World → Prop)) (w : World) : Prop :=
 match resList shs v with
 | some vs => match flat shs vs with
  | some cs => viewL (kdsOf shs) cs (fun r => r w) R
  | none => False
 | none => False
theorem flat_length : ∀ {shs : List Sh} {vs cs : List Value}, flat shs vs = some cs → vs.length = shs.length
 | [], [], _, _ => rfl
 | s :: r, v :: vs, cs, h => by
  simp only [flat] at h
  cases h2 : flat r vs with
  | none => cases h1 : flat1 s v <;> simp [h1, h2] at h
  | some y => simp [flat_length h2]
 | [], _ :: _, _, h => by simp [flat] at h
 | _ :: _, [], _, h => by simp [flat] at h
theorem of_viewRet_curry {shs : List Sh} {v : Value} {F : List Value → World → Prop} {w : World}
  (h : viewRet shs v (curry (kdsOf shs) F) w) : ∃ cs, F cs w ∧ mkRes (unflat shs cs) = v := by
 unfold viewRet at h
 split at h
 ·rename_i vs hv
  split at h
  ·rename_i cs hc
   exact ⟨cs, of_viewL_curry h, by rw [unflat_flat hc]; exact mkRes_resList hv (flat_length hc)⟩
  ·exact h.elim
 ·exact h.elim
def NN (p : Option Addr) (K : Addr → Prop) : Prop :=
 match p with
 | some a => K a
 | none => False
def Ld (k : Kd) (w : World) (a : Addr) (K : k.T → Prop) : Prop := ∃ x, w.cell? a = some (k.inj x) ∧ K x
def LdL (w : World) (a : Addr) : List Kd → Nat → (List Value → Prop) → Prop
 | [], _, K => K []
 | k :: ks, i, K => Ld k w (a.add i) fun x => LdL w a ks (i + 1) fun vs => K (k.inj x :: vs)
def St (a : Addr) (v : Value) (w : World) (K : World → Prop) : Prop :=
 v.oneCell' = true ∧ (w.cell? a).isSome = true ∧ w.frozen? a = false ∧ K (w.setCell a v)
def StL (a : Addr) : List Value → Nat → World → (World → Prop) → Prop
 | [], _, w, K => K w
 | v :: vs, i, w, K => St (a.add i) v w fun w' => StL a vs (i + 1) w' K
def Nw (o : Obj) (w : World) (K : Addr → World → Prop) : Prop := K ⟨w.heap.size, 0, none⟩ (w.alloc o)
def Ix (s : Option Addr) (len : Nat) (i : Int) (sz : Nat) (K : Addr → Prop) : Prop :=
 0 ≤ i ∧ i < len ∧ NN s fun a => K (a.add (i.toNat * sz))
def IxA (a : Addr) (len : Nat) (i : Int) (sz : Nat) (K : Addr → Prop) : Prop :=
 0 ≤ i ∧ i < len ∧ K (a.add (i.toNat * sz))
def BytesAt (w : World) (s : Sl) (b : ByteArray) : Prop :=
 b.data.toList.length = s.len ∧ ((s.a = none ∧ s.len = 0) ∨ ∃ a, s.a = some a ∧ ∀ j x, b.data.toList[j]? = some x → w.cell? (a.add j) = some (.int .u8 x.toNat))
def RdB (w : World) (s : Sl) (K : ByteArray → Prop) : Prop := ∃ b, BytesAt w s b ∧ K b
inductive Hold where
 | cell (a : Addr) (v : Value)
 | bytes (s : Sl) (b : ByteArray)
def holdAt (w : World) : Hold → Prop
 | .cell a v => w.cell? a = some v
 | .bytes s b => BytesAt w s b
def IxS (s : ByteArray) (i : Int) (K : Int → Prop) : Prop :=
 0 ≤ i ∧ ∃ b, s[i.toNat]? = some b ∧ K (b.toNat : Int)
def Cut (s : Sl) (l h m : Int) (sz : Nat) (K : Sl → Prop) : Prop :=
 0 ≤ l ∧ l ≤ h ∧ h ≤ m ∧ m ≤ s.cap ∧
  K ⟨if m.toNat = l.toNat then s.a else s.a.map (·.add (l.toNat * sz)), h.toNat - l.toNat, m.toNat - l.toNat⟩
def CutA (a : Addr) (n : Nat) (l h m : Int) (sz : Nat) (K : Sl → Prop) : Prop :=
 0 ≤ l ∧ l ≤ h ∧ h ≤ m ∧ m ≤ n ∧
  K ⟨some (if m.toNat = l.toNat then a else a.add (l.toNat * sz)), h.toNat - l.toNat, m.toNat - l.toNat⟩
def CutS (s : ByteArray) (l h : Int) (K : ByteArray → Prop) : Prop :=
 0 ≤ l ∧ l ≤ h ∧ h ≤ s.size ∧ K (s.extract l.toNat h.toNat)
def Ext (w w' : World) : Prop := w.heap.size ≤ w'.heap.size ∧ ∀ b, b < w.heap.size → w'.heap[b]? = w.heap[b]?
theorem Ext.refl (w : World) : Ext w w := ⟨Nat.le_refl _, fun _ _ => rfl⟩
theorem Ext.trans {a b c : World} (h : Ext a b) (h' : Ext b c) : Ext a c :=
 ⟨Nat.le_trans h.1 h'.1, fun k hk => (h'.2 k (Nat.lt_of_lt_of_le hk h.1)).trans (h.2 k hk)⟩
theorem Ext.alloc (w : World) (o : Obj) : Ext w (w.alloc o) :=
 ⟨by simp, fun b hb => by simp only [World.alloc]; rw [Array.getElem?_push]; rw [if_neg (by omega)]⟩
theorem Ext.cell {w w' : World} (h : Ext w w') {a : Addr} {v : Value} (hc : w.cell? a = some v) : w'.cell? a = some v := by
 have hb := World.block_lt_of_cell? w a hc
 unfold World.cell? at hc ⊢
 rw [h.2 a.block hb]
 exact hc
theorem Ext.hold {w w' : World} (h : Ext w w') {x : Hold} (hc : holdAt w x) : holdAt w' x := by
 cases x with
 | cell a v => exact h.cell hc
 | bytes s b =>
  obtain ⟨h1, h2⟩ := hc
  refine ⟨h1, h2.imp id ?_⟩
  rintro ⟨a, ha, hb⟩
  exact ⟨a, ha, fun j x hj => h.cell (hb j x hj)⟩
def RunRo (k : Kd) (P : Program) (sem : Sem Value) (w : World) (K : k.T → Prop) : Prop :=
 ∃ x, (∀ w', Ext w w' → sem.run P w' = .ok (k.inj x) w') ∧ K x
def Run (k : Kd) (P : Program) (sem : Sem Value) (w : World) (K : k.T → World → Prop) : Prop :=
 ∃ x w', sem.run P w = .ok (k.inj x) w' ∧ K x w'
def RunL (shs : List Sh) (P : Program) (sem : Sem Value) (w : World) (R : Fn (kdsOf shs) (World → Prop)) : Prop :=
 ∃ v w', sem.run P w = .ok v w' ∧ viewRet shs v R w'
def RunU (P : Program) (sem : Sem Unit) (w : World) (K : World → Prop) : Prop :=
 ∃ w', sem.run P w = .ok () w' ∧ K w'
def CallK (P : Program) (f : FuncId) (args : List Value) (shs : List Sh) (w : World) (R : Fn (kdsOf shs) (World → Prop)) : Prop :=
 Calls P f args.toArray w fun e w' => ∃ v, e = .returned v ∧ viewRet shs v R w'
theorem of_LdL {w : World} {a : Addr} : ∀ {ks : List Kd} {i : Nat} {K : List Value → Prop}, LdL w a ks i K →
  ∃ vs, vs.length = ks.length ∧ (∀ j v, vs[j]? = some v → w.cell? (a.add (i + j)) = some v) ∧ K vs
 | [], i, K, h => ⟨[], rfl, by simp, h⟩
 | k :: ks, i, K, h => by
  obtain ⟨x, hx, h⟩ := h
  obtain ⟨vs, hl, hc, hK⟩ := of_LdL h
  refine ⟨k.inj x :: vs, by simp [hl], fun j v hj => ?_, hK⟩
  cases j with
  | zero => simp only [List.getElem?_cons_zero, Option.some.injEq] at hj; subst hj; exact hx
  | succ j => have := hc j v (by simpa using hj); rwa [show i + 1 + j = i + (j + 1) by omega] at this
theorem of_StL {P : Program} {a : Addr} : ∀ {vs : List Value} {i : Nat} {w : World} {K : World → Prop}, StL a vs i w K →
  ∃ w', (storeCells a vs i).run P w = .ok () w' ∧ K w'
 | [], i, w, K, h => ⟨w, rfl, h⟩
 | v :: vs, i, w, K, h => by
  obtain ⟨h1, h2, h3, h4⟩ := h
  obtain ⟨w', hr, hK⟩ := of_StL (P := P) h4
  obtain ⟨u, hu⟩ := Option.isSome_iff_exists.1 h2
  refine ⟨w', ?_, hK⟩
  simp only [storeCells, Sem.run_bind, run_store P w (a.add i) v .plain h1, hu, h3]
  simpa using hr
def kdB : Kd → Value → Bool
 | .i k, .int k' _ => decide (k' = k)
 | .b, .bool _ => true
 | .s, .string _ => true
 | .p, .pointer _ => true
 | .sl, .slice _ _ _ => true
 | .m, .map _ => true
 | _, _ => false
theorem cells_of_kdB {k : Kd} {v : Value} (h : kdB k v = true) : v.cells = #[v] := by
 cases k <;> cases v <;> simp_all [kdB, Value.cells]
def dCells (P : Program) (t : TypeId) (v : Value) (K : List Value → Prop) : Prop :=
 match shapeOf P t with
 | .one .v => v.oneCell' = true ∧ K [v]
 | .one k => cond (kdB k v) (K [v]) False
 | .agg ks => match v with
  | .agg cs => cond (Nat.beq cs.size ks.length) (K cs.toList) False
  | _ => False
theorem of_dCells {P : Program} {t : TypeId} {v : Value} {K : List Value → Prop} (h : dCells P t v K) : K v.cells.toList := by
 unfold dCells at h
 split at h
 ·obtain ⟨h1, h2⟩ := h
  have : v.cells = #[v] := by cases v <;> simp_all [Value.oneCell', Value.cells]
  rw [this]; exact h2
 ·rename_i k _ _
  cases hb : kdB k v with
  | true => rw [hb] at h; rw [cells_of_kdB hb]; exact h
  | false => rw [hb] at h; exact h.elim
 ·rename_i ks hks
  split at h
  ·rename_i cs
   cases hb : Nat.beq cs.size ks.length with
   | true => rw [hb] at h; exact h
   | false => rw [hb] at h; exact h.elim
  ·exact h.elim
def dFill (P : Program) (places : List (Nat × Nat × TypeId)) (cells : List Value) : List (Nat × Value) → (List Value → Prop) → Prop
 | [], K => K cells
 | (i, v) :: rest, K =>
  match places[i]? with
  | none => False
  | some (off, size, t) => dCells P t v fun cs =>
    cond (Nat.beq cs.length size && Nat.ble (off + size) cells.length)
     (dFill P places (cells.take off ++ cs ++ cells.drop (off + size)) rest K) False
theorem foldl_set_eq (off : Nat) : ∀ (cs : List Value) (j : Nat) (c : Array Value), off + j + cs.length ≤ c.size →
  ((cs.zipIdx j).foldl (fun acc (x : Value × Nat) => acc.setIfInBounds (off + x.2) x.1) c).toList = c.toList.take (off + j) ++ cs ++ c.toList.drop (off + j + cs.length)
 | [], j, c, _ => by simp
 | v :: cs, j, c, h => by
  simp only [List.length_cons] at h
  have ih := foldl_set_eq off cs (j + 1) (c.setIfInBounds (off + j) v) (by simp; omega)
  simp only [List.zipIdx_cons, List.foldl_cons]
  rw [ih]
  have e1 : off + (j + 1) = off + j + 1 := by omega
  have e2 : off + j + (v :: cs).length = off + j + 1 + cs.length := by simp; omega
  rw [e1, e2]
  have hlt : off + j < c.toList.length := by simp; omega
  simp only [Array.toList_setIfInBounds]
  have h1 : List.take (off + j + 1) (c.toList.set (off + j) v) = c.toList.take (off + j) ++ [v] := by
   rw [List.take_set, List.take_succ_eq_append_getElem hlt]
   have : (List.take (off + j) c.toList).length = off + j := by simp; omega
   rw [List.set_append_right _ _ (by omega)]
   simp [this]
  have h2 : List.drop (off + j + 1 + cs.length) (c.toList.set (off + j) v) = List.drop (off + j + 1 + cs.length) c.toList := by
   rw [List.drop_set_of_lt (by omega)]
  rw [h1, h2]
  simp [List.append_assoc]
theorem of_dFill {P : Program} {places : List (Nat × Nat × TypeId)} : ∀ {parts : List (Nat × Value)} {cells : List Value} {K : List Value → Prop},
  dFill P places cells parts K → ∃ cs, Instr.fill (fun i => (places[i]?).map fun x => (x.1, x.2.1)) cells.toArray parts = some cs ∧ K cs.toList
 | [], cells, K, h => ⟨cells.toArray, rfl, h⟩
 | (i, v) :: rest, cells, K, h => by
  simp only [dFill] at h
  cases hp : places[i]? with
  | none => simp [hp] at h
  | some x =>
   obtain ⟨off, size, t⟩ := x
   simp only [hp] at h
   have h1 := of_dCells h
   cases hb : (Nat.beq v.cells.toList.length size && Nat.ble (off + size) cells.length) with
   | false => rw [hb] at h1; exact h1.elim
   | true =>
    rw [hb] at h1
    simp only [cond_true] at h1
    obtain ⟨cs, hc, hK⟩ := of_dFill h1
    simp only [Bool.and_eq_true] at hb
    have e1 : v.cells.size = size := by simpa using Nat.eq_of_beq_eq_true hb.1
    have e2 : off + size ≤ cells.length := Nat.le_of_ble_eq_true hb.2
    refine ⟨cs, ?_, hK⟩
    simp only [Instr.fill, hp, Option.map_some]
    rw [if_neg (by simp [e1]; omega)]
    rw [← hc]
    congr 1
    apply Array.ext'
    have := foldl_set_eq off v.cells.toList 0 cells.toArray (by simp [e1]; omega)
    simp only [Nat.add_zero, Array.length_toList, e1] at this
    rw [← Array.foldl_toList, Array.toList_zipIdx]
    exact this
def pureBin (P : Program) (op : BinOp) (t : TypeId) (cy : Bool) (x y : Value) : Option Value :=
  match x, y with
  | .int k a, .int k' b =>
    cond (decide (k = k'))
      (match op with
       | .add => some (.int k (k.wrap (a + b)))
       | .sub => some (.int k (k.wrap (a - b)))
       | .mul => some (.int k (k.wrap (a * b)))
       | .and => some (.int k (k.wrap ((BitVec.ofInt k.bits a &&& BitVec.ofInt k.bits b).toNat : Nat)))
       | .or => some (.int k (k.wrap ((BitVec.ofInt k.bits a ||| BitVec.ofInt k.bits b).toNat : Nat)))
       | .xor => some (.int k (k.wrap ((BitVec.ofInt k.bits a ^^^ BitVec.ofInt k.bits b).toNat : Nat)))
       | .andNot => some (.int k (k.wrap ((BitVec.ofInt k.bits a &&& ~~~ BitVec.ofInt k.bits b).toNat : Nat)))
       | .eql => some (.bool (a == b))
       | .neq => some (.bool (a != b))
       | .lss => some (.bool (decide (a < b)))
       | .leq => some (.bool (decide (a ≤ b)))
       | .gtr => some (.bool (decide (a > b)))
       | .geq => some (.bool (decide (a ≥ b)))
       | _ => none) none
  | .bool a, .bool b =>
    match P.underlying t with
    | some .bool => match op with
      | .eql => some (.bool (a == b))
      | .neq => some (.bool (!(a == b)))
      | _ => none
    | _ => none
  | .string a, .string b => match op with
    | .eql => some (.bool (a.toList == b.toList))
    | .neq => some (.bool (!(a.toList == b.toList)))
    | .lss => some (.bool (Op.bytesLess a.toList b.toList))
    | .leq => some (.bool (Op.bytesLess a.toList b.toList || a.toList == b.toList))
    | .gtr => some (.bool (!(Op.bytesLess a.toList b.toList || a.toList == b.toList)))
    | .geq => some (.bool (!(Op.bytesLess a.toList b.toList)))
    | _ => none
  | .pointer a, .pointer b => match cy, P.underlying t with
    | true, some (.pointer _) => match b with
      | none => match op with
        | .eql => some (.bool a.isNone)
        | .neq => some (.bool (!a.isNone))
        | _ => none
      | _ => none
    | _, _ => none
  | .slice a _ _, .slice b _ _ => match cy, P.underlying t with
    | true, some (.slice _) => match b with
      | none => match op with
        | .eql => some (.bool a.isNone)
        | .neq => some (.bool (!a.isNone))
        | _ => none
      | _ => none
    | _, _ => none
  | .map a, .map b => match cy, P.underlying t with
    | true, some (.map _ _) => match b with
      | none => match op with
        | .eql => some (.bool a.isNone)
        | .neq => some (.bool (!a.isNone))
        | _ => none
      | _ => none
    | _, _ => none
  | _, _ => none
def binSem (op : BinOp) (t : TypeId) (x y : Operand) (a b : Value) : Sem Value := do eqGuard op t x y a b; binOp op t a b
theorem run_eqGuard_plain {P : Program} {w : World} {op : BinOp} {t : TypeId} {x y : Operand} {a b : Value} (ha : a.oneCell' = true) (hn : a ≠ .nilIface) :
  (eqGuard op t x y a b).run P w = .ok () w := by
 unfold eqGuard
 cases a <;> simp_all [Value.oneCell'] <;> cases op <;> rfl
theorem equalIn_bool {P : Program} {w : World} {t : TypeId} (dp : Nat) {a b : Bool} (ht : P.underlying t = some .bool) :
  (Op.equalIn (dp + 1) t (.bool a) (.bool b)).run P w = .ok (a == b) w := by
 simp [Op.equalIn, run_underlying ht]
theorem equal_bool {P : Program} {w : World} {t : TypeId} {a b : Bool} (ht : P.underlying t = some .bool) :
  (Op.equal t (.bool a) (.bool b)).run P w = .ok (a == b) w := equalIn_bool 9999 ht
theorem equalIn_ptr_nil {P : Program} {w : World} {t : TypeId} (dp : Nat) {e : TypeId} {a : Option Addr} (ht : P.underlying t = some (.pointer e)) :
  (Op.equalIn (dp + 1) t (.pointer a) (.pointer none)).run P w = .ok a.isNone w := by
 cases a <;> simp [Op.equalIn, run_underlying ht]
theorem equal_ptr_nil {P : Program} {w : World} {t : TypeId} {e : TypeId} {a : Option Addr} (ht : P.underlying t = some (.pointer e)) :
  (Op.equal t (.pointer a) (.pointer none)).run P w = .ok a.isNone w := equalIn_ptr_nil 9999 ht
theorem equalIn_slice_nil {P : Program} {w : World} {t : TypeId} (dp : Nat) {e : TypeId} {a : Option Addr} {n c m d : Nat} (ht : P.underlying t = some (.slice e)) :
  (Op.equalIn (dp + 1) t (.slice a n c) (.slice none m d)).run P w = .ok a.isNone w := by
 cases a <;> simp [Op.equalIn, run_underlying ht]
theorem equal_slice_nil {P : Program} {w : World} {t : TypeId} {e : TypeId} {a : Option Addr} {n c m d : Nat} (ht : P.underlying t = some (.slice e)) :
  (Op.equal t (.slice a n c) (.slice none m d)).run P w = .ok a.isNone w := equalIn_slice_nil 9999 ht
theorem equalIn_map_nil {P : Program} {w : World} {t : TypeId} (dp : Nat) {k e : TypeId} {a : Option Nat} (ht : P.underlying t = some (.map k e)) :
  (Op.equalIn (dp + 1) t (.map a) (.map none)).run P w = .ok a.isNone w := by
 cases a <;> simp [Op.equalIn, run_underlying ht]
theorem equal_map_nil {P : Program} {w : World} {t : TypeId} {k e : TypeId} {a : Option Nat} (ht : P.underlying t = some (.map k e)) :
  (Op.equal t (.map a) (.map none)).run P w = .ok a.isNone w := equalIn_map_nil 9999 ht
theorem of_pureBin {P : Program} {w : World} {op : BinOp} {t : TypeId} {x y : Operand} {cy : Bool} {a b v : Value} (h : pureBin P op t cy a b = some v) :
  (binSem op t x y a b).run P w = .ok v w := by
 unfold pureBin at h
 split at h
 ·rename_i k a k' b
  cases hk : decide (k = k') with
  | false => rw [hk] at h; cases h
  | true =>
   rw [hk] at h
   simp only [cond_true] at h
   obtain rfl := of_decide_eq_true hk
   unfold binSem
   rw [Sem.run_bind, run_eqGuard_plain rfl (by simp)]
   cases op <;> simp only [Option.some.injEq] at h <;> first
    | (subst h; simp [binOp, Op.intArith, Op.intBits, Op.intCmp]; done)
    | cases h
 ·rename_i a b
  split at h
  ·rename_i hu
   unfold binSem
   rw [Sem.run_bind, run_eqGuard_plain rfl (by simp)]
   cases op <;> simp only [Option.some.injEq] at h <;> first
    | (subst h; simp [binOp, equal_bool hu]; done)
    | cases h
  ·cases h
 ·rename_i a b
  unfold binSem
  rw [Sem.run_bind, run_eqGuard_plain rfl (by simp)]
  cases op <;> simp only [Option.some.injEq] at h <;> first
   | (subst h; simp [binOp, Op.stringOp]; done)
   | cases h
 ·split at h
  ·rename_i hu
   split at h
   ·unfold binSem
    rw [Sem.run_bind, run_eqGuard_plain rfl (by simp)]
    cases op <;> simp only [Option.some.injEq] at h <;> first
     | (subst h; simp [binOp, equal_ptr_nil hu]; done)
     | cases h
   ·cases h
  ·cases h
 ·split at h
  ·rename_i hu
   split at h
   ·unfold binSem
    rw [Sem.run_bind, run_eqGuard_plain rfl (by simp)]
    cases op <;> simp only [Option.some.injEq] at h <;> first
     | (subst h; simp [binOp, equal_slice_nil hu]; done)
     | cases h
   ·cases h
  ·cases h
 ·split at h
  ·rename_i hu
   split at h
   ·unfold binSem
    rw [Sem.run_bind, run_eqGuard_plain rfl (by simp)]
    cases op <;> simp only [Option.some.injEq] at h <;> first
     | (subst h; simp [binOp, equal_map_nil hu]; done)
     | cases h
   ·cases h
  ·cases h
 ·cases h
def dBinP (op : BinOp) (a b : Value) (K : Value → Prop) : Prop :=
 match op, a, b with
 | .quo, .int k m, .int k' n => cond (decide (k = k')) (n ≠ 0 ∧ K (.int k (k.wrap (m.tdiv n)))) False
 | .rem, .int k m, .int k' n => cond (decide (k = k')) (n ≠ 0 ∧ K (.int k (m.tmod n))) False
 | .shl, .int k m, .int _ n => 0 ≤ n ∧ K (.int k (k.wrap (m * 2 ^ (min n.toNat k.bits))))
 | .shr, .int k m, .int _ n => 0 ≤ n ∧ K (.int k (m.fdiv (2 ^ (min n.toNat k.bits))))
 | .add, .string m, .string n => m.size + n.size ≤ 9223372036854775807 ∧ K (.string (m ++ n))
 | _, _, _ => False
theorem of_dBinP {P : Program} {op : BinOp} {t : TypeId} {x y : Operand} {a b : Value} {K : Value → Prop} (h : dBinP op a b K) :
  ∃ v, (∀ w', (binSem op t x y a b).run P w' = .ok v w') ∧ K v := by
 unfold dBinP at h
 split at h
 ·rename_i k m k' n
  cases hk : decide (k = k') with
  | false => rw [hk] at h; exact h.elim
  | true =>
   rw [hk] at h
   obtain rfl := of_decide_eq_true hk
   obtain ⟨h1, h2⟩ := h
   refine ⟨_, fun w' => ?_, h2⟩
   unfold binSem
   rw [Sem.run_bind, run_eqGuard_plain rfl (by simp)]
   simp [binOp, Op.intDiv, h1]
 ·rename_i k m k' n
  cases hk : decide (k = k') with
  | false => rw [hk] at h; exact h.elim
  | true =>
   rw [hk] at h
   obtain rfl := of_decide_eq_true hk
   obtain ⟨h1, h2⟩ := h
   refine ⟨_, fun w' => ?_, h2⟩
   unfold binSem
   rw [Sem.run_bind, run_eqGuard_plain rfl (by simp)]
   simp [binOp, Op.intDiv, h1]
 ·obtain ⟨h1, h2⟩ := h
  refine ⟨_, fun w' => ?_, h2⟩
  unfold binSem
  rw [Sem.run_bind, run_eqGuard_plain rfl (by simp)]
  simp [binOp, Op.shift, Int.not_lt.2 h1]
 ·obtain ⟨h1, h2⟩ := h
  refine ⟨_, fun w' => ?_, h2⟩
  unfold binSem
  rw [Sem.run_bind, run_eqGuard_plain rfl (by simp)]
  simp [binOp, Op.shift, Int.not_lt.2 h1]
 ·rename_i m n
  obtain ⟨h1, h2⟩ := h
  refine ⟨_, fun w' => ?_, h2⟩
  unfold binSem
  rw [Sem.run_bind, run_eqGuard_plain rfl (by simp)]
  have : ¬ (IntKind.i64.max < ((m.size + n.size : Nat) : Int)) := by
   have e : IntKind.i64.max = 9223372036854775807 := by decide
   rw [e]; omega
  simp only [binOp, Op.stringOp, Result.andThen_ok, gt_iff_lt, if_neg this, Sem.run_pure]
 ·exact h.elim
abbrev Env := List (Nat × Option Value)
abbrev FEnv := List (Nat × List (Nat × Bool) × Value)
def gt : Env → Nat → Option (Option Value)
 | [], _ => none
 | (j, v) :: r, t => cond (Nat.beq j t) (some v) (gt r t)
def subF (G F : List (Nat × Bool)) : Bool := G.all fun g => F.any fun f => Nat.beq g.1 f.1 && (g.2 == f.2)
def lookF (F : List (Nat × Bool)) : FEnv → Nat → Option Value
 | [], _ => none
 | (d, G, v) :: r, t => cond (Nat.beq d t) (cond (subF G F) (some v) none) (lookF F r t)
def look (l : Env) (fl : FEnv) (F : List (Nat × Bool)) : Operand → Option Value
 | .tmp t => match gt l t with
  | some (some v) => some v
  | some none => lookF F fl t
  | none => none
 | .const v => some v
 | .global g => some (.pointer (some ⟨g, 0, none⟩))
 | .func f => some (.func (.func f) #[] #[])
def mapO (ρ : Operand → Option Value) : List Operand → Option (List Value)
 | [] => some []
 | x :: r => match ρ x, mapO ρ r with
  | some v, some vs => some (v :: vs)
  | _, _ => none
def isConst : Operand → Bool
 | .const _ => true
 | _ => false
def pureVal (P : Program) (op : Op) (ty : TypeId) (ρ : Operand → Option Value) (ρ' : Nat → Bool → Operand → Option Value) : Option Value :=
 match op with
 | .move x => ρ x
 | .assign x => ρ x
 | .pick (.tmp c) a b =>
  match ρ (.tmp c), ρ' c true a, ρ' c false b with
  | some (.bool cv), some (.bool x), some (.bool y) => some (.bool (cond cv x y))
  | some (.bool true), va, _ => va
  | some (.bool false), _, vb => vb
  | _, _, _ => none
 | .binOp o t x y _ =>
  match ρ x, ρ y with
  | some a, some b => pureBin P o t (isConst y) a b
  | _, _ => none
 | .unOp o _ x =>
  match o, ρ x with
  | .not, some (.bool b) => some (.bool (!b))
  | .neg, some (.int k n) => some (.int k (k.wrap (0 - n)))
  | .xor, some (.int k n) => some (.int k (k.wrap ((BitVec.ofInt k.bits (if k.signed then -1 else k.max) ^^^ BitVec.ofInt k.bits n).toNat : Nat)))
  | _, _ => none
 | .extract x i =>
  match ρ x with
  | some (.tuple vs) => vs.toList[i]?
  | _ => none
 | .call c =>
  match c.callee, c.args.toList, c.argTypes.toList with
  | .builtin .len, [x], [t] =>
   match P.underlying t, ρ x with
   | some (.slice _), some (.slice _ n _) => some (.int .i64 n)
   | some .string, some (.string s) => some (.int .i64 s.size)
   | _, _ => none
  | .builtin .cap, [x], [t] =>
   match P.underlying t, ρ x with
   | some (.slice _), some (.slice _ _ n) => some (.int .i64 n)
   | _, _ => none
  | .builtin .min, [x, y], _ =>
   match ρ x, ρ y with
   | some (.int k a), some (.int _ b) => some (.int k (if b < a then b else a))
   | _, _ => none
  | .builtin .max, [x, y], _ =>
   match ρ x, ρ y with
   | some (.int k a), some (.int _ b) => some (.int k (if b > a then b else a))
   | _, _ => none
  | _, _, _ => none
 | .convert src dst x =>
  match P.underlying src, P.underlying dst, ρ x with
  | some _, some (.int k), some (.int _ n) => some (.int k (k.wrap n))
  | some .string, some .string, some (.string s) => some (.string s)
  | _, _, _ => none
 | .makeInterface t x =>
  match P.underlying t, ρ x with
  | some (.interface _), _ => none
  | some _, some v => some (.iface t v)
  | _, _ => none
 | .makeFunc fn first captured =>
  match mapO ρ first.toList, mapO ρ captured.toList with
  | some fs, some cs => some (.func fn fs.toArray cs.toArray)
  | _, _ => none
 | .field t x f =>
  match P.underlying t, ρ x with
  | some (.struct fs), some (.agg cs) =>
   match fs[f]? with
   | some fd => match P.underlying fd.type, P.info? fd.type with
    | some d, some i => cond (isAggD d) (some (.agg ((cs.toList.drop fd.offset).take i.size).toArray)) cs.toList[fd.offset]?
    | _, _ => none
   | none => none
  | _, _ => none
 | _ => none
section
variable {P : Program} {e : Operand → Value} {ρ : Operand → Option Value} {ρ' : Nat → Bool → Operand → Option Value} {w : World}
theorem of_mapO (hρ : ∀ x v, ρ x = some v → e x = v) : ∀ {xs : List Operand} {vs : List Value}, mapO ρ xs = some vs → xs.map e = vs
 | [], vs, h => by simp only [mapO, Option.some.injEq] at h; subst h; rfl
 | x :: r, vs, h => by
  simp only [mapO] at h
  cases h1 : ρ x with
  | none => simp [h1] at h
  | some v =>
   cases h2 : mapO ρ r with
   | none => simp [h1, h2] at h
   | some ws =>
    simp only [h1, h2, Option.some.injEq] at h
    subst h
    simp [hρ x v h1, of_mapO hρ h2]
theorem array_one {α : Type} {a : Array α} {x : α} (h : a.toList = [x]) : a = #[x] := Array.ext' (by simpa using h)
theorem array_two {α : Type} {a : Array α} {x y : α} (h : a.toList = [x, y]) : a = #[x, y] := Array.ext' (by simpa using h)
theorem isAggD_run {t : TypeId} {d : TypeDesc} (h : P.underlying t = some d) : (isAgg t).run P w = .ok (isAggD d) w := by
 simp only [isAgg, Sem.run_bind, run_underlying h, Result.andThen_ok]
 cases d <;> rfl
theorem of_pureVal (hρ : ∀ x v, ρ x = some v → e x = v) (hρ' : ∀ c b x v, e (.tmp c) = .bool b → ρ' c b x = some v → e x = v)
  {op : Op} {ty : TypeId} {v : Value} (h : pureVal P op ty ρ ρ' = some v) (dst : Option Tmp) (pos : String) (after : Array Edge) (g : Option (Nat × Bool)) :
  (execOp e ⟨dst, op, ty, pos, after, g⟩).run P w = .ok (.value v) w := by
 unfold pureVal at h
 split at h
 ·have := hρ _ _ h; simp [execOp, this]
 ·have := hρ _ _ h; simp [execOp, this]
 ·rename_i c a b
  split at h
  ·rename_i cv x y h1 h2 h3
   simp only [Option.some.injEq] at h
   subst h
   have e1 := hρ _ _ h1
   cases cv with
   | true => have e2 := hρ' c true a _ e1 h2; simp [execOp, asBool, e1, e2]
   | false => have e2 := hρ' c false b _ e1 h3; simp [execOp, asBool, e1, e2]
  ·rename_i h1 _
   have e1 := hρ _ _ h1
   have e2 := hρ' c true a _ e1 h; simp [execOp, asBool, e1, e2]
  ·rename_i h1 _
   have e1 := hρ _ _ h1
   have e2 := hρ' c false b _ e1 h; simp [execOp, asBool, e1, e2]
  ·cases h
 ·rename_i o t x y ty'
  split at h
  ·rename_i a b h1 h2
   have e1 := hρ _ _ h1
   have e2 := hρ _ _ h2
   have hr := of_pureBin (w := w) (x := x) (y := y) h
   unfold binSem at hr
   simp only [execOp, e1, e2]
   rw [Sem.run_bind]
   rw [hr]; rfl
  ·cases h
 ·rename_i o t x
  split at h
  ·rename_i b h1
   simp only [Option.some.injEq] at h; subst h
   simp [execOp, Op.unary, hρ _ _ h1]
  ·rename_i k n h1
   simp only [Option.some.injEq] at h; subst h
   simp [execOp, Op.unary, Op.intArith, hρ _ _ h1]
  ·rename_i k n h1
   simp only [Option.some.injEq] at h; subst h
   simp [execOp, Op.unary, Op.intBits, hρ _ _ h1]
  ·cases h
 ·rename_i x i
  split at h
  ·rename_i vs h1
   have e1 := hρ _ _ h1
   have : vs[i]? = some v := by simpa using h
   simp [execOp, Instr.extract, e1, this]
  ·cases h
 ·rename_i c
  obtain ⟨callee, args, argTypes⟩ := c
  simp only at h
  split at h
  ·rename_i x t ha ht
   obtain rfl := array_one ha
   obtain rfl := array_one ht
   split at h
   ·rename_i e' a n c' hu h1
    simp only [Option.some.injEq] at h; subst h
    have e1 := hρ _ _ h1
    simp [execOp, Go.resolve, invoke, builtin, Builtin.len_, run_underlying hu, e1, goInt]
   ·rename_i s hu h1
    simp only [Option.some.injEq] at h; subst h
    have e1 := hρ _ _ h1
    simp [execOp, Go.resolve, invoke, builtin, Builtin.len_, run_underlying hu, e1, goInt]
   ·cases h
  ·rename_i x t ha ht
   obtain rfl := array_one ha
   obtain rfl := array_one ht
   split at h
   ·rename_i e' a n c' hu h1
    simp only [Option.some.injEq] at h; subst h
    have e1 := hρ _ _ h1
    simp [execOp, Go.resolve, invoke, builtin, Builtin.cap_, run_underlying hu, e1, goInt]
   ·cases h
  ·rename_i x y ha
   obtain rfl := array_two ha
   split at h
   ·rename_i k a k' b h1 h2
    simp only [Option.some.injEq] at h; subst h
    have e1 := hρ _ _ h1
    have e2 := hρ _ _ h2
    simp [execOp, Go.resolve, invoke, builtin, Builtin.min_, Builtin.min2, e1, e2]
   ·cases h
  ·rename_i x y ha
   obtain rfl := array_two ha
   split at h
   ·rename_i k a k' b h1 h2
    simp only [Option.some.injEq] at h; subst h
    have e1 := hρ _ _ h1
    have e2 := hρ _ _ h2
    simp [execOp, Go.resolve, invoke, builtin, Builtin.max_, Builtin.max2, e1, e2]
   ·cases h
  ·cases h
 ·rename_i src dst' x
  split at h
  ·rename_i d k k' n hs hd h1
   simp only [Option.some.injEq] at h; subst h
   have e1 := hρ _ _ h1
   simp [execOp, convert, run_underlying hs, run_underlying hd, e1, Conv.intToInt]
  ·rename_i s hs hd h1
   simp only [Option.some.injEq] at h; subst h
   have e1 := hρ _ _ h1
   simp [execOp, convert, run_underlying hs, run_underlying hd, e1]
  ·cases h
 ·rename_i t x
  split at h
  ·cases h
  ·rename_i d v' hne hu h1
   simp only [Option.some.injEq] at h; subst h
   have e1 := hρ _ _ h1
   simp only [execOp, Instr.makeInterface, Sem.run_bind, run_underlying hu, Result.andThen_ok, e1]
   cases d <;> first | rfl | exact (hne _ rfl).elim
  ·cases h
 ·rename_i fn first captured
  split at h
  ·rename_i fs cs h1 h2
   simp only [Option.some.injEq] at h; subst h
   have e1 := of_mapO hρ h1
   have e2 := of_mapO hρ h2
   have a1 : first.map e = fs.toArray := Array.ext' (by simp [e1])
   have a2 : captured.map e = cs.toArray := Array.ext' (by simp [e2])
   simp [execOp, Instr.makeFunc, a1, a2]
  ·cases h
 ·rename_i t x f
  split at h
  ·rename_i fs cs hu h1
   have e1 := hρ _ _ h1
   split at h
   ·rename_i fd hf
    split at h
    ·rename_i d i hd hi
     simp only [execOp, Instr.field, Sem.run_bind, run_underlying hu, Result.andThen_ok, e1, hf, asAgg, Sem.run_pure, part, isAggD_run hd]
     cases hb : isAggD d with
     | true =>
      rw [hb] at h
      simp only [cond_true, Option.some.injEq] at h
      subst h
      simp only [if_true, Sem.run_bind, sizeOf, typeInfo, run_program, Result.andThen_ok, hi, Sem.run_pure]
      congr 3
      apply Array.ext'
      simp [List.extract_eq_take_drop]
     | false =>
      rw [hb] at h
      simp only [cond_false] at h
      have : cs[fd.offset]? = some v := by simpa using h
      simp [this]
    ·cases h
   ·cases h
  ·cases h
 ·cases h
end
def retShapes (P : Program) (ty : TypeId) : List Sh :=
 match P.underlying ty with
 | some (.tuple es) => es.toList.map (shapeOf P)
 | _ => [shapeOf P ty]
def RunRoL (shs : List Sh) (P : Program) (sem : Sem Value) (w : World) (R : Fn (kdsOf shs) (World → Prop)) : Prop :=
 ∃ v, (∀ w', Ext w w' → sem.run P w' = .ok v w') ∧ viewRet shs v R w
def fieldOff (P : Program) (s : TypeId) (f : Nat) : Option Nat :=
 match P.underlying s with
 | some (.struct fs) => match fs[f]? with
  | some fd => cond (Nat.beq (P.cellsOf fd.type) 0) none (some fd.offset)
  | none => none
 | _ => none
def dLoad (P : Program) (t : TypeId) (w : World) (a : Addr) (K : Value → Prop) : Prop :=
 match P.underlying t with
 | some d => cond (isAggD d)
   (cond (Nat.beq (P.cellsOf t) (cellKds P 16 t).length) (LdL w a (cellKds P 16 t) 0 fun vs => K (.agg vs.toArray)) False)
   (Ld (cellKd d) w a fun x => K ((cellKd d).inj x))
 | none => False
def intOp (v : Option Operand) (ρ : Operand → Option Value) (d : Int) (K : Int → Prop) : Prop :=
 match v with
 | none => K d
 | some x => match ρ x with
  | some (.int _ n) => K n
  | _ => False
def isPlainT (P : Program) (t : TypeId) : Bool :=
 match P.underlying t with
 | some (.int _) => true
 | some .bool => true
 | some .string => true
 | _ => false
def isIfaceT (P : Program) (t : TypeId) : Bool :=
 match P.underlying t with
 | some (.interface _) => true
 | some (.func _ _ _) => true
 | some (.struct _) => true
 | some (.array _ _) => true
 | _ => false
def mapLen (P : Program) (c : Call) : Bool :=
 match c.callee, c.argTypes.toList with
 | .builtin .len, [t] => match P.underlying t with
  | some (.map _ _) => true
  | _ => false
 | _, _ => false
def bytesStr (P : Program) (src dst : TypeId) : Bool :=
 match P.underlying src, P.underlying dst with
 | some (.slice e), some .string => (match P.underlying e with
  | some (.int .u8) => true
  | _ => false)
 | _, _ => false
def IxV (cs : List Value) (n : Nat) (i : Int) (k : Kd) (K : k.T → Prop) : Prop := 0 ≤ i ∧ i < n ∧ ∃ x, cs[i.toNat]? = some (k.inj x) ∧ K x
def dRo (P : Program) (op : Op) (ty : TypeId) (ρ : Operand → Option Value) (ρ' : Nat → Bool → Operand → Option Value) (w : World) (K : Value → Prop) : Prop :=
 match op with
 | .nilCheck x =>
  match ρ x with
  | some (.pointer p) => NN p fun a => K (.pointer (some a))
  | some (.func (.func f) fs cs) => K (.func (.func f) fs cs)
  | _ => False
 | .fieldAddr s x f =>
  match fieldOff P s f, ρ x with
  | some off, some (.pointer p) => NN p fun a => K (.pointer (some (a.add off)))
  | _, _ => False
 | .load t x =>
  match ρ x with
  | some (.pointer p) => NN p fun a => dLoad P t w a K
  | _ => False
 | .indexAddr t x ix =>
  match P.underlying t, ρ x, ρ ix with
  | some (.slice el), some (.slice s len _), some (.int _ i) => match P.info? el with
   | some inf => Ix s len i inf.size fun a => K (.pointer (some a))
   | none => False
  | some (.array len el), some (.pointer p), some (.int _ i) => match P.info? el with
   | some inf => NN p fun a => IxA a len i inf.size fun a => K (.pointer (some a))
   | none => False
  | _, _, _ => False
 | .index t x ix =>
  match P.underlying t, ρ x, ρ ix with
  | some .string, some (.string s), some (.int _ i) => IxS s i fun b => K (.int .u8 b)
  | some (.array n el), some (.agg cs), some (.int _ i) => match P.underlying el, P.info? el with
   | some d, some inf => cond (!isAggD d && Nat.beq inf.size 1) (IxV cs.toList n i (cellKd d) fun x => K ((cellKd d).inj x)) False
   | _, _ => False
  | _, _, _ => False
 | .slice t x lo hi mx =>
  match P.underlying t, ρ x with
  | some (.slice el), some (.slice a len cap) => match P.info? el with
   | some inf => cond (mx.isSome && hi.isNone) False
     (intOp mx ρ cap fun m => intOp hi ρ len fun h => intOp lo ρ 0 fun l =>
      Cut ⟨a, len, cap⟩ l h m inf.size fun s => K (.slice s.a s.len s.cap))
   | none => False
  | some (.array n el), some (.pointer p) => match P.info? el with
   | some inf => cond (mx.isSome && hi.isNone) False
     (NN p fun a => intOp mx ρ n fun m => intOp hi ρ n fun h => intOp lo ρ 0 fun l =>
      CutA a n l h m inf.size fun s => K (.slice s.a s.len s.cap))
   | none => False
  | some .string, some (.string s) => cond mx.isSome False
    (intOp hi ρ s.size fun h => intOp lo ρ 0 fun l => CutS s l h fun r => K (.string r))
  | _, _ => False
 | .binOp o t x y _ =>
  match ρ x, ρ y with
  | some a, some b => cond (isIfaceT P t) (RunRo .b P (binSem o t x y a b) w fun r => K (.bool r))
    (match pureBin P o t (isConst y) a b with
    | some v => K v
    | none => cond (isPlainT P t) (dBinP o a b K) (RunRo .b P (binSem o t x y a b) w fun r => K (.bool r)))
  | _, _ => False
 | .build t parts =>
  match P.underlying t, P.info? t, mapO ρ (parts.toList.map (·.2)) with
  | some (.struct fs), some inf, some vs => match inf.zero with
   | some z => cond (fs.toList.all fun f => (P.info? f.type).isSome)
     (dFill P (fs.toList.map fun f => (f.offset, P.cellsOf f.type, f.type)) z.cells.toList ((parts.toList.map (·.1)).zip vs) fun cs => K (.agg cs.toArray)) False
   | none => False
  | some (.array n el), some inf, some vs => match inf.zero with
   | some z => cond (P.info? el).isNone False <| dFill P ((List.range n).map fun i => (i * P.cellsOf el, P.cellsOf el, el)) z.cells.toList ((parts.toList.map (·.1)).zip vs) fun cs => K (.agg cs.toArray)
   | none => False
  | _, _, _ => False
 | .lookup t x ix ok =>
  match ρ x, ρ ix with
  | some m, some k => RunRoL (retShapes P ty) P (Instr.lookup t m k ok) w (curry _ fun cs _ => K (mkRes (unflat (retShapes P ty) cs)))
  | _, _ => False
 | .typeAssert x xt at' ok =>
  match ρ x with
  | some v => RunRoL (retShapes P ty) P (Instr.typeAssert v xt at' ok) w (curry _ fun cs _ => K (mkRes (unflat (retShapes P ty) cs)))
  | _ => False
 | .call c => cond (mapLen P c)
   (match mapO ρ c.args.toList with
   | some vs => RunRo (.i .i64) P (Builtin.len_ c.argTypes ty vs.toArray) w fun n => K (.int .i64 n)
   | none => False)
   (match pureVal P (.call c) ty ρ ρ' with
   | some v => K v
   | none => False)
 | .convert src dst x => match bytesStr P src dst with
  | true => match ρ x with
   | some (.slice a len cap) => RdB w ⟨a, len, cap⟩ fun b => K (.string b)
   | _ => False
  | false => match pureVal P (.convert src dst x) ty ρ ρ' with
   | some v => K v
   | none => False
 | op => match pureVal P op ty ρ ρ' with
  | some v => K v
  | none => False
def isLoad (P : Program) : Op → Bool
 | .load _ _ => true
 | .convert src dst _ => bytesStr P src dst
 | _ => false
def wl (P : Program) (op : Op) : Bool :=
 match op with
 | .load _ _ | .lookup _ _ _ _ | .typeAssert _ _ _ _ => false
 | .convert src dst _ => !bytesStr P src dst
 | .binOp _ t _ y _ => isPlainT P t
 | .call c => !mapLen P c
 | _ => true
def cellsFrom (a : Addr) : List Value → Nat → List (Addr × Value)
 | [], _ => []
 | v :: vs, i => (a.add i, v) :: cellsFrom a vs (i + 1)
def fpA (P : Program) (t : TypeId) (a : Addr) (v : Value) : List (Addr × Value) :=
 match P.underlying t with
 | some d => cond (isAggD d) (match v with
  | .agg cs => cellsFrom a cs.toList 0
  | _ => []) [(a, v)]
 | none => []
def fpOf (P : Program) (ρ : Operand → Option Value) (op : Op) (v : Value) : List Hold :=
 match op with
 | .load t x => match ρ x with
  | some (.pointer (some a)) => (fpA P t a v).map fun x => .cell x.1 x.2
  | _ => []
 | .convert src dst x => match bytesStr P src dst with
  | true => match ρ x, v with
   | some (.slice a len cap), .string b => [.bytes ⟨a, len, cap⟩ b]
   | _, _ => []
  | false => []
 | _ => []
def dRoOk (P : Program) (op : Op) : Bool :=
 match op with
 | .move _ | .assign _ | .pick _ _ _ | .nilCheck _ | .fieldAddr _ _ _ | .load _ _ | .indexAddr _ _ _ | .index _ _ _ | .slice _ _ _ _ _ | .binOp _ _ _ _ _ | .build _ _ | .typeAssert _ _ _ _
 | .unOp _ _ _ | .extract _ _ | .makeInterface _ _ | .makeFunc _ _ _ | .field _ _ _ => true
 | .convert src dst _ => match P.underlying src, P.underlying dst with
  | some (.int _), some (.int _) => true
  | some .string, some .string => true
  | _, _ => bytesStr P src dst
 | .lookup _ _ _ _ => true
 | .call c => match c.callee with
  | .builtin .len | .builtin .cap | .builtin .min | .builtin .max => true
  | _ => false
 | _ => false
section
variable {P : Program} {e : Operand → Value} {ρ : Operand → Option Value} {ρ' : Nat → Bool → Operand → Option Value} {w : World}
theorem of_NN {p : Option Addr} {K : Addr → Prop} (h : NN p K) : ∃ a, p = some a ∧ K a := by
 cases p with
 | none => exact h.elim
 | some a => exact ⟨a, rfl, h⟩
theorem info_cells {t : TypeId} {i : TypeInfo} (h : P.info? t = some i) : P.cellsOf t = i.size := by simp [Program.cellsOf, h]
theorem of_cellsOf {t : TypeId} {n : Nat} (h : P.cellsOf t = n) (hn : n ≠ 0) : ∃ i, P.info? t = some i ∧ i.size = n := by
 unfold Program.cellsOf at h
 cases hi : P.info? t with
 | none => simp [hi] at h; omega
 | some i => exact ⟨i, rfl, by simpa [hi] using h⟩
theorem info_of_underlying {t : TypeId} {d : TypeDesc} (h : P.underlying t = some d) : ∃ i, P.info? t = some i := by
 unfold Program.underlying at h
 cases hi : P.info? t with
 | none => simp [hi] at h
 | some i => exact ⟨i, rfl⟩
theorem mem_cellsFrom {a : Addr} : ∀ {vs : List Value} {i : Nat} {x : Addr × Value}, x ∈ cellsFrom a vs i → ∃ j v, vs[j]? = some v ∧ x = (a.add (i + j), v)
 | [], i, x, h => by cases h
 | v :: vs, i, x, h => by
  rcases List.mem_cons.1 h with rfl | h
  ·exact ⟨0, v, rfl, rfl⟩
  ·obtain ⟨j, u, h1, rfl⟩ := mem_cellsFrom h
   exact ⟨j + 1, u, by simpa using h1, by rw [show i + 1 + j = i + (j + 1) by omega]⟩
theorem cellsFrom_mem {a : Addr} : ∀ {vs : List Value} {i j : Nat} {v : Value}, vs[j]? = some v → (a.add (i + j), v) ∈ cellsFrom a vs i
 | [], i, j, v, h => by simp at h
 | u :: vs, i, 0, v, h => by simp only [List.getElem?_cons_zero, Option.some.injEq] at h; subst h; simp [cellsFrom]
 | u :: vs, i, j + 1, v, h => by
  have := cellsFrom_mem (a := a) (vs := vs) (i := i + 1) (j := j) (v := v) (by simpa using h)
  rw [show i + 1 + j = i + (j + 1) by omega] at this
  simp [cellsFrom, this]
theorem of_dLoad {t : TypeId} {a : Addr} {K : Value → Prop} (h : dLoad P t w a K) :
  ∃ v, (∀ x ∈ fpA P t a v, w.cell? x.1 = some x.2) ∧ (∀ w', (∀ x ∈ fpA P t a v, w'.cell? x.1 = some x.2) → (loadVar t a).run P w' = .ok v w') ∧ K v := by
 unfold dLoad at h
 split at h
 ·rename_i d hd
  cases hb : isAggD d with
  | false =>
   rw [hb] at h
   obtain ⟨x, hx, hK⟩ := h
   have hfp : fpA P t a ((cellKd d).inj x) = [(a, (cellKd d).inj x)] := by simp [fpA, hd, hb]
   refine ⟨_, by rw [hfp]; simpa using hx, fun w' he => ?_, hK⟩
   rw [hfp] at he
   have hc := he (a, (cellKd d).inj x) (by simp)
   simp only at hc
   simp [loadVar, isAggD_run hd, hb, hc]
  | true =>
   rw [hb] at h
   simp only [cond_true] at h
   cases hn : Nat.beq (P.cellsOf t) (cellKds P 16 t).length with
   | false => rw [hn] at h; exact h.elim
   | true =>
    rw [hn] at h
    obtain ⟨vs, hl, hc, hK⟩ := of_LdL h
    obtain ⟨i, hi⟩ := info_of_underlying hd
    have hsz : i.size = vs.length := by rw [hl, ← Nat.eq_of_beq_eq_true hn, info_cells hi]
    have hfp : fpA P t a (.agg vs.toArray) = cellsFrom a vs 0 := by simp [fpA, hd, hb]
    refine ⟨_, ?_, fun w' he => ?_, hK⟩
    ·rw [hfp]
     intro x hx
     obtain ⟨j, v, h1, rfl⟩ := mem_cellsFrom hx
     exact hc j v (by simpa using h1)
    ·have := run_loadCells_list (P := P) w' a vs (fun j v hj => by
      have := he (a.add (0 + j), v) (by rw [hfp]; exact cellsFrom_mem (by simpa using hj))
      simpa using this)
     simp [loadVar, isAggD_run hd, hb, sizeOf, typeInfo, hi, hsz, this]
 ·exact h.elim
theorem of_intOp {v : Option Operand} {d : Int} {K : Int → Prop} (hρ : ∀ x v, ρ x = some v → e x = v) (h : intOp v ρ d K) :
  ∃ n, ((v.map e = none ∧ n = d) ∨ ∃ k, v.map e = some (.int k n)) ∧ K n := by
 unfold intOp at h
 split at h
 ·exact ⟨d, .inl ⟨rfl, rfl⟩, h⟩
 ·rename_i x
  split at h
  ·rename_i k n hx
   exact ⟨n, .inr ⟨k, by simp [hρ _ _ hx]⟩, h⟩
  ·exact h.elim
theorem run_sliceBounds {b : Bool} {len cap : Nat} {lo hi mx : Option Value} {l h m : Int}
  (hm : (mx = none ∧ m = cap) ∨ ∃ k, mx = some (.int k m)) (hh : (hi = none ∧ h = len) ∨ ∃ k, hi = some (.int k h)) (hl : (lo = none ∧ l = 0) ∨ ∃ k, lo = some (.int k l))
  (hc : mx.isSome = true → hi.isSome = true) (h1 : 0 ≤ l) (h2 : l ≤ h) (h3 : h ≤ m) (h4 : m ≤ cap) :
  (Instr.sliceBounds b len cap lo hi mx).run P w = .ok (l.toNat, h.toNat, m.toNat) w := by
 have em : ((m.toNat : Nat) : Int) = m := by omega
 have eh : ((h.toNat : Nat) : Int) = h := by omega
 rcases hm with ⟨rfl, rfl⟩ | ⟨km, rfl⟩ <;> rcases hh with ⟨rfl, rfl⟩ | ⟨kh, rfl⟩ <;> rcases hl with ⟨rfl, rfl⟩ | ⟨kl, rfl⟩ <;>
  first
  | (simp at hc; done)
  | (simp [Instr.sliceBounds, Instr.sliceBound, asIntOf, em, eh, h1, h2, h3, h4, Int.le_trans h1 h2, Int.le_trans (Int.le_trans h1 h2) h3]; done)
theorem isSome_map {α β : Type} (o : Option α) (f : α → β) : (o.map f).isSome = o.isSome := by cases o <;> rfl
theorem fill_mono {F F' : Nat → Option (Nat × Nat)} (hF : ∀ i x, F i = some x → F' i = some x) : ∀ {parts : List (Nat × Value)} {c cs : Array Value},
  Instr.fill F c parts = some cs → Instr.fill F' c parts = some cs
 | [], c, cs, h => h
 | (i, v) :: rest, c, cs, h => by
  simp only [Instr.fill] at h ⊢
  cases hi : F i with
  | none => simp [hi] at h
  | some x =>
   obtain ⟨off, size⟩ := x
   simp only [hi] at h
   simp only [hF i _ hi]
   split
   ·rename_i hc; rw [if_pos hc] at h; cases h
   ·rename_i hc; rw [if_neg hc] at h; exact fill_mono hF h
theorem run_bytesStr {src dst : TypeId} {w : World} {s : Sl} {b : ByteArray} (hb : bytesStr P src dst = true) (h : BytesAt w s b) :
  (convert src dst (.slice s.a s.len s.cap)).run P w = .ok (.string b) w := by
 unfold bytesStr at hb
 split at hb
 ·rename_i e hs hd
  split at hb
  ·rename_i he
   rw [run_convert_bytes_string w src dst e _ _ _ hs he hd]
   obtain ⟨hl, ⟨ha, h0⟩ | ⟨a, ha, hc⟩⟩ := h
   ·rw [ha]
    have : b = ByteArray.empty := by
     rw [h0] at hl
     apply ByteArray.ext
     apply Array.ext'
     rw [List.eq_nil_of_length_eq_zero hl]
     rfl
    rw [this]
    simp [Conv.bytesToString]
   ·rw [ha]
    have hrow : (loadCells a s.len).run P w = .ok ((b.data.toList.map fun x => (x.toNat : Int)).map (Value.int .u8)).toArray w := by
     have := run_loadCells_list (P := P) w a ((b.data.toList.map fun x => (x.toNat : Int)).map (Value.int .u8)) (fun j v hj => by
      rw [List.getElem?_map, List.getElem?_map] at hj
      cases hx : b.data.toList[j]? with
      | none => rw [hx] at hj; cases hj
      | some y =>
       rw [hx] at hj
       simp only [Option.map_some, Option.some.injEq] at hj
       subst hj
       exact hc j y hx)
     rw [List.length_map, List.length_map, hl] at this
     exact this
    rw [run_bytesToString w a s.len s.cap _ hrow, foldl_push_bytes]
    congr 2
    apply ByteArray.ext
    apply Array.ext'
    simp [ByteArray.empty, ByteArray.emptyWithCapacity]
    conv => rhs; rw [← List.map_id b.data.toList]
    apply List.map_congr_left
    intro y _
    simp
  ·cases hb
 ·cases hb
theorem fp_nil {op : Op} {v : Value} (h : isLoad P op = false) : fpOf P ρ op v = [] := by
 cases op <;> first | rfl | (simp [isLoad] at h; done) | (simp only [isLoad] at h; unfold fpOf; simp only [h])
theorem of_dRo (hρ : ∀ x v, ρ x = some v → e x = v) (hρ' : ∀ c b x v, e (.tmp c) = .bool b → ρ' c b x = some v → e x = v)
  {op : Op} {ty : TypeId} {K : Value → Prop} (h : dRo P op ty ρ ρ' w K)
  (dst : Option Tmp) (pos : String) (after : Array Edge) (g : Option (Nat × Bool)) :
  ∃ v, (∀ x ∈ fpOf P ρ op v, holdAt w x) ∧ (∀ w', (wl P op = true ∨ (isLoad P op = false ∧ Ext w w') ∨ (isLoad P op = true ∧ ∀ x ∈ fpOf P ρ op v, holdAt w' x)) → (execOp e ⟨dst, op, ty, pos, after, g⟩).run P w' = .ok (.value v) w') ∧ K v := by
 unfold dRo at h
 split at h
 ·rename_i x
  split at h
  ·rename_i p h1
   obtain ⟨a, rfl, hK⟩ := of_NN h
   exact ⟨_, (fun _ hx => (by cases hx)), fun w' he => by simp [execOp, hρ _ _ h1], hK⟩
  ·rename_i f fs cs h1
   exact ⟨_, (fun _ hx => (by cases hx)), fun w' he => by simp [execOp, hρ _ _ h1], h⟩
  ·exact h.elim
 ·rename_i s x f
  split at h
  ·rename_i off p h1 h2
   obtain ⟨a, rfl, hK⟩ := of_NN h
   unfold fieldOff at h1
   split at h1
   ·rename_i fs hu
    split at h1
    ·rename_i fd hf
     cases hz : Nat.beq (P.cellsOf fd.type) 0 with
     | true => rw [hz] at h1; cases h1
     | false =>
      rw [hz] at h1
      simp only [cond_false, Option.some.injEq] at h1
      subst h1
      obtain ⟨i, hi, hs⟩ := of_cellsOf (P := P) (t := fd.type) rfl (by intro h0; rw [h0] at hz; cases hz)
      have hs' : i.size ≠ 0 := by rw [hs]; intro h0; rw [h0] at hz; cases hz
      exact ⟨_, (fun _ hx => (by cases hx)), fun w' he => by simp [execOp, Instr.fieldAt, run_underlying hu, hf, hρ _ _ h2, Instr.sureAddr, fieldPlace, sizeOf, typeInfo, hi, hs'], hK⟩
    ·cases h1
   ·cases h1
  ·exact h.elim
 ·rename_i t x
  split at h
  ·rename_i p h1
   obtain ⟨a, rfl, hK⟩ := of_NN h
   obtain ⟨v, hfp, hr, hv⟩ := of_dLoad hK
   refine ⟨v, ?_, fun w' he => ?_, hv⟩
   ·intro x hx
    simp only [fpOf, h1, List.mem_map] at hx
    obtain ⟨y, hy, rfl⟩ := hx
    exact hfp y hy
   have he' : ∀ x ∈ fpA P t a v, w'.cell? x.1 = some x.2 := by
    rcases he with he | ⟨he, _⟩ | ⟨_, he⟩
    ·cases he
    ·cases he
    ·intro x hx
     exact he (.cell x.1 x.2) (by simp only [fpOf, h1, List.mem_map]; exact ⟨x, hx, rfl⟩)
   simp [execOp, Instr.loadAt, Instr.sureAddr, hρ _ _ h1, hr w' he']
  ·exact h.elim
 ·rename_i t x ix
  split at h
  ·rename_i el s len cap k i hu h1 h2
   split at h
   ·rename_i inf hi
    obtain ⟨h3, h4, h5⟩ := h
    obtain ⟨a, rfl, hK⟩ := of_NN h5
    exact ⟨_, (fun _ hx => (by cases hx)), fun w' he => by simp [execOp, Instr.indexAt, run_underlying hu, hρ _ _ h1, hρ _ _ h2, asIntOf, h3, h4, sizeOf, typeInfo, hi], hK⟩
   ·exact h.elim
  ·rename_i len el p k i hu h1 h2
   split at h
   ·rename_i inf hi
    obtain ⟨a, rfl, h3, h4, hK⟩ := of_NN h
    exact ⟨_, (fun _ hx => (by cases hx)), fun w' he => by simp [execOp, Instr.indexAt, run_underlying hu, hρ _ _ h1, hρ _ _ h2, asIntOf, h3, h4, sizeOf, typeInfo, hi, Instr.sureAddr], hK⟩
   ·exact h.elim
  ·exact h.elim
 ·rename_i t x ix
  split at h
  ·rename_i s k i hu h1 h2
   obtain ⟨h3, b, hb, hK⟩ := h
   exact ⟨_, (fun _ hx => (by cases hx)), fun w' he => by simp [execOp, Instr.index, run_underlying hu, hρ _ _ h1, hρ _ _ h2, asIntOf, h3, hb], hK⟩
  ·rename_i n el cs k i hu h1 h2
   split at h
   ·rename_i d inf hd hi
    cases hb : (!isAggD d && Nat.beq inf.size 1) with
    | false => rw [hb] at h; exact h.elim
    | true =>
     rw [hb] at h
     simp only [cond_true] at h
     simp only [Bool.and_eq_true, Bool.not_eq_true'] at hb
     obtain ⟨h3, h4, x, hx, hK⟩ := h
     have hsz : inf.size = 1 := Nat.eq_of_beq_eq_true hb.2
     have hx' : cs[i.toNat]? = some ((cellKd d).inj x) := by simpa using hx
     refine ⟨_, (fun _ hx => (by cases hx)), fun w' he => ?_, hK⟩
     have hp : (part el cs i.toNat).run P w' = .ok ((cellKd d).inj x) w' := by
      unfold part
      rw [Sem.run_bind, isAggD_run hd, hb.1]
      simp [hx']
     simp [execOp, Instr.index, run_underlying hu, hρ _ _ h1, hρ _ _ h2, asIntOf, h3, h4, sizeOf, typeInfo, hi, hsz, hp]
   ·exact h.elim
  ·exact h.elim
 ·rename_i t x lo hi mx
  split at h
  ·rename_i el a len cap hu h1
   split at h
   ·rename_i inf hinf
    cases hb : (mx.isSome && hi.isNone) with
    | true => rw [hb] at h; exact h.elim
    | false =>
     rw [hb] at h
     simp only [cond_false] at h
     obtain ⟨m, a1, ha⟩ := of_intOp hρ h
     obtain ⟨h', a2, hb'⟩ := of_intOp hρ ha
     obtain ⟨l, a3, c1, c2, c3, c4, hK⟩ := of_intOp hρ hb'
     simp only at c4
     have hsb := fun w' => run_sliceBounds (P := P) (w := w') (b := true) a1 a2 a3 (by
      rw [isSome_map, isSome_map]; intro hm; rw [hm] at hb; cases hi <;> simp_all) c1 c2 c3 c4
     refine ⟨_, (fun _ hx => (by cases hx)), fun w' he => ?_, hK⟩
     simp only [execOp, Instr.sliceAt, Instr.slice, Sem.run_bind, run_underlying hu, Result.andThen_ok, hρ _ _ h1, hsb, sizeOf, typeInfo, run_program, hinf, Sem.run_pure]
   ·exact h.elim
  ·rename_i n el p hu h1
   split at h
   ·rename_i inf hinf
    cases hb : (mx.isSome && hi.isNone) with
    | true => rw [hb] at h; exact h.elim
    | false =>
     rw [hb] at h
     simp only [cond_false] at h
     obtain ⟨a, rfl, hn⟩ := of_NN h
     obtain ⟨m, a1, ha⟩ := of_intOp hρ hn
     obtain ⟨h', a2, hb'⟩ := of_intOp hρ ha
     obtain ⟨l, a3, c1, c2, c3, c4, hK⟩ := of_intOp hρ hb'
     have hsb := fun w' => run_sliceBounds (P := P) (w := w') (b := false) a1 a2 a3 (by
      rw [isSome_map, isSome_map]; intro hm; rw [hm] at hb; cases hi <;> simp_all) c1 c2 c3 c4
     refine ⟨_, (fun _ hx => (by cases hx)), fun w' he => ?_, hK⟩
     simp only [execOp, Instr.sliceAt, Sem.run_bind, run_underlying hu, Result.andThen_ok, hρ _ _ h1, Instr.sureAddr, hsb, sizeOf, typeInfo, run_program, hinf, Sem.run_pure]
   ·exact h.elim
  ·rename_i s hu h1
   cases hb : mx.isSome with
   | true => rw [hb] at h; exact h.elim
   | false =>
    rw [hb] at h
    simp only [cond_false] at h
    obtain rfl : mx = none := by simpa using hb
    obtain ⟨h', a2, hb'⟩ := of_intOp hρ h
    obtain ⟨l, a3, c1, c2, c3, hK⟩ := of_intOp hρ hb'
    have hsb := fun w' => run_sliceBounds (P := P) (w := w') (b := false) (mx := none) (m := s.size) (.inl ⟨rfl, rfl⟩) a2 a3 (by simp) c1 c2 c3 (Int.le_refl _)
    refine ⟨_, (fun _ hx => (by cases hx)), fun w' he => ?_, hK⟩
    simp [execOp, Instr.sliceAt, Instr.slice, run_underlying hu, hρ _ _ h1, hsb]
  ·exact h.elim
 ·rename_i o t x y ty'
  split at h
  ·rename_i a b h1 h2
   have e1 := hρ _ _ h1
   have e2 := hρ _ _ h2
   have fin : ∀ v w', (binSem o t x y a b).run P w' = .ok v w' → (execOp e ⟨dst, .binOp o t x y ty', ty, pos, after, g⟩).run P w' = .ok (.value v) w' := by
    intro v w' hr
    unfold binSem at hr
    simp only [execOp, e1, e2]
    rw [Sem.run_bind, hr]; rfl
   have ext : isPlainT P t = false → ∀ w', (wl P (.binOp o t x y ty') = true ∨ (isLoad P (.binOp o t x y ty') = false ∧ Ext w w') ∨ (isLoad P (.binOp o t x y ty') = true ∧ ∀ z ∈ fpOf P ρ (.binOp o t x y ty') (.bool true), holdAt w' z)) → Ext w w' := by
    intro hp w' he
    rcases he with he | ⟨_, he⟩ | ⟨he, _⟩
    ·simp [wl, hp] at he
    ·exact he
    ·cases he
   cases hb : isIfaceT P t with
   | true =>
    rw [hb] at h
    obtain ⟨r, hr, hK⟩ := h
    have hp : isPlainT P t = false := by
     unfold isIfaceT at hb
     unfold isPlainT
     split at hb <;> simp_all
    exact ⟨_, (fun _ hx => (by cases hx)), fun w' he => fin _ w' (hr w' (ext hp w' he)), hK⟩
   | false =>
    rw [hb] at h
    simp only [cond_false] at h
    split at h
    ·rename_i v hv
     exact ⟨v, (fun _ hx => (by cases hx)), fun w' _ => fin v w' (of_pureBin hv), h⟩
    ·cases hp : isPlainT P t with
     | true =>
      rw [hp] at h
      obtain ⟨v, hr, hK⟩ := of_dBinP (P := P) (t := t) (x := x) (y := y) h
      exact ⟨v, (fun _ hx => (by cases hx)), fun w' _ => fin v w' (hr w'), hK⟩
     | false =>
      rw [hp] at h
      obtain ⟨r, hr, hK⟩ := h
      exact ⟨_, (fun _ hx => (by cases hx)), fun w' he => fin _ w' (hr w' (ext hp w' he)), hK⟩
  ·exact h.elim
 ·rename_i t parts
  have hz : ∀ (places : List (Nat × Nat × TypeId)) (vs : List Value) (z : Value) (F : Nat → Option (Nat × Nat)), mapO ρ (parts.toList.map (·.2)) = some vs →
    (∀ i, F i = (places[i]?).map fun x => (x.1, x.2.1)) →
    dFill P places z.cells.toList ((parts.toList.map (·.1)).zip vs) (fun cs => K (.agg cs.toArray)) →
    ∃ cs : Array Value, Instr.fill F z.cells (parts.map fun (i, x) => (i, e x)).toList = some cs ∧ K (.agg cs) := by
   intro places vs z F hm hF hd
   obtain ⟨cs, hc, hK⟩ := of_dFill hd
   refine ⟨cs, ?_, by simpa using hK⟩
   have e1 := of_mapO hρ hm
   have : (parts.map fun (i, x) => (i, e x)).toList = (parts.toList.map (·.1)).zip vs := by
    rw [← e1]
    simp only [Array.toList_map, List.map_map]
    generalize parts.toList = ps
    induction ps with
    | nil => rfl
    | cons p ps ih => simp [ih]
   rw [this, ← hc]
   congr 1
   funext i
   exact hF i
  split at h
  ·rename_i fs inf vs hu hi hm
   split at h
   ·rename_i z hzz
    cases hb : (fs.toList.all fun f => (P.info? f.type).isSome) with
    | false => rw [hb] at h; exact h.elim
    | true =>
     rw [hb] at h
     simp only [cond_true] at h
     have hall : ∀ f ∈ fs.toList, ∃ i, P.info? f.type = some i := fun f hf => Option.isSome_iff_exists.1 (List.all_eq_true.1 hb f hf)
     have hmap : ∀ w, (fs.mapM fun f => (do pure (f.offset, ← sizeOf f.type) : Sem (Nat × Nat))).run P w = .ok (fs.map fun f => (f.offset, P.cellsOf f.type)) w := by
      intro w
      have key : ∀ (l : List Field), (∀ f ∈ l, ∃ i, P.info? f.type = some i) →
        (l.mapM fun f => (do pure (f.offset, ← sizeOf f.type) : Sem (Nat × Nat))).run P w = .ok (l.map fun f => (f.offset, P.cellsOf f.type)) w := by
       intro l
       induction l with
       | nil => intro _; simp
       | cons f l ih =>
        intro hl'
        obtain ⟨i, hi'⟩ := hl' f (by simp)
        have ih' := ih (fun f' hf' => hl' f' (by simp [hf']))
        have hs : (sizeOf f.type).run P w = .ok i.size w := by simp [sizeOf, typeInfo, hi']
        simp only [List.mapM_cons, Sem.run_bind, hs, Result.andThen_ok, Sem.run_pure, ih', List.map_cons, info_cells hi']
      rw [Array.mapM_eq_mapM_toList, Sem.run_map, key _ hall]
      simp only [Result.andThen_ok]
      congr 1
      apply Array.ext'
      simp
     obtain ⟨cs, hc, hK⟩ := hz _ vs z (fun i => (fs.map fun f => (f.offset, P.cellsOf f.type))[i]?) hm (fun i => by simp; cases fs[i]? <;> rfl) h
     refine ⟨_, (fun _ hx => (by cases hx)), fun w' he => ?_, hK⟩
     simp only [execOp, Instr.build, Sem.run_bind, zeroValue, typeInfo, run_program, Result.andThen_ok, hi, Sem.run_pure, hzz, run_underlying hu, hmap, hc]
   ·exact h.elim
  ·rename_i n el inf vs hu hi hm
   split at h
   ·rename_i z hzz
    cases hb : (P.info? el).isNone with
    | true => rw [hb] at h; exact h.elim
    | false =>
     rw [hb] at h
     simp only [cond_false] at h
     obtain ⟨ie, hie⟩ : ∃ i, P.info? el = some i := by
      cases he : P.info? el with
      | none => simp [he] at hb
      | some i => exact ⟨i, rfl⟩
     obtain ⟨cs, hc, hK⟩ := hz _ vs z _ hm (fun i => rfl) h
     have hc' := fill_mono (F' := fun i => some (i * ie.size, ie.size)) (by
      intro i x hx
      simp only [Option.map_eq_some_iff] at hx
      obtain ⟨y, hy, rfl⟩ := hx
      simp only [List.getElem?_map, Option.map_eq_some_iff] at hy
      obtain ⟨j, hj, rfl⟩ := hy
      have := List.getElem?_eq_some_iff.1 hj
      obtain ⟨hlt, hj'⟩ := this
      simp only [List.getElem_range] at hj'
      subst hj'
      simp [info_cells hie]) hc
     refine ⟨_, (fun _ hx => (by cases hx)), fun w' he => ?_, hK⟩
     simp only [execOp, Instr.build, Sem.run_bind, zeroValue, typeInfo, run_program, Result.andThen_ok, hi, Sem.run_pure, hzz, run_underlying hu, sizeOf, hie, hc']
   ·exact h.elim
  ·exact h.elim
 ·rename_i t x ix ok
  split at h
  ·rename_i m k h1 h2
   obtain ⟨v, hr, hv⟩ := h
   obtain ⟨cs, hK, he⟩ := of_viewRet_curry hv
   rw [he] at hK
   refine ⟨v, (fun _ hx => (by cases hx)), fun w' he => ?_, hK⟩
   have he' : Ext w w' := by
    rcases he with he | ⟨_, he⟩ | ⟨he, _⟩
    ·cases he
    ·exact he
    ·cases he
   simp [execOp, hρ _ _ h1, hρ _ _ h2, hr w' he']
  ·exact h.elim
 ·rename_i x xt at' ok
  split at h
  ·rename_i v0 h1
   obtain ⟨v, hr, hv⟩ := h
   obtain ⟨cs, hK, he⟩ := of_viewRet_curry hv
   rw [he] at hK
   refine ⟨v, (fun _ hx => (by cases hx)), fun w' he => ?_, hK⟩
   have he' : Ext w w' := by
    rcases he with he | ⟨_, he⟩ | ⟨he, _⟩
    ·cases he
    ·exact he
    ·cases he
   simp [execOp, hρ _ _ h1, hr w' he']
  ·exact h.elim
 ·rename_i c
  cases hb : mapLen P c with
  | true =>
   rw [hb] at h
   simp only [cond_true] at h
   split at h
   ·rename_i vs hm
    obtain ⟨n, hr, hK⟩ := h
    have e1 := of_mapO hρ hm
    have a1 : c.args.map e = vs.toArray := Array.ext' (by simp [e1])
    refine ⟨_, (fun _ hx => (by cases hx)), fun w' he => ?_, hK⟩
    have he' : Ext w w' := by
     rcases he with he | ⟨_, he⟩ | ⟨he, _⟩
     ·simp [wl, hb] at he
     ·exact he
     ·cases he
    obtain ⟨callee, args, argTypes⟩ := c
    unfold mapLen at hb
    simp only at hb a1 hr
    split at hb
    ·simp only [execOp, Go.resolve, invoke, builtin, a1, Sem.run_bind, Sem.run_pure, Result.andThen_ok, hr w' he', Kd.inj]
    ·cases hb
   ·exact h.elim
  | false =>
   rw [hb] at h
   simp only [cond_false] at h
   split at h
   ·rename_i v hv
    exact ⟨v, (fun _ hx => (by cases hx)), fun w' _ => of_pureVal hρ hρ' hv dst pos after g, h⟩
   ·exact h.elim
 ·rename_i src dt x
  cases hb : bytesStr P src dt with
  | true =>
   rw [hb] at h
   simp only at h
   split at h
   ·rename_i a len cap h1
    obtain ⟨b, hB, hK⟩ := h
    refine ⟨.string b, ?_, fun w' he => ?_, hK⟩
    ·intro y hy
     simp only [fpOf, hb, h1, List.mem_singleton] at hy
     subst hy
     exact hB
    ·have hB' : BytesAt w' ⟨a, len, cap⟩ b := by
      rcases he with he | ⟨he, _⟩ | ⟨_, he⟩
      ·simp [wl, hb] at he
      ·simp [isLoad, hb] at he
      ·exact he (.bytes ⟨a, len, cap⟩ b) (by simp [fpOf, hb, h1])
     have hr := run_bytesStr hb hB'
     simp [execOp, hρ _ _ h1, hr]
   ·exact h.elim
  | false =>
   rw [hb] at h
   simp only at h
   split at h
   ·rename_i v hv
    exact ⟨v, (fun y hy => (by simp [fpOf, hb] at hy)), fun w' _ => of_pureVal hρ hρ' hv dst pos after g, h⟩
   ·exact h.elim
 ·split at h
  ·rename_i v hv
   exact ⟨v, (fun x hx => (by rw [fp_nil (by cases op <;> first | rfl | (exfalso; simp_all))] at hx; cases hx)), fun w' _ => of_pureVal hρ hρ' hv dst pos after g, h⟩
  ·exact h.elim
end
structure OkP (P : Program) : Prop where
 mixed : P.follows .mixedOrders = true
 names : (P.funcs.toList.all fun f => f.name != "runtime.NumGoroutine") = true
def zrow (z : List Value) : Nat → List Value
 | 0 => []
 | n + 1 => z ++ zrow z n
def Mk (z : List Value) (el : TypeId) (bytes : Nat) (l c : Int) (w : World) (K : Sl → World → Prop) : Prop :=
 0 ≤ l ∧ l ≤ c ∧ c ≤ 281474976710656 ∧ bytes * c ≤ 281474976710656 ∧
  Nw (.cells (zrow z c.toNat).toArray el) w fun a w' => K ⟨some a, l.toNat, c.toNat⟩ w'
def CallV (P : Program) (v : Value) (args : List Value) (shs : List Sh) (w : World) (R : Fn (kdsOf shs) (World → Prop)) : Prop :=
 ∃ f first captured, v = .func (.func f) first captured ∧ (∃ fn, P.funcs[f]? = some fn ∧ fn.body.isSome = true) ∧ CallK P f (first.toList ++ args ++ captured.toList) shs w R
def NxM (P : Program) (v : Value) (ty : TypeId) (w : World) (K0 : World → Prop) (K1 : Value → Value → World → Prop) : Prop :=
 ∃ u w', (Instr.next v false ty).run P w = .ok u w' ∧ ((u = .tuple #[.bool false] ∧ K0 w') ∨ ∃ k x, u = .tuple #[.bool true, k, x] ∧ K1 k x w')
def EnM (P : Program) (v : Value) (w : World) (K : Value → Value → World → Prop) : Prop :=
 ∃ k x, (Instr.entry v).run P w = .ok (.tuple #[k, x]) w ∧ K k x w
def CallX (P : Program) (f : FuncId) (args : List Value) (shs : List Sh) (w : World) (R : Fn (kdsOf shs) (World → Prop)) : Prop :=
 ∃ v w', (callFunc f args.toArray).run P w = .ok (.value v) w' ∧ viewRet shs v R w'
def dEff (P : Program) (op : Op) (ty : TypeId) (ρ : Operand → Option Value) (w : World) (K : Value → World → Prop) : Prop :=
 match op with
 | .alloc el =>
  match P.info? el with
  | some i => match i.zero with
   | some z => Nw (.cells z.cells el) w fun a w' => K (.pointer (some a)) w'
   | none => False
  | none => False
 | .box el x =>
  match ρ x with
  | some v => dCells P el v fun cs => Nw (.cells cs.toArray el) w fun a w' => K (.pointer (some a)) w'
  | none => False
 | .buildSlice t len parts =>
  match P.underlying t, mapO ρ (parts.toList.map (·.2)) with
  | some (.slice el), some vs => match P.info? el with
   | some inf => match inf.zero with
    | some z => cond (Nat.beq len 0) (match parts.toList with
      | [] => Nw (.cells #[] el) w fun a w' => K (.slice (some a) 0 0) w'
      | _ => False) <| cond (Nat.ble (len * inf.size) 1000000 && Nat.beq z.cells.size inf.size && !Nat.beq (len * inf.size) 0)
      (dFill P ((List.range len).map fun i => (i * inf.size, inf.size, el)) (zrow z.cells.toList len) ((parts.toList.map (·.1)).zip vs) fun cs =>
       Nw (.cells cs.toArray el) w fun a w' => K (.slice (some a) len len) w') False
    | none => False
   | none => False
  | _, _ => False
 | .store t x y =>
  match ρ x, ρ y with
  | some (.pointer p), some v => NN p fun a => dCells P t v fun cs => cond (Nat.beq cs.length (P.cellsOf t) && !Nat.beq (P.cellsOf t) 0) (StL a cs 0 w fun w' => K undef w') False
  | _, _ => False
 | .makeSlice t x y =>
  match P.underlying t, ρ x, ρ y with
  | some (.slice el), some (.int _ l), some (.int _ c) => match P.info? el with
   | some inf => match inf.zero with
    | some z => cond (Nat.beq z.cells.size inf.size && !Nat.beq inf.size 0)
      (Mk z.cells.toList el inf.bytes l c w fun s w' => K (.slice s.a s.len s.cap) w') False
    | none => False
   | none => False
  | _, _, _ => False
 | .makeMap t r =>
  match r with
  | none => Nw (.map #[] 0) w fun a w' => K (.map (some a.block)) w'
  | some x => match P.underlying t, ρ x with
   | some (.map _ _), some (.int _ _) => Nw (.map #[] 0) w fun a w' => K (.map (some a.block)) w'
   | _, _ => False
 | .mapUpdate t m k x =>
  match ρ m, ρ k, ρ x with
  | some m, some k, some x => RunU P (Instr.mapUpdate t m k x) w fun w' => K undef w'
  | _, _, _ => False
 | .insert t m k x =>
  match ρ m, ρ k, ρ x with
  | some m, some k, some x => RunU P (Instr.mapUpdate t m k x) w fun w' => K undef w'
  | _, _, _ => False
 | .range t x =>
  match ρ x with
  | some v => Run .p P (Instr.range t v) w fun p w' => K (.pointer p) w'
  | none => False
 | .next it isStr =>
  match ρ it with
  | some v => cond isStr (RunL (retShapes P ty) P (Instr.next v isStr ty) w (curry _ fun cs w' => K (mkRes (unflat (retShapes P ty) cs)) w'))
    (NxM P v ty w (fun w' => K (.tuple #[.bool false]) w') fun k x w' => K (.tuple #[.bool true, k, x]) w')
  | none => False
 | .entry it =>
  match ρ it with
  | some v => EnM P v w fun k x w' => K (.tuple #[k, x]) w'
  | none => False
 | .convert src dst x =>
  match P.underlying dst, ρ x with
  | some d, some v => Run (cellKd d) P (convert src dst v) w fun r w' => K ((cellKd d).inj r) w'
  | _, _ => False
 | .call c =>
  match mapO ρ c.args.toList with
  | none => False
  | some vs =>
   match c.callee with
   | .value (.func f) => match P.funcs[f]? with
    | some fn => cond fn.body.isSome
      (CallK P f vs (fn.resultTypes.toList.map (shapeOf P)) w (curry _ fun cs w' => K (mkRes (unflat (fn.resultTypes.toList.map (shapeOf P)) cs)) w'))
      (CallX P f vs (fn.resultTypes.toList.map (shapeOf P)) w (curry _ fun cs w' => K (mkRes (unflat (fn.resultTypes.toList.map (shapeOf P)) cs)) w'))
    | none => False
   | .value x => match ρ x with
    | some v => CallV P v vs (retShapes P ty) w (curry _ fun cs w' => K (mkRes (unflat (retShapes P ty) cs)) w')
    | none => False
   | .builtin .append => Run .sl P (Builtin.append_ c.argTypes ty vs.toArray) w fun s w' => K (.slice s.a s.len s.cap) w'
   | .builtin .copy => Run (.i .i64) P (Builtin.copy_ c.argTypes ty vs.toArray) w fun n w' => K (.int .i64 n) w'
   | .builtin .delete => Run .v P (Builtin.delete_ c.argTypes ty vs.toArray) w fun v w' => K v w'
   | .builtin .clear => Run .v P (Builtin.clear_ c.argTypes ty vs.toArray) w fun v w' => K v w'
   | _ => False
 | _ => False
def CallP (P : Program) (f : FuncId) (args : List Value) (shs : List Sh) (w : World) (R : Fn (kdsOf shs) (World → Prop)) (E : List PanicEntry → World → Prop) : Prop :=
 Calls P f args.toArray w fun e w' => (∃ v, e = .returned v ∧ viewRet shs v R w') ∨ ∃ ch, e = .panicked ch ∧ E ch w'
structure NX where
 n : Nat
 pan : List FuncId
 E : List PanicEntry → World → Prop
def mayPan (pan : List FuncId) : Op → Bool
 | .call c => match c.callee with
  | .value (.func f) => pan.any (Nat.beq f)
  | _ => false
 | .panic _ => !pan.isEmpty
 | _ => false
def dPan (P : Program) (X : NX) (op : Op) (ρ : Operand → Option Value) (w : World) (K : Value → World → Prop) : Prop :=
 match op with
 | .call c =>
  match mapO ρ c.args.toList with
  | none => False
  | some vs =>
   match c.callee with
   | .value (.func f) => match P.funcs[f]? with
    | some fn => cond fn.body.isSome
      (CallP P f vs (fn.resultTypes.toList.map (shapeOf P)) w (curry _ fun cs w' => K (mkRes (unflat (fn.resultTypes.toList.map (shapeOf P)) cs)) w') X.E) False
    | none => False
   | _ => False
 | .panic x =>
  match ρ x with
  | some (.iface t v) => X.E [{ v := .iface t v, recovered := false }] w
  | _ => False
 | _ => False
def dEffE (P : Program) (X : NX) (op : Op) (ty : TypeId) (ρ : Operand → Option Value) (w : World) (K : Value → World → Prop) : Prop :=
 cond (mayPan X.pan op) (dPan P X op ρ w K) (dEff P op ty ρ w K)
def isAlloc : Op → Bool
 | .alloc _ | .box _ _ | .buildSlice _ _ _ | .makeSlice _ _ _ | .makeMap _ _ => true
 | _ => false
section
variable {P : Program} {a : Act} {ρ : Operand → Option Value} {w : World} {Q : Exit → Act → World → Prop}
theorem run_callFunc {f : FuncId} {fn : Func} {args : Array Value} (hP : OkP P) (hf : P.funcs[f]? = some fn) (hb : fn.body.isSome = true) :
  (callFunc f args).run P w = .ok (.enter f args) w := by
 have hn : fn.name ≠ "runtime.NumGoroutine" := by
  have := List.all_eq_true.1 hP.names fn (by
   obtain ⟨h1, h2⟩ := Array.getElem?_eq_some_iff.1 hf
   rw [← h2]; simp)
  simpa using this
 obtain ⟨c, hc⟩ := Option.isSome_iff_exists.1 hb
 simp [callFunc, hf, hn, hc]
theorem zrow_getElem {z : List Value} : ∀ (n i : Nat), i < n * z.length → (zrow z n)[i]? = z[i % z.length]?
 | 0, i, h => by simp at h
 | n + 1, i, h => by
  simp only [zrow]
  rw [Nat.add_mul, Nat.one_mul] at h
  by_cases hi : i < z.length
  ·rw [List.getElem?_append_left hi, Nat.mod_eq_of_lt hi]
  ·rw [List.getElem?_append_right (by omega), zrow_getElem n (i - z.length) (by omega)]
   congr 1
   have : i = (i - z.length) + z.length := by omega
   conv => rhs; rw [this]
   simp
theorem zrow_length {z : List Value} : ∀ n, (zrow z n).length = n * z.length
 | 0 => by simp [zrow]
 | n + 1 => by simp [zrow, zrow_length n, Nat.add_mul]; omega
theorem zrow_eq {z : Array Value} (n : Nat) : (Array.range (n * z.size)).map (fun i => z[i % z.size]!) = (zrow z.toList n).toArray := by
 apply Array.ext'
 apply List.ext_getElem?
 intro i
 simp only [Array.toList_map, Array.toList_range, List.getElem?_map]
 by_cases hi : i < n * z.size
 ·rw [List.getElem?_range hi, zrow_getElem n i (by simpa using hi)]
  have hz : 0 < z.size := by
   rcases Nat.eq_zero_or_pos z.size with h | h
   ·rw [h] at hi; simp at hi
   ·exact h
  have hm := Nat.mod_lt i hz
  simp [hm]
 ·have h1 : (List.range (n * z.size))[i]? = none := by simp; omega
  have h2 : (zrow z.toList n)[i]? = none := by simp [zrow_length]; omega
  rw [h1]; simp [h2]
theorem run_makeSlice {t el : TypeId} {inf : TypeInfo} {z : Value} {k k' : IntKind} {l c : Int} (hu : P.underlying t = some (.slice el)) (hi : P.info? el = some inf) (hz : inf.zero = some z)
  (hs : z.cells.size = inf.size) (hs0 : inf.size ≠ 0) (h1 : 0 ≤ l) (h2 : l ≤ c) (h3 : c ≤ 281474976710656) (h4 : inf.bytes * c ≤ 281474976710656) :
  (Instr.makeSlice t (.int k l) (.int k' c)).run P w = .ok (.slice (some ⟨w.heap.size, 0, none⟩) l.toNat c.toNat) (w.alloc (.cells (zrow z.cells.toList c.toNat).toArray el)) := by
 have w1 : IntKind.i64.wrap l = l := by simp only [IntKind.wrap, IntKind.bits, IntKind.signed, Bool.true_and, decide_eq_true_eq, ge_iff_le]; split <;> omega
 have w2 : IntKind.i64.wrap c = c := by simp only [IntKind.wrap, IntKind.bits, IntKind.signed, Bool.true_and, decide_eq_true_eq, ge_iff_le]; split <;> omega
 have hrow := zrow_eq (z := z.cells) c.toNat
 rw [hs] at hrow
 have e48 : (2 : Int) ^ 48 = 281474976710656 := by decide
 simp only [Instr.makeSlice, Sem.run_bind, run_underlying hu, Result.andThen_ok, asInt, asIntOf, Sem.run_pure, typeInfo, run_program, hi, w1, w2, e48]
 have hA : (c < 0 || decide (inf.bytes * c > 281474976710656)) = false := by simp; omega
 have hB : decide (l < 0) = false := by simp; omega
 have hC : decide (l > c) = false := by simp; omega
 simp only [hA, hB, hC, Bool.or_self, Bool.false_eq_true, if_false, Sem.run_bind, run_askRoom, Result.andThen_ok, sizeOf, typeInfo, run_program, hi, Sem.run_pure]
 by_cases hc : c.toNat * inf.size = 0
 ·have hc0 : c.toNat = 0 := by
   rcases Nat.mul_eq_zero.1 hc with h | h
   ·exact h
   ·exact absurd h hs0
  have e0 : Array.range 0 = #[] := rfl
  simp [hc, hc0, newRow, zrow, e0]
 ·simp only [if_neg hc, Sem.run_bind, zeroValue, typeInfo, run_program, Result.andThen_ok, hi, Sem.run_pure, hz, newRow, run_newObj]
  simp only [hs, hrow, World.alloc_eq]
theorem of_dEff (hP : OkP P) (hρ : ∀ x v, ρ x = some v → a.eval x = v) {op : Op} {ty : TypeId} {K : Value → World → Prop} (h : dEff P op ty ρ w K)
  (dst : Option Tmp) (pos : String) (after : Array Edge) (g : Option (Nat × Bool)) :
  (⟨dst, op, ty, pos, after, g⟩ : Oper).wp P a w (fun a' w' => ∃ v, a' = a.put dst v ∧ K v w' ∧ (isAlloc op = true → Ext w w')) Q := by
 have val : ∀ {v w'}, (execOp a.eval ⟨dst, op, ty, pos, after, g⟩).run P w = .ok (.value v) w' → (isAlloc op = true → Ext w w') → K v w' →
   (⟨dst, op, ty, pos, after, g⟩ : Oper).wp P a w (fun a' w' => ∃ v, a' = a.put dst v ∧ K v w' ∧ (isAlloc op = true → Ext w w')) Q := by
  intro v w' hr hx hK
  unfold Oper.wp
  rw [hr]
  exact ⟨v, rfl, hK, hx⟩
 have skp : ∀ {w'}, (execOp a.eval ⟨dst, op, ty, pos, after, g⟩).run P w = .ok .skip w' → (isAlloc op = true → Ext w w') → K undef w' →
   (⟨dst, op, ty, pos, after, g⟩ : Oper).wp P a w (fun a' w' => ∃ v, a' = a.put dst v ∧ K v w' ∧ (isAlloc op = true → Ext w w')) Q := by
  intro w' hr hx hK
  unfold Oper.wp
  rw [hr]
  exact ⟨undef, rfl, hK, hx⟩
 unfold dEff at h
 split at h
 ·rename_i el
  split at h
  ·rename_i i hi
   split at h
   ·rename_i z hz
    refine val (v := .pointer (some ⟨w.heap.size, 0, none⟩)) (w' := w.alloc (.cells z.cells el)) ?_ (fun _ => Ext.alloc _ _) h
    simp [execOp, Instr.alloc, zeroValue, typeInfo, hi, hz, newVar, newRow]
   ·exact h.elim
  ·exact h.elim
 ·rename_i el x
  split at h
  ·rename_i v hv
   have h1 := of_dCells h
   refine val (v := .pointer (some ⟨w.heap.size, 0, none⟩)) (w' := w.alloc (.cells v.cells.toList.toArray el)) ?_ (fun _ => Ext.alloc _ _) h1
   simp [execOp, Instr.box, newVar, newRow, hρ _ _ hv]
  ·exact h.elim
 ·rename_i t len parts
  split at h
  ·rename_i el vs hu hm
   split at h
   ·rename_i inf hi
    split at h
    ·rename_i z hz
     cases hb0 : Nat.beq len 0 with
     | true =>
      rw [hb0] at h
      simp only [cond_true] at h
      obtain rfl := Nat.eq_of_beq_eq_true hb0
      split at h
      ·rename_i hp
       have hp' : parts = #[] := Array.ext' (by simpa using hp)
       subst hp'
       refine val (v := .slice (some ⟨w.heap.size, 0, none⟩) 0 0) (w' := w.alloc (.cells #[] el)) ?_ (fun _ => Ext.alloc _ _) h
       have e0 : Array.range 0 = #[] := rfl
       simp [execOp, Instr.buildSlice, run_underlying hu, sizeOf, typeInfo, hi, Instr.fill, newRow, e0]
      ·exact h.elim
     | false =>
     rw [hb0] at h
     simp only [cond_false] at h
     cases hb : (Nat.ble (len * inf.size) 1000000 && Nat.beq z.cells.size inf.size && !Nat.beq (len * inf.size) 0) with
     | false => rw [hb] at h; exact h.elim
     | true =>
      rw [hb] at h
      simp only [cond_true] at h
      simp only [Bool.and_eq_true, Bool.not_eq_true'] at hb
      obtain ⟨⟨hb1, hb2⟩, hb3⟩ := hb
      have hle : len * inf.size ≤ 1000000 := Nat.le_of_ble_eq_true hb1
      have hsz : z.cells.size = inf.size := Nat.eq_of_beq_eq_true hb2
      have hnz : len * inf.size ≠ 0 := by intro h0; rw [h0] at hb3; cases hb3
      obtain ⟨cs, hc, hK⟩ := of_dFill h
      have hc' := fill_mono (F' := fun i => some (i * inf.size, inf.size)) (by
       intro i x hx
       simp only [Option.map_eq_some_iff] at hx
       obtain ⟨y, hy, rfl⟩ := hx
       simp only [List.getElem?_map, Option.map_eq_some_iff] at hy
       obtain ⟨j, hj, rfl⟩ := hy
       obtain ⟨hlt, hj'⟩ := List.getElem?_eq_some_iff.1 hj
       simp only [List.getElem_range] at hj'
       subst hj'
       rfl) hc
      have e1 := of_mapO hρ hm
      have hparts : (parts.map fun (i, x) => (i, a.eval x)).toList = (parts.toList.map (·.1)).zip vs := by
       rw [← e1]
       simp only [Array.toList_map, List.map_map]
       generalize parts.toList = ps
       induction ps with
       | nil => rfl
       | cons p ps ih => simp [ih]
      have hrow := zrow_eq (z := z.cells) len
      rw [hsz] at hrow
      refine val (v := .slice (some ⟨w.heap.size, 0, none⟩) len len) (w' := w.alloc (.cells cs.toList.toArray el)) ?_ (fun _ => Ext.alloc _ _) hK
      have h24 : ¬ (len * inf.size > 2 ^ 24) := by
       have : (2 : Nat) ^ 24 = 16777216 := by decide
       omega
      simp only [execOp, Instr.buildSlice, Sem.run_bind, run_underlying hu, Result.andThen_ok, sizeOf, typeInfo, run_program, hi, Sem.run_pure, if_neg h24, if_neg hnz, zeroValue, hz, hsz, hrow, hparts, hc', newRow,
       run_newObj, World.alloc_eq, Array.toArray_toList]
    ·exact h.elim
   ·exact h.elim
  ·exact h.elim
 ·rename_i t x y
  split at h
  ·rename_i p v h1 h2
   obtain ⟨ad, rfl, h3⟩ := of_NN h
   have h4 := of_dCells h3
   cases hb : (Nat.beq v.cells.toList.length (P.cellsOf t) && !Nat.beq (P.cellsOf t) 0) with
   | false => rw [hb] at h4; exact h4.elim
   | true =>
    rw [hb] at h4
    simp only [Bool.and_eq_true, Bool.not_eq_true'] at hb
    obtain ⟨w', hr, hK⟩ := of_StL (P := P) h4
    have hn : v.cells.size = P.cellsOf t := by simpa using Nat.eq_of_beq_eq_true hb.1
    obtain ⟨i, hi, his⟩ := of_cellsOf (P := P) (t := t) rfl (by intro h0; rw [h0] at hb; exact absurd hb.2 (by decide))
    refine skp (w' := w') ?_ (fun h => by cases h) hK
    have : v.cells.size = i.size := by rw [hn, his]
    simp [execOp, Instr.storeAt, Instr.sureAddr, hρ _ _ h1, hρ _ _ h2, storeVar, sizeOf, typeInfo, hi, this, hr]
  ·exact h.elim
 ·rename_i t x y
  split at h
  ·rename_i el k l k' c hu h1 h2
   split at h
   ·rename_i inf hi
    split at h
    ·rename_i z hz
     cases hb : (Nat.beq z.cells.size inf.size && !Nat.beq inf.size 0) with
     | false => rw [hb] at h; exact h.elim
     | true =>
      rw [hb] at h
      simp only [cond_true] at h
      simp only [Bool.and_eq_true, Bool.not_eq_true'] at hb
      obtain ⟨c1, c2, c3, c4, hK⟩ := h
      refine val (v := .slice (some ⟨w.heap.size, 0, none⟩) l.toNat c.toNat) (w' := w.alloc (.cells (zrow z.cells.toList c.toNat).toArray el)) ?_ (fun _ => Ext.alloc _ _) hK
      have := run_makeSlice (P := P) (w := w) (k := k) (k' := k') hu hi hz (Nat.eq_of_beq_eq_true hb.1) (by intro h0; rw [h0] at hb; exact absurd hb.2 (by decide)) c1 c2 c3 c4
      simp [execOp, hρ _ _ h1, hρ _ _ h2, this]
    ·exact h.elim
   ·exact h.elim
  ·exact h.elim
 ·rename_i t r
  split at h
  ·refine val (v := .map (some w.heap.size)) (w' := w.alloc (.map #[] 0)) ?_ (fun _ => Ext.alloc _ _) h
   simp [execOp, Instr.makeMap]
  ·rename_i x
   split at h
   ·rename_i k el kk n hu h1
    refine val (v := .map (some w.heap.size)) (w' := w.alloc (.map #[] 0)) ?_ (fun _ => Ext.alloc _ _) h
    simp [execOp, Instr.makeMap, run_underlying hu, hρ _ _ h1, asInt, asIntOf]
   ·exact h.elim
 ·rename_i t m k x
  split at h
  ·rename_i m' k' x' h1 h2 h3
   obtain ⟨w', hr, hK⟩ := h
   exact skp (by simp [execOp, hρ _ _ h1, hρ _ _ h2, hρ _ _ h3, hr]) (fun h => by cases h) hK
  ·exact h.elim
 ·rename_i t m k x
  split at h
  ·rename_i m' k' x' h1 h2 h3
   obtain ⟨w', hr, hK⟩ := h
   exact skp (by simp [execOp, hρ _ _ h1, hρ _ _ h2, hρ _ _ h3, hr]) (fun h => by cases h) hK
  ·exact h.elim
 ·rename_i t x
  split at h
  ·rename_i v h1
   obtain ⟨p, w', hr, hK⟩ := h
   exact val (by simp only [execOp, hρ _ _ h1, Sem.run_bind, hr, Result.andThen_ok, Sem.run_pure, Kd.inj]) (fun h => by cases h) hK
  ·exact h.elim
 ·rename_i it isStr
  split at h
  ·rename_i v0 h1
   cases isStr with
   | true =>
    obtain ⟨v, w', hr, hv⟩ := h
    obtain ⟨cs, hK, he⟩ := of_viewRet_curry hv
    rw [he] at hK
    exact val (by simp [execOp, hρ _ _ h1, hr]) (fun h => by cases h) hK
   | false =>
    obtain ⟨v, w', hr, hv⟩ := h
    rcases hv with ⟨he, hK⟩ | ⟨k, x, he, hK⟩
    ·rw [← he] at hK
     exact val (by simp [execOp, hρ _ _ h1, hr]) (fun h => by cases h) hK
    ·rw [← he] at hK
     exact val (by simp [execOp, hρ _ _ h1, hr]) (fun h => by cases h) hK
  ·exact h.elim
 ·rename_i it
  split at h
  ·rename_i v0 h1
   obtain ⟨k, x, hr, hK⟩ := h
   exact val (by simp [execOp, hρ _ _ h1, hr]) (fun h => by cases h) hK
  ·exact h.elim
 ·rename_i src dst' x
  split at h
  ·rename_i d v hd h1
   obtain ⟨r, w', hr, hK⟩ := h
   exact val (by simp [execOp, hρ _ _ h1, hr]) (fun h => by cases h) hK
  ·exact h.elim
 ·rename_i c
  split at h
  ·exact h.elim
  ·rename_i vs hm
   have e1 := of_mapO hρ hm
   obtain ⟨callee, args, argTypes⟩ := c
   simp only at h hm e1
   have a1 : args.map a.eval = vs.toArray := Array.ext' (by simp [e1])
   split at h
   ·rename_i f
    split at h
    ·rename_i fn hf
     cases hb : fn.body.isSome with
     | false =>
      rw [hb] at h
      simp only [cond_false] at h
      obtain ⟨v, w', hr, hv⟩ := h
      obtain ⟨cs, hK, he⟩ := of_viewRet_curry hv
      rw [he] at hK
      exact val (by simp [execOp, Go.resolve, Act.eval, Deferred.ofValue, invoke, a1, hr]) (fun h => by cases h) hK
     | true =>
      rw [hb] at h
      simp only [cond_true] at h
      unfold Oper.wp
      have hr : (execOp a.eval ⟨dst, .call ⟨.value (.func f), args, argTypes⟩, ty, pos, after, g⟩).run P w = .ok (.enter f vs.toArray) w := by
       simp [execOp, Go.resolve, Act.eval, Deferred.ofValue, invoke, a1, run_callFunc hP hf hb]
      rw [hr]
      refine Calls.mono h ?_
      rintro e w' ⟨v, rfl, hv⟩
      obtain ⟨cs, hK, he⟩ := of_viewRet_curry hv
      rw [he] at hK
      exact ⟨v, rfl, hK, fun h => by cases h⟩
    ·exact h.elim
   ·rename_i x hx
    split at h
    ·rename_i v h1
     obtain ⟨f, first, captured, rfl, ⟨fn, hf, hb⟩, hcall⟩ := h
     unfold Oper.wp
     have hr : (execOp a.eval ⟨dst, .call ⟨.value x, args, argTypes⟩, ty, pos, after, g⟩).run P w = .ok (.enter f (first.toList ++ vs ++ captured.toList).toArray) w := by
      have := run_callFunc (w := w) (args := (first ++ vs.toArray ++ captured)) hP hf hb
      have e2 : (first.toList ++ vs ++ captured.toList).toArray = first ++ vs.toArray ++ captured := Array.ext' (by simp)
      rw [e2]
      simp [execOp, Go.resolve, hρ _ _ h1, Deferred.ofValue, invoke, a1]
      simpa using this
     rw [hr]
     refine Calls.mono hcall ?_
     rintro e w' ⟨v, rfl, hv⟩
     obtain ⟨cs, hK, he⟩ := of_viewRet_curry hv
     rw [he] at hK
     exact ⟨v, rfl, hK, fun h => by cases h⟩
    ·exact h.elim
   ·obtain ⟨s, w', hr, hK⟩ := h
    exact val (by simp only [execOp, Go.resolve, invoke, builtin, a1, Sem.run_bind, Sem.run_pure, Result.andThen_ok, hr, Kd.inj]) (fun h => by cases h) hK
   ·obtain ⟨s, w', hr, hK⟩ := h
    exact val (by simp only [execOp, Go.resolve, invoke, builtin, a1, Sem.run_bind, Sem.run_pure, Result.andThen_ok, hr, Kd.inj]) (fun h => by cases h) hK
   ·obtain ⟨s, w', hr, hK⟩ := h
    exact val (by simp only [execOp, Go.resolve, invoke, builtin, a1, Sem.run_bind, Sem.run_pure, Result.andThen_ok, hr, Kd.inj]) (fun h => by cases h) hK
   ·obtain ⟨s, w', hr, hK⟩ := h
    exact val (by simp only [execOp, Go.resolve, invoke, builtin, a1, Sem.run_bind, Sem.run_pure, Result.andThen_ok, hr, Kd.inj]) (fun h => by cases h) hK
   ·exact h.elim
 ·exact h.elim
theorem of_dPan (hP : OkP P) (hρ : ∀ x v, ρ x = some v → a.eval x = v) {X : NX} {op : Op} {ty : TypeId} {K : Value → World → Prop} (hE : ∀ ch w', X.E ch w' → Q (.panic ch) a w') (h : dPan P X op ρ w K)
  (dst : Option Tmp) (pos : String) (after : Array Edge) (g : Option (Nat × Bool)) :
  (⟨dst, op, ty, pos, after, g⟩ : Oper).wp P a w (fun a' w' => ∃ v, a' = a.put dst v ∧ K v w' ∧ (isAlloc op = true → Ext w w')) Q := by
 unfold dPan at h
 split at h
 ·rename_i c
  split at h
  ·exact h.elim
  ·rename_i vs hm
   have e1 := of_mapO hρ hm
   obtain ⟨callee, args, argTypes⟩ := c
   simp only at h hm e1
   have a1 : args.map a.eval = vs.toArray := Array.ext' (by simp [e1])
   split at h
   ·rename_i f
    split at h
    ·rename_i fn hf
     cases hb : fn.body.isSome with
     | false => rw [hb] at h; exact h.elim
     | true =>
      rw [hb] at h
      simp only [cond_true] at h
      unfold Oper.wp
      have hr : (execOp a.eval ⟨dst, .call ⟨.value (.func f), args, argTypes⟩, ty, pos, after, g⟩).run P w = .ok (.enter f vs.toArray) w := by
       simp [execOp, Go.resolve, Act.eval, Deferred.ofValue, invoke, a1, run_callFunc hP hf hb]
      rw [hr]
      refine Calls.mono h ?_
      rintro e w' (⟨v, rfl, hv⟩ | ⟨ch, rfl, hc⟩)
      ·obtain ⟨cs, hK, he⟩ := of_viewRet_curry hv
       rw [he] at hK
       exact ⟨v, rfl, hK, fun h => by cases h⟩
      ·exact hE ch w' hc
    ·exact h.elim
   ·exact h.elim
 ·rename_i x
  split at h
  ·rename_i t v hv
   unfold Oper.wp
   have hr : (execOp a.eval ⟨dst, .panic x, ty, pos, after, g⟩).run P w = .halt (.panic (.iface t v)) w := by
    simp [execOp, hρ _ _ hv, Instr.panic, goPanic]
   rw [hr]
   exact hE _ w h
  ·exact h.elim
 ·exact h.elim
theorem of_dEffE (hP : OkP P) (hρ : ∀ x v, ρ x = some v → a.eval x = v) {X : NX} {op : Op} {ty : TypeId} {K : Value → World → Prop} (hE : ∀ ch w', X.E ch w' → Q (.panic ch) a w') (h : dEffE P X op ty ρ w K)
  (dst : Option Tmp) (pos : String) (after : Array Edge) (g : Option (Nat × Bool)) :
  (⟨dst, op, ty, pos, after, g⟩ : Oper).wp P a w (fun a' w' => ∃ v, a' = a.put dst v ∧ K v w' ∧ (isAlloc op = true → Ext w w')) Q := by
 unfold dEffE at h
 cases hm : mayPan X.pan op with
 | true => rw [hm] at h; exact of_dPan hP hρ hE h dst pos after g
 | false => rw [hm] at h; exact of_dEff hP hρ h dst pos after g
end
end Go.Den
end

section
namespace Go.Den
def flFree (fl : FEnv) (d : Nat) : Bool := fl.all fun x => !(Nat.beq x.1 d) && x.2.1.all fun g => !(Nat.beq g.1 d)
def putK (N : NX) (fl : FEnv) (dst : Option Nat) (l : Env) (v : Value) (K : Env → Prop) : Prop :=
 match dst with
 | none => K l
 | some d => cond (Nat.blt d N.n && flFree fl d) (K ((d, some v) :: l)) False
abbrev CEnv := List (Nat × Hold)
structure It where
 o : Oper
 idx : Nat
 anc : Option Nat
def addC (it : It) (fp : List Hold) (C : CEnv) : CEnv :=
 match it.anc with
 | none => C
 | some _ => fp.map (fun x => (it.idx, x)) ++ C
def keepL (m : Nat) (w : World) (K : Prop) : CEnv → Prop
 | [] => K
 | (k, h) :: r => cond (Nat.testBit m k) (keepL m w K r) (holdAt w h ∧ keepL m w K r)
def keepC (it : It) (C : CEnv) (w : World) (K : Prop) : Prop :=
 match it.anc with
 | none => K
 | some m => cond (isAlloc it.o.op) K (keepL m w K C)
def dropC (it : It) (C : CEnv) : CEnv :=
 match it.anc with
 | none => C
 | some m => C.filter fun x => !Nat.testBit m x.1
def dRoF (P : Program) (op : Op) (ty : TypeId) (ρ : Operand → Option Value) (ρ' : Nat → Bool → Operand → Option Value) (w : World) (K : Value → List Hold → Prop) : Prop :=
 match op with
 | .load t x => match ρ x with
  | some (.pointer p) => NN p fun a => dLoad P t w a fun v => K v ((fpA P t a v).map fun x => .cell x.1 x.2)
  | _ => False
 | op => dRo P op ty ρ ρ' w fun v => K v (fpOf P ρ op v)
theorem of_dRoF {P : Program} {e : Operand → Value} {ρ : Operand → Option Value} {ρ' : Nat → Bool → Operand → Option Value} {w : World}
  (hρ : ∀ x v, ρ x = some v → e x = v) (hρ' : ∀ c b x v, e (.tmp c) = .bool b → ρ' c b x = some v → e x = v)
  {op : Op} {ty : TypeId} {K : Value → List Hold → Prop} (h : dRoF P op ty ρ ρ' w K)
  (dst : Option Tmp) (pos : String) (after : Array Edge) (g : Option (Nat × Bool)) :
  ∃ v fp, (isLoad P op = false → fp = []) ∧ (∀ x ∈ fp, holdAt w x) ∧ (∀ w', (wl P op = true ∨ (isLoad P op = false ∧ Ext w w') ∨ (isLoad P op = true ∧ ∀ x ∈ fp, holdAt w' x)) → (execOp e ⟨dst, op, ty, pos, after, g⟩).run P w' = .ok (.value v) w') ∧ K v fp := by
 have key : dRo P op ty ρ ρ' w (fun v => K v (fpOf P ρ op v)) := by
  unfold dRoF at h
  split at h
  ·rename_i t x
   split at h
   ·rename_i p h1
    obtain ⟨a, rfl, hK⟩ := of_NN h
    simp only [dRo, h1, NN, fpOf]
    exact hK
   ·exact h.elim
  ·exact h
 obtain ⟨v, h1, h2, h3⟩ := of_dRo hρ hρ' key dst pos after g
 exact ⟨v, _, fun hl => fp_nil hl, h1, h2, h3⟩
def tyK (P : Program) (o : Oper) (w : World) (v : Value) (K : Value → Prop) : Prop :=
 match o.op with
 | .extract _ _ => viewRet [shapeOf P o.type] v (curry _ fun cs _ => K (mkRes (unflat [shapeOf P o.type] cs))) w
 | _ => K v
theorem of_tyK {P : Program} {o : Oper} {w : World} {v : Value} {K : Value → Prop} (h : tyK P o w v K) : K v := by
 unfold tyK at h
 split at h
 ·obtain ⟨cs, hK, he⟩ := of_viewRet_curry h
  rw [he] at hK; exact hK
 ·exact h
def exec1 (P : Program) (N : NX) (it : It) (l : Env) (fl : FEnv) (C : CEnv) (w : World) (K : Env → CEnv → World → Prop) : Prop :=
 cond (dRoOk P it.o.op)
  (dRoF P it.o.op it.o.type (look l fl []) (fun c b => look l fl [(c, b)]) w fun v fp => tyK P it.o w v fun v => putK N fl it.o.dst l v fun l' => K l' (addC it fp C) w)
  (dEffE P N it.o.op it.o.type (look l fl []) w fun v w' => keepC it C w' (putK N fl it.o.dst l v fun l' => K l' (dropC it C) w'))
def lookFlags : FEnv → Nat → Option (List (Nat × Bool))
 | [], _ => none
 | (d, G, _) :: r, t => cond (Nat.beq d t) (some G) (lookFlags r t)
def flagsOf (l : Env) (fl : FEnv) (g : Nat) : Option (List (Nat × Bool)) :=
 match gt l g with
 | some (some _) => some []
 | some none => lookFlags fl g
 | none => none
def dStep (P : Program) (N : NX) (ops : Array Oper) (split : Bool) (it : It) (l : Env) (fl : FEnv) (C : CEnv) (w : World) (G : Env → FEnv → CEnv → World → Prop) : Prop :=
  match it.o.guard with
  | none => exec1 P N it l fl C w fun l' C' w' => G l' fl C' w'
  | some (j, want) =>
   match (ops[j]?).bind (·.dst) with
   | none => False
   | some g =>
    match split with
    | true =>
     match gt l g with
     | some (some (.bool c)) =>
      if c = true then
       cond want (exec1 P N it ((g, some (.bool true)) :: l) fl C w fun l' C' w' => G l' fl C' w')
        (putK N fl it.o.dst ((g, some (.bool true)) :: l) undef fun l' => G l' fl C w)
      else
       cond want (putK N fl it.o.dst ((g, some (.bool false)) :: l) undef fun l' => G l' fl C w)
        (exec1 P N it ((g, some (.bool false)) :: l) fl C w fun l' C' w' => G l' fl C' w')
     | some (some (.tuple _)) => putK N fl it.o.dst l undef fun l' => G l' fl C w
     | _ => False
    | false =>
     match flagsOf l fl g with
     | none => False
     | some G' =>
      match pureVal P it.o.op it.o.type (look l fl ((g, want) :: G')) (fun c b => look l fl ((c, b) :: (g, want) :: G')), it.o.dst with
      | some v, some d => cond (Nat.blt d N.n && flFree fl d && ((g, want) :: G').all fun x => !(Nat.beq x.1 d))
        (G ((d, none) :: l) ((d, (g, want) :: G', v) :: fl) C w) False
      | _, _ => False
def dOps (P : Program) (N : NX) (ops : Array Oper) (split : Bool) : List It → Env → FEnv → CEnv → World → (Env → World → Prop) → Prop
 | [], l, _, _, w, K => K l w
 | it :: rest, l, fl, C, w, K => dStep P N ops split it l fl C w fun l' fl' C' w' => dOps P N ops split rest l' fl' C' w' K
variable {ds : List Deferred}
structure EnvOk (ds : List Deferred) (N : NX) (a : Act) (l : Env) : Prop where
 size : a.tmps.size = N.n
 defers : a.defers = ds
 at' : ∀ t v, gt l t = some (some v) → a.tmps[t]? = some v
def holds (a : Act) (F : List (Nat × Bool)) : Prop := ∀ g ∈ F, a.tmps[g.1]? = some (.bool g.2)
def FlOk (a : Act) (fl : FEnv) : Prop := ∀ x ∈ fl, (holds a x.2.1 → a.tmps[x.1]? = some x.2.2) ∧ (¬ holds a x.2.1 → a.tmps[x.1]? = some undef)
def Off (ws : List Nat) (a a' : Act) : Prop := ∀ t, t ∉ ws → a'.tmps[t]? = a.tmps[t]?
theorem Off.refl (ws : List Nat) (a : Act) : Off ws a a := fun _ _ => rfl
theorem Off.trans {ws : List Nat} {a b c : Act} (h : Off ws a b) (h' : Off ws b c) : Off ws a c := fun t ht => (h' t ht).trans (h t ht)
theorem Off.mono {ws ws' : List Nat} {a b : Act} (h : Off ws a b) (hs : ∀ t, t ∈ ws → t ∈ ws') : Off ws' a b := fun t ht => h t fun hm => ht (hs t hm)
theorem put_get {a : Act} {d t : Nat} {v : Value} : (a.put (some d) v).tmps[t]? = if t = d then (if d < a.tmps.size then some v else none) else a.tmps[t]? := by
 simp only [Act.put, Array.getElem?_setIfInBounds]
 by_cases h : d = t
 ·subst h; simp
 ·have h' : t ≠ d := fun e => h e.symm
  simp [h, h']
theorem subF_holds {a : Act} {G F : List (Nat × Bool)} (h : subF G F = true) (hF : holds a F) : holds a G := by
 intro g hg
 have := List.all_eq_true.1 h g hg
 obtain ⟨f, hf, he⟩ := List.any_eq_true.1 this
 simp only [Bool.and_eq_true, beq_iff_eq] at he
 have h1 := hF f hf
 rw [Nat.eq_of_beq_eq_true he.1, he.2]
 exact h1
theorem of_lookF {a : Act} {F : List (Nat × Bool)} (hF : holds a F) : ∀ {fl : FEnv} {t : Nat} {v : Value}, FlOk a fl → lookF F fl t = some v → a.tmps[t]? = some v
 | [], _, _, _, h => by simp [lookF] at h
 | (d, G, u) :: r, t, v, hfl, h => by
  simp only [lookF] at h
  cases hb : Nat.beq d t with
  | true =>
   rw [hb] at h
   cases hs : subF G F with
   | true =>
    rw [hs] at h
    simp only [cond_true, Option.some.injEq] at h
    subst h
    have := (hfl (d, G, u) (by simp)).1 (subF_holds hs hF)
    rw [← Nat.eq_of_beq_eq_true hb]; exact this
   | false => rw [hs] at h; simp at h
  | false =>
   rw [hb] at h
   exact of_lookF hF (fun x hx => hfl x (by simp [hx])) h
theorem of_look {N : NX} {a : Act} {l : Env} {fl : FEnv} {F : List (Nat × Bool)} (hl : EnvOk ds N a l) (hfl : FlOk a fl) (hF : holds a F) (x : Operand) (v : Value)
  (h : look l fl F x = some v) : a.eval x = v := by
 cases x with
 | tmp t =>
  simp only [look] at h
  have key : a.tmps[t]? = some v := by
   split at h
   ·rename_i u hu
    simp only [Option.some.injEq] at h; subst h
    exact hl.at' _ _ hu
   ·exact of_lookF hF hfl h
   ·cases h
  simp [Act.eval, key]
 | const u => simp only [look, Option.some.injEq] at h; subst h; rfl
 | «global» g => simp only [look, Option.some.injEq] at h; subst h; rfl
 | func f => simp only [look, Option.some.injEq] at h; subst h; rfl
theorem eval_tmp_bool {a : Act} {c : Nat} {b : Bool} (h : a.eval (.tmp c) = .bool b) : a.tmps[c]? = some (.bool b) := by
 simp only [Act.eval, Array.getD_eq_getD_getElem?] at h
 cases hc : a.tmps[c]? with
 | none => rw [hc] at h; simp [undef] at h
 | some v => rw [hc] at h; simp at h; rw [h]
theorem holds_nil {a : Act} : holds a [] := fun _ h => by cases h
theorem holds_cons {a : Act} {g : Nat} {b : Bool} {F : List (Nat × Bool)} (h : a.tmps[g]? = some (.bool b)) (hF : holds a F) : holds a ((g, b) :: F) := by
 intro x hx
 rcases List.mem_cons.1 hx with rfl | hx
 ·exact h
 ·exact hF x hx
theorem of_flFree {fl : FEnv} {d : Nat} (h : flFree fl d = true) : ∀ x ∈ fl, x.1 ≠ d ∧ ∀ g ∈ x.2.1, g.1 ≠ d := by
 intro x hx
 have := List.all_eq_true.1 h x hx
 simp only [Bool.and_eq_true, Bool.not_eq_true'] at this
 refine ⟨fun e => by rw [e] at this; simp at this, fun g hg e => ?_⟩
 have h2 := List.all_eq_true.1 this.2 g hg
 rw [e] at h2; simp at h2
theorem holds_put {a : Act} {F : List (Nat × Bool)} {d : Nat} {v : Value} (h : ∀ g ∈ F, g.1 ≠ d) : holds (a.put (some d) v) F ↔ holds a F := by
 constructor
 ·intro hh g hg
  have := hh g hg
  rw [put_get, if_neg (h g hg)] at this
  exact this
 ·intro hh g hg
  rw [put_get, if_neg (h g hg)]
  exact hh g hg
theorem EnvOk.bare {N : NX} {a : Act} {l : Env} (h : EnvOk ds N a l) : EnvOk ds N a [] := ⟨h.size, h.defers, fun t v ht => by simp [gt] at ht⟩
theorem FlOk.put {a : Act} {fl : FEnv} {d : Nat} {v : Value} (h : FlOk a fl) (hf : flFree fl d = true) : FlOk (a.put (some d) v) fl := by
 intro x hx
 obtain ⟨h1, h2⟩ := of_flFree hf x hx
 rw [put_get, if_neg h1, holds_put h2]
 exact h x hx
theorem EnvOk.put {N : NX} {a : Act} {l : Env} {d : Nat} {v : Value} (h : EnvOk ds N a l) (hd : d < N.n) : EnvOk ds N (a.put (some d) v) ((d, some v) :: l) := by
 refine ⟨by simp [Act.put, h.size], by simp [Act.put, h.defers], fun t u hu => ?_⟩
 rw [put_get]
 simp only [gt] at hu
 by_cases ht : t = d
 ·subst ht
  rw [if_pos rfl, if_pos (by rw [h.size]; exact hd)]
  have : Nat.beq t t = true := by simp
  rw [this] at hu
  simpa using hu
 ·rw [if_neg ht]
  have : Nat.beq d t = false := by
   cases hb : Nat.beq d t with
   | false => rfl
   | true => exact absurd (Nat.eq_of_beq_eq_true hb).symm ht
  rw [this] at hu
  exact h.at' t u hu
theorem EnvOk.putNone {N : NX} {a : Act} {l : Env} {d : Nat} {v : Value} (h : EnvOk ds N a l) : EnvOk ds N (a.put (some d) v) ((d, none) :: l) := by
 refine ⟨by simp [Act.put, h.size], by simp [Act.put, h.defers], fun t u hu => ?_⟩
 rw [put_get]
 simp only [gt] at hu
 by_cases ht : t = d
 ·subst ht
  have : Nat.beq t t = true := by simp
  rw [this] at hu
  simp at hu
 ·rw [if_neg ht]
  have : Nat.beq d t = false := by
   cases hb : Nat.beq d t with
   | false => rfl
   | true => exact absurd (Nat.eq_of_beq_eq_true hb).symm ht
  rw [this] at hu
  exact h.at' t u hu
theorem EnvOk.known {N : NX} {a : Act} {l : Env} {g : Nat} {v : Value} (h : EnvOk ds N a l) (hg : a.tmps[g]? = some v) : EnvOk ds N a ((g, some v) :: l) := by
 refine ⟨h.size, h.defers, fun t u hu => ?_⟩
 simp only [gt] at hu
 cases hb : Nat.beq g t with
 | true =>
  rw [hb] at hu
  simp only [cond_true, Option.some.injEq] at hu
  subst hu
  rw [← Nat.eq_of_beq_eq_true hb]; exact hg
 | false => rw [hb] at hu; exact h.at' t u hu
theorem of_putK {N : NX} {fl : FEnv} {dst : Option Nat} {a : Act} {l : Env} {v : Value} {K : Env → Prop} (hl : EnvOk ds N a l) (hfl : FlOk a fl) (h : putK N fl dst l v K) :
  ∃ l', EnvOk ds N (a.put dst v) l' ∧ FlOk (a.put dst v) fl ∧ K l' := by
 unfold putK at h
 split at h
 ·exact ⟨l, hl, hfl, h⟩
 ·rename_i d
  cases hb : (Nat.blt d N.n && flFree fl d) with
  | false => rw [hb] at h; exact h.elim
  | true =>
   rw [hb] at h
   simp only [Bool.and_eq_true] at hb
   exact ⟨_, hl.put (by simpa using hb.1), hfl.put hb.2, h⟩
section
variable {P : Program} {N : NX} {ops : Array Oper}
def keepOk (it : It) (C : CEnv) (w : World) : Prop :=
 match it.anc with
 | none => True
 | some m => ∀ x ∈ C, Nat.testBit m x.1 = false → holdAt w x.2
theorem of_keepL {m : Nat} {w : World} {K : Prop} : ∀ {C : CEnv}, keepL m w K C → (∀ x ∈ C, Nat.testBit m x.1 = false → holdAt w x.2) ∧ K
 | [], h => ⟨fun _ hx => (by cases hx), h⟩
 | (k, hd) :: r, h => by
  simp only [keepL] at h
  cases hb : Nat.testBit m k with
  | true =>
   rw [hb] at h
   obtain ⟨h1, h2⟩ := of_keepL h
   refine ⟨fun x hx hm => ?_, h2⟩
   rcases List.mem_cons.1 hx with rfl | hx
   ·rw [hb] at hm; cases hm
   ·exact h1 x hx hm
  | false =>
   rw [hb] at h
   obtain ⟨h0, h⟩ := h
   obtain ⟨h1, h2⟩ := of_keepL h
   refine ⟨fun x hx hm => ?_, h2⟩
   rcases List.mem_cons.1 hx with rfl | hx
   ·exact h0
   ·exact h1 x hx hm
theorem of_keepC {it : It} {C : CEnv} {w : World} {K : Prop} (h : keepC it C w K) : (isAlloc it.o.op = false → keepOk it C w) ∧ K := by
 obtain ⟨o, idx, anc⟩ := it
 cases anc with
 | none => exact ⟨fun _ => trivial, h⟩
 | some m =>
  simp only [keepC] at h
  cases hb : isAlloc o.op with
  | true => rw [hb] at h; exact ⟨fun hh => (by cases hh), h⟩
  | false =>
   rw [hb] at h
   obtain ⟨h1, h2⟩ := of_keepL h
   exact ⟨fun _ => h1, h2⟩
def OKw (P : Program) (op : Op) (fp : List Hold) (w w' : World) : Prop :=
 wl P op = true ∨ (isLoad P op = false ∧ Ext w w') ∨ (isLoad P op = true ∧ ∀ x ∈ fp, holdAt w' x)
inductive Step (ds : List Deferred) (P : Program) (N : NX) (ops : Array Oper) (it : It) (a : Act) (C : CEnv) (w : World) (G : Env → FEnv → CEnv → World → Prop) : Prop
 | val (v : Value) (l : Env) (fl : FEnv) (fp : List Hold) (hfp : isLoad P it.o.op = false → fp = []) (h1 : Region.wanted it.o (yielded ops a.tmps) = true) (h0 : ∀ x ∈ fp, holdAt w x)
   (h2 : ∀ w', OKw P it.o.op fp w w' → (execOp a.eval it.o).run P w' = .ok (.value v) w')
   (h3 : EnvOk ds N (a.put it.o.dst v) l) (h4 : FlOk (a.put it.o.dst v) fl) (h5 : G l fl (addC it fp C) w)
 | skip (l : Env) (fl : FEnv) (h1 : Region.wanted it.o (yielded ops a.tmps) = false) (h3 : EnvOk ds N (a.put it.o.dst undef) l) (h4 : FlOk (a.put it.o.dst undef) fl) (h5 : G l fl C w)
 | eff (h0 : dRoOk P it.o.op = false) (h1 : Region.wanted it.o (yielded ops a.tmps) = true)
   (h2 : ∀ Q : Exit → Act → World → Prop, (∀ ch w', N.E ch w' → Q (.panic ch) a w') → it.o.wp P a w (fun a' w' => (isAlloc it.o.op = true → Ext w w') ∧ (isAlloc it.o.op = false → keepOk it C w') ∧ ∃ v l fl, a' = a.put it.o.dst v ∧ EnvOk ds N a' l ∧ FlOk a' fl ∧ G l fl (dropC it C) w') Q)
theorem step_exec1 (hP : OkP P) {it : It} {a : Act} {l : Env} {fl : FEnv} {C : CEnv} {w : World} {G : Env → FEnv → CEnv → World → Prop} (hl : EnvOk ds N a l) (hfl : FlOk a fl)
  (hw : Region.wanted it.o (yielded ops a.tmps) = true) (h : exec1 P N it l fl C w fun l' C' w' => G l' fl C' w') : Step ds P N ops it a C w G := by
 have hρ : ∀ x v, look l fl [] x = some v → a.eval x = v := fun x v hx => of_look hl hfl holds_nil x v hx
 have hρ' : ∀ c b x v, a.eval (.tmp c) = .bool b → look l fl [(c, b)] x = some v → a.eval x = v := fun c b x v hc hx =>
  of_look hl hfl (holds_cons (eval_tmp_bool hc) holds_nil) x v hx
 unfold exec1 at h
 obtain ⟨⟨dst, op, ty, pos, after, guard⟩, idx, anc⟩ := it
 cases hb : dRoOk P op with
 | true =>
  simp only [hb, cond_true] at h
  obtain ⟨v, fp, hfp, h0, hr, hK⟩ := of_dRoF hρ hρ' h dst pos after guard
  obtain ⟨l', h1, h2, h3⟩ := of_putK hl hfl (of_tyK hK)
  exact .val v l' fl fp hfp hw h0 hr h1 h2 h3
 | false =>
  simp only [hb, cond_false] at h
  refine .eff hb hw fun Q hE => ?_
  refine Oper.wp_mono ?_ (of_dEffE (Q := Q) hP hρ hE h dst pos after guard)
  rintro a' w' ⟨v, rfl, hK, hx⟩
  obtain ⟨hk, hK⟩ := of_keepC hK
  obtain ⟨l', h1, h2, h3⟩ := of_putK hl hfl hK
  exact ⟨hx, hk, v, l', fl, rfl, h1, h2, h3⟩
theorem yielded_of {a : Act} {j g : Nat} (hg : (ops[j]?).bind (·.dst) = some g) : yielded ops a.tmps j = match a.tmps[g]? with | some (.bool b) => some b | _ => none := by
 unfold yielded
 rw [hg]; rfl
theorem step_of {split : Bool} (hP : OkP P) {it : It} {a : Act} {l : Env} {fl : FEnv} {C : CEnv} {w : World} {G : Env → FEnv → CEnv → World → Prop} (hl : EnvOk ds N a l) (hfl : FlOk a fl)
  (h : dStep P N ops split it l fl C w G) : Step ds P N ops it a C w G := by
 unfold dStep at h
 split at h
 ·rename_i hg
  exact step_exec1 hP hl hfl (by simp [Region.wanted, hg]) h
 ·rename_i j want hg
  split at h
  ·exact h.elim
  ·rename_i g hgd
   have hy := yielded_of (a := a) hgd
   split at h
   ·split at h
    ·rename_i c hc
     have hcell := hl.at' _ _ hc
     rw [hcell] at hy
     simp only at hy
     have hwant : Region.wanted it.o (yielded ops a.tmps) = (some c == some want) := by simp [Region.wanted, hg, hy]
     split at h
     ·rename_i hct
      subst hct
      have hl' := hl.known hcell
      cases want with
      | true => exact step_exec1 hP hl' hfl (by rw [hwant]; rfl) h
      | false =>
       simp only [cond_false] at h
       obtain ⟨l', h1, h2, h3⟩ := of_putK hl' hfl h
       exact .skip l' fl (by rw [hwant]; rfl) h1 h2 h3
     ·rename_i hct
      have hcf : c = false := by simpa using hct
      subst hcf
      have hl' := hl.known hcell
      cases want with
      | true =>
       simp only [cond_true] at h
       obtain ⟨l', h1, h2, h3⟩ := of_putK hl' hfl h
       exact .skip l' fl (by rw [hwant]; rfl) h1 h2 h3
      | false => exact step_exec1 hP hl' hfl (by rw [hwant]; rfl) h
    ·rename_i vs hc
     have hcell := hl.at' _ _ hc
     rw [hcell] at hy
     simp only at hy
     obtain ⟨l', h1, h2, h3⟩ := of_putK hl hfl h
     exact .skip l' fl (by simp [Region.wanted, hg, hy]) h1 h2 h3
    ·exact h.elim
   ·split at h
    ·exact h.elim
    ·rename_i G hG
     split at h
     ·rename_i v d hv hd
      cases hb : (Nat.blt d N.n && flFree fl d && ((g, want) :: G).all fun x => !(Nat.beq x.1 d)) with
      | false => rw [hb] at h; exact h.elim
      | true =>
       rw [hb] at h
       simp only [cond_true] at h
       simp only [Bool.and_eq_true] at hb
       obtain ⟨⟨hb1, hb2⟩, hb3⟩ := hb
       have hdN : d < N.n := by simpa using hb1
       have hne : ∀ x ∈ ((g, want) :: G), x.1 ≠ d := by
        intro x hx e
        have := List.all_eq_true.1 hb3 x hx
        rw [e] at this; simp at this
       -- the guard's flags hold where it says 'wanted'
       have hgG : a.tmps[g]? = some (.bool want) → holds a G := by
        intro hcell
        unfold flagsOf at hG
        split at hG
        ·simp only [Option.some.injEq] at hG; subst hG; exact holds_nil
        ·have key : ∀ (fl : FEnv), FlOk a fl → lookFlags fl g = some G → holds a G := by
          intro fl
          induction fl with
          | nil => intro _ hh; simp [lookFlags] at hh
          | cons x r ih =>
           intro hfl hh
           obtain ⟨d', G', u⟩ := x
           simp only [lookFlags] at hh
           cases hbb : Nat.beq d' g with
           | true =>
            rw [hbb] at hh
            simp only [cond_true, Option.some.injEq] at hh
            subst hh
            have h2 := (hfl (d', G', u) (by simp)).2
            rw [Nat.eq_of_beq_eq_true hbb] at h2
            exact Classical.byContradiction fun hn => by
             have := h2 hn
             rw [hcell] at this
             simp [undef] at this
           | false =>
            rw [hbb] at hh
            exact ih (fun x hx => hfl x (by simp [hx])) hh
         exact key fl hfl hG
        ·cases hG
       have hput : a.put it.o.dst = a.put (some d) := by rw [hd]
       by_cases hcell : a.tmps[g]? = some (.bool want)
       ·have hF : holds a ((g, want) :: G) := holds_cons hcell (hgG hcell)
        have hw : Region.wanted it.o (yielded ops a.tmps) = true := by
         rw [hcell] at hy
         simp [Region.wanted, hg, hy]
        obtain ⟨⟨dst, op, ty, pos, after, guard⟩, idx, anc⟩ := it
        have hr := fun (w' : World) => of_pureVal (w := w') (fun x v hx => of_look hl hfl hF x v hx)
         (fun c b x v hc hx => of_look hl hfl (holds_cons (eval_tmp_bool hc) hF) x v hx) hv dst pos after guard
        refine .val v _ _ [] (fun _ => rfl) hw (fun _ hx => (by cases hx)) (fun w' _ => hr w') ?_ ?_ (by cases anc <;> exact h)
        ·rw [hput]; exact hl.putNone
        ·rw [hput]
         intro x hx
         rcases List.mem_cons.1 hx with rfl | hx
         ·refine ⟨fun _ => by rw [put_get, if_pos rfl, if_pos (by rw [hl.size]; exact hdN)], fun hn => absurd ((holds_put hne).2 hF) hn⟩
         ·exact hfl.put hb2 x hx
       ·have hw : Region.wanted it.o (yielded ops a.tmps) = false := by
         simp only [Region.wanted, hg, hy]
         split
         ·rename_i b hbb
          cases b <;> cases want <;> first | rfl | exact absurd hbb hcell
         ·rfl
        refine .skip _ _ hw ?_ ?_ h
        ·rw [hput]; exact hl.putNone
        ·rw [hput]
         intro x hx
         rcases List.mem_cons.1 hx with rfl | hx
         ·refine ⟨fun hh => ?_, fun _ => by rw [put_get, if_pos rfl, if_pos (by rw [hl.size]; exact hdN)]⟩
          have := (holds_put hne).1 hh
          exact absurd (this (g, want) (by simp)) hcell
         ·exact hfl.put hb2 x hx
     ·exact h.elim
def dstsOf (os : List Oper) : List Nat := os.filterMap (·.dst)
def dstsIt (os : List It) : List Nat := os.filterMap (·.o.dst)
theorem off_put {it : It} {rest : List It} {a : Act} {v : Value} : Off (dstsIt (it :: rest)) a (a.put it.o.dst v) := by
 intro t ht
 cases hd : it.o.dst with
 | none => rfl
 | some d =>
  rw [put_get, if_neg]
  intro e
  subst e
  exact ht (by simp [dstsIt, hd])
theorem off_tail {it : It} {rest : List It} {a b : Act} (h : Off (dstsIt rest) a b) : Off (dstsIt (it :: rest)) a b :=
 h.mono fun t ht => by
  simp only [dstsIt, List.mem_filterMap] at ht ⊢
  obtain ⟨x, hx, hd⟩ := ht
  exact ⟨x, by simp [hx], hd⟩
theorem dOps_list {split : Bool} (hP : OkP P) {Q : Exit → Act → World → Prop} : ∀ (os : List It) {l : Env} {fl : FEnv} {C : CEnv} {w : World} {a : Act} {K : Env → World → Prop},
  EnvOk ds N a l → FlOk a fl → dOps P N ops split os l fl C w K →
  (∀ a' l' w', Off (dstsIt os) a a' → EnvOk ds N a' l' → K l' w' → Q .normal a' w') → (∀ ch a' w', Off (dstsIt os) a a' → EnvOk ds N a' [] → N.E ch w' → Q (.panic ch) a' w') → wpList P ops Q (os.map (·.o)) a w
 | [], l, fl, C, w, a, K, hl, hfl, h, hK, hE => hK a l w (Off.refl _ _) hl h
 | it :: rest, l, fl, C, w, a, K, hl, hfl, h, hK, hE => by
  have ih := fun {l fl C w a} => dOps_list (split := split) hP (Q := Q) rest (l := l) (fl := fl) (C := C) (w := w) (a := a) (K := K)
  simp only [List.map_cons]
  rcases step_of hP hl hfl h with ⟨v, l', fl', fp, hfp, h1, h0, h2, h3, h4, h5⟩ | ⟨l', fl', h1, h3, h4, h5⟩ | ⟨h0, h1, h2⟩
  ·unfold wpList
   rw [if_pos h1]
   refine .inl ?_
   unfold Oper.wp
   rw [h2 w (by unfold OKw; cases hb : isLoad P it.o.op <;> simp [Ext.refl]; right; exact fun a hx => h0 a hx)]
   exact ih h3 h4 h5 (fun a' l' w' ho => hK a' l' w' (off_put.trans (off_tail ho))) fun ch a' w' ho => hE ch a' w' (off_put.trans (off_tail ho))
  ·unfold wpList
   rw [if_neg (by rw [h1]; simp)]
   exact ih h3 h4 h5 (fun a' l' w' ho => hK a' l' w' (off_put.trans (off_tail ho))) fun ch a' w' ho => hE ch a' w' (off_put.trans (off_tail ho))
  ·unfold wpList
   rw [if_pos h1]
   refine .inl (Oper.wp_mono ?_ (h2 Q fun ch w' hc => hE ch a w' (Off.refl _ _) hl.bare hc))
   rintro a' w' ⟨_, _, v, l', fl', rfl, h3, h4, h5⟩
   exact ih h3 h4 h5 (fun a' l' w' ho => hK a' l' w' (off_put.trans (off_tail ho))) fun ch a' w' ho => hE ch a' w' (off_put.trans (off_tail ho))
def headOp (P : Program) (o : Oper) : Bool := dRoOk P o.op || isAlloc o.op
def headAt (P : Program) (ops : Array Oper) (i : Nat) : Bool :=
 match ops[i]? with
 | some o => headOp P o
 | none => false
def Gd (P : Program) (ops : Array Oper) (asv : List Nat) (C : CEnv) (i : Nat) (w w' : World) : Prop :=
 (headAt P ops i = true → Ext w w') ∧ ∀ x ∈ C, (asv.getD i 0).testBit x.1 = false → holdAt w x.2 → holdAt w' x.2
theorem Gd.refl {asv : List Nat} {C : CEnv} {i : Nat} {w : World} : Gd P ops asv C i w w := ⟨fun _ => Ext.refl w, fun _ _ _ h => h⟩
def wpAnyE (P : Program) (md : Region.Mode) (ops : Array Oper) (asv : List Nat) (Q : Exit → Act → World → Prop) (C : CEnv) : Nat → Array Bool → Act → World → Prop
 | 0, listed, a, w => Region.ready md ops listed = [] ∧ Q .normal a w
 | fuel + 1, listed, a, w =>
  (Region.ready md ops listed = [] → Q .normal a w) ∧
  ∀ i ∈ Region.ready md ops listed, wpOp P ops Q i (fun a' w' => Gd P ops asv C i w w' ∧ wpAnyE P md ops asv Q C fuel (listed.setIfInBounds i true) a' w') a w
theorem wpAny_of_E {md : Region.Mode} {asv : List Nat} {C : CEnv} {Q : Exit → Act → World → Prop} : ∀ (fuel : Nat) (listed : Array Bool) (a : Act) (w : World), wpAnyE P md ops asv Q C fuel listed a w → wpAny P md ops Q fuel listed a w
 | 0, _, _, _, h => h
 | fuel + 1, _, _, _, h => ⟨h.1, fun i hi => wpOp_mono (fun a' w' h' => wpAny_of_E fuel _ a' w' h'.2) (h.2 i hi)⟩
theorem wpAnyE_mono {md : Region.Mode} {asv : List Nat} {C C' : CEnv} (hC : ∀ x ∈ C, x ∈ C') {Q : Exit → Act → World → Prop} : ∀ (fuel : Nat) (listed : Array Bool) (a : Act) (w : World),
  wpAnyE P md ops asv Q C' fuel listed a w → wpAnyE P md ops asv Q C fuel listed a w
 | 0, _, _, _, h => h
 | fuel + 1, _, _, _, h => ⟨h.1, fun i hi => wpOp_mono (fun a' w' h' => ⟨⟨h'.1.1, fun x hx => h'.1.2 x (hC x hx)⟩, wpAnyE_mono hC fuel _ a' w' h'.2⟩) (h.2 i hi)⟩
theorem wpAnyE_more {md : Region.Mode} {asv : List Nat} {C C2 : CEnv} {Q : Exit → Act → World → Prop} (_ : True) : ∀ (fuel : Nat) (listed : Array Bool) (a : Act) (w : World),
  (∀ y ∈ C, y ∈ C2 ∨ ∀ i, listed.getD i true = false → headAt P ops i = true ∨ (asv.getD i 0).testBit y.1 = true) →
  wpAnyE P md ops asv Q C2 fuel listed a w → wpAnyE P md ops asv Q C fuel listed a w
 | 0, _, _, _, _, h => h
 | fuel + 1, listed, a, w, hC, h => ⟨h.1, fun i hi => wpOp_mono (fun a' w' h' => ⟨⟨h'.1.1, fun y hy hb hc => by
   rcases hC y hy with h1 | h1
   ·exact h'.1.2 y h1 hb hc
   ·rcases h1 i (mem_ready.1 hi).1 with h2 | h2
    ·exact (h'.1.1 h2).hold hc
    ·rw [hb] at h2; cases h2⟩,
   wpAnyE_more trivial fuel _ a' w' (fun y hy => (hC y hy).imp id fun h1 k hk => by
    by_cases hik : i = k
    ·subst hik; exact h1 i (mem_ready.1 hi).1
    ·rw [getD_set_ne true hik] at hk; exact h1 k hk) h'.2⟩) (h.2 i hi)⟩
theorem wpAnyE_first {md : Region.Mode} {asv : List Nat} {C : CEnv} {Q : Exit → Act → World → Prop} {S : World → Prop} {i : Nat} {oi : Oper} {v : Value} (L : Array Bool) (hi : ops[i]? = some oi)
  (hsel : ∀ (j : Nat) (o : Oper) cs b, ops[j]? = some o → o.op ≠ .select cs b)
  (hQ : ∀ c a w, Q (.panic c) (a.put oi.dst v) w → Q (.panic c) a w) (hfix : ∀ j ∈ Region.ready md ops L, j = i) (hsz : L.size = ops.size) :
  ∀ (fuel : Nat) (listed : Array Bool) (a : Act) (w : World),
   (∀ j oj, ops[j]? = some oj → j ≠ i → listed.getD j true = false → (∀ e ∈ oj.after, Region.binds md e = true → e.on ≠ i) → oi.apart ops oj = true) →
   (∀ j, listed.getD j false = true → L.getD j false = true) → (∀ j, listed.getD j true = false → L.getD j true = true → ∀ w w', Gd P ops asv C j w w' → S w → S w') →
   i ∈ Region.ready md ops listed → YieldsIf P ops S oi v a → S w →
   wpAnyE P md ops asv Q C fuel (listed.setIfInBounds i true) (a.put oi.dst v) w → wpAnyE P md ops asv Q C (fuel + 1) listed a w := by
 intro fuel
 induction fuel with
 | zero =>
  intro listed a w _ _ _ hr hy hS H
  refine ⟨fun h => (by rw [h] at hr; cases hr), fun j hj => ?_⟩
  by_cases hji : j = i
  ·subst hji; exact hy.wpOp hi hS ⟨Gd.refl, H⟩
  ·have := ready_mono hj hji
   rw [H.1] at this
   cases this
 | succ fuel ih =>
  intro listed a w hfree hsub hhead hr hy hS H
  refine ⟨fun h => (by rw [h] at hr; cases hr), fun j hj => ?_⟩
  by_cases hji : j = i
  ·subst hji; exact hy.wpOp hi hS ⟨Gd.refl, H⟩
  ·have h1 := H.2 j (ready_mono hj hji)
   obtain ⟨hjun, oj, hoj, hall⟩ := mem_ready.1 hj
   have hnot : ∀ e ∈ oj.after, Region.binds md e = true → e.on ≠ i := fun e he hb heq => by
    have h1 := hall e he hb
    have h0 := (mem_ready.1 hr).1
    rw [heq] at h1
    rcases Nat.lt_or_ge i listed.size with h' | h'
    ·simp [h'] at h0 h1; rw [h0] at h1; cases h1
    ·simp [Array.getElem?_eq_none h'] at h1
   have hjL : L.getD j true = true := by
    cases hLj : L.getD j true with
    | true => rfl
    | false =>
     have : j ∈ Region.ready md ops L := mem_ready.2 ⟨hLj, oj, hoj, fun e he hb => hsub _ (hall e he hb)⟩
     exact absurd (hfix j this) hji
   have hjlt : j < L.size := by rw [hsz]; exact (Array.getElem?_eq_some_iff.1 hoj).1
   have hjin : L.getD j false = true := by simp [hjlt] at hjL ⊢; exact hjL
   have hjh := hhead j hjun hjL
   have h2 := wpOp_putIf hoj (hfree j oj hoj hji hjun hnot) (fun cs b => hsel i oi cs b hi) (fun cs b => hsel j oj cs b hoj) hQ hy h1
   have hfree' : ∀ k ok, ops[k]? = some ok → k ≠ i → (listed.setIfInBounds j true).getD k true = false →
     (∀ e ∈ ok.after, Region.binds md e = true → e.on ≠ i) → oi.apart ops ok = true := fun k ok hk hki hun hno => by
    refine hfree k ok hk hki ?_ hno
    by_cases hjk : j = k
    ·subst hjk; exact hjun
    ·rw [getD_set_ne true hjk] at hun; exact hun
   have hhead' : ∀ k, (listed.setIfInBounds j true).getD k true = false → L.getD k true = true → ∀ w w', Gd P ops asv C k w w' → S w → S w' := fun k hun hL => by
    by_cases hjk : j = k
    ·subst hjk; exact hjh
    ·rw [getD_set_ne true hjk] at hun; exact hhead k hun hL
   have hsub' : ∀ k, (listed.setIfInBounds j true).getD k false = true → L.getD k false = true := fun k hk => by
    by_cases hjk : j = k
    ·subst hjk; exact hjin
    ·rw [getD_set_ne false hjk] at hk; exact hsub k hk
   refine wpOp_mono (fun a' w' h3 => ⟨h3.2.1, ih (listed.setIfInBounds j true) a' w' hfree' hsub' hhead' (ready_mono hr (Ne.symm hji)) h3.1 (hjh _ _ h3.2.1 hS) ?_⟩) h2
   rw [Array.setIfInBounds_comm _ _ hji]
   exact h3.2.2
def maskOf (acc : List Nat) (es : List Edge) : Nat := es.foldl (fun s e => cond (Region.binds .any e) (s ||| 2 ^ e.on ||| acc.getD e.on 0) s) 0
def dirOf (es : List Edge) : Nat := es.foldl (fun s e => cond (Region.binds .any e) (s ||| 2 ^ e.on) s) 0
def ancL : List Oper → List Nat → List Nat
 | [], acc => acc
 | o :: r, acc => ancL r (acc ++ [maskOf acc o.after.toList])
structure Row where
 o : Oper
 idx : Nat
 anc : Nat
 dir : Nat
 ro : Bool
 hd : Bool
def rowsOf (P : Program) : Nat → List Oper → List Nat → List Row
 | i, o :: r, m :: ms => ⟨o, i, m, dirOf o.after.toList, dRoOk P o.op, headOp P o⟩ :: rowsOf P (i + 1) r ms
 | _, _, _ => []
def canon (ros : List Row) : List Row → List Row
 | [] => ros
 | e :: es => ros.filter (fun r => !(e :: es).any fun x => Nat.testBit r.anc x.idx) ++ e :: canon (ros.filter fun r => (e :: es).any fun x => Nat.testBit r.anc x.idx) es
def canonOf (rows : List Row) : List Row := canon (rows.filter (·.ro)) (rows.filter fun r => !r.ro)
def itOf (x : Row) : It := ⟨x.o, x.idx, some x.anc⟩
def drawIts (P : Program) (ops : Array Oper) : List It := (canonOf (rowsOf P 0 ops.toList (ancL ops.toList []))).map itOf
def textIts : Nat → List Oper → List It
 | _, [] => []
 | i, o :: r => ⟨o, i, none⟩ :: textIts (i + 1) r
def mixTail (P : Program) (ops : Array Oper) (x : Row) : List Row → Bool
 | [] => true
 | y :: r => (match x.ro with
  | true => (Nat.testBit y.dir x.idx || x.o.apart ops y.o) && (wl P x.o.op || isLoad P x.o.op || Nat.testBit y.anc x.idx || y.hd)
  | false => Nat.testBit y.anc x.idx && Nat.beq (x.anc ||| y.anc) y.anc) && mixTail P ops x r
def mixAll (P : Program) (ops : Array Oper) : Nat → List Row → Bool
 | done, [] => (List.range ops.size).all fun i => Nat.testBit done i
 | done, x :: r => Nat.beq (x.anc ||| done) done && !Nat.testBit done x.idx && mixTail P ops x r && mixAll P ops (done ||| 2 ^ x.idx) r
def mixOk (P : Program) (ops : Array Oper) : Bool :=
 Region.noSelect ops && Nat.beq (canonOf (rowsOf P 0 ops.toList (ancL ops.toList []))).length ops.size && mixAll P ops 0 (canonOf (rowsOf P 0 ops.toList (ancL ops.toList [])))
theorem ancL_append : ∀ (os : List Oper) (acc : List Nat), ∃ t, ancL os acc = acc ++ t ∧ t.length = os.length
 | [], acc => ⟨[], by simp [ancL], rfl⟩
 | o :: r, acc => by
  obtain ⟨t, ht, hl⟩ := ancL_append r (acc ++ [maskOf acc o.after.toList])
  exact ⟨maskOf acc o.after.toList :: t, by simp [ancL, ht], by simp [hl]⟩
theorem ancL_get : ∀ (os : List Oper) (acc : List Nat) (j : Nat) (o : Oper), os[j]? = some o → (ancL os acc)[acc.length + j]? = some (maskOf ((ancL os acc).take (acc.length + j)) o.after.toList)
 | [], acc, j, o, h => by simp at h
 | x :: r, acc, 0, o, h => by
  simp only [List.getElem?_cons_zero, Option.some.injEq] at h
  subst h
  obtain ⟨t, ht, hl⟩ := ancL_append r (acc ++ [maskOf acc x.after.toList])
  simp [ancL, ht]
 | x :: r, acc, j + 1, o, h => by
  have := ancL_get r (acc ++ [maskOf acc x.after.toList]) j o (by simpa using h)
  simp only [List.length_append, List.length_singleton] at this
  simp only [ancL]
  rw [show acc.length + (j + 1) = acc.length + 1 + j by omega]
  exact this
theorem testBit_or3 {s a b k : Nat} : (s ||| a ||| b).testBit k = (s.testBit k || a.testBit k || b.testBit k) := by simp [Nat.testBit_or]
theorem maskOf_bit {acc : List Nat} {k : Nat} : ∀ (es : List Edge) (s : Nat), (es.foldl (fun s e => cond (Region.binds .any e) (s ||| 2 ^ e.on ||| acc.getD e.on 0) s) s).testBit k = true →
  s.testBit k = true ∨ ∃ e ∈ es, Region.binds .any e = true ∧ (e.on = k ∨ (acc.getD e.on 0).testBit k = true)
 | [], s, h => .inl h
 | e :: es, s, h => by
  simp only [List.foldl_cons] at h
  rcases maskOf_bit es _ h with h1 | ⟨e', he', h2⟩
  ·cases hb : Region.binds .any e with
   | false => rw [hb] at h1; exact .inl h1
   | true =>
    rw [hb] at h1
    simp only [cond_true, testBit_or3, Bool.or_eq_true, Nat.testBit_two_pow, decide_eq_true_eq] at h1
    rcases h1 with (h1 | h1) | h1
    ·exact .inl h1
    ·exact .inr ⟨e, by simp, hb, .inl h1⟩
    ·exact .inr ⟨e, by simp, hb, .inr h1⟩
  ·exact .inr ⟨e', by simp [he'], h2⟩
theorem maskOf_has {acc : List Nat} {e : Edge} (hb : Region.binds .any e = true) : ∀ (es : List Edge) (s : Nat), (e ∈ es ∨ s.testBit e.on = true) →
  (es.foldl (fun s e => cond (Region.binds .any e) (s ||| 2 ^ e.on ||| acc.getD e.on 0) s) s).testBit e.on = true
 | [], s, h => by rcases h with h | h; cases h; exact h
 | x :: es, s, h => by
  simp only [List.foldl_cons]
  refine maskOf_has hb es _ ?_
  rcases h with h | h
  ·rcases List.mem_cons.1 h with rfl | h
   ·right; rw [hb]; simp [testBit_or3]
   ·exact .inl h
  ·right
   cases Region.binds .any x <;> simp [testBit_or3, h]
theorem dirOf_bit {k : Nat} : ∀ (es : List Edge) (s : Nat), (es.foldl (fun s e => cond (Region.binds .any e) (s ||| 2 ^ e.on) s) s).testBit k = true →
  s.testBit k = true ∨ ∃ e ∈ es, Region.binds .any e = true ∧ e.on = k
 | [], s, h => .inl h
 | e :: es, s, h => by
  simp only [List.foldl_cons] at h
  rcases dirOf_bit es _ h with h1 | ⟨e', he', h2⟩
  ·cases hb : Region.binds .any e with
   | false => rw [hb] at h1; exact .inl h1
   | true =>
    rw [hb] at h1
    simp only [cond_true, Nat.testBit_or, Bool.or_eq_true, Nat.testBit_two_pow, decide_eq_true_eq] at h1
    rcases h1 with h1 | h1
    ·exact .inl h1
    ·exact .inr ⟨e, by simp, hb, h1⟩
  ·exact .inr ⟨e', by simp [he'], h2⟩
def bitsA (n d : Nat) : Array Bool := ((List.range n).map fun j => d.testBit j).toArray
theorem bitsA_getD {n k j : Nat} {d : Bool} : (bitsA n k).getD j d = if j < n then k.testBit j else d := by
 simp only [bitsA, Array.getD_eq_getD_getElem?, List.getElem?_toArray, List.getElem?_map]
 by_cases h : j < n
 ·simp [h]
 ·have : (List.range n)[j]? = none := by simp; omega
  simp [this, h]
theorem bitsA_set {n d k : Nat} : (bitsA n d).setIfInBounds k true = bitsA n (d ||| 2 ^ k) := by
 apply Array.ext'
 apply List.ext_getElem?
 intro i
 simp only [Array.toList_setIfInBounds, bitsA, List.getElem?_set, List.length_map, List.length_range, List.getElem?_map, Nat.testBit_or, Nat.testBit_two_pow]
 by_cases h : i < n
 ·by_cases hk : k = i
  ·subst hk; simp [h]
  ·simp [hk, h]
 ·have hn : (List.range n)[i]? = none := by simp; omega
  by_cases hk : k = i
  ·subst hk; simp [hn, h]
  ·simp [hk, hn]
theorem bitsA_zero {n : Nat} : bitsA n 0 = Array.replicate n false := by
 apply Array.ext'
 simp [bitsA, List.map_const']
def without (asv : List Nat) (n k : Nat) : Array Bool := ((List.range n).map fun j => !decide (j = k) && !(asv.getD j 0).testBit k).toArray
theorem without_getD {asv : List Nat} {n k j : Nat} {d : Bool} : (without asv n k).getD j d = if j < n then (!decide (j = k) && !(asv.getD j 0).testBit k) else d := by
 simp only [without, Array.getD_eq_getD_getElem?, List.getElem?_toArray, List.getElem?_map]
 by_cases h : j < n
 ·simp [h]
 ·have : (List.range n)[j]? = none := by simp; omega
  simp [this, h]
theorem rowsOf_mem {P : Program} : ∀ {os : List Oper} {ms : List Nat} {i : Nat} {x : Row}, x ∈ rowsOf P i os ms →
  ∃ j, os[j]? = some x.o ∧ ms[j]? = some x.anc ∧ x.idx = i + j ∧ x.dir = dirOf x.o.after.toList ∧ x.ro = dRoOk P x.o.op ∧ x.hd = headOp P x.o
 | [], ms, i, x, h => by cases ms <;> cases h
 | o :: os, [], i, x, h => by cases h
 | o :: os, m :: ms, i, x, h => by
  rcases List.mem_cons.1 h with rfl | h
  ·exact ⟨0, rfl, rfl, rfl, rfl, rfl, rfl⟩
  ·obtain ⟨j, h1, h2, h3, h4⟩ := rowsOf_mem h
   exact ⟨j + 1, by simpa using h1, by simpa using h2, by omega, h4⟩
theorem canon_mem : ∀ {es ros : List Row} {x : Row}, x ∈ canon ros es → x ∈ ros ∨ x ∈ es
 | [], ros, x, h => .inl h
 | e :: es, ros, x, h => by
  simp only [canon, List.mem_append, List.mem_filter, List.mem_cons] at h
  rcases h with h | h | h
  ·exact .inl h.1
  ·exact .inr (by simp [h])
  ·rcases canon_mem h with h | h
   ·exact .inl (List.mem_filter.1 h).1
   ·exact .inr (by simp [h])
theorem canonOf_mem {rows : List Row} {x : Row} (h : x ∈ canonOf rows) : x ∈ rows := by
 rcases canon_mem h with h | h
 ·exact (List.mem_filter.1 h).1
 ·exact (List.mem_filter.1 h).1
theorem mixTail_mem {P : Program} {x : Row} : ∀ {ys : List Row} {y : Row}, mixTail P ops x ys = true → y ∈ ys →
  (match x.ro with
  | true => (Nat.testBit y.dir x.idx || x.o.apart ops y.o) && (wl P x.o.op || isLoad P x.o.op || Nat.testBit y.anc x.idx || y.hd)
  | false => Nat.testBit y.anc x.idx && Nat.beq (x.anc ||| y.anc) y.anc) = true
 | [], y, _, h => by cases h
 | z :: ys, y, hm, h => by
  simp only [mixTail, Bool.and_eq_true] at hm
  rcases List.mem_cons.1 h with rfl | h
  ·exact hm.1
  ·exact mixTail_mem hm.2 h
theorem mixAll_rest {P : Program} : ∀ {rs : List Row} {done : Nat}, mixAll P ops done rs = true → ∀ j, j < ops.size → done.testBit j = false → ∃ y ∈ rs, y.idx = j
 | [], done, h, j, hj, hd => by
  have := List.all_eq_true.1 h j (List.mem_range.2 hj)
  rw [hd] at this; cases this
 | x :: r, done, h, j, hj, hd => by
  simp only [mixAll, Bool.and_eq_true] at h
  by_cases hx : x.idx = j
  ·exact ⟨x, by simp, hx⟩
  ·obtain ⟨y, hy, he⟩ := mixAll_rest h.2 j hj (by simp [Nat.testBit_or, hd, Nat.testBit_two_pow, hx])
   exact ⟨y, by simp [hy], he⟩
theorem sub_bits {a d k : Nat} (h : a ||| d = d) (hk : a.testBit k = true) : d.testBit k = true := by
 rw [← h]; simp [Nat.testBit_or, hk]
theorem dOps_mix {split : Bool} (hP : OkP P) (hs : Region.noSelect ops = true) {Q : Exit → Act → World → Prop} (hQ : ∀ c a w (o : Oper) v, o ∈ ops.toList → Q (.panic c) (a.put o.dst v) w → Q (.panic c) a w)
  (asv : List Nat) (has : asv = ancL ops.toList []) :
  ∀ (rs : List Row) (done : Nat) {l : Env} {fl : FEnv} {C : CEnv} {w : World} {a : Act} {K : Env → World → Prop},
  (∀ x ∈ rs, x ∈ rowsOf P 0 ops.toList asv) → (∀ j, done.testBit j = true → j < ops.size ∧ asv.getD j 0 ||| done = done) → (∀ x ∈ C, holdAt w x.2) → mixAll P ops done rs = true →
  EnvOk ds N a l → FlOk a fl → dOps P N ops split (rs.map itOf) l fl C w K →
  (∀ a' l' w', Off (dstsIt (rs.map itOf)) a a' → EnvOk ds N a' l' → K l' w' → Q .normal a' w') → (∀ ch a' w', Off (dstsIt (rs.map itOf)) a a' → EnvOk ds N a' [] → N.E ch w' → Q (.panic ch) a' w') → wpAnyE P .any ops asv Q C rs.length (bitsA ops.size done) a w
 | [], done, l, fl, C, w, a, K, hrs, hdone, hC, hB, hl, hfl, h, hK, hE => by
  refine ⟨?_, hK a l w (Off.refl _ _) hl h⟩
  refine List.eq_nil_iff_forall_not_mem.2 fun j hj => ?_
  obtain ⟨h1, oj, h2, _⟩ := mem_ready.1 hj
  have hlt := (Array.getElem?_eq_some_iff.1 h2).1
  rw [bitsA_getD, if_pos hlt] at h1
  have := List.all_eq_true.1 hB j (List.mem_range.2 hlt)
  rw [h1] at this; cases this
 | x :: rs, done, l, fl, C, w, a, K, hrs, hdone, hC, hB, hl, hfl, h, hK, hE => by
  have hrest := mixAll_rest hB
  simp only [mixAll, Bool.and_eq_true, Bool.not_eq_true'] at hB
  obtain ⟨⟨⟨hb1, hb0⟩, hb2⟩, hB'⟩ := hB
  have hsub : x.anc ||| done = done := Nat.eq_of_beq_eq_true hb1
  have rowFact : ∀ y ∈ rowsOf P 0 ops.toList asv, ops[y.idx]? = some y.o ∧ asv[y.idx]? = some y.anc ∧ y.dir = dirOf y.o.after.toList ∧ y.ro = dRoOk P y.o.op ∧ y.hd = headOp P y.o := by
   intro y hy
   obtain ⟨j, h1, h2, h3, h4⟩ := rowsOf_mem hy
   rw [Nat.zero_add] at h3
   rw [h3]
   exact ⟨by simpa using h1, h2, h4⟩
  obtain ⟨h0, hax, hdir, hxro, hxhd⟩ := rowFact x (hrs x (by simp))
  have haxD : asv.getD x.idx 0 = x.anc := by simp [hax]
  have hklt : x.idx < ops.size := (Array.getElem?_eq_some_iff.1 h0).1
  have hanc : ∀ j oj, ops[j]? = some oj → asv[j]? = some (maskOf (asv.take j) oj.after.toList) := by
   intro j oj hj
   have := ancL_get ops.toList [] j oj (by simpa using hj)
   rw [has]
   simpa using this
  have hancD : ∀ j oj, ops[j]? = some oj → asv.getD j 0 = maskOf (asv.take j) oj.after.toList := fun j oj hj => by simp [hanc j oj hj]
  have hready : x.idx ∈ Region.ready .any ops (bitsA ops.size done) := by
   refine mem_ready.2 ⟨by rw [bitsA_getD, if_pos hklt]; exact hb0, x.o, h0, fun e he hbe => ?_⟩
   have h2 : x.anc.testBit e.on = true := by
    rw [← haxD, hancD _ _ h0]
    exact maskOf_has hbe _ _ (.inl (by simpa using he))
   have h3 := sub_bits hsub h2
   rw [bitsA_getD, if_pos (hdone _ h3).1]
   exact h3
  have hlater : ∀ j oj, j ≠ x.idx → ops[j]? = some oj → done.testBit j = false → ∃ y ∈ rs, y.idx = j ∧ y.o = oj ∧ y.anc = asv.getD j 0 ∧ y.dir = dirOf oj.after.toList ∧ y.hd = headOp P oj := by
   intro j oj hne hj hun
   have hjlt := (Array.getElem?_eq_some_iff.1 hj).1
   obtain ⟨y, hy, he⟩ := hrest j hjlt hun
   rcases List.mem_cons.1 hy with rfl | hy
   ·exact absurd he.symm hne
   ·obtain ⟨g1, g2, g3, g4, g5⟩ := rowFact y (hrs y (by simp [hy]))
    rw [he] at g1 g2
    have : y.o = oj := Option.some.inj (g1.symm.trans hj)
    exact ⟨y, hy, he, this, by simp [g2], by rw [g3, this], by rw [g5, this]⟩
  have hdone' : ∀ j, (done ||| 2 ^ x.idx).testBit j = true → j < ops.size ∧ asv.getD j 0 ||| (done ||| 2 ^ x.idx) = done ||| 2 ^ x.idx := by
   intro j hj
   simp only [Nat.testBit_or, Bool.or_eq_true, Nat.testBit_two_pow, decide_eq_true_eq] at hj
   rcases hj with hj | hj
   ·obtain ⟨g1, g2⟩ := hdone j hj
    exact ⟨g1, by rw [← Nat.or_assoc, g2]⟩
   ·subst hj
    exact ⟨hklt, by rw [haxD, ← Nat.or_assoc, hsub]⟩
  have ih := fun {l fl C w a} => dOps_mix (split := split) hP hs (Q := Q) hQ asv has rs (done ||| 2 ^ x.idx) (l := l) (fl := fl) (C := C) (w := w) (a := a) (K := K) (fun y hy => hrs y (by simp [hy])) hdone'
  have hst := step_of hP hl hfl h
  -- where a set of bits holds whom an operation waits for
  have through : ∀ i oi, ops[i]? = some oi → (asv.getD i 0).testBit x.idx = true → ∃ e ∈ oi.after, Region.binds .any e = true ∧ (e.on = x.idx ∨ (asv.getD e.on 0).testBit x.idx = true) := by
   intro i oi hi hb
   rw [hancD i oi hi] at hb
   rcases maskOf_bit _ _ hb with h5 | ⟨e, he, hbe, h5⟩
   ·simp at h5
   ·refine ⟨e, by simpa using he, hbe, h5.imp id fun h6 => ?_⟩
    have h7 : (asv.take i).getD e.on 0 = asv.getD e.on 0 ∨ (asv.take i).getD e.on 0 = 0 := by
     simp only [List.getD_eq_getElem?_getD, List.getElem?_take]
     split
     ·exact .inl rfl
     ·exact .inr rfl
    rcases h7 with h7 | h7
    ·rw [h7] at h6; exact h6
    ·rw [h7] at h6; simp at h6
  cases hro : dRoOk P x.o.op with
  | true =>
   have hxro' : x.ro = true := hxro.trans hro
   have go : ∀ (v : Value) (S : World → Prop) (C' : CEnv), (∀ j, j < ops.size → j ≠ x.idx → done.testBit j = false → (asv.getD j 0).testBit x.idx = false → ∀ w w', Gd P ops asv C' j w w' → S w → S w') →
     YieldsIf P ops S x.o v a → S w → wpAnyE P .any ops asv Q C' rs.length (bitsA ops.size (done ||| 2 ^ x.idx)) (a.put x.o.dst v) w →
     wpAnyE P .any ops asv Q C' (rs.length + 1) (bitsA ops.size done) a w := by
    intro v S C' hpres hy hS hrest'
    refine wpAnyE_first (S := S) (without asv ops.size x.idx) h0 (Region.noSelect_spec hs) (fun c a w hq => hQ c a w x.o _ (List.mem_of_getElem? (by simpa using h0)) hq) ?_ (by simp [without]) _ _ _ _ ?_ ?_ ?_ hready hy hS (by rw [bitsA_set]; exact hrest')
    ·intro j hj
     obtain ⟨h1, oj, h2, h3⟩ := mem_ready.1 hj
     have hjlt := (Array.getElem?_eq_some_iff.1 h2).1
     rw [without_getD, if_pos hjlt] at h1
     by_cases hjk : j = x.idx
     ·exact hjk
     ·simp only [hjk, decide_false, Bool.not_false, Bool.true_and, Bool.not_eq_false'] at h1
      obtain ⟨e, he, hbe, h5⟩ := through j oj h2 h1
      have h6 := h3 e he hbe
      rw [without_getD] at h6
      split at h6
      ·simp only [Bool.and_eq_true, Bool.not_eq_true', decide_eq_false_iff_not] at h6
       rcases h5 with h5 | h5
       ·exact absurd h5 h6.1
       ·rw [h6.2] at h5; cases h5
      ·cases h6
    ·intro j oj hj hjk hun hno
     have hjlt := (Array.getElem?_eq_some_iff.1 hj).1
     rw [bitsA_getD, if_pos hjlt] at hun
     obtain ⟨y, hy', e1, e2, e3, e4, e5⟩ := hlater j oj hjk hj hun
     have hmt := mixTail_mem hb2 hy'
     rw [hxro'] at hmt
     simp only [Bool.and_eq_true, Bool.or_eq_true] at hmt
     rcases hmt.1 with h1 | h1
     ·rw [e4] at h1
      rcases dirOf_bit _ _ h1 with h2 | ⟨e, he, hbe, h2⟩
      ·simp at h2
      ·exact absurd h2 (hno e (by simpa using he) hbe)
     ·rw [e2] at h1; exact h1
    ·intro j hj
     rw [bitsA_getD] at hj
     split at hj
     ·rename_i hjlt
      rw [without_getD, if_pos hjlt]
      have hne : j ≠ x.idx := by intro e; rw [e, hb0] at hj; cases hj
      have : (asv.getD j 0).testBit x.idx = false := by
       cases hbit : (asv.getD j 0).testBit x.idx with
       | false => rfl
       | true =>
        have := sub_bits (hdone j hj).2 hbit
        rw [hb0] at this; cases this
      simp only [hne, decide_false, Bool.not_false, Bool.true_and, Bool.not_eq_true', this]
     ·cases hj
    ·intro j hj hLj
     rw [bitsA_getD] at hj
     split at hj
     ·rename_i hjlt
      rw [without_getD, if_pos hjlt] at hLj
      simp only [Bool.and_eq_true, Bool.not_eq_true', decide_eq_false_iff_not] at hLj
      exact hpres j hjlt hLj.1 hj hLj.2
     ·cases hj
   rcases hst with ⟨v, l', fl', fp, hfp, h1, h01, h2, h3, h4, h5⟩ | ⟨l', fl', h1, h3, h4, h5⟩ | ⟨hn, h1, h2⟩
   ·have hCx : ∀ y ∈ C, y ∈ addC (itOf x) fp C := fun y hy => by simp [addC, itOf, hy]
    refine wpAnyE_mono hCx _ _ _ _ ?_
    refine go v (OKw P x.o.op fp w) _ ?_ (.inl ⟨h1, h2⟩) ?_ (ih ?_ hB' h3 h4 h5 (fun a' l' w' ho => hK a' l' w' (off_put.trans (off_tail ho))) fun ch a' w' ho => hE ch a' w' (off_put.trans (off_tail ho)))
    ·intro j hjlt hjk hun hanc0 w1 w2 hg hok
     rcases hok with hok | ⟨hok, hx⟩ | ⟨hok, hc⟩
     ·exact .inl hok
     ·have hj' : ops[j]? = some ops[j] := by simp [hjlt]
      obtain ⟨y, hy', e1, e2, e3, e4, e5⟩ := hlater j ops[j] hjk hj' hun
      have hmt := mixTail_mem hb2 hy'
      rw [hxro'] at hmt
      simp only [Bool.and_eq_true, Bool.or_eq_true] at hmt
      rcases hmt.2 with ((h7 | h7) | h7) | h7
      ·exact .inl h7
      ·rw [hok] at h7; cases h7
      ·rw [e3, hanc0] at h7; cases h7
      ·refine .inr (.inl ⟨hok, hx.trans (hg.1 ?_)⟩)
       simp only [headAt, hj']
       rw [← e5]; exact h7
     ·refine .inr (.inr ⟨hok, fun z hz => ?_⟩)
      exact hg.2 (x.idx, z) (by simp [addC, itOf, hz]) hanc0 (hc z hz)
    ·unfold OKw
     cases hb : isLoad P x.o.op with
     | true => exact .inr (.inr ⟨rfl, h01⟩)
     | false => exact .inr (.inl ⟨rfl, Ext.refl w⟩)
    ·intro y hy
     simp only [addC, itOf, List.mem_append, List.mem_map] at hy
     rcases hy with ⟨z, hz, rfl⟩ | hy
     ·exact h01 z hz
     ·exact hC y hy
   ·exact go undef (fun _ => True) C (fun _ _ _ _ _ _ _ _ _ => trivial) (.inr ⟨h1, rfl⟩) trivial (ih hC hB' h3 h4 h5 (fun a' l' w' ho => hK a' l' w' (off_put.trans (off_tail ho))) fun ch a' w' ho => hE ch a' w' (off_put.trans (off_tail ho)))
   ·have hn' : dRoOk P x.o.op = false := hn
    rw [hro] at hn'; cases hn'
  | false =>
   have hxro' : x.ro = false := hxro.trans hro
   refine ⟨fun h1 => (by rw [h1] at hready; cases hready), fun i hi => ?_⟩
   have hik : i = x.idx := by
    obtain ⟨h1, oi, h2, h3⟩ := mem_ready.1 hi
    have hilt := (Array.getElem?_eq_some_iff.1 h2).1
    rw [bitsA_getD, if_pos hilt] at h1
    by_cases hne : i = x.idx
    ·exact hne
    ·exfalso
     obtain ⟨y, hy', e1, e2, e3, e4, e5⟩ := hlater i oi hne h2 h1
     have hmt := mixTail_mem hb2 hy'
     rw [hxro'] at hmt
     simp only [Bool.and_eq_true] at hmt
     have hmt1 := hmt.1
     rw [e3] at hmt1
     obtain ⟨e, he, hbe, h5⟩ := through i oi h2 hmt1
     have h6 := h3 e he hbe
     rw [bitsA_getD] at h6
     split at h6
     ·rcases h5 with h5 | h5
      ·rw [h5, hb0] at h6; cases h6
      ·have := sub_bits (hdone _ h6).2 h5
       rw [hb0] at this; cases this
     ·cases h6
   subst hik
   unfold wpOp
   simp only [h0]
   rw [bitsA_set]
   rcases hst with ⟨v, l', fl', fp, hfp, h1, h01, h2, h3, h4, h5⟩ | ⟨l', fl', h1, h3, h4, h5⟩ | ⟨hn, h1, h2⟩
   ·have h1' : Region.wanted x.o (yielded ops a.tmps) = true := h1
    rw [if_pos h1']
    refine .inl ?_
    unfold Oper.wp
    have h2' : (execOp a.eval x.o).run P w = .ok (.value v) w := h2 w (by
     unfold OKw
     cases hb : isLoad P (itOf x).o.op with
     | true => exact .inr (.inr ⟨rfl, h01⟩)
     | false => exact .inr (.inl ⟨rfl, Ext.refl w⟩))
    rw [h2']
    refine ⟨Gd.refl, ?_⟩
    refine wpAnyE_mono (C' := addC (itOf x) fp C) (fun y hy => by simp [addC, itOf, hy]) _ _ _ _ (ih ?_ hB' h3 h4 h5 (fun a' l' w' ho => hK a' l' w' (off_put.trans (off_tail ho))) fun ch a' w' ho => hE ch a' w' (off_put.trans (off_tail ho)))
    intro y hy
    simp only [addC, itOf, List.mem_append, List.mem_map] at hy
    rcases hy with ⟨z, hz, rfl⟩ | hy
    ·exact h01 z hz
    ·exact hC y hy
   ·have h1' : Region.wanted x.o (yielded ops a.tmps) = false := h1
    rw [if_neg (by rw [h1']; simp)]
    exact ⟨Gd.refl, ih hC hB' h3 h4 h5 (fun a' l' w' ho => hK a' l' w' (off_put.trans (off_tail ho))) fun ch a' w' ho => hE ch a' w' (off_put.trans (off_tail ho))⟩
   ·have h1' : Region.wanted x.o (yielded ops a.tmps) = true := h1
    rw [if_pos h1']
    refine .inl (Oper.wp_mono ?_ (h2 Q fun ch w' hc => hE ch a w' (Off.refl _ _) hl.bare hc))
    rintro a' w' ⟨hxx, hkp, v, l', fl', rfl, h3, h4, h5⟩
    have hcells : ∀ y ∈ C, (asv.getD x.idx 0).testBit y.1 = false → holdAt w' y.2 := by
     intro y hy hb
     cases hal : isAlloc x.o.op with
     | true => exact (hxx hal).hold (hC y hy)
     | false =>
      have := hkp hal
      simp only [keepOk, itOf] at this
      exact this y hy (by rw [← haxD]; exact hb)
    refine ⟨⟨fun hh => hxx ?_, fun y hy hb _ => hcells y hy hb⟩, ?_⟩
    ·have : headOp P x.o = true := by simpa [headAt, h0] using hh
     have hn' : dRoOk P x.o.op = false := hn
     simp only [headOp, hn', Bool.false_or] at this
     exact this
    ·refine wpAnyE_more (C2 := dropC (itOf x) C) trivial _ _ _ _ ?_ (ih ?_ hB' h3 h4 h5 (fun a' l' w' ho => hK a' l' w' (off_put.trans (off_tail ho))) fun ch a' w' ho => hE ch a' w' (off_put.trans (off_tail ho)))
     ·intro y hy
      cases hb : x.anc.testBit y.1 with
      | false => exact .inl (by simp [dropC, itOf, hy, hb])
      | true =>
       refine .inr fun i hi => ?_
       rw [bitsA_getD] at hi
       split at hi
       ·rename_i hilt
        simp only [Nat.testBit_or, Bool.or_eq_false_iff, Nat.testBit_two_pow, decide_eq_false_iff_not] at hi
        have hi' : ops[i]? = some ops[i] := by simp [hilt]
        obtain ⟨z, hz, e1, e2, e3, e4, e5⟩ := hlater i ops[i] (fun e => hi.2 e.symm) hi' hi.1
        have hmt := mixTail_mem hb2 hz
        rw [hxro'] at hmt
        simp only [Bool.and_eq_true] at hmt
        right
        rw [← e3]
        exact sub_bits (Nat.eq_of_beq_eq_true hmt.2) hb
       ·cases hi
     ·intro y hy
      simp only [dropC, itOf, List.mem_filter, Bool.not_eq_true'] at hy
      exact hcells y hy.1 (by rw [haxD]; exact hy.2)
end
end Go.Den
end

section
namespace Go.Den
variable {ds : List Deferred}
inductive Tr where
 | nil
 | row (i : Nat) (t : Tr)
 | both (a b : Tr)
def dTr (P : Program) (N : NX) (ops : Array Oper) (split : Bool) (rows : List Row) : Tr → Env → FEnv → CEnv → World → (Env → World → Prop) → Prop
 | .nil, l, _, _, w, K => K l w
 | .row i t, l, fl, C, w, K => match rows[i]? with
  | some x => dStep P N ops split (itOf x) l fl C w fun l' fl' C' w' => dTr P N ops split rows t l' fl' C' w' K
  | none => False
 | .both a b, l, fl, C, w, K => dTr P N ops split rows a l fl C w K ∧ dTr P N ops split rows b l fl C w K
def Tr.heads : Tr → List Nat
 | .nil => []
 | .row i _ => [i]
 | .both a b => a.heads ++ b.heads
def Tr.depth : Tr → Nat
 | .nil => 0
 | .row _ t => t.depth + 1
 | .both a b => Nat.max a.depth b.depth
def rest (rows : List Row) (done i : Nat) : List Row := rows.filter fun y => !Nat.testBit done y.idx && !Nat.beq y.idx i
def cover (rows : List Row) (done : Nat) (hs : List Nat) : Bool :=
 rows.all fun y => Nat.testBit done y.idx || (hs.any fun h => Nat.beq h y.idx) || !Nat.beq (y.anc ||| done) done
def loadsOf (P : Program) (rows : List Row) : Nat := rows.foldl (fun s x => cond (isLoad P x.o.op) (s ||| 2 ^ x.idx) s) 0
def tailE (lm : Nat) (x : Row) (ys : List Row) : Bool := ys.all fun y => y.hd || Nat.beq ((x.anc &&& lm) ||| y.anc) y.anc
def trOk (P : Program) (ops : Array Oper) (rows : List Row) : Tr → Bool → Nat → Bool
 | .nil, c, done => c && (List.range ops.size).all fun i => Nat.testBit done i
 | .row i t, c, done => match rows[i]? with
  | none => false
  | some x => Nat.beq (x.anc ||| done) done && !Nat.testBit done i &&
    (match x.ro with
    | true => c && mixTail P ops x (rest rows done i)
    | false => (!c || cover rows done [i]) && tailE (loadsOf P rows) x (rest rows done i)) && trOk P ops rows t true (done ||| 2 ^ i)
 | .both a b, c, done => (!c || cover rows done (a.heads ++ b.heads)) && trOk P ops rows a false done && trOk P ops rows b false done
def altsOf : List Tr → Tr
 | [] => .nil
 | [t] => t
 | t :: r => .both t (altsOf r)
def mkTr (rows : List Row) : Nat → Nat → Tr
 | 0, _ => .nil
 | f + 1, done => match rows.filter (fun x => !Nat.testBit done x.idx && Nat.beq (x.anc ||| done) done) with
  | [] => .nil
  | xs => match xs.find? (·.ro) with
   | some x => .row x.idx (mkTr rows f (done ||| 2 ^ x.idx))
   | none => altsOf (xs.map fun x => .row x.idx (mkTr rows f (done ||| 2 ^ x.idx)))
def trRows (P : Program) (ops : Array Oper) : List Row := rowsOf P 0 ops.toList (ancL ops.toList [])
def trOf (P : Program) (ops : Array Oper) : Tr := mkTr (trRows P ops) ops.size 0
def treeOk (P : Program) (ops : Array Oper) : Bool :=
 Region.noSelect ops && Nat.ble (trOf P ops).depth ops.size && trOk P ops (trRows P ops) (trOf P ops) true 0
section
variable {P : Program} {N : NX} {ops : Array Oper}
theorem off_one {o : Oper} {a : Act} {v : Value} (ho : o ∈ ops.toList) : Off (dstsOf ops.toList) a (a.put o.dst v) := by
 intro t ht
 cases hd : o.dst with
 | none => rfl
 | some d =>
  rw [put_get, if_neg]
  intro e
  subst e
  exact ht (by simp only [dstsOf, List.mem_filterMap]; exact ⟨o, ho, hd⟩)
theorem rowsOf_length (P : Program) : ∀ (os : List Oper) (ms : List Nat) (i : Nat), os.length = ms.length → (rowsOf P i os ms).length = os.length
 | [], ms, i, h => by cases ms <;> simp [rowsOf]
 | o :: os, [], i, h => by simp at h
 | o :: os, m :: ms, i, h => by simp [rowsOf, rowsOf_length P os ms (i + 1) (by simpa using h)]
theorem rowsOf_get (P : Program) : ∀ (os : List Oper) (ms : List Nat) (i j : Nat) (x : Row), (rowsOf P i os ms)[j]? = some x → x.idx = i + j
 | [], ms, i, j, x, h => by cases ms <;> simp [rowsOf] at h
 | o :: os, [], i, j, x, h => by simp [rowsOf] at h
 | o :: os, m :: ms, i, 0, x, h => by simp [rowsOf] at h; subst h; rfl
 | o :: os, m :: ms, i, j + 1, x, h => by
  have := rowsOf_get P os ms (i + 1) j x (by simpa [rowsOf] using h)
  omega
theorem ancL_len (os : List Oper) : (ancL os []).length = os.length := by
 obtain ⟨t, h1, h2⟩ := ancL_append os []
 rw [h1]; simp [h2]
theorem heads_ready {rows : List Row} {done : Nat} : ∀ {t : Tr}, trOk P ops rows t false done = true → 0 < t.depth ∧ ∃ i x, rows[i]? = some x ∧ Nat.beq (x.anc ||| done) done = true ∧ done.testBit i = false
 | .nil, h => by simp [trOk] at h
 | .row i t, h => by
  simp only [trOk] at h
  cases hri : rows[i]? with
  | none => rw [hri] at h; cases h
  | some x =>
   rw [hri] at h
   simp only [Bool.and_eq_true, Bool.not_eq_true'] at h
   exact ⟨by simp [Tr.depth], i, x, hri, h.1.1.1, h.1.1.2⟩
 | .both a b, h => by
  simp only [trOk, Bool.and_eq_true] at h
  obtain ⟨h1, h2⟩ := heads_ready h.1.2
  exact ⟨Nat.lt_of_lt_of_le h1 (by simp only [Tr.depth]; exact Nat.le_max_left _ _), h2⟩
theorem row_fact {asv : List Nat} {rows : List Row} (hrows : rows = rowsOf P 0 ops.toList asv) {i : Nat} {x : Row} (hri : rows[i]? = some x) : x.idx = i ∧ ops[i]? = some x.o ∧ asv[i]? = some x.anc := by
 have hm : x ∈ rowsOf P 0 ops.toList asv := by rw [← hrows]; exact List.mem_of_getElem? hri
 obtain ⟨j, h1, h2, h3, h4⟩ := rowsOf_mem hm
 have : x.idx = i := by
  rw [hrows] at hri
  have := rowsOf_get P _ _ _ _ _ hri
  omega
 rw [Nat.zero_add] at h3
 rw [h3] at this
 subst this
 exact ⟨h3, by simpa using h1, h2⟩
theorem ready_of {asv : List Nat} (has : asv = ancL ops.toList []) {rows : List Row} (hrows : rows = rowsOf P 0 ops.toList asv) {done : Nat} (hdone : ∀ j, done.testBit j = true → j < ops.size ∧ asv.getD j 0 ||| done = done)
  {i : Nat} {x : Row} (hri : rows[i]? = some x) (hb1 : Nat.beq (x.anc ||| done) done = true) (hb0 : done.testBit i = false) : ∃ i, i ∈ Region.ready .any ops (bitsA ops.size done) := by
 obtain ⟨hx, h0, ha⟩ := row_fact hrows hri
 have hsub : x.anc ||| done = done := Nat.eq_of_beq_eq_true hb1
 have hklt : i < ops.size := (Array.getElem?_eq_some_iff.1 h0).1
 have hanc : asv[i]? = some (maskOf (asv.take i) x.o.after.toList) := by
  have := ancL_get ops.toList [] i x.o (by simpa using h0)
  rw [has]
  simpa using this
 refine ⟨i, mem_ready.2 ⟨by rw [bitsA_getD, if_pos hklt]; exact hb0, x.o, h0, fun e he hbe => ?_⟩⟩
 have h2 : x.anc.testBit e.on = true := by
  rw [Option.some.inj (ha.symm.trans hanc)]
  exact maskOf_has hbe _ _ (.inl (by simpa using he))
 have h3 := sub_bits hsub h2
 rw [bitsA_getD, if_pos (hdone _ h3).1]
 exact h3
theorem loadsOf_bit {rows : List Row} {x : Row} (hx : x ∈ rows) (hl : isLoad P x.o.op = true) : (loadsOf P rows).testBit x.idx = true := by
 have key : ∀ (rows : List Row) (s : Nat), (x ∈ rows ∨ s.testBit x.idx = true) → (rows.foldl (fun s x => cond (isLoad P x.o.op) (s ||| 2 ^ x.idx) s) s).testBit x.idx = true := by
  intro rows
  induction rows with
  | nil => intro s h; rcases h with h | h; cases h; exact h
  | cons y rows ih =>
   intro s h
   simp only [List.foldl_cons]
   refine ih _ ?_
   rcases h with h | h
   ·rcases List.mem_cons.1 h with rfl | h
    ·right; rw [hl]; simp [Nat.testBit_or]
    ·exact .inl h
   ·right
    cases isLoad P y.o.op <;> simp [Nat.testBit_or, h]
 exact key rows 0 (.inl hx)
theorem any_of_cover {Q : Exit → Act → World → Prop} (hP : OkP P) (asv : List Nat) (has : asv = ancL ops.toList []) (rows : List Row) (hrows : rows = rowsOf P 0 ops.toList asv) {done n : Nat} {C : CEnv} {a : Act} {w : World} {hs : List Nat}
  (hdone : ∀ j, done.testBit j = true → j < ops.size ∧ asv.getD j 0 ||| done = done) (hcov : cover rows done hs = true) (hne : ∃ i, i ∈ Region.ready .any ops (bitsA ops.size done))
  (h : ∀ i ∈ hs, ∀ m, n = m + 1 → wpOp P ops Q i (fun a' w' => Gd P ops asv C i w w' ∧ wpAnyE P .any ops asv Q C m ((bitsA ops.size done).setIfInBounds i true) a' w') a w) (hn : 0 < n) :
  wpAnyE P .any ops asv Q C n (bitsA ops.size done) a w := by
 obtain ⟨m, rfl⟩ : ∃ m, n = m + 1 := ⟨n - 1, by omega⟩
 obtain ⟨i0, hi0⟩ := hne
 refine ⟨fun h1 => (by rw [h1] at hi0; cases hi0), fun i hi => h i ?_ m rfl⟩
 obtain ⟨h1, oi, h2, h3⟩ := mem_ready.1 hi
 have hilt := (Array.getElem?_eq_some_iff.1 h2).1
 rw [bitsA_getD, if_pos hilt] at h1
 have hir : i < rows.length := by
  rw [hrows, rowsOf_length P _ _ _ (by rw [has, ancL_len])]; simpa using hilt
 obtain ⟨y, hy⟩ : ∃ y, rows[i]? = some y := ⟨_, List.getElem?_eq_getElem hir⟩
 obtain ⟨hyi, hyo, hya⟩ := row_fact hrows hy
 have hc := List.all_eq_true.1 hcov y (List.mem_of_getElem? hy)
 rw [hyi] at hc
 simp only [Bool.or_eq_true, Bool.not_eq_true'] at hc
 rcases hc with (hc | hc) | hc
 ·rw [h1] at hc; cases hc
 ·obtain ⟨k, hk, he⟩ := List.any_eq_true.1 hc
  rw [← Nat.eq_of_beq_eq_true he]; exact hk
 ·exfalso
  have hanc : asv[i]? = some (maskOf (asv.take i) oi.after.toList) := by
   have := ancL_get ops.toList [] i oi (by simpa using h2)
   rw [has]
   simpa using this
  have hya' : y.anc = maskOf (asv.take i) oi.after.toList := Option.some.inj (hya.symm.trans hanc)
  have : y.anc ||| done = done := by
   apply Nat.eq_of_testBit_eq
   intro k
   rw [Nat.testBit_or]
   cases hk : y.anc.testBit k with
   | false => simp
   | true =>
    rw [hya'] at hk
    rcases maskOf_bit _ _ hk with h5 | ⟨e, he, hbe, h5⟩
    ·simp at h5
    ·have h6 := h3 e (by simpa using he) hbe
     rw [bitsA_getD] at h6
     split at h6
     ·have hk2 : done.testBit k = true := by
       rcases h5 with h5 | h5
       ·rw [← h5]; exact h6
       ·have h7 : (asv.take i).getD e.on 0 = asv.getD e.on 0 ∨ (asv.take i).getD e.on 0 = 0 := by
         simp only [List.getD_eq_getElem?_getD, List.getElem?_take]
         split
         ·exact .inl rfl
         ·exact .inr rfl
        rcases h7 with h7 | h7
        ·rw [h7] at h5
         exact sub_bits (hdone _ h6).2 h5
        ·rw [h7] at h5; simp at h5
      simp [hk2]
     ·cases h6
  rw [this] at hc
  have hrf : Nat.beq done done = true := by simp
  rw [hrf] at hc; cases hc
theorem dTr_mix {split : Bool} (hP : OkP P) (hs : Region.noSelect ops = true) {Q : Exit → Act → World → Prop} (hQ : ∀ c a w (o : Oper) v, o ∈ ops.toList → Q (.panic c) (a.put o.dst v) w → Q (.panic c) a w)
  (asv : List Nat) (has : asv = ancL ops.toList []) (rows : List Row) (hrows : rows = rowsOf P 0 ops.toList asv) {a0 : Act} {K : Env → World → Prop}
  (hK : ∀ a' l' w', Off (dstsOf ops.toList) a0 a' → EnvOk ds N a' l' → K l' w' → Q .normal a' w') (hE : ∀ ch a' w', Off (dstsOf ops.toList) a0 a' → EnvOk ds N a' [] → N.E ch w' → Q (.panic ch) a' w') :
  ∀ (t : Tr) (c : Bool) (done n : Nat) {l : Env} {fl : FEnv} {C : CEnv} {w : World} {a : Act}, t.depth ≤ n →
  (∀ j, done.testBit j = true → j < ops.size ∧ asv.getD j 0 ||| done = done) → (∀ x ∈ C, holdAt w x.2 ∧ (loadsOf P rows).testBit x.1 = true) → trOk P ops rows t c done = true →
  EnvOk ds N a l → FlOk a fl → Off (dstsOf ops.toList) a0 a → dTr P N ops split rows t l fl C w K →
  (c = true → wpAnyE P .any ops asv Q C n (bitsA ops.size done) a w) ∧
  (c = false → ∀ i ∈ t.heads, ∀ m, n = m + 1 → wpOp P ops Q i (fun a' w' => Gd P ops asv C i w w' ∧ wpAnyE P .any ops asv Q C m ((bitsA ops.size done).setIfInBounds i true) a' w') a w)
 | .nil, c, done, n, l, fl, C, w, a, hn, hdone, hC, hB, hl, hfl, hoff, h => by
  simp only [trOk, Bool.and_eq_true] at hB
  have hr : Region.ready .any ops (bitsA ops.size done) = [] := by
   refine List.eq_nil_iff_forall_not_mem.2 fun j hj => ?_
   obtain ⟨h1, oj, h2, _⟩ := mem_ready.1 hj
   have hlt := (Array.getElem?_eq_some_iff.1 h2).1
   rw [bitsA_getD, if_pos hlt] at h1
   have := List.all_eq_true.1 hB.2 j (List.mem_range.2 hlt)
   rw [h1] at this; cases this
  refine ⟨fun _ => ?_, fun hc => by rw [hc] at hB; cases hB.1⟩
  cases n with
  | zero => exact ⟨hr, hK a l w hoff hl h⟩
  | succ n => exact ⟨fun _ => hK a l w hoff hl h, fun i hi => by rw [hr] at hi; cases hi⟩
 | .both t1 t2, c, done, n, l, fl, C, w, a, hn, hdone, hC, hB, hl, hfl, hoff, h => by
  simp only [trOk, Bool.and_eq_true] at hB
  obtain ⟨⟨hcov, hB1⟩, hB2⟩ := hB
  simp only [Tr.depth] at hn
  have hn1 : t1.depth ≤ n := Nat.le_trans (Nat.le_max_left _ _) hn
  have hn2 : t2.depth ≤ n := Nat.le_trans (Nat.le_max_right _ _) hn
  have i1 := (dTr_mix hP hs hQ asv has rows hrows hK hE t1 false done n hn1 hdone hC hB1 hl hfl hoff h.1).2 rfl
  have i2 := (dTr_mix hP hs hQ asv has rows hrows hK hE t2 false done n hn2 hdone hC hB2 hl hfl hoff h.2).2 rfl
  have hall : ∀ i ∈ (Tr.both t1 t2).heads, ∀ m, n = m + 1 → wpOp P ops Q i (fun a' w' => Gd P ops asv C i w w' ∧ wpAnyE P .any ops asv Q C m ((bitsA ops.size done).setIfInBounds i true) a' w') a w := by
   intro i hi m hm
   simp only [Tr.heads, List.mem_append] at hi
   exact hi.elim (fun h => i1 i h m hm) (fun h => i2 i h m hm)
  refine ⟨fun hc => ?_, fun _ => hall⟩
  subst hc
  simp only [Bool.not_true, Bool.false_or] at hcov
  have hB0 : trOk P ops rows (.both t1 t2) false done = true := by simp [trOk, hB1, hB2]
  obtain ⟨h1, i, x, hri, hb1, hb0⟩ := heads_ready hB0
  exact any_of_cover hP asv has rows hrows hdone hcov (ready_of has hrows hdone hri hb1 hb0) hall (by simp only [Tr.depth] at h1; omega)
 | .row i t, c, done, n, l, fl, C, w, a, hn, hdone, hC, hB, hl, hfl, hoff, h => by
  simp only [trOk] at hB
  simp only [dTr] at h
  cases hri : rows[i]? with
  | none => rw [hri] at h; exact h.elim
  | some x =>
  rw [hri] at h hB
  simp only [Bool.and_eq_true, Bool.not_eq_true'] at hB
  simp only at h
  have hxi : x.idx = i := by
   rw [hrows] at hri
   have := rowsOf_get P _ _ _ _ _ hri
   omega
  subst hxi
  obtain ⟨⟨⟨hb1, hb0⟩, hb2⟩, hB'⟩ := hB
  have hsub : x.anc ||| done = done := Nat.eq_of_beq_eq_true hb1
  have rowFact : ∀ y ∈ rowsOf P 0 ops.toList asv, ops[y.idx]? = some y.o ∧ asv[y.idx]? = some y.anc ∧ y.dir = dirOf y.o.after.toList ∧ y.ro = dRoOk P y.o.op ∧ y.hd = headOp P y.o := by
   intro y hy
   obtain ⟨j, h1, h2, h3, h4⟩ := rowsOf_mem hy
   rw [Nat.zero_add] at h3
   rw [h3]
   exact ⟨by simpa using h1, h2, h4⟩
  obtain ⟨h0, hax, hdir, hxro, hxhd⟩ := rowFact x (by rw [← hrows]; exact List.mem_of_getElem? hri)
  have haxD : asv.getD x.idx 0 = x.anc := by simp [hax]
  have hklt : x.idx < ops.size := (Array.getElem?_eq_some_iff.1 h0).1
  have hanc : ∀ j oj, ops[j]? = some oj → asv[j]? = some (maskOf (asv.take j) oj.after.toList) := by
   intro j oj hj
   have := ancL_get ops.toList [] j oj (by simpa using hj)
   rw [has]
   simpa using this
  have hancD : ∀ j oj, ops[j]? = some oj → asv.getD j 0 = maskOf (asv.take j) oj.after.toList := fun j oj hj => by simp [hanc j oj hj]
  have hready : x.idx ∈ Region.ready .any ops (bitsA ops.size done) := by
   refine mem_ready.2 ⟨by rw [bitsA_getD, if_pos hklt]; exact hb0, x.o, h0, fun e he hbe => ?_⟩
   have h2 : x.anc.testBit e.on = true := by
    rw [← haxD, hancD _ _ h0]
    exact maskOf_has hbe _ _ (.inl (by simpa using he))
   have h3 := sub_bits hsub h2
   rw [bitsA_getD, if_pos (hdone _ h3).1]
   exact h3
  have hlater : ∀ j oj, j ≠ x.idx → ops[j]? = some oj → done.testBit j = false → ∃ y ∈ rest rows done x.idx, y.idx = j ∧ y.o = oj ∧ y.anc = asv.getD j 0 ∧ y.dir = dirOf oj.after.toList ∧ y.hd = headOp P oj := by
   intro j oj hne hj hun
   have hjlt := (Array.getElem?_eq_some_iff.1 hj).1
   have hjr : j < rows.length := by
    rw [hrows, rowsOf_length P _ _ _ (by rw [has, ancL_len])]; simpa using hjlt
   obtain ⟨y, hy⟩ : ∃ y, rows[j]? = some y := ⟨_, List.getElem?_eq_getElem hjr⟩
   have hmem : y ∈ rows := List.mem_of_getElem? hy
   have hidx : y.idx = j := by
    rw [hrows] at hy
    have := rowsOf_get P _ _ _ _ _ hy
    omega
   obtain ⟨g1, g2, g3, g4, g5⟩ := rowFact y (by rw [← hrows]; exact hmem)
   rw [hidx] at g1 g2
   have e : y.o = oj := Option.some.inj (g1.symm.trans hj)
   refine ⟨y, ?_, hidx, e, by simp [g2], by rw [g3, e], by rw [g5, e]⟩
   simp only [rest, List.mem_filter, Bool.and_eq_true, Bool.not_eq_true']
   refine ⟨hmem, by rw [hidx]; exact hun, ?_⟩
   rw [hidx]
   cases hbq : Nat.beq j x.idx with
   | false => rfl
   | true => exact absurd (Nat.eq_of_beq_eq_true hbq) hne
  have hdone' : ∀ j, (done ||| 2 ^ x.idx).testBit j = true → j < ops.size ∧ asv.getD j 0 ||| (done ||| 2 ^ x.idx) = done ||| 2 ^ x.idx := by
   intro j hj
   simp only [Nat.testBit_or, Bool.or_eq_true, Nat.testBit_two_pow, decide_eq_true_eq] at hj
   rcases hj with hj | hj
   ·obtain ⟨g1, g2⟩ := hdone j hj
    exact ⟨g1, by rw [← Nat.or_assoc, g2]⟩
   ·subst hj
    exact ⟨hklt, by rw [haxD, ← Nat.or_assoc, hsub]⟩
  have hxmem : x.o ∈ ops.toList := by
   obtain ⟨hh, he⟩ := Array.getElem?_eq_some_iff.1 h0
   rw [← he]; simp
  have hdn : ∃ m, n = m + 1 ∧ t.depth ≤ m := by
   simp only [Tr.depth] at hn
   exact ⟨n - 1, by omega, by omega⟩
  obtain ⟨m, rfl, hnm⟩ := hdn
  have ih := fun {l fl C w a} => dTr_mix (split := split) hP hs hQ asv has rows hrows hK hE t true (done ||| 2 ^ x.idx) m (l := l) (fl := fl) (C := C) (w := w) (a := a) hnm hdone'
  have hst := step_of hP hl hfl h
  -- where a set of bits holds whom an operation waits for
  have through : ∀ i oi, ops[i]? = some oi → (asv.getD i 0).testBit x.idx = true → ∃ e ∈ oi.after, Region.binds .any e = true ∧ (e.on = x.idx ∨ (asv.getD e.on 0).testBit x.idx = true) := by
   intro i oi hi hb
   rw [hancD i oi hi] at hb
   rcases maskOf_bit _ _ hb with h5 | ⟨e, he, hbe, h5⟩
   ·simp at h5
   ·refine ⟨e, by simpa using he, hbe, h5.imp id fun h6 => ?_⟩
    have h7 : (asv.take i).getD e.on 0 = asv.getD e.on 0 ∨ (asv.take i).getD e.on 0 = 0 := by
     simp only [List.getD_eq_getElem?_getD, List.getElem?_take]
     split
     ·exact .inl rfl
     ·exact .inr rfl
    rcases h7 with h7 | h7
    ·rw [h7] at h6; exact h6
    ·rw [h7] at h6; simp at h6
  cases hro : dRoOk P x.o.op with
  | true =>
   have hxro' : x.ro = true := hxro.trans hro
   rw [hxro'] at hb2
   simp only [Bool.and_eq_true] at hb2
   obtain ⟨hc, hb2⟩ := hb2
   subst hc
   refine ⟨fun _ => ?_, fun hc => by cases hc⟩
   have go : ∀ (v : Value) (S : World → Prop) (C' : CEnv), (∀ j, j < ops.size → j ≠ x.idx → done.testBit j = false → (asv.getD j 0).testBit x.idx = false → ∀ w w', Gd P ops asv C' j w w' → S w → S w') →
     YieldsIf P ops S x.o v a → S w → wpAnyE P .any ops asv Q C' m (bitsA ops.size (done ||| 2 ^ x.idx)) (a.put x.o.dst v) w →
     wpAnyE P .any ops asv Q C' (m + 1) (bitsA ops.size done) a w := by
    intro v S C' hpres hy hS hrest'
    refine wpAnyE_first (S := S) (without asv ops.size x.idx) h0 (Region.noSelect_spec hs) (fun c a w hq => hQ c a w x.o _ (List.mem_of_getElem? (by simpa using h0)) hq) ?_ (by simp [without]) _ _ _ _ ?_ ?_ ?_ hready hy hS (by rw [bitsA_set]; exact hrest')
    ·intro j hj
     obtain ⟨h1, oj, h2, h3⟩ := mem_ready.1 hj
     have hjlt := (Array.getElem?_eq_some_iff.1 h2).1
     rw [without_getD, if_pos hjlt] at h1
     by_cases hjk : j = x.idx
     ·exact hjk
     ·simp only [hjk, decide_false, Bool.not_false, Bool.true_and, Bool.not_eq_false'] at h1
      obtain ⟨e, he, hbe, h5⟩ := through j oj h2 h1
      have h6 := h3 e he hbe
      rw [without_getD] at h6
      split at h6
      ·simp only [Bool.and_eq_true, Bool.not_eq_true', decide_eq_false_iff_not] at h6
       rcases h5 with h5 | h5
       ·exact absurd h5 h6.1
       ·rw [h6.2] at h5; cases h5
      ·cases h6
    ·intro j oj hj hjk hun hno
     have hjlt := (Array.getElem?_eq_some_iff.1 hj).1
     rw [bitsA_getD, if_pos hjlt] at hun
     obtain ⟨y, hy', e1, e2, e3, e4, e5⟩ := hlater j oj hjk hj hun
     have hmt := mixTail_mem hb2 hy'
     rw [hxro'] at hmt
     simp only [Bool.and_eq_true, Bool.or_eq_true] at hmt
     rcases hmt.1 with h1 | h1
     ·rw [e4] at h1
      rcases dirOf_bit _ _ h1 with h2 | ⟨e, he, hbe, h2⟩
      ·simp at h2
      ·exact absurd h2 (hno e (by simpa using he) hbe)
     ·rw [e2] at h1; exact h1
    ·intro j hj
     rw [bitsA_getD] at hj
     split at hj
     ·rename_i hjlt
      rw [without_getD, if_pos hjlt]
      have hne : j ≠ x.idx := by intro e; rw [e, hb0] at hj; cases hj
      have : (asv.getD j 0).testBit x.idx = false := by
       cases hbit : (asv.getD j 0).testBit x.idx with
       | false => rfl
       | true =>
        have := sub_bits (hdone j hj).2 hbit
        rw [hb0] at this; cases this
      simp only [hne, decide_false, Bool.not_false, Bool.true_and, Bool.not_eq_true', this]
     ·cases hj
    ·intro j hj hLj
     rw [bitsA_getD] at hj
     split at hj
     ·rename_i hjlt
      rw [without_getD, if_pos hjlt] at hLj
      simp only [Bool.and_eq_true, Bool.not_eq_true', decide_eq_false_iff_not] at hLj
      exact hpres j hjlt hLj.1 hj hLj.2
     ·cases hj
   rcases hst with ⟨v, l', fl', fp, hfp, h1, h01, h2, h3, h4, h5⟩ | ⟨l', fl', h1, h3, h4, h5⟩ | ⟨hn, h1, h2⟩
   ·have hCx : ∀ y ∈ C, y ∈ addC (itOf x) fp C := fun y hy => by simp [addC, itOf, hy]
    refine wpAnyE_mono hCx _ _ _ _ ?_
    refine go v (OKw P x.o.op fp w) _ ?_ (.inl ⟨h1, h2⟩) ?_ ((ih ?_ hB' h3 h4 (hoff.trans (off_one hxmem)) h5).1 rfl)
    ·intro j hjlt hjk hun hanc0 w1 w2 hg hok
     rcases hok with hok | ⟨hok, hx⟩ | ⟨hok, hc⟩
     ·exact .inl hok
     ·have hj' : ops[j]? = some ops[j] := by simp [hjlt]
      obtain ⟨y, hy', e1, e2, e3, e4, e5⟩ := hlater j ops[j] hjk hj' hun
      have hmt := mixTail_mem hb2 hy'
      rw [hxro'] at hmt
      simp only [Bool.and_eq_true, Bool.or_eq_true] at hmt
      rcases hmt.2 with ((h7 | h7) | h7) | h7
      ·exact .inl h7
      ·rw [hok] at h7; cases h7
      ·rw [e3, hanc0] at h7; cases h7
      ·refine .inr (.inl ⟨hok, hx.trans (hg.1 ?_)⟩)
       simp only [headAt, hj']
       rw [← e5]; exact h7
     ·refine .inr (.inr ⟨hok, fun z hz => ?_⟩)
      exact hg.2 (x.idx, z) (by simp [addC, itOf, hz]) hanc0 (hc z hz)
    ·unfold OKw
     cases hb : isLoad P x.o.op with
     | true => exact .inr (.inr ⟨rfl, h01⟩)
     | false => exact .inr (.inl ⟨rfl, Ext.refl w⟩)
    ·intro y hy
     simp only [addC, itOf, List.mem_append, List.mem_map] at hy
     rcases hy with ⟨z, hz, rfl⟩ | hy
     ·exact ⟨h01 z hz, loadsOf_bit (List.mem_of_getElem? hri) (by
       cases hll : isLoad P x.o.op with
       | true => rfl
       | false => rw [hfp hll] at hz; cases hz)⟩
     ·exact hC y hy
   ·exact go undef (fun _ => True) C (fun _ _ _ _ _ _ _ _ _ => trivial) (.inr ⟨h1, rfl⟩) trivial ((ih hC hB' h3 h4 (hoff.trans (off_one hxmem)) h5).1 rfl)
   ·have hn' : dRoOk P x.o.op = false := hn
    rw [hro] at hn'; cases hn'
  | false =>
   have hxro' : x.ro = false := hxro.trans hro
   rw [hxro'] at hb2
   simp only [Bool.and_eq_true] at hb2
   obtain ⟨hcov, htl⟩ := hb2
   have hall : wpOp P ops Q x.idx (fun a' w' => Gd P ops asv C x.idx w w' ∧ wpAnyE P .any ops asv Q C m ((bitsA ops.size done).setIfInBounds x.idx true) a' w') a w := by
    unfold wpOp
    simp only [h0]
    rw [bitsA_set]
    rcases hst with ⟨v, l', fl', fp, hfp, h1, h01, h2, h3, h4, h5⟩ | ⟨l', fl', h1, h3, h4, h5⟩ | ⟨hn, h1, h2⟩
    ·have h1' : Region.wanted x.o (yielded ops a.tmps) = true := h1
     rw [if_pos h1']
     refine .inl ?_
     unfold Oper.wp
     have h2' : (execOp a.eval x.o).run P w = .ok (.value v) w := h2 w (by
      unfold OKw
      cases hb : isLoad P (itOf x).o.op with
      | true => exact .inr (.inr ⟨rfl, h01⟩)
      | false => exact .inr (.inl ⟨rfl, Ext.refl w⟩))
     rw [h2']
     refine ⟨Gd.refl, ?_⟩
     refine wpAnyE_mono (C' := addC (itOf x) fp C) (fun y hy => by simp [addC, itOf, hy]) _ _ _ _ ((ih ?_ hB' h3 h4 (hoff.trans (off_one hxmem)) h5).1 rfl)
     intro y hy
     simp only [addC, itOf, List.mem_append, List.mem_map] at hy
     rcases hy with ⟨z, hz, rfl⟩ | hy
     ·exact ⟨h01 z hz, loadsOf_bit (List.mem_of_getElem? hri) (by
       cases hll : isLoad P x.o.op with
       | true => rfl
       | false => rw [hfp hll] at hz; cases hz)⟩
     ·exact hC y hy
    ·have h1' : Region.wanted x.o (yielded ops a.tmps) = false := h1
     rw [if_neg (by rw [h1']; simp)]
     exact ⟨Gd.refl, (ih hC hB' h3 h4 (hoff.trans (off_one hxmem)) h5).1 rfl⟩
    ·have h1' : Region.wanted x.o (yielded ops a.tmps) = true := h1
     rw [if_pos h1']
     refine .inl (Oper.wp_mono ?_ (h2 Q fun ch w' hc => hE ch a w' hoff hl.bare hc))
     rintro a' w' ⟨hxx, hkp, v, l', fl', rfl, h3, h4, h5⟩
     have hcells : ∀ y ∈ C, (asv.getD x.idx 0).testBit y.1 = false → holdAt w' y.2 := by
      intro y hy hb
      cases hal : isAlloc x.o.op with
      | true => exact (hxx hal).hold (hC y hy).1
      | false =>
       have := hkp hal
       simp only [keepOk, itOf] at this
       exact this y hy (by rw [← haxD]; exact hb)
     refine ⟨⟨fun hh => hxx ?_, fun y hy hb _ => hcells y hy hb⟩, ?_⟩
     ·have : headOp P x.o = true := by simpa [headAt, h0] using hh
      have hn' : dRoOk P x.o.op = false := hn
      simp only [headOp, hn', Bool.false_or] at this
      exact this
     ·refine wpAnyE_more (C2 := dropC (itOf x) C) trivial _ _ _ _ ?_ ((ih ?_ hB' h3 h4 (hoff.trans (off_one hxmem)) h5).1 rfl)
      ·intro y hy
       cases hb : x.anc.testBit y.1 with
       | false => exact .inl (by simp [dropC, itOf, hy, hb])
       | true =>
        refine .inr fun i hi => ?_
        rw [bitsA_getD] at hi
        split at hi
        ·rename_i hilt
         simp only [Nat.testBit_or, Bool.or_eq_false_iff, Nat.testBit_two_pow, decide_eq_false_iff_not] at hi
         have hi' : ops[i]? = some ops[i] := by simp [hilt]
         obtain ⟨z, hz, e1, e2, e3, e4, e5⟩ := hlater i ops[i] (fun e => hi.2 e.symm) hi' hi.1
         have hmt := List.all_eq_true.1 htl z hz
         simp only [Bool.or_eq_true] at hmt
         rcases hmt with hmt | hmt
         ·left; simp only [headAt, hi']; rw [← e5]; exact hmt
         ·right
          rw [← e3]
          exact sub_bits (Nat.eq_of_beq_eq_true hmt) (by rw [Nat.testBit_and, hb, (hC y hy).2]; rfl)
        ·cases hi
      ·intro y hy
       simp only [dropC, itOf, List.mem_filter, Bool.not_eq_true'] at hy
       exact ⟨hcells y hy.1 (by rw [haxD]; exact hy.2), (hC y hy.1).2⟩
   refine ⟨fun hc => ?_, fun _ i hi m' hm' => ?_⟩
   ·subst hc
    simp only [Bool.not_true, Bool.false_or] at hcov
    exact any_of_cover hP asv has rows hrows hdone hcov ⟨_, hready⟩ (fun i hi m' hm' => by
     simp only [List.mem_singleton] at hi
     subst hi
     obtain rfl : m = m' := by omega
     exact hall) (by omega)
   ·simp only [Tr.heads, List.mem_singleton] at hi
    subst hi
    obtain rfl : m = m' := by omega
    exact hall
end
end Go.Den
end
