/-
  A denotation of the model's code as one formula for each function. Part B: what single operations ask and give, and that this is sound.
-/
import Derived.Test.YtmbbfaigbhnhcaaDenA
set_option linter.unusedSimpArgs false
set_option linter.unusedVariables false
namespace Go.Den

def kdB : Kd → Value → Bool
  | .i k, .int k' _ => decide (k' = k)
  | .b, .bool _ => true
  | .s, .string _ => true
  | .p, .pointer _ => true
  | .sl, .slice _ _ _ => true
  | .m, .map _ => true
  | _, _ => false

theorem cells_of_kdB {k : Kd} {v : Value} (h : kdB k v = true) : v.cells = #[v] := by
  cases k <;> cases v <;> simp_all [kdB, Value.cells]

/-- The cells of a value of a type (of a value of no known form it is asked that it be one cell). -/
def dCells (P : Program) (t : TypeId) (v : Value) (K : List Value → Prop) : Prop :=
  match shapeOf P t with
  | .one .v => v.oneCell' = true ∧ K [v]
  | .one k => cond (kdB k v) (K [v]) False
  | .agg ks => match v with
    | .agg cs => cond (Nat.beq cs.size ks.length) (K cs.toList) False
    | _ => False

theorem of_dCells {P : Program} {t : TypeId} {v : Value} {K : List Value → Prop} (h : dCells P t v K) : K v.cells.toList := by
  unfold dCells at h
  split at h
  · obtain ⟨h1, h2⟩ := h
    have : v.cells = #[v] := by cases v <;> simp_all [Value.oneCell', Value.cells]
    rw [this]; exact h2
  · rename_i k _ _
    cases hb : kdB k v with
    | true => rw [hb] at h; rw [cells_of_kdB hb]; exact h
    | false => rw [hb] at h; exact h.elim
  · rename_i ks hks
    split at h
    · rename_i cs
      cases hb : Nat.beq cs.size ks.length with
      | true => rw [hb] at h; exact h
      | false => rw [hb] at h; exact h.elim
    · exact h.elim

/-- Parts laid into a row of cells. -/
def dFill (P : Program) (places : List (Nat × Nat × TypeId)) (cells : List Value) : List (Nat × Value) → (List Value → Prop) → Prop
  | [], K => K cells
  | (i, v) :: rest, K =>
    match places[i]? with
    | none => False
    | some (off, size, t) => dCells P t v fun cs =>
        cond (Nat.beq cs.length size && Nat.ble (off + size) cells.length)
          (dFill P places (cells.take off ++ cs ++ cells.drop (off + size)) rest K) False

theorem foldl_set_eq (off : Nat) : ∀ (cs : List Value) (j : Nat) (c : Array Value), off + j + cs.length ≤ c.size →
    ((cs.zipIdx j).foldl (fun acc (x : Value × Nat) => acc.setIfInBounds (off + x.2) x.1) c).toList = c.toList.take (off + j) ++ cs ++ c.toList.drop (off + j + cs.length)
  | [], j, c, _ => by simp
  | v :: cs, j, c, h => by
    simp only [List.length_cons] at h
    have ih := foldl_set_eq off cs (j + 1) (c.setIfInBounds (off + j) v) (by simp; omega)
    simp only [List.zipIdx_cons, List.foldl_cons]
    rw [ih]
    have e1 : off + (j + 1) = off + j + 1 := by omega
    have e2 : off + j + (v :: cs).length = off + j + 1 + cs.length := by simp; omega
    rw [e1, e2]
    have hlt : off + j < c.toList.length := by simp; omega
    simp only [Array.toList_setIfInBounds]
    have h1 : List.take (off + j + 1) (c.toList.set (off + j) v) = c.toList.take (off + j) ++ [v] := by
      rw [List.take_set, List.take_succ_eq_append_getElem hlt]
      have : (List.take (off + j) c.toList).length = off + j := by simp; omega
      rw [List.set_append_right _ _ (by omega)]
      simp [this]
    have h2 : List.drop (off + j + 1 + cs.length) (c.toList.set (off + j) v) = List.drop (off + j + 1 + cs.length) c.toList := by
      rw [List.drop_set_of_lt (by omega)]
    rw [h1, h2]
    simp [List.append_assoc]

theorem of_dFill {P : Program} {places : List (Nat × Nat × TypeId)} : ∀ {parts : List (Nat × Value)} {cells : List Value} {K : List Value → Prop},
    dFill P places cells parts K → ∃ cs, Instr.fill (fun i => (places[i]?).map fun x => (x.1, x.2.1)) cells.toArray parts = some cs ∧ K cs.toList
  | [], cells, K, h => ⟨cells.toArray, rfl, h⟩
  | (i, v) :: rest, cells, K, h => by
    simp only [dFill] at h
    cases hp : places[i]? with
    | none => simp [hp] at h
    | some x =>
      obtain ⟨off, size, t⟩ := x
      simp only [hp] at h
      have h1 := of_dCells h
      cases hb : (Nat.beq v.cells.toList.length size && Nat.ble (off + size) cells.length) with
      | false => rw [hb] at h1; exact h1.elim
      | true =>
        rw [hb] at h1
        simp only [cond_true] at h1
        obtain ⟨cs, hc, hK⟩ := of_dFill h1
        simp only [Bool.and_eq_true] at hb
        have e1 : v.cells.size = size := by simpa using Nat.eq_of_beq_eq_true hb.1
        have e2 : off + size ≤ cells.length := Nat.le_of_ble_eq_true hb.2
        refine ⟨cs, ?_, hK⟩
        simp only [Instr.fill, hp, Option.map_some]
        rw [if_neg (by simp [e1]; omega)]
        rw [← hc]
        congr 1
        apply Array.ext'
        have := foldl_set_eq off v.cells.toList 0 cells.toArray (by simp [e1]; omega)
        simp only [Nat.add_zero, Array.length_toList, e1] at this
        rw [← Array.foldl_toList, Array.toList_zipIdx]
        exact this

/-- The value of 'x op y' where nothing is asked. -/
def pureBin (P : Program) (op : BinOp) (t : TypeId) (cy : Bool) (x y : Value) : Option Value :=
  match x, y with
  | .int k a, .int k' b =>
    cond (decide (k = k'))
      (match op with
       | .add => some (.int k (k.wrap (a + b)))
       | .sub => some (.int k (k.wrap (a - b)))
       | .mul => some (.int k (k.wrap (a * b)))
       | .and => some (.int k (k.wrap ((BitVec.ofInt k.bits a &&& BitVec.ofInt k.bits b).toNat : Nat)))
       | .or => some (.int k (k.wrap ((BitVec.ofInt k.bits a ||| BitVec.ofInt k.bits b).toNat : Nat)))
       | .xor => some (.int k (k.wrap ((BitVec.ofInt k.bits a ^^^ BitVec.ofInt k.bits b).toNat : Nat)))
       | .andNot => some (.int k (k.wrap ((BitVec.ofInt k.bits a &&& ~~~ BitVec.ofInt k.bits b).toNat : Nat)))
       | .eql => some (.bool (a == b))
       | .neq => some (.bool (a != b))
       | .lss => some (.bool (decide (a < b)))
       | .leq => some (.bool (decide (a ≤ b)))
       | .gtr => some (.bool (decide (a > b)))
       | .geq => some (.bool (decide (a ≥ b)))
       | _ => none) none
  | .bool a, .bool b =>
    match P.underlying t with
    | some .bool => match op with
      | .eql => some (.bool (a == b))
      | .neq => some (.bool (!(a == b)))
      | _ => none
    | _ => none
  | .string a, .string b => match op with
    | .eql => some (.bool (a.toList == b.toList))
    | .neq => some (.bool (!(a.toList == b.toList)))
    | .lss => some (.bool (Op.bytesLess a.toList b.toList))
    | .leq => some (.bool (Op.bytesLess a.toList b.toList || a.toList == b.toList))
    | .gtr => some (.bool (!(Op.bytesLess a.toList b.toList || a.toList == b.toList)))
    | .geq => some (.bool (!(Op.bytesLess a.toList b.toList)))
    | _ => none
  | .pointer a, .pointer b => match cy, P.underlying t with
    | true, some (.pointer _) => match b with
      | none => match op with
        | .eql => some (.bool a.isNone)
        | .neq => some (.bool (!a.isNone))
        | _ => none
      | _ => none
    | _, _ => none
  | .slice a _ _, .slice b _ _ => match cy, P.underlying t with
    | true, some (.slice _) => match b with
      | none => match op with
        | .eql => some (.bool a.isNone)
        | .neq => some (.bool (!a.isNone))
        | _ => none
      | _ => none
    | _, _ => none
  | .map a, .map b => match cy, P.underlying t with
    | true, some (.map _ _) => match b with
      | none => match op with
        | .eql => some (.bool a.isNone)
        | .neq => some (.bool (!a.isNone))
        | _ => none
      | _ => none
    | _, _ => none
  | _, _ => none

def binSem (op : BinOp) (t : TypeId) (x y : Operand) (a b : Value) : Sem Value := do eqGuard op t x y a b; binOp op t a b

theorem run_eqGuard_plain {P : Program} {w : World} {op : BinOp} {t : TypeId} {x y : Operand} {a b : Value} (ha : a.oneCell' = true) (hn : a ≠ .nilIface) :
    (eqGuard op t x y a b).run P w = .ok () w := by
  unfold eqGuard
  cases a <;> simp_all [Value.oneCell'] <;> cases op <;> rfl

theorem equalIn_bool {P : Program} {w : World} {t : TypeId} (dp : Nat) {a b : Bool} (ht : P.underlying t = some .bool) :
    (Op.equalIn (dp + 1) t (.bool a) (.bool b)).run P w = .ok (a == b) w := by
  simp [Op.equalIn, run_underlying ht]

theorem equal_bool {P : Program} {w : World} {t : TypeId} {a b : Bool} (ht : P.underlying t = some .bool) :
    (Op.equal t (.bool a) (.bool b)).run P w = .ok (a == b) w := equalIn_bool 9999 ht

theorem equalIn_ptr_nil {P : Program} {w : World} {t : TypeId} (dp : Nat) {e : TypeId} {a : Option Addr} (ht : P.underlying t = some (.pointer e)) :
    (Op.equalIn (dp + 1) t (.pointer a) (.pointer none)).run P w = .ok a.isNone w := by
  cases a <;> simp [Op.equalIn, run_underlying ht]

theorem equal_ptr_nil {P : Program} {w : World} {t : TypeId} {e : TypeId} {a : Option Addr} (ht : P.underlying t = some (.pointer e)) :
    (Op.equal t (.pointer a) (.pointer none)).run P w = .ok a.isNone w := equalIn_ptr_nil 9999 ht

theorem equalIn_slice_nil {P : Program} {w : World} {t : TypeId} (dp : Nat) {e : TypeId} {a : Option Addr} {n c m d : Nat} (ht : P.underlying t = some (.slice e)) :
    (Op.equalIn (dp + 1) t (.slice a n c) (.slice none m d)).run P w = .ok a.isNone w := by
  cases a <;> simp [Op.equalIn, run_underlying ht]

theorem equal_slice_nil {P : Program} {w : World} {t : TypeId} {e : TypeId} {a : Option Addr} {n c m d : Nat} (ht : P.underlying t = some (.slice e)) :
    (Op.equal t (.slice a n c) (.slice none m d)).run P w = .ok a.isNone w := equalIn_slice_nil 9999 ht

theorem equalIn_map_nil {P : Program} {w : World} {t : TypeId} (dp : Nat) {k e : TypeId} {a : Option Nat} (ht : P.underlying t = some (.map k e)) :
    (Op.equalIn (dp + 1) t (.map a) (.map none)).run P w = .ok a.isNone w := by
  cases a <;> simp [Op.equalIn, run_underlying ht]

theorem equal_map_nil {P : Program} {w : World} {t : TypeId} {k e : TypeId} {a : Option Nat} (ht : P.underlying t = some (.map k e)) :
    (Op.equal t (.map a) (.map none)).run P w = .ok a.isNone w := equalIn_map_nil 9999 ht

theorem of_pureBin {P : Program} {w : World} {op : BinOp} {t : TypeId} {x y : Operand} {cy : Bool} {a b v : Value} (h : pureBin P op t cy a b = some v) :
    (binSem op t x y a b).run P w = .ok v w := by
  unfold pureBin at h
  split at h
  · rename_i k a k' b
    cases hk : decide (k = k') with
    | false => rw [hk] at h; cases h
    | true =>
      rw [hk] at h
      simp only [cond_true] at h
      obtain rfl := of_decide_eq_true hk
      unfold binSem
      rw [Sem.run_bind, run_eqGuard_plain rfl (by simp)]
      cases op <;> simp only [Option.some.injEq] at h <;> first
        | (subst h; simp [binOp, Op.intArith, Op.intBits, Op.intCmp]; done)
        | cases h
  · rename_i a b
    split at h
    · rename_i hu
      unfold binSem
      rw [Sem.run_bind, run_eqGuard_plain rfl (by simp)]
      cases op <;> simp only [Option.some.injEq] at h <;> first
        | (subst h; simp [binOp, equal_bool hu]; done)
        | cases h
    · cases h
  · rename_i a b
    unfold binSem
    rw [Sem.run_bind, run_eqGuard_plain rfl (by simp)]
    cases op <;> simp only [Option.some.injEq] at h <;> first
      | (subst h; simp [binOp, Op.stringOp]; done)
      | cases h
  · split at h
    · rename_i hu
      split at h
      · unfold binSem
        rw [Sem.run_bind, run_eqGuard_plain rfl (by simp)]
        cases op <;> simp only [Option.some.injEq] at h <;> first
          | (subst h; simp [binOp, equal_ptr_nil hu]; done)
          | cases h
      · cases h
    · cases h
  · split at h
    · rename_i hu
      split at h
      · unfold binSem
        rw [Sem.run_bind, run_eqGuard_plain rfl (by simp)]
        cases op <;> simp only [Option.some.injEq] at h <;> first
          | (subst h; simp [binOp, equal_slice_nil hu]; done)
          | cases h
      · cases h
    · cases h
  · split at h
    · rename_i hu
      split at h
      · unfold binSem
        rw [Sem.run_bind, run_eqGuard_plain rfl (by simp)]
        cases op <;> simp only [Option.some.injEq] at h <;> first
          | (subst h; simp [binOp, equal_map_nil hu]; done)
          | cases h
      · cases h
    · cases h
  · cases h

/-- 'x op y' over numbers, bools, strings, with what is asked. -/
def dBinP (op : BinOp) (a b : Value) (K : Value → Prop) : Prop :=
  match op, a, b with
  | .quo, .int k m, .int k' n => cond (decide (k = k')) (n ≠ 0 ∧ K (.int k (k.wrap (m.tdiv n)))) False
  | .rem, .int k m, .int k' n => cond (decide (k = k')) (n ≠ 0 ∧ K (.int k (m.tmod n))) False
  | .shl, .int k m, .int _ n => 0 ≤ n ∧ K (.int k (k.wrap (m * 2 ^ (min n.toNat k.bits))))
  | .shr, .int k m, .int _ n => 0 ≤ n ∧ K (.int k (m.fdiv (2 ^ (min n.toNat k.bits))))
  | .add, .string m, .string n => m.size + n.size ≤ 9223372036854775807 ∧ K (.string (m ++ n))
  | _, _, _ => False

theorem of_dBinP {P : Program} {op : BinOp} {t : TypeId} {x y : Operand} {a b : Value} {K : Value → Prop} (h : dBinP op a b K) :
    ∃ v, (∀ w', (binSem op t x y a b).run P w' = .ok v w') ∧ K v := by
  unfold dBinP at h
  split at h
  · rename_i k m k' n
    cases hk : decide (k = k') with
    | false => rw [hk] at h; exact h.elim
    | true =>
      rw [hk] at h
      obtain rfl := of_decide_eq_true hk
      obtain ⟨h1, h2⟩ := h
      refine ⟨_, fun w' => ?_, h2⟩
      unfold binSem
      rw [Sem.run_bind, run_eqGuard_plain rfl (by simp)]
      simp [binOp, Op.intDiv, h1]
  · rename_i k m k' n
    cases hk : decide (k = k') with
    | false => rw [hk] at h; exact h.elim
    | true =>
      rw [hk] at h
      obtain rfl := of_decide_eq_true hk
      obtain ⟨h1, h2⟩ := h
      refine ⟨_, fun w' => ?_, h2⟩
      unfold binSem
      rw [Sem.run_bind, run_eqGuard_plain rfl (by simp)]
      simp [binOp, Op.intDiv, h1]
  · obtain ⟨h1, h2⟩ := h
    refine ⟨_, fun w' => ?_, h2⟩
    unfold binSem
    rw [Sem.run_bind, run_eqGuard_plain rfl (by simp)]
    simp [binOp, Op.shift, Int.not_lt.2 h1]
  · obtain ⟨h1, h2⟩ := h
    refine ⟨_, fun w' => ?_, h2⟩
    unfold binSem
    rw [Sem.run_bind, run_eqGuard_plain rfl (by simp)]
    simp [binOp, Op.shift, Int.not_lt.2 h1]
  · rename_i m n
    obtain ⟨h1, h2⟩ := h
    refine ⟨_, fun w' => ?_, h2⟩
    unfold binSem
    rw [Sem.run_bind, run_eqGuard_plain rfl (by simp)]
    have : ¬ (IntKind.i64.max < ((m.size + n.size : Nat) : Int)) := by
      have e : IntKind.i64.max = 9223372036854775807 := by decide
      rw [e]; omega
    simp only [binOp, Op.stringOp, Result.andThen_ok, gt_iff_lt, if_neg this, Sem.run_pure]
  · exact h.elim

end Go.Den
