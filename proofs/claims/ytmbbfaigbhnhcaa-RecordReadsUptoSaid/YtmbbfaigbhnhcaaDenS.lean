/-
  Open orders in which blocks are made at any place among effects: told with what is made already as a variable.
-/
import Derived.Test.YtmbbfaigbhnhcaaDenT
set_option linter.unusedSimpArgs false
set_option linter.unusedVariables false
namespace Go.Den
variable {ds : List Deferred}

/-- Blocks that may be made here, each at most once, in any order; then what follows. -/
def FlN (objs : List Obj) (K : List (Option Addr) → World → Prop) : Nat → List (Option Addr) → World → Prop
  | 0, ys, w => K ys w
  | n + 1, ys, w => K ys w ∧ ∀ i o, objs[i]? = some o → ys[i]? = some none → FlN objs K n (ys.set i (some ⟨w.heap.size, 0, none⟩)) (w.alloc o)

def ptrKs (n : Nat) : List Kd := List.replicate n .p

def FlS (fs : List (Obj × Option Addr)) (w : World) (K : Fn (fs.map fun _ => Kd.p) (World → Prop)) : Prop :=
  FlN (fs.map (·.1)) (fun ys w => viewL (fs.map fun _ => Kd.p) (ys.map Value.pointer) (fun r => r w) K) fs.length (fs.map (·.2)) w

/-- Once it is made. -/
def Need (y : Option Addr) (K : Addr → Prop) : Prop :=
  match y with
  | some a => K a
  | none => True

/-- A block that may be made at any place: its operation, what it holds, what is yielded, where that is put, whether it is made. -/
structure FlI where
  idx : Nat
  obj : Obj
  val : Addr → Value
  dst : Nat
  y : Option Addr

def flAct (P : Program) (op : Op) (ρ : Operand → Option Value) (K : Obj → (Addr → Value) → Prop) : Prop :=
  match op with
  | .alloc el =>
    match P.info? el with
    | some i => match i.zero with
      | some z => K (.cells z.cells el) fun a => .pointer (some a)
      | none => False
    | none => False
  | .box el x =>
    match ρ x with
    | some v => dCells P el v fun cs => K (.cells cs.toArray el) fun a => .pointer (some a)
    | none => False
  | .buildSlice t len parts =>
    match P.underlying t, mapO ρ (parts.toList.map (·.2)) with
    | some (.slice el), some vs => match P.info? el with
      | some inf => match inf.zero with
        | some z => cond (Nat.beq len 0) (match parts.toList with
            | [] => K (.cells #[] el) fun a => .slice (some a) 0 0
            | _ => False) <| cond (Nat.ble (len * inf.size) 1000000 && Nat.beq z.cells.size inf.size && !Nat.beq (len * inf.size) 0)
            (dFill P ((List.range len).map fun i => (i * inf.size, inf.size, el)) (zrow z.cells.toList len) ((parts.toList.map (·.1)).zip vs) fun cs =>
              K (.cells cs.toArray el) fun a => .slice (some a) len len) False
        | none => False
      | none => False
    | _, _ => False
  | .makeMap t r =>
    match r with
    | none => K (.map #[] 0) fun a => .map (some a.block)
    | some x => match P.underlying t, ρ x with
      | some (.map _ _), some (.int _ _) => K (.map #[] 0) fun a => .map (some a.block)
      | _, _ => False
  | .makeSlice t x y =>
    match P.underlying t, ρ x, ρ y with
    | some (.slice el), some (.int _ l), some (.int _ c) => match P.info? el with
      | some inf => match inf.zero with
        | some z => cond (Nat.beq z.cells.size inf.size && !Nat.beq inf.size 0)
            (0 ≤ l ∧ l ≤ c ∧ c ≤ 281474976710656 ∧ inf.bytes * c ≤ 281474976710656 ∧ K (.cells (zrow z.cells.toList c.toNat).toArray el) fun a => .slice (some a) l.toNat c.toNat) False
        | none => False
      | none => False
    | _, _, _ => False
  | _ => False

inductive Itm where
  | ro (i : Nat)
  | eff (i : Nat)
  | settle (i : Nat)

def actAll (P : Program) (N : Nat) (fl : FEnv) : List Row → Env → List FlI → (Env → List FlI → Prop) → Prop
  | [], l, pend, K => K l pend
  | x :: r, l, pend, K => match x.o.guard, x.o.dst with
    | none, some d => cond (Nat.blt d N && flFree fl d)
        (flAct P x.o.op (look l fl []) fun obj val => actAll P N fl r ((d, none) :: l) (pend ++ [⟨x.idx, obj, val, d, none⟩]) K) False
    | _, _ => False

def upd : List FlI → List Value → List FlI
  | p :: ps, .pointer y :: vs => { p with y := y } :: upd ps vs
  | ps, _ => ps

def isOn (mask : Nat) (x : Row) : Bool := Nat.beq (x.anc ||| mask) mask

def gap (P : Program) (N : Nat) (fl : FEnv) (mask : Nat) (wait : List Row) (pend : List FlI) (l : Env) (w : World) (K : List FlI → Env → World → Prop) : Prop :=
  actAll P N fl (wait.filter (isOn mask)) l pend fun l1 pend1 => match pend1 with
    | [] => K [] l1 w
    | p :: ps => FlS ((p :: ps).map fun p => (p.obj, p.y)) w (curry _ fun cs w1 => K (upd (p :: ps) cs) l1 w1)

def dFl (P : Program) (N : Nat) (ops : Array Oper) (split : Bool) (rows : List Row) : List Itm → Nat → List Row → List FlI → Env → FEnv → CEnv → World → (Env → World → Prop) → Prop
  | [], _, wait, pend, l, _, _, w, K => match wait, pend with
    | [], [] => K l w
    | _, _ => False
  | .ro i :: r, mask, wait, pend, l, fl, C, w, K => match rows[i]? with
    | some x => dStep P N ops split (itOf x) l fl C w fun l' fl' C' w' => dFl P N ops split rows r (mask ||| 2 ^ i) wait pend l' fl' C' w' K
    | none => False
  | .eff i :: r, mask, wait, pend, l, fl, C, w, K => match rows[i]? with
    | some x => gap P N fl mask wait pend l w fun pend1 l1 w1 =>
        dStep P N ops split (itOf x) l1 fl C w1 fun l' fl' C' w' => dFl P N ops split rows r (mask ||| 2 ^ i) (wait.filter fun y => !isOn mask y) pend1 l' fl' C' w' K
    | none => False
  | .settle i :: r, mask, wait, pend, l, fl, C, w, K =>
    gap P N fl mask wait pend l w fun pend1 l1 w1 => match pend1.find? fun p => Nat.beq p.idx i with
      | some p => Need p.y fun ad => dFl P N ops split rows r (mask ||| 2 ^ i) (wait.filter fun y => !isOn mask y) (pend1.filter fun p => !Nat.beq p.idx i) ((p.dst, some (p.val ad)) :: l1) fl C w1 K
      | none => False

/-! ### The list of items -/

/-- Effects in text order; what reads as early as it may; a block is settled ahead of the first that waits for it. -/
def isFloat (rows : List Row) (x : Row) : Bool :=
  !x.ro && isAlloc x.o.op && x.o.guard.isNone && rows.any fun y => !y.ro && !Nat.beq y.idx x.idx && !Nat.testBit x.anc y.idx && !Nat.testBit y.anc x.idx

def settles (fls : List Nat) (done : Nat) (x : Row) : List Nat := fls.filter fun i => Nat.testBit x.anc i && !Nat.testBit done i

def mkItems (rows : List Row) (fls : List Nat) : Nat → Nat → List Itm
  | 0, _ => []
  | f + 1, done =>
    match rows.find? (fun x => x.ro && !Nat.testBit done x.idx && isOn done x) with
    | some x => .ro x.idx :: mkItems rows fls f (done ||| 2 ^ x.idx)
    | none => match rows.find? (fun x => !x.ro && !(fls.any fun i => Nat.beq i x.idx) && !Nat.testBit done x.idx && Nat.beq (x.anc ||| done ||| (fls.foldl (fun s i => s ||| 2 ^ i) 0)) (done ||| (fls.foldl (fun s i => s ||| 2 ^ i) 0))) with
      | some x => match settles fls done x with
        | i :: _ => .settle i :: mkItems rows fls f (done ||| 2 ^ i)
        | [] => .eff x.idx :: mkItems rows fls f (done ||| 2 ^ x.idx)
      | none => match fls.find? (fun i => !Nat.testBit done i) with
        | some i => .settle i :: mkItems rows fls f (done ||| 2 ^ i)
        | none => []

section
variable {P : Program} {e : Operand → Value} {ρ : Operand → Option Value}

theorem of_flAct (hρ : ∀ x v, ρ x = some v → e x = v) {op : Op} {ty : TypeId} {K : Obj → (Addr → Value) → Prop} (h : flAct P op ρ K)
    (dst : Option Tmp) (pos : String) (after : Array Edge) (g : Option (Nat × Bool)) :
    ∃ obj val, (∀ w, (execOp e ⟨dst, op, ty, pos, after, g⟩).run P w = .ok (.value (val ⟨w.heap.size, 0, none⟩)) (w.alloc obj)) ∧ K obj val := by
  unfold flAct at h
  split at h
  · rename_i el
    split at h
    · rename_i i hi
      split at h
      · rename_i z hz
        refine ⟨_, _, fun w => ?_, h⟩
        simp [execOp, Instr.alloc, zeroValue, typeInfo, hi, hz, newVar, newRow]
      · exact h.elim
    · exact h.elim
  · rename_i el x
    split at h
    · rename_i v hv
      have h1 := of_dCells h
      refine ⟨_, _, fun w => ?_, h1⟩
      simp [execOp, Instr.box, newVar, newRow, hρ _ _ hv]
    · exact h.elim
  · rename_i t len parts
    split at h
    · rename_i el vs hu hm
      split at h
      · rename_i inf hi
        split at h
        · rename_i z hz
          cases hb0 : Nat.beq len 0 with
          | true =>
            rw [hb0] at h
            simp only [cond_true] at h
            obtain rfl := Nat.eq_of_beq_eq_true hb0
            split at h
            · rename_i hp
              have hp' : parts = #[] := Array.ext' (by simpa using hp)
              subst hp'
              refine ⟨_, _, fun w => ?_, h⟩
              have e0 : Array.range 0 = #[] := rfl
              simp [execOp, Instr.buildSlice, run_underlying hu, sizeOf, typeInfo, hi, Instr.fill, newRow, e0]
            · exact h.elim
          | false =>
          rw [hb0] at h
          simp only [cond_false] at h
          cases hb : (Nat.ble (len * inf.size) 1000000 && Nat.beq z.cells.size inf.size && !Nat.beq (len * inf.size) 0) with
          | false => rw [hb] at h; exact h.elim
          | true =>
            rw [hb] at h
            simp only [cond_true] at h
            simp only [Bool.and_eq_true, Bool.not_eq_true'] at hb
            obtain ⟨⟨hb1, hb2⟩, hb3⟩ := hb
            have hle : len * inf.size ≤ 1000000 := Nat.le_of_ble_eq_true hb1
            have hsz : z.cells.size = inf.size := Nat.eq_of_beq_eq_true hb2
            have hnz : len * inf.size ≠ 0 := by intro h0; rw [h0] at hb3; cases hb3
            obtain ⟨cs, hc, hK⟩ := of_dFill h
            have hc' := fill_mono (F' := fun i => some (i * inf.size, inf.size)) (by
              intro i x hx
              simp only [Option.map_eq_some_iff] at hx
              obtain ⟨y, hy, rfl⟩ := hx
              simp only [List.getElem?_map, Option.map_eq_some_iff] at hy
              obtain ⟨j, hj, rfl⟩ := hy
              obtain ⟨hlt, hj'⟩ := List.getElem?_eq_some_iff.1 hj
              simp only [List.getElem_range] at hj'
              subst hj'
              rfl) hc
            have e1 := of_mapO hρ hm
            have hparts : (parts.map fun (i, x) => (i, e x)).toList = (parts.toList.map (·.1)).zip vs := by
              rw [← e1]
              simp only [Array.toList_map, List.map_map]
              generalize parts.toList = ps
              induction ps with
              | nil => rfl
              | cons p ps ih => simp [ih]
            have hrow := zrow_eq (z := z.cells) len
            rw [hsz] at hrow
            refine ⟨_, _, fun w => ?_, hK⟩
            have h24 : ¬ (len * inf.size > 2 ^ 24) := by
              have : (2 : Nat) ^ 24 = 16777216 := by decide
              omega
            simp only [execOp, Instr.buildSlice, Sem.run_bind, run_underlying hu, Result.andThen_ok, sizeOf, typeInfo, run_program, hi, Sem.run_pure, if_neg h24, if_neg hnz, zeroValue, hz, hsz, hrow, hparts, hc', newRow,
              run_newObj, World.alloc_eq, Array.toArray_toList]
        · exact h.elim
      · exact h.elim
    · exact h.elim
  · rename_i t r
    split at h
    · refine ⟨_, _, fun w => ?_, h⟩
      simp [execOp, Instr.makeMap]
    · rename_i x
      split at h
      · rename_i k el kk n hu h1
        refine ⟨_, _, fun w => ?_, h⟩
        simp [execOp, Instr.makeMap, run_underlying hu, hρ _ _ h1, asInt, asIntOf]
      · exact h.elim
  · rename_i t x y
    split at h
    · rename_i el k l k' c hu h1 h2
      split at h
      · rename_i inf hi
        split at h
        · rename_i z hz
          cases hb : (Nat.beq z.cells.size inf.size && !Nat.beq inf.size 0) with
          | false => rw [hb] at h; exact h.elim
          | true =>
            rw [hb] at h
            simp only [cond_true] at h
            simp only [Bool.and_eq_true, Bool.not_eq_true'] at hb
            obtain ⟨c1, c2, c3, c4, hK⟩ := h
            refine ⟨_, _, fun w => ?_, hK⟩
            have := run_makeSlice (P := P) (w := w) (k := k) (k' := k') hu hi hz (Nat.eq_of_beq_eq_true hb.1) (by intro h0; rw [h0] at hb; exact absurd hb.2 (by decide)) c1 c2 c3 c4
            simp [execOp, hρ _ _ h1, hρ _ _ h2, this]
        · exact h.elim
      · exact h.elim
    · exact h.elim
  · exact h.elim

theorem FlN_done {objs : List Obj} {K : List (Option Addr) → World → Prop} : ∀ {n : Nat} {ys : List (Option Addr)} {w : World}, FlN objs K n ys w → K ys w
  | 0, _, _, h => h
  | _ + 1, _, _, h => h.1

end

section
variable {P : Program} {N : Nat} {ops : Array Oper}

theorem row_step (hP : OkP P) (hs : Region.noSelect ops = true) {Q : Exit → Act → World → Prop} (hQ : ∀ c a w, ¬ Q (.panic c) a w)
    (as : List Nat) (has : as = ancL ops.toList []) (rows : List Row) (hrows : rows = rowsOf P 0 ops.toList as) {x : Row} {i done m : Nat} {C : CEnv} {a : Act} {w : World} {G : Env → FEnv → CEnv → World → Prop}
    (hri : rows[i]? = some x) (hdone : ∀ j, done.testBit j = true → j < ops.size ∧ as.getD j 0 ||| done = done) (hsub : x.anc ||| done = done) (hb0 : done.testBit x.idx = false) (ys : List Row)
    (hys : ∀ y ∈ rows, done.testBit y.idx = false → y.idx ≠ x.idx → y ∈ ys) (hC : ∀ x ∈ C, holdAt w x.2 ∧ (loadsOf P rows).testBit x.1 = true) (hst : Step ds P N ops (itOf x) a C w G)
    (ih : ∀ {v : Value} {l : Env} {fl : FEnv} {C' : CEnv} {w' : World}, (∀ x ∈ C', holdAt w' x.2 ∧ (loadsOf P rows).testBit x.1 = true) → EnvOk ds N (a.put x.o.dst v) l → FlOk (a.put x.o.dst v) fl → G l fl C' w' →
      wpAnyE P .any ops as Q C' m (bitsA ops.size (done ||| 2 ^ x.idx)) (a.put x.o.dst v) w') :
    (x.ro = true → mixTail P ops x ys = true → wpAnyE P .any ops as Q C (m + 1) (bitsA ops.size done) a w) ∧
    (x.ro = false → tailE (loadsOf P rows) x ys = true → wpOp P ops Q x.idx (fun a' w' => Gd P ops as C x.idx w w' ∧ wpAnyE P .any ops as Q C m ((bitsA ops.size done).setIfInBounds x.idx true) a' w') a w) := by
    have rowFact : ∀ y ∈ rowsOf P 0 ops.toList as, ops[y.idx]? = some y.o ∧ as[y.idx]? = some y.anc ∧ y.dir = dirOf y.o.after.toList ∧ y.ro = dRoOk P y.o.op ∧ y.hd = headOp P y.o := by
      intro y hy
      obtain ⟨j, h1, h2, h3, h4⟩ := rowsOf_mem hy
      rw [Nat.zero_add] at h3
      rw [h3]
      exact ⟨by simpa using h1, h2, h4⟩
    obtain ⟨h0, hax, hdir, hxro, hxhd⟩ := rowFact x (by rw [← hrows]; exact List.mem_of_getElem? hri)
    have haxD : as.getD x.idx 0 = x.anc := by simp [hax]
    have hklt : x.idx < ops.size := (Array.getElem?_eq_some_iff.1 h0).1
    have hanc : ∀ j oj, ops[j]? = some oj → as[j]? = some (maskOf (as.take j) oj.after.toList) := by
      intro j oj hj
      have := ancL_get ops.toList [] j oj (by simpa using hj)
      rw [has]
      simpa using this
    have hancD : ∀ j oj, ops[j]? = some oj → as.getD j 0 = maskOf (as.take j) oj.after.toList := fun j oj hj => by simp [hanc j oj hj]
    have hready : x.idx ∈ Region.ready .any ops (bitsA ops.size done) := by
      refine mem_ready.2 ⟨by rw [bitsA_getD, if_pos hklt]; exact hb0, x.o, h0, fun e he hbe => ?_⟩
      have h2 : x.anc.testBit e.on = true := by
        rw [← haxD, hancD _ _ h0]
        exact maskOf_has hbe _ _ (.inl (by simpa using he))
      have h3 := sub_bits hsub h2
      rw [bitsA_getD, if_pos (hdone _ h3).1]
      exact h3
    have hlater : ∀ j oj, j ≠ x.idx → ops[j]? = some oj → done.testBit j = false → ∃ y ∈ ys, y.idx = j ∧ y.o = oj ∧ y.anc = as.getD j 0 ∧ y.dir = dirOf oj.after.toList ∧ y.hd = headOp P oj := by
      intro j oj hne hj hun
      have hjlt := (Array.getElem?_eq_some_iff.1 hj).1
      have hjr : j < rows.length := by
        rw [hrows, rowsOf_length P _ _ _ (by rw [has, ancL_len])]; simpa using hjlt
      obtain ⟨y, hy⟩ : ∃ y, rows[j]? = some y := ⟨_, List.getElem?_eq_getElem hjr⟩
      have hmem : y ∈ rows := List.mem_of_getElem? hy
      have hidx : y.idx = j := by
        rw [hrows] at hy
        have := rowsOf_get P _ _ _ _ _ hy
        omega
      obtain ⟨g1, g2, g3, g4, g5⟩ := rowFact y (by rw [← hrows]; exact hmem)
      rw [hidx] at g1 g2
      have e : y.o = oj := Option.some.inj (g1.symm.trans hj)
      refine ⟨y, ?_, hidx, e, by simp [g2], by rw [g3, e], by rw [g5, e]⟩
      exact hys y hmem (by rw [hidx]; exact hun) (by rw [hidx]; exact hne)
    -- where a set of bits holds whom an operation waits for
    have through : ∀ i oi, ops[i]? = some oi → (as.getD i 0).testBit x.idx = true → ∃ e ∈ oi.after, Region.binds .any e = true ∧ (e.on = x.idx ∨ (as.getD e.on 0).testBit x.idx = true) := by
      intro i oi hi hb
      rw [hancD i oi hi] at hb
      rcases maskOf_bit _ _ hb with h5 | ⟨e, he, hbe, h5⟩
      · simp at h5
      · refine ⟨e, by simpa using he, hbe, h5.imp id fun h6 => ?_⟩
        have h7 : (as.take i).getD e.on 0 = as.getD e.on 0 ∨ (as.take i).getD e.on 0 = 0 := by
          simp only [List.getD_eq_getElem?_getD, List.getElem?_take]
          split
          · exact .inl rfl
          · exact .inr rfl
        rcases h7 with h7 | h7
        · rw [h7] at h6; exact h6
        · rw [h7] at h6; simp at h6
    refine ⟨fun hxro' hb2 => ?_, fun hxro' htl => ?_⟩
    · have hro : dRoOk P x.o.op = true := hxro ▸ hxro'
      have go : ∀ (v : Value) (S : World → Prop) (C' : CEnv), (∀ j, j < ops.size → j ≠ x.idx → done.testBit j = false → (as.getD j 0).testBit x.idx = false → ∀ w w', Gd P ops as C' j w w' → S w → S w') →
          YieldsIf P ops S x.o v a → S w → wpAnyE P .any ops as Q C' m (bitsA ops.size (done ||| 2 ^ x.idx)) (a.put x.o.dst v) w →
          wpAnyE P .any ops as Q C' (m + 1) (bitsA ops.size done) a w := by
        intro v S C' hpres hy hS hrest'
        refine wpAnyE_first (S := S) (without as ops.size x.idx) h0 (Region.noSelect_spec hs) (fun c a w hq => absurd hq (hQ c _ w)) ?_ (by simp [without]) _ _ _ _ ?_ ?_ ?_ hready hy hS (by rw [bitsA_set]; exact hrest')
        · intro j hj
          obtain ⟨h1, oj, h2, h3⟩ := mem_ready.1 hj
          have hjlt := (Array.getElem?_eq_some_iff.1 h2).1
          rw [without_getD, if_pos hjlt] at h1
          by_cases hjk : j = x.idx
          · exact hjk
          · simp only [hjk, decide_false, Bool.not_false, Bool.true_and, Bool.not_eq_false'] at h1
            obtain ⟨e, he, hbe, h5⟩ := through j oj h2 h1
            have h6 := h3 e he hbe
            rw [without_getD] at h6
            split at h6
            · simp only [Bool.and_eq_true, Bool.not_eq_true', decide_eq_false_iff_not] at h6
              rcases h5 with h5 | h5
              · exact absurd h5 h6.1
              · rw [h6.2] at h5; cases h5
            · cases h6
        · intro j oj hj hjk hun hno
          have hjlt := (Array.getElem?_eq_some_iff.1 hj).1
          rw [bitsA_getD, if_pos hjlt] at hun
          obtain ⟨y, hy', e1, e2, e3, e4, e5⟩ := hlater j oj hjk hj hun
          have hmt := mixTail_mem hb2 hy'
          rw [hxro'] at hmt
          simp only [Bool.and_eq_true, Bool.or_eq_true] at hmt
          rcases hmt.1 with h1 | h1
          · rw [e4] at h1
            rcases dirOf_bit _ _ h1 with h2 | ⟨e, he, hbe, h2⟩
            · simp at h2
            · exact absurd h2 (hno e (by simpa using he) hbe)
          · rw [e2] at h1; exact h1
        · intro j hj
          rw [bitsA_getD] at hj
          split at hj
          · rename_i hjlt
            rw [without_getD, if_pos hjlt]
            have hne : j ≠ x.idx := by intro e; rw [e, hb0] at hj; cases hj
            have : (as.getD j 0).testBit x.idx = false := by
              cases hbit : (as.getD j 0).testBit x.idx with
              | false => rfl
              | true =>
                have := sub_bits (hdone j hj).2 hbit
                rw [hb0] at this; cases this
            simp only [hne, decide_false, Bool.not_false, Bool.true_and, Bool.not_eq_true', this]
          · cases hj
        · intro j hj hLj
          rw [bitsA_getD] at hj
          split at hj
          · rename_i hjlt
            rw [without_getD, if_pos hjlt] at hLj
            simp only [Bool.and_eq_true, Bool.not_eq_true', decide_eq_false_iff_not] at hLj
            exact hpres j hjlt hLj.1 hj hLj.2
          · cases hj
      rcases hst with ⟨v, l', fl', fp, hfp, h1, h01, h2, h3, h4, h5⟩ | ⟨l', fl', h1, h3, h4, h5⟩ | ⟨hn, h1, h2⟩
      · have hCx : ∀ y ∈ C, y ∈ addC (itOf x) fp C := fun y hy => by simp [addC, itOf, hy]
        refine wpAnyE_mono hCx _ _ _ _ ?_
        refine go v (OKw P x.o.op fp w) _ ?_ (.inl ⟨h1, h2⟩) ?_ (ih ?_ h3 h4 h5)
        · intro j hjlt hjk hun hanc0 w1 w2 hg hok
          rcases hok with hok | ⟨hok, hx⟩ | ⟨hok, hc⟩
          · exact .inl hok
          · have hj' : ops[j]? = some ops[j] := by simp [hjlt]
            obtain ⟨y, hy', e1, e2, e3, e4, e5⟩ := hlater j ops[j] hjk hj' hun
            have hmt := mixTail_mem hb2 hy'
            rw [hxro'] at hmt
            simp only [Bool.and_eq_true, Bool.or_eq_true] at hmt
            rcases hmt.2 with ((h7 | h7) | h7) | h7
            · exact .inl h7
            · rw [hok] at h7; cases h7
            · rw [e3, hanc0] at h7; cases h7
            · refine .inr (.inl ⟨hok, hx.trans (hg.1 ?_)⟩)
              simp only [headAt, hj']
              rw [← e5]; exact h7
          · refine .inr (.inr ⟨hok, fun z hz => ?_⟩)
            exact hg.2 (x.idx, z) (by simp [addC, itOf, hz]) hanc0 (hc z hz)
        · unfold OKw
          cases hb : isLoad P x.o.op with
          | true => exact .inr (.inr ⟨rfl, h01⟩)
          | false => exact .inr (.inl ⟨rfl, Ext.refl w⟩)
        · intro y hy
          simp only [addC, itOf, List.mem_append, List.mem_map] at hy
          rcases hy with ⟨z, hz, rfl⟩ | hy
          · exact ⟨h01 z hz, loadsOf_bit (List.mem_of_getElem? hri) (by
              cases hll : isLoad P x.o.op with
              | true => rfl
              | false => rw [hfp hll] at hz; cases hz)⟩
          · exact hC y hy
      · exact go undef (fun _ => True) C (fun _ _ _ _ _ _ _ _ _ => trivial) (.inr ⟨h1, rfl⟩) trivial (ih hC h3 h4 h5)
      · have hn' : dRoOk P x.o.op = false := hn
        rw [hro] at hn'; cases hn'
    · have hro : dRoOk P x.o.op = false := hxro ▸ hxro'
      unfold wpOp
      simp only [h0]
      rw [bitsA_set]
      rcases hst with ⟨v, l', fl', fp, hfp, h1, h01, h2, h3, h4, h5⟩ | ⟨l', fl', h1, h3, h4, h5⟩ | ⟨hn, h1, h2⟩
      · have h1' : Region.wanted x.o (yielded ops a.tmps) = true := h1
        rw [if_pos h1']
        refine .inl ?_
        unfold Oper.wp
        have h2' : (execOp a.eval x.o).run P w = .ok (.value v) w := h2 w (by
          unfold OKw
          cases hb : isLoad P (itOf x).o.op with
          | true => exact .inr (.inr ⟨rfl, h01⟩)
          | false => exact .inr (.inl ⟨rfl, Ext.refl w⟩))
        rw [h2']
        refine ⟨Gd.refl, ?_⟩
        refine wpAnyE_mono (C' := addC (itOf x) fp C) (fun y hy => by simp [addC, itOf, hy]) _ _ _ _ (ih ?_ h3 h4 h5)
        intro y hy
        simp only [addC, itOf, List.mem_append, List.mem_map] at hy
        rcases hy with ⟨z, hz, rfl⟩ | hy
        · exact ⟨h01 z hz, loadsOf_bit (List.mem_of_getElem? hri) (by
            cases hll : isLoad P x.o.op with
            | true => rfl
            | false => rw [hfp hll] at hz; cases hz)⟩
        · exact hC y hy
      · have h1' : Region.wanted x.o (yielded ops a.tmps) = false := h1
        rw [if_neg (by rw [h1']; simp)]
        exact ⟨Gd.refl, ih hC h3 h4 h5⟩
      · have h1' : Region.wanted x.o (yielded ops a.tmps) = true := h1
        rw [if_pos h1']
        refine .inl (Oper.wp_mono ?_ (h2 Q))
        rintro a' w' ⟨hxx, hkp, v, l', fl', rfl, h3, h4, h5⟩
        have hcells : ∀ y ∈ C, (as.getD x.idx 0).testBit y.1 = false → holdAt w' y.2 := by
          intro y hy hb
          cases hal : isAlloc x.o.op with
          | true => exact (hxx hal).hold (hC y hy).1
          | false =>
            have := hkp hal
            simp only [keepOk, itOf] at this
            exact this y hy (by rw [← haxD]; exact hb)
        refine ⟨⟨fun hh => hxx ?_, fun y hy hb _ => hcells y hy hb⟩, ?_⟩
        · have : headOp P x.o = true := by simpa [headAt, h0] using hh
          have hn' : dRoOk P x.o.op = false := hn
          simp only [headOp, hn', Bool.false_or] at this
          exact this
        · refine wpAnyE_more (C2 := dropC (itOf x) C) trivial _ _ _ _ ?_ (ih ?_ h3 h4 h5)
          · intro y hy
            cases hb : x.anc.testBit y.1 with
            | false => exact .inl (by simp [dropC, itOf, hy, hb])
            | true =>
              refine .inr fun i hi => ?_
              rw [bitsA_getD] at hi
              split at hi
              · rename_i hilt
                simp only [Nat.testBit_or, Bool.or_eq_false_iff, Nat.testBit_two_pow, decide_eq_false_iff_not] at hi
                have hi' : ops[i]? = some ops[i] := by simp [hilt]
                obtain ⟨z, hz, e1, e2, e3, e4, e5⟩ := hlater i ops[i] (fun e => hi.2 e.symm) hi' hi.1
                have hmt := List.all_eq_true.1 htl z hz
                simp only [Bool.or_eq_true] at hmt
                rcases hmt with hmt | hmt
                · left; simp only [headAt, hi']; rw [← e5]; exact hmt
                · right
                  rw [← e3]
                  exact sub_bits (Nat.eq_of_beq_eq_true hmt) (by rw [Nat.testBit_and, hb, (hC y hy).2]; rfl)
              · cases hi
          · intro y hy
            simp only [dropC, itOf, List.mem_filter, Bool.not_eq_true'] at hy
            exact ⟨hcells y hy.1 (by rw [haxD]; exact hy.2), (hC y hy.1).2⟩

end

/-! ### Checks, and soundness -/

def bitsOf (is : List Nat) : Nat := is.foldl (fun s i => s ||| 2 ^ i) 0

/-- The blocks that may be made at this point. -/
def pendAt (rows : List Row) (fls : List Nat) (mask : Nat) : List Nat := fls.filter fun i => !Nat.testBit mask i && match rows[i]? with
  | some y => isOn mask y
  | none => false

def has (is : List Nat) (j : Nat) : Bool := is.any fun i => Nat.beq i j

def coverF (rows : List Row) (pm : List Nat) (mask on : Nat) (e : Option Nat) : Bool :=
  rows.all fun y => Nat.testBit mask y.idx || has pm y.idx || (match e with
    | some i => Nat.beq i y.idx
    | none => false) || !isOn on y

def flCheck (P : Program) (ops : Array Oper) (rows : List Row) (fls : List Nat) : List Itm → Nat → Bool
  | [], mask => (List.range ops.size).all fun i => Nat.testBit mask i
  | .ro i :: r, mask => match rows[i]? with
    | some x => x.ro && isOn mask x && !Nat.testBit mask i && mixTail P ops x (rest rows mask i) && flCheck P ops rows fls r (mask ||| 2 ^ i)
    | none => false
  | .eff i :: r, mask => match rows[i]? with
    | some x => !x.ro && !has fls i && isOn mask x && !Nat.testBit mask i && tailE (loadsOf P rows) x (rest rows mask i) &&
        coverF rows (pendAt rows fls mask) mask (mask ||| bitsOf (pendAt rows fls mask)) (some i) && flCheck P ops rows fls r (mask ||| 2 ^ i)
    | none => false
  | .settle i :: r, mask => has (pendAt rows fls mask) i &&
      coverF rows (pendAt rows fls mask) mask (mask ||| bitsOf ((pendAt rows fls mask).filter fun j => !Nat.beq j i)) none && flCheck P ops rows fls r (mask ||| 2 ^ i)

/-- The operations that may float: their places are written by no one else, and nobody writes what they look at once they may be made. -/
def floatsOk (ops : Array Oper) (rows : List Row) (fls : List Nat) : Bool :=
  fls.all fun i => match rows[i]? with
    | some x => isAlloc x.o.op && !x.ro && rows.all fun y => Nat.beq y.idx i || ((match x.o.dst, y.o.dst with
        | some d, some d' => !Nat.beq d d'
        | _, _ => true) && (Nat.testBit x.anc y.idx || match y.o.dst with
        | some d => !(x.o.looksAt ops).contains d
        | none => true) && (match y.o.guard, x.o.dst with
        | some (j, _), some d => (match (ops[j]?).bind (·.dst) with
          | some d' => !Nat.beq d d'
          | none => true)
        | _, _ => true))
    | none => false

def remOf (n D : Nat) : Nat := ((List.range n).filter fun j => !Nat.testBit D j).length

theorem filter_lt {l : List Nat} {p q : Nat → Bool} {i : Nat} (hi : i ∈ l) (hp : p i = true) (hq : q i = false) (h : ∀ j, q j = true → p j = true) : (l.filter q).length + 1 ≤ (l.filter p).length := by
  induction l with
  | nil => cases hi
  | cons x l ih =>
    have hle : (l.filter q).length ≤ (l.filter p).length := by
      clear ih hi
      induction l with
      | nil => simp
      | cons y l ih =>
        simp only [List.filter_cons]
        cases hqy : q y with
        | true => rw [h y hqy]; simpa using ih
        | false => cases hpy : p y <;> simp <;> omega
    rcases List.mem_cons.1 hi with rfl | hi
    · simp only [List.filter_cons, hp, hq, if_true, Bool.false_eq_true, if_false, List.length_cons]; omega
    · have := ih hi
      simp only [List.filter_cons]
      cases hqx : q x with
      | true => rw [h x hqx]; simp; omega
      | false => cases hpx : p x <;> simp <;> omega

theorem rem_set {n D i : Nat} (hi : i < n) (h : D.testBit i = false) : remOf n (D ||| 2 ^ i) + 1 ≤ remOf n D := by
  refine filter_lt (List.mem_range.2 hi) (by simp [h]) (by simp [Nat.testBit_or]) ?_
  intro j hj
  simp only [Nat.testBit_or, Bool.not_or, Bool.and_eq_true] at hj
  exact hj.1


/-! ### What a step leaves of the environment -/

theorem putK_keep {N : Nat} {fl : FEnv} {dst : Option Nat} {l : Env} {v : Value} {K R : Env → Prop} (hR : ∀ l', (∀ t, dst ≠ some t → gt l' t = gt l t) → R l') :
    putK N fl dst l v K = putK N fl dst l v (fun l' => K l' ∧ R l') := by
  cases dst with
  | none => simp [putK, hR l (fun _ _ => rfl)]
  | some d =>
    simp only [putK]
    congr 1
    apply propext
    refine ⟨fun h => ⟨h, hR _ fun t ht => ?_⟩, fun h => h.1⟩
    simp only [gt]
    cases hb : Nat.beq d t with
    | false => rfl
    | true => exact absurd (by rw [Nat.eq_of_beq_eq_true hb]) ht

theorem exec1_keep {P : Program} {N : Nat} {it : It} {l : Env} {fl : FEnv} {C : CEnv} {w : World} {K : Env → CEnv → World → Prop} {R : Env → Prop} (hR : ∀ l', (∀ t, it.o.dst ≠ some t → gt l' t = gt l t) → R l') :
    exec1 P N it l fl C w K = exec1 P N it l fl C w (fun l' C' w' => K l' C' w' ∧ R l') := by
  unfold exec1
  congr 1
  · congr 1
    funext v fp
    rw [putK_keep hR]
  · congr 1
    funext v w'
    congr 1
    rw [putK_keep hR]

/-- Places that neither the operation nor its guard names are as they were. -/
def Kept (ops : Array Oper) (o : Oper) (l : Env) (fl : FEnv) (l' : Env) (fl' : FEnv) : Prop :=
  ∀ t, o.dst ≠ some t → (∀ j want, o.guard = some (j, want) → (ops[j]?).bind (·.dst) ≠ some t) → gt l' t = gt l t ∧ (flFree fl t = true → flFree fl' t = true)

theorem gt_cons {l : Env} {g t : Nat} {v : Option Value} (h : g ≠ t) : gt ((g, v) :: l) t = gt l t := by
  simp only [gt]
  cases hb : Nat.beq g t with
  | false => rfl
  | true => exact absurd (Nat.eq_of_beq_eq_true hb) h

theorem lookFlags_free {fl : FEnv} {t g : Nat} {G : List (Nat × Bool)} (h : flFree fl t = true) (hg : lookFlags fl g = some G) : ∀ x ∈ G, x.1 ≠ t := by
  induction fl with
  | nil => simp [lookFlags] at hg
  | cons y fl ih =>
    obtain ⟨d, G', v⟩ := y
    simp only [lookFlags] at hg
    have hall := of_flFree h
    cases hb : Nat.beq d g with
    | true =>
      rw [hb] at hg
      simp only [cond_true, Option.some.injEq] at hg
      subst hg
      exact (hall (d, G', v) (by simp)).2
    | false =>
      rw [hb] at hg
      refine ih ?_ hg
      unfold flFree at h ⊢
      simp only [List.all_cons, Bool.and_eq_true] at h
      exact h.2

theorem dStep_keep {P : Program} {N : Nat} {ops : Array Oper} {split : Bool} {it : It} {l : Env} {fl : FEnv} {C : CEnv} {w : World} {G : Env → FEnv → CEnv → World → Prop} (h : dStep P N ops split it l fl C w G) :
    dStep P N ops split it l fl C w (fun l' fl' C' w' => G l' fl' C' w' ∧ Kept ops it.o l fl l' fl') := by
  have base : ∀ l', (∀ t, it.o.dst ≠ some t → gt l' t = gt l t) → Kept ops it.o l fl l' fl := fun l' h t h1 _ => ⟨h t h1, id⟩
  unfold dStep at h ⊢
  split at h
  · rename_i hg
    rw [exec1_keep base] at h
    simp only [hg]
    exact h
  · rename_i j want hg
    simp only [hg]
    split at h
    · exact h.elim
    · rename_i g hgd
      have base2 : ∀ (b : Bool) l', (∀ t, it.o.dst ≠ some t → gt l' t = gt ((g, some (.bool b)) :: l) t) → Kept ops it.o l fl l' fl := fun b l' h t h1 h2 =>
        ⟨(h t h1).trans (gt_cons (by intro e; subst e; exact h2 j want hg hgd)), id⟩
      split at h
      · split at h
        · rename_i c hc
          split at h
          · rename_i hct
            rw [if_pos hct]
            cases want with
            | true => simp only [cond_true] at h ⊢; rw [exec1_keep (base2 true)] at h; exact h
            | false => simp only [cond_false] at h ⊢; rw [putK_keep (base2 true)] at h; exact h
          · rename_i hct
            rw [if_neg hct]
            cases want with
            | true => simp only [cond_true] at h ⊢; rw [putK_keep (base2 false)] at h; exact h
            | false => simp only [cond_false] at h ⊢; rw [exec1_keep (base2 false)] at h; exact h
        · rename_i hc
          rw [putK_keep base] at h
          exact h
        · exact h.elim
      · split at h
        · exact h.elim
        · rename_i G' hG
          split at h
          · rename_i v d hv hd
            cases hb : (Nat.blt d N && flFree fl d && ((g, want) :: G').all fun x => !(Nat.beq x.1 d)) with
            | false => rw [hb] at h; exact h.elim
            | true =>
              rw [hb] at h
              simp only [cond_true] at h ⊢
              refine ⟨h, fun t h1 h2 => ⟨gt_cons (by intro e; subst e; exact h1 hd), fun hf => ?_⟩⟩
              have hgt : g ≠ t := by intro e; subst e; exact h2 j want hg hgd
              have hdt : d ≠ t := by intro e; subst e; exact h1 hd
              have hGt : ∀ x ∈ G', x.1 ≠ t := by
                unfold flagsOf at hG
                split at hG
                · simp only [Option.some.injEq] at hG; subst hG; simp
                · exact lookFlags_free hf hG
                · cases hG
              unfold flFree at hf ⊢
              simp only [List.all_cons, hf, Bool.and_true]
              have nb : ∀ {x y : Nat}, x ≠ y → Nat.beq x y = false := fun {x y} hne => by
                cases hb : Nat.beq x y with
                | false => rfl
                | true => exact absurd (Nat.eq_of_beq_eq_true hb) hne
              simp only [nb hdt, nb hgt, Bool.not_false, Bool.true_and]
              exact List.all_eq_true.2 fun x hx => by rw [nb (hGt x hx)]; rfl
          · exact h.elim

/-! ### The state between items -/

section
variable {P : Program} {N : Nat} {ops : Array Oper}

/-- A block that waits to be made, or is made. -/
def PIn (P : Program) (rows : List Row) (fls : List Nat) (mask : Nat) (a : Act) (p : FlI) : Prop :=
  ∃ x, rows[p.idx]? = some x ∧ x.o.dst = some p.dst ∧ x.o.guard = none ∧ has fls p.idx = true ∧ isOn mask x = true ∧
    (p.y = none → ∀ w, (execOp a.eval x.o).run P w = .ok (.value (p.val ⟨w.heap.size, 0, none⟩)) (w.alloc p.obj)) ∧ (∀ ad, p.y = some ad → a.tmps[p.dst]? = some (p.val ad))

structure FSt (ds : List Deferred) (P : Program) (N : Nat) (ops : Array Oper) (as : List Nat) (rows : List Row) (fls : List Nat) (a0 : Act) (mask D : Nat) (wait : List Row) (pend : List FlI) (l : Env) (fl : FEnv) (C : CEnv) (w : World) (a : Act) : Prop where
  env : EnvOk ds N a l
  flo : FlOk a fl
  cells : ∀ x ∈ C, holdAt w x.2 ∧ (loadsOf P rows).testBit x.1 = true
  pin : ∀ p ∈ pend, PIn P rows fls mask a p
  free : ∀ p ∈ pend, (∀ v, gt l p.dst ≠ some (some v)) ∧ flFree fl p.dst = true ∧ p.dst < N
  nod : (pend.map (·.idx)).Nodup
  pm : ∀ p ∈ pend, mask.testBit p.idx = false
  sub : ∀ j, D.testBit j = true ↔ mask.testBit j = true ∨ ∃ p ∈ pend, p.idx = j ∧ p.y ≠ none
  dn : ∀ j, D.testBit j = true → j < ops.size ∧ as.getD j 0 ||| D = D
  wt : ∀ y ∈ wait, rows[y.idx]? = some y ∧ has fls y.idx = true ∧ mask.testBit y.idx = false ∧ ∀ p ∈ pend, p.idx ≠ y.idx
  wnd : (wait.map (·.idx)).Nodup
  all : ∀ i, has fls i = true → mask.testBit i = false → i < rows.length → (∃ p ∈ pend, p.idx = i) ∨ ∃ y ∈ wait, y.idx = i
  off : Off (dstsOf ops.toList) a0 a

theorem EnvOk.shadow {a : Act} {l : Env} {d : Nat} (h : EnvOk ds N a l) : EnvOk ds N a ((d, none) :: l) := by
  refine ⟨h.size, h.defers, fun t u hu => ?_⟩
  simp only [gt] at hu
  cases hb : Nat.beq d t with
  | true => rw [hb] at hu; simp at hu
  | false => rw [hb] at hu; exact h.at' t u hu

/-- The blocks that may be made from here on. -/
theorem act_ok {as : List Nat} {rows : List Row} {fls : List Nat} {a0 : Act} {mask D : Nat} {fl : FEnv} {C : CEnv} {w : World} {a : Act} {K : Env → List FlI → Prop} :
    ∀ (on off : List Row) (pend : List FlI) (l : Env), (∀ y ∈ on, isOn mask y = true) → FSt ds P N ops as rows fls a0 mask D (on ++ off) pend l fl C w a → actAll P N fl on l pend K →
      ∃ l1 more, K l1 (pend ++ more) ∧ FSt ds P N ops as rows fls a0 mask D off (pend ++ more) l1 fl C w a ∧ (∀ y ∈ on, ∃ p ∈ pend ++ more, p.idx = y.idx)
  | [], off, pend, l, _, hst, h => ⟨l, [], by simpa [actAll] using h, by simpa using hst, by simp⟩
  | x :: on, off, pend, l, hon, hst, h => by
    simp only [actAll] at h
    split at h
    · rename_i d hg hd
      cases hb : (Nat.blt d N && flFree fl d) with
      | false => rw [hb] at h; exact h.elim
      | true =>
        rw [hb] at h
        simp only [cond_true] at h
        simp only [Bool.and_eq_true] at hb
        obtain ⟨⟨dst, op, ty, pos, after, guard⟩, idx, anc, dir, ro, hdd⟩ := x
        simp only at hg hd
        subst hd
        subst hg
        obtain ⟨obj, val, hrun, h⟩ := of_flAct (ty := ty) (fun x v hx => of_look hst.env hst.flo holds_nil x v hx) h (some d) pos after none
        have hw := hst.wt _ (List.mem_append_left _ List.mem_cons_self)
        have hnd := hst.wnd
        simp only [List.cons_append, List.map_cons, List.nodup_cons] at hnd
        have hst' : FSt ds P N ops as rows fls a0 mask D (on ++ off) (pend ++ [⟨idx, obj, val, d, none⟩]) ((d, none) :: l) fl C w a := by
          refine { env := hst.env.shadow, flo := hst.flo, cells := hst.cells, pin := ?_, free := ?_, nod := ?_, pm := ?_, sub := ?_, dn := hst.dn, wt := ?_, wnd := hnd.2, all := ?_, off := hst.off }
          · intro p hp
            rcases List.mem_append.1 hp with hp | hp
            · exact hst.pin p hp
            · simp only [List.mem_singleton] at hp
              subst hp
              exact ⟨_, hw.1, rfl, rfl, hw.2.1, hon _ (by simp), fun _ => hrun, fun ad h => by cases h⟩
          · intro p hp
            rcases List.mem_append.1 hp with hp | hp
            · refine ⟨fun v => ?_, (hst.free p hp).2⟩
              by_cases e : d = p.dst
              · subst e; simp [gt]
              · rw [gt_cons e]; exact (hst.free p hp).1 v
            · simp only [List.mem_singleton] at hp
              subst hp
              exact ⟨fun v => by simp [gt], hb.2, by simpa [Nat.blt_eq] using hb.1⟩
          · rw [List.map_append, List.nodup_append]
            refine ⟨hst.nod, by simp, ?_⟩
            rintro x hx y hy rfl
            simp only [List.map_cons, List.map_nil, List.mem_singleton] at hy
            obtain ⟨p, hp, he⟩ := List.mem_map.1 hx
            exact hw.2.2.2 p hp (he.trans hy)
          · intro p hp
            rcases List.mem_append.1 hp with hp | hp
            · exact hst.pm p hp
            · simp only [List.mem_singleton] at hp
              subst hp
              exact hw.2.2.1
          · intro j
            rw [hst.sub j]
            refine or_congr Iff.rfl ⟨?_, ?_⟩
            · rintro ⟨p, hp, h⟩; exact ⟨p, List.mem_append_left _ hp, h⟩
            · rintro ⟨p, hp, h1, h2⟩
              rcases List.mem_append.1 hp with hp | hp
              · exact ⟨p, hp, h1, h2⟩
              · simp only [List.mem_singleton] at hp
                subst hp
                exact absurd rfl h2
          · intro y hy
            obtain ⟨h1, h2, h3, h4⟩ := hst.wt y (List.mem_cons_of_mem _ hy)
            refine ⟨h1, h2, h3, fun p hp => ?_⟩
            rcases List.mem_append.1 hp with hp | hp
            · exact h4 p hp
            · simp only [List.mem_singleton] at hp
              subst hp
              intro e
              exact hnd.1 (List.mem_map.2 ⟨y, hy, e.symm⟩)
          · intro i h1 h2 h3
            rcases hst.all i h1 h2 h3 with ⟨p, hp, he⟩ | ⟨y, hy, he⟩
            · exact .inl ⟨p, List.mem_append_left _ hp, he⟩
            · rcases List.mem_cons.1 hy with rfl | hy
              · exact .inl ⟨_, List.mem_append_right _ (List.mem_singleton.2 rfl), he⟩
              · exact .inr ⟨y, hy, he⟩
        obtain ⟨l1, more, hK, hs, hcov⟩ := act_ok on off _ _ (fun y hy => hon y (List.mem_cons_of_mem _ hy)) hst' h
        refine ⟨l1, [⟨idx, obj, val, d, none⟩] ++ more, by simpa using hK, by simpa using hs, ?_⟩
        intro y hy
        rcases List.mem_cons.1 hy with rfl | hy
        · exact ⟨⟨idx, obj, val, d, none⟩, by simp, rfl⟩
        · obtain ⟨p, hp, he⟩ := hcov y hy
          exact ⟨p, by simpa using hp, he⟩
    · exact h.elim

end

section
variable {P : Program} {N : Nat} {ops : Array Oper}

theorem floats_spec {rows : List Row} {fls : List Nat} (h : floatsOk ops rows fls = true) {i : Nat} {x : Row} (hi : has fls i = true) (hx : rows[i]? = some x) :
    isAlloc x.o.op = true ∧ x.ro = false ∧ ∀ y ∈ rows, y.idx ≠ i → (∀ d d', x.o.dst = some d → y.o.dst = some d' → d ≠ d') ∧ (x.anc.testBit y.idx = true ∨ ∀ d, y.o.dst = some d → d ∉ x.o.looksAt ops) ∧ (∀ j want d, y.o.guard = some (j, want) → x.o.dst = some d → (ops[j]?).bind (·.dst) ≠ some d) := by
  obtain ⟨j, hj, he⟩ := List.any_eq_true.1 hi
  have := List.all_eq_true.1 h j hj
  rw [Nat.eq_of_beq_eq_true he, hx] at this
  simp only [Bool.and_eq_true, Bool.not_eq_true'] at this
  obtain ⟨⟨h1, h2⟩, h3⟩ := this
  refine ⟨h1, h2, fun y hy hne => ?_⟩
  have h4 := List.all_eq_true.1 h3 y hy
  simp only [Bool.or_eq_true, Bool.and_eq_true] at h4
  rcases h4 with h4 | ⟨⟨h4, h5⟩, h6⟩
  · exact absurd (Nat.eq_of_beq_eq_true h4) hne
  · refine ⟨fun d d' hd hd' => ?_, ?_, fun j want d hg hd he => ?_⟩
    · rw [hd, hd'] at h4
      intro e
      subst e
      simp at h4
    · rcases h5 with h5 | h5
      · exact .inl h5
      · refine .inr fun d hd => ?_
        rw [hd] at h5
        simpa using h5
    · rw [hg, hd] at h6
      simp only [he] at h6
      simp at h6


theorem PIn.put {rows : List Row} {fls : List Nat} {mask : Nat} {a : Act} {p : FlI} {o : Oper} {v : Value} (hs : Region.noSelect ops = true) (h : PIn P rows fls mask a p)
    (hops : ∀ (i : Nat) (x : Row), rows[i]? = some x → ops[i]? = some x.o) (hd : o.dst ≠ some p.dst) (hl : ∀ x : Row, rows[p.idx]? = some x → ∀ d, o.dst = some d → d ∉ x.o.looksAt ops) : PIn P rows fls mask (a.put o.dst v) p := by
  obtain ⟨x, h1, h2, h3, h4, h5, h6, h7⟩ := h
  refine ⟨x, h1, h2, h3, h4, h5, fun hy w => ?_, fun ad had => ?_⟩
  · rw [execOp_put (ops := ops) x.o (fun cs b => Region.noSelect_spec hs p.idx x.o cs b (hops _ _ h1)) a o.dst v (hl x h1)]
    exact h6 hy w
  · cases hod : o.dst with
    | none => exact h7 ad had
    | some d =>
      rw [put_get, if_neg]
      · exact h7 ad had
      · intro e; apply hd; rw [hod, e]


theorem EnvOk.putFree {a : Act} {l : Env} {d : Nat} {v : Value} (h : EnvOk ds N a l) (hf : ∀ u, gt l d ≠ some (some u)) : EnvOk ds N (a.put (some d) v) l := by
  refine ⟨by simp [Act.put, h.size], by simp [Act.put, h.defers], fun t u hu => ?_⟩
  rw [put_get, if_neg]
  · exact h.at' t u hu
  · intro e; subst e; exact hf u hu

theorem nod_ne {pend : List FlI} (h : (pend.map (·.idx)).Nodup) {j k : Nat} {q p : FlI} (hj : pend[j]? = some q) (hk : pend[k]? = some p) (hne : j ≠ k) : q.idx ≠ p.idx := by
  have hp := List.pairwise_iff_getElem.1 h
  obtain ⟨hjl, rfl⟩ := List.getElem?_eq_some_iff.1 hj
  obtain ⟨hkl, rfl⟩ := List.getElem?_eq_some_iff.1 hk
  rcases Nat.lt_or_gt_of_ne hne with h1 | h1
  · have := hp j k (by simpa using hjl) (by simpa using hkl) h1
    simpa using this
  · have := hp k j (by simpa using hkl) (by simpa using hjl) h1
    intro e
    simp [e] at this

theorem fl_exec (hs : Region.noSelect ops = true) {as : List Nat} (has0 : as = ancL ops.toList []) {rows : List Row} (hrows : rows = rowsOf P 0 ops.toList as) {fls : List Nat} (hfo : floatsOk ops rows fls = true) {a0 : Act} {mask D : Nat} {wait : List Row} {pend : List FlI}
    {l : Env} {fl : FEnv} {C : CEnv} {w : World} {a : Act} (hst : FSt ds P N ops as rows fls a0 mask D wait pend l fl C w a) (hmD : ∀ x : Row, isOn mask x = true → x.anc ||| D = D) {k : Nat} {p : FlI} (hk : pend[k]? = some p) (hy : p.y = none)
    {Q : Exit → Act → World → Prop} {R : Act → World → Prop}
    (H : ∀ a', FSt ds P N ops as rows fls a0 mask (D ||| 2 ^ p.idx) wait (pend.set k { p with y := some ⟨w.heap.size, 0, none⟩ }) l fl C (w.alloc p.obj) a' → R a' (w.alloc p.obj)) :
    wpOp P ops Q p.idx (fun a' w' => Gd P ops as C p.idx w w' ∧ R a' w') a w := by
  have hp : p ∈ pend := List.mem_of_getElem? hk
  have hkl : k < pend.length := (List.getElem?_eq_some_iff.1 hk).1
  obtain ⟨x, h1, h2, h3, h4, h5, h6, h7⟩ := hst.pin p hp
  have hops : ∀ (i : Nat) (x : Row), rows[i]? = some x → ops[i]? = some x.o := fun i x hx => (row_fact hrows hx).2.1
  have hspec := floats_spec hfo h4 h1
  have hfree := hst.free p hp
  unfold wpOp
  simp only [hops _ _ h1]
  rw [if_pos (by simp [Region.wanted, h3])]
  refine .inl ?_
  unfold Oper.wp
  rw [h6 hy w]
  have hext : Ext w (w.alloc p.obj) := Ext.alloc w p.obj
  refine ⟨⟨fun _ => hext, fun y hy _ hc => hext.hold hc⟩, ?_⟩
  rw [h2]
  refine H _ { env := hst.env.putFree hfree.1, flo := hst.flo.put hfree.2.1, cells := fun y hy => ⟨hext.hold (hst.cells y hy).1, (hst.cells y hy).2⟩, pin := ?_, free := ?_, nod := ?_, pm := ?_, sub := ?_, dn := ?_, wt := ?_, wnd := hst.wnd, all := ?_, off := ?_ }
  · intro q hq
    have hne : ∀ q ∈ pend, q.idx ≠ p.idx → PIn P rows fls mask (a.put (some p.dst) (p.val ⟨w.heap.size, 0, none⟩)) q := by
      intro q hq hne
      obtain ⟨xq, g1, g2, g3, g4, g5, g6, g7⟩ := hst.pin q hq
      have hx := row_fact hrows h1
      have hxq := row_fact hrows g1
      have := PIn.put (o := x.o) (v := p.val ⟨w.heap.size, 0, none⟩) hs (hst.pin q hq) hops (by
        rw [h2]
        intro e
        simp only [Option.some.injEq] at e
        exact (hspec.2.2 xq (List.mem_of_getElem? g1) (by rw [hxq.1]; exact hne)).1 _ _ h2 g2 e) (by
        intro x' hx' d hd
        obtain rfl := Option.some.inj (g1.symm.trans hx')
        rcases ((floats_spec hfo g4 g1).2.2 x (List.mem_of_getElem? h1) (by rw [hx.1]; exact fun e => hne e.symm)).2.1 with h | h
        · exfalso
          rw [hx.1] at h
          have := sub_bits (Nat.eq_of_beq_eq_true g5) h
          rw [hst.pm p hp] at this; cases this
        · exact h d hd)
      rw [h2] at this
      exact this
    obtain ⟨j, hj⟩ := List.getElem?_of_mem hq
    by_cases ejk : k = j
    · subst ejk
      rw [List.getElem?_set_self hkl] at hj
      obtain rfl := Option.some.inj hj
      refine ⟨x, h1, h2, h3, h4, h5, (fun h => by cases h), fun ad had => ?_⟩
      · simp only [Option.some.injEq] at had
        subst had
        rw [put_get, if_pos rfl, if_pos (by rw [hst.env.size]; exact hfree.2.2)]
    · rw [List.getElem?_set_ne ejk] at hj
      exact hne q (List.mem_of_getElem? hj) (nod_ne hst.nod hj hk (fun e => ejk e.symm))
  · intro q hq
    obtain ⟨j, hj⟩ := List.getElem?_of_mem hq
    by_cases ejk : k = j
    · subst ejk
      rw [List.getElem?_set_self hkl] at hj
      obtain rfl := Option.some.inj hj
      exact hfree
    · rw [List.getElem?_set_ne ejk] at hj
      exact hst.free q (List.mem_of_getElem? hj)
  · have : (pend.set k { p with y := some ⟨w.heap.size, 0, none⟩ }).map (·.idx) = pend.map (·.idx) := by
      rw [List.map_set]
      apply List.ext_getElem?
      intro j
      rw [List.getElem?_set]
      split
      · rename_i e; subst e; rw [if_pos (by simpa using hkl), List.getElem?_map, hk]; rfl
      · rfl
    rw [this]; exact hst.nod
  · intro q hq
    obtain ⟨j, hj⟩ := List.getElem?_of_mem hq
    by_cases ejk : k = j
    · subst ejk
      rw [List.getElem?_set_self hkl] at hj
      obtain rfl := Option.some.inj hj
      exact hst.pm p hp
    · rw [List.getElem?_set_ne ejk] at hj
      exact hst.pm q (List.mem_of_getElem? hj)
  · intro j
    rw [Nat.testBit_or, Bool.or_eq_true, hst.sub j, Nat.testBit_two_pow, decide_eq_true_eq]
    constructor
    · rintro ((h | ⟨q, hq, h1, h2⟩) | rfl)
      · exact .inl h
      · obtain ⟨jj, hj⟩ := List.getElem?_of_mem hq
        by_cases e : k = jj
        · subst e
          rw [hk] at hj
          obtain rfl := Option.some.inj hj
          exact absurd hy h2
        · exact .inr ⟨q, List.mem_of_getElem? (i := jj) (by rw [List.getElem?_set_ne e]; exact hj), h1, h2⟩
      · exact .inr ⟨_, List.mem_of_getElem? (i := k) (List.getElem?_set_self hkl), rfl, by simp⟩
    · rintro (h | ⟨q, hq, h1, h2⟩)
      · exact .inl (.inl h)
      · obtain ⟨jj, hj⟩ := List.getElem?_of_mem hq
        by_cases e : k = jj
        · subst e
          rw [List.getElem?_set_self hkl] at hj
          obtain rfl := Option.some.inj hj
          exact .inr h1
        · rw [List.getElem?_set_ne e] at hj
          exact .inl (.inr ⟨q, List.mem_of_getElem? hj, h1, h2⟩)
  · intro j hj
    rw [Nat.testBit_or, Bool.or_eq_true, Nat.testBit_two_pow, decide_eq_true_eq] at hj
    rcases hj with hj | rfl
    · obtain ⟨g1, g2⟩ := hst.dn j hj
      exact ⟨g1, by rw [← Nat.or_assoc, g2]⟩
    · have hx := row_fact hrows h1
      refine ⟨(Array.getElem?_eq_some_iff.1 hx.2.1).1, ?_⟩
      have : as.getD p.idx 0 = x.anc := by simp [hx.2.2]
      rw [this, ← Nat.or_assoc, hmD x h5]
  · intro y hyw
    obtain ⟨g1, g2, g3, g4⟩ := hst.wt y hyw
    refine ⟨g1, g2, g3, fun q hq => ?_⟩
    obtain ⟨j, hj⟩ := List.getElem?_of_mem hq
    by_cases ejk : k = j
    · subst ejk
      rw [List.getElem?_set_self hkl] at hj
      obtain rfl := Option.some.inj hj
      exact g4 p hp
    · rw [List.getElem?_set_ne ejk] at hj
      exact g4 q (List.mem_of_getElem? hj)
  · intro i g1 g2 g3
    rcases hst.all i g1 g2 g3 with ⟨q, hq, he⟩ | h
    · obtain ⟨j, hj⟩ := List.getElem?_of_mem hq
      by_cases ejk : k = j
      · subst ejk
        rw [hk] at hj
        obtain rfl := Option.some.inj hj
        exact .inl ⟨_, List.mem_of_getElem? (i := k) (List.getElem?_set_self hkl), he⟩
      · exact .inl ⟨q, List.mem_of_getElem? (i := j) (by rw [List.getElem?_set_ne ejk]; exact hj), he⟩
    · exact .inr h
  · refine hst.off.trans ?_
    have := off_one (ops := ops) (o := x.o) (a := a) (v := p.val ⟨w.heap.size, 0, none⟩) (by
      obtain ⟨hh, he⟩ := Array.getElem?_eq_some_iff.1 (hops _ _ h1)
      rw [← he]; simp)
    rw [h2] at this
    exact this


theorem upd_set {base : List FlI} {p : FlI} {ad : Addr} : ∀ {pend : List FlI} {k : Nat}, upd base ((pend.map (·.y)).map Value.pointer) = pend → pend[k]? = some p →
    upd base (((pend.set k { p with y := some ad }).map (·.y)).map Value.pointer) = pend.set k { p with y := some ad } := by
  induction base with
  | nil =>
    intro pend k h hk
    simp only [upd] at h
    subst h
    simp at hk
  | cons b base ih =>
    intro pend k h hk
    cases pend with
    | nil => simp at hk
    | cons q pend =>
      simp only [List.map_cons, upd, List.cons.injEq] at h
      obtain ⟨h1, h2⟩ := h
      cases k with
      | zero =>
        simp only [List.getElem?_cons_zero, Option.some.injEq] at hk
        subst hk
        simp only [List.set_cons_zero, List.map_cons, upd, List.cons.injEq]
        refine ⟨?_, h2⟩
        rw [← h1]
      | succ k =>
        simp only [List.set_cons_succ, List.map_cons, upd, List.cons.injEq]
        exact ⟨h1, ih h2 (by simpa using hk)⟩


def isNone' (p : FlI) : Bool := p.y.isNone

theorem set_none_lt {ad : Addr} : ∀ {pend : List FlI} {k : Nat} {p : FlI}, pend[k]? = some p → p.y = none →
    ((pend.set k { p with y := some ad }).filter isNone').length + 1 = (pend.filter isNone').length
  | [], k, p, hk, _ => by simp at hk
  | q :: pend, 0, p, hk, hy => by
    simp only [List.getElem?_cons_zero, Option.some.injEq] at hk
    subst hk
    simp [isNone', hy]
  | q :: pend, k + 1, p, hk, hy => by
    have := set_none_lt (ad := ad) (pend := pend) (k := k) (p := p) (by simpa using hk) hy
    simp only [List.set_cons_succ, List.filter_cons]
    split
    · simp only [List.length_cons]; omega
    · exact this

/-- Where blocks may be made: each way to go on is met. -/
theorem gap_ok (hs : Region.noSelect ops = true) {as : List Nat} (has0 : as = ancL ops.toList []) {rows : List Row} (hrows : rows = rowsOf P 0 ops.toList as) {fls : List Nat} (hfo : floatsOk ops rows fls = true) {a0 : Act} {mask : Nat} {wait : List Row}
    {base : List FlI} {l : Env} {fl : FEnv} {C : CEnv} {Q : Exit → Act → World → Prop} {K' : List (Option Addr) → World → Prop}
    (hmask : ∀ x : Row, isOn mask x = true → ∀ D, (∀ j, mask.testBit j = true → D.testBit j = true) → x.anc ||| D = D)
    (H : ∀ pend D w a m, upd base ((pend.map (·.y)).map Value.pointer) = pend → pend.map (·.idx) = base.map (·.idx) → K' (pend.map (·.y)) w → FSt ds P N ops as rows fls a0 mask D wait pend l fl C w a → remOf ops.size D ≤ m →
      wpAnyE P .any ops as Q C m (bitsA ops.size D) a w ∨ ((∃ i, i ∈ Region.ready .any ops (bitsA ops.size D)) ∧ ∀ i ∈ Region.ready .any ops (bitsA ops.size D), (∃ p ∈ pend, p.idx = i ∧ p.y = none) ∨
        ∀ m', m = m' + 1 → wpOp P ops Q i (fun a' w' => Gd P ops as C i w w' ∧ wpAnyE P .any ops as Q C m' ((bitsA ops.size D).setIfInBounds i true) a' w') a w)) :
    ∀ (n : Nat) (pend : List FlI) (D : Nat) (w : World) (a : Act) (m : Nat), FlN (base.map (·.obj)) K' n (pend.map (·.y)) w → pend.map (·.obj) = base.map (·.obj) → upd base ((pend.map (·.y)).map Value.pointer) = pend → pend.map (·.idx) = base.map (·.idx) →
      (pend.filter isNone').length ≤ n → FSt ds P N ops as rows fls a0 mask D wait pend l fl C w a → remOf ops.size D ≤ m → wpAnyE P .any ops as Q C m (bitsA ops.size D) a w := by
  have common : ∀ (n : Nat) (pend : List FlI) (D : Nat) (w : World) (a : Act) (m : Nat), FlN (base.map (·.obj)) K' n (pend.map (·.y)) w → pend.map (·.obj) = base.map (·.obj) → upd base ((pend.map (·.y)).map Value.pointer) = pend → pend.map (·.idx) = base.map (·.idx) →
      FSt ds P N ops as rows fls a0 mask D wait pend l fl C w a → remOf ops.size D ≤ m →
      (∀ (k : Nat) (p : FlI), pend[k]? = some p → p.y = none → ∀ m', m = m' + 1 → p.idx ∈ Region.ready .any ops (bitsA ops.size D) → wpOp P ops Q p.idx (fun a' w' => Gd P ops as C p.idx w w' ∧ wpAnyE P .any ops as Q C m' ((bitsA ops.size D).setIfInBounds p.idx true) a' w') a w) →
      wpAnyE P .any ops as Q C m (bitsA ops.size D) a w := by
    intro n pend D w a m hF ho hu hi hst hm hfl
    rcases H pend D w a m hu hi (FlN_done hF) hst hm with h | ⟨⟨i0, hi0⟩, h⟩
    · exact h
    · obtain ⟨h1, oi, h2, _⟩ := mem_ready.1 hi0
      have hlt := (Array.getElem?_eq_some_iff.1 h2).1
      rw [bitsA_getD, if_pos hlt] at h1
      have hpos := rem_set hlt h1
      obtain ⟨m', rfl⟩ : ∃ m', m = m' + 1 := ⟨m - 1, by omega⟩
      refine ⟨fun h1 => (by rw [h1] at hi0; cases hi0), fun i hi => ?_⟩
      rcases h i hi with ⟨p, hp, rfl, hy⟩ | h
      · obtain ⟨k, hk⟩ := List.getElem?_of_mem hp
        exact hfl k p hk hy m' rfl hi
      · exact h m' rfl
  intro n
  induction n with
  | zero =>
    intro pend D w a m hF ho hu hi hn hst hm
    refine common 0 pend D w a m hF ho hu hi hst hm fun k p hk hy => ?_
    have : p ∈ pend.filter isNone' := List.mem_filter.2 ⟨List.mem_of_getElem? hk, by simp [isNone', hy]⟩
    have := List.length_pos_of_mem this
    omega
  | succ n ih =>
    intro pend D w a m hF ho hu hi hn hst hm
    refine common (n + 1) pend D w a m hF ho hu hi hst hm fun k p hk hy m' hm' hr => ?_
    subst hm'
    have hp : p ∈ pend := List.mem_of_getElem? hk
    obtain ⟨x, g1, _⟩ := hst.pin p hp
    have hx := row_fact hrows g1
    have hlt : p.idx < ops.size := (Array.getElem?_eq_some_iff.1 hx.2.1).1
    have hnd : D.testBit p.idx = false := by
      obtain ⟨h1, _⟩ := mem_ready.1 hr
      rw [bitsA_getD, if_pos hlt] at h1
      exact h1
    have hrem := rem_set hlt hnd
    refine fl_exec hs has0 hrows hfo hst (fun x hx => hmask x hx D fun j hj => (hst.sub j).2 (.inl hj)) hk hy fun a' hst' => ?_
    rw [bitsA_set]
    have hF' := hF.2 k p.obj (by rw [← ho]; simp [hk]) (by simp [hk, hy])
    refine ih _ _ _ a' m' ?_ ?_ (upd_set hu hk) ?_ ?_ hst' (by omega)
    · rw [List.map_set]; exact hF'
    · rw [List.map_set, ← ho]
      apply List.ext_getElem?
      intro j
      rw [List.getElem?_set]
      split
      · rename_i e; subst e; rw [if_pos (by simpa using (List.getElem?_eq_some_iff.1 hk).1), List.getElem?_map, hk]; rfl
      · rfl
    · rw [List.map_set, ← hi]
      apply List.ext_getElem?
      intro j
      rw [List.getElem?_set]
      split
      · rename_i e; subst e; rw [if_pos (by simpa using (List.getElem?_eq_some_iff.1 hk).1), List.getElem?_map, hk]; rfl
      · rfl
    · have := set_none_lt (ad := ⟨w.heap.size, 0, none⟩) hk hy
      omega


theorem viewL_curry {R : Type} {f : R → Prop} : ∀ (fs : List (Obj × Option Addr)) (ys : List (Option Addr)) (F : List Value → R), ys.length = fs.length →
    viewL (fs.map fun _ => Kd.p) (ys.map Value.pointer) f (curry (fs.map fun _ => Kd.p) F) = f (F (ys.map Value.pointer))
  | [], [], F, _ => rfl
  | [], _ :: _, F, h => by simp at h
  | _ :: _, [], F, h => by simp at h
  | _ :: fs, y :: ys, F, h => by
    have := viewL_curry (f := f) fs ys (fun vs => F (Value.pointer y :: vs)) (by simpa using h)
    exact this


theorem FSt.perm {as : List Nat} {rows : List Row} {fls : List Nat} {a0 : Act} {mask D : Nat} {wait wait' : List Row} {pend : List FlI} {l : Env} {fl : FEnv} {C : CEnv} {w : World} {a : Act} (hp : wait.Perm wait') (hst : FSt ds P N ops as rows fls a0 mask D wait pend l fl C w a) : FSt ds P N ops as rows fls a0 mask D wait' pend l fl C w a :=
  { env := hst.env, flo := hst.flo, cells := hst.cells, pin := hst.pin, free := hst.free, nod := hst.nod, pm := hst.pm, sub := hst.sub, dn := hst.dn
    wt := fun y hy => hst.wt y (hp.mem_iff.2 hy)
    wnd := (hp.map _).nodup_iff.1 hst.wnd
    all := fun i h1 h2 h3 => (hst.all i h1 h2 h3).imp id fun ⟨y, hy, he⟩ => ⟨y, hp.mem_iff.1 hy, he⟩
    off := hst.off }

theorem PIn.mono {rows : List Row} {fls : List Nat} {mask mask' : Nat} {a : Act} {p : FlI} (h : PIn P rows fls mask a p) (hm : ∀ x : Row, isOn mask x = true → isOn mask' x = true) : PIn P rows fls mask' a p := by
  obtain ⟨x, h1, h2, h3, h4, h5, h6⟩ := h
  exact ⟨x, h1, h2, h3, h4, hm x h5, h6⟩

theorem isOn_or {mask m : Nat} {x : Row} (h : isOn mask x = true) : isOn (mask ||| m) x = true := by
  unfold isOn at h ⊢
  have := Nat.eq_of_beq_eq_true h
  rw [← Nat.or_assoc, this]
  simp

/-- After an operation of the list. -/
theorem FSt.next (hs : Region.noSelect ops = true) {as : List Nat} (has0 : as = ancL ops.toList []) {rows : List Row} (hrows : rows = rowsOf P 0 ops.toList as) {fls : List Nat} (hfo : floatsOk ops rows fls = true) {a0 : Act} {mask D : Nat} {wait : List Row} {pend : List FlI}
    {l l' : Env} {fl fl' : FEnv} {C C' : CEnv} {w w' : World} {a : Act} {i : Nat} {x : Row} {v : Value} (hst : FSt ds P N ops as rows fls a0 mask D wait pend l fl C w a) (hri : rows[i]? = some x) (hnf : has fls i = false) (hD : x.anc ||| D = D) (hmi : mask.testBit i = false)
    (hC : ∀ x ∈ C', holdAt w' x.2 ∧ (loadsOf P rows).testBit x.1 = true) (henv : EnvOk ds N (a.put x.o.dst v) l') (hflo : FlOk (a.put x.o.dst v) fl') (hk : Kept ops x.o l fl l' fl') :
    FSt ds P N ops as rows fls a0 (mask ||| 2 ^ i) (D ||| 2 ^ i) wait pend l' fl' C' w' (a.put x.o.dst v) := by
  have hops : ∀ (i : Nat) (x : Row), rows[i]? = some x → ops[i]? = some x.o := fun i x hx => (row_fact hrows hx).2.1
  have hx := row_fact hrows hri
  have hne : ∀ p ∈ pend, i ≠ p.idx := by
    intro p hp e
    obtain ⟨y, h1, h2, h3, h4, _⟩ := hst.pin p hp
    rw [← e, hnf] at h4; cases h4
  have hdst : ∀ p ∈ pend, x.o.dst ≠ some p.dst := by
    intro p hp e
    obtain ⟨y, h1, h2, h3, h4, _⟩ := hst.pin p hp
    exact ((floats_spec hfo h4 h1).2.2 x (List.mem_of_getElem? hri) (by rw [hx.1]; exact hne p hp)).1 _ _ h2 e rfl
  have hkeep : ∀ p ∈ pend, gt l' p.dst = gt l p.dst ∧ (flFree fl p.dst = true → flFree fl' p.dst = true) := by
    intro p hp
    refine hk p.dst (hdst p hp) fun j want hg he => ?_
    obtain ⟨y, h1, h2, h3, h4, _⟩ := hst.pin p hp
    exact ((floats_spec hfo h4 h1).2.2 x (List.mem_of_getElem? hri) (by rw [hx.1]; exact hne p hp)).2.2 j want _ hg h2 he
  refine { env := henv, flo := hflo, cells := hC, pin := ?_, free := ?_, nod := hst.nod, pm := ?_, sub := ?_, dn := ?_, wt := ?_, wnd := hst.wnd, all := ?_, off := ?_ }
  · intro p hp
    refine PIn.mono (PIn.put hs (hst.pin p hp) hops (hdst p hp) ?_) (fun x => isOn_or)
    intro y hy d hd
    obtain ⟨y', h1, h2, h3, h4, h5, _⟩ := hst.pin p hp
    obtain rfl := Option.some.inj (h1.symm.trans hy)
    rcases ((floats_spec hfo h4 h1).2.2 x (List.mem_of_getElem? hri) (by rw [hx.1]; exact hne p hp)).2.1 with h | h
    · rw [hx.1] at h
      have := sub_bits (Nat.eq_of_beq_eq_true h5) h
      rw [hmi] at this; cases this
    · exact h d hd
  · intro p hp
    obtain ⟨g1, g2, g3⟩ := hst.free p hp
    obtain ⟨k1, k2⟩ := hkeep p hp
    exact ⟨fun v => by rw [k1]; exact g1 v, k2 g2, g3⟩
  · intro p hp
    rw [Nat.testBit_or, hst.pm p hp, Nat.testBit_two_pow]
    simp [hne p hp]
  · intro j
    rw [Nat.testBit_or, Nat.testBit_or, Bool.or_eq_true, Bool.or_eq_true, hst.sub j]
    constructor
    · rintro ((h | h) | h)
      · exact .inl (.inl h)
      · exact .inr h
      · exact .inl (.inr h)
    · rintro ((h | h) | h)
      · exact .inl (.inl h)
      · exact .inr h
      · exact .inl (.inr h)
  · intro j hj
    rw [Nat.testBit_or, Bool.or_eq_true, Nat.testBit_two_pow, decide_eq_true_eq] at hj
    rcases hj with hj | rfl
    · obtain ⟨g1, g2⟩ := hst.dn j hj
      exact ⟨g1, by rw [← Nat.or_assoc, g2]⟩
    · refine ⟨(Array.getElem?_eq_some_iff.1 hx.2.1).1, ?_⟩
      have : as.getD i 0 = x.anc := by simp [hx.2.2]
      rw [this, ← Nat.or_assoc, hD]
  · intro y hy
    obtain ⟨g1, g2, g3, g4⟩ := hst.wt y hy
    refine ⟨g1, g2, ?_, g4⟩
    rw [Nat.testBit_or, g3, Nat.testBit_two_pow]
    have : i ≠ y.idx := by rintro rfl; rw [g2] at hnf; cases hnf
    simp [this]
  · intro j h1 h2 h3
    rw [Nat.testBit_or, Bool.or_eq_false_iff] at h2
    exact hst.all j h1 h2.1 h3
  · exact hst.off.trans (off_one (by
      obtain ⟨hh, he⟩ := Array.getElem?_eq_some_iff.1 hx.2.1
      rw [← he]; simp))

/-- A block that is made already is one of those that are listed from here on. -/
theorem FSt.settle {as : List Nat} {rows : List Row} (hrows : rows = rowsOf P 0 ops.toList as) {fls : List Nat} (hfo : floatsOk ops rows fls = true) {a0 : Act} {mask D : Nat} {wait : List Row} {pend : List FlI} {l : Env} {fl : FEnv} {C : CEnv} {w : World} {a : Act} (hst : FSt ds P N ops as rows fls a0 mask D wait pend l fl C w a) {p : FlI} (hp : p ∈ pend) {ad : Addr} (hy : p.y = some ad) :
    FSt ds P N ops as rows fls a0 (mask ||| 2 ^ p.idx) D wait (pend.filter fun q => !Nat.beq q.idx p.idx) ((p.dst, some (p.val ad)) :: l) fl C w a := by
  obtain ⟨x, h1, h2, h3, h4, h5, h6, h7⟩ := hst.pin p hp
  have hmem : ∀ q, q ∈ pend.filter (fun q => !Nat.beq q.idx p.idx) ↔ q ∈ pend ∧ q.idx ≠ p.idx := by
    intro q
    rw [List.mem_filter]
    constructor
    · rintro ⟨g1, g2⟩
      refine ⟨g1, fun e => ?_⟩
      rw [e] at g2
      simp at g2
    · rintro ⟨g1, g2⟩
      refine ⟨g1, ?_⟩
      cases hb : Nat.beq q.idx p.idx with
      | false => rfl
      | true => exact absurd (Nat.eq_of_beq_eq_true hb) g2
  have uniq : ∀ q ∈ pend, q.idx = p.idx → q = p := by
    intro q hq he
    obtain ⟨j, hj⟩ := List.getElem?_of_mem hq
    obtain ⟨k, hk⟩ := List.getElem?_of_mem hp
    by_cases e : j = k
    · subst e; exact Option.some.inj (hj.symm.trans hk)
    · exact absurd he (nod_ne hst.nod hj hk e)
  refine { env := ?_, flo := hst.flo, cells := hst.cells, pin := ?_, free := ?_, nod := ?_, pm := ?_, sub := ?_, dn := hst.dn, wt := ?_, wnd := hst.wnd, all := ?_, off := hst.off }
  · refine ⟨hst.env.size, hst.env.defers, fun t u hu => ?_⟩
    simp only [gt] at hu
    cases hb : Nat.beq p.dst t with
    | true =>
      rw [hb] at hu
      simp only [cond_true, Option.some.injEq] at hu
      subst hu
      rw [← Nat.eq_of_beq_eq_true hb]
      exact h7 ad hy
    | false => rw [hb] at hu; exact hst.env.at' t u hu
  · intro q hq
    exact (hst.pin q ((hmem q).1 hq).1).mono (fun x => isOn_or)
  · intro q hq
    obtain ⟨g1, g2⟩ := (hmem q).1 hq
    obtain ⟨k1, k2, k3⟩ := hst.free q g1
    refine ⟨fun v => ?_, k2, k3⟩
    rw [gt_cons]
    · exact k1 v
    · -- other blocks have other places
      intro e
      obtain ⟨y, q1, q2, q3, q4, _⟩ := hst.pin q g1
      have hx := row_fact hrows h1
      exact ((floats_spec hfo q4 q1).2.2 x (List.mem_of_getElem? h1) (by rw [hx.1]; exact fun e => g2 e.symm)).1 _ _ q2 h2 e.symm
  · exact (List.filter_sublist.map _).nodup hst.nod
  · intro q hq
    obtain ⟨g1, g2⟩ := (hmem q).1 hq
    rw [Nat.testBit_or, hst.pm q g1, Nat.testBit_two_pow]
    have : ¬ p.idx = q.idx := fun e => g2 e.symm
    simp [this]
  · intro j
    rw [hst.sub j, Nat.testBit_or, Bool.or_eq_true, Nat.testBit_two_pow, decide_eq_true_eq]
    constructor
    · rintro (h | ⟨q, hq, g1, g2⟩)
      · exact .inl (.inl h)
      · by_cases e : q.idx = p.idx
        · exact .inl (.inr (by rw [← e]; exact g1))
        · exact .inr ⟨q, (hmem q).2 ⟨hq, e⟩, g1, g2⟩
    · rintro ((h | h) | ⟨q, hq, g1, g2⟩)
      · exact .inl h
      · exact .inr ⟨p, hp, h, by rw [hy]; simp⟩
      · exact .inr ⟨q, ((hmem q).1 hq).1, g1, g2⟩
  · intro y hyw
    obtain ⟨g1, g2, g3, g4⟩ := hst.wt y hyw
    refine ⟨g1, g2, ?_, fun q hq => g4 q ((hmem q).1 hq).1⟩
    rw [Nat.testBit_or, g3, Nat.testBit_two_pow]
    have : ¬ p.idx = y.idx := g4 p hp
    simp [this]
  · intro i g1 g2 g3
    rw [Nat.testBit_or, Bool.or_eq_false_iff, Nat.testBit_two_pow, decide_eq_false_iff_not] at g2
    rcases hst.all i g1 g2.1 g3 with ⟨q, hq, he⟩ | h
    · exact .inl ⟨q, (hmem q).2 ⟨hq, fun e => g2.2 (e ▸ he)⟩, he⟩
    · exact .inr h

theorem FlS_cons {p : FlI} {ps : List FlI} {w : World} {K : List FlI → World → Prop} (h : FlS ((p :: ps).map fun p => (p.obj, p.y)) w (curry _ fun cs w1 => K (upd (p :: ps) cs) w1)) :
    FlN ((p :: ps).map (·.obj)) (fun ys w => ys.length = (p :: ps).length → K (upd (p :: ps) (ys.map Value.pointer)) w) (p :: ps).length ((p :: ps).map (·.y)) w := by
  unfold FlS at h
  simp only [List.map_map, List.length_map] at h
  have e1 : (((fun x : Obj × Option Addr => x.fst) ∘ fun p : FlI => (p.obj, p.y)) : FlI → Obj) = (fun p => p.obj) := rfl
  have e2 : (((fun x : Obj × Option Addr => x.snd) ∘ fun p : FlI => (p.obj, p.y)) : FlI → Option Addr) = (fun p => p.y) := rfl
  have mono : ∀ (objs : List Obj) (K K' : List (Option Addr) → World → Prop), (∀ ys w, K ys w → K' ys w) → ∀ (n : Nat) (ys : List (Option Addr)) (w : World), FlN objs K n ys w → FlN objs K' n ys w := by
    intro objs K K' hKK n
    induction n with
    | zero => exact fun ys w h => hKK _ _ h
    | succ n ih => exact fun ys w h => ⟨hKK _ _ h.1, fun i o ho hy => ih _ _ (h.2 i o ho hy)⟩
  refine mono _ _ _ ?_ _ _ _ h
  intro ys w hv hl
  have := viewL_curry (f := fun r : World → Prop => r w) ((p :: ps).map fun p => (p.obj, p.y)) ys (fun cs w1 => K (upd (p :: ps) cs) w1) (by simpa using hl)
  rw [this] at hv
  exact hv

theorem upd_self : ∀ (ps : List FlI), upd ps ((ps.map (·.y)).map Value.pointer) = ps
  | [] => rfl
  | p :: ps => by
    simp only [List.map_cons, upd]
    rw [upd_self ps]

/-- Whoever may come next, where floats may be made. -/
theorem ready_cases (as : List Nat) (has0 : as = ancL ops.toList []) {rows : List Row} (hrows : rows = rowsOf P 0 ops.toList as) {D i : Nat} (hi : i ∈ Region.ready .any ops (bitsA ops.size D)) (hdn : ∀ j, D.testBit j = true → j < ops.size ∧ as.getD j 0 ||| D = D) :
    ∃ y, rows[i]? = some y ∧ y.idx = i ∧ D.testBit i = false ∧ y.anc ||| D = D := by
  obtain ⟨h1, oi, h2, h3⟩ := mem_ready.1 hi
  have hlt := (Array.getElem?_eq_some_iff.1 h2).1
  rw [bitsA_getD, if_pos hlt] at h1
  have hjr : i < rows.length := by
    rw [hrows, rowsOf_length P _ _ _ (by rw [has0, ancL_len])]; simpa using hlt
  obtain ⟨y, hy⟩ : ∃ y, rows[i]? = some y := ⟨_, List.getElem?_eq_getElem hjr⟩
  have hyf := row_fact hrows hy
  refine ⟨y, hy, hyf.1, h1, ?_⟩
  have ho : oi = y.o := Option.some.inj (h2.symm.trans hyf.2.1)
  have hanc : as[i]? = some (maskOf (as.take i) oi.after.toList) := by
    have := ancL_get ops.toList [] i oi (by simpa using h2)
    rw [has0]
    simpa using this
  have he : y.anc = maskOf (as.take i) oi.after.toList := Option.some.inj (hyf.2.2.symm.trans hanc)
  apply Nat.eq_of_testBit_eq
  intro k
  rw [Nat.testBit_or]
  cases hk : y.anc.testBit k with
  | false => simp
  | true =>
    rw [he] at hk
    rcases maskOf_bit _ _ hk with h5 | ⟨e, hem, hbe, h5⟩
    · simp at h5
    · have h6 := h3 e (by simpa using hem) hbe
      rw [bitsA_getD] at h6
      have helt : D.testBit e.on = true := by
        split at h6
        · exact h6
        · cases h6
      rcases h5 with h5 | h5
      · rw [← h5, helt]; rfl
      · have h7 : (as.take i).getD e.on 0 = as.getD e.on 0 ∨ (as.take i).getD e.on 0 = 0 := by
          simp only [List.getD_eq_getElem?_getD, List.getElem?_take]
          split
          · exact .inl rfl
          · exact .inr rfl
        rcases h7 with h7 | h7
        · rw [h7] at h5
          rw [sub_bits (hdn e.on helt).2 h5]; rfl
        · rw [h7] at h5; simp at h5

theorem ready_of_anc (as : List Nat) (has0 : as = ancL ops.toList []) {rows : List Row} (hrows : rows = rowsOf P 0 ops.toList as) {D i : Nat} {y : Row} (hy : rows[i]? = some y) (hD : y.anc ||| D = D) (h0 : D.testBit i = false) (hdn : ∀ j, D.testBit j = true → j < ops.size ∧ as.getD j 0 ||| D = D) :
    i ∈ Region.ready .any ops (bitsA ops.size D) := by
  have hyf := row_fact hrows hy
  have hlt := (Array.getElem?_eq_some_iff.1 hyf.2.1).1
  refine mem_ready.2 ⟨by rw [bitsA_getD, if_pos hlt]; exact h0, y.o, hyf.2.1, fun e he hbe => ?_⟩
  have hanc : as[i]? = some (maskOf (as.take i) y.o.after.toList) := by
    have := ancL_get ops.toList [] i y.o (by simpa using hyf.2.1)
    rw [has0]
    simpa using this
  have he' : y.anc = maskOf (as.take i) y.o.after.toList := Option.some.inj (hyf.2.2.symm.trans hanc)
  have h2 : y.anc.testBit e.on = true := by
    rw [he']
    exact maskOf_has hbe _ _ (.inl (by simpa using he))
  have h3 := sub_bits hD h2
  rw [bitsA_getD, if_pos (hdn _ h3).1]
  exact h3

theorem has_mem {is : List Nat} {j : Nat} (h : has is j = true) : j ∈ is := by
  obtain ⟨k, hk, he⟩ := List.any_eq_true.1 h
  rw [← Nat.eq_of_beq_eq_true he]; exact hk
theorem mem_has {is : List Nat} {j : Nat} (h : j ∈ is) : has is j = true := List.any_eq_true.2 ⟨j, h, by simp⟩

theorem bitsOf_bit {is : List Nat} {j : Nat} (h : j ∈ is) : (bitsOf is).testBit j = true := by
  have key : ∀ (is : List Nat) (s : Nat), (s.testBit j = true ∨ j ∈ is) → (is.foldl (fun s i => s ||| 2 ^ i) s).testBit j = true := by
    intro is
    induction is with
    | nil => intro s h; simpa using h
    | cons i is ih =>
      intro s h
      refine ih _ ?_
      rcases h with h | h
      · exact .inl (by rw [Nat.testBit_or, h]; rfl)
      · rcases List.mem_cons.1 h with rfl | h
        · exact .inl (by rw [Nat.testBit_or, Nat.testBit_two_pow_self]; simp)
        · exact .inr h
  exact key is 0 (.inr h)

theorem anc_up {x : Row} {mask D : Nat} (h : isOn mask x = true) (hs : ∀ j, mask.testBit j = true → D.testBit j = true) : x.anc ||| D = D := by
  have h1 := Nat.eq_of_beq_eq_true h
  apply Nat.eq_of_testBit_eq
  intro k
  rw [Nat.testBit_or]
  cases hk : x.anc.testBit k with
  | false => simp
  | true => rw [hs k (sub_bits h1 hk)]; rfl

theorem on_of {x : Row} {on D : Nat} (h : x.anc ||| D = D) (hs : ∀ j, D.testBit j = true → on.testBit j = true) : isOn on x = true := by
  unfold isOn
  have : x.anc ||| on = on := by
    apply Nat.eq_of_testBit_eq
    intro k
    rw [Nat.testBit_or]
    cases hk : x.anc.testBit k with
    | false => simp
    | true => rw [hs k (sub_bits h hk)]; rfl
  rw [this]; simp

theorem mem_pendAt {rows : List Row} {fls : List Nat} {mask j : Nat} (h : has (pendAt rows fls mask) j = true) : has fls j = true ∧ mask.testBit j = false ∧ ∃ y, rows[j]? = some y ∧ isOn mask y = true := by
  have h1 := has_mem h
  unfold pendAt at h1
  rw [List.mem_filter] at h1
  obtain ⟨h2, h3⟩ := h1
  simp only [Bool.and_eq_true, Bool.not_eq_true'] at h3
  refine ⟨mem_has h2, h3.1, ?_⟩
  cases hy : rows[j]? with
  | none => rw [hy] at h3; exact absurd h3.2 (by simp)
  | some y => rw [hy] at h3; exact ⟨y, rfl, h3.2⟩

theorem pendAt_mem {rows : List Row} {fls : List Nat} {mask j : Nat} {y : Row} (h1 : has fls j = true) (h2 : mask.testBit j = false) (h3 : rows[j]? = some y) (h4 : isOn mask y = true) : j ∈ pendAt rows fls mask := by
  unfold pendAt
  rw [List.mem_filter]
  refine ⟨has_mem h1, ?_⟩
  simp [h2, h3, h4]

theorem filter_perm {α : Type} (p : α → Bool) : ∀ l : List α, l.Perm (l.filter p ++ l.filter fun y => !p y)
  | [] => List.Perm.refl _
  | x :: l => by
    have ih := filter_perm p l
    cases h : p x with
    | true => simp only [List.filter_cons, h, if_true, Bool.not_true, Bool.false_eq_true, if_false, List.cons_append]; exact ih.cons x
    | false => simp only [List.filter_cons, h, if_true, Bool.not_false, Bool.false_eq_true, if_false]; exact (ih.cons x).trans List.perm_middle.symm

theorem rem_pos {n D i : Nat} {m : Nat} (hi : i < n) (h : D.testBit i = false) (hm : remOf n D ≤ m) : ∃ m', m = m' + 1 ∧ remOf n (D ||| 2 ^ i) ≤ m' := by
  have := rem_set hi h
  exact ⟨m - 1, by omega, by omega⟩

theorem dFl_ok {split : Bool} (hP : OkP P) (hs : Region.noSelect ops = true) {Q : Exit → Act → World → Prop} (hQ : ∀ c a w, ¬ Q (.panic c) a w) (as : List Nat) (has0 : as = ancL ops.toList []) (rows : List Row) (hrows : rows = rowsOf P 0 ops.toList as) (fls : List Nat) (hfo : floatsOk ops rows fls = true) {a0 : Act} {K : Env → World → Prop}
    (hK : ∀ a' l' w', Off (dstsOf ops.toList) a0 a' → EnvOk ds N a' l' → K l' w' → Q .normal a' w') :
    ∀ (its : List Itm) (mask : Nat) (wait : List Row) (pend : List FlI) (l : Env) (fl : FEnv) (C : CEnv) (w : World) (D : Nat) (a : Act) (m : Nat), flCheck P ops rows fls its mask = true → FSt ds P N ops as rows fls a0 mask D wait pend l fl C w a →
      dFl P N ops split rows its mask wait pend l fl C w K → remOf ops.size D ≤ m → wpAnyE P .any ops as Q C m (bitsA ops.size D) a w
  | [], mask, wait, pend, l, fl, C, w, D, a, m, hc, hst, h, hm => by
    simp only [flCheck] at hc
    simp only [dFl] at h
    split at h
    · have hr : Region.ready .any ops (bitsA ops.size D) = [] := by
        refine List.eq_nil_iff_forall_not_mem.2 fun j hj => ?_
        obtain ⟨h1, oj, h2, _⟩ := mem_ready.1 hj
        have hlt := (Array.getElem?_eq_some_iff.1 h2).1
        rw [bitsA_getD, if_pos hlt] at h1
        have := List.all_eq_true.1 hc j (List.mem_range.2 hlt)
        rw [(hst.sub j).2 (.inl this)] at h1; cases h1
      cases m with
      | zero => exact ⟨hr, hK a l w hst.off hst.env h⟩
      | succ n => exact ⟨fun _ => hK a l w hst.off hst.env h, fun i hi => by rw [hr] at hi; cases hi⟩
    · exact h.elim
  | .ro i :: r, mask, wait, pend, l, fl, C, w, D, a, m, hc, hst, h, hm => by
    have ih := dFl_ok hP hs hQ as has0 rows hrows fls hfo hK r (split := split)
    simp only [flCheck] at hc
    simp only [dFl] at h
    cases hri : rows[i]? with
    | none => rw [hri] at h; exact h.elim
    | some x =>
      rw [hri] at h hc
      simp only [Bool.and_eq_true, Bool.not_eq_true'] at h hc
      obtain ⟨⟨⟨⟨c1, c2⟩, c3⟩, c4⟩, c5⟩ := hc
      have hx := row_fact hrows hri
      have hlt : i < ops.size := (Array.getElem?_eq_some_iff.1 hx.2.1).1
      have hnf : has fls i = false := by
        cases hf : has fls i with
        | false => rfl
        | true => have := (floats_spec hfo hf hri).2.1; rw [c1] at this; cases this
      have hDi : D.testBit i = false := by
        cases hd : D.testBit i with
        | false => rfl
        | true =>
          rcases (hst.sub i).1 hd with h1 | ⟨p, hp, h1, _⟩
          · rw [c3] at h1; cases h1
          · obtain ⟨y, _, _, _, h4, _⟩ := hst.pin p hp
            rw [h1, hnf] at h4; cases h4
      have hanc := anc_up c2 (fun j hj => (hst.sub j).2 (.inl hj))
      obtain ⟨m', rfl, hm'⟩ := rem_pos hlt hDi hm
      have hstep := step_of hP hst.env hst.flo (dStep_keep h)
      refine (row_step (m := m') hP hs hQ as has0 rows hrows hri hst.dn hanc (by rw [hx.1]; exact hDi) (rest rows mask i) ?_ hst.cells hstep ?_).1 c1 c4
      · intro y hy hun hne
        simp only [rest, List.mem_filter, Bool.and_eq_true, Bool.not_eq_true']
        refine ⟨hy, ?_, ?_⟩
        · cases hb : mask.testBit y.idx with
          | false => rfl
          | true => rw [(hst.sub _).2 (.inl hb)] at hun; cases hun
        · cases hb : Nat.beq y.idx i with
          | false => rfl
          | true => exact absurd ((Nat.eq_of_beq_eq_true hb).trans hx.1.symm) hne
      · intro v l' fl' C' w' hC' he hf ⟨hG, hk⟩
        rw [hx.1]
        refine ih _ _ _ _ _ _ _ _ _ _ c5 (hst.next hs has0 hrows hfo hri hnf hanc c3 hC' he hf hk) hG hm'
  | .eff i :: r, mask, wait, pend, l, fl, C, w, D, a, m, hc, hst, h, hm => by
    have ih := dFl_ok hP hs hQ as has0 rows hrows fls hfo hK r (split := split)
    simp only [flCheck] at hc
    simp only [dFl] at h
    cases hri : rows[i]? with
    | none => rw [hri] at h; exact h.elim
    | some x =>
      rw [hri] at h hc
      simp only [Bool.and_eq_true, Bool.not_eq_true'] at h hc
      obtain ⟨⟨⟨⟨⟨⟨c1, c2⟩, c3⟩, c4⟩, c5⟩, c6⟩, c7⟩ := hc
      have hx := row_fact hrows hri
      have hlt : i < ops.size := (Array.getElem?_eq_some_iff.1 hx.2.1).1
      unfold gap at h
      obtain ⟨l1, more, h1, hst1, hcov⟩ := act_ok (wait.filter (isOn mask)) (wait.filter fun y => !isOn mask y) pend l (fun y hy => (List.mem_filter.1 hy).2) (hst.perm (filter_perm _ _)) h
      generalize pend ++ more = pend1 at h1 hst1 hcov
      generalize hoff : (wait.filter fun y => !isOn mask y) = off at h1 hst1
      -- who is pending
      have hpm : ∀ j, has (pendAt rows fls mask) j = true → ∃ p ∈ pend1, p.idx = j := by
        intro j hj
        obtain ⟨g1, g2, y, g3, g4⟩ := mem_pendAt hj
        rcases hst1.all j g1 g2 (List.getElem?_eq_some_iff.1 g3).1 with h | ⟨y', hy', he⟩
        · exact h
        · have q := (hst1.wt y' hy').1
          rw [he, g3] at q
          obtain rfl := Option.some.inj q
          rw [← hoff, List.mem_filter, g4] at hy'
          exact absurd hy'.2 (by simp)
      have eff : ∀ (pend' : List FlI) (D : Nat) (w : World) (a : Act) (m' : Nat), FSt ds P N ops as rows fls a0 mask D off pend' l1 fl C w a →
          dStep P N ops split (itOf x) l1 fl C w (fun l' fl' C' w' => dFl P N ops split rows r (mask ||| 2 ^ i) off pend' l' fl' C' w' K) → remOf ops.size D ≤ m' + 1 →
          D.testBit i = false ∧ x.anc ||| D = D ∧ wpOp P ops Q x.idx (fun a' w' => Gd P ops as C x.idx w w' ∧ wpAnyE P .any ops as Q C m' ((bitsA ops.size D).setIfInBounds x.idx true) a' w') a w := by
        intro pend' D w a m' hst' hd hm'
        have hDi : D.testBit i = false := by
          cases hd : D.testBit i with
          | false => rfl
          | true =>
            rcases (hst'.sub i).1 hd with h1 | ⟨p, hp, h1, _⟩
            · rw [c4] at h1; cases h1
            · obtain ⟨y, _, _, _, h4, _⟩ := hst'.pin p hp
              rw [h1, c2] at h4; cases h4
        have hanc := anc_up c3 (fun j hj => (hst'.sub j).2 (.inl hj))
        have hrem := rem_set hlt hDi
        have hstep := step_of hP hst'.env hst'.flo (dStep_keep hd)
        refine ⟨hDi, hanc, (row_step (m := m') hP hs hQ as has0 rows hrows hri hst'.dn hanc (by rw [hx.1]; exact hDi) (rest rows mask i) ?_ hst'.cells hstep ?_).2 c1 c5⟩
        · intro y hy hun hne
          simp only [rest, List.mem_filter, Bool.and_eq_true, Bool.not_eq_true']
          refine ⟨hy, ?_, ?_⟩
          · cases hb : mask.testBit y.idx with
            | false => rfl
            | true => rw [(hst'.sub _).2 (.inl hb)] at hun; cases hun
          · cases hb : Nat.beq y.idx i with
            | false => rfl
            | true => exact absurd ((Nat.eq_of_beq_eq_true hb).trans hx.1.symm) hne
        · intro v l' fl' C' w' hC' he hf ⟨hG, hk⟩
          rw [hx.1]
          exact ih _ _ _ _ _ _ _ _ _ _ c7 (hst'.next hs has0 hrows hfo hri c2 hanc c4 hC' he hf hk) hG (by omega)
      have cls : ∀ (pend' : List FlI) (D : Nat) (w : World) (a : Act), FSt ds P N ops as rows fls a0 mask D off pend' l1 fl C w a → pend'.map (·.idx) = pend1.map (·.idx) → ∀ j ∈ Region.ready .any ops (bitsA ops.size D), (∃ p ∈ pend', p.idx = j ∧ p.y = none) ∨ j = i := by
        intro pend' D w a hst' hidx j hj
        obtain ⟨y, g1, g2, g3, g4⟩ := ready_cases as has0 hrows hj hst'.dn
        have hon : isOn (mask ||| bitsOf (pendAt rows fls mask)) y = true := on_of g4 (fun k hk => by
          rw [Nat.testBit_or, Bool.or_eq_true]
          rcases (hst'.sub k).1 hk with h | ⟨p, hp, h, _⟩
          · exact .inl h
          · obtain ⟨z, q1, _, _, q4, q5, _⟩ := hst'.pin p hp
            exact .inr (bitsOf_bit (by rw [← h]; exact pendAt_mem q4 (hst'.pm p hp) q1 q5)))
        have := List.all_eq_true.1 c6 y (List.mem_of_getElem? g1)
        simp only [Bool.or_eq_true, Bool.not_eq_true', g2] at this
        rcases this with ((h | h) | h) | h
        · rw [(hst'.sub j).2 (.inl h)] at g3; cases g3
        · obtain ⟨p, hp, he⟩ := hpm j h
          have hm1 : j ∈ pend'.map (·.idx) := by rw [hidx]; exact List.mem_map.2 ⟨p, hp, he⟩
          obtain ⟨p', hp', he'⟩ := List.mem_map.1 hm1
          refine .inl ⟨p', hp', he', ?_⟩
          cases hy : p'.y with
          | none => rfl
          | some ad => rw [(hst'.sub j).2 (.inr ⟨p', hp', he', by rw [hy]; simp⟩)] at g3; cases g3
        · exact .inr (Nat.eq_of_beq_eq_true h).symm
        · rw [hon] at h; cases h
      cases pend1 with
      | nil =>
        simp only at h1
        have hm1 : ∃ m', m = m' + 1 := by
          have hDi : D.testBit i = false := by
            cases hd : D.testBit i with
            | false => rfl
            | true =>
              rcases (hst1.sub i).1 hd with h1 | ⟨p, hp, h1, _⟩
              · rw [c4] at h1; cases h1
              · cases hp
          obtain ⟨m', h1, _⟩ := rem_pos hlt hDi hm
          exact ⟨m', h1⟩
        obtain ⟨m', rfl⟩ := hm1
        obtain ⟨hDi, hanc, hw⟩ := eff [] D w a m' hst1 h1 hm
        refine ⟨fun hr => ?_, fun j hj => ?_⟩
        · have := ready_of_anc as has0 hrows hri hanc hDi hst1.dn
          rw [hr] at this; cases this
        · rcases cls [] D w a hst1 rfl j hj with ⟨p, hp, _⟩ | rfl
          · cases hp
          · rw [hx.1] at hw; exact hw
      | cons p ps =>
        simp only at h1
        have hF := FlS_cons (K := fun pend1 w1 => dStep P N ops split (itOf x) l1 fl C w1 fun l' fl' C' w' => dFl P N ops split rows r (mask ||| 2 ^ i) off pend1 l' fl' C' w' K) h1
        refine gap_ok hs has0 hrows hfo (base := p :: ps) (fun x hx D hD => anc_up hx hD) ?_ (p :: ps).length (p :: ps) D w a m hF rfl (upd_self _) rfl (List.length_filter_le _ _) hst1 hm
        intro pend' D w a m hu hidx hKK hst' hm'
        have hlen : (pend'.map (·.y)).length = (p :: ps).length := by
          have := congrArg List.length hidx
          simpa using this
        have hd := hKK hlen
        rw [hu] at hd
        have hDi : D.testBit i = false := by
          cases hd : D.testBit i with
          | false => rfl
          | true =>
            rcases (hst'.sub i).1 hd with h1 | ⟨p, hp, h1, _⟩
            · rw [c4] at h1; cases h1
            · obtain ⟨y, _, _, _, h4, _⟩ := hst'.pin p hp
              rw [h1, c2] at h4; cases h4
        have hanc := anc_up c3 (fun j hj => (hst'.sub j).2 (.inl hj))
        refine .inr ⟨⟨i, ready_of_anc as has0 hrows hri hanc hDi hst'.dn⟩, fun j hj => ?_⟩
        rcases cls pend' D w a hst' hidx j hj with h | rfl
        · exact .inl h
        · refine .inr fun m' hmm => ?_
          obtain ⟨_, _, hw⟩ := eff pend' D w a m' hst' hd (by omega)
          rw [hx.1] at hw; exact hw
  | .settle i :: r, mask, wait, pend, l, fl, C, w, D, a, m, hc, hst, h, hm => by
    have ih := dFl_ok hP hs hQ as has0 rows hrows fls hfo hK r (split := split)
    simp only [flCheck, Bool.and_eq_true] at hc
    simp only [dFl] at h
    obtain ⟨⟨c1, c6⟩, c7⟩ := hc
    unfold gap at h
    obtain ⟨l1, more, h1, hst1, hcov⟩ := act_ok (wait.filter (isOn mask)) (wait.filter fun y => !isOn mask y) pend l (fun y hy => (List.mem_filter.1 hy).2) (hst.perm (filter_perm _ _)) h
    generalize pend ++ more = pend1 at h1 hst1 hcov
    generalize hoff : (wait.filter fun y => !isOn mask y) = off at h1 hst1
    have hpm : ∀ j, has (pendAt rows fls mask) j = true → ∃ p ∈ pend1, p.idx = j := by
      intro j hj
      obtain ⟨g1, g2, y, g3, g4⟩ := mem_pendAt hj
      rcases hst1.all j g1 g2 (List.getElem?_eq_some_iff.1 g3).1 with h | ⟨y', hy', he⟩
      · exact h
      · have q := (hst1.wt y' hy').1
        rw [he, g3] at q
        obtain rfl := Option.some.inj q
        rw [← hoff, List.mem_filter, g4] at hy'
        exact absurd hy'.2 (by simp)
    cases pend1 with
    | nil => simp only [List.find?_nil] at h1
    | cons p ps =>
      simp only at h1
      have hF := FlS_cons (K := fun pend1 w1 => match pend1.find? fun p => Nat.beq p.idx i with
        | some p => Need p.y fun ad => dFl P N ops split rows r (mask ||| 2 ^ i) off (pend1.filter fun p => !Nat.beq p.idx i) ((p.dst, some (p.val ad)) :: l1) fl C w1 K
        | none => False) h1
      refine gap_ok hs has0 hrows hfo (base := p :: ps) (fun x hx D hD => anc_up hx hD) ?_ (p :: ps).length (p :: ps) D w a m hF rfl (upd_self _) rfl (List.length_filter_le _ _) hst1 hm
      intro pend' D w a m hu hidx hKK hst' hm'
      have hlen : (pend'.map (·.y)).length = (p :: ps).length := by
        have := congrArg List.length hidx
        simpa using this
      have hd := hKK hlen
      rw [hu] at hd
      split at hd
      · rename_i q hq
        have hqm : q ∈ pend' := List.mem_of_find?_eq_some hq
        have hqi : q.idx = i := Nat.eq_of_beq_eq_true (by have := List.find?_some hq; exact this)
        cases hy : q.y with
        | some ad =>
          left
          rw [hy] at hd
          have := hst'.settle hrows hfo hqm hy
          rw [hqi] at this
          exact ih _ _ _ _ _ _ _ _ _ _ c7 this hd hm'
        | none =>
          right
          have hDi : D.testBit i = false := by
            cases hdd : D.testBit i with
            | false => rfl
            | true =>
              rcases (hst'.sub i).1 hdd with h1 | ⟨p, hp, h1, h2⟩
              · have := hst'.pm q hqm
                rw [hqi, h1] at this; cases this
              · have : p = q := by
                  obtain ⟨j, hj⟩ := List.getElem?_of_mem hp
                  obtain ⟨k, hk⟩ := List.getElem?_of_mem hqm
                  by_cases e : j = k
                  · subst e; exact Option.some.inj (hj.symm.trans hk)
                  · exact absurd (h1.trans hqi.symm) (nod_ne hst'.nod hj hk e)
                rw [this, hy] at h2
                exact absurd rfl h2
          obtain ⟨z, q1, _, _, q4, q5, _⟩ := hst'.pin q hqm
          rw [hqi] at q1
          have hanc := anc_up q5 (fun j hj => (hst'.sub j).2 (.inl hj))
          refine ⟨⟨i, ready_of_anc as has0 hrows q1 hanc hDi hst'.dn⟩, fun j hj => ?_⟩
          obtain ⟨y, g1, g2, g3, g4⟩ := ready_cases as has0 hrows hj hst'.dn
          have hon : isOn (mask ||| bitsOf ((pendAt rows fls mask).filter fun j => !Nat.beq j i)) y = true := on_of g4 (fun k hk => by
            rw [Nat.testBit_or, Bool.or_eq_true]
            rcases (hst'.sub k).1 hk with h | ⟨p, hp, h, _⟩
            · exact .inl h
            · obtain ⟨z, q1, _, _, q4, q5, _⟩ := hst'.pin p hp
              refine .inr (bitsOf_bit (List.mem_filter.2 ⟨by rw [← h]; exact pendAt_mem q4 (hst'.pm p hp) q1 q5, ?_⟩))
              cases hb : Nat.beq k i with
              | false => rfl
              | true =>
                have := Nat.eq_of_beq_eq_true hb
                rw [this, hDi] at hk; cases hk)
          have := List.all_eq_true.1 c6 y (List.mem_of_getElem? g1)
          simp only [Bool.or_eq_true, Bool.not_eq_true', g2, Bool.or_false] at this
          rcases this with (h | h) | h
          · rw [(hst'.sub j).2 (.inl h)] at g3; cases g3
          · obtain ⟨p, hp, he⟩ := hpm j h
            have hm1 : j ∈ pend'.map (·.idx) := by rw [hidx]; exact List.mem_map.2 ⟨p, hp, he⟩
            obtain ⟨p', hp', he'⟩ := List.mem_map.1 hm1
            refine .inl ⟨p', hp', he', ?_⟩
            cases hy : p'.y with
            | none => rfl
            | some ad => rw [(hst'.sub j).2 (.inr ⟨p', hp', he', by rw [hy]; simp⟩)] at g3; cases g3
          · rw [hon] at h; cases h
      · exact hd.elim

/-! ### A region as a whole -/

def flsOf (rows : List Row) : List Nat := (rows.filter (isFloat rows)).map (·.idx)
def waitOf (rows : List Row) (fls : List Nat) : List Row := rows.filter fun y => has fls y.idx
def allRows (P : Program) (ops : Array Oper) : List Row := rowsOf P 0 ops.toList (ancL ops.toList [])
def flItems (P : Program) (ops : Array Oper) : List Itm := mkItems (allRows P ops) (flsOf (allRows P ops)) ops.size 0
def flOk (P : Program) (ops : Array Oper) : Bool :=
  Region.noSelect ops && floatsOk ops (allRows P ops) (flsOf (allRows P ops)) && flCheck P ops (allRows P ops) (flsOf (allRows P ops)) (flItems P ops) 0

theorem rem_le (n : Nat) : remOf n 0 ≤ n := by
  unfold remOf
  exact Nat.le_trans (List.length_filter_le _ _) (by simp)

theorem dFl_region {split : Bool} (hP : OkP P) (hc : flOk P ops = true) {Q : Exit → Act → World → Prop} (hQ : ∀ c a w, ¬ Q (.panic c) a w) {a : Act} {l : Env} {w : World} {K : Env → World → Prop} (hl : EnvOk ds N a l)
    (hK : ∀ a' l' w', Off (dstsOf ops.toList) a a' → EnvOk ds N a' l' → K l' w' → Q .normal a' w')
    (h : dFl P N ops split (allRows P ops) (flItems P ops) 0 (waitOf (allRows P ops) (flsOf (allRows P ops))) [] l [] [] w K) :
    wpAnyE P .any ops (ancL ops.toList []) Q [] ops.size (bitsA ops.size 0) a w := by
  unfold flOk at hc
  simp only [Bool.and_eq_true] at hc
  obtain ⟨⟨h1, h2⟩, h3⟩ := hc
  refine dFl_ok hP h1 hQ _ rfl (allRows P ops) rfl (flsOf (allRows P ops)) h2 (a0 := a) hK (flItems P ops) 0 _ [] l [] [] w 0 a ops.size h3 ?_ h (rem_le _)
  have rowIdx : ∀ (i : Nat) (y : Row), (allRows P ops)[i]? = some y → y.idx = i := fun i y hy => (row_fact (P := P) (ops := ops) (rows := allRows P ops) rfl hy).1
  have memIdx : ∀ y ∈ allRows P ops, (allRows P ops)[y.idx]? = some y := by
    intro y hy
    obtain ⟨i, hi⟩ := List.getElem?_of_mem hy
    rw [rowIdx i y hi]; exact hi
  refine { env := hl, flo := (fun _ h => by cases h), cells := by simp, pin := by simp, free := by simp, nod := by simp, pm := by simp, sub := by simp, dn := by simp, wt := ?_, wnd := ?_, all := ?_, off := Off.refl _ _ }
  · intro y hy
    unfold waitOf at hy
    rw [List.mem_filter] at hy
    exact ⟨memIdx y hy.1, hy.2, by simp, by simp⟩
  · unfold waitOf
    refine (List.filter_sublist.map _).nodup ?_
    refine List.pairwise_map.2 (List.pairwise_iff_getElem.2 ?_)
    intro i j hi hj hij he
    rw [rowIdx i _ (List.getElem?_eq_getElem hi), rowIdx j _ (List.getElem?_eq_getElem hj)] at he
    omega
  · intro i h1 _ h3
    refine .inr ⟨(allRows P ops)[i], ?_, rowIdx i _ (List.getElem?_eq_getElem h3)⟩
    unfold waitOf
    rw [List.mem_filter]
    refine ⟨List.getElem_mem _, ?_⟩
    rw [rowIdx i _ (List.getElem?_eq_getElem h3)]
    exact h1

end

end Go.Den
