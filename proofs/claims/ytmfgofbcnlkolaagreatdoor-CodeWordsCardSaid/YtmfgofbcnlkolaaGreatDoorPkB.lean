/-
  Part 2 of the proof: CodeWords is true of the given program: its row, and the card tied to the program's text.
-/
import Derived.Test.YtmfgofbcnlkolaaGreatDoorPkA
import Derived.Test.YtmfgofbcnlkolaaGreatDoorProg
set_option linter.unusedSimpArgs false
set_option linter.unusedVariables false
set_option maxRecDepth 100000
section
namespace Go.Den
variable {ds : List Deferred}
def FlN (objs : List Obj) (K : List (Option Addr) → World → Prop) : Nat → List (Option Addr) → World → Prop
 | 0, ys, w => K ys w
 | n + 1, ys, w => K ys w ∧ ∀ i o, objs[i]? = some o → ys[i]? = some none → FlN objs K n (ys.set i (some ⟨w.heap.size, 0, none⟩)) (w.alloc o)
def FlS (fs : List (Obj × Option Addr)) (w : World) (K : Fn (fs.map fun _ => Kd.p) (World → Prop)) : Prop :=
 FlN (fs.map (·.1)) (fun ys w => viewL (fs.map fun _ => Kd.p) (ys.map Value.pointer) (fun r => r w) K) fs.length (fs.map (·.2)) w
def Need (y : Option Addr) (K : Addr → Prop) : Prop :=
 match y with
 | some a => K a
 | none => True
structure FlI where
 idx : Nat
 obj : Obj
 val : Addr → Value
 dst : Nat
 y : Option Addr
def flAct (P : Program) (op : Op) (ρ : Operand → Option Value) (K : Obj → (Addr → Value) → Prop) : Prop :=
 match op with
 | .alloc el =>
  match P.info? el with
  | some i => match i.zero with
   | some z => K (.cells z.cells el) fun a => .pointer (some a)
   | none => False
  | none => False
 | .box el x =>
  match ρ x with
  | some v => dCells P el v fun cs => K (.cells cs.toArray el) fun a => .pointer (some a)
  | none => False
 | .buildSlice t len parts =>
  match P.underlying t, mapO ρ (parts.toList.map (·.2)) with
  | some (.slice el), some vs => match P.info? el with
   | some inf => match inf.zero with
    | some z => cond (Nat.beq len 0) (match parts.toList with
      | [] => K (.cells #[] el) fun a => .slice (some a) 0 0
      | _ => False) <| cond (Nat.ble (len * inf.size) 1000000 && Nat.beq z.cells.size inf.size && !Nat.beq (len * inf.size) 0)
      (dFill P ((List.range len).map fun i => (i * inf.size, inf.size, el)) (zrow z.cells.toList len) ((parts.toList.map (·.1)).zip vs) fun cs =>
       K (.cells cs.toArray el) fun a => .slice (some a) len len) False
    | none => False
   | none => False
  | _, _ => False
 | .makeMap t r =>
  match r with
  | none => K (.map #[] 0) fun a => .map (some a.block)
  | some x => match P.underlying t, ρ x with
   | some (.map _ _), some (.int _ _) => K (.map #[] 0) fun a => .map (some a.block)
   | _, _ => False
 | .makeSlice t x y =>
  match P.underlying t, ρ x, ρ y with
  | some (.slice el), some (.int _ l), some (.int _ c) => match P.info? el with
   | some inf => match inf.zero with
    | some z => cond (Nat.beq z.cells.size inf.size && !Nat.beq inf.size 0)
      (0 ≤ l ∧ l ≤ c ∧ c ≤ 281474976710656 ∧ inf.bytes * c ≤ 281474976710656 ∧ K (.cells (zrow z.cells.toList c.toNat).toArray el) fun a => .slice (some a) l.toNat c.toNat) False
    | none => False
   | none => False
  | _, _, _ => False
 | _ => False
inductive Itm where
 | ro (i : Nat)
 | eff (i : Nat)
 | settle (i : Nat)
def actAll (P : Program) (N : NX) (fl : FEnv) : List Row → Env → List FlI → (Env → List FlI → Prop) → Prop
 | [], l, pend, K => K l pend
 | x :: r, l, pend, K => match x.o.guard, x.o.dst with
  | none, some d => cond (Nat.blt d N.n && flFree fl d)
    (flAct P x.o.op (look l fl []) fun obj val => actAll P N fl r ((d, none) :: l) (pend ++ [⟨x.idx, obj, val, d, none⟩]) K) False
  | _, _ => False
def upd : List FlI → List Value → List FlI
 | p :: ps, .pointer y :: vs => { p with y := y } :: upd ps vs
 | ps, _ => ps
def isOn (mask : Nat) (x : Row) : Bool := Nat.beq (x.anc ||| mask) mask
def gap (P : Program) (N : NX) (fl : FEnv) (mask : Nat) (wait : List Row) (pend : List FlI) (l : Env) (w : World) (K : List FlI → Env → World → Prop) : Prop :=
 actAll P N fl (wait.filter (isOn mask)) l pend fun l1 pend1 => match pend1 with
  | [] => K [] l1 w
  | p :: ps => FlS ((p :: ps).map fun p => (p.obj, p.y)) w (curry _ fun cs w1 => K (upd (p :: ps) cs) l1 w1)
def dFl (P : Program) (N : NX) (ops : Array Oper) (split : Bool) (rows : List Row) : List Itm → Nat → List Row → List FlI → Env → FEnv → CEnv → World → (Env → World → Prop) → Prop
 | [], _, wait, pend, l, _, _, w, K => match wait, pend with
  | [], [] => K l w
  | _, _ => False
 | .ro i :: r, mask, wait, pend, l, fl, C, w, K => match rows[i]? with
  | some x => dStep P N ops split (itOf x) l fl C w fun l' fl' C' w' => dFl P N ops split rows r (mask ||| 2 ^ i) wait pend l' fl' C' w' K
  | none => False
 | .eff i :: r, mask, wait, pend, l, fl, C, w, K => match rows[i]? with
  | some x => gap P N fl mask wait pend l w fun pend1 l1 w1 =>
    dStep P N ops split (itOf x) l1 fl C w1 fun l' fl' C' w' => dFl P N ops split rows r (mask ||| 2 ^ i) (wait.filter fun y => !isOn mask y) pend1 l' fl' C' w' K
  | none => False
 | .settle i :: r, mask, wait, pend, l, fl, C, w, K =>
  gap P N fl mask wait pend l w fun pend1 l1 w1 => match pend1.find? fun p => Nat.beq p.idx i with
   | some p => Need p.y fun ad => dFl P N ops split rows r (mask ||| 2 ^ i) (wait.filter fun y => !isOn mask y) (pend1.filter fun p => !Nat.beq p.idx i) ((p.dst, some (p.val ad)) :: l1) fl C w1 K
   | none => False
def isFloat (rows : List Row) (x : Row) : Bool :=
 !x.ro && isAlloc x.o.op && x.o.guard.isNone && rows.any fun y => !y.ro && !Nat.beq y.idx x.idx && !Nat.testBit x.anc y.idx && !Nat.testBit y.anc x.idx
def settles (fls : List Nat) (done : Nat) (x : Row) : List Nat := fls.filter fun i => Nat.testBit x.anc i && !Nat.testBit done i
def mkItems (rows : List Row) (fls : List Nat) : Nat → Nat → List Itm
 | 0, _ => []
 | f + 1, done =>
  match rows.find? (fun x => x.ro && !Nat.testBit done x.idx && isOn done x) with
  | some x => .ro x.idx :: mkItems rows fls f (done ||| 2 ^ x.idx)
  | none => match rows.find? (fun x => !x.ro && !(fls.any fun i => Nat.beq i x.idx) && !Nat.testBit done x.idx && Nat.beq (x.anc ||| done ||| (fls.foldl (fun s i => s ||| 2 ^ i) 0)) (done ||| (fls.foldl (fun s i => s ||| 2 ^ i) 0))) with
   | some x => match settles fls done x with
    | i :: _ => .settle i :: mkItems rows fls f (done ||| 2 ^ i)
    | [] => .eff x.idx :: mkItems rows fls f (done ||| 2 ^ x.idx)
   | none => match fls.find? (fun i => !Nat.testBit done i) with
    | some i => .settle i :: mkItems rows fls f (done ||| 2 ^ i)
    | none => []
section
variable {P : Program} {e : Operand → Value} {ρ : Operand → Option Value}
theorem of_flAct (hρ : ∀ x v, ρ x = some v → e x = v) {op : Op} {ty : TypeId} {K : Obj → (Addr → Value) → Prop} (h : flAct P op ρ K)
  (dst : Option Tmp) (pos : String) (after : Array Edge) (g : Option (Nat × Bool)) :
  ∃ obj val, (∀ w, (execOp e ⟨dst, op, ty, pos, after, g⟩).run P w = .ok (.value (val ⟨w.heap.size, 0, none⟩)) (w.alloc obj)) ∧ K obj val := by
 unfold flAct at h
 split at h
 ·rename_i el
  split at h
  ·rename_i i hi
   split at h
   ·rename_i z hz
    refine ⟨_, _, fun w => ?_, h⟩
    simp [execOp, Instr.alloc, zeroValue, typeInfo, hi, hz, newVar, newRow]
   ·exact h.elim
  ·exact h.elim
 ·rename_i el x
  split at h
  ·rename_i v hv
   have h1 := of_dCells h
   refine ⟨_, _, fun w => ?_, h1⟩
   simp [execOp, Instr.box, newVar, newRow, hρ _ _ hv]
  ·exact h.elim
 ·rename_i t len parts
  split at h
  ·rename_i el vs hu hm
   split at h
   ·rename_i inf hi
    split at h
    ·rename_i z hz
     cases hb0 : Nat.beq len 0 with
     | true =>
      rw [hb0] at h
      simp only [cond_true] at h
      obtain rfl := Nat.eq_of_beq_eq_true hb0
      split at h
      ·rename_i hp
       have hp' : parts = #[] := Array.ext' (by simpa using hp)
       subst hp'
       refine ⟨_, _, fun w => ?_, h⟩
       have e0 : Array.range 0 = #[] := rfl
       simp [execOp, Instr.buildSlice, run_underlying hu, sizeOf, typeInfo, hi, Instr.fill, newRow, e0]
      ·exact h.elim
     | false =>
     rw [hb0] at h
     simp only [cond_false] at h
     cases hb : (Nat.ble (len * inf.size) 1000000 && Nat.beq z.cells.size inf.size && !Nat.beq (len * inf.size) 0) with
     | false => rw [hb] at h; exact h.elim
     | true =>
      rw [hb] at h
      simp only [cond_true] at h
      simp only [Bool.and_eq_true, Bool.not_eq_true'] at hb
      obtain ⟨⟨hb1, hb2⟩, hb3⟩ := hb
      have hle : len * inf.size ≤ 1000000 := Nat.le_of_ble_eq_true hb1
      have hsz : z.cells.size = inf.size := Nat.eq_of_beq_eq_true hb2
      have hnz : len * inf.size ≠ 0 := by intro h0; rw [h0] at hb3; cases hb3
      obtain ⟨cs, hc, hK⟩ := of_dFill h
      have hc' := fill_mono (F' := fun i => some (i * inf.size, inf.size)) (by
       intro i x hx
       simp only [Option.map_eq_some_iff] at hx
       obtain ⟨y, hy, rfl⟩ := hx
       simp only [List.getElem?_map, Option.map_eq_some_iff] at hy
       obtain ⟨j, hj, rfl⟩ := hy
       obtain ⟨hlt, hj'⟩ := List.getElem?_eq_some_iff.1 hj
       simp only [List.getElem_range] at hj'
       subst hj'
       rfl) hc
      have e1 := of_mapO hρ hm
      have hparts : (parts.map fun (i, x) => (i, e x)).toList = (parts.toList.map (·.1)).zip vs := by
       rw [← e1]
       simp only [Array.toList_map, List.map_map]
       generalize parts.toList = ps
       induction ps with
       | nil => rfl
       | cons p ps ih => simp [ih]
      have hrow := zrow_eq (z := z.cells) len
      rw [hsz] at hrow
      refine ⟨_, _, fun w => ?_, hK⟩
      have h24 : ¬ (len * inf.size > 2 ^ 24) := by
       have : (2 : Nat) ^ 24 = 16777216 := by decide
       omega
      simp only [execOp, Instr.buildSlice, Sem.run_bind, run_underlying hu, Result.andThen_ok, sizeOf, typeInfo, run_program, hi, Sem.run_pure, if_neg h24, if_neg hnz, zeroValue, hz, hsz, hrow, hparts, hc', newRow,
       run_newObj, World.alloc_eq, Array.toArray_toList]
    ·exact h.elim
   ·exact h.elim
  ·exact h.elim
 ·rename_i t r
  split at h
  ·refine ⟨_, _, fun w => ?_, h⟩
   simp [execOp, Instr.makeMap]
  ·rename_i x
   split at h
   ·rename_i k el kk n hu h1
    refine ⟨_, _, fun w => ?_, h⟩
    simp [execOp, Instr.makeMap, run_underlying hu, hρ _ _ h1, asInt, asIntOf]
   ·exact h.elim
 ·rename_i t x y
  split at h
  ·rename_i el k l k' c hu h1 h2
   split at h
   ·rename_i inf hi
    split at h
    ·rename_i z hz
     cases hb : (Nat.beq z.cells.size inf.size && !Nat.beq inf.size 0) with
     | false => rw [hb] at h; exact h.elim
     | true =>
      rw [hb] at h
      simp only [cond_true] at h
      simp only [Bool.and_eq_true, Bool.not_eq_true'] at hb
      obtain ⟨c1, c2, c3, c4, hK⟩ := h
      refine ⟨_, _, fun w => ?_, hK⟩
      have := run_makeSlice (P := P) (w := w) (k := k) (k' := k') hu hi hz (Nat.eq_of_beq_eq_true hb.1) (by intro h0; rw [h0] at hb; exact absurd hb.2 (by decide)) c1 c2 c3 c4
      simp [execOp, hρ _ _ h1, hρ _ _ h2, this]
    ·exact h.elim
   ·exact h.elim
  ·exact h.elim
 ·exact h.elim
theorem FlN_done {objs : List Obj} {K : List (Option Addr) → World → Prop} : ∀ {n : Nat} {ys : List (Option Addr)} {w : World}, FlN objs K n ys w → K ys w
 | 0, _, _, h => h
 | _ + 1, _, _, h => h.1
end
section
variable {P : Program} {N : NX} {ops : Array Oper}
theorem row_step (hP : OkP P) (hs : Region.noSelect ops = true) {Q : Exit → Act → World → Prop} (hQ : ∀ c a w (o : Oper) v, o ∈ ops.toList → Q (.panic c) (a.put o.dst v) w → Q (.panic c) a w)
  (asv : List Nat) (has : asv = ancL ops.toList []) (rows : List Row) (hrows : rows = rowsOf P 0 ops.toList asv) {x : Row} {i done m : Nat} {C : CEnv} {a : Act} {w : World} {G : Env → FEnv → CEnv → World → Prop}
  (hri : rows[i]? = some x) (hdone : ∀ j, done.testBit j = true → j < ops.size ∧ asv.getD j 0 ||| done = done) (hsub : x.anc ||| done = done) (hb0 : done.testBit x.idx = false) (ys : List Row)
  (hys : ∀ y ∈ rows, done.testBit y.idx = false → y.idx ≠ x.idx → y ∈ ys) (hC : ∀ x ∈ C, holdAt w x.2 ∧ (loadsOf P rows).testBit x.1 = true) (hst : Step ds P N ops (itOf x) a C w G) (hE : ∀ ch w', N.E ch w' → Q (.panic ch) a w')
  (ih : ∀ {v : Value} {l : Env} {fl : FEnv} {C' : CEnv} {w' : World}, (∀ x ∈ C', holdAt w' x.2 ∧ (loadsOf P rows).testBit x.1 = true) → EnvOk ds N (a.put x.o.dst v) l → FlOk (a.put x.o.dst v) fl → G l fl C' w' →
   wpAnyE P .any ops asv Q C' m (bitsA ops.size (done ||| 2 ^ x.idx)) (a.put x.o.dst v) w') :
  (x.ro = true → mixTail P ops x ys = true → wpAnyE P .any ops asv Q C (m + 1) (bitsA ops.size done) a w) ∧
  (x.ro = false → tailE (loadsOf P rows) x ys = true → wpOp P ops Q x.idx (fun a' w' => Gd P ops asv C x.idx w w' ∧ wpAnyE P .any ops asv Q C m ((bitsA ops.size done).setIfInBounds x.idx true) a' w') a w) := by
  have rowFact : ∀ y ∈ rowsOf P 0 ops.toList asv, ops[y.idx]? = some y.o ∧ asv[y.idx]? = some y.anc ∧ y.dir = dirOf y.o.after.toList ∧ y.ro = dRoOk P y.o.op ∧ y.hd = headOp P y.o := by
   intro y hy
   obtain ⟨j, h1, h2, h3, h4⟩ := rowsOf_mem hy
   rw [Nat.zero_add] at h3
   rw [h3]
   exact ⟨by simpa using h1, h2, h4⟩
  obtain ⟨h0, hax, hdir, hxro, hxhd⟩ := rowFact x (by rw [← hrows]; exact List.mem_of_getElem? hri)
  have haxD : asv.getD x.idx 0 = x.anc := by simp [hax]
  have hklt : x.idx < ops.size := (Array.getElem?_eq_some_iff.1 h0).1
  have hanc : ∀ j oj, ops[j]? = some oj → asv[j]? = some (maskOf (asv.take j) oj.after.toList) := by
   intro j oj hj
   have := ancL_get ops.toList [] j oj (by simpa using hj)
   rw [has]
   simpa using this
  have hancD : ∀ j oj, ops[j]? = some oj → asv.getD j 0 = maskOf (asv.take j) oj.after.toList := fun j oj hj => by simp [hanc j oj hj]
  have hready : x.idx ∈ Region.ready .any ops (bitsA ops.size done) := by
   refine mem_ready.2 ⟨by rw [bitsA_getD, if_pos hklt]; exact hb0, x.o, h0, fun e he hbe => ?_⟩
   have h2 : x.anc.testBit e.on = true := by
    rw [← haxD, hancD _ _ h0]
    exact maskOf_has hbe _ _ (.inl (by simpa using he))
   have h3 := sub_bits hsub h2
   rw [bitsA_getD, if_pos (hdone _ h3).1]
   exact h3
  have hlater : ∀ j oj, j ≠ x.idx → ops[j]? = some oj → done.testBit j = false → ∃ y ∈ ys, y.idx = j ∧ y.o = oj ∧ y.anc = asv.getD j 0 ∧ y.dir = dirOf oj.after.toList ∧ y.hd = headOp P oj := by
   intro j oj hne hj hun
   have hjlt := (Array.getElem?_eq_some_iff.1 hj).1
   have hjr : j < rows.length := by
    rw [hrows, rowsOf_length P _ _ _ (by rw [has, ancL_len])]; simpa using hjlt
   obtain ⟨y, hy⟩ : ∃ y, rows[j]? = some y := ⟨_, List.getElem?_eq_getElem hjr⟩
   have hmem : y ∈ rows := List.mem_of_getElem? hy
   have hidx : y.idx = j := by
    rw [hrows] at hy
    have := rowsOf_get P _ _ _ _ _ hy
    omega
   obtain ⟨g1, g2, g3, g4, g5⟩ := rowFact y (by rw [← hrows]; exact hmem)
   rw [hidx] at g1 g2
   have e : y.o = oj := Option.some.inj (g1.symm.trans hj)
   refine ⟨y, ?_, hidx, e, by simp [g2], by rw [g3, e], by rw [g5, e]⟩
   exact hys y hmem (by rw [hidx]; exact hun) (by rw [hidx]; exact hne)
  -- where a set of bits holds whom an operation waits for
  have through : ∀ i oi, ops[i]? = some oi → (asv.getD i 0).testBit x.idx = true → ∃ e ∈ oi.after, Region.binds .any e = true ∧ (e.on = x.idx ∨ (asv.getD e.on 0).testBit x.idx = true) := by
   intro i oi hi hb
   rw [hancD i oi hi] at hb
   rcases maskOf_bit _ _ hb with h5 | ⟨e, he, hbe, h5⟩
   ·simp at h5
   ·refine ⟨e, by simpa using he, hbe, h5.imp id fun h6 => ?_⟩
    have h7 : (asv.take i).getD e.on 0 = asv.getD e.on 0 ∨ (asv.take i).getD e.on 0 = 0 := by
     simp only [List.getD_eq_getElem?_getD, List.getElem?_take]
     split
     ·exact .inl rfl
     ·exact .inr rfl
    rcases h7 with h7 | h7
    ·rw [h7] at h6; exact h6
    ·rw [h7] at h6; simp at h6
  refine ⟨fun hxro' hb2 => ?_, fun hxro' htl => ?_⟩
  ·have hro : dRoOk P x.o.op = true := hxro ▸ hxro'
   have go : ∀ (v : Value) (S : World → Prop) (C' : CEnv), (∀ j, j < ops.size → j ≠ x.idx → done.testBit j = false → (asv.getD j 0).testBit x.idx = false → ∀ w w', Gd P ops asv C' j w w' → S w → S w') →
     YieldsIf P ops S x.o v a → S w → wpAnyE P .any ops asv Q C' m (bitsA ops.size (done ||| 2 ^ x.idx)) (a.put x.o.dst v) w →
     wpAnyE P .any ops asv Q C' (m + 1) (bitsA ops.size done) a w := by
    intro v S C' hpres hy hS hrest'
    refine wpAnyE_first (S := S) (without asv ops.size x.idx) h0 (Region.noSelect_spec hs) (fun c a w hq => hQ c a w x.o _ (List.mem_of_getElem? (by simpa using h0)) hq) ?_ (by simp [without]) _ _ _ _ ?_ ?_ ?_ hready hy hS (by rw [bitsA_set]; exact hrest')
    ·intro j hj
     obtain ⟨h1, oj, h2, h3⟩ := mem_ready.1 hj
     have hjlt := (Array.getElem?_eq_some_iff.1 h2).1
     rw [without_getD, if_pos hjlt] at h1
     by_cases hjk : j = x.idx
     ·exact hjk
     ·simp only [hjk, decide_false, Bool.not_false, Bool.true_and, Bool.not_eq_false'] at h1
      obtain ⟨e, he, hbe, h5⟩ := through j oj h2 h1
      have h6 := h3 e he hbe
      rw [without_getD] at h6
      split at h6
      ·simp only [Bool.and_eq_true, Bool.not_eq_true', decide_eq_false_iff_not] at h6
       rcases h5 with h5 | h5
       ·exact absurd h5 h6.1
       ·rw [h6.2] at h5; cases h5
      ·cases h6
    ·intro j oj hj hjk hun hno
     have hjlt := (Array.getElem?_eq_some_iff.1 hj).1
     rw [bitsA_getD, if_pos hjlt] at hun
     obtain ⟨y, hy', e1, e2, e3, e4, e5⟩ := hlater j oj hjk hj hun
     have hmt := mixTail_mem hb2 hy'
     rw [hxro'] at hmt
     simp only [Bool.and_eq_true, Bool.or_eq_true] at hmt
     rcases hmt.1 with h1 | h1
     ·rw [e4] at h1
      rcases dirOf_bit _ _ h1 with h2 | ⟨e, he, hbe, h2⟩
      ·simp at h2
      ·exact absurd h2 (hno e (by simpa using he) hbe)
     ·rw [e2] at h1; exact h1
    ·intro j hj
     rw [bitsA_getD] at hj
     split at hj
     ·rename_i hjlt
      rw [without_getD, if_pos hjlt]
      have hne : j ≠ x.idx := by intro e; rw [e, hb0] at hj; cases hj
      have : (asv.getD j 0).testBit x.idx = false := by
       cases hbit : (asv.getD j 0).testBit x.idx with
       | false => rfl
       | true =>
        have := sub_bits (hdone j hj).2 hbit
        rw [hb0] at this; cases this
      simp only [hne, decide_false, Bool.not_false, Bool.true_and, Bool.not_eq_true', this]
     ·cases hj
    ·intro j hj hLj
     rw [bitsA_getD] at hj
     split at hj
     ·rename_i hjlt
      rw [without_getD, if_pos hjlt] at hLj
      simp only [Bool.and_eq_true, Bool.not_eq_true', decide_eq_false_iff_not] at hLj
      exact hpres j hjlt hLj.1 hj hLj.2
     ·cases hj
   rcases hst with ⟨v, l', fl', fp, hfp, h1, h01, h2, h3, h4, h5⟩ | ⟨l', fl', h1, h3, h4, h5⟩ | ⟨hn, h1, h2⟩
   ·have hCx : ∀ y ∈ C, y ∈ addC (itOf x) fp C := fun y hy => by simp [addC, itOf, hy]
    refine wpAnyE_mono hCx _ _ _ _ ?_
    refine go v (OKw P x.o.op fp w) _ ?_ (.inl ⟨h1, h2⟩) ?_ (ih ?_ h3 h4 h5)
    ·intro j hjlt hjk hun hanc0 w1 w2 hg hok
     rcases hok with hok | ⟨hok, hx⟩ | ⟨hok, hc⟩
     ·exact .inl hok
     ·have hj' : ops[j]? = some ops[j] := by simp [hjlt]
      obtain ⟨y, hy', e1, e2, e3, e4, e5⟩ := hlater j ops[j] hjk hj' hun
      have hmt := mixTail_mem hb2 hy'
      rw [hxro'] at hmt
      simp only [Bool.and_eq_true, Bool.or_eq_true] at hmt
      rcases hmt.2 with ((h7 | h7) | h7) | h7
      ·exact .inl h7
      ·rw [hok] at h7; cases h7
      ·rw [e3, hanc0] at h7; cases h7
      ·refine .inr (.inl ⟨hok, hx.trans (hg.1 ?_)⟩)
       simp only [headAt, hj']
       rw [← e5]; exact h7
     ·refine .inr (.inr ⟨hok, fun z hz => ?_⟩)
      exact hg.2 (x.idx, z) (by simp [addC, itOf, hz]) hanc0 (hc z hz)
    ·unfold OKw
     cases hb : isLoad P x.o.op with
     | true => exact .inr (.inr ⟨rfl, h01⟩)
     | false => exact .inr (.inl ⟨rfl, Ext.refl w⟩)
    ·intro y hy
     simp only [addC, itOf, List.mem_append, List.mem_map] at hy
     rcases hy with ⟨z, hz, rfl⟩ | hy
     ·exact ⟨h01 z hz, loadsOf_bit (List.mem_of_getElem? hri) (by
       cases hll : isLoad P x.o.op with
       | true => rfl
       | false => rw [hfp hll] at hz; cases hz)⟩
     ·exact hC y hy
   ·exact go undef (fun _ => True) C (fun _ _ _ _ _ _ _ _ _ => trivial) (.inr ⟨h1, rfl⟩) trivial (ih hC h3 h4 h5)
   ·have hn' : dRoOk P x.o.op = false := hn
    rw [hro] at hn'; cases hn'
  ·have hro : dRoOk P x.o.op = false := hxro ▸ hxro'
   unfold wpOp
   simp only [h0]
   rw [bitsA_set]
   rcases hst with ⟨v, l', fl', fp, hfp, h1, h01, h2, h3, h4, h5⟩ | ⟨l', fl', h1, h3, h4, h5⟩ | ⟨hn, h1, h2⟩
   ·have h1' : Region.wanted x.o (yielded ops a.tmps) = true := h1
    rw [if_pos h1']
    refine .inl ?_
    unfold Oper.wp
    have h2' : (execOp a.eval x.o).run P w = .ok (.value v) w := h2 w (by
     unfold OKw
     cases hb : isLoad P (itOf x).o.op with
     | true => exact .inr (.inr ⟨rfl, h01⟩)
     | false => exact .inr (.inl ⟨rfl, Ext.refl w⟩))
    rw [h2']
    refine ⟨Gd.refl, ?_⟩
    refine wpAnyE_mono (C' := addC (itOf x) fp C) (fun y hy => by simp [addC, itOf, hy]) _ _ _ _ (ih ?_ h3 h4 h5)
    intro y hy
    simp only [addC, itOf, List.mem_append, List.mem_map] at hy
    rcases hy with ⟨z, hz, rfl⟩ | hy
    ·exact ⟨h01 z hz, loadsOf_bit (List.mem_of_getElem? hri) (by
      cases hll : isLoad P x.o.op with
      | true => rfl
      | false => rw [hfp hll] at hz; cases hz)⟩
    ·exact hC y hy
   ·have h1' : Region.wanted x.o (yielded ops a.tmps) = false := h1
    rw [if_neg (by rw [h1']; simp)]
    exact ⟨Gd.refl, ih hC h3 h4 h5⟩
   ·have h1' : Region.wanted x.o (yielded ops a.tmps) = true := h1
    rw [if_pos h1']
    refine .inl (Oper.wp_mono ?_ (h2 Q hE))
    rintro a' w' ⟨hxx, hkp, v, l', fl', rfl, h3, h4, h5⟩
    have hcells : ∀ y ∈ C, (asv.getD x.idx 0).testBit y.1 = false → holdAt w' y.2 := by
     intro y hy hb
     cases hal : isAlloc x.o.op with
     | true => exact (hxx hal).hold (hC y hy).1
     | false =>
      have := hkp hal
      simp only [keepOk, itOf] at this
      exact this y hy (by rw [← haxD]; exact hb)
    refine ⟨⟨fun hh => hxx ?_, fun y hy hb _ => hcells y hy hb⟩, ?_⟩
    ·have : headOp P x.o = true := by simpa [headAt, h0] using hh
     have hn' : dRoOk P x.o.op = false := hn
     simp only [headOp, hn', Bool.false_or] at this
     exact this
    ·refine wpAnyE_more (C2 := dropC (itOf x) C) trivial _ _ _ _ ?_ (ih ?_ h3 h4 h5)
     ·intro y hy
      cases hb : x.anc.testBit y.1 with
      | false => exact .inl (by simp [dropC, itOf, hy, hb])
      | true =>
       refine .inr fun i hi => ?_
       rw [bitsA_getD] at hi
       split at hi
       ·rename_i hilt
        simp only [Nat.testBit_or, Bool.or_eq_false_iff, Nat.testBit_two_pow, decide_eq_false_iff_not] at hi
        have hi' : ops[i]? = some ops[i] := by simp [hilt]
        obtain ⟨z, hz, e1, e2, e3, e4, e5⟩ := hlater i ops[i] (fun e => hi.2 e.symm) hi' hi.1
        have hmt := List.all_eq_true.1 htl z hz
        simp only [Bool.or_eq_true] at hmt
        rcases hmt with hmt | hmt
        ·left; simp only [headAt, hi']; rw [← e5]; exact hmt
        ·right
         rw [← e3]
         exact sub_bits (Nat.eq_of_beq_eq_true hmt) (by rw [Nat.testBit_and, hb, (hC y hy).2]; rfl)
       ·cases hi
     ·intro y hy
      simp only [dropC, itOf, List.mem_filter, Bool.not_eq_true'] at hy
      exact ⟨hcells y hy.1 (by rw [haxD]; exact hy.2), (hC y hy.1).2⟩
end
def bitsOf (is : List Nat) : Nat := is.foldl (fun s i => s ||| 2 ^ i) 0
def pendAt (rows : List Row) (fls : List Nat) (mask : Nat) : List Nat := fls.filter fun i => !Nat.testBit mask i && match rows[i]? with
 | some y => isOn mask y
 | none => false
def has (is : List Nat) (j : Nat) : Bool := is.any fun i => Nat.beq i j
def coverF (rows : List Row) (pm : List Nat) (mask on : Nat) (e : Option Nat) : Bool :=
 rows.all fun y => Nat.testBit mask y.idx || has pm y.idx || (match e with
  | some i => Nat.beq i y.idx
  | none => false) || !isOn on y
def flCheck (P : Program) (ops : Array Oper) (rows : List Row) (fls : List Nat) : List Itm → Nat → Bool
 | [], mask => (List.range ops.size).all fun i => Nat.testBit mask i
 | .ro i :: r, mask => match rows[i]? with
  | some x => x.ro && isOn mask x && !Nat.testBit mask i && mixTail P ops x (rest rows mask i) && flCheck P ops rows fls r (mask ||| 2 ^ i)
  | none => false
 | .eff i :: r, mask => match rows[i]? with
  | some x => !x.ro && !has fls i && isOn mask x && !Nat.testBit mask i && tailE (loadsOf P rows) x (rest rows mask i) &&
    coverF rows (pendAt rows fls mask) mask (mask ||| bitsOf (pendAt rows fls mask)) (some i) && flCheck P ops rows fls r (mask ||| 2 ^ i)
  | none => false
 | .settle i :: r, mask => has (pendAt rows fls mask) i &&
   coverF rows (pendAt rows fls mask) mask (mask ||| bitsOf ((pendAt rows fls mask).filter fun j => !Nat.beq j i)) none && flCheck P ops rows fls r (mask ||| 2 ^ i)
def floatsOk (ops : Array Oper) (rows : List Row) (fls : List Nat) : Bool :=
 fls.all fun i => match rows[i]? with
  | some x => isAlloc x.o.op && !x.ro && rows.all fun y => Nat.beq y.idx i || ((match x.o.dst, y.o.dst with
    | some d, some d' => !Nat.beq d d'
    | _, _ => true) && (Nat.testBit x.anc y.idx || match y.o.dst with
    | some d => !(x.o.looksAt ops).contains d
    | none => true) && (match y.o.guard, x.o.dst with
    | some (j, _), some d => (match (ops[j]?).bind (·.dst) with
     | some d' => !Nat.beq d d'
     | none => true)
    | _, _ => true))
  | none => false
def remOf (n D : Nat) : Nat := ((List.range n).filter fun j => !Nat.testBit D j).length
theorem filter_lt {l : List Nat} {p q : Nat → Bool} {i : Nat} (hi : i ∈ l) (hp : p i = true) (hq : q i = false) (h : ∀ j, q j = true → p j = true) : (l.filter q).length + 1 ≤ (l.filter p).length := by
 induction l with
 | nil => cases hi
 | cons x l ih =>
  have hle : (l.filter q).length ≤ (l.filter p).length := by
   clear ih hi
   induction l with
   | nil => simp
   | cons y l ih =>
    simp only [List.filter_cons]
    cases hqy : q y with
    | true => rw [h y hqy]; simpa using ih
    | false => cases hpy : p y <;> simp <;> omega
  rcases List.mem_cons.1 hi with rfl | hi
  ·simp only [List.filter_cons, hp, hq, if_true, Bool.false_eq_true, if_false, List.length_cons]; omega
  ·have := ih hi
   simp only [List.filter_cons]
   cases hqx : q x with
   | true => rw [h x hqx]; simp; omega
   | false => cases hpx : p x <;> simp <;> omega
theorem rem_set {n D i : Nat} (hi : i < n) (h : D.testBit i = false) : remOf n (D ||| 2 ^ i) + 1 ≤ remOf n D := by
 refine filter_lt (List.mem_range.2 hi) (by simp [h]) (by simp [Nat.testBit_or]) ?_
 intro j hj
 simp only [Nat.testBit_or, Bool.not_or, Bool.and_eq_true] at hj
 exact hj.1
theorem putK_keep {N : NX} {fl : FEnv} {dst : Option Nat} {l : Env} {v : Value} {K R : Env → Prop} (hR : ∀ l', (∀ t, dst ≠ some t → gt l' t = gt l t) → R l') :
  putK N fl dst l v K = putK N fl dst l v (fun l' => K l' ∧ R l') := by
 cases dst with
 | none => simp [putK, hR l (fun _ _ => rfl)]
 | some d =>
  simp only [putK]
  congr 1
  apply propext
  refine ⟨fun h => ⟨h, hR _ fun t ht => ?_⟩, fun h => h.1⟩
  simp only [gt]
  cases hb : Nat.beq d t with
  | false => rfl
  | true => exact absurd (by rw [Nat.eq_of_beq_eq_true hb]) ht
theorem exec1_keep {P : Program} {N : NX} {it : It} {l : Env} {fl : FEnv} {C : CEnv} {w : World} {K : Env → CEnv → World → Prop} {R : Env → Prop} (hR : ∀ l', (∀ t, it.o.dst ≠ some t → gt l' t = gt l t) → R l') :
  exec1 P N it l fl C w K = exec1 P N it l fl C w (fun l' C' w' => K l' C' w' ∧ R l') := by
 unfold exec1
 congr 1
 ·congr 1
  funext v fp
  congr 1
  funext v
  rw [putK_keep hR]
 ·refine congrArg (dEffE P N it.o.op it.o.type (look l fl []) w) ?_
  funext v w'
  congr 1
  rw [putK_keep hR]
def Kept (ops : Array Oper) (o : Oper) (l : Env) (fl : FEnv) (l' : Env) (fl' : FEnv) : Prop :=
 ∀ t, o.dst ≠ some t → (∀ j want, o.guard = some (j, want) → (ops[j]?).bind (·.dst) ≠ some t) → gt l' t = gt l t ∧ (flFree fl t = true → flFree fl' t = true)
theorem gt_cons {l : Env} {g t : Nat} {v : Option Value} (h : g ≠ t) : gt ((g, v) :: l) t = gt l t := by
 simp only [gt]
 cases hb : Nat.beq g t with
 | false => rfl
 | true => exact absurd (Nat.eq_of_beq_eq_true hb) h
theorem lookFlags_free {fl : FEnv} {t g : Nat} {G : List (Nat × Bool)} (h : flFree fl t = true) (hg : lookFlags fl g = some G) : ∀ x ∈ G, x.1 ≠ t := by
 induction fl with
 | nil => simp [lookFlags] at hg
 | cons y fl ih =>
  obtain ⟨d, G', v⟩ := y
  simp only [lookFlags] at hg
  have hall := of_flFree h
  cases hb : Nat.beq d g with
  | true =>
   rw [hb] at hg
   simp only [cond_true, Option.some.injEq] at hg
   subst hg
   exact (hall (d, G', v) (by simp)).2
  | false =>
   rw [hb] at hg
   refine ih ?_ hg
   unfold flFree at h ⊢
   simp only [List.all_cons, Bool.and_eq_true] at h
   exact h.2
theorem dStep_keep {P : Program} {N : NX} {ops : Array Oper} {split : Bool} {it : It} {l : Env} {fl : FEnv} {C : CEnv} {w : World} {G : Env → FEnv → CEnv → World → Prop} (h : dStep P N ops split it l fl C w G) :
  dStep P N ops split it l fl C w (fun l' fl' C' w' => G l' fl' C' w' ∧ Kept ops it.o l fl l' fl') := by
 have base : ∀ l', (∀ t, it.o.dst ≠ some t → gt l' t = gt l t) → Kept ops it.o l fl l' fl := fun l' h t h1 _ => ⟨h t h1, id⟩
 unfold dStep at h ⊢
 split at h
 ·rename_i hg
  rw [exec1_keep base] at h
  simp only [hg]
  exact h
 ·rename_i j want hg
  simp only [hg]
  split at h
  ·exact h.elim
  ·rename_i g hgd
   have base2 : ∀ (b : Bool) l', (∀ t, it.o.dst ≠ some t → gt l' t = gt ((g, some (.bool b)) :: l) t) → Kept ops it.o l fl l' fl := fun b l' h t h1 h2 =>
    ⟨(h t h1).trans (gt_cons (by intro e; subst e; exact h2 j want hg hgd)), id⟩
   split at h
   ·split at h
    ·rename_i c hc
     split at h
     ·rename_i hct
      rw [if_pos hct]
      cases want with
      | true => simp only [cond_true] at h ⊢; rw [exec1_keep (base2 true)] at h; exact h
      | false => simp only [cond_false] at h ⊢; rw [putK_keep (base2 true)] at h; exact h
     ·rename_i hct
      rw [if_neg hct]
      cases want with
      | true => simp only [cond_true] at h ⊢; rw [putK_keep (base2 false)] at h; exact h
      | false => simp only [cond_false] at h ⊢; rw [exec1_keep (base2 false)] at h; exact h
    ·rename_i hc
     rw [putK_keep base] at h
     exact h
    ·exact h.elim
   ·split at h
    ·exact h.elim
    ·rename_i G' hG
     split at h
     ·rename_i v d hv hd
      cases hb : (Nat.blt d N.n && flFree fl d && ((g, want) :: G').all fun x => !(Nat.beq x.1 d)) with
      | false => rw [hb] at h; exact h.elim
      | true =>
       rw [hb] at h
       simp only [cond_true] at h ⊢
       refine ⟨h, fun t h1 h2 => ⟨gt_cons (by intro e; subst e; exact h1 hd), fun hf => ?_⟩⟩
       have hgt : g ≠ t := by intro e; subst e; exact h2 j want hg hgd
       have hdt : d ≠ t := by intro e; subst e; exact h1 hd
       have hGt : ∀ x ∈ G', x.1 ≠ t := by
        unfold flagsOf at hG
        split at hG
        ·simp only [Option.some.injEq] at hG; subst hG; simp
        ·exact lookFlags_free hf hG
        ·cases hG
       unfold flFree at hf ⊢
       simp only [List.all_cons, hf, Bool.and_true]
       have nb : ∀ {x y : Nat}, x ≠ y → Nat.beq x y = false := fun {x y} hne => by
        cases hb : Nat.beq x y with
        | false => rfl
        | true => exact absurd (Nat.eq_of_beq_eq_true hb) hne
       simp only [nb hdt, nb hgt, Bool.not_false, Bool.true_and]
       exact List.all_eq_true.2 fun x hx => by rw [nb (hGt x hx)]; rfl
     ·exact h.elim
section
variable {P : Program} {N : NX} {ops : Array Oper}
def PIn (P : Program) (rows : List Row) (fls : List Nat) (mask : Nat) (a : Act) (p : FlI) : Prop :=
 ∃ x, rows[p.idx]? = some x ∧ x.o.dst = some p.dst ∧ x.o.guard = none ∧ has fls p.idx = true ∧ isOn mask x = true ∧
  (p.y = none → ∀ w, (execOp a.eval x.o).run P w = .ok (.value (p.val ⟨w.heap.size, 0, none⟩)) (w.alloc p.obj)) ∧ (∀ ad, p.y = some ad → a.tmps[p.dst]? = some (p.val ad))
structure FSt (ds : List Deferred) (P : Program) (N : NX) (ops : Array Oper) (asv : List Nat) (rows : List Row) (fls : List Nat) (a0 : Act) (mask D : Nat) (wait : List Row) (pend : List FlI) (l : Env) (fl : FEnv) (C : CEnv) (w : World) (a : Act) : Prop where
 env : EnvOk ds N a l
 flo : FlOk a fl
 cells : ∀ x ∈ C, holdAt w x.2 ∧ (loadsOf P rows).testBit x.1 = true
 pin : ∀ p ∈ pend, PIn P rows fls mask a p
 free : ∀ p ∈ pend, (∀ v, gt l p.dst ≠ some (some v)) ∧ flFree fl p.dst = true ∧ p.dst < N.n
 nod : (pend.map (·.idx)).Nodup
 pm : ∀ p ∈ pend, mask.testBit p.idx = false
 sub : ∀ j, D.testBit j = true ↔ mask.testBit j = true ∨ ∃ p ∈ pend, p.idx = j ∧ p.y ≠ none
 dn : ∀ j, D.testBit j = true → j < ops.size ∧ asv.getD j 0 ||| D = D
 wt : ∀ y ∈ wait, rows[y.idx]? = some y ∧ has fls y.idx = true ∧ mask.testBit y.idx = false ∧ ∀ p ∈ pend, p.idx ≠ y.idx
 wnd : (wait.map (·.idx)).Nodup
 all : ∀ i, has fls i = true → mask.testBit i = false → i < rows.length → (∃ p ∈ pend, p.idx = i) ∨ ∃ y ∈ wait, y.idx = i
 off : Off (dstsOf ops.toList) a0 a
theorem EnvOk.shadow {a : Act} {l : Env} {d : Nat} (h : EnvOk ds N a l) : EnvOk ds N a ((d, none) :: l) := by
 refine ⟨h.size, h.defers, fun t u hu => ?_⟩
 simp only [gt] at hu
 cases hb : Nat.beq d t with
 | true => rw [hb] at hu; simp at hu
 | false => rw [hb] at hu; exact h.at' t u hu
theorem act_ok {asv : List Nat} {rows : List Row} {fls : List Nat} {a0 : Act} {mask D : Nat} {fl : FEnv} {C : CEnv} {w : World} {a : Act} {K : Env → List FlI → Prop} :
  ∀ (on off : List Row) (pend : List FlI) (l : Env), (∀ y ∈ on, isOn mask y = true) → FSt ds P N ops asv rows fls a0 mask D (on ++ off) pend l fl C w a → actAll P N fl on l pend K →
   ∃ l1 more, K l1 (pend ++ more) ∧ FSt ds P N ops asv rows fls a0 mask D off (pend ++ more) l1 fl C w a ∧ (∀ y ∈ on, ∃ p ∈ pend ++ more, p.idx = y.idx)
 | [], off, pend, l, _, hst, h => ⟨l, [], by simpa [actAll] using h, by simpa using hst, by simp⟩
 | x :: on, off, pend, l, hon, hst, h => by
  simp only [actAll] at h
  split at h
  ·rename_i d hg hd
   cases hb : (Nat.blt d N.n && flFree fl d) with
   | false => rw [hb] at h; exact h.elim
   | true =>
    rw [hb] at h
    simp only [cond_true] at h
    simp only [Bool.and_eq_true] at hb
    obtain ⟨⟨dst, op, ty, pos, after, guard⟩, idx, anc, dir, ro, hdd⟩ := x
    simp only at hg hd
    subst hd
    subst hg
    obtain ⟨obj, val, hrun, h⟩ := of_flAct (ty := ty) (fun x v hx => of_look hst.env hst.flo holds_nil x v hx) h (some d) pos after none
    have hw := hst.wt _ (List.mem_append_left _ List.mem_cons_self)
    have hnd := hst.wnd
    simp only [List.cons_append, List.map_cons, List.nodup_cons] at hnd
    have hst' : FSt ds P N ops asv rows fls a0 mask D (on ++ off) (pend ++ [⟨idx, obj, val, d, none⟩]) ((d, none) :: l) fl C w a := by
     refine { env := hst.env.shadow, flo := hst.flo, cells := hst.cells, pin := ?_, free := ?_, nod := ?_, pm := ?_, sub := ?_, dn := hst.dn, wt := ?_, wnd := hnd.2, all := ?_, off := hst.off }
     ·intro p hp
      rcases List.mem_append.1 hp with hp | hp
      ·exact hst.pin p hp
      ·simp only [List.mem_singleton] at hp
       subst hp
       exact ⟨_, hw.1, rfl, rfl, hw.2.1, hon _ (by simp), fun _ => hrun, fun ad h => by cases h⟩
     ·intro p hp
      rcases List.mem_append.1 hp with hp | hp
      ·refine ⟨fun v => ?_, (hst.free p hp).2⟩
       by_cases e : d = p.dst
       ·subst e; simp [gt]
       ·rw [gt_cons e]; exact (hst.free p hp).1 v
      ·simp only [List.mem_singleton] at hp
       subst hp
       exact ⟨fun v => by simp [gt], hb.2, by simpa [Nat.blt_eq] using hb.1⟩
     ·rw [List.map_append, List.nodup_append]
      refine ⟨hst.nod, by simp, ?_⟩
      rintro x hx y hy rfl
      simp only [List.map_cons, List.map_nil, List.mem_singleton] at hy
      obtain ⟨p, hp, he⟩ := List.mem_map.1 hx
      exact hw.2.2.2 p hp (he.trans hy)
     ·intro p hp
      rcases List.mem_append.1 hp with hp | hp
      ·exact hst.pm p hp
      ·simp only [List.mem_singleton] at hp
       subst hp
       exact hw.2.2.1
     ·intro j
      rw [hst.sub j]
      refine or_congr Iff.rfl ⟨?_, ?_⟩
      ·rintro ⟨p, hp, h⟩; exact ⟨p, List.mem_append_left _ hp, h⟩
      ·rintro ⟨p, hp, h1, h2⟩
       rcases List.mem_append.1 hp with hp | hp
       ·exact ⟨p, hp, h1, h2⟩
       ·simp only [List.mem_singleton] at hp
        subst hp
        exact absurd rfl h2
     ·intro y hy
      obtain ⟨h1, h2, h3, h4⟩ := hst.wt y (List.mem_cons_of_mem _ hy)
      refine ⟨h1, h2, h3, fun p hp => ?_⟩
      rcases List.mem_append.1 hp with hp | hp
      ·exact h4 p hp
      ·simp only [List.mem_singleton] at hp
       subst hp
       intro e
       exact hnd.1 (List.mem_map.2 ⟨y, hy, e.symm⟩)
     ·intro i h1 h2 h3
      rcases hst.all i h1 h2 h3 with ⟨p, hp, he⟩ | ⟨y, hy, he⟩
      ·exact .inl ⟨p, List.mem_append_left _ hp, he⟩
      ·rcases List.mem_cons.1 hy with rfl | hy
       ·exact .inl ⟨_, List.mem_append_right _ (List.mem_singleton.2 rfl), he⟩
       ·exact .inr ⟨y, hy, he⟩
    obtain ⟨l1, more, hK, hs, hcov⟩ := act_ok on off _ _ (fun y hy => hon y (List.mem_cons_of_mem _ hy)) hst' h
    refine ⟨l1, [⟨idx, obj, val, d, none⟩] ++ more, by simpa using hK, by simpa using hs, ?_⟩
    intro y hy
    rcases List.mem_cons.1 hy with rfl | hy
    ·exact ⟨⟨idx, obj, val, d, none⟩, by simp, rfl⟩
    ·obtain ⟨p, hp, he⟩ := hcov y hy
     exact ⟨p, by simpa using hp, he⟩
  ·exact h.elim
end
section
variable {P : Program} {N : NX} {ops : Array Oper}
theorem floats_spec {rows : List Row} {fls : List Nat} (h : floatsOk ops rows fls = true) {i : Nat} {x : Row} (hi : has fls i = true) (hx : rows[i]? = some x) :
  isAlloc x.o.op = true ∧ x.ro = false ∧ ∀ y ∈ rows, y.idx ≠ i → (∀ d d', x.o.dst = some d → y.o.dst = some d' → d ≠ d') ∧ (x.anc.testBit y.idx = true ∨ ∀ d, y.o.dst = some d → d ∉ x.o.looksAt ops) ∧ (∀ j want d, y.o.guard = some (j, want) → x.o.dst = some d → (ops[j]?).bind (·.dst) ≠ some d) := by
 obtain ⟨j, hj, he⟩ := List.any_eq_true.1 hi
 have := List.all_eq_true.1 h j hj
 rw [Nat.eq_of_beq_eq_true he, hx] at this
 simp only [Bool.and_eq_true, Bool.not_eq_true'] at this
 obtain ⟨⟨h1, h2⟩, h3⟩ := this
 refine ⟨h1, h2, fun y hy hne => ?_⟩
 have h4 := List.all_eq_true.1 h3 y hy
 simp only [Bool.or_eq_true, Bool.and_eq_true] at h4
 rcases h4 with h4 | ⟨⟨h4, h5⟩, h6⟩
 ·exact absurd (Nat.eq_of_beq_eq_true h4) hne
 ·refine ⟨fun d d' hd hd' => ?_, ?_, fun j want d hg hd he => ?_⟩
  ·rw [hd, hd'] at h4
   intro e
   subst e
   simp at h4
  ·rcases h5 with h5 | h5
   ·exact .inl h5
   ·refine .inr fun d hd => ?_
    rw [hd] at h5
    simpa using h5
  ·rw [hg, hd] at h6
   simp only [he] at h6
   simp at h6
theorem PIn.put {rows : List Row} {fls : List Nat} {mask : Nat} {a : Act} {p : FlI} {o : Oper} {v : Value} (hs : Region.noSelect ops = true) (h : PIn P rows fls mask a p)
  (hops : ∀ (i : Nat) (x : Row), rows[i]? = some x → ops[i]? = some x.o) (hd : o.dst ≠ some p.dst) (hl : ∀ x : Row, rows[p.idx]? = some x → ∀ d, o.dst = some d → d ∉ x.o.looksAt ops) : PIn P rows fls mask (a.put o.dst v) p := by
 obtain ⟨x, h1, h2, h3, h4, h5, h6, h7⟩ := h
 refine ⟨x, h1, h2, h3, h4, h5, fun hy w => ?_, fun ad had => ?_⟩
 ·rw [execOp_put (ops := ops) x.o (fun cs b => Region.noSelect_spec hs p.idx x.o cs b (hops _ _ h1)) a o.dst v (hl x h1)]
  exact h6 hy w
 ·cases hod : o.dst with
  | none => exact h7 ad had
  | some d =>
   rw [put_get, if_neg]
   ·exact h7 ad had
   ·intro e; apply hd; rw [hod, e]
theorem EnvOk.putFree {a : Act} {l : Env} {d : Nat} {v : Value} (h : EnvOk ds N a l) (hf : ∀ u, gt l d ≠ some (some u)) : EnvOk ds N (a.put (some d) v) l := by
 refine ⟨by simp [Act.put, h.size], by simp [Act.put, h.defers], fun t u hu => ?_⟩
 rw [put_get, if_neg]
 ·exact h.at' t u hu
 ·intro e; subst e; exact hf u hu
theorem nod_ne {pend : List FlI} (h : (pend.map (·.idx)).Nodup) {j k : Nat} {q p : FlI} (hj : pend[j]? = some q) (hk : pend[k]? = some p) (hne : j ≠ k) : q.idx ≠ p.idx := by
 have hp := List.pairwise_iff_getElem.1 h
 obtain ⟨hjl, rfl⟩ := List.getElem?_eq_some_iff.1 hj
 obtain ⟨hkl, rfl⟩ := List.getElem?_eq_some_iff.1 hk
 rcases Nat.lt_or_gt_of_ne hne with h1 | h1
 ·have := hp j k (by simpa using hjl) (by simpa using hkl) h1
  simpa using this
 ·have := hp k j (by simpa using hkl) (by simpa using hjl) h1
  intro e
  simp [e] at this
theorem fl_exec (hs : Region.noSelect ops = true) {asv : List Nat} (has0 : asv = ancL ops.toList []) {rows : List Row} (hrows : rows = rowsOf P 0 ops.toList asv) {fls : List Nat} (hfo : floatsOk ops rows fls = true) {a0 : Act} {mask D : Nat} {wait : List Row} {pend : List FlI}
  {l : Env} {fl : FEnv} {C : CEnv} {w : World} {a : Act} (hst : FSt ds P N ops asv rows fls a0 mask D wait pend l fl C w a) (hmD : ∀ x : Row, isOn mask x = true → x.anc ||| D = D) {k : Nat} {p : FlI} (hk : pend[k]? = some p) (hy : p.y = none)
  {Q : Exit → Act → World → Prop} {R : Act → World → Prop}
  (H : ∀ a', FSt ds P N ops asv rows fls a0 mask (D ||| 2 ^ p.idx) wait (pend.set k { p with y := some ⟨w.heap.size, 0, none⟩ }) l fl C (w.alloc p.obj) a' → R a' (w.alloc p.obj)) :
  wpOp P ops Q p.idx (fun a' w' => Gd P ops asv C p.idx w w' ∧ R a' w') a w := by
 have hp : p ∈ pend := List.mem_of_getElem? hk
 have hkl : k < pend.length := (List.getElem?_eq_some_iff.1 hk).1
 obtain ⟨x, h1, h2, h3, h4, h5, h6, h7⟩ := hst.pin p hp
 have hops : ∀ (i : Nat) (x : Row), rows[i]? = some x → ops[i]? = some x.o := fun i x hx => (row_fact hrows hx).2.1
 have hspec := floats_spec hfo h4 h1
 have hfree := hst.free p hp
 unfold wpOp
 simp only [hops _ _ h1]
 rw [if_pos (by simp [Region.wanted, h3])]
 refine .inl ?_
 unfold Oper.wp
 rw [h6 hy w]
 have hext : Ext w (w.alloc p.obj) := Ext.alloc w p.obj
 refine ⟨⟨fun _ => hext, fun y hy _ hc => hext.hold hc⟩, ?_⟩
 rw [h2]
 refine H _ { env := hst.env.putFree hfree.1, flo := hst.flo.put hfree.2.1, cells := fun y hy => ⟨hext.hold (hst.cells y hy).1, (hst.cells y hy).2⟩, pin := ?_, free := ?_, nod := ?_, pm := ?_, sub := ?_, dn := ?_, wt := ?_, wnd := hst.wnd, all := ?_, off := ?_ }
 ·intro q hq
  have hne : ∀ q ∈ pend, q.idx ≠ p.idx → PIn P rows fls mask (a.put (some p.dst) (p.val ⟨w.heap.size, 0, none⟩)) q := by
   intro q hq hne
   obtain ⟨xq, g1, g2, g3, g4, g5, g6, g7⟩ := hst.pin q hq
   have hx := row_fact hrows h1
   have hxq := row_fact hrows g1
   have := PIn.put (o := x.o) (v := p.val ⟨w.heap.size, 0, none⟩) hs (hst.pin q hq) hops (by
    rw [h2]
    intro e
    simp only [Option.some.injEq] at e
    exact (hspec.2.2 xq (List.mem_of_getElem? g1) (by rw [hxq.1]; exact hne)).1 _ _ h2 g2 e) (by
    intro x' hx' d hd
    obtain rfl := Option.some.inj (g1.symm.trans hx')
    rcases ((floats_spec hfo g4 g1).2.2 x (List.mem_of_getElem? h1) (by rw [hx.1]; exact fun e => hne e.symm)).2.1 with h | h
    ·exfalso
     rw [hx.1] at h
     have := sub_bits (Nat.eq_of_beq_eq_true g5) h
     rw [hst.pm p hp] at this; cases this
    ·exact h d hd)
   rw [h2] at this
   exact this
  obtain ⟨j, hj⟩ := List.getElem?_of_mem hq
  by_cases ejk : k = j
  ·subst ejk
   rw [List.getElem?_set_self hkl] at hj
   obtain rfl := Option.some.inj hj
   refine ⟨x, h1, h2, h3, h4, h5, (fun h => by cases h), fun ad had => ?_⟩
   ·simp only [Option.some.injEq] at had
    subst had
    rw [put_get, if_pos rfl, if_pos (by rw [hst.env.size]; exact hfree.2.2)]
  ·rw [List.getElem?_set_ne ejk] at hj
   exact hne q (List.mem_of_getElem? hj) (nod_ne hst.nod hj hk (fun e => ejk e.symm))
 ·intro q hq
  obtain ⟨j, hj⟩ := List.getElem?_of_mem hq
  by_cases ejk : k = j
  ·subst ejk
   rw [List.getElem?_set_self hkl] at hj
   obtain rfl := Option.some.inj hj
   exact hfree
  ·rw [List.getElem?_set_ne ejk] at hj
   exact hst.free q (List.mem_of_getElem? hj)
 ·have : (pend.set k { p with y := some ⟨w.heap.size, 0, none⟩ }).map (·.idx) = pend.map (·.idx) := by
   rw [List.map_set]
   apply List.ext_getElem?
   intro j
   rw [List.getElem?_set]
   split
   ·rename_i e; subst e; rw [if_pos (by simpa using hkl), List.getElem?_map, hk]; rfl
   ·rfl
  rw [this]; exact hst.nod
 ·intro q hq
  obtain ⟨j, hj⟩ := List.getElem?_of_mem hq
  by_cases ejk : k = j
  ·subst ejk
   rw [List.getElem?_set_self hkl] at hj
   obtain rfl := Option.some.inj hj
   exact hst.pm p hp
  ·rw [List.getElem?_set_ne ejk] at hj
   exact hst.pm q (List.mem_of_getElem? hj)
 ·intro j
  rw [Nat.testBit_or, Bool.or_eq_true, hst.sub j, Nat.testBit_two_pow, decide_eq_true_eq]
  constructor
  ·rintro ((h | ⟨q, hq, h1, h2⟩) | rfl)
   ·exact .inl h
   ·obtain ⟨jj, hj⟩ := List.getElem?_of_mem hq
    by_cases e : k = jj
    ·subst e
     rw [hk] at hj
     obtain rfl := Option.some.inj hj
     exact absurd hy h2
    ·exact .inr ⟨q, List.mem_of_getElem? (i := jj) (by rw [List.getElem?_set_ne e]; exact hj), h1, h2⟩
   ·exact .inr ⟨_, List.mem_of_getElem? (i := k) (List.getElem?_set_self hkl), rfl, by simp⟩
  ·rintro (h | ⟨q, hq, h1, h2⟩)
   ·exact .inl (.inl h)
   ·obtain ⟨jj, hj⟩ := List.getElem?_of_mem hq
    by_cases e : k = jj
    ·subst e
     rw [List.getElem?_set_self hkl] at hj
     obtain rfl := Option.some.inj hj
     exact .inr h1
    ·rw [List.getElem?_set_ne e] at hj
     exact .inl (.inr ⟨q, List.mem_of_getElem? hj, h1, h2⟩)
 ·intro j hj
  rw [Nat.testBit_or, Bool.or_eq_true, Nat.testBit_two_pow, decide_eq_true_eq] at hj
  rcases hj with hj | rfl
  ·obtain ⟨g1, g2⟩ := hst.dn j hj
   exact ⟨g1, by rw [← Nat.or_assoc, g2]⟩
  ·have hx := row_fact hrows h1
   refine ⟨(Array.getElem?_eq_some_iff.1 hx.2.1).1, ?_⟩
   have : asv.getD p.idx 0 = x.anc := by simp [hx.2.2]
   rw [this, ← Nat.or_assoc, hmD x h5]
 ·intro y hyw
  obtain ⟨g1, g2, g3, g4⟩ := hst.wt y hyw
  refine ⟨g1, g2, g3, fun q hq => ?_⟩
  obtain ⟨j, hj⟩ := List.getElem?_of_mem hq
  by_cases ejk : k = j
  ·subst ejk
   rw [List.getElem?_set_self hkl] at hj
   obtain rfl := Option.some.inj hj
   exact g4 p hp
  ·rw [List.getElem?_set_ne ejk] at hj
   exact g4 q (List.mem_of_getElem? hj)
 ·intro i g1 g2 g3
  rcases hst.all i g1 g2 g3 with ⟨q, hq, he⟩ | h
  ·obtain ⟨j, hj⟩ := List.getElem?_of_mem hq
   by_cases ejk : k = j
   ·subst ejk
    rw [hk] at hj
    obtain rfl := Option.some.inj hj
    exact .inl ⟨_, List.mem_of_getElem? (i := k) (List.getElem?_set_self hkl), he⟩
   ·exact .inl ⟨q, List.mem_of_getElem? (i := j) (by rw [List.getElem?_set_ne ejk]; exact hj), he⟩
  ·exact .inr h
 ·refine hst.off.trans ?_
  have := off_one (ops := ops) (o := x.o) (a := a) (v := p.val ⟨w.heap.size, 0, none⟩) (by
   obtain ⟨hh, he⟩ := Array.getElem?_eq_some_iff.1 (hops _ _ h1)
   rw [← he]; simp)
  rw [h2] at this
  exact this
theorem upd_set {base : List FlI} {p : FlI} {ad : Addr} : ∀ {pend : List FlI} {k : Nat}, upd base ((pend.map (·.y)).map Value.pointer) = pend → pend[k]? = some p →
  upd base (((pend.set k { p with y := some ad }).map (·.y)).map Value.pointer) = pend.set k { p with y := some ad } := by
 induction base with
 | nil =>
  intro pend k h hk
  simp only [upd] at h
  subst h
  simp at hk
 | cons b base ih =>
  intro pend k h hk
  cases pend with
  | nil => simp at hk
  | cons q pend =>
   simp only [List.map_cons, upd, List.cons.injEq] at h
   obtain ⟨h1, h2⟩ := h
   cases k with
   | zero =>
    simp only [List.getElem?_cons_zero, Option.some.injEq] at hk
    subst hk
    simp only [List.set_cons_zero, List.map_cons, upd, List.cons.injEq]
    refine ⟨?_, h2⟩
    rw [← h1]
   | succ k =>
    simp only [List.set_cons_succ, List.map_cons, upd, List.cons.injEq]
    exact ⟨h1, ih h2 (by simpa using hk)⟩
def isNone' (p : FlI) : Bool := p.y.isNone
theorem set_none_lt {ad : Addr} : ∀ {pend : List FlI} {k : Nat} {p : FlI}, pend[k]? = some p → p.y = none →
  ((pend.set k { p with y := some ad }).filter isNone').length + 1 = (pend.filter isNone').length
 | [], k, p, hk, _ => by simp at hk
 | q :: pend, 0, p, hk, hy => by
  simp only [List.getElem?_cons_zero, Option.some.injEq] at hk
  subst hk
  simp [isNone', hy]
 | q :: pend, k + 1, p, hk, hy => by
  have := set_none_lt (ad := ad) (pend := pend) (k := k) (p := p) (by simpa using hk) hy
  simp only [List.set_cons_succ, List.filter_cons]
  split
  ·simp only [List.length_cons]; omega
  ·exact this
theorem gap_ok (hs : Region.noSelect ops = true) {asv : List Nat} (has0 : asv = ancL ops.toList []) {rows : List Row} (hrows : rows = rowsOf P 0 ops.toList asv) {fls : List Nat} (hfo : floatsOk ops rows fls = true) {a0 : Act} {mask : Nat} {wait : List Row}
  {base : List FlI} {l : Env} {fl : FEnv} {C : CEnv} {Q : Exit → Act → World → Prop} {K' : List (Option Addr) → World → Prop}
  (hmask : ∀ x : Row, isOn mask x = true → ∀ D, (∀ j, mask.testBit j = true → D.testBit j = true) → x.anc ||| D = D)
  (H : ∀ pend D w a m, upd base ((pend.map (·.y)).map Value.pointer) = pend → pend.map (·.idx) = base.map (·.idx) → K' (pend.map (·.y)) w → FSt ds P N ops asv rows fls a0 mask D wait pend l fl C w a → remOf ops.size D ≤ m →
   wpAnyE P .any ops asv Q C m (bitsA ops.size D) a w ∨ ((∃ i, i ∈ Region.ready .any ops (bitsA ops.size D)) ∧ ∀ i ∈ Region.ready .any ops (bitsA ops.size D), (∃ p ∈ pend, p.idx = i ∧ p.y = none) ∨
    ∀ m', m = m' + 1 → wpOp P ops Q i (fun a' w' => Gd P ops asv C i w w' ∧ wpAnyE P .any ops asv Q C m' ((bitsA ops.size D).setIfInBounds i true) a' w') a w)) :
  ∀ (n : Nat) (pend : List FlI) (D : Nat) (w : World) (a : Act) (m : Nat), FlN (base.map (·.obj)) K' n (pend.map (·.y)) w → pend.map (·.obj) = base.map (·.obj) → upd base ((pend.map (·.y)).map Value.pointer) = pend → pend.map (·.idx) = base.map (·.idx) →
   (pend.filter isNone').length ≤ n → FSt ds P N ops asv rows fls a0 mask D wait pend l fl C w a → remOf ops.size D ≤ m → wpAnyE P .any ops asv Q C m (bitsA ops.size D) a w := by
 have common : ∀ (n : Nat) (pend : List FlI) (D : Nat) (w : World) (a : Act) (m : Nat), FlN (base.map (·.obj)) K' n (pend.map (·.y)) w → pend.map (·.obj) = base.map (·.obj) → upd base ((pend.map (·.y)).map Value.pointer) = pend → pend.map (·.idx) = base.map (·.idx) →
   FSt ds P N ops asv rows fls a0 mask D wait pend l fl C w a → remOf ops.size D ≤ m →
   (∀ (k : Nat) (p : FlI), pend[k]? = some p → p.y = none → ∀ m', m = m' + 1 → p.idx ∈ Region.ready .any ops (bitsA ops.size D) → wpOp P ops Q p.idx (fun a' w' => Gd P ops asv C p.idx w w' ∧ wpAnyE P .any ops asv Q C m' ((bitsA ops.size D).setIfInBounds p.idx true) a' w') a w) →
   wpAnyE P .any ops asv Q C m (bitsA ops.size D) a w := by
  intro n pend D w a m hF ho hu hi hst hm hfl
  rcases H pend D w a m hu hi (FlN_done hF) hst hm with h | ⟨⟨i0, hi0⟩, h⟩
  ·exact h
  ·obtain ⟨h1, oi, h2, _⟩ := mem_ready.1 hi0
   have hlt := (Array.getElem?_eq_some_iff.1 h2).1
   rw [bitsA_getD, if_pos hlt] at h1
   have hpos := rem_set hlt h1
   obtain ⟨m', rfl⟩ : ∃ m', m = m' + 1 := ⟨m - 1, by omega⟩
   refine ⟨fun h1 => (by rw [h1] at hi0; cases hi0), fun i hi => ?_⟩
   rcases h i hi with ⟨p, hp, rfl, hy⟩ | h
   ·obtain ⟨k, hk⟩ := List.getElem?_of_mem hp
    exact hfl k p hk hy m' rfl hi
   ·exact h m' rfl
 intro n
 induction n with
 | zero =>
  intro pend D w a m hF ho hu hi hn hst hm
  refine common 0 pend D w a m hF ho hu hi hst hm fun k p hk hy => ?_
  have : p ∈ pend.filter isNone' := List.mem_filter.2 ⟨List.mem_of_getElem? hk, by simp [isNone', hy]⟩
  have := List.length_pos_of_mem this
  omega
 | succ n ih =>
  intro pend D w a m hF ho hu hi hn hst hm
  refine common (n + 1) pend D w a m hF ho hu hi hst hm fun k p hk hy m' hm' hr => ?_
  subst hm'
  have hp : p ∈ pend := List.mem_of_getElem? hk
  obtain ⟨x, g1, _⟩ := hst.pin p hp
  have hx := row_fact hrows g1
  have hlt : p.idx < ops.size := (Array.getElem?_eq_some_iff.1 hx.2.1).1
  have hnd : D.testBit p.idx = false := by
   obtain ⟨h1, _⟩ := mem_ready.1 hr
   rw [bitsA_getD, if_pos hlt] at h1
   exact h1
  have hrem := rem_set hlt hnd
  refine fl_exec hs has0 hrows hfo hst (fun x hx => hmask x hx D fun j hj => (hst.sub j).2 (.inl hj)) hk hy fun a' hst' => ?_
  rw [bitsA_set]
  have hF' := hF.2 k p.obj (by rw [← ho]; simp [hk]) (by simp [hk, hy])
  refine ih _ _ _ a' m' ?_ ?_ (upd_set hu hk) ?_ ?_ hst' (by omega)
  ·rw [List.map_set]; exact hF'
  ·rw [List.map_set, ← ho]
   apply List.ext_getElem?
   intro j
   rw [List.getElem?_set]
   split
   ·rename_i e; subst e; rw [if_pos (by simpa using (List.getElem?_eq_some_iff.1 hk).1), List.getElem?_map, hk]; rfl
   ·rfl
  ·rw [List.map_set, ← hi]
   apply List.ext_getElem?
   intro j
   rw [List.getElem?_set]
   split
   ·rename_i e; subst e; rw [if_pos (by simpa using (List.getElem?_eq_some_iff.1 hk).1), List.getElem?_map, hk]; rfl
   ·rfl
  ·have := set_none_lt (ad := ⟨w.heap.size, 0, none⟩) hk hy
   omega
theorem viewL_curry {R : Type} {f : R → Prop} : ∀ (fs : List (Obj × Option Addr)) (ys : List (Option Addr)) (F : List Value → R), ys.length = fs.length →
  viewL (fs.map fun _ => Kd.p) (ys.map Value.pointer) f (curry (fs.map fun _ => Kd.p) F) = f (F (ys.map Value.pointer))
 | [], [], F, _ => rfl
 | [], _ :: _, F, h => by simp at h
 | _ :: _, [], F, h => by simp at h
 | _ :: fs, y :: ys, F, h => by
  have := viewL_curry (f := f) fs ys (fun vs => F (Value.pointer y :: vs)) (by simpa using h)
  exact this
theorem FSt.perm {asv : List Nat} {rows : List Row} {fls : List Nat} {a0 : Act} {mask D : Nat} {wait wait' : List Row} {pend : List FlI} {l : Env} {fl : FEnv} {C : CEnv} {w : World} {a : Act} (hp : wait.Perm wait') (hst : FSt ds P N ops asv rows fls a0 mask D wait pend l fl C w a) : FSt ds P N ops asv rows fls a0 mask D wait' pend l fl C w a :=
  { env := hst.env, flo := hst.flo, cells := hst.cells, pin := hst.pin, free := hst.free, nod := hst.nod, pm := hst.pm, sub := hst.sub, dn := hst.dn
    wt := fun y hy => hst.wt y (hp.mem_iff.2 hy)
    wnd := (hp.map _).nodup_iff.1 hst.wnd
    all := fun i h1 h2 h3 => (hst.all i h1 h2 h3).imp id fun ⟨y, hy, he⟩ => ⟨y, hp.mem_iff.1 hy, he⟩
    off := hst.off }
theorem PIn.mono {rows : List Row} {fls : List Nat} {mask mask' : Nat} {a : Act} {p : FlI} (h : PIn P rows fls mask a p) (hm : ∀ x : Row, isOn mask x = true → isOn mask' x = true) : PIn P rows fls mask' a p := by
 obtain ⟨x, h1, h2, h3, h4, h5, h6⟩ := h
 exact ⟨x, h1, h2, h3, h4, hm x h5, h6⟩
theorem isOn_or {mask m : Nat} {x : Row} (h : isOn mask x = true) : isOn (mask ||| m) x = true := by
 unfold isOn at h ⊢
 have := Nat.eq_of_beq_eq_true h
 rw [← Nat.or_assoc, this]
 simp
theorem FSt.next (hs : Region.noSelect ops = true) {asv : List Nat} (has0 : asv = ancL ops.toList []) {rows : List Row} (hrows : rows = rowsOf P 0 ops.toList asv) {fls : List Nat} (hfo : floatsOk ops rows fls = true) {a0 : Act} {mask D : Nat} {wait : List Row} {pend : List FlI}
  {l l' : Env} {fl fl' : FEnv} {C C' : CEnv} {w w' : World} {a : Act} {i : Nat} {x : Row} {v : Value} (hst : FSt ds P N ops asv rows fls a0 mask D wait pend l fl C w a) (hri : rows[i]? = some x) (hnf : has fls i = false) (hD : x.anc ||| D = D) (hmi : mask.testBit i = false)
  (hC : ∀ x ∈ C', holdAt w' x.2 ∧ (loadsOf P rows).testBit x.1 = true) (henv : EnvOk ds N (a.put x.o.dst v) l') (hflo : FlOk (a.put x.o.dst v) fl') (hk : Kept ops x.o l fl l' fl') :
  FSt ds P N ops asv rows fls a0 (mask ||| 2 ^ i) (D ||| 2 ^ i) wait pend l' fl' C' w' (a.put x.o.dst v) := by
 have hops : ∀ (i : Nat) (x : Row), rows[i]? = some x → ops[i]? = some x.o := fun i x hx => (row_fact hrows hx).2.1
 have hx := row_fact hrows hri
 have hne : ∀ p ∈ pend, i ≠ p.idx := by
  intro p hp e
  obtain ⟨y, h1, h2, h3, h4, _⟩ := hst.pin p hp
  rw [← e, hnf] at h4; cases h4
 have hdst : ∀ p ∈ pend, x.o.dst ≠ some p.dst := by
  intro p hp e
  obtain ⟨y, h1, h2, h3, h4, _⟩ := hst.pin p hp
  exact ((floats_spec hfo h4 h1).2.2 x (List.mem_of_getElem? hri) (by rw [hx.1]; exact hne p hp)).1 _ _ h2 e rfl
 have hkeep : ∀ p ∈ pend, gt l' p.dst = gt l p.dst ∧ (flFree fl p.dst = true → flFree fl' p.dst = true) := by
  intro p hp
  refine hk p.dst (hdst p hp) fun j want hg he => ?_
  obtain ⟨y, h1, h2, h3, h4, _⟩ := hst.pin p hp
  exact ((floats_spec hfo h4 h1).2.2 x (List.mem_of_getElem? hri) (by rw [hx.1]; exact hne p hp)).2.2 j want _ hg h2 he
 refine { env := henv, flo := hflo, cells := hC, pin := ?_, free := ?_, nod := hst.nod, pm := ?_, sub := ?_, dn := ?_, wt := ?_, wnd := hst.wnd, all := ?_, off := ?_ }
 ·intro p hp
  refine PIn.mono (PIn.put hs (hst.pin p hp) hops (hdst p hp) ?_) (fun x => isOn_or)
  intro y hy d hd
  obtain ⟨y', h1, h2, h3, h4, h5, _⟩ := hst.pin p hp
  obtain rfl := Option.some.inj (h1.symm.trans hy)
  rcases ((floats_spec hfo h4 h1).2.2 x (List.mem_of_getElem? hri) (by rw [hx.1]; exact hne p hp)).2.1 with h | h
  ·rw [hx.1] at h
   have := sub_bits (Nat.eq_of_beq_eq_true h5) h
   rw [hmi] at this; cases this
  ·exact h d hd
 ·intro p hp
  obtain ⟨g1, g2, g3⟩ := hst.free p hp
  obtain ⟨k1, k2⟩ := hkeep p hp
  exact ⟨fun v => by rw [k1]; exact g1 v, k2 g2, g3⟩
 ·intro p hp
  rw [Nat.testBit_or, hst.pm p hp, Nat.testBit_two_pow]
  simp [hne p hp]
 ·intro j
  rw [Nat.testBit_or, Nat.testBit_or, Bool.or_eq_true, Bool.or_eq_true, hst.sub j]
  constructor
  ·rintro ((h | h) | h)
   ·exact .inl (.inl h)
   ·exact .inr h
   ·exact .inl (.inr h)
  ·rintro ((h | h) | h)
   ·exact .inl (.inl h)
   ·exact .inr h
   ·exact .inl (.inr h)
 ·intro j hj
  rw [Nat.testBit_or, Bool.or_eq_true, Nat.testBit_two_pow, decide_eq_true_eq] at hj
  rcases hj with hj | rfl
  ·obtain ⟨g1, g2⟩ := hst.dn j hj
   exact ⟨g1, by rw [← Nat.or_assoc, g2]⟩
  ·refine ⟨(Array.getElem?_eq_some_iff.1 hx.2.1).1, ?_⟩
   have : asv.getD i 0 = x.anc := by simp [hx.2.2]
   rw [this, ← Nat.or_assoc, hD]
 ·intro y hy
  obtain ⟨g1, g2, g3, g4⟩ := hst.wt y hy
  refine ⟨g1, g2, ?_, g4⟩
  rw [Nat.testBit_or, g3, Nat.testBit_two_pow]
  have : i ≠ y.idx := by rintro rfl; rw [g2] at hnf; cases hnf
  simp [this]
 ·intro j h1 h2 h3
  rw [Nat.testBit_or, Bool.or_eq_false_iff] at h2
  exact hst.all j h1 h2.1 h3
 ·exact hst.off.trans (off_one (by
   obtain ⟨hh, he⟩ := Array.getElem?_eq_some_iff.1 hx.2.1
   rw [← he]; simp))
theorem FSt.settle {asv : List Nat} {rows : List Row} (hrows : rows = rowsOf P 0 ops.toList asv) {fls : List Nat} (hfo : floatsOk ops rows fls = true) {a0 : Act} {mask D : Nat} {wait : List Row} {pend : List FlI} {l : Env} {fl : FEnv} {C : CEnv} {w : World} {a : Act} (hst : FSt ds P N ops asv rows fls a0 mask D wait pend l fl C w a) {p : FlI} (hp : p ∈ pend) {ad : Addr} (hy : p.y = some ad) :
  FSt ds P N ops asv rows fls a0 (mask ||| 2 ^ p.idx) D wait (pend.filter fun q => !Nat.beq q.idx p.idx) ((p.dst, some (p.val ad)) :: l) fl C w a := by
 obtain ⟨x, h1, h2, h3, h4, h5, h6, h7⟩ := hst.pin p hp
 have hmem : ∀ q, q ∈ pend.filter (fun q => !Nat.beq q.idx p.idx) ↔ q ∈ pend ∧ q.idx ≠ p.idx := by
  intro q
  rw [List.mem_filter]
  constructor
  ·rintro ⟨g1, g2⟩
   refine ⟨g1, fun e => ?_⟩
   rw [e] at g2
   simp at g2
  ·rintro ⟨g1, g2⟩
   refine ⟨g1, ?_⟩
   cases hb : Nat.beq q.idx p.idx with
   | false => rfl
   | true => exact absurd (Nat.eq_of_beq_eq_true hb) g2
 have uniq : ∀ q ∈ pend, q.idx = p.idx → q = p := by
  intro q hq he
  obtain ⟨j, hj⟩ := List.getElem?_of_mem hq
  obtain ⟨k, hk⟩ := List.getElem?_of_mem hp
  by_cases e : j = k
  ·subst e; exact Option.some.inj (hj.symm.trans hk)
  ·exact absurd he (nod_ne hst.nod hj hk e)
 refine { env := ?_, flo := hst.flo, cells := hst.cells, pin := ?_, free := ?_, nod := ?_, pm := ?_, sub := ?_, dn := hst.dn, wt := ?_, wnd := hst.wnd, all := ?_, off := hst.off }
 ·refine ⟨hst.env.size, hst.env.defers, fun t u hu => ?_⟩
  simp only [gt] at hu
  cases hb : Nat.beq p.dst t with
  | true =>
   rw [hb] at hu
   simp only [cond_true, Option.some.injEq] at hu
   subst hu
   rw [← Nat.eq_of_beq_eq_true hb]
   exact h7 ad hy
  | false => rw [hb] at hu; exact hst.env.at' t u hu
 ·intro q hq
  exact (hst.pin q ((hmem q).1 hq).1).mono (fun x => isOn_or)
 ·intro q hq
  obtain ⟨g1, g2⟩ := (hmem q).1 hq
  obtain ⟨k1, k2, k3⟩ := hst.free q g1
  refine ⟨fun v => ?_, k2, k3⟩
  rw [gt_cons]
  ·exact k1 v
  ·-- other blocks have other places
   intro e
   obtain ⟨y, q1, q2, q3, q4, _⟩ := hst.pin q g1
   have hx := row_fact hrows h1
   exact ((floats_spec hfo q4 q1).2.2 x (List.mem_of_getElem? h1) (by rw [hx.1]; exact fun e => g2 e.symm)).1 _ _ q2 h2 e.symm
 ·exact (List.filter_sublist.map _).nodup hst.nod
 ·intro q hq
  obtain ⟨g1, g2⟩ := (hmem q).1 hq
  rw [Nat.testBit_or, hst.pm q g1, Nat.testBit_two_pow]
  have : ¬ p.idx = q.idx := fun e => g2 e.symm
  simp [this]
 ·intro j
  rw [hst.sub j, Nat.testBit_or, Bool.or_eq_true, Nat.testBit_two_pow, decide_eq_true_eq]
  constructor
  ·rintro (h | ⟨q, hq, g1, g2⟩)
   ·exact .inl (.inl h)
   ·by_cases e : q.idx = p.idx
    ·exact .inl (.inr (by rw [← e]; exact g1))
    ·exact .inr ⟨q, (hmem q).2 ⟨hq, e⟩, g1, g2⟩
  ·rintro ((h | h) | ⟨q, hq, g1, g2⟩)
   ·exact .inl h
   ·exact .inr ⟨p, hp, h, by rw [hy]; simp⟩
   ·exact .inr ⟨q, ((hmem q).1 hq).1, g1, g2⟩
 ·intro y hyw
  obtain ⟨g1, g2, g3, g4⟩ := hst.wt y hyw
  refine ⟨g1, g2, ?_, fun q hq => g4 q ((hmem q).1 hq).1⟩
  rw [Nat.testBit_or, g3, Nat.testBit_two_pow]
  have : ¬ p.idx = y.idx := g4 p hp
  simp [this]
 ·intro i g1 g2 g3
  rw [Nat.testBit_or, Bool.or_eq_false_iff, Nat.testBit_two_pow, decide_eq_false_iff_not] at g2
  rcases hst.all i g1 g2.1 g3 with ⟨q, hq, he⟩ | h
  ·exact .inl ⟨q, (hmem q).2 ⟨hq, fun e => g2.2 (e ▸ he)⟩, he⟩
  ·exact .inr h
theorem FlS_cons {p : FlI} {ps : List FlI} {w : World} {K : List FlI → World → Prop} (h : FlS ((p :: ps).map fun p => (p.obj, p.y)) w (curry _ fun cs w1 => K (upd (p :: ps) cs) w1)) :
  FlN ((p :: ps).map (·.obj)) (fun ys w => ys.length = (p :: ps).length → K (upd (p :: ps) (ys.map Value.pointer)) w) (p :: ps).length ((p :: ps).map (·.y)) w := by
 unfold FlS at h
 simp only [List.map_map, List.length_map] at h
 have e1 : (((fun x : Obj × Option Addr => x.fst) ∘ fun p : FlI => (p.obj, p.y)) : FlI → Obj) = (fun p => p.obj) := rfl
 have e2 : (((fun x : Obj × Option Addr => x.snd) ∘ fun p : FlI => (p.obj, p.y)) : FlI → Option Addr) = (fun p => p.y) := rfl
 have mono : ∀ (objs : List Obj) (K K' : List (Option Addr) → World → Prop), (∀ ys w, K ys w → K' ys w) → ∀ (n : Nat) (ys : List (Option Addr)) (w : World), FlN objs K n ys w → FlN objs K' n ys w := by
  intro objs K K' hKK n
  induction n with
  | zero => exact fun ys w h => hKK _ _ h
  | succ n ih => exact fun ys w h => ⟨hKK _ _ h.1, fun i o ho hy => ih _ _ (h.2 i o ho hy)⟩
 refine mono _ _ _ ?_ _ _ _ h
 intro ys w hv hl
 have := viewL_curry (f := fun r : World → Prop => r w) ((p :: ps).map fun p => (p.obj, p.y)) ys (fun cs w1 => K (upd (p :: ps) cs) w1) (by simpa using hl)
 rw [this] at hv
 exact hv
theorem upd_self : ∀ (ps : List FlI), upd ps ((ps.map (·.y)).map Value.pointer) = ps
 | [] => rfl
 | p :: ps => by
  simp only [List.map_cons, upd]
  rw [upd_self ps]
theorem ready_cases (asv : List Nat) (has0 : asv = ancL ops.toList []) {rows : List Row} (hrows : rows = rowsOf P 0 ops.toList asv) {D i : Nat} (hi : i ∈ Region.ready .any ops (bitsA ops.size D)) (hdn : ∀ j, D.testBit j = true → j < ops.size ∧ asv.getD j 0 ||| D = D) :
  ∃ y, rows[i]? = some y ∧ y.idx = i ∧ D.testBit i = false ∧ y.anc ||| D = D := by
 obtain ⟨h1, oi, h2, h3⟩ := mem_ready.1 hi
 have hlt := (Array.getElem?_eq_some_iff.1 h2).1
 rw [bitsA_getD, if_pos hlt] at h1
 have hjr : i < rows.length := by
  rw [hrows, rowsOf_length P _ _ _ (by rw [has0, ancL_len])]; simpa using hlt
 obtain ⟨y, hy⟩ : ∃ y, rows[i]? = some y := ⟨_, List.getElem?_eq_getElem hjr⟩
 have hyf := row_fact hrows hy
 refine ⟨y, hy, hyf.1, h1, ?_⟩
 have ho : oi = y.o := Option.some.inj (h2.symm.trans hyf.2.1)
 have hanc : asv[i]? = some (maskOf (asv.take i) oi.after.toList) := by
  have := ancL_get ops.toList [] i oi (by simpa using h2)
  rw [has0]
  simpa using this
 have he : y.anc = maskOf (asv.take i) oi.after.toList := Option.some.inj (hyf.2.2.symm.trans hanc)
 apply Nat.eq_of_testBit_eq
 intro k
 rw [Nat.testBit_or]
 cases hk : y.anc.testBit k with
 | false => simp
 | true =>
  rw [he] at hk
  rcases maskOf_bit _ _ hk with h5 | ⟨e, hem, hbe, h5⟩
  ·simp at h5
  ·have h6 := h3 e (by simpa using hem) hbe
   rw [bitsA_getD] at h6
   have helt : D.testBit e.on = true := by
    split at h6
    ·exact h6
    ·cases h6
   rcases h5 with h5 | h5
   ·rw [← h5, helt]; rfl
   ·have h7 : (asv.take i).getD e.on 0 = asv.getD e.on 0 ∨ (asv.take i).getD e.on 0 = 0 := by
     simp only [List.getD_eq_getElem?_getD, List.getElem?_take]
     split
     ·exact .inl rfl
     ·exact .inr rfl
    rcases h7 with h7 | h7
    ·rw [h7] at h5
     rw [sub_bits (hdn e.on helt).2 h5]; rfl
    ·rw [h7] at h5; simp at h5
theorem ready_of_anc (asv : List Nat) (has0 : asv = ancL ops.toList []) {rows : List Row} (hrows : rows = rowsOf P 0 ops.toList asv) {D i : Nat} {y : Row} (hy : rows[i]? = some y) (hD : y.anc ||| D = D) (h0 : D.testBit i = false) (hdn : ∀ j, D.testBit j = true → j < ops.size ∧ asv.getD j 0 ||| D = D) :
  i ∈ Region.ready .any ops (bitsA ops.size D) := by
 have hyf := row_fact hrows hy
 have hlt := (Array.getElem?_eq_some_iff.1 hyf.2.1).1
 refine mem_ready.2 ⟨by rw [bitsA_getD, if_pos hlt]; exact h0, y.o, hyf.2.1, fun e he hbe => ?_⟩
 have hanc : asv[i]? = some (maskOf (asv.take i) y.o.after.toList) := by
  have := ancL_get ops.toList [] i y.o (by simpa using hyf.2.1)
  rw [has0]
  simpa using this
 have he' : y.anc = maskOf (asv.take i) y.o.after.toList := Option.some.inj (hyf.2.2.symm.trans hanc)
 have h2 : y.anc.testBit e.on = true := by
  rw [he']
  exact maskOf_has hbe _ _ (.inl (by simpa using he))
 have h3 := sub_bits hD h2
 rw [bitsA_getD, if_pos (hdn _ h3).1]
 exact h3
theorem has_mem {is : List Nat} {j : Nat} (h : has is j = true) : j ∈ is := by
 obtain ⟨k, hk, he⟩ := List.any_eq_true.1 h
 rw [← Nat.eq_of_beq_eq_true he]; exact hk
theorem mem_has {is : List Nat} {j : Nat} (h : j ∈ is) : has is j = true := List.any_eq_true.2 ⟨j, h, by simp⟩
theorem bitsOf_bit {is : List Nat} {j : Nat} (h : j ∈ is) : (bitsOf is).testBit j = true := by
 have key : ∀ (is : List Nat) (s : Nat), (s.testBit j = true ∨ j ∈ is) → (is.foldl (fun s i => s ||| 2 ^ i) s).testBit j = true := by
  intro is
  induction is with
  | nil => intro s h; simpa using h
  | cons i is ih =>
   intro s h
   refine ih _ ?_
   rcases h with h | h
   ·exact .inl (by rw [Nat.testBit_or, h]; rfl)
   ·rcases List.mem_cons.1 h with rfl | h
    ·exact .inl (by rw [Nat.testBit_or, Nat.testBit_two_pow_self]; simp)
    ·exact .inr h
 exact key is 0 (.inr h)
theorem anc_up {x : Row} {mask D : Nat} (h : isOn mask x = true) (hs : ∀ j, mask.testBit j = true → D.testBit j = true) : x.anc ||| D = D := by
 have h1 := Nat.eq_of_beq_eq_true h
 apply Nat.eq_of_testBit_eq
 intro k
 rw [Nat.testBit_or]
 cases hk : x.anc.testBit k with
 | false => simp
 | true => rw [hs k (sub_bits h1 hk)]; rfl
theorem on_of {x : Row} {on D : Nat} (h : x.anc ||| D = D) (hs : ∀ j, D.testBit j = true → on.testBit j = true) : isOn on x = true := by
 unfold isOn
 have : x.anc ||| on = on := by
  apply Nat.eq_of_testBit_eq
  intro k
  rw [Nat.testBit_or]
  cases hk : x.anc.testBit k with
  | false => simp
  | true => rw [hs k (sub_bits h hk)]; rfl
 rw [this]; simp
theorem mem_pendAt {rows : List Row} {fls : List Nat} {mask j : Nat} (h : has (pendAt rows fls mask) j = true) : has fls j = true ∧ mask.testBit j = false ∧ ∃ y, rows[j]? = some y ∧ isOn mask y = true := by
 have h1 := has_mem h
 unfold pendAt at h1
 rw [List.mem_filter] at h1
 obtain ⟨h2, h3⟩ := h1
 simp only [Bool.and_eq_true, Bool.not_eq_true'] at h3
 refine ⟨mem_has h2, h3.1, ?_⟩
 cases hy : rows[j]? with
 | none => rw [hy] at h3; exact absurd h3.2 (by simp)
 | some y => rw [hy] at h3; exact ⟨y, rfl, h3.2⟩
theorem pendAt_mem {rows : List Row} {fls : List Nat} {mask j : Nat} {y : Row} (h1 : has fls j = true) (h2 : mask.testBit j = false) (h3 : rows[j]? = some y) (h4 : isOn mask y = true) : j ∈ pendAt rows fls mask := by
 unfold pendAt
 rw [List.mem_filter]
 refine ⟨has_mem h1, ?_⟩
 simp [h2, h3, h4]
theorem filter_perm {α : Type} (p : α → Bool) : ∀ l : List α, l.Perm (l.filter p ++ l.filter fun y => !p y)
 | [] => List.Perm.refl _
 | x :: l => by
  have ih := filter_perm p l
  cases h : p x with
  | true => simp only [List.filter_cons, h, if_true, Bool.not_true, Bool.false_eq_true, if_false, List.cons_append]; exact ih.cons x
  | false => simp only [List.filter_cons, h, if_true, Bool.not_false, Bool.false_eq_true, if_false]; exact (ih.cons x).trans List.perm_middle.symm
theorem rem_pos {n D i : Nat} {m : Nat} (hi : i < n) (h : D.testBit i = false) (hm : remOf n D ≤ m) : ∃ m', m = m' + 1 ∧ remOf n (D ||| 2 ^ i) ≤ m' := by
 have := rem_set hi h
 exact ⟨m - 1, by omega, by omega⟩
theorem dFl_ok {split : Bool} (hP : OkP P) (hs : Region.noSelect ops = true) {Q : Exit → Act → World → Prop} (hQ : ∀ c a w (o : Oper) v, o ∈ ops.toList → Q (.panic c) (a.put o.dst v) w → Q (.panic c) a w) (asv : List Nat) (has0 : asv = ancL ops.toList []) (rows : List Row) (hrows : rows = rowsOf P 0 ops.toList asv) (fls : List Nat) (hfo : floatsOk ops rows fls = true) {a0 : Act} {K : Env → World → Prop}
  (hK : ∀ a' l' w', Off (dstsOf ops.toList) a0 a' → EnvOk ds N a' l' → K l' w' → Q .normal a' w') (hE : ∀ ch a' w', Off (dstsOf ops.toList) a0 a' → EnvOk ds N a' [] → N.E ch w' → Q (.panic ch) a' w') :
  ∀ (its : List Itm) (mask : Nat) (wait : List Row) (pend : List FlI) (l : Env) (fl : FEnv) (C : CEnv) (w : World) (D : Nat) (a : Act) (m : Nat), flCheck P ops rows fls its mask = true → FSt ds P N ops asv rows fls a0 mask D wait pend l fl C w a →
   dFl P N ops split rows its mask wait pend l fl C w K → remOf ops.size D ≤ m → wpAnyE P .any ops asv Q C m (bitsA ops.size D) a w
 | [], mask, wait, pend, l, fl, C, w, D, a, m, hc, hst, h, hm => by
  simp only [flCheck] at hc
  simp only [dFl] at h
  split at h
  ·have hr : Region.ready .any ops (bitsA ops.size D) = [] := by
    refine List.eq_nil_iff_forall_not_mem.2 fun j hj => ?_
    obtain ⟨h1, oj, h2, _⟩ := mem_ready.1 hj
    have hlt := (Array.getElem?_eq_some_iff.1 h2).1
    rw [bitsA_getD, if_pos hlt] at h1
    have := List.all_eq_true.1 hc j (List.mem_range.2 hlt)
    rw [(hst.sub j).2 (.inl this)] at h1; cases h1
   cases m with
   | zero => exact ⟨hr, hK a l w hst.off hst.env h⟩
   | succ n => exact ⟨fun _ => hK a l w hst.off hst.env h, fun i hi => by rw [hr] at hi; cases hi⟩
  ·exact h.elim
 | .ro i :: r, mask, wait, pend, l, fl, C, w, D, a, m, hc, hst, h, hm => by
  have ih := dFl_ok hP hs hQ asv has0 rows hrows fls hfo hK hE r (split := split)
  simp only [flCheck] at hc
  simp only [dFl] at h
  cases hri : rows[i]? with
  | none => rw [hri] at h; exact h.elim
  | some x =>
   rw [hri] at h hc
   simp only [Bool.and_eq_true, Bool.not_eq_true'] at h hc
   obtain ⟨⟨⟨⟨c1, c2⟩, c3⟩, c4⟩, c5⟩ := hc
   have hx := row_fact hrows hri
   have hlt : i < ops.size := (Array.getElem?_eq_some_iff.1 hx.2.1).1
   have hnf : has fls i = false := by
    cases hf : has fls i with
    | false => rfl
    | true => have := (floats_spec hfo hf hri).2.1; rw [c1] at this; cases this
   have hDi : D.testBit i = false := by
    cases hd : D.testBit i with
    | false => rfl
    | true =>
     rcases (hst.sub i).1 hd with h1 | ⟨p, hp, h1, _⟩
     ·rw [c3] at h1; cases h1
     ·obtain ⟨y, _, _, _, h4, _⟩ := hst.pin p hp
      rw [h1, hnf] at h4; cases h4
   have hanc := anc_up c2 (fun j hj => (hst.sub j).2 (.inl hj))
   obtain ⟨m', rfl, hm'⟩ := rem_pos hlt hDi hm
   have hstep := step_of hP hst.env hst.flo (dStep_keep h)
   refine (row_step (m := m') hP hs hQ asv has0 rows hrows hri hst.dn hanc (by rw [hx.1]; exact hDi) (rest rows mask i) ?_ hst.cells hstep (fun ch w' hc => hE ch _ w' hst.off hst.env.bare hc) ?_).1 c1 c4
   ·intro y hy hun hne
    simp only [rest, List.mem_filter, Bool.and_eq_true, Bool.not_eq_true']
    refine ⟨hy, ?_, ?_⟩
    ·cases hb : mask.testBit y.idx with
     | false => rfl
     | true => rw [(hst.sub _).2 (.inl hb)] at hun; cases hun
    ·cases hb : Nat.beq y.idx i with
     | false => rfl
     | true => exact absurd ((Nat.eq_of_beq_eq_true hb).trans hx.1.symm) hne
   ·intro v l' fl' C' w' hC' he hf ⟨hG, hk⟩
    rw [hx.1]
    refine ih _ _ _ _ _ _ _ _ _ _ c5 (hst.next hs has0 hrows hfo hri hnf hanc c3 hC' he hf hk) hG hm'
 | .eff i :: r, mask, wait, pend, l, fl, C, w, D, a, m, hc, hst, h, hm => by
  have ih := dFl_ok hP hs hQ asv has0 rows hrows fls hfo hK hE r (split := split)
  simp only [flCheck] at hc
  simp only [dFl] at h
  cases hri : rows[i]? with
  | none => rw [hri] at h; exact h.elim
  | some x =>
   rw [hri] at h hc
   simp only [Bool.and_eq_true, Bool.not_eq_true'] at h hc
   obtain ⟨⟨⟨⟨⟨⟨c1, c2⟩, c3⟩, c4⟩, c5⟩, c6⟩, c7⟩ := hc
   have hx := row_fact hrows hri
   have hlt : i < ops.size := (Array.getElem?_eq_some_iff.1 hx.2.1).1
   unfold gap at h
   obtain ⟨l1, more, h1, hst1, hcov⟩ := act_ok (wait.filter (isOn mask)) (wait.filter fun y => !isOn mask y) pend l (fun y hy => (List.mem_filter.1 hy).2) (hst.perm (filter_perm _ _)) h
   generalize pend ++ more = pend1 at h1 hst1 hcov
   generalize hoff : (wait.filter fun y => !isOn mask y) = off at h1 hst1
   -- who is pending
   have hpm : ∀ j, has (pendAt rows fls mask) j = true → ∃ p ∈ pend1, p.idx = j := by
    intro j hj
    obtain ⟨g1, g2, y, g3, g4⟩ := mem_pendAt hj
    rcases hst1.all j g1 g2 (List.getElem?_eq_some_iff.1 g3).1 with h | ⟨y', hy', he⟩
    ·exact h
    ·have q := (hst1.wt y' hy').1
     rw [he, g3] at q
     obtain rfl := Option.some.inj q
     rw [← hoff, List.mem_filter, g4] at hy'
     exact absurd hy'.2 (by simp)
   have eff : ∀ (pend' : List FlI) (D : Nat) (w : World) (a : Act) (m' : Nat), FSt ds P N ops asv rows fls a0 mask D off pend' l1 fl C w a →
     dStep P N ops split (itOf x) l1 fl C w (fun l' fl' C' w' => dFl P N ops split rows r (mask ||| 2 ^ i) off pend' l' fl' C' w' K) → remOf ops.size D ≤ m' + 1 →
     D.testBit i = false ∧ x.anc ||| D = D ∧ wpOp P ops Q x.idx (fun a' w' => Gd P ops asv C x.idx w w' ∧ wpAnyE P .any ops asv Q C m' ((bitsA ops.size D).setIfInBounds x.idx true) a' w') a w := by
    intro pend' D w a m' hst' hd hm'
    have hDi : D.testBit i = false := by
     cases hd : D.testBit i with
     | false => rfl
     | true =>
      rcases (hst'.sub i).1 hd with h1 | ⟨p, hp, h1, _⟩
      ·rw [c4] at h1; cases h1
      ·obtain ⟨y, _, _, _, h4, _⟩ := hst'.pin p hp
       rw [h1, c2] at h4; cases h4
    have hanc := anc_up c3 (fun j hj => (hst'.sub j).2 (.inl hj))
    have hrem := rem_set hlt hDi
    have hstep := step_of hP hst'.env hst'.flo (dStep_keep hd)
    refine ⟨hDi, hanc, (row_step (m := m') hP hs hQ asv has0 rows hrows hri hst'.dn hanc (by rw [hx.1]; exact hDi) (rest rows mask i) ?_ hst'.cells hstep (fun ch w' hc => hE ch _ w' hst'.off hst'.env.bare hc) ?_).2 c1 c5⟩
    ·intro y hy hun hne
     simp only [rest, List.mem_filter, Bool.and_eq_true, Bool.not_eq_true']
     refine ⟨hy, ?_, ?_⟩
     ·cases hb : mask.testBit y.idx with
      | false => rfl
      | true => rw [(hst'.sub _).2 (.inl hb)] at hun; cases hun
     ·cases hb : Nat.beq y.idx i with
      | false => rfl
      | true => exact absurd ((Nat.eq_of_beq_eq_true hb).trans hx.1.symm) hne
    ·intro v l' fl' C' w' hC' he hf ⟨hG, hk⟩
     rw [hx.1]
     exact ih _ _ _ _ _ _ _ _ _ _ c7 (hst'.next hs has0 hrows hfo hri c2 hanc c4 hC' he hf hk) hG (by omega)
   have cls : ∀ (pend' : List FlI) (D : Nat) (w : World) (a : Act), FSt ds P N ops asv rows fls a0 mask D off pend' l1 fl C w a → pend'.map (·.idx) = pend1.map (·.idx) → ∀ j ∈ Region.ready .any ops (bitsA ops.size D), (∃ p ∈ pend', p.idx = j ∧ p.y = none) ∨ j = i := by
    intro pend' D w a hst' hidx j hj
    obtain ⟨y, g1, g2, g3, g4⟩ := ready_cases asv has0 hrows hj hst'.dn
    have hon : isOn (mask ||| bitsOf (pendAt rows fls mask)) y = true := on_of g4 (fun k hk => by
     rw [Nat.testBit_or, Bool.or_eq_true]
     rcases (hst'.sub k).1 hk with h | ⟨p, hp, h, _⟩
     ·exact .inl h
     ·obtain ⟨z, q1, _, _, q4, q5, _⟩ := hst'.pin p hp
      exact .inr (bitsOf_bit (by rw [← h]; exact pendAt_mem q4 (hst'.pm p hp) q1 q5)))
    have := List.all_eq_true.1 c6 y (List.mem_of_getElem? g1)
    simp only [Bool.or_eq_true, Bool.not_eq_true', g2] at this
    rcases this with ((h | h) | h) | h
    ·rw [(hst'.sub j).2 (.inl h)] at g3; cases g3
    ·obtain ⟨p, hp, he⟩ := hpm j h
     have hm1 : j ∈ pend'.map (·.idx) := by rw [hidx]; exact List.mem_map.2 ⟨p, hp, he⟩
     obtain ⟨p', hp', he'⟩ := List.mem_map.1 hm1
     refine .inl ⟨p', hp', he', ?_⟩
     cases hy : p'.y with
     | none => rfl
     | some ad => rw [(hst'.sub j).2 (.inr ⟨p', hp', he', by rw [hy]; simp⟩)] at g3; cases g3
    ·exact .inr (Nat.eq_of_beq_eq_true h).symm
    ·rw [hon] at h; cases h
   cases pend1 with
   | nil =>
    simp only at h1
    have hm1 : ∃ m', m = m' + 1 := by
     have hDi : D.testBit i = false := by
      cases hd : D.testBit i with
      | false => rfl
      | true =>
       rcases (hst1.sub i).1 hd with h1 | ⟨p, hp, h1, _⟩
       ·rw [c4] at h1; cases h1
       ·cases hp
     obtain ⟨m', h1, _⟩ := rem_pos hlt hDi hm
     exact ⟨m', h1⟩
    obtain ⟨m', rfl⟩ := hm1
    obtain ⟨hDi, hanc, hw⟩ := eff [] D w a m' hst1 h1 hm
    refine ⟨fun hr => ?_, fun j hj => ?_⟩
    ·have := ready_of_anc asv has0 hrows hri hanc hDi hst1.dn
     rw [hr] at this; cases this
    ·rcases cls [] D w a hst1 rfl j hj with ⟨p, hp, _⟩ | rfl
     ·cases hp
     ·rw [hx.1] at hw; exact hw
   | cons p ps =>
    simp only at h1
    have hF := FlS_cons (K := fun pend1 w1 => dStep P N ops split (itOf x) l1 fl C w1 fun l' fl' C' w' => dFl P N ops split rows r (mask ||| 2 ^ i) off pend1 l' fl' C' w' K) h1
    refine gap_ok hs has0 hrows hfo (base := p :: ps) (fun x hx D hD => anc_up hx hD) ?_ (p :: ps).length (p :: ps) D w a m hF rfl (upd_self _) rfl (List.length_filter_le _ _) hst1 hm
    intro pend' D w a m hu hidx hKK hst' hm'
    have hlen : (pend'.map (·.y)).length = (p :: ps).length := by
     have := congrArg List.length hidx
     simpa using this
    have hd := hKK hlen
    rw [hu] at hd
    have hDi : D.testBit i = false := by
     cases hd : D.testBit i with
     | false => rfl
     | true =>
      rcases (hst'.sub i).1 hd with h1 | ⟨p, hp, h1, _⟩
      ·rw [c4] at h1; cases h1
      ·obtain ⟨y, _, _, _, h4, _⟩ := hst'.pin p hp
       rw [h1, c2] at h4; cases h4
    have hanc := anc_up c3 (fun j hj => (hst'.sub j).2 (.inl hj))
    refine .inr ⟨⟨i, ready_of_anc asv has0 hrows hri hanc hDi hst'.dn⟩, fun j hj => ?_⟩
    rcases cls pend' D w a hst' hidx j hj with h | rfl
    ·exact .inl h
    ·refine .inr fun m' hmm => ?_
     obtain ⟨_, _, hw⟩ := eff pend' D w a m' hst' hd (by omega)
     rw [hx.1] at hw; exact hw
 | .settle i :: r, mask, wait, pend, l, fl, C, w, D, a, m, hc, hst, h, hm => by
  have ih := dFl_ok hP hs hQ asv has0 rows hrows fls hfo hK hE r (split := split)
  simp only [flCheck, Bool.and_eq_true] at hc
  simp only [dFl] at h
  obtain ⟨⟨c1, c6⟩, c7⟩ := hc
  unfold gap at h
  obtain ⟨l1, more, h1, hst1, hcov⟩ := act_ok (wait.filter (isOn mask)) (wait.filter fun y => !isOn mask y) pend l (fun y hy => (List.mem_filter.1 hy).2) (hst.perm (filter_perm _ _)) h
  generalize pend ++ more = pend1 at h1 hst1 hcov
  generalize hoff : (wait.filter fun y => !isOn mask y) = off at h1 hst1
  have hpm : ∀ j, has (pendAt rows fls mask) j = true → ∃ p ∈ pend1, p.idx = j := by
   intro j hj
   obtain ⟨g1, g2, y, g3, g4⟩ := mem_pendAt hj
   rcases hst1.all j g1 g2 (List.getElem?_eq_some_iff.1 g3).1 with h | ⟨y', hy', he⟩
   ·exact h
   ·have q := (hst1.wt y' hy').1
    rw [he, g3] at q
    obtain rfl := Option.some.inj q
    rw [← hoff, List.mem_filter, g4] at hy'
    exact absurd hy'.2 (by simp)
  cases pend1 with
  | nil => simp only [List.find?_nil] at h1
  | cons p ps =>
   simp only at h1
   have hF := FlS_cons (K := fun pend1 w1 => match pend1.find? fun p => Nat.beq p.idx i with
    | some p => Need p.y fun ad => dFl P N ops split rows r (mask ||| 2 ^ i) off (pend1.filter fun p => !Nat.beq p.idx i) ((p.dst, some (p.val ad)) :: l1) fl C w1 K
    | none => False) h1
   refine gap_ok hs has0 hrows hfo (base := p :: ps) (fun x hx D hD => anc_up hx hD) ?_ (p :: ps).length (p :: ps) D w a m hF rfl (upd_self _) rfl (List.length_filter_le _ _) hst1 hm
   intro pend' D w a m hu hidx hKK hst' hm'
   have hlen : (pend'.map (·.y)).length = (p :: ps).length := by
    have := congrArg List.length hidx
    simpa using this
   have hd := hKK hlen
   rw [hu] at hd
   split at hd
   ·rename_i q hq
    have hqm : q ∈ pend' := List.mem_of_find?_eq_some hq
    have hqi : q.idx = i := Nat.eq_of_beq_eq_true (by have := List.find?_some hq; exact this)
    cases hy : q.y with
    | some ad =>
     left
     rw [hy] at hd
     have := hst'.settle hrows hfo hqm hy
     rw [hqi] at this
     exact ih _ _ _ _ _ _ _ _ _ _ c7 this hd hm'
    | none =>
     right
     have hDi : D.testBit i = false := by
      cases hdd : D.testBit i with
      | false => rfl
      | true =>
       rcases (hst'.sub i).1 hdd with h1 | ⟨p, hp, h1, h2⟩
       ·have := hst'.pm q hqm
        rw [hqi, h1] at this; cases this
       ·have : p = q := by
         obtain ⟨j, hj⟩ := List.getElem?_of_mem hp
         obtain ⟨k, hk⟩ := List.getElem?_of_mem hqm
         by_cases e : j = k
         ·subst e; exact Option.some.inj (hj.symm.trans hk)
         ·exact absurd (h1.trans hqi.symm) (nod_ne hst'.nod hj hk e)
        rw [this, hy] at h2
        exact absurd rfl h2
     obtain ⟨z, q1, _, _, q4, q5, _⟩ := hst'.pin q hqm
     rw [hqi] at q1
     have hanc := anc_up q5 (fun j hj => (hst'.sub j).2 (.inl hj))
     refine ⟨⟨i, ready_of_anc asv has0 hrows q1 hanc hDi hst'.dn⟩, fun j hj => ?_⟩
     obtain ⟨y, g1, g2, g3, g4⟩ := ready_cases asv has0 hrows hj hst'.dn
     have hon : isOn (mask ||| bitsOf ((pendAt rows fls mask).filter fun j => !Nat.beq j i)) y = true := on_of g4 (fun k hk => by
      rw [Nat.testBit_or, Bool.or_eq_true]
      rcases (hst'.sub k).1 hk with h | ⟨p, hp, h, _⟩
      ·exact .inl h
      ·obtain ⟨z, q1, _, _, q4, q5, _⟩ := hst'.pin p hp
       refine .inr (bitsOf_bit (List.mem_filter.2 ⟨by rw [← h]; exact pendAt_mem q4 (hst'.pm p hp) q1 q5, ?_⟩))
       cases hb : Nat.beq k i with
       | false => rfl
       | true =>
        have := Nat.eq_of_beq_eq_true hb
        rw [this, hDi] at hk; cases hk)
     have := List.all_eq_true.1 c6 y (List.mem_of_getElem? g1)
     simp only [Bool.or_eq_true, Bool.not_eq_true', g2, Bool.or_false] at this
     rcases this with (h | h) | h
     ·rw [(hst'.sub j).2 (.inl h)] at g3; cases g3
     ·obtain ⟨p, hp, he⟩ := hpm j h
      have hm1 : j ∈ pend'.map (·.idx) := by rw [hidx]; exact List.mem_map.2 ⟨p, hp, he⟩
      obtain ⟨p', hp', he'⟩ := List.mem_map.1 hm1
      refine .inl ⟨p', hp', he', ?_⟩
      cases hy : p'.y with
      | none => rfl
      | some ad => rw [(hst'.sub j).2 (.inr ⟨p', hp', he', by rw [hy]; simp⟩)] at g3; cases g3
     ·rw [hon] at h; cases h
   ·exact hd.elim
def flsOf (rows : List Row) : List Nat := (rows.filter (isFloat rows)).map (·.idx)
def waitOf (rows : List Row) (fls : List Nat) : List Row := rows.filter fun y => has fls y.idx
def allRows (P : Program) (ops : Array Oper) : List Row := rowsOf P 0 ops.toList (ancL ops.toList [])
def flItems (P : Program) (ops : Array Oper) : List Itm := mkItems (allRows P ops) (flsOf (allRows P ops)) ops.size 0
def flOk (P : Program) (ops : Array Oper) : Bool :=
 Region.noSelect ops && floatsOk ops (allRows P ops) (flsOf (allRows P ops)) && flCheck P ops (allRows P ops) (flsOf (allRows P ops)) (flItems P ops) 0
theorem rem_le (n : Nat) : remOf n 0 ≤ n := by
 unfold remOf
 exact Nat.le_trans (List.length_filter_le _ _) (by simp)
theorem dFl_region {split : Bool} (hP : OkP P) (hc : flOk P ops = true) {Q : Exit → Act → World → Prop} (hQ : ∀ c a w (o : Oper) v, o ∈ ops.toList → Q (.panic c) (a.put o.dst v) w → Q (.panic c) a w) {a : Act} {l : Env} {w : World} {K : Env → World → Prop} (hl : EnvOk ds N a l)
  (hK : ∀ a' l' w', Off (dstsOf ops.toList) a a' → EnvOk ds N a' l' → K l' w' → Q .normal a' w') (hE : ∀ ch a' w', Off (dstsOf ops.toList) a a' → EnvOk ds N a' [] → N.E ch w' → Q (.panic ch) a' w')
  (h : dFl P N ops split (allRows P ops) (flItems P ops) 0 (waitOf (allRows P ops) (flsOf (allRows P ops))) [] l [] [] w K) :
  wpAnyE P .any ops (ancL ops.toList []) Q [] ops.size (bitsA ops.size 0) a w := by
 unfold flOk at hc
 simp only [Bool.and_eq_true] at hc
 obtain ⟨⟨h1, h2⟩, h3⟩ := hc
 refine dFl_ok hP h1 hQ _ rfl (allRows P ops) rfl (flsOf (allRows P ops)) h2 (a0 := a) hK hE (flItems P ops) 0 _ [] l [] [] w 0 a ops.size h3 ?_ h (rem_le _)
 have rowIdx : ∀ (i : Nat) (y : Row), (allRows P ops)[i]? = some y → y.idx = i := fun i y hy => (row_fact (P := P) (ops := ops) (rows := allRows P ops) rfl hy).1
 have memIdx : ∀ y ∈ allRows P ops, (allRows P ops)[y.idx]? = some y := by
  intro y hy
  obtain ⟨i, hi⟩ := List.getElem?_of_mem hy
  rw [rowIdx i y hi]; exact hi
 refine { env := hl, flo := (fun _ h => by cases h), cells := by simp, pin := by simp, free := by simp, nod := by simp, pm := by simp, sub := by simp, dn := by simp, wt := ?_, wnd := ?_, all := ?_, off := Off.refl _ _ }
 ·intro y hy
  unfold waitOf at hy
  rw [List.mem_filter] at hy
  exact ⟨memIdx y hy.1, hy.2, by simp, by simp⟩
 ·unfold waitOf
  refine (List.filter_sublist.map _).nodup ?_
  refine List.pairwise_map.2 (List.pairwise_iff_getElem.2 ?_)
  intro i j hi hj hij he
  rw [rowIdx i _ (List.getElem?_eq_getElem hi), rowIdx j _ (List.getElem?_eq_getElem hj)] at he
  omega
 ·intro i h1 _ h3
  refine .inr ⟨(allRows P ops)[i], ?_, rowIdx i _ (List.getElem?_eq_getElem h3)⟩
  unfold waitOf
  rw [List.mem_filter]
  refine ⟨List.getElem_mem _, ?_⟩
  rw [rowIdx i _ (List.getElem?_eq_getElem h3)]
  exact h1
end
end Go.Den
end

section
namespace Go.Den
variable {ds : List Deferred}
def pureOp (P : Program) (op : Op) : Bool :=
 match op with
 | .move _ | .pick _ _ _ | .unOp _ _ _ | .extract _ _ => true
 | .binOp o t _ y _ =>
  match o with
  | .quo | .rem | .shl | .shr => false
  | _ => match P.underlying t with
   | some (.int _) | some .bool => true
   | some .string => match o with
    | .add => false
    | _ => true
   | some (.pointer _) | some (.slice _) | some (.map _ _) => isConst y
   | _ => false
 | .call c => match c.callee, c.argTypes.toList with
  | .builtin .len, [t] => match P.underlying t with
   | some (.slice _) | some .string => true
   | _ => false
  | _, _ => false
 | .convert src dst _ => match P.underlying src, P.underlying dst with
  | some (.int _), some (.int _) => true
  | _, _ => false
 | _ => false
def splits (P : Program) (ops : Array Oper) : Bool := ops.toList.any fun o => o.guard.isSome && !pureOp P o.op
def dRegion (P : Program) (N : NX) (ops : Array Oper) (draw : Bool) (l : Env) (w : World) (K : Env → World → Prop) : Prop :=
 match draw with
 | false => dOps P N ops (splits P ops) (textIts 0 ops.toList) l [] [] w K
 | true => cond (mixOk P ops) (dOps P N ops (splits P ops) (drawIts P ops) l [] [] w.drew K)
   (cond (flOk P ops) (dFl P N ops (splits P ops) (allRows P ops) (flItems P ops) 0 (waitOf (allRows P ops) (flsOf (allRows P ops))) [] l [] [] w.drew K)
   (cond (treeOk P ops) (dTr P N ops (splits P ops) (trRows P ops) (trOf P ops) l [] [] w.drew K) False))
structure Hint where
 mods : List (Nat × Kd)
 keep : List Nat
structure Hints where
 loops : List (Nat × Hint)
 joins : List (Nat × Hint)
def findH : List (Nat × Hint) → Nat → Option Hint
 | [], _ => none
 | (k, h) :: r, n => cond (Nat.beq k n) (some h) (findH r n)
def firstReg : Code → Option Nat
 | .region id _ _ => some id
 | .seq a b => match firstReg a with
  | some r => some r
  | none => firstReg b
 | .cond _ a b => match firstReg a with
  | some r => some r
  | none => firstReg b
 | .block _ c => firstReg c
 | .loop c => firstReg c
 | .scope c => firstReg c
 | _ => none
def hintAt (hs : List (Nat × Hint)) (c : Code) : Option Hint :=
 match hs with
 | [] => none
 | h :: t => match firstReg c with
  | some r => findH (h :: t) r
  | none => none
def writes : Code → List Nat
 | .region _ ops _ => dstsOf ops.toList
 | .seq a b => writes a ++ writes b
 | .cond _ a b => writes a ++ writes b
 | .block _ c => writes c
 | .loop c => writes c
 | _ => []
def keepEnv (l : Env) : List Nat → Option Env
 | [] => some []
 | t :: r => match gt l t, keepEnv l r with
  | some (some v), some e => some ((t, some v) :: e)
  | _, _ => none
def getVals (l : Env) : List Nat → Option (List Value)
 | [] => some []
 | t :: r => match gt l t, getVals l r with
  | some (some v), some e => some (v :: e)
  | _, _ => none
def zipEnv : List (Nat × Kd) → List Value → Env
 | (t, _) :: r, v :: vs => (t, some v) :: zipEnv r vs
 | _, _ => []
def kept (c : Code) (ts : List Nat) : Bool := ts.all fun t => !((writes c).any (Nat.beq t))
def dCode (P : Program) (N : NX) (H : Hints) : Code → Env → (Exit → Env → World → Prop) → World → Prop
 | .skip, l, Q, w => Q .normal l w
 | .label _, l, Q, w => Q .normal l w
 | .region _ ops draw, l, Q, w => dRegion P ⟨N.n, N.pan, fun ch w' => Q (.panic ch) [] w'⟩ ops draw l w fun l' w' => Q .normal l' w'
 | .seq a b, l, Q, w =>
  match hintAt H.joins b with
  | none => dCode P N H a l (fun e l' w' => match e with
   | .normal => dCode P N H b l' Q w'
   | e => Q e l' w') w
  | some h => cond (kept a h.keep) (match keepEnv l h.keep with
   | none => False
   | some kl => ∃ J : Fn (h.mods.map (·.2)) (World → Prop),
     dCode P N H a l (fun e l' w' => match e with
      | .normal => match getVals l' (h.mods.map (·.1)) with
       | some vs => viewL (h.mods.map (·.2)) vs (fun r => r w') J
       | none => False
      | e => Q e l' w') w ∧
     allK (h.mods.map (·.2)) J fun vs r => ∀ w', r w' → dCode P N H b (zipEnv h.mods vs ++ kl) Q w') False
 | .cond c x y, l, Q, w =>
  match look l [] [] c with
  | some (.bool b) => if b = true then dCode P N H x l Q w else dCode P N H y l Q w
  | _ => False
 | .block id c, l, Q, w => dCode P N H c l (fun e l' w' => match e with
   | .exit id' => cond (Nat.beq id' id) (Q .normal l' w') (Q (.exit id') l' w')
   | e => Q e l' w') w
 | .loop c, l, Q, w =>
  match hintAt H.loops c with
  | none => False
  | some h => cond (kept c h.keep) (match keepEnv l h.keep, getVals l (h.mods.map (·.1)) with
   | some kl, some vs0 => ∃ Inv : Fn (h.mods.map (·.2)) (Nat → World → Prop),
     viewL (h.mods.map (·.2)) vs0 (fun r => ∃ n, r n w) Inv ∧
     allK (h.mods.map (·.2)) Inv fun vs r => ∀ n w', r n w' →
      dCode P N H c (zipEnv h.mods vs ++ kl) (fun e l' w'' => match e with
       | .normal => match getVals l' (h.mods.map (·.1)) with
        | some vs' => viewL (h.mods.map (·.2)) vs' (fun r' => ∃ n', n' < n ∧ r' n' w'') Inv
        | none => False
       | e => Q e l' w'') w'
   | _, _ => False) False
 | .exit id, l, Q, w => Q (.exit id) l w
 | .ret, l, Q, w => Q .ret l w
 | _, _, _, _ => False
def dResults (P : Program) (l : Env) (w : World) : List ResultVar → (List Value → Prop) → Prop
 | [], K => K []
 | .tmp t :: r, K => match gt l t with
  | some (some v) => dResults P l w r fun vs => K (v :: vs)
  | _ => False
 | .cell t ty :: r, K => match gt l t with
  | some (some (.pointer p)) => NN p fun a => dLoad P ty w a fun v => dResults P l w r fun vs => K (v :: vs)
  | _ => False
def initEnv : Nat → List Value → Env
 | _, [] => []
 | i, v :: vs => (i, some v) :: initEnv (i + 1) vs
def dFuncE (P : Program) (H : Hints) (pan : List FuncId) (fn : Func) (args : List Value) (K : Value → World → Prop) (E : List PanicEntry → World → Prop) (w : World) : Prop :=
 match fn.body with
 | none => False
 | some c => cond (Nat.ble args.length fn.ntmps) (dCode P ⟨fn.ntmps, pan, fun _ _ => False⟩ H c (initEnv 0 args) (fun e l w' => match e with
   | .normal => dResults P l w' fn.results.toList fun vs => K (mkRes vs) w'
   | .ret => dResults P l w' fn.results.toList fun vs => K (mkRes vs) w'
   | .panic ch => E ch w'
   | _ => False) w) False
def dFunc (P : Program) (H : Hints) (fn : Func) (args : List Value) (K : Value → World → Prop) (w : World) : Prop :=
 dFuncE P H [] fn args K (fun _ _ => False) w
section
variable {P : Program} {N : NX} {H : Hints}
theorem FlOk.nil {a : Act} : FlOk a [] := fun _ h => by cases h
theorem textIts_o : ∀ (i : Nat) (os : List Oper), (textIts i os).map (·.o) = os
 | _, [] => rfl
 | i, o :: r => by simp [textIts, textIts_o (i + 1) r]
def RegP (ds : List Deferred) (N : NX) (ops : Array Oper) (a : Act) (K : Env → World → Prop) : Exit → Act → World → Prop :=
 fun e a' w' => Off (dstsOf ops.toList) a a' ∧ ∃ l', EnvOk ds N a' l' ∧ ((e = .normal ∧ K l' w') ∨ ∃ ch, e = .panic ch ∧ l' = [] ∧ N.E ch w')
theorem RegP.inv {ops : Array Oper} {a0 : Act} {K : Env → World → Prop} : ∀ c (a : Act) w (o : Oper) v, o ∈ ops.toList → RegP ds N ops a0 K (.panic c) (a.put o.dst v) w → RegP ds N ops a0 K (.panic c) a w := by
 rintro c a w o v ho ⟨h1, l', h2, ⟨h, _⟩ | ⟨ch, h3, h4, h5⟩⟩
 ·cases h
 ·refine ⟨fun t ht => ?_, [], ⟨?_, ?_, fun t v h => by simp [gt] at h⟩, .inr ⟨ch, h3, rfl, h5⟩⟩
  ·rw [← h1 t ht]
   cases hd : o.dst with
   | none => rfl
   | some d =>
    rw [put_get, if_neg]
    intro e
    subst e
    exact ht (List.mem_filterMap.2 ⟨o, ho, hd⟩)
  ·rw [← h2.size]
   cases hd : o.dst <;> simp [Act.put]
  ·rw [← h2.defers]
   cases hd : o.dst <;> rfl
theorem RegP.pan {ops : Array Oper} {a0 : Act} {K : Env → World → Prop} : ∀ ch (a : Act) w, Off (dstsOf ops.toList) a0 a → EnvOk ds N a [] → N.E ch w → RegP ds N ops a0 K (.panic ch) a w :=
 fun ch a w h1 h2 h3 => ⟨h1, [], h2, .inr ⟨ch, rfl, rfl, h3⟩⟩
theorem EnvOk.cast {N N' : NX} {a : Act} {l : Env} (h : EnvOk ds N a l) (e : N.n = N'.n) : EnvOk ds N' a l := ⟨h.size.trans e, h.defers, h.at'⟩
theorem dRegion_list (hP : OkP P) {ops : Array Oper} {l : Env} {w : World} {a : Act} {K : Env → World → Prop} (hl : EnvOk ds N a l)
  (h : dRegion P N ops false l w K) : wpList P ops (RegP ds N ops a K) ops.toList a w := by
 unfold dRegion at h
 simp only at h
 have e : dstsIt (textIts 0 ops.toList) = dstsOf ops.toList := by
  conv => rhs; rw [← textIts_o 0 ops.toList]
  simp [dstsIt, dstsOf, List.filterMap_map, Function.comp_def]
 have := dOps_list (Q := RegP ds N ops a K) hP (textIts 0 ops.toList) hl FlOk.nil h (fun a' l' w' ho hl' hK => ⟨by rw [← e]; exact ho, l', hl', .inl ⟨rfl, hK⟩⟩) (fun ch a' w' ho => RegP.pan ch a' w' (by rw [← e]; exact ho))
 rw [textIts_o] at this
 exact this
theorem dRegion_any (hP : OkP P) {ops : Array Oper} {l : Env} {w : World} {a : Act} {K : Env → World → Prop} (hl : EnvOk ds N a l)
  (h : dRegion P N ops true l w K) : wpAny P .any ops (RegP ds N ops a K) ops.size (Array.replicate ops.size false) a { w with drawn := w.drawn + 1 } := by
 unfold dRegion at h
 simp only at h
 cases hb : mixOk P ops with
 | false =>
  rw [hb] at h
  simp only [cond_false] at h
  cases hf : flOk P ops with
  | true =>
   rw [hf] at h
   simp only [cond_true] at h
   refine wpAny_of_E (asv := ancL ops.toList []) (C := []) _ _ _ _ ?_
   have := dFl_region hP hf (Q := RegP ds N ops a K) RegP.inv hl (fun a' l' w' ho hl' hK => ⟨ho, l', hl', .inl ⟨rfl, hK⟩⟩) RegP.pan h
   rw [bitsA_zero] at this
   exact this
  | false =>
  rw [hf] at h
  simp only [cond_false] at h
  cases ht : treeOk P ops with
  | false => rw [ht] at h; exact h.elim
  | true =>
   rw [ht] at h
   simp only [cond_true] at h
   unfold treeOk at ht
   simp only [Bool.and_eq_true] at ht
   obtain ⟨⟨ht1, ht2⟩, ht3⟩ := ht
   refine wpAny_of_E (asv := ancL ops.toList []) (C := []) _ _ _ _ ?_
   have := (dTr_mix hP ht1 (Q := RegP ds N ops a K) RegP.inv _ rfl
    (trRows P ops) rfl (a0 := a) (K := K) (fun a' l' w' ho hl' hK => ⟨ho, l', hl', .inl ⟨rfl, hK⟩⟩) RegP.pan (trOf P ops) true 0 ops.size (Nat.le_of_ble_eq_true ht2)
    (fun j hj => by simp at hj) (fun _ hx => (by cases hx)) ht3 hl FlOk.nil (Off.refl _ _) h).1 rfl
   rw [bitsA_zero] at this
   exact this
 | true =>
  rw [hb] at h
  simp only [cond_true] at h
  unfold mixOk at hb
  simp only [Bool.and_eq_true] at hb
  obtain ⟨⟨hb1, hb2⟩, hb3⟩ := hb
  refine wpAny_of_E (asv := ancL ops.toList []) (C := []) _ _ _ _ ?_
  have hsub : ∀ t, t ∈ dstsIt ((canonOf (rowsOf P 0 ops.toList (ancL ops.toList []))).map itOf) → t ∈ dstsOf ops.toList := by
   intro t ht
   simp only [dstsIt, List.mem_filterMap, List.mem_map] at ht
   obtain ⟨it, ⟨x, hx, rfl⟩, hd⟩ := ht
   obtain ⟨jj, h1, _⟩ := rowsOf_mem (canonOf_mem hx)
   simp only [dstsOf, List.mem_filterMap]
   exact ⟨x.o, List.mem_of_getElem? h1, hd⟩
  have := dOps_mix hP hb1 (Q := RegP ds N ops a K) RegP.inv _ rfl
   (canonOf (rowsOf P 0 ops.toList (ancL ops.toList []))) 0 (fun x hx => canonOf_mem hx) (fun j hj => by simp at hj) (fun _ hx => (by cases hx)) hb3 hl FlOk.nil h
   (fun a' l' w' ho hl' hK => ⟨ho.mono hsub, l', hl', .inl ⟨rfl, hK⟩⟩) (fun ch a' w' ho => RegP.pan ch a' w' (ho.mono hsub))
  rw [bitsA_zero, Nat.eq_of_beq_eq_true hb2] at this
  exact this
theorem wp_dRegion (hP : OkP P) {id : Nat} {ops : Array Oper} {draw : Bool} {l : Env} {w : World} {a : Act} {K : Env → World → Prop} (hl : EnvOk ds N a l)
  (h : dRegion P N ops draw l w K) : (Code.region id ops draw).wp P (RegP ds N ops a K) a w := by
 cases draw with
 | false => exact wp_region_list (dRegion_list hP hl h)
 | true => exact wp_region_any hP.mixed (dRegion_any hP hl h)
theorem gt_all {l : Env} {a : Act} (h : ∀ t v, (t, some v) ∈ l → a.tmps[t]? = some v) : ∀ t v, gt l t = some (some v) → a.tmps[t]? = some v := by
 induction l with
 | nil => intro t v hg; simp [gt] at hg
 | cons x r ih =>
  intro t v hg
  obtain ⟨j, u⟩ := x
  simp only [gt] at hg
  cases hb : Nat.beq j t with
  | true =>
   rw [hb] at hg
   simp only [cond_true, Option.some.injEq] at hg
   subst hg
   rw [← Nat.eq_of_beq_eq_true hb]
   exact h j v (by simp)
  | false => rw [hb] at hg; exact ih (fun t v ht => h t v (by simp [ht])) t v hg
theorem mem_keepEnv {l : Env} : ∀ {ts : List Nat} {kl : Env}, keepEnv l ts = some kl → ∀ t v, (t, some v) ∈ kl → t ∈ ts ∧ gt l t = some (some v)
 | [], kl, h, t, v, hm => by simp only [keepEnv, Option.some.injEq] at h; subst h; cases hm
 | x :: r, kl, h, t, v, hm => by
  simp only [keepEnv] at h
  split at h
  ·rename_i u e hg hk
   simp only [Option.some.injEq] at h
   subst h
   rcases List.mem_cons.1 hm with hm | hm
   ·simp only [Prod.mk.injEq, Option.some.injEq] at hm
    obtain ⟨rfl, rfl⟩ := hm
    exact ⟨by simp, hg⟩
   ·obtain ⟨h1, h2⟩ := mem_keepEnv hk t v hm
    exact ⟨by simp [h1], h2⟩
  ·cases h
theorem mem_zipEnv {a : Act} {l : Env} (hl : ∀ t v, gt l t = some (some v) → a.tmps[t]? = some v) : ∀ {ms : List (Nat × Kd)} {vs : List Value}, getVals l (ms.map (·.1)) = some vs →
  ∀ t v, (t, some v) ∈ zipEnv ms vs → a.tmps[t]? = some v
 | [], vs, h, t, v, hm => by simp [zipEnv] at hm
 | (x, k) :: r, vs, h, t, v, hm => by
  simp only [List.map_cons, getVals] at h
  split at h
  ·rename_i u e hg hk
   simp only [Option.some.injEq] at h
   subst h
   simp only [zipEnv] at hm
   rcases List.mem_cons.1 hm with hm | hm
   ·simp only [Prod.mk.injEq, Option.some.injEq] at hm
    obtain ⟨rfl, rfl⟩ := hm
    exact hl _ _ hg
   ·exact mem_zipEnv hl hk t v hm
  ·cases h
theorem of_kept {c : Code} {ts : List Nat} (h : kept c ts = true) : ∀ t ∈ ts, t ∉ writes c := by
 intro t ht hw
 have := List.all_eq_true.1 h t ht
 simp only [Bool.not_eq_true'] at this
 have h2 : (writes c).any (Nat.beq t) = true := List.any_eq_true.2 ⟨t, hw, by simp⟩
 rw [h2] at this
 cases this
theorem env_again {a a' : Act} {l l' kl : Env} {h : Hint} {vs : List Value} {c : Code} (hl : EnvOk ds N a l) (hl' : EnvOk ds N a' l') (ho : Off (writes c) a a') (hk : kept c h.keep = true)
  (hkl : keepEnv l h.keep = some kl) (hv : getVals l' (h.mods.map (·.1)) = some vs) : EnvOk ds N a' (zipEnv h.mods vs ++ kl) := by
 refine ⟨hl'.size, hl'.defers, gt_all ?_⟩
 intro t v hm
 rcases List.mem_append.1 hm with hm | hm
 ·exact mem_zipEnv hl'.at' hv t v hm
 ·obtain ⟨h1, h2⟩ := mem_keepEnv hkl t v hm
  rw [ho t (of_kept hk t h1)]
  exact hl.at' t v h2
def Post (ds : List Deferred) (N : NX) (ws : List Nat) (a : Act) (Q : Exit → Env → World → Prop) : Exit → Act → World → Prop :=
 fun e a' w' => Off ws a a' ∧ ∃ l', EnvOk ds N a' l' ∧ Q e l' w'
theorem dCode_sound (hP : OkP P) : ∀ (c : Code) {l : Env} {Q : Exit → Env → World → Prop} {w : World} {a : Act}, EnvOk ds N a l → dCode P N H c l Q w →
  c.wp P (Post ds N (writes c) a Q) a w
 | .skip, l, Q, w, a, hl, h => wp_skip ⟨Off.refl _ _, l, hl, h⟩
 | .label _, l, Q, w, a, hl, h => wp_label ⟨Off.refl _ _, l, hl, h⟩
 | .region id ops draw, l, Q, w, a, hl, h => by
  refine wp_mono (wp_dRegion (N := ⟨N.n, N.pan, fun ch w' => Q (.panic ch) [] w'⟩) hP (hl.cast rfl) h) ?_
  rintro e a' w' ⟨ho, l', hl', ⟨rfl, hK⟩ | ⟨ch, rfl, rfl, hK⟩⟩
  ·exact ⟨ho, l', hl'.cast rfl, hK⟩
  ·exact ⟨ho, [], hl'.cast rfl, hK⟩
 | .seq x y, l, Q, w, a, hl, h => by
  have ihx := fun {l Q w a} => dCode_sound hP x (l := l) (Q := Q) (w := w) (a := a)
  have ihy := fun {l Q w a} => dCode_sound hP y (l := l) (Q := Q) (w := w) (a := a)
  unfold dCode at h
  refine wp_seq ?_
  split at h
  ·refine wp_mono (ihx hl h) ?_
   rintro e a' w' ⟨ho, l', hl', hq⟩
   have hox : Off (writes (.seq x y)) a a' := ho.mono fun t ht => by simp [writes, ht]
   cases e with
   | normal =>
    refine wp_mono (ihy hl' hq) ?_
    rintro e a'' w'' ⟨ho', l'', hl'', hq'⟩
    exact ⟨hox.trans (ho'.mono fun t ht => by simp [writes, ht]), l'', hl'', hq'⟩
   | _ => exact ⟨hox, l', hl', hq⟩
  ·rename_i hh _
   cases hb : kept x hh.keep with
   | false => rw [hb] at h; exact h.elim
   | true =>
    rw [hb] at h
    simp only [cond_true] at h
    split at h
    ·exact h.elim
    ·rename_i kl hkl
     obtain ⟨J, h1, h2⟩ := h
     refine wp_mono (ihx hl h1) ?_
     rintro e a' w' ⟨ho, l', hl', hq⟩
     have hox : Off (writes (.seq x y)) a a' := ho.mono fun t ht => by simp [writes, ht]
     cases e with
     | normal =>
      simp only at hq
      split at hq
      ·rename_i vs hvs
       obtain ⟨r, hr, hb2⟩ := of_viewL hq h2
       refine wp_mono (ihy (env_again hl hl' ho hb hkl hvs) (hb2 w' hr)) ?_
       rintro e a'' w'' ⟨ho', l'', hl'', hq'⟩
       exact ⟨hox.trans (ho'.mono fun t ht => by simp [writes, ht]), l'', hl'', hq'⟩
      ·exact hq.elim
     | _ => exact ⟨hox, l', hl', hq⟩
 | .cond c x y, l, Q, w, a, hl, h => by
  have ihx := fun {l Q w a} => dCode_sound hP x (l := l) (Q := Q) (w := w) (a := a)
  have ihy := fun {l Q w a} => dCode_sound hP y (l := l) (Q := Q) (w := w) (a := a)
  unfold dCode at h
  split at h
  ·rename_i b hb
   have he := of_look hl FlOk.nil holds_nil c _ hb
   refine wp_cond he ?_
   cases b with
   | true =>
    simp only [if_true] at h ⊢
    refine wp_mono (ihx hl h) ?_
    rintro e a' w' ⟨ho, r⟩
    exact ⟨ho.mono fun t ht => by simp [writes, ht], r⟩
   | false =>
    simp only [Bool.false_eq_true, if_false] at h ⊢
    refine wp_mono (ihy hl h) ?_
    rintro e a' w' ⟨ho, r⟩
    exact ⟨ho.mono fun t ht => by simp [writes, ht], r⟩
  ·exact h.elim
 | .block id c, l, Q, w, a, hl, h => by
  have ih := fun {l Q w a} => dCode_sound hP c (l := l) (Q := Q) (w := w) (a := a)
  unfold dCode at h
  refine wp_block (wp_mono (ih hl h) ?_)
  rintro e a' w' ⟨ho, l', hl', hq⟩
  cases e with
  | exit id' =>
   simp only [Exit.inBlock]
   simp only at hq
   by_cases hid : id' = id
   ·rw [if_pos hid]
    have : Nat.beq id' id = true := by rw [hid]; simp
    rw [this] at hq
    exact ⟨ho, l', hl', hq⟩
   ·rw [if_neg hid]
    have : Nat.beq id' id = false := by
     cases hb : Nat.beq id' id with
     | false => rfl
     | true => exact absurd (Nat.eq_of_beq_eq_true hb) hid
    rw [this] at hq
    exact ⟨ho, l', hl', hq⟩
  | _ => exact ⟨ho, l', hl', hq⟩
 | .loop c, l, Q, w, a, hl, h => by
  have ih := fun {l Q w a} => dCode_sound hP c (l := l) (Q := Q) (w := w) (a := a)
  unfold dCode at h
  split at h
  ·exact h.elim
  ·rename_i hh _
   cases hb : kept c hh.keep with
   | false => rw [hb] at h; exact h.elim
   | true =>
    rw [hb] at h
    simp only [cond_true] at h
    split at h
    ·rename_i kl vs0 hkl hvs0
     obtain ⟨Inv, h1, h2⟩ := h
     have start : ∃ (n : Nat) (vs : List Value) (r : Nat → World → Prop), getVals l (hh.mods.map (·.1)) = some vs ∧ r n w ∧ (∀ n w', r n w' → dCode P N H c (zipEnv hh.mods vs ++ kl) (fun e l' w'' => match e with
       | .normal => match getVals l' (hh.mods.map (·.1)) with
        | some vs' => viewL (hh.mods.map (·.2)) vs' (fun r' => ∃ n', n' < n ∧ r' n' w'') Inv
        | none => False
       | e => Q e l' w'') w') := by
      obtain ⟨r, ⟨n, hr⟩, hB⟩ := of_viewL h1 h2
      exact ⟨n, vs0, r, hvs0, hr, hB⟩
     obtain ⟨n0, vs, r0, hvs, hr0, hB0⟩ := start
     refine wp_loop_ghost (fun n a' w' => Off (writes c) a a' ∧ ∃ (l' : Env) (vs : List Value) (r : Nat → World → Prop), EnvOk ds N a' l' ∧ getVals l' (hh.mods.map (·.1)) = some vs ∧ r n w' ∧
       (∀ n w', r n w' → dCode P N H c (zipEnv hh.mods vs ++ kl) (fun e l' w'' => match e with
       | .normal => match getVals l' (hh.mods.map (·.1)) with
        | some vs' => viewL (hh.mods.map (·.2)) vs' (fun r' => ∃ n', n' < n ∧ r' n' w'') Inv
        | none => False
       | e => Q e l' w'') w')) n0 ⟨Off.refl _ _, l, vs, r0, hl, hvs, hr0, hB0⟩ ?_
     rintro n a1 w1 ⟨ho, l1, vs1, r1, hl1, hvs1, hr1, hB1⟩
     refine wp_mono (ih (env_again hl hl1 ho hb hkl hvs1) (hB1 n w1 hr1)) ?_
     rintro e a' w' ⟨ho', l', hl', hq⟩
     cases e with
     | normal =>
      simp only at hq
      split at hq
      ·rename_i vs' hvs'
       obtain ⟨r', ⟨n', hlt, hr'⟩, hB'⟩ := of_viewL hq h2
       exact ⟨n', hlt, ho.trans ho', l', vs', r', hl', hvs', hr', hB'⟩
      ·exact hq.elim
     | _ => exact ⟨ho.trans ho', l', hl', hq⟩
    ·exact h.elim
 | .exit id, l, Q, w, a, hl, h => wp_exit ⟨Off.refl _ _, l, hl, h⟩
 | .ret, l, Q, w, a, hl, h => wp_ret ⟨Off.refl _ _, l, hl, h⟩
 | .rangeFunc _ _ _ _, _, _, _, _, _, h => h.elim
 | .scope _, _, _, _, _, _, h => h.elim
 | .goto _, _, _, _, _, _, h => h.elim
 | .refuse _, _, _, _, _, _, h => h.elim
theorem gt_initEnv : ∀ {vs : List Value} {i t : Nat} {v : Value}, gt (initEnv i vs) t = some (some v) → i ≤ t ∧ vs[t - i]? = some v
 | [], i, t, v, h => by simp [initEnv, gt] at h
 | u :: vs, i, t, v, h => by
  simp only [initEnv, gt] at h
  cases hb : Nat.beq i t with
  | true =>
   rw [hb] at h
   simp only [cond_true, Option.some.injEq] at h
   have := Nat.eq_of_beq_eq_true hb
   subst this
   simp [h]
  | false =>
   rw [hb] at h
   obtain ⟨h1, h2⟩ := gt_initEnv h
   refine ⟨by omega, ?_⟩
   rw [show t - i = (t - (i + 1)) + 1 by omega]
   simpa using h2
def resF (tmps : Array Value) : ResultVar → Sem Value
 | .tmp t => pure (tmps.getD t undef)
 | .cell x t => do loadVar t (← asAddr (tmps.getD x undef))
theorem results_eq (fn : Func) (tmps : Array Value) :
  results fn tmps = (do let vs ← fn.results.mapM (resF tmps); pure (if h : vs.size = 1 then vs[0] else .tuple vs)) := by
 unfold results
 congr 1
theorem of_dResults {a : Act} {l : Env} {w : World} (hl : EnvOk ds N a l) : ∀ {rs : List ResultVar} {K : List Value → Prop}, dResults P l w rs K →
  ∃ vs, (rs.mapM (resF a.tmps)).run P w = .ok vs w ∧ K vs
 | [], K, h => ⟨[], by simp, h⟩
 | .tmp t :: r, K, h => by
  simp only [dResults] at h
  split at h
  ·rename_i v hv
   obtain ⟨vs, hr, hK⟩ := of_dResults hl h
   have := hl.at' _ _ hv
   have h1 : (resF a.tmps (.tmp t)).run P w = .ok v w := by simp [resF, this]
   exact ⟨v :: vs, by simp only [List.mapM_cons, Sem.run_bind, h1, Result.andThen_ok, hr, Sem.run_pure], hK⟩
  ·exact h.elim
 | .cell t ty :: r, K, h => by
  simp only [dResults] at h
  split at h
  ·rename_i p hv
   obtain ⟨ad, rfl, h1⟩ := of_NN h
   obtain ⟨v, hfp1, hv1, h2⟩ := of_dLoad h1
   obtain ⟨vs, hr, hK⟩ := of_dResults hl h2
   have := hl.at' _ _ hv
   have h1 : (resF a.tmps (.cell t ty)).run P w = .ok v w := by simp [resF, this, asAddr, hv1 w hfp1]
   exact ⟨v :: vs, by simp only [List.mapM_cons, Sem.run_bind, h1, Result.andThen_ok, hr, Sem.run_pure], hK⟩
  ·exact h.elim
theorem dFuncE_sound (hP : OkP P) {pan : List FuncId} {f : FuncId} {fn : Func} {args : List Value} {K : Value → World → Prop} {E : List PanicEntry → World → Prop} {w : World} (hf : P.funcs[f]? = some fn)
  (h : dFuncE P H pan fn args K E w) : Calls P f args.toArray w fun e w' => (∃ v, e = .returned v ∧ K v w') ∨ ∃ ch, e = .panicked ch ∧ E ch w' := by
 unfold dFuncE at h
 split at h
 ·exact h.elim
 ·rename_i c hc
  cases hb : Nat.ble args.length fn.ntmps with
  | false => rw [hb] at h; exact h.elim
  | true =>
   rw [hb] at h
   simp only [cond_true] at h
   have hle : args.length ≤ fn.ntmps := Nat.le_of_ble_eq_true hb
   refine calls_of_wp hf hc ?_
   have hl : EnvOk [] ⟨fn.ntmps, pan, fun _ _ => False⟩ ⟨args.toArray ++ Array.replicate (fn.ntmps - args.toArray.size) undef, []⟩ (initEnv 0 args) := by
    refine ⟨by simp; omega, rfl, fun t v ht => ?_⟩
    obtain ⟨_, h2⟩ := gt_initEnv ht
    simp only [Nat.sub_zero] at h2
    have hlt := (List.getElem?_eq_some_iff.1 h2).1
    rw [Array.getElem?_append_left (by simpa using hlt)]
    simpa using h2
   refine wp_mono (dCode_sound hP c hl h) ?_
   rintro e a' w' ⟨_, l', hl', hq⟩
   have fin : dResults P l' w' fn.results.toList (fun vs => K (mkRes vs) w') → a'.defers = [] ∧ ∃ v, (results fn a'.tmps).run P w' = .ok v w' ∧ ((∃ v', Ending.returned v = .returned v' ∧ K v' w') ∨ ∃ ch, Ending.returned v = .panicked ch ∧ E ch w') := by
    intro hr
    obtain ⟨vs, hv, hK⟩ := of_dResults hl' hr
    refine ⟨hl'.defers, mkRes vs, ?_, .inl ⟨mkRes vs, rfl, hK⟩⟩
    rw [results_eq, Array.mapM_eq_mapM_toList]
    simp only [Sem.run_bind, Sem.run_map, hv, Result.andThen_ok, Sem.run_pure]
    congr 1
    unfold mkRes
    split
    ·rename_i h1
     have hlen : vs.length = 1 := by simpa using h1
     match vs, hlen with
     | [v], _ => rfl
    ·rename_i h1
     have hlen : vs.length ≠ 1 := by simpa using h1
     match vs, hlen with
     | [], _ => rfl
     | _ :: _ :: _, _ => rfl
   cases e with
   | normal => exact fin hq
   | ret => exact fin hq
   | panic ch => exact ⟨hl'.defers, .inr ⟨ch, rfl, hq⟩⟩
   | _ => exact hq.elim
theorem dFunc_sound (hP : OkP P) {f : FuncId} {fn : Func} {args : List Value} {K : Value → World → Prop} {w : World} (hf : P.funcs[f]? = some fn)
  (h : dFunc P H fn args K w) : Calls P f args.toArray w fun e w' => ∃ v, e = .returned v ∧ K v w' :=
 Calls.mono (dFuncE_sound hP hf h) fun e w' h => h.elim id fun ⟨_, _, h⟩ => h.elim
theorem callK_of (hP : OkP P) {f : FuncId} {fn : Func} {args : List Value} {shs : List Sh} {R : Fn (kdsOf shs) (World → Prop)} {w : World} (hf : P.funcs[f]? = some fn)
  (h : dFunc P H fn args (fun v w' => viewRet shs v R w') w) : CallK P f args shs w R := dFunc_sound hP hf h
theorem callP_of (hP : OkP P) {pan : List FuncId} {f : FuncId} {fn : Func} {args : List Value} {shs : List Sh} {R : Fn (kdsOf shs) (World → Prop)} {E : List PanicEntry → World → Prop} {w : World} (hf : P.funcs[f]? = some fn)
  (h : dFuncE P H pan fn args (fun v w' => viewRet shs v R w') E w) : CallP P f args shs w R E := dFuncE_sound hP hf h
end
end Go.Den
end

section
namespace Go.Den
def Dr (w : World) (K : World → Prop) : Prop := K w.drew
end Go.Den
end

section
namespace Go.Proofs.YtmfgofbcnlkolaaGreatDoor.F
open Go Go.Den Go.Proofs
theorem okP : OkP Tryz.prog := ⟨by kernel_rfl, by kernel_rfl⟩
def c3 (op : Int) (name : ByteArray) (i_Op i_A : Int) (funcs : Sl) (w : World) (R : Bool → World → Prop) : Prop :=
 CallK Tryz.prog 3 [.int .i64 op, .string name, .agg #[.int .i64 i_Op, .int .i64 i_A], .slice funcs.a funcs.len funcs.cap] [.one .b] w R
def c4 (b : Sl) (w : World) (R : Bool → World → Prop) : Prop :=
 CallK Tryz.prog 4 [.slice b.a b.len b.cap] [.one .b] w R
def c5 (p_Systems p_Funcs : Sl) (w : World) (R : Bool → World → Prop) : Prop :=
 CallK Tryz.prog 5 [.agg #[.slice p_Systems.a p_Systems.len p_Systems.cap, .slice p_Funcs.a p_Funcs.len p_Funcs.cap]] [.one .b] w R
def c6 (r_Name : ByteArray) (r_Params r_Locals : Int) (r_Code : Sl) (s : ByteArray) (w : World) (R : Bool → World → Prop) : Prop :=
 CallK Tryz.prog 6 [.agg #[.string r_Name, .int .i64 r_Params, .int .i64 r_Locals, .slice r_Code.a r_Code.len r_Code.cap], .string s] [.one .b] w R
def c7 (p_Systems p_Funcs : Sl) (r_Name : ByteArray) (r_Params r_Locals : Int) (r_Code b : Sl) (s : ByteArray) (w : World) (R : Bool → World → Prop) : Prop :=
 CallK Tryz.prog 7 [.agg #[.slice p_Systems.a p_Systems.len p_Systems.cap, .slice p_Funcs.a p_Funcs.len p_Funcs.cap], .agg #[.string r_Name, .int .i64 r_Params, .int .i64 r_Locals, .slice r_Code.a r_Code.len r_Code.cap], .slice b.a b.len b.cap, .string s] [.one .b] w R
def c8 (w : World) (R : Bool → World → Prop) : Prop :=
 CallK Tryz.prog 8 [] [.one .b] w R
def c9 (i_Op i_A : Int) (funcs : Sl) (w : World) (R : Int → Int → World → Prop) : Prop :=
 CallK Tryz.prog 9 [.agg #[.int .i64 i_Op, .int .i64 i_A], .slice funcs.a funcs.len funcs.cap] [.one (.i .i64), .one (.i .i64)] w R
def c10 (i_Op i_A : Int) (funcs : Sl) (w : World) (R : Int → Int → World → Prop) : Prop :=
 CallK Tryz.prog 10 [.agg #[.int .i64 i_Op, .int .i64 i_A], .slice funcs.a funcs.len funcs.cap] [.one (.i .i64), .one (.i .i64)] w R
def c11 (op : Int) (w : World) (R : ByteArray → World → Prop) : Prop :=
 CallK Tryz.prog 11 [.int .i64 op] [.one .s] w R
def c12 (op : Int) (w : World) (R : ByteArray → World → Prop) : Prop :=
 CallK Tryz.prog 12 [.int .i64 op] [.one .s] w R
def c13 (name : ByteArray) (w : World) (R : Int → World → Prop) : Prop :=
 CallK Tryz.prog 13 [.string name] [.one (.i .i64)] w R
def c14 (name : ByteArray) (w : World) (R : Int → World → Prop) : Prop :=
 CallK Tryz.prog 14 [.string name] [.one (.i .i64)] w R
def c15 (b : Sl) (w : World) (R : Sl → Sl → Value → World → Prop) : Prop :=
 CallK Tryz.prog 15 [.slice b.a b.len b.cap] [.agg [.sl, .sl], .one .v] w R
def c16 (e : Value) (w : World) (R : Int → Int → Bool → World → Prop) : Prop :=
 CallK Tryz.prog 16 [e] [.one (.i .i64), .one (.i .i64), .one .b] w R
def c20 (r_Name : ByteArray) (r_Params r_Locals : Int) (r_Code : Sl) (w : World) (R : ByteArray → Int → Int → Sl → Sl → World → Prop) : Prop :=
 CallK Tryz.prog 20 [.agg #[.string r_Name, .int .i64 r_Params, .int .i64 r_Locals, .slice r_Code.a r_Code.len r_Code.cap]] [.agg [.s, .i .i64, .i .i64, .sl], .one .sl] w R
def c21 (l all : Sl) (w : World) (R : Sl → Sl → World → Prop) : Prop :=
 CallK Tryz.prog 21 [.slice l.a l.len l.cap, .slice all.a all.len all.cap] [.one .sl, .one .sl] w R
def c22 (p_Systems p_Funcs : Sl) (w : World) (R : Sl → Int → World → Prop) : Prop :=
 CallK Tryz.prog 22 [.agg #[.slice p_Systems.a p_Systems.len p_Systems.cap, .slice p_Funcs.a p_Funcs.len p_Funcs.cap]] [.one .sl, .one (.i .i64)] w R
def c25 (r_Name : ByteArray) (r_Params r_Locals : Int) (r_Code : Sl) (w : World) (R : ByteArray → World → Prop) : Prop :=
 CallK Tryz.prog 25 [.agg #[.string r_Name, .int .i64 r_Params, .int .i64 r_Locals, .slice r_Code.a r_Code.len r_Code.cap]] [.one .s] w R
def c27 (s : ByteArray) (w : World) (R : ByteArray → Int → Int → Sl → Value → World → Prop) : Prop :=
 CallK Tryz.prog 27 [.string s] [.agg [.s, .i .i64, .i .i64, .sl], .one .v] w R
def c31 (op : Int) (w : World) (R : Bool → World → Prop) : Prop :=
 CallK Tryz.prog 31 [.int .i64 op] [.one .b] w R
def c32 (op : Int) (w : World) (R : ByteArray → Bool → Int → Int → Int → World → Prop) : Prop :=
 CallK Tryz.prog 32 [.int .i64 op] [.agg [.s, .b, .i .i64, .i .i64, .i .i64]] w R
def c33 (op : Int) (w : World) (R : Bool → World → Prop) : Prop :=
 CallK Tryz.prog 33 [.int .i64 op] [.one .b] w R
def c34 (w : World) (R : Sl → World → Prop) : Prop :=
 CallK Tryz.prog 34 [] [.one .sl] w R
def c37 (r : Option Addr) (w : World) (R : Sl → Sl → World → Prop) (E : List PanicEntry → World → Prop) : Prop :=
 CallP Tryz.prog 37 [.pointer r] [.agg [.sl, .sl]] w R E
def c43 (p_Systems p_Funcs : Sl) (w : World) (R : Bool → World → Prop) : Prop :=
 CallK Tryz.prog 43 [.agg #[.slice p_Systems.a p_Systems.len p_Systems.cap, .slice p_Funcs.a p_Funcs.len p_Funcs.cap]] [.one .b] w R
def c44 (b : Sl) (n_ : Int) (w : World) (R : Sl → World → Prop) : Prop :=
 CallK Tryz.prog 44 [.slice b.a b.len b.cap, .int .i64 n_] [.one .sl] w R
def c45 (s : Option Addr) (w : World) (R : Option Addr → Option Addr → Option Addr → Option Addr → World → Prop) : Prop :=
 CallK Tryz.prog 45 [.pointer s] [.agg [.p, .p, .p, .p]] w R
def c46 (b : Sl) (r_Name : ByteArray) (r_Params r_Locals : Int) (r_Code : Sl) (w : World) (R : Sl → World → Prop) : Prop :=
 CallK Tryz.prog 46 [.slice b.a b.len b.cap, .agg #[.string r_Name, .int .i64 r_Params, .int .i64 r_Locals, .slice r_Code.a r_Code.len r_Code.cap]] [.one .sl] w R
def c51 (name : ByteArray) (w : World) (R : Bool → World → Prop) : Prop :=
 CallK Tryz.prog 51 [.string name] [.one .b] w R
def c52 (r_Name : ByteArray) (r_Params r_Locals : Int) (r_Code : Sl) (left : Option Addr) (w : World) (R : Bool → World → Prop) : Prop :=
 CallK Tryz.prog 52 [.agg #[.string r_Name, .int .i64 r_Params, .int .i64 r_Locals, .slice r_Code.a r_Code.len r_Code.cap], .pointer left] [.one .b] w R
def c53 (b : Option Addr) (s : ByteArray) (w : World) (R : Int → Value → World → Prop) : Prop :=
 CallK Tryz.prog 53 [.pointer b, .string s] [.one (.i .i64), .one .v] w R
def c54 (i : Int) (w : World) (R : ByteArray → World → Prop) : Prop :=
 CallK Tryz.prog 54 [.int .i64 i] [.one .s] w R
def c55 (i_Op i_A : Int) (w : World) (R : ByteArray → World → Prop) : Prop :=
 CallK Tryz.prog 55 [.agg #[.int .i64 i_Op, .int .i64 i_A]] [.one .s] w R
def c56 (b : Option Addr) (w : World) (R : ByteArray → World → Prop) : Prop :=
 CallK Tryz.prog 56 [.pointer b] [.one .s] w R
def c60 (s sep : ByteArray) (w : World) (R : ByteArray → ByteArray → Bool → World → Prop) : Prop :=
 CallK Tryz.prog 60 [.string s, .string sep] [.one .s, .one .s, .one .b] w R
def c61 (s : ByteArray) (w : World) (R : ByteArray → Int → Int → Sl → Bool → World → Prop) : Prop :=
 CallK Tryz.prog 61 [.string s] [.agg [.s, .i .i64, .i .i64, .sl], .one .b] w R
def c62 (s : ByteArray) (w : World) (R : Int → Int → Bool → World → Prop) : Prop :=
 CallK Tryz.prog 62 [.string s] [.agg [.i .i64, .i .i64], .one .b] w R
def c66 (op : Int) (w : World) (R : ByteArray → Bool → Int → Int → Int → World → Prop) : Prop :=
 CallK Tryz.prog 66 [.int .i64 op] [.agg [.s, .b, .i .i64, .i .i64, .i .i64]] w R
def c67 (op : Int) (w : World) (R : ByteArray → Bool → Int → Int → Int → World → Prop) : Prop :=
 CallK Tryz.prog 67 [.int .i64 op] [.agg [.s, .b, .i .i64, .i .i64, .i .i64]] w R
def c68 (r : Option Addr) (least most : Int) (w : World) (R : Int → World → Prop) (E : List PanicEntry → World → Prop) : Prop :=
 CallP Tryz.prog 68 [.pointer r, .int .i64 least, .int .i64 most] [.one (.i .i64)] w R E
def c69 (r : Option Addr) (w : World) (R : Sl → World → Prop) (E : List PanicEntry → World → Prop) : Prop :=
 CallP Tryz.prog 69 [.pointer r] [.one .sl] w R E
def c70 (r : Option Addr) (w : World) (R : ByteArray → Int → Int → Sl → World → Prop) (E : List PanicEntry → World → Prop) : Prop :=
 CallP Tryz.prog 70 [.pointer r] [.agg [.s, .i .i64, .i .i64, .sl]] w R E
def c71 (at_ : Int) (w : World) (R : World → Prop) (E : List PanicEntry → World → Prop) : Prop :=
 CallP Tryz.prog 71 [.int .i64 at_] [] w R E
def c75 (l : Sl) (w : World) (R : Bool → World → Prop) : Prop :=
 CallK Tryz.prog 75 [.slice l.a l.len l.cap] [.one .b] w R
def c76 (b : Sl) (n_ : Int) (w : World) (R : Sl → World → Prop) : Prop :=
 CallK Tryz.prog 76 [.slice b.a b.len b.cap, .int .u64 n_] [.one .sl] w R
def c77 (b : Sl) (s : ByteArray) (w : World) (R : Sl → World → Prop) : Prop :=
 CallK Tryz.prog 77 [.slice b.a b.len b.cap, .string s] [.one .sl] w R
def c78 (b : Sl) (n_ : Int) (w : World) (R : Sl → World → Prop) : Prop :=
 CallK Tryz.prog 78 [.slice b.a b.len b.cap, .int .i64 n_] [.one .sl] w R
def c80 (r_Name : ByteArray) (r_Params r_Locals : Int) (r_Code : Sl) (w : World) (R : Bool → World → Prop) : Prop :=
 CallK Tryz.prog 80 [.agg #[.string r_Name, .int .i64 r_Params, .int .i64 r_Locals, .slice r_Code.a r_Code.len r_Code.cap]] [.one .b] w R
def c83 (r_Name : ByteArray) (r_Params r_Locals : Int) (r_Code : Sl) (w : World) (R : Bool → World → Prop) : Prop :=
 CallK Tryz.prog 83 [.agg #[.string r_Name, .int .i64 r_Params, .int .i64 r_Locals, .slice r_Code.a r_Code.len r_Code.cap]] [.one .b] w R
def c84 (i_Op i_A : Int) (w : World) (R : Bool → World → Prop) : Prop :=
 CallK Tryz.prog 84 [.agg #[.int .i64 i_Op, .int .i64 i_A]] [.one .b] w R
def c85 (b : Option Addr) (w : World) (R : World → Prop) : Prop :=
 CallK Tryz.prog 85 [.pointer b] [] w R
def c86 (i : Int) (w : World) (R : ByteArray → World → Prop) : Prop :=
 CallK Tryz.prog 86 [.int .i64 i] [.one .s] w R
def c87 (i base : Int) (w : World) (R : ByteArray → World → Prop) : Prop :=
 CallK Tryz.prog 87 [.int .i64 i, .int .i64 base] [.one .s] w R
def c89 (s sep : ByteArray) (w : World) (R : Sl → World → Prop) : Prop :=
 CallK Tryz.prog 89 [.string s, .string sep] [.one .sl] w R
def c90 (s : ByteArray) (w : World) (R : Int → Bool → World → Prop) : Prop :=
 CallK Tryz.prog 90 [.string s] [.one (.i .i64), .one .b] w R
def c93 (b : Sl) (w : World) (R : Int → Int → World → Prop) : Prop :=
 CallK Tryz.prog 93 [.slice b.a b.len b.cap] [.one (.i .u64), .one (.i .i64)] w R
def c94 (b : Sl) (w : World) (R : ByteArray → Int → World → Prop) : Prop :=
 CallK Tryz.prog 94 [.slice b.a b.len b.cap] [.one .s, .one (.i .i64)] w R
def c95 (b : Sl) (w : World) (R : Int → Int → World → Prop) : Prop :=
 CallK Tryz.prog 95 [.slice b.a b.len b.cap] [.one (.i .i64), .one (.i .i64)] w R
def c97 (b : Sl) (n_ : Int) (w : World) (R : Sl → World → Prop) : Prop :=
 CallK Tryz.prog 97 [.slice b.a b.len b.cap, .int .u64 n_] [.one .sl] w R
def c98 (b : Sl) (w : World) (R : Sl → World → Prop) : Prop :=
 CallK Tryz.prog 98 [.slice b.a b.len b.cap] [.one .sl] w R
def c99 (n_ : Int) (w : World) (R : Int → World → Prop) : Prop :=
 CallK Tryz.prog 99 [.int .i64 n_] [.one (.i .u64)] w R
def c103 (i base : Int) (w : World) (R : ByteArray → World → Prop) : Prop :=
 CallK Tryz.prog 103 [.int .i64 i, .int .i64 base] [.one .s] w R
def c106 (s : ByteArray) (base bitSize : Int) (w : World) (R : Int → Value → World → Prop) : Prop :=
 CallK Tryz.prog 106 [.string s, .int .i64 base, .int .i64 bitSize] [.one (.i .i64), .one .v] w R
def c107 (n_ : Int) (w : World) (R : Int → World → Prop) : Prop :=
 CallK Tryz.prog 107 [.int .u64 n_] [.one (.i .i64)] w R
def c127 (sep : ByteArray) (w : World) (R : Int → Int → World → Prop) : Prop :=
 CallK Tryz.prog 127 [.string sep] [.one (.i .u32), .one (.i .u32)] w R
def c138 (s : ByteArray) (w : World) (R : Int → Int → World → Prop) : Prop :=
 CallK Tryz.prog 138 [.string s] [.one (.i .i32), .one (.i .i64)] w R
def f3 (op : Int) (name : ByteArray) (i_Op i_A : Int) (funcs : Sl) (w : World) (R : Bool → World → Prop) : Prop :=
 Nw (.cells #[.int .i64 i_Op, .int .i64 i_A] 23) w fun (i : Addr) (w : World) =>
 c8  w fun (head : Bool) (w : World) =>
 Nw (.cells #[] 30) w fun (b : Addr) (w : World) =>
 Run .sl Tryz.prog (Builtin.append_ #[24, 24] 24 #[.slice (some b) 0 0, .slice funcs.a funcs.len funcs.cap]) w fun (l : Sl) (w : World) =>
 Ld (.i .i64) w i fun (i_Op2 : Int) => Ld (.i .i64) w (i.add 1) fun (i_A2 : Int) =>
 c9 i_Op2 i_A2 l w fun (t p : Int) (w : World) =>
 Ld (.i .i64) w i fun (i_Op3 : Int) => Ld (.i .i64) w (i.add 1) fun (i_A3 : Int) =>
 c10 i_Op3 i_A3 funcs w fun (u q : Int) (w : World) =>
 ∃ Inv_ : Int → Nat → World → Prop, (∃ n : Nat, Inv_ 0 n w) ∧ ∀ k : Int, ∀ m : Nat, ∀ w : World, Inv_ k m w → (if (decide (k < (l.len : Int))) = true then (Ix l.a l.len k 4 fun (a : Addr) =>
 St (a.add 1) (.int .i64 (IntKind.i64.wrap (k + 1))) w fun (w : World) =>
 ∃ m2 : Nat, m2 < m ∧ Inv_ (IntKind.i64.wrap (k + 1)) m2 w) else (Ld (.i .i64) w i fun (i_Op4 : Int) => Ld (.i .i64) w (i.add 1) fun (i_A4 : Int) =>
 c9 i_Op4 i_A4 l w fun (v w_ : Int) (w : World) =>
 Dr w fun (w : World) =>
 Ld (.i .i64) w i fun (i_Op5 : Int) => Ld (.i .i64) w (i.add 1) fun (i_A5 : Int) =>
 Nw (.cells #[] 30) w fun (b2 : Addr) (w : World) =>
 Run .sl Tryz.prog (Builtin.append_ #[24, 24] 24 #[.slice (some b2) 0 0, .slice l.a l.len l.cap]) w fun (s : Sl) (w : World) =>
 w.cell? i = some (.int .i64 i_Op5) ∧ w.cell? (i.add 1) = some (.int .i64 i_A5) ∧ (c10 i_Op5 i_A5 s w fun (x y : Int) (w : World) =>
 if head = true then (if (v == x) = true then (if (w_ == y) = true then (c11 op w fun (r : ByteArray) (w : World) =>
 c12 op w fun (r2 : ByteArray) (w : World) =>
 if (r.toList == r2.toList) = true then (c13 name w fun (r3 : Int) (w : World) =>
 c14 name w fun (r4 : Int) (w : World) =>
 if (r3 == r4) = true then (if (t == u) = true then (R (p == q) w) else (R false w)) else (R false w)) else (R false w)) else (R false w)) else (R false w)) else (R false w))))
theorem c3_of {op name i_Op i_A funcs w R} (h : f3 op name i_Op i_A funcs w R) : c3 op name i_Op i_A funcs w R :=
  callK_of (H := ⟨[(6, ⟨[(15, .i .i64)], [0, 1, 6, 9, 10, 11, 12, 13, 14]⟩)], []⟩) okP Tryz.func3 (cast (by kernel_rfl) h)
def f8 (w : World) (R : Bool → World → Prop) : Prop :=
 Nw (.cells #[.int .i64 2, .int .i64 0, .int .i64 1, .int .i64 (-3), .int .i64 6, .int .i64 0, .int .i64 22, .int .i64 0] 23) w fun (b : Addr) (w : World) =>
 Nw (.cells #[.string (⟨#[]⟩ : ByteArray), .int .i64 0, .int .i64 0, .slice none 0 0] 30) w fun (r : Addr) (w : World) =>
 St r (.string (⟨#[102]⟩ : ByteArray)) w fun (w : World) =>
 St (r.add 1) (.int .i64 1) w fun (w : World) =>
 St (r.add 2) (.int .i64 2) w fun (w : World) =>
 St (r.add 3) (.slice (some b) 4 4) w fun (w : World) =>
 Ld .s w r fun (r_Name : ByteArray) => Ld (.i .i64) w (r.add 1) fun (r_Params : Int) => Ld (.i .i64) w (r.add 2) fun (r_Locals : Int) => Ld .sl w (r.add 3) fun (r_Code : Sl) =>
 c25 r_Name r_Params r_Locals r_Code w fun (s : ByteArray) (w : World) =>
 c27 (⟨#[102, 32, 49, 32, 50, 10, 112, 117, 115, 104, 32, 55, 10]⟩ : ByteArray) w fun (x_Name : ByteArray) (x_Params x_Locals : Int) (x_Code : Sl) (e : Value) (w : World) =>
 Nw (.cells #[.string (⟨#[]⟩ : ByteArray), .int .i64 0, .int .i64 0, .slice none 0 0] 30) w fun (x : Addr) (w : World) =>
 St x (.string x_Name) w fun (w : World) =>
 St (x.add 1) (.int .i64 x_Params) w fun (w : World) =>
 St (x.add 2) (.int .i64 x_Locals) w fun (w : World) =>
 St (x.add 3) (.slice x_Code.a x_Code.len x_Code.cap) w fun (w : World) =>
 c27 (⟨#[102, 32, 49, 32, 50, 10, 108, 111, 97, 100, 32, 48, 48, 10]⟩ : ByteArray) w fun (x__Name : ByteArray) (x__Params x__Locals : Int) (x__Code : Sl) (f : Value) (w : World) =>
 Nw (.cells #[.string (⟨#[]⟩ : ByteArray), .int .i64 0, .int .i64 0, .slice none 0 0] 30) w fun (x_ : Addr) (w : World) =>
 St x_ (.string x__Name) w fun (w : World) =>
 St (x_.add 1) (.int .i64 x__Params) w fun (w : World) =>
 St (x_.add 2) (.int .i64 x__Locals) w fun (w : World) =>
 St (x_.add 3) (.slice x__Code.a x__Code.len x__Code.cap) w fun (w : World) =>
 c16 f w fun (at_ bad : Int) (is : Bool) (w : World) =>
 c9 26 26 ⟨none, 0, 0⟩ w fun (t p : Int) (w : World) =>
 c22 ⟨none, 0, 0⟩ ⟨none, 0, 0⟩ w fun (b2 : Sl) (g : Int) (w : World) =>
 Nw (.cells #[.int .u8 0, .int .u8 0, .int .u8 0] 5) w fun (b3 : Addr) (w : World) =>
 c15 ⟨some b3, 3, 3⟩ w fun (x__Systems x__Funcs : Sl) (h : Value) (w : World) =>
 Nw (.cells #[.slice none 0 0, .slice none 0 0] 37) w fun (x_2 : Addr) (w : World) =>
 St x_2 (.slice x__Systems.a x__Systems.len x__Systems.cap) w fun (w : World) =>
 St (x_2.add 1) (.slice x__Funcs.a x__Funcs.len x__Funcs.cap) w fun (w : World) =>
 c16 h w fun (place worse : Int) (also : Bool) (w : World) =>
 Nw (.cells #[.int .u8 0, .int .u8 1, .int .u8 1, .int .u8 102, .int .u8 0, .int .u8 0, .int .u8 1, .int .u8 22] 5) w fun (b4 : Addr) (w : World) =>
 c15 ⟨some b4, 8, 8⟩ w fun (q_Systems q_Funcs : Sl) (i : Value) (w : World) =>
 Nw (.cells #[.slice none 0 0, .slice none 0 0] 37) w fun (q : Addr) (w : World) =>
 St q (.slice q_Systems.a q_Systems.len q_Systems.cap) w fun (w : World) =>
 St (q.add 1) (.slice q_Funcs.a q_Funcs.len q_Funcs.cap) w fun (w : World) =>
 if (s.toList == (⟨#[102, 32, 49, 32, 50, 10, 108, 111, 97, 100, 32, 48, 10, 112, 117, 115, 104, 32, 45, 51, 10, 97, 100, 100, 10, 114, 101, 116, 10]⟩ : ByteArray).toList) = true then (RunRo .b Tryz.prog (binSem .eql 39 (.tmp 72) (.const (.nilIface)) (e) (.nilIface)) w fun (eq : Bool) =>
 if eq = true then (Ld .sl w (x.add 3) fun (Code : Sl) =>
 if ((Code.len : Int) == 1) = true then (Ld .sl w (x.add 3) fun (Code2 : Sl) =>
 Ix Code2.a Code2.len 0 2 fun (a : Addr) =>
 Ld (.i .i64) w (a.add 1) fun (A : Int) =>
 if (A == 7) = true then (if (at_ == 6) = true then (if (bad == 130) = true then (if is = true then (if (t == 2) = true then (if (p == 0) = true then (RdB w ⟨b2.a, b2.len, b2.cap⟩ fun (x2 : ByteArray) =>
 if (x2.toList == (⟨#[0, 0]⟩ : ByteArray).toList) = true then (if (g == 0) = true then (if (place == 2) = true then (if (worse == 130) = true then (if also = true then (RunRo .b Tryz.prog (binSem .eql 39 (.tmp 129) (.const (.nilIface)) (i) (.nilIface)) w fun (eq2 : Bool) =>
 if eq2 = true then (Ld .sl w (q.add 1) fun (Funcs : Sl) =>
 if ((Funcs.len : Int) == 1) = true then (Ld .sl w (q.add 1) fun (Funcs2 : Sl) =>
 Ix Funcs2.a Funcs2.len 0 4 fun (a2 : Addr) =>
 Ld .sl w (a2.add 3) fun (Code3 : Sl) =>
 if ((Code3.len : Int) == 1) = true then (c11 1 w fun (r2 : ByteArray) (w : World) =>
 if (r2.toList == (⟨#[112, 117, 115, 104]⟩ : ByteArray).toList) = true then (c13 (⟨#[100, 114, 111, 112]⟩ : ByteArray) w fun (r3 : Int) (w : World) =>
 R (r3 == 39) w) else (R false w)) else (R false w)) else (R false w)) else (R false w)) else (R false w)) else (R false w)) else (R false w)) else (R false w)) else (R false w)) else (R false w)) else (R false w)) else (R false w)) else (R false w)) else (R false w)) else (R false w)) else (R false w)) else (R false w)) else (R false w)
theorem c8_of {w R} (h : f8  w R) : c8  w R :=
  callK_of (H := ⟨[], []⟩) okP Tryz.func8 (cast (by kernel_rfl) h)
def f9 (i_Op i_A : Int) (funcs : Sl) (w : World) (R : Int → Int → World → Prop) : Prop :=
 Nw (.cells #[.int .i64 i_Op, .int .i64 i_A] 23) w fun (i : Addr) (w : World) =>
 Ld (.i .i64) w i fun (Op : Int) =>
 c31 Op w fun (r : Bool) (w : World) =>
 if (!r) = true then (R 0 0 w) else (Ld (.i .i64) w i fun (Op2 : Int) =>
 c32 Op2 w fun (s_word : ByteArray) (s_number : Bool) (s_takes s_puts s_by : Int) (w : World) =>
 Nw (.cells #[.string (⟨#[]⟩ : ByteArray), .bool false, .int .i64 0, .int .i64 0, .int .i64 0] 74) w fun (s : Addr) (w : World) =>
 St s (.string s_word) w fun (w : World) =>
 St (s.add 1) (.bool s_number) w fun (w : World) =>
 St (s.add 2) (.int .i64 s_takes) w fun (w : World) =>
 St (s.add 3) (.int .i64 s_puts) w fun (w : World) =>
 St (s.add 4) (.int .i64 s_by) w fun (w : World) =>
 ∃ J_ : World → Prop, (∃ J_2 : Bool → World → Prop, (Ld (.i .i64) w (s.add 4) fun (by_ : Int) =>
 if (by_ == 1) = true then (Ld (.i .i64) w (i.add 1) fun (A : Int) =>
 if (decide (A ≥ 0)) = true then (Ld (.i .i64) w (i.add 1) fun (A2 : Int) =>
 J_2 (decide (A2 < (funcs.len : Int))) w) else (J_2 false w)) else (J_2 false w)) ∧ ∀ t14 : Bool, ∀ w : World, J_2 t14 w → (if t14 = true then (Ld (.i .i64) w (i.add 1) fun (A3 : Int) =>
 Ix funcs.a funcs.len A3 4 fun (a : Addr) =>
 Ld (.i .i64) w (a.add 1) fun (Params : Int) =>
 St (s.add 2) (.int .i64 (if 0 > Params then 0 else Params)) w fun (w : World) =>
 J_  w) else (∃ J_3 : Bool → World → Prop, (Ld (.i .i64) w (s.add 4) fun (by_2 : Int) =>
 if (by_2 == 2) = true then (Ld (.i .i64) w (i.add 1) fun (A4 : Int) =>
 J_3 (decide (A4 ≥ 0)) w) else (J_3 false w)) ∧ ∀ t38 : Bool, ∀ w : World, J_3 t38 w → (if t38 = true then (Ld (.i .i64) w (i.add 1) fun (A5 : Int) =>
 (8 : Int) ≠ 0 ∧ (St (s.add 2) (.int .i64 (Int.tmod A5 8)) w fun (w : World) =>
 J_  w)) else (J_  w))))) ∧ ∀ w : World, J_  w → (Dr w fun (w : World) =>
 Ld (.i .i64) w (s.add 2) fun (takes : Int) =>
 Ld (.i .i64) w (s.add 3) fun (puts : Int) =>
 R takes puts w))
theorem c9_of {i_Op i_A funcs w R} (h : f9 i_Op i_A funcs w R) : c9 i_Op i_A funcs w R :=
  callK_of (H := ⟨[], [(5, ⟨[(14, .b)], [1, 2, 6]⟩), (7, ⟨[(38, .b)], [2, 6]⟩), (8, ⟨[], [6]⟩)]⟩) okP Tryz.func9 (cast (by kernel_rfl) h)
def f10 (i_Op i_A : Int) (funcs : Sl) (w : World) (R : Int → Int → World → Prop) : Prop :=
 Nw (.cells #[.int .i64 i_Op, .int .i64 i_A] 23) w fun (i : Addr) (w : World) =>
 Ld (.i .i64) w i fun (Op : Int) =>
 c33 Op w fun (is : Bool) (w : World) =>
 if (!is) = true then (R 0 0 w) else (Dr w fun (w : World) =>
 Ld (.i .i64) w i fun (Op2 : Int) =>
 FlS [(.cells #[.string (⟨#[]⟩ : ByteArray), .bool false, .int .i64 0, .int .i64 0] 77, none)] w fun (y : Option Addr) (w : World) =>
 c34  w fun (r : Sl) (w : World) =>
 w.cell? i = some (.int .i64 Op2) ∧ (Ix r.a r.len Op2 4 fun (a : Addr) =>
 Ld .s w a fun (r_word : ByteArray) => Ld .b w (a.add 1) fun (r_a : Bool) => Ld (.i .i64) w (a.add 2) fun (r_takes : Int) => Ld (.i .i64) w (a.add 3) fun (r_puts : Int) =>
 FlS [(.cells #[.string (⟨#[]⟩ : ByteArray), .bool false, .int .i64 0, .int .i64 0] 77, y)] w fun (y2 : Option Addr) (w : World) =>
 Need y2 fun (r2 : Addr) =>
 St r2 (.string r_word) w fun (w : World) =>
 St (r2.add 1) (.bool r_a) w fun (w : World) =>
 St (r2.add 2) (.int .i64 r_takes) w fun (w : World) =>
 St (r2.add 3) (.int .i64 r_puts) w fun (w : World) =>
 Ld (.i .i64) w (r2.add 2) fun (takes : Int) =>
 if (takes == (-1)) = true then (∃ J_ : Bool → World → Prop, (Ld (.i .i64) w (i.add 1) fun (A : Int) =>
 if (decide (A < 0)) = true then (J_ true w) else (Ld (.i .i64) w (i.add 1) fun (A2 : Int) =>
 if (decide (A2 ≥ (funcs.len : Int))) = true then (J_ true w) else (Ld (.i .i64) w (i.add 1) fun (A3 : Int) =>
 Ix funcs.a funcs.len A3 4 fun (a2 : Addr) =>
 Ld (.i .i64) w (a2.add 1) fun (Params : Int) =>
 J_ (decide (Params < 0)) w))) ∧ ∀ t39 : Bool, ∀ w : World, J_ t39 w → (if t39 = true then (Dr w fun (w : World) =>
 Ld (.i .i64) w (r2.add 3) fun (puts : Int) =>
 R 0 puts w) else (Dr w fun (w : World) =>
 Ld (.i .i64) w (i.add 1) fun (A4 : Int) =>
 Ix funcs.a funcs.len A4 4 fun (a3 : Addr) =>
 Ld (.i .i64) w (a3.add 1) fun (Params2 : Int) =>
 Ld (.i .i64) w (r2.add 3) fun (puts2 : Int) =>
 R Params2 puts2 w))) else (Ld (.i .i64) w (r2.add 2) fun (takes2 : Int) =>
 if (takes2 == (-2)) = true then (Ld (.i .i64) w (i.add 1) fun (A5 : Int) =>
 if (decide (A5 < 0)) = true then (Dr w fun (w : World) =>
 Ld (.i .i64) w (r2.add 3) fun (puts3 : Int) =>
 R 0 puts3 w) else (Dr w fun (w : World) =>
 Ld (.i .i64) w (i.add 1) fun (A6 : Int) =>
 (8 : Int) ≠ 0 ∧ (Ld (.i .i64) w (r2.add 3) fun (puts4 : Int) =>
 R (Int.tmod A6 8) puts4 w))) else (Dr w fun (w : World) =>
 Ld (.i .i64) w (r2.add 2) fun (takes3 : Int) =>
 Ld (.i .i64) w (r2.add 3) fun (puts5 : Int) =>
 R takes3 puts5 w))))
theorem c10_of {i_Op i_A funcs w R} (h : f10 i_Op i_A funcs w R) : c10 i_Op i_A funcs w R :=
  callK_of (H := ⟨[], [(7, ⟨[(39, .b)], [1, 2, 7]⟩)]⟩) okP Tryz.func10 (cast (by kernel_rfl) h)
def f11 (op : Int) (w : World) (R : ByteArray → World → Prop) : Prop :=
 c31 op w fun (r : Bool) (w : World) =>
 if (!r) = true then (R (⟨#[]⟩ : ByteArray) w) else (c32 op w fun (r_word : ByteArray) (r_number : Bool) (r_takes r_puts r_by : Int) (w : World) =>
 R r_word w)
theorem c11_of {op w R} (h : f11 op w R) : c11 op w R :=
  callK_of (H := ⟨[], []⟩) okP Tryz.func11 (cast (by kernel_rfl) h)
def f12 (op : Int) (w : World) (R : ByteArray → World → Prop) : Prop :=
 c33 op w fun (is : Bool) (w : World) =>
 if (!is) = true then (R (⟨#[]⟩ : ByteArray) w) else (c34  w fun (r : Sl) (w : World) =>
 Ix r.a r.len op 4 fun (a : Addr) =>
 Ld .s w a fun (word : ByteArray) =>
 R word w)
theorem c12_of {op w R} (h : f12 op w R) : c12 op w R :=
  callK_of (H := ⟨[], []⟩) okP Tryz.func12 (cast (by kernel_rfl) h)
def f13 (name : ByteArray) (w : World) (R : Int → World → Prop) : Prop :=
 ∃ Inv_ : Int → Nat → World → Prop, (∃ n : Nat, Inv_ 1 n w) ∧ ∀ op : Int, ∀ m : Nat, ∀ w : World, Inv_ op m w → (if (decide (op ≤ 39)) = true then (c32 op w fun (r_word : ByteArray) (r_number : Bool) (r_takes r_puts r_by : Int) (w : World) =>
 if (r_word.toList == name.toList) = true then (R op w) else (∃ m2 : Nat, m2 < m ∧ Inv_ (IntKind.i64.wrap (op + 1)) m2 w)) else (R 0 w))
theorem c13_of {name w R} (h : f13 name w R) : c13 name w R :=
  callK_of (H := ⟨[(2, ⟨[(3, .i .i64)], [0]⟩)], []⟩) okP Tryz.func13 (cast (by kernel_rfl) h)
def f14 (name : ByteArray) (w : World) (R : Int → World → Prop) : Prop :=
 ∃ Inv_ : Int → Nat → World → Prop, (∃ n : Nat, Inv_ 1 n w) ∧ ∀ op : Int, ∀ m : Nat, ∀ w : World, Inv_ op m w → (if (decide (op ≤ 39)) = true then (c34  w fun (r : Sl) (w : World) =>
 Ix r.a r.len op 4 fun (a : Addr) =>
 Ld .s w a fun (word : ByteArray) =>
 if (word.toList == name.toList) = true then (R op w) else (∃ m2 : Nat, m2 < m ∧ Inv_ (IntKind.i64.wrap (op + 1)) m2 w)) else (R 0 w))
theorem c14_of {name w R} (h : f14 name w R) : c14 name w R :=
  callK_of (H := ⟨[(2, ⟨[(3, .i .i64)], [0]⟩)], []⟩) okP Tryz.func14 (cast (by kernel_rfl) h)
def f16 (e : Value) (w : World) (R : Int → Int → Bool → World → Prop) : Prop :=
 RunRo .b Tryz.prog (binSem .eql 39 (.tmp 7) (.const (.nilIface)) (e) (.nilIface)) w fun (eq : Bool) =>
 if eq = true then (R 0 0 true w) else (RunRoL [.one .p, .one .b] Tryz.prog (Instr.typeAssert (e) 39 86 true) w fun (x : Option Addr) (ok : Bool) (_ : World) =>
 if (cond (!ok) true x.isNone) = true then (R 0 0 false w) else (Dr w fun (w : World) =>
 NN x fun (f_ : Addr) =>
 Ld (.i .i64) w f_ fun (At : Int) =>
 NN x fun (f_2 : Addr) =>
 Ld (.i .i64) w (f_2.add 1) fun (Err : Int) =>
 NN x fun (f_3 : Addr) =>
 Ld (.i .i64) w (f_3.add 1) fun (Err2 : Int) =>
 R At Err (Err2 != 0) w))
theorem c16_of {e w R} (h : f16 e w R) : c16 e w R :=
  callK_of (H := ⟨[], []⟩) okP Tryz.func16 (cast (by kernel_rfl) h)
def f22 (p_Systems p_Funcs : Sl) (w : World) (R : Sl → Int → World → Prop) : Prop :=
 Nw (.cells #[.slice p_Systems.a p_Systems.len p_Systems.cap, .slice p_Funcs.a p_Funcs.len p_Funcs.cap] 37) w fun (p : Addr) (w : World) =>
 Ld .sl w p fun (p_Systems2 : Sl) => Ld .sl w (p.add 1) fun (p_Funcs2 : Sl) =>
 c43 p_Systems2 p_Funcs2 w fun (r : Bool) (w : World) =>
 if (!r) = true then (R ⟨none, 0, 0⟩ 130 w) else (Ld .sl w p fun (Systems : Sl) =>
 c44 ⟨none, 0, 0⟩ (Systems.len : Int) w fun (b : Sl) (w : World) =>
 Ld .sl w p fun (Systems2 : Sl) =>
 ∃ Inv_ : Sl → Int → Nat → World → Prop, (∃ n : Nat, Inv_ b 0 n w) ∧ ∀ b2 : Sl, ∀ t23 : Int, ∀ m : Nat, ∀ w : World, Inv_ b2 t23 m w → (if (decide (t23 < (Systems2.len : Int))) = true then (Ix Systems2.a Systems2.len t23 8 fun (a : Addr) =>
 Ld .sl w a fun (s_With : Sl) => Ld .sl w (a.add 1) fun (s_Without : Sl) => Ld .sl w (a.add 2) fun (s_Reads : Sl) => Ld .sl w (a.add 3) fun (s_Writes : Sl) => Ld .s w (a.add 4) fun (s_Run_Name : ByteArray) => Ld (.i .i64) w (a.add 5) fun (s_Run_Params : Int) => Ld (.i .i64) w (a.add 6) fun (s_Run_Locals : Int) => Ld .sl w (a.add 7) fun (s_Run_Code : Sl) =>
 Nw (.cells #[.slice none 0 0, .slice none 0 0, .slice none 0 0, .slice none 0 0, .string (⟨#[]⟩ : ByteArray), .int .i64 0, .int .i64 0, .slice none 0 0] 54) w fun (s : Addr) (w : World) =>
 St s (.slice s_With.a s_With.len s_With.cap) w fun (w : World) =>
 St (s.add 1) (.slice s_Without.a s_Without.len s_Without.cap) w fun (w : World) =>
 St (s.add 2) (.slice s_Reads.a s_Reads.len s_Reads.cap) w fun (w : World) =>
 St (s.add 3) (.slice s_Writes.a s_Writes.len s_Writes.cap) w fun (w : World) =>
 St (s.add 4) (.string s_Run_Name) w fun (w : World) =>
 St (s.add 5) (.int .i64 s_Run_Params) w fun (w : World) =>
 St (s.add 6) (.int .i64 s_Run_Locals) w fun (w : World) =>
 St (s.add 7) (.slice s_Run_Code.a s_Run_Code.len s_Run_Code.cap) w fun (w : World) =>
 c45 (some s) w fun (r_0 r_1 : Option Addr) (r_2 r_3 : Option Addr) (w : World) =>
 ∃ Inv_2 : Sl → Int → Nat → World → Prop, (∃ n : Nat, Inv_2 b2 0 n w) ∧ ∀ b3 : Sl, ∀ t28 : Int, ∀ m3 : Nat, ∀ w : World, Inv_2 b3 t28 m3 w → (if (decide (t28 < 4)) = true then (IxV [.pointer r_0, .pointer r_1, .pointer r_2, .pointer r_3] 4 t28 .p fun (l : Option Addr) =>
 NN l fun (l_ : Addr) =>
 Ld .sl w l_ fun (x : Sl) =>
 c44 b3 (x.len : Int) w fun (b4 : Sl) (w : World) =>
 NN l fun (l_2 : Addr) =>
 Ld .sl w l_2 fun (x2 : Sl) =>
 ∃ Inv_3 : Sl → Int → Nat → World → Prop, (∃ n : Nat, Inv_3 b4 0 n w) ∧ ∀ b5 : Sl, ∀ t41 : Int, ∀ m5 : Nat, ∀ w : World, Inv_3 b5 t41 m5 w → (if (decide (t41 < (x2.len : Int))) = true then (Ix x2.a x2.len t41 1 fun (a2 : Addr) =>
 Ld (.i .i64) w a2 fun (k : Int) =>
 c44 b5 k w fun (b6 : Sl) (w : World) =>
 ∃ m6 : Nat, m6 < m5 ∧ Inv_3 b6 (IntKind.i64.wrap (t41 + 1)) m6 w) else (∃ m4 : Nat, m4 < m3 ∧ Inv_2 b5 (IntKind.i64.wrap (t28 + 1)) m4 w))) else (Ld .s w (s.add 4) fun (Run_Name : ByteArray) => Ld (.i .i64) w ((s.add 4).add 1) fun (Run_Params : Int) => Ld (.i .i64) w ((s.add 4).add 2) fun (Run_Locals : Int) => Ld .sl w ((s.add 4).add 3) fun (Run_Code : Sl) =>
 c46 b3 Run_Name Run_Params Run_Locals Run_Code w fun (b7 : Sl) (w : World) =>
 ∃ m2 : Nat, m2 < m ∧ Inv_ b7 (IntKind.i64.wrap (t23 + 1)) m2 w))) else (Ld .sl w (p.add 1) fun (Funcs : Sl) =>
 c44 b2 (Funcs.len : Int) w fun (b8 : Sl) (w : World) =>
 Ld .sl w (p.add 1) fun (Funcs2 : Sl) =>
 ∃ Inv_4 : Sl → Int → Nat → World → Prop, (∃ n : Nat, Inv_4 b8 0 n w) ∧ ∀ b9 : Sl, ∀ t63 : Int, ∀ m7 : Nat, ∀ w : World, Inv_4 b9 t63 m7 w → (if (decide (t63 < (Funcs2.len : Int))) = true then (Ix Funcs2.a Funcs2.len t63 4 fun (a3 : Addr) =>
 Ld .s w a3 fun (r_Name : ByteArray) => Ld (.i .i64) w (a3.add 1) fun (r_Params : Int) => Ld (.i .i64) w (a3.add 2) fun (r_Locals : Int) => Ld .sl w (a3.add 3) fun (r_Code : Sl) =>
 Nw (.cells #[.string (⟨#[]⟩ : ByteArray), .int .i64 0, .int .i64 0, .slice none 0 0] 30) w fun (r2 : Addr) (w : World) =>
 St r2 (.string r_Name) w fun (w : World) =>
 St (r2.add 1) (.int .i64 r_Params) w fun (w : World) =>
 St (r2.add 2) (.int .i64 r_Locals) w fun (w : World) =>
 St (r2.add 3) (.slice r_Code.a r_Code.len r_Code.cap) w fun (w : World) =>
 Ld .s w r2 fun (r_Name2 : ByteArray) => Ld (.i .i64) w (r2.add 1) fun (r_Params2 : Int) => Ld (.i .i64) w (r2.add 2) fun (r_Locals2 : Int) => Ld .sl w (r2.add 3) fun (r_Code2 : Sl) =>
 c46 b9 r_Name2 r_Params2 r_Locals2 r_Code2 w fun (b10 : Sl) (w : World) =>
 ∃ m8 : Nat, m8 < m7 ∧ Inv_4 b10 (IntKind.i64.wrap (t63 + 1)) m8 w) else (R b9 0 w)))))
theorem c22_of {p_Systems p_Funcs w R} (h : f22 p_Systems p_Funcs w R) : c22 p_Systems p_Funcs w R :=
  callK_of (H := ⟨[(5, ⟨[(4, .sl), (23, .i .i64)], [1, 21, 22]⟩), (8, ⟨[(4, .sl), (28, .i .i64)], [1, 6, 21, 22, 23, 27]⟩), (12, ⟨[(4, .sl), (41, .i .i64)], [1, 6, 21, 22, 23, 27, 28, 39, 40]⟩), (21, ⟨[(4, .sl), (63, .i .i64)], [61, 62]⟩)], []⟩) okP Tryz.func22 (cast (by kernel_rfl) h)
def f25 (r_Name : ByteArray) (r_Params r_Locals : Int) (r_Code : Sl) (w : World) (R : ByteArray → World → Prop) : Prop :=
 Nw (.cells #[.string r_Name, .int .i64 r_Params, .int .i64 r_Locals, .slice r_Code.a r_Code.len r_Code.cap] 30) w fun (r : Addr) (w : World) =>
 Nw (.cells #[.int .i64 0] 3) w fun (left : Addr) (w : World) =>
 St left (.int .i64 2000) w fun (w : World) =>
 ∃ J_ : World → Prop, (Ld .s w r fun (Name : ByteArray) =>
 c51 Name w fun (r2 : Bool) (w : World) =>
 if (!r2) = true then (R (⟨#[]⟩ : ByteArray) w) else (Ld .s w r fun (r_Name2 : ByteArray) => Ld (.i .i64) w (r.add 1) fun (r_Params2 : Int) => Ld (.i .i64) w (r.add 2) fun (r_Locals2 : Int) => Ld .sl w (r.add 3) fun (r_Code2 : Sl) =>
 c52 r_Name2 r_Params2 r_Locals2 r_Code2 (some left) w fun (r3 : Bool) (w : World) =>
 if (!r3) = true then (R (⟨#[]⟩ : ByteArray) w) else (J_  w))) ∧ ∀ w : World, J_  w → (Nw (.cells #[.pointer none, .slice none 0 0] 112) w fun (out : Addr) (w : World) =>
 Dr w fun (w : World) =>
 Ld .s w r fun (Name2 : ByteArray) =>
 Name2.size + (⟨#[32]⟩ : ByteArray).size ≤ 9223372036854775807 ∧ (Ld (.i .i64) w (r.add 1) fun (Params : Int) =>
 Ld (.i .i64) w (r.add 2) fun (Locals : Int) =>
 c54 Params w fun (r4 : ByteArray) (w : World) =>
 w.cell? (r.add 2) = some (.int .i64 Locals) ∧ w.cell? r = some (.string Name2) ∧ ((Name2 ++ (⟨#[32]⟩ : ByteArray)).size + r4.size ≤ 9223372036854775807 ∧ (((Name2 ++ (⟨#[32]⟩ : ByteArray)) ++ r4).size + (⟨#[32]⟩ : ByteArray).size ≤ 9223372036854775807 ∧ (c54 Locals w fun (r5 : ByteArray) (w : World) =>
 w.cell? r = some (.string Name2) ∧ ((((Name2 ++ (⟨#[32]⟩ : ByteArray)) ++ r4) ++ (⟨#[32]⟩ : ByteArray)).size + r5.size ≤ 9223372036854775807 ∧ (((((Name2 ++ (⟨#[32]⟩ : ByteArray)) ++ r4) ++ (⟨#[32]⟩ : ByteArray)) ++ r5).size + (⟨#[10]⟩ : ByteArray).size ≤ 9223372036854775807 ∧ (c53 (some out) (((((Name2 ++ (⟨#[32]⟩ : ByteArray)) ++ r4) ++ (⟨#[32]⟩ : ByteArray)) ++ r5) ++ (⟨#[10]⟩ : ByteArray)) w fun (r6 : Int) (r7 : Value) (w : World) =>
 Ld .sl w (r.add 3) fun (Code : Sl) =>
 ∃ Inv_ : Int → Nat → World → Prop, (∃ n : Nat, Inv_ 0 n w) ∧ ∀ t33 : Int, ∀ m : Nat, ∀ w : World, Inv_ t33 m w → (if (decide (t33 < (Code.len : Int))) = true then (Ix Code.a Code.len t33 2 fun (a : Addr) =>
 Ld (.i .i64) w a fun (i_Op : Int) => Ld (.i .i64) w (a.add 1) fun (i_A : Int) =>
 Nw (.cells #[.int .i64 0, .int .i64 0] 23) w fun (i : Addr) (w : World) =>
 St i (.int .i64 i_Op) w fun (w : World) =>
 St (i.add 1) (.int .i64 i_A) w fun (w : World) =>
 Ld (.i .i64) w i fun (i_Op2 : Int) => Ld (.i .i64) w (i.add 1) fun (i_A2 : Int) =>
 c55 i_Op2 i_A2 w fun (r8 : ByteArray) (w : World) =>
 r8.size + (⟨#[10]⟩ : ByteArray).size ≤ 9223372036854775807 ∧ (c53 (some out) (r8 ++ (⟨#[10]⟩ : ByteArray)) w fun (r9 : Int) (r10 : Value) (w : World) =>
 ∃ m2 : Nat, m2 < m ∧ Inv_ (IntKind.i64.wrap (t33 + 1)) m2 w)) else (c56 (some out) w fun (r11 : ByteArray) (w : World) =>
 R r11 w))))))))))
theorem c25_of {r_Name r_Params r_Locals r_Code w R} (h : f25 r_Name r_Params r_Locals r_Code w R) : c25 r_Name r_Params r_Locals r_Code w R :=
  callK_of (H := ⟨[(7, ⟨[(33, .i .i64)], [4, 31, 32]⟩)], [(4, ⟨[], [1]⟩)]⟩) okP Tryz.func25 (cast (by kernel_rfl) h)
def f27 (s : ByteArray) (w : World) (R : ByteArray → Int → Int → Sl → Value → World → Prop) : Prop :=
 Nw (.cells #[.string (⟨#[]⟩ : ByteArray), .int .i64 0, .int .i64 0, .slice none 0 0] 30) w fun (a : Addr) (w : World) =>
 Nw (.cells #[.string (⟨#[]⟩ : ByteArray), .int .i64 0, .int .i64 0, .slice none 0 0] 30) w fun (r : Addr) (w : World) =>
 ∃ Inv_ : Int → Bool → Nat → World → Prop, (∃ n : Nat, Inv_ 0 true n w) ∧ ∀ at_ : Int, ∀ first : Bool, ∀ m : Nat, ∀ w : World, Inv_ at_ first m w → (if (cond first true (decide (at_ < (s.size : Int)))) = true then (CutS s at_ (s.size : Int) fun (s2 : ByteArray) =>
 c60 s2 (⟨#[10]⟩ : ByteArray) w fun (text x_ : ByteArray) (whole : Bool) (w : World) =>
 ∃ J_ : Bool → World → Prop, (if whole = true then (if first = true then (J_ true w) else (Ld .sl w (r.add 3) fun (Code : Sl) =>
 J_ (decide ((Code.len : Int) < 2000)) w)) else (J_ false w)) ∧ ∀ good : Bool, ∀ w : World, J_ good w → (∃ J_2 : Bool → World → Prop, (if (!good) = true then (J_2 good w) else (if first = true then (c61 text w fun (r_Name : ByteArray) (r_Params r_Locals : Int) (r_Code : Sl) (good2 : Bool) (w : World) =>
 St r (.string r_Name) w fun (w : World) =>
 St (r.add 1) (.int .i64 r_Params) w fun (w : World) =>
 St (r.add 2) (.int .i64 r_Locals) w fun (w : World) =>
 St (r.add 3) (.slice r_Code.a r_Code.len r_Code.cap) w fun (w : World) =>
 J_2 good2 w) else (Nw (.cells #[.int .i64 0, .int .i64 0] 23) w fun (i : Addr) (w : World) =>
 c62 text w fun (i_Op i_A : Int) (good3 : Bool) (w : World) =>
 St i (.int .i64 i_Op) w fun (w : World) =>
 St (i.add 1) (.int .i64 i_A) w fun (w : World) =>
 Ld .sl w (r.add 3) fun (Code2 : Sl) =>
 Ld (.i .i64) w i fun (i_Op2 : Int) => Ld (.i .i64) w (i.add 1) fun (i_A2 : Int) =>
 Nw (.cells #[.int .i64 i_Op2, .int .i64 i_A2] 23) w fun (b : Addr) (w : World) =>
 Run .sl Tryz.prog (Builtin.append_ #[28, 28] 28 #[.slice Code2.a Code2.len Code2.cap, .slice (some b) 1 1]) w fun (s3 : Sl) (w : World) =>
 St (r.add 3) (.slice s3.a s3.len s3.cap) w fun (w : World) =>
 J_2 good3 w))) ∧ ∀ good4 : Bool, ∀ w : World, J_2 good4 w → (if (!good4) = true then (Nw (.cells #[.int .i64 at_, .int .i64 130] 89) w fun (a2 : Addr) (w : World) =>
 St a (.string (⟨#[]⟩ : ByteArray)) w fun (w : World) =>
 St (a.add 1) (.int .i64 0) w fun (w : World) =>
 St (a.add 2) (.int .i64 0) w fun (w : World) =>
 St (a.add 3) (.slice none 0 0) w fun (w : World) =>
 Ld .s w a fun (r_Name2 : ByteArray) => Ld (.i .i64) w (a.add 1) fun (r_Params2 : Int) => Ld (.i .i64) w (a.add 2) fun (r_Locals2 : Int) => Ld .sl w (a.add 3) fun (r_Code2 : Sl) =>
 R r_Name2 r_Params2 r_Locals2 r_Code2 (.iface 86 (.pointer (some a2))) w) else (∃ m2 : Nat, m2 < m ∧ Inv_ (IntKind.i64.wrap (at_ + (IntKind.i64.wrap ((text.size : Int) + 1)))) false m2 w)))) else (Ld .s w r fun (r_Name3 : ByteArray) => Ld (.i .i64) w (r.add 1) fun (r_Params3 : Int) => Ld (.i .i64) w (r.add 2) fun (r_Locals3 : Int) => Ld .sl w (r.add 3) fun (r_Code3 : Sl) =>
 St a (.string r_Name3) w fun (w : World) =>
 St (a.add 1) (.int .i64 r_Params3) w fun (w : World) =>
 St (a.add 2) (.int .i64 r_Locals3) w fun (w : World) =>
 St (a.add 3) (.slice r_Code3.a r_Code3.len r_Code3.cap) w fun (w : World) =>
 Ld .s w a fun (r_Name4 : ByteArray) => Ld (.i .i64) w (a.add 1) fun (r_Params4 : Int) => Ld (.i .i64) w (a.add 2) fun (r_Locals4 : Int) => Ld .sl w (a.add 3) fun (r_Code4 : Sl) =>
 R r_Name4 r_Params4 r_Locals4 r_Code4 .nilIface w))
theorem c27_of {s w R} (h : f27 s w R) : c27 s w R :=
  callK_of (H := ⟨[(3, ⟨[(5, .i .i64), (6, .b)], [0, 2, 4]⟩)], [(10, ⟨[(10, .b)], [0, 2, 4, 5, 6, 7]⟩), (13, ⟨[(10, .b)], [0, 2, 4, 5, 7]⟩)]⟩) okP Tryz.func27 (cast (by kernel_rfl) h)
def f31 (op : Int) (w : World) (R : Bool → World → Prop) : Prop :=
 R (cond (decide (op > 0)) (decide (op ≤ 39)) false) w
theorem c31_of {op w R} (h : f31 op w R) : c31 op w R :=
  callK_of (H := ⟨[], []⟩) okP Tryz.func31 (cast (by kernel_rfl) h)
def f32 (op : Int) (w : World) (R : ByteArray → Bool → Int → Int → Int → World → Prop) : Prop :=
 Nw (.cells #[.string (⟨#[]⟩ : ByteArray), .bool false, .int .i64 0, .int .i64 0, .int .i64 0] 74) w fun (a : Addr) (w : World) =>
 if (decide (op < 19)) = true then (c66 op w fun (r_word : ByteArray) (r_number : Bool) (r_takes r_puts r_by : Int) (w : World) =>
 St a (.string r_word) w fun (w : World) =>
 St (a.add 1) (.bool r_number) w fun (w : World) =>
 St (a.add 2) (.int .i64 r_takes) w fun (w : World) =>
 St (a.add 3) (.int .i64 r_puts) w fun (w : World) =>
 St (a.add 4) (.int .i64 r_by) w fun (w : World) =>
 Ld .s w a fun (r_word2 : ByteArray) => Ld .b w (a.add 1) fun (r_number2 : Bool) => Ld (.i .i64) w (a.add 2) fun (r_takes2 : Int) => Ld (.i .i64) w (a.add 3) fun (r_puts2 : Int) => Ld (.i .i64) w (a.add 4) fun (r_by2 : Int) =>
 R r_word2 r_number2 r_takes2 r_puts2 r_by2 w) else (c67 op w fun (r_word3 : ByteArray) (r_number3 : Bool) (r_takes3 r_puts3 r_by3 : Int) (w : World) =>
 St a (.string r_word3) w fun (w : World) =>
 St (a.add 1) (.bool r_number3) w fun (w : World) =>
 St (a.add 2) (.int .i64 r_takes3) w fun (w : World) =>
 St (a.add 3) (.int .i64 r_puts3) w fun (w : World) =>
 St (a.add 4) (.int .i64 r_by3) w fun (w : World) =>
 Ld .s w a fun (r_word4 : ByteArray) => Ld .b w (a.add 1) fun (r_number4 : Bool) => Ld (.i .i64) w (a.add 2) fun (r_takes4 : Int) => Ld (.i .i64) w (a.add 3) fun (r_puts4 : Int) => Ld (.i .i64) w (a.add 4) fun (r_by4 : Int) =>
 R r_word4 r_number4 r_takes4 r_puts4 r_by4 w)
theorem c32_of {op w R} (h : f32 op w R) : c32 op w R :=
  callK_of (H := ⟨[], []⟩) okP Tryz.func32 (cast (by kernel_rfl) h)
def f33 (op : Int) (w : World) (R : Bool → World → Prop) : Prop :=
 R (cond (decide (op ≥ 1)) (decide (op ≤ 39)) false) w
theorem c33_of {op w R} (h : f33 op w R) : c33 op w R :=
  callK_of (H := ⟨[], []⟩) okP Tryz.func33 (cast (by kernel_rfl) h)
def f34 (w : World) (R : Sl → World → Prop) : Prop :=
 Nw (.cells #[.string (⟨#[]⟩ : ByteArray), .bool false, .int .i64 0, .int .i64 0, .string (⟨#[112, 117, 115, 104]⟩ : ByteArray), .bool true, .int .i64 0, .int .i64 1, .string (⟨#[108, 111, 97, 100]⟩ : ByteArray), .bool true, .int .i64 0, .int .i64 1, .string (⟨#[115, 116, 111, 114, 101]⟩ : ByteArray), .bool true, .int .i64 1, .int .i64 0, .string (⟨#[102, 105, 101, 108, 100]⟩ : ByteArray), .bool true, .int .i64 0, .int .i64 1, .string (⟨#[112, 117, 116]⟩ : ByteArray), .bool true, .int .i64 1, .int .i64 0, .string (⟨#[97, 100, 100]⟩ : ByteArray), .bool false, .int .i64 2, .int .i64 1, .string (⟨#[115, 117, 98]⟩ : ByteArray), .bool false, .int .i64 2, .int .i64 1, .string (⟨#[109, 117, 108]⟩ : ByteArray), .bool false, .int .i64 2, .int .i64 1, .string (⟨#[100, 105, 118]⟩ : ByteArray), .bool false, .int .i64 2, .int .i64 1, .string (⟨#[114, 101, 109]⟩ : ByteArray), .bool false, .int .i64 2, .int .i64 1, .string (⟨#[110, 101, 103]⟩ : ByteArray), .bool false, .int .i64 1, .int .i64 1, .string (⟨#[101, 113]⟩ : ByteArray), .bool false, .int .i64 2, .int .i64 1, .string (⟨#[110, 101]⟩ : ByteArray), .bool false, .int .i64 2, .int .i64 1, .string (⟨#[108, 116]⟩ : ByteArray), .bool false, .int .i64 2, .int .i64 1, .string (⟨#[108, 101]⟩ : ByteArray), .bool false, .int .i64 2, .int .i64 1, .string (⟨#[103, 116]⟩ : ByteArray), .bool false, .int .i64 2, .int .i64 1, .string (⟨#[103, 101]⟩ : ByteArray), .bool false, .int .i64 2, .int .i64 1, .string (⟨#[110, 111, 116]⟩ : ByteArray), .bool false, .int .i64 1, .int .i64 1, .string (⟨#[106, 117, 109, 112]⟩ : ByteArray), .bool true, .int .i64 0, .int .i64 0, .string (⟨#[122, 101, 114, 111]⟩ : ByteArray), .bool true, .int .i64 1, .int .i64 0, .string (⟨#[99, 97, 108, 108]⟩ : ByteArray), .bool true, .int .i64 (-1), .int .i64 1, .string (⟨#[114, 101, 116]⟩ : ByteArray), .bool false, .int .i64 1, .int .i64 0, .string (⟨#[115, 116, 111, 112]⟩ : ByteArray), .bool false, .int .i64 0, .int .i64 0, .string (⟨#[115, 116, 101, 112]⟩ : ByteArray), .bool false, .int .i64 0, .int .i64 0, .string (⟨#[101, 109, 105, 116]⟩ : ByteArray), .bool false, .int .i64 2, .int .i64 0, .string (⟨#[112, 97, 114, 116]⟩ : ByteArray), .bool true, .int .i64 (-2), .int .i64 0, .string (⟨#[115, 112, 97, 119, 110]⟩ : ByteArray), .bool false, .int .i64 0, .int .i64 0, .string (⟨#[103, 105, 118, 101]⟩ : ByteArray), .bool true, .int .i64 (-2), .int .i64 0, .string (⟨#[116, 97, 107, 101]⟩ : ByteArray), .bool true, .int .i64 0, .int .i64 0, .string (⟨#[100, 105, 101]⟩ : ByteArray), .bool false, .int .i64 0, .int .i64 0, .string (⟨#[114, 97, 110, 100]⟩ : ByteArray), .bool false, .int .i64 1, .int .i64 1, .string (⟨#[116, 105, 99, 107]⟩ : ByteArray), .bool false, .int .i64 0, .int .i64 1, .string (⟨#[109, 101]⟩ : ByteArray), .bool false, .int .i64 0, .int .i64 1, .string (⟨#[105, 110, 112, 117, 116]⟩ : ByteArray), .bool false, .int .i64 2, .int .i64 1, .string (⟨#[104, 97, 115]⟩ : ByteArray), .bool true, .int .i64 0, .int .i64 1, .string (⟨#[109, 105, 110]⟩ : ByteArray), .bool false, .int .i64 2, .int .i64 1, .string (⟨#[109, 97, 120]⟩ : ByteArray), .bool false, .int .i64 2, .int .i64 1, .string (⟨#[97, 98, 115]⟩ : ByteArray), .bool false, .int .i64 1, .int .i64 1, .string (⟨#[100, 114, 111, 112]⟩ : ByteArray), .bool false, .int .i64 1, .int .i64 0] 77) w fun (b : Addr) (w : World) =>
 R ⟨some b, 40, 40⟩ w
theorem c34_of {w R} (h : f34  w R) : c34  w R :=
  callK_of (H := ⟨[], []⟩) okP Tryz.func34 (cast (by kernel_rfl) h)
def f37 (r : Option Addr) (w : World) (R : Sl → Sl → World → Prop) (E : List PanicEntry → World → Prop) : Prop :=
 Nw (.cells #[.slice none 0 0, .slice none 0 0] 37) w fun (a : Addr) (w : World) =>
 Nw (.cells #[.slice none 0 0, .slice none 0 0] 37) w fun (p : Addr) (w : World) =>
 c68 r 0 16 w (fun (n_ : Int) (w : World) =>
 ∃ Inv_ : Int → Nat → World → Prop, (∃ n : Nat, Inv_ n_ n w) ∧ ∀ n_2 : Int, ∀ m : Nat, ∀ w : World, Inv_ n_2 m w → (if (decide (n_2 > 0)) = true then (Nw (.cells #[.slice none 0 0, .slice none 0 0, .slice none 0 0, .slice none 0 0, .string (⟨#[]⟩ : ByteArray), .int .i64 0, .int .i64 0, .slice none 0 0] 54) w fun (s : Addr) (w : World) =>
 c45 (some s) w fun (r_0 r_1 : Option Addr) (r_2 r_3 : Option Addr) (w : World) =>
 ∃ Inv_2 : Int → Nat → World → Prop, (∃ n : Nat, Inv_2 0 n w) ∧ ∀ t16 : Int, ∀ m3 : Nat, ∀ w : World, Inv_2 t16 m3 w → (if (decide (t16 < 4)) = true then (IxV [.pointer r_0, .pointer r_1, .pointer r_2, .pointer r_3] 4 t16 .p fun (l : Option Addr) =>
 c69 r w (fun (r2 : Sl) (w : World) =>
 NN l fun (l_ : Addr) =>
 St l_ (.slice r2.a r2.len r2.cap) w fun (w : World) =>
 ∃ m4 : Nat, m4 < m3 ∧ Inv_2 (IntKind.i64.wrap (t16 + 1)) m4 w) E) else (c70 r w (fun (r_Name : ByteArray) (r_Params r_Locals : Int) (r_Code : Sl) (w : World) =>
 St (s.add 4) (.string r_Name) w fun (w : World) =>
 St ((s.add 4).add 1) (.int .i64 r_Params) w fun (w : World) =>
 St ((s.add 4).add 2) (.int .i64 r_Locals) w fun (w : World) =>
 St ((s.add 4).add 3) (.slice r_Code.a r_Code.len r_Code.cap) w fun (w : World) =>
 Ld .sl w p fun (Systems : Sl) =>
 Ld .sl w s fun (s_With : Sl) => Ld .sl w (s.add 1) fun (s_Without : Sl) => Ld .sl w (s.add 2) fun (s_Reads : Sl) => Ld .sl w (s.add 3) fun (s_Writes : Sl) => Ld .s w (s.add 4) fun (s_Run_Name : ByteArray) => Ld (.i .i64) w (s.add 5) fun (s_Run_Params : Int) => Ld (.i .i64) w (s.add 6) fun (s_Run_Locals : Int) => Ld .sl w (s.add 7) fun (s_Run_Code : Sl) =>
 Nw (.cells #[.slice s_With.a s_With.len s_With.cap, .slice s_Without.a s_Without.len s_Without.cap, .slice s_Reads.a s_Reads.len s_Reads.cap, .slice s_Writes.a s_Writes.len s_Writes.cap, .string s_Run_Name, .int .i64 s_Run_Params, .int .i64 s_Run_Locals, .slice s_Run_Code.a s_Run_Code.len s_Run_Code.cap] 54) w fun (b : Addr) (w : World) =>
 Run .sl Tryz.prog (Builtin.append_ #[35, 35] 35 #[.slice Systems.a Systems.len Systems.cap, .slice (some b) 1 1]) w fun (s2 : Sl) (w : World) =>
 St p (.slice s2.a s2.len s2.cap) w fun (w : World) =>
 ∃ m2 : Nat, m2 < m ∧ Inv_ (IntKind.i64.wrap (n_2 - 1)) m2 w) E))) else (c68 r 0 16 w (fun (n_3 : Int) (w : World) =>
 ∃ Inv_3 : Int → Nat → World → Prop, (∃ n : Nat, Inv_3 n_3 n w) ∧ ∀ n_4 : Int, ∀ m5 : Nat, ∀ w : World, Inv_3 n_4 m5 w → (if (decide (n_4 > 0)) = true then (Dr w fun (w : World) =>
 Ld .sl w (p.add 1) fun (Funcs : Sl) =>
 c70 r w (fun (r_Name2 : ByteArray) (r_Params2 r_Locals2 : Int) (r_Code2 : Sl) (w : World) =>
 w.cell? (p.add 1) = some (.slice Funcs.a Funcs.len Funcs.cap) ∧ (Nw (.cells #[.string r_Name2, .int .i64 r_Params2, .int .i64 r_Locals2, .slice r_Code2.a r_Code2.len r_Code2.cap] 30) w fun (b2 : Addr) (w : World) =>
 Run .sl Tryz.prog (Builtin.append_ #[24, 24] 24 #[.slice Funcs.a Funcs.len Funcs.cap, .slice (some b2) 1 1]) w fun (s3 : Sl) (w : World) =>
 St (p.add 1) (.slice s3.a s3.len s3.cap) w fun (w : World) =>
 ∃ m6 : Nat, m6 < m5 ∧ Inv_3 (IntKind.i64.wrap (n_4 - 1)) m6 w)) E) else (Dr w fun (w : World) =>
 NN r fun (r_ : Addr) =>
 Ld (.i .i64) w (r_.add 1) fun (at_ : Int) =>
 NN r fun (r_4 : Addr) =>
 Ld .sl w r_4 fun (b3 : Sl) =>
 if (decide (at_ < (b3.len : Int))) = true then (NN r fun (r_5 : Addr) =>
 Ld (.i .i64) w (r_5.add 1) fun (at_2 : Int) =>
 c71 at_2 w (fun  (w : World) =>
 Ld .sl w p fun (p_Systems : Sl) => Ld .sl w (p.add 1) fun (p_Funcs : Sl) =>
 St a (.slice p_Systems.a p_Systems.len p_Systems.cap) w fun (w : World) =>
 St (a.add 1) (.slice p_Funcs.a p_Funcs.len p_Funcs.cap) w fun (w : World) =>
 Ld .sl w a fun (r_Systems : Sl) => Ld .sl w (a.add 1) fun (r_Funcs : Sl) =>
 R r_Systems r_Funcs w) E) else (Ld .sl w p fun (p_Systems2 : Sl) => Ld .sl w (p.add 1) fun (p_Funcs2 : Sl) =>
 St a (.slice p_Systems2.a p_Systems2.len p_Systems2.cap) w fun (w : World) =>
 St (a.add 1) (.slice p_Funcs2.a p_Funcs2.len p_Funcs2.cap) w fun (w : World) =>
 Ld .sl w a fun (r_Systems2 : Sl) => Ld .sl w (a.add 1) fun (r_Funcs2 : Sl) =>
 R r_Systems2 r_Funcs2 w)))) E))) E
theorem f37_eq (r : Option Addr) (w : World) (R : Sl → Sl → World → Prop) (E : List PanicEntry → World → Prop) :
  f37 r w R E = dFuncE Tryz.prog ⟨[(3, ⟨[(4, .i .i64)], [0, 2, 3]⟩), (7, ⟨[(16, .i .i64)], [0, 2, 3, 4, 5, 15]⟩), (14, ⟨[(8, .i .i64)], [0, 2, 3]⟩)], []⟩ [37, 68, 69, 70, 71] Tryz.f37 [.pointer r] (fun v w' => viewRet [.agg [.sl, .sl]] v R w') E w := by kernel_rfl
theorem c37_of {r : Option Addr} {w : World} {R : Sl → Sl → World → Prop} {E : List PanicEntry → World → Prop} (h : f37 r w R E) : c37 r w R E :=
 callP_of okP (pan := [37, 68, 69, 70, 71]) Tryz.func37 (by rw [← f37_eq]; exact h)
def f43 (p_Systems p_Funcs : Sl) (w : World) (R : Bool → World → Prop) : Prop :=
 Nw (.cells #[.slice p_Systems.a p_Systems.len p_Systems.cap, .slice p_Funcs.a p_Funcs.len p_Funcs.cap] 37) w fun (p : Addr) (w : World) =>
 Nw (.cells #[.int .i64 0] 3) w fun (left : Addr) (w : World) =>
 St left (.int .i64 2000) w fun (w : World) =>
 ∃ J_ : World → Prop, (Ld .sl w p fun (Systems : Sl) =>
 if (decide ((Systems.len : Int) > 16)) = true then (R false w) else (Ld .sl w (p.add 1) fun (Funcs : Sl) =>
 if (decide ((Funcs.len : Int) > 16)) = true then (R false w) else (J_  w))) ∧ ∀ w : World, J_  w → (Ld .sl w p fun (Systems2 : Sl) =>
 ∃ Inv_ : Int → Nat → World → Prop, (∃ n : Nat, Inv_ 0 n w) ∧ ∀ t23 : Int, ∀ m : Nat, ∀ w : World, Inv_ t23 m w → (if (decide (t23 < (Systems2.len : Int))) = true then (Ix Systems2.a Systems2.len t23 8 fun (a : Addr) =>
 Ld .sl w a fun (s_With : Sl) => Ld .sl w (a.add 1) fun (s_Without : Sl) => Ld .sl w (a.add 2) fun (s_Reads : Sl) => Ld .sl w (a.add 3) fun (s_Writes : Sl) => Ld .s w (a.add 4) fun (s_Run_Name : ByteArray) => Ld (.i .i64) w (a.add 5) fun (s_Run_Params : Int) => Ld (.i .i64) w (a.add 6) fun (s_Run_Locals : Int) => Ld .sl w (a.add 7) fun (s_Run_Code : Sl) =>
 Nw (.cells #[.slice none 0 0, .slice none 0 0, .slice none 0 0, .slice none 0 0, .string (⟨#[]⟩ : ByteArray), .int .i64 0, .int .i64 0, .slice none 0 0] 54) w fun (s : Addr) (w : World) =>
 St s (.slice s_With.a s_With.len s_With.cap) w fun (w : World) =>
 St (s.add 1) (.slice s_Without.a s_Without.len s_Without.cap) w fun (w : World) =>
 St (s.add 2) (.slice s_Reads.a s_Reads.len s_Reads.cap) w fun (w : World) =>
 St (s.add 3) (.slice s_Writes.a s_Writes.len s_Writes.cap) w fun (w : World) =>
 St (s.add 4) (.string s_Run_Name) w fun (w : World) =>
 St (s.add 5) (.int .i64 s_Run_Params) w fun (w : World) =>
 St (s.add 6) (.int .i64 s_Run_Locals) w fun (w : World) =>
 St (s.add 7) (.slice s_Run_Code.a s_Run_Code.len s_Run_Code.cap) w fun (w : World) =>
 c45 (some s) w fun (r_0 r_1 : Option Addr) (r_2 r_3 : Option Addr) (w : World) =>
 ∃ Inv_2 : Int → Nat → World → Prop, (∃ n : Nat, Inv_2 0 n w) ∧ ∀ t28 : Int, ∀ m3 : Nat, ∀ w : World, Inv_2 t28 m3 w → (if (decide (t28 < 4)) = true then (IxV [.pointer r_0, .pointer r_1, .pointer r_2, .pointer r_3] 4 t28 .p fun (l : Option Addr) =>
 NN l fun (l_ : Addr) =>
 Ld .sl w l_ fun (x : Sl) =>
 c75 x w fun (r : Bool) (w : World) =>
 if (!r) = true then (R false w) else (∃ m4 : Nat, m4 < m3 ∧ Inv_2 (IntKind.i64.wrap (t28 + 1)) m4 w)) else (Ld .s w (s.add 4) fun (Run_Name : ByteArray) => Ld (.i .i64) w ((s.add 4).add 1) fun (Run_Params : Int) => Ld (.i .i64) w ((s.add 4).add 2) fun (Run_Locals : Int) => Ld .sl w ((s.add 4).add 3) fun (Run_Code : Sl) =>
 c52 Run_Name Run_Params Run_Locals Run_Code (some left) w fun (r2 : Bool) (w : World) =>
 if (!r2) = true then (R false w) else (∃ m2 : Nat, m2 < m ∧ Inv_ (IntKind.i64.wrap (t23 + 1)) m2 w)))) else (Ld .sl w (p.add 1) fun (Funcs2 : Sl) =>
 ∃ Inv_3 : Int → Nat → World → Prop, (∃ n : Nat, Inv_3 0 n w) ∧ ∀ t45 : Int, ∀ m5 : Nat, ∀ w : World, Inv_3 t45 m5 w → (if (decide (t45 < (Funcs2.len : Int))) = true then (Ix Funcs2.a Funcs2.len t45 4 fun (a2 : Addr) =>
 Ld .s w a2 fun (r_Name : ByteArray) => Ld (.i .i64) w (a2.add 1) fun (r_Params : Int) => Ld (.i .i64) w (a2.add 2) fun (r_Locals : Int) => Ld .sl w (a2.add 3) fun (r_Code : Sl) =>
 Nw (.cells #[.string (⟨#[]⟩ : ByteArray), .int .i64 0, .int .i64 0, .slice none 0 0] 30) w fun (r3 : Addr) (w : World) =>
 St r3 (.string r_Name) w fun (w : World) =>
 St (r3.add 1) (.int .i64 r_Params) w fun (w : World) =>
 St (r3.add 2) (.int .i64 r_Locals) w fun (w : World) =>
 St (r3.add 3) (.slice r_Code.a r_Code.len r_Code.cap) w fun (w : World) =>
 Ld .s w r3 fun (r_Name2 : ByteArray) => Ld (.i .i64) w (r3.add 1) fun (r_Params2 : Int) => Ld (.i .i64) w (r3.add 2) fun (r_Locals2 : Int) => Ld .sl w (r3.add 3) fun (r_Code2 : Sl) =>
 c52 r_Name2 r_Params2 r_Locals2 r_Code2 (some left) w fun (r4 : Bool) (w : World) =>
 if (!r4) = true then (R false w) else (∃ m6 : Nat, m6 < m5 ∧ Inv_3 (IntKind.i64.wrap (t45 + 1)) m6 w)) else (R true w)))))
theorem c43_of {p_Systems p_Funcs w R} (h : f43 p_Systems p_Funcs w R) : c43 p_Systems p_Funcs w R :=
  callK_of (H := ⟨[(5, ⟨[(23, .i .i64)], [1, 3, 21, 22]⟩), (8, ⟨[(28, .i .i64)], [1, 3, 5, 21, 22, 23, 27]⟩), (17, ⟨[(45, .i .i64)], [3, 43, 44]⟩)], [(4, ⟨[], [1, 3]⟩)]⟩) okP Tryz.func43 (cast (by kernel_rfl) h)
def f44 (b : Sl) (n_ : Int) (w : World) (R : Sl → World → Prop) : Prop :=
 c76 b (IntKind.u64.wrap n_) w fun (r : Sl) (w : World) =>
 R r w
theorem c44_of {b n_ w R} (h : f44 b n_ w R) : c44 b n_ w R :=
  callK_of (H := ⟨[], []⟩) okP Tryz.func44 (cast (by kernel_rfl) h)
def f45 (s : Option Addr) (w : World) (R : Option Addr → Option Addr → Option Addr → Option Addr → World → Prop) : Prop :=
 Nw (.cells #[.pointer none, .pointer none, .pointer none, .pointer none] 100) w fun (a : Addr) (w : World) =>
 Dr w fun (w : World) =>
 NN s fun (s_ : Addr) =>
 NN s fun (s_2 : Addr) =>
 NN s fun (s_3 : Addr) =>
 NN s fun (s_4 : Addr) =>
 St a (.pointer (some s_)) w fun (w : World) =>
 St (a.add 1) (.pointer (some (s_2.add 1))) w fun (w : World) =>
 St (a.add 2) (.pointer (some (s_3.add 2))) w fun (w : World) =>
 St (a.add 3) (.pointer (some (s_4.add 3))) w fun (w : World) =>
 Ld .p w a fun (r_0 : Option Addr) => Ld .p w (a.add 1) fun (r_1 : Option Addr) => Ld .p w (a.add 2) fun (r_2 : Option Addr) => Ld .p w (a.add 3) fun (r_3 : Option Addr) =>
 R r_0 r_1 r_2 r_3 w
theorem c45_of {s w R} (h : f45 s w R) : c45 s w R :=
  callK_of (H := ⟨[], []⟩) okP Tryz.func45 (cast (by kernel_rfl) h)
def f46 (b : Sl) (r_Name : ByteArray) (r_Params r_Locals : Int) (r_Code : Sl) (w : World) (R : Sl → World → Prop) : Prop :=
 Nw (.cells #[.string r_Name, .int .i64 r_Params, .int .i64 r_Locals, .slice r_Code.a r_Code.len r_Code.cap] 30) w fun (r : Addr) (w : World) =>
 Dr w fun (w : World) =>
 Ld .s w r fun (Name : ByteArray) =>
 Ld (.i .i64) w (r.add 1) fun (Params : Int) =>
 Ld (.i .i64) w (r.add 2) fun (Locals : Int) =>
 Ld .sl w (r.add 3) fun (Code : Sl) =>
 c77 b Name w fun (r2 : Sl) (w : World) =>
 w.cell? (r.add 3) = some (.slice Code.a Code.len Code.cap) ∧ w.cell? (r.add 2) = some (.int .i64 Locals) ∧ w.cell? (r.add 1) = some (.int .i64 Params) ∧ (c44 r2 Params w fun (r3 : Sl) (w : World) =>
 w.cell? (r.add 3) = some (.slice Code.a Code.len Code.cap) ∧ w.cell? (r.add 2) = some (.int .i64 Locals) ∧ (c44 r3 Locals w fun (r4 : Sl) (w : World) =>
 w.cell? (r.add 3) = some (.slice Code.a Code.len Code.cap) ∧ (c44 r4 (Code.len : Int) w fun (b2 : Sl) (w : World) =>
 Ld .sl w (r.add 3) fun (Code2 : Sl) =>
 ∃ Inv_ : Sl → Int → Nat → World → Prop, (∃ n : Nat, Inv_ b2 0 n w) ∧ ∀ b3 : Sl, ∀ t24 : Int, ∀ m : Nat, ∀ w : World, Inv_ b3 t24 m w → (if (decide (t24 < (Code2.len : Int))) = true then (Ix Code2.a Code2.len t24 2 fun (a : Addr) =>
 Ld (.i .i64) w a fun (i_Op : Int) => Ld (.i .i64) w (a.add 1) fun (i_A : Int) =>
 Nw (.cells #[.int .i64 0, .int .i64 0] 23) w fun (i : Addr) (w : World) =>
 St i (.int .i64 i_Op) w fun (w : World) =>
 St (i.add 1) (.int .i64 i_A) w fun (w : World) =>
 Ld (.i .i64) w i fun (Op : Int) =>
 c44 b3 Op w fun (b4 : Sl) (w : World) =>
 Ld (.i .i64) w i fun (Op2 : Int) =>
 c32 Op2 w fun (r_word : ByteArray) (r_number : Bool) (r_takes r_puts r_by : Int) (w : World) =>
 if r_number = true then (Ld (.i .i64) w (i.add 1) fun (A : Int) =>
 c78 b4 A w fun (b5 : Sl) (w : World) =>
 ∃ m2 : Nat, m2 < m ∧ Inv_ b5 (IntKind.i64.wrap (t24 + 1)) m2 w) else (∃ m2 : Nat, m2 < m ∧ Inv_ b4 (IntKind.i64.wrap (t24 + 1)) m2 w)) else (R b3 w)))))
theorem c46_of {b r_Name r_Params r_Locals r_Code w R} (h : f46 b r_Name r_Params r_Locals r_Code w R) : c46 b r_Name r_Params r_Locals r_Code w R :=
  callK_of (H := ⟨[(3, ⟨[(0, .sl), (24, .i .i64)], [22, 23]⟩)], []⟩) okP Tryz.func46 (cast (by kernel_rfl) h)
def f51 (name : ByteArray) (w : World) (R : Bool → World → Prop) : Prop :=
 ∃ Inv_ : Int → Nat → World → Prop, (∃ n : Nat, Inv_ 0 n w) ∧ ∀ t6 : Int, ∀ m : Nat, ∀ w : World, Inv_ t6 m w → (if (decide (t6 < (name.size : Int))) = true then (IxS name t6 fun (c : Int) =>
 if (decide (c < 33)) = true then (R false w) else (IxS name t6 fun (c2 : Int) =>
 if (decide (c2 > 126)) = true then (R false w) else (∃ m2 : Nat, m2 < m ∧ Inv_ (IntKind.i64.wrap (t6 + 1)) m2 w))) else (R (cond (!(name.toList == (⟨#[]⟩ : ByteArray).toList)) (decide ((name.size : Int) ≤ 16)) false) w))
theorem c51_of {name w R} (h : f51 name w R) : c51 name w R :=
  callK_of (H := ⟨[(2, ⟨[(6, .i .i64)], [0, 5]⟩)], []⟩) okP Tryz.func51 (cast (by kernel_rfl) h)
def f52 (r_Name : ByteArray) (r_Params r_Locals : Int) (r_Code : Sl) (left : Option Addr) (w : World) (R : Bool → World → Prop) : Prop :=
 Nw (.cells #[.string r_Name, .int .i64 r_Params, .int .i64 r_Locals, .slice r_Code.a r_Code.len r_Code.cap] 30) w fun (r : Addr) (w : World) =>
 Dr w fun (w : World) =>
 NN left fun (left_ : Addr) =>
 Ld (.i .i64) w left_ fun (x : Int) =>
 Ld .sl w (r.add 3) fun (Code : Sl) =>
 NN left fun (left_2 : Addr) =>
 St left_2 (.int .i64 (IntKind.i64.wrap (x - (Code.len : Int)))) w fun (w : World) =>
 ∃ J_ : World → Prop, (Ld .s w r fun (Name : ByteArray) =>
 if (decide ((Name.size : Int) < 1)) = true then (R false w) else (Ld .s w r fun (Name2 : ByteArray) =>
 if (decide ((Name2.size : Int) > 16)) = true then (R false w) else (Ld .s w r fun (r_Name2 : ByteArray) => Ld (.i .i64) w (r.add 1) fun (r_Params2 : Int) => Ld (.i .i64) w (r.add 2) fun (r_Locals2 : Int) => Ld .sl w (r.add 3) fun (r_Code2 : Sl) =>
 c83 r_Name2 r_Params2 r_Locals2 r_Code2 w fun (r2 : Bool) (w : World) =>
 if (!r2) = true then (R false w) else (NN left fun (left_3 : Addr) =>
 Ld (.i .i64) w left_3 fun (x2 : Int) =>
 if (decide (x2 < 0)) = true then (R false w) else (J_  w))))) ∧ ∀ w : World, J_  w → (Ld .sl w (r.add 3) fun (Code2 : Sl) =>
 ∃ Inv_ : Int → Nat → World → Prop, (∃ n : Nat, Inv_ 0 n w) ∧ ∀ t39 : Int, ∀ m : Nat, ∀ w : World, Inv_ t39 m w → (if (decide (t39 < (Code2.len : Int))) = true then (Ix Code2.a Code2.len t39 2 fun (a : Addr) =>
 Ld (.i .i64) w a fun (i_Op : Int) => Ld (.i .i64) w (a.add 1) fun (i_A : Int) =>
 Nw (.cells #[.int .i64 0, .int .i64 0] 23) w fun (i : Addr) (w : World) =>
 St i (.int .i64 i_Op) w fun (w : World) =>
 St (i.add 1) (.int .i64 i_A) w fun (w : World) =>
 Ld (.i .i64) w i fun (i_Op2 : Int) => Ld (.i .i64) w (i.add 1) fun (i_A2 : Int) =>
 c84 i_Op2 i_A2 w fun (r3 : Bool) (w : World) =>
 if (!r3) = true then (R false w) else (∃ m2 : Nat, m2 < m ∧ Inv_ (IntKind.i64.wrap (t39 + 1)) m2 w)) else (R true w)))
theorem c52_of {r_Name r_Params r_Locals r_Code left w R} (h : f52 r_Name r_Params r_Locals r_Code left w R) : c52 r_Name r_Params r_Locals r_Code left w R :=
  callK_of (H := ⟨[(5, ⟨[(39, .i .i64)], [37, 38]⟩)], [(4, ⟨[], [2]⟩)]⟩) okP Tryz.func52 (cast (by kernel_rfl) h)
def f53 (b : Option Addr) (s : ByteArray) (w : World) (R : Int → Value → World → Prop) : Prop :=
 c85 b w fun  (w : World) =>
 NN b fun (b_ : Addr) =>
 Ld .sl w (b_.add 1) fun (buf : Sl) =>
 Run .sl Tryz.prog (Builtin.append_ #[34, 9] 34 #[.slice buf.a buf.len buf.cap, .string s]) w fun (s2 : Sl) (w : World) =>
 NN b fun (b_2 : Addr) =>
 St (b_2.add 1) (.slice s2.a s2.len s2.cap) w fun (w : World) =>
 R (s.size : Int) .nilIface w
theorem c53_of {b s w R} (h : f53 b s w R) : c53 b s w R :=
  callK_of (H := ⟨[], []⟩) okP Tryz.func53 (cast (by kernel_rfl) h)
def f54 (i : Int) (w : World) (R : ByteArray → World → Prop) : Prop :=
 c86 i w fun (r : ByteArray) (w : World) =>
 R r w
theorem c54_of {i w R} (h : f54 i w R) : c54 i w R :=
  callK_of (H := ⟨[], []⟩) okP Tryz.func54 (cast (by kernel_rfl) h)
def f55 (i_Op i_A : Int) (w : World) (R : ByteArray → World → Prop) : Prop :=
 Nw (.cells #[.int .i64 i_Op, .int .i64 i_A] 23) w fun (i : Addr) (w : World) =>
 Ld (.i .i64) w i fun (Op : Int) =>
 c32 Op w fun (s_word : ByteArray) (s_number : Bool) (s_takes s_puts s_by : Int) (w : World) =>
 Nw (.cells #[.string (⟨#[]⟩ : ByteArray), .bool false, .int .i64 0, .int .i64 0, .int .i64 0] 74) w fun (s : Addr) (w : World) =>
 St s (.string s_word) w fun (w : World) =>
 St (s.add 1) (.bool s_number) w fun (w : World) =>
 St (s.add 2) (.int .i64 s_takes) w fun (w : World) =>
 St (s.add 3) (.int .i64 s_puts) w fun (w : World) =>
 St (s.add 4) (.int .i64 s_by) w fun (w : World) =>
 Ld .b w (s.add 1) fun (number : Bool) =>
 if number = true then (Dr w fun (w : World) =>
 Ld .s w s fun (word : ByteArray) =>
 word.size + (⟨#[32]⟩ : ByteArray).size ≤ 9223372036854775807 ∧ (Ld (.i .i64) w (i.add 1) fun (A : Int) =>
 c87 A 10 w fun (r : ByteArray) (w : World) =>
 w.cell? s = some (.string word) ∧ ((word ++ (⟨#[32]⟩ : ByteArray)).size + r.size ≤ 9223372036854775807 ∧ (R ((word ++ (⟨#[32]⟩ : ByteArray)) ++ r) w)))) else (Ld .s w s fun (word2 : ByteArray) =>
 R word2 w)
theorem c55_of {i_Op i_A w R} (h : f55 i_Op i_A w R) : c55 i_Op i_A w R :=
  callK_of (H := ⟨[], []⟩) okP Tryz.func55 (cast (by kernel_rfl) h)
def f61 (s : ByteArray) (w : World) (R : ByteArray → Int → Int → Sl → Bool → World → Prop) : Prop :=
 Nw (.cells #[.string (⟨#[]⟩ : ByteArray), .int .i64 0, .int .i64 0, .slice none 0 0] 30) w fun (a : Addr) (w : World) =>
 c89 s (⟨#[32]⟩ : ByteArray) w fun (l : Sl) (w : World) =>
 ∃ J_ : Bool → World → Prop, (if ((l.len : Int) != 3) = true then (J_ true w) else (Ix l.a l.len 0 1 fun (a2 : Addr) =>
 Ld .s w a2 fun (x : ByteArray) =>
 c51 x w fun (r : Bool) (w : World) =>
 J_ (!r) w)) ∧ ∀ t20 : Bool, ∀ w : World, J_ t20 w → (if t20 = true then (St a (.string (⟨#[]⟩ : ByteArray)) w fun (w : World) =>
 St (a.add 1) (.int .i64 0) w fun (w : World) =>
 St (a.add 2) (.int .i64 0) w fun (w : World) =>
 St (a.add 3) (.slice none 0 0) w fun (w : World) =>
 Ld .s w a fun (r_Name : ByteArray) => Ld (.i .i64) w (a.add 1) fun (r_Params : Int) => Ld (.i .i64) w (a.add 2) fun (r_Locals : Int) => Ld .sl w (a.add 3) fun (r_Code : Sl) =>
 R r_Name r_Params r_Locals r_Code false w) else (Ix l.a l.len 1 1 fun (a3 : Addr) =>
 Ld .s w a3 fun (x2 : ByteArray) =>
 c90 x2 w fun (params : Int) (one : Bool) (w : World) =>
 Ix l.a l.len 2 1 fun (a4 : Addr) =>
 Ld .s w a4 fun (x3 : ByteArray) =>
 c90 x3 w fun (locals : Int) (two : Bool) (w : World) =>
 if (cond (cond (cond (cond (cond (!one) true (!two)) true (decide (params < 0))) true (decide (params > 4))) true (decide (locals < params))) true (decide (locals > 32))) = true then (St a (.string (⟨#[]⟩ : ByteArray)) w fun (w : World) =>
 St (a.add 1) (.int .i64 0) w fun (w : World) =>
 St (a.add 2) (.int .i64 0) w fun (w : World) =>
 St (a.add 3) (.slice none 0 0) w fun (w : World) =>
 Ld .s w a fun (r_Name2 : ByteArray) => Ld (.i .i64) w (a.add 1) fun (r_Params2 : Int) => Ld (.i .i64) w (a.add 2) fun (r_Locals2 : Int) => Ld .sl w (a.add 3) fun (r_Code2 : Sl) =>
 R r_Name2 r_Params2 r_Locals2 r_Code2 false w) else (Ix l.a l.len 0 1 fun (a5 : Addr) =>
 Ld .s w a5 fun (x4 : ByteArray) =>
 St a (.string x4) w fun (w : World) =>
 St (a.add 1) (.int .i64 params) w fun (w : World) =>
 St (a.add 2) (.int .i64 locals) w fun (w : World) =>
 St (a.add 3) (.slice none 0 0) w fun (w : World) =>
 Ld .s w a fun (r_Name3 : ByteArray) => Ld (.i .i64) w (a.add 1) fun (r_Params3 : Int) => Ld (.i .i64) w (a.add 2) fun (r_Locals3 : Int) => Ld .sl w (a.add 3) fun (r_Code3 : Sl) =>
 R r_Name3 r_Params3 r_Locals3 r_Code3 true w)))
theorem c61_of {s w R} (h : f61 s w R) : c61 s w R :=
  callK_of (H := ⟨[], [(3, ⟨[(20, .b)], [2, 4]⟩)]⟩) okP Tryz.func61 (cast (by kernel_rfl) h)
def f62 (s : ByteArray) (w : World) (R : Int → Int → Bool → World → Prop) : Prop :=
 Nw (.cells #[.int .i64 0, .int .i64 0] 23) w fun (a : Addr) (w : World) =>
 c60 s (⟨#[32]⟩ : ByteArray) w fun (word number : ByteArray) (more : Bool) (w : World) =>
 c13 word w fun (op : Int) (w : World) =>
 ∃ J_ : Bool → World → Prop, (if (op == 0) = true then (J_ true w) else (c32 op w fun (r_word : ByteArray) (r_number : Bool) (r_takes r_puts r_by : Int) (w : World) =>
 J_ (!(r_number == more)) w)) ∧ ∀ t26 : Bool, ∀ w : World, J_ t26 w → (if t26 = true then (St a (.int .i64 0) w fun (w : World) =>
 St (a.add 1) (.int .i64 0) w fun (w : World) =>
 Ld (.i .i64) w a fun (r_Op : Int) => Ld (.i .i64) w (a.add 1) fun (r_A : Int) =>
 R r_Op r_A false w) else (if (!more) = true then (St a (.int .i64 op) w fun (w : World) =>
 St (a.add 1) (.int .i64 0) w fun (w : World) =>
 Ld (.i .i64) w a fun (r_Op2 : Int) => Ld (.i .i64) w (a.add 1) fun (r_A2 : Int) =>
 R r_Op2 r_A2 true w) else (c90 number w fun (a2 : Int) (ok : Bool) (w : World) =>
 St a (.int .i64 op) w fun (w : World) =>
 St (a.add 1) (.int .i64 a2) w fun (w : World) =>
 Ld (.i .i64) w a fun (r_Op3 : Int) => Ld (.i .i64) w (a.add 1) fun (r_A3 : Int) =>
 R r_Op3 r_A3 ok w)))
theorem c62_of {s w R} (h : f62 s w R) : c62 s w R :=
  callK_of (H := ⟨[], [(4, ⟨[(26, .b)], [2, 5, 6, 7]⟩)]⟩) okP Tryz.func62 (cast (by kernel_rfl) h)
def f66 (op : Int) (w : World) (R : ByteArray → Bool → Int → Int → Int → World → Prop) : Prop :=
 Nw (.cells #[.string (⟨#[]⟩ : ByteArray), .bool false, .int .i64 0, .int .i64 0, .int .i64 0] 74) w fun (a : Addr) (w : World) =>
 if (op == 1) = true then (St a (.string (⟨#[112, 117, 115, 104]⟩ : ByteArray)) w fun (w : World) =>
 St (a.add 1) (.bool true) w fun (w : World) =>
 St (a.add 2) (.int .i64 0) w fun (w : World) =>
 St (a.add 3) (.int .i64 1) w fun (w : World) =>
 St (a.add 4) (.int .i64 0) w fun (w : World) =>
 Ld .s w a fun (r_word : ByteArray) => Ld .b w (a.add 1) fun (r_number : Bool) => Ld (.i .i64) w (a.add 2) fun (r_takes : Int) => Ld (.i .i64) w (a.add 3) fun (r_puts : Int) => Ld (.i .i64) w (a.add 4) fun (r_by : Int) =>
 R r_word r_number r_takes r_puts r_by w) else (if (op == 2) = true then (St a (.string (⟨#[108, 111, 97, 100]⟩ : ByteArray)) w fun (w : World) =>
 St (a.add 1) (.bool true) w fun (w : World) =>
 St (a.add 2) (.int .i64 0) w fun (w : World) =>
 St (a.add 3) (.int .i64 1) w fun (w : World) =>
 St (a.add 4) (.int .i64 0) w fun (w : World) =>
 Ld .s w a fun (r_word2 : ByteArray) => Ld .b w (a.add 1) fun (r_number2 : Bool) => Ld (.i .i64) w (a.add 2) fun (r_takes2 : Int) => Ld (.i .i64) w (a.add 3) fun (r_puts2 : Int) => Ld (.i .i64) w (a.add 4) fun (r_by2 : Int) =>
 R r_word2 r_number2 r_takes2 r_puts2 r_by2 w) else (if (op == 3) = true then (St a (.string (⟨#[115, 116, 111, 114, 101]⟩ : ByteArray)) w fun (w : World) =>
 St (a.add 1) (.bool true) w fun (w : World) =>
 St (a.add 2) (.int .i64 1) w fun (w : World) =>
 St (a.add 3) (.int .i64 0) w fun (w : World) =>
 St (a.add 4) (.int .i64 0) w fun (w : World) =>
 Ld .s w a fun (r_word3 : ByteArray) => Ld .b w (a.add 1) fun (r_number3 : Bool) => Ld (.i .i64) w (a.add 2) fun (r_takes3 : Int) => Ld (.i .i64) w (a.add 3) fun (r_puts3 : Int) => Ld (.i .i64) w (a.add 4) fun (r_by3 : Int) =>
 R r_word3 r_number3 r_takes3 r_puts3 r_by3 w) else (if (op == 4) = true then (St a (.string (⟨#[102, 105, 101, 108, 100]⟩ : ByteArray)) w fun (w : World) =>
 St (a.add 1) (.bool true) w fun (w : World) =>
 St (a.add 2) (.int .i64 0) w fun (w : World) =>
 St (a.add 3) (.int .i64 1) w fun (w : World) =>
 St (a.add 4) (.int .i64 0) w fun (w : World) =>
 Ld .s w a fun (r_word4 : ByteArray) => Ld .b w (a.add 1) fun (r_number4 : Bool) => Ld (.i .i64) w (a.add 2) fun (r_takes4 : Int) => Ld (.i .i64) w (a.add 3) fun (r_puts4 : Int) => Ld (.i .i64) w (a.add 4) fun (r_by4 : Int) =>
 R r_word4 r_number4 r_takes4 r_puts4 r_by4 w) else (if (op == 5) = true then (St a (.string (⟨#[112, 117, 116]⟩ : ByteArray)) w fun (w : World) =>
 St (a.add 1) (.bool true) w fun (w : World) =>
 St (a.add 2) (.int .i64 1) w fun (w : World) =>
 St (a.add 3) (.int .i64 0) w fun (w : World) =>
 St (a.add 4) (.int .i64 0) w fun (w : World) =>
 Ld .s w a fun (r_word5 : ByteArray) => Ld .b w (a.add 1) fun (r_number5 : Bool) => Ld (.i .i64) w (a.add 2) fun (r_takes5 : Int) => Ld (.i .i64) w (a.add 3) fun (r_puts5 : Int) => Ld (.i .i64) w (a.add 4) fun (r_by5 : Int) =>
 R r_word5 r_number5 r_takes5 r_puts5 r_by5 w) else (if (op == 6) = true then (St a (.string (⟨#[97, 100, 100]⟩ : ByteArray)) w fun (w : World) =>
 St (a.add 1) (.bool false) w fun (w : World) =>
 St (a.add 2) (.int .i64 2) w fun (w : World) =>
 St (a.add 3) (.int .i64 1) w fun (w : World) =>
 St (a.add 4) (.int .i64 0) w fun (w : World) =>
 Ld .s w a fun (r_word6 : ByteArray) => Ld .b w (a.add 1) fun (r_number6 : Bool) => Ld (.i .i64) w (a.add 2) fun (r_takes6 : Int) => Ld (.i .i64) w (a.add 3) fun (r_puts6 : Int) => Ld (.i .i64) w (a.add 4) fun (r_by6 : Int) =>
 R r_word6 r_number6 r_takes6 r_puts6 r_by6 w) else (if (op == 7) = true then (St a (.string (⟨#[115, 117, 98]⟩ : ByteArray)) w fun (w : World) =>
 St (a.add 1) (.bool false) w fun (w : World) =>
 St (a.add 2) (.int .i64 2) w fun (w : World) =>
 St (a.add 3) (.int .i64 1) w fun (w : World) =>
 St (a.add 4) (.int .i64 0) w fun (w : World) =>
 Ld .s w a fun (r_word7 : ByteArray) => Ld .b w (a.add 1) fun (r_number7 : Bool) => Ld (.i .i64) w (a.add 2) fun (r_takes7 : Int) => Ld (.i .i64) w (a.add 3) fun (r_puts7 : Int) => Ld (.i .i64) w (a.add 4) fun (r_by7 : Int) =>
 R r_word7 r_number7 r_takes7 r_puts7 r_by7 w) else (if (op == 8) = true then (St a (.string (⟨#[109, 117, 108]⟩ : ByteArray)) w fun (w : World) =>
 St (a.add 1) (.bool false) w fun (w : World) =>
 St (a.add 2) (.int .i64 2) w fun (w : World) =>
 St (a.add 3) (.int .i64 1) w fun (w : World) =>
 St (a.add 4) (.int .i64 0) w fun (w : World) =>
 Ld .s w a fun (r_word8 : ByteArray) => Ld .b w (a.add 1) fun (r_number8 : Bool) => Ld (.i .i64) w (a.add 2) fun (r_takes8 : Int) => Ld (.i .i64) w (a.add 3) fun (r_puts8 : Int) => Ld (.i .i64) w (a.add 4) fun (r_by8 : Int) =>
 R r_word8 r_number8 r_takes8 r_puts8 r_by8 w) else (if (op == 9) = true then (St a (.string (⟨#[100, 105, 118]⟩ : ByteArray)) w fun (w : World) =>
 St (a.add 1) (.bool false) w fun (w : World) =>
 St (a.add 2) (.int .i64 2) w fun (w : World) =>
 St (a.add 3) (.int .i64 1) w fun (w : World) =>
 St (a.add 4) (.int .i64 0) w fun (w : World) =>
 Ld .s w a fun (r_word9 : ByteArray) => Ld .b w (a.add 1) fun (r_number9 : Bool) => Ld (.i .i64) w (a.add 2) fun (r_takes9 : Int) => Ld (.i .i64) w (a.add 3) fun (r_puts9 : Int) => Ld (.i .i64) w (a.add 4) fun (r_by9 : Int) =>
 R r_word9 r_number9 r_takes9 r_puts9 r_by9 w) else (if (op == 10) = true then (St a (.string (⟨#[114, 101, 109]⟩ : ByteArray)) w fun (w : World) =>
 St (a.add 1) (.bool false) w fun (w : World) =>
 St (a.add 2) (.int .i64 2) w fun (w : World) =>
 St (a.add 3) (.int .i64 1) w fun (w : World) =>
 St (a.add 4) (.int .i64 0) w fun (w : World) =>
 Ld .s w a fun (r_word10 : ByteArray) => Ld .b w (a.add 1) fun (r_number10 : Bool) => Ld (.i .i64) w (a.add 2) fun (r_takes10 : Int) => Ld (.i .i64) w (a.add 3) fun (r_puts10 : Int) => Ld (.i .i64) w (a.add 4) fun (r_by10 : Int) =>
 R r_word10 r_number10 r_takes10 r_puts10 r_by10 w) else (if (op == 11) = true then (St a (.string (⟨#[110, 101, 103]⟩ : ByteArray)) w fun (w : World) =>
 St (a.add 1) (.bool false) w fun (w : World) =>
 St (a.add 2) (.int .i64 1) w fun (w : World) =>
 St (a.add 3) (.int .i64 1) w fun (w : World) =>
 St (a.add 4) (.int .i64 0) w fun (w : World) =>
 Ld .s w a fun (r_word11 : ByteArray) => Ld .b w (a.add 1) fun (r_number11 : Bool) => Ld (.i .i64) w (a.add 2) fun (r_takes11 : Int) => Ld (.i .i64) w (a.add 3) fun (r_puts11 : Int) => Ld (.i .i64) w (a.add 4) fun (r_by11 : Int) =>
 R r_word11 r_number11 r_takes11 r_puts11 r_by11 w) else (if (op == 12) = true then (St a (.string (⟨#[101, 113]⟩ : ByteArray)) w fun (w : World) =>
 St (a.add 1) (.bool false) w fun (w : World) =>
 St (a.add 2) (.int .i64 2) w fun (w : World) =>
 St (a.add 3) (.int .i64 1) w fun (w : World) =>
 St (a.add 4) (.int .i64 0) w fun (w : World) =>
 Ld .s w a fun (r_word12 : ByteArray) => Ld .b w (a.add 1) fun (r_number12 : Bool) => Ld (.i .i64) w (a.add 2) fun (r_takes12 : Int) => Ld (.i .i64) w (a.add 3) fun (r_puts12 : Int) => Ld (.i .i64) w (a.add 4) fun (r_by12 : Int) =>
 R r_word12 r_number12 r_takes12 r_puts12 r_by12 w) else (if (op == 13) = true then (St a (.string (⟨#[110, 101]⟩ : ByteArray)) w fun (w : World) =>
 St (a.add 1) (.bool false) w fun (w : World) =>
 St (a.add 2) (.int .i64 2) w fun (w : World) =>
 St (a.add 3) (.int .i64 1) w fun (w : World) =>
 St (a.add 4) (.int .i64 0) w fun (w : World) =>
 Ld .s w a fun (r_word13 : ByteArray) => Ld .b w (a.add 1) fun (r_number13 : Bool) => Ld (.i .i64) w (a.add 2) fun (r_takes13 : Int) => Ld (.i .i64) w (a.add 3) fun (r_puts13 : Int) => Ld (.i .i64) w (a.add 4) fun (r_by13 : Int) =>
 R r_word13 r_number13 r_takes13 r_puts13 r_by13 w) else (if (op == 14) = true then (St a (.string (⟨#[108, 116]⟩ : ByteArray)) w fun (w : World) =>
 St (a.add 1) (.bool false) w fun (w : World) =>
 St (a.add 2) (.int .i64 2) w fun (w : World) =>
 St (a.add 3) (.int .i64 1) w fun (w : World) =>
 St (a.add 4) (.int .i64 0) w fun (w : World) =>
 Ld .s w a fun (r_word14 : ByteArray) => Ld .b w (a.add 1) fun (r_number14 : Bool) => Ld (.i .i64) w (a.add 2) fun (r_takes14 : Int) => Ld (.i .i64) w (a.add 3) fun (r_puts14 : Int) => Ld (.i .i64) w (a.add 4) fun (r_by14 : Int) =>
 R r_word14 r_number14 r_takes14 r_puts14 r_by14 w) else (if (op == 15) = true then (St a (.string (⟨#[108, 101]⟩ : ByteArray)) w fun (w : World) =>
 St (a.add 1) (.bool false) w fun (w : World) =>
 St (a.add 2) (.int .i64 2) w fun (w : World) =>
 St (a.add 3) (.int .i64 1) w fun (w : World) =>
 St (a.add 4) (.int .i64 0) w fun (w : World) =>
 Ld .s w a fun (r_word15 : ByteArray) => Ld .b w (a.add 1) fun (r_number15 : Bool) => Ld (.i .i64) w (a.add 2) fun (r_takes15 : Int) => Ld (.i .i64) w (a.add 3) fun (r_puts15 : Int) => Ld (.i .i64) w (a.add 4) fun (r_by15 : Int) =>
 R r_word15 r_number15 r_takes15 r_puts15 r_by15 w) else (if (op == 16) = true then (St a (.string (⟨#[103, 116]⟩ : ByteArray)) w fun (w : World) =>
 St (a.add 1) (.bool false) w fun (w : World) =>
 St (a.add 2) (.int .i64 2) w fun (w : World) =>
 St (a.add 3) (.int .i64 1) w fun (w : World) =>
 St (a.add 4) (.int .i64 0) w fun (w : World) =>
 Ld .s w a fun (r_word16 : ByteArray) => Ld .b w (a.add 1) fun (r_number16 : Bool) => Ld (.i .i64) w (a.add 2) fun (r_takes16 : Int) => Ld (.i .i64) w (a.add 3) fun (r_puts16 : Int) => Ld (.i .i64) w (a.add 4) fun (r_by16 : Int) =>
 R r_word16 r_number16 r_takes16 r_puts16 r_by16 w) else (if (op == 17) = true then (St a (.string (⟨#[103, 101]⟩ : ByteArray)) w fun (w : World) =>
 St (a.add 1) (.bool false) w fun (w : World) =>
 St (a.add 2) (.int .i64 2) w fun (w : World) =>
 St (a.add 3) (.int .i64 1) w fun (w : World) =>
 St (a.add 4) (.int .i64 0) w fun (w : World) =>
 Ld .s w a fun (r_word17 : ByteArray) => Ld .b w (a.add 1) fun (r_number17 : Bool) => Ld (.i .i64) w (a.add 2) fun (r_takes17 : Int) => Ld (.i .i64) w (a.add 3) fun (r_puts17 : Int) => Ld (.i .i64) w (a.add 4) fun (r_by17 : Int) =>
 R r_word17 r_number17 r_takes17 r_puts17 r_by17 w) else (if (op == 18) = true then (St a (.string (⟨#[110, 111, 116]⟩ : ByteArray)) w fun (w : World) =>
 St (a.add 1) (.bool false) w fun (w : World) =>
 St (a.add 2) (.int .i64 1) w fun (w : World) =>
 St (a.add 3) (.int .i64 1) w fun (w : World) =>
 St (a.add 4) (.int .i64 0) w fun (w : World) =>
 Ld .s w a fun (r_word18 : ByteArray) => Ld .b w (a.add 1) fun (r_number18 : Bool) => Ld (.i .i64) w (a.add 2) fun (r_takes18 : Int) => Ld (.i .i64) w (a.add 3) fun (r_puts18 : Int) => Ld (.i .i64) w (a.add 4) fun (r_by18 : Int) =>
 R r_word18 r_number18 r_takes18 r_puts18 r_by18 w) else (St a (.string (⟨#[]⟩ : ByteArray)) w fun (w : World) =>
 St (a.add 1) (.bool false) w fun (w : World) =>
 St (a.add 2) (.int .i64 0) w fun (w : World) =>
 St (a.add 3) (.int .i64 0) w fun (w : World) =>
 St (a.add 4) (.int .i64 0) w fun (w : World) =>
 Ld .s w a fun (r_word19 : ByteArray) => Ld .b w (a.add 1) fun (r_number19 : Bool) => Ld (.i .i64) w (a.add 2) fun (r_takes19 : Int) => Ld (.i .i64) w (a.add 3) fun (r_puts19 : Int) => Ld (.i .i64) w (a.add 4) fun (r_by19 : Int) =>
 R r_word19 r_number19 r_takes19 r_puts19 r_by19 w))))))))))))))))))
theorem c66_of {op w R} (h : f66 op w R) : c66 op w R :=
  callK_of (H := ⟨[], []⟩) okP Tryz.func66 (cast (by kernel_rfl) h)
def f67 (op : Int) (w : World) (R : ByteArray → Bool → Int → Int → Int → World → Prop) : Prop :=
 Nw (.cells #[.string (⟨#[]⟩ : ByteArray), .bool false, .int .i64 0, .int .i64 0, .int .i64 0] 74) w fun (a : Addr) (w : World) =>
 if (op == 19) = true then (St a (.string (⟨#[106, 117, 109, 112]⟩ : ByteArray)) w fun (w : World) =>
 St (a.add 1) (.bool true) w fun (w : World) =>
 St (a.add 2) (.int .i64 0) w fun (w : World) =>
 St (a.add 3) (.int .i64 0) w fun (w : World) =>
 St (a.add 4) (.int .i64 0) w fun (w : World) =>
 Ld .s w a fun (r_word : ByteArray) => Ld .b w (a.add 1) fun (r_number : Bool) => Ld (.i .i64) w (a.add 2) fun (r_takes : Int) => Ld (.i .i64) w (a.add 3) fun (r_puts : Int) => Ld (.i .i64) w (a.add 4) fun (r_by : Int) =>
 R r_word r_number r_takes r_puts r_by w) else (if (op == 20) = true then (St a (.string (⟨#[122, 101, 114, 111]⟩ : ByteArray)) w fun (w : World) =>
 St (a.add 1) (.bool true) w fun (w : World) =>
 St (a.add 2) (.int .i64 1) w fun (w : World) =>
 St (a.add 3) (.int .i64 0) w fun (w : World) =>
 St (a.add 4) (.int .i64 0) w fun (w : World) =>
 Ld .s w a fun (r_word2 : ByteArray) => Ld .b w (a.add 1) fun (r_number2 : Bool) => Ld (.i .i64) w (a.add 2) fun (r_takes2 : Int) => Ld (.i .i64) w (a.add 3) fun (r_puts2 : Int) => Ld (.i .i64) w (a.add 4) fun (r_by2 : Int) =>
 R r_word2 r_number2 r_takes2 r_puts2 r_by2 w) else (if (op == 21) = true then (St a (.string (⟨#[99, 97, 108, 108]⟩ : ByteArray)) w fun (w : World) =>
 St (a.add 1) (.bool true) w fun (w : World) =>
 St (a.add 2) (.int .i64 0) w fun (w : World) =>
 St (a.add 3) (.int .i64 1) w fun (w : World) =>
 St (a.add 4) (.int .i64 1) w fun (w : World) =>
 Ld .s w a fun (r_word3 : ByteArray) => Ld .b w (a.add 1) fun (r_number3 : Bool) => Ld (.i .i64) w (a.add 2) fun (r_takes3 : Int) => Ld (.i .i64) w (a.add 3) fun (r_puts3 : Int) => Ld (.i .i64) w (a.add 4) fun (r_by3 : Int) =>
 R r_word3 r_number3 r_takes3 r_puts3 r_by3 w) else (if (op == 22) = true then (St a (.string (⟨#[114, 101, 116]⟩ : ByteArray)) w fun (w : World) =>
 St (a.add 1) (.bool false) w fun (w : World) =>
 St (a.add 2) (.int .i64 1) w fun (w : World) =>
 St (a.add 3) (.int .i64 0) w fun (w : World) =>
 St (a.add 4) (.int .i64 0) w fun (w : World) =>
 Ld .s w a fun (r_word4 : ByteArray) => Ld .b w (a.add 1) fun (r_number4 : Bool) => Ld (.i .i64) w (a.add 2) fun (r_takes4 : Int) => Ld (.i .i64) w (a.add 3) fun (r_puts4 : Int) => Ld (.i .i64) w (a.add 4) fun (r_by4 : Int) =>
 R r_word4 r_number4 r_takes4 r_puts4 r_by4 w) else (if (op == 23) = true then (St a (.string (⟨#[115, 116, 111, 112]⟩ : ByteArray)) w fun (w : World) =>
 St (a.add 1) (.bool false) w fun (w : World) =>
 St (a.add 2) (.int .i64 0) w fun (w : World) =>
 St (a.add 3) (.int .i64 0) w fun (w : World) =>
 St (a.add 4) (.int .i64 0) w fun (w : World) =>
 Ld .s w a fun (r_word5 : ByteArray) => Ld .b w (a.add 1) fun (r_number5 : Bool) => Ld (.i .i64) w (a.add 2) fun (r_takes5 : Int) => Ld (.i .i64) w (a.add 3) fun (r_puts5 : Int) => Ld (.i .i64) w (a.add 4) fun (r_by5 : Int) =>
 R r_word5 r_number5 r_takes5 r_puts5 r_by5 w) else (if (op == 24) = true then (St a (.string (⟨#[115, 116, 101, 112]⟩ : ByteArray)) w fun (w : World) =>
 St (a.add 1) (.bool false) w fun (w : World) =>
 St (a.add 2) (.int .i64 0) w fun (w : World) =>
 St (a.add 3) (.int .i64 0) w fun (w : World) =>
 St (a.add 4) (.int .i64 0) w fun (w : World) =>
 Ld .s w a fun (r_word6 : ByteArray) => Ld .b w (a.add 1) fun (r_number6 : Bool) => Ld (.i .i64) w (a.add 2) fun (r_takes6 : Int) => Ld (.i .i64) w (a.add 3) fun (r_puts6 : Int) => Ld (.i .i64) w (a.add 4) fun (r_by6 : Int) =>
 R r_word6 r_number6 r_takes6 r_puts6 r_by6 w) else (if (op == 25) = true then (St a (.string (⟨#[101, 109, 105, 116]⟩ : ByteArray)) w fun (w : World) =>
 St (a.add 1) (.bool false) w fun (w : World) =>
 St (a.add 2) (.int .i64 2) w fun (w : World) =>
 St (a.add 3) (.int .i64 0) w fun (w : World) =>
 St (a.add 4) (.int .i64 0) w fun (w : World) =>
 Ld .s w a fun (r_word7 : ByteArray) => Ld .b w (a.add 1) fun (r_number7 : Bool) => Ld (.i .i64) w (a.add 2) fun (r_takes7 : Int) => Ld (.i .i64) w (a.add 3) fun (r_puts7 : Int) => Ld (.i .i64) w (a.add 4) fun (r_by7 : Int) =>
 R r_word7 r_number7 r_takes7 r_puts7 r_by7 w) else (if (op == 26) = true then (St a (.string (⟨#[112, 97, 114, 116]⟩ : ByteArray)) w fun (w : World) =>
 St (a.add 1) (.bool true) w fun (w : World) =>
 St (a.add 2) (.int .i64 0) w fun (w : World) =>
 St (a.add 3) (.int .i64 0) w fun (w : World) =>
 St (a.add 4) (.int .i64 2) w fun (w : World) =>
 Ld .s w a fun (r_word8 : ByteArray) => Ld .b w (a.add 1) fun (r_number8 : Bool) => Ld (.i .i64) w (a.add 2) fun (r_takes8 : Int) => Ld (.i .i64) w (a.add 3) fun (r_puts8 : Int) => Ld (.i .i64) w (a.add 4) fun (r_by8 : Int) =>
 R r_word8 r_number8 r_takes8 r_puts8 r_by8 w) else (if (op == 27) = true then (St a (.string (⟨#[115, 112, 97, 119, 110]⟩ : ByteArray)) w fun (w : World) =>
 St (a.add 1) (.bool false) w fun (w : World) =>
 St (a.add 2) (.int .i64 0) w fun (w : World) =>
 St (a.add 3) (.int .i64 0) w fun (w : World) =>
 St (a.add 4) (.int .i64 0) w fun (w : World) =>
 Ld .s w a fun (r_word9 : ByteArray) => Ld .b w (a.add 1) fun (r_number9 : Bool) => Ld (.i .i64) w (a.add 2) fun (r_takes9 : Int) => Ld (.i .i64) w (a.add 3) fun (r_puts9 : Int) => Ld (.i .i64) w (a.add 4) fun (r_by9 : Int) =>
 R r_word9 r_number9 r_takes9 r_puts9 r_by9 w) else (if (op == 28) = true then (St a (.string (⟨#[103, 105, 118, 101]⟩ : ByteArray)) w fun (w : World) =>
 St (a.add 1) (.bool true) w fun (w : World) =>
 St (a.add 2) (.int .i64 0) w fun (w : World) =>
 St (a.add 3) (.int .i64 0) w fun (w : World) =>
 St (a.add 4) (.int .i64 2) w fun (w : World) =>
 Ld .s w a fun (r_word10 : ByteArray) => Ld .b w (a.add 1) fun (r_number10 : Bool) => Ld (.i .i64) w (a.add 2) fun (r_takes10 : Int) => Ld (.i .i64) w (a.add 3) fun (r_puts10 : Int) => Ld (.i .i64) w (a.add 4) fun (r_by10 : Int) =>
 R r_word10 r_number10 r_takes10 r_puts10 r_by10 w) else (if (op == 29) = true then (St a (.string (⟨#[116, 97, 107, 101]⟩ : ByteArray)) w fun (w : World) =>
 St (a.add 1) (.bool true) w fun (w : World) =>
 St (a.add 2) (.int .i64 0) w fun (w : World) =>
 St (a.add 3) (.int .i64 0) w fun (w : World) =>
 St (a.add 4) (.int .i64 0) w fun (w : World) =>
 Ld .s w a fun (r_word11 : ByteArray) => Ld .b w (a.add 1) fun (r_number11 : Bool) => Ld (.i .i64) w (a.add 2) fun (r_takes11 : Int) => Ld (.i .i64) w (a.add 3) fun (r_puts11 : Int) => Ld (.i .i64) w (a.add 4) fun (r_by11 : Int) =>
 R r_word11 r_number11 r_takes11 r_puts11 r_by11 w) else (if (op == 30) = true then (St a (.string (⟨#[100, 105, 101]⟩ : ByteArray)) w fun (w : World) =>
 St (a.add 1) (.bool false) w fun (w : World) =>
 St (a.add 2) (.int .i64 0) w fun (w : World) =>
 St (a.add 3) (.int .i64 0) w fun (w : World) =>
 St (a.add 4) (.int .i64 0) w fun (w : World) =>
 Ld .s w a fun (r_word12 : ByteArray) => Ld .b w (a.add 1) fun (r_number12 : Bool) => Ld (.i .i64) w (a.add 2) fun (r_takes12 : Int) => Ld (.i .i64) w (a.add 3) fun (r_puts12 : Int) => Ld (.i .i64) w (a.add 4) fun (r_by12 : Int) =>
 R r_word12 r_number12 r_takes12 r_puts12 r_by12 w) else (if (op == 31) = true then (St a (.string (⟨#[114, 97, 110, 100]⟩ : ByteArray)) w fun (w : World) =>
 St (a.add 1) (.bool false) w fun (w : World) =>
 St (a.add 2) (.int .i64 1) w fun (w : World) =>
 St (a.add 3) (.int .i64 1) w fun (w : World) =>
 St (a.add 4) (.int .i64 0) w fun (w : World) =>
 Ld .s w a fun (r_word13 : ByteArray) => Ld .b w (a.add 1) fun (r_number13 : Bool) => Ld (.i .i64) w (a.add 2) fun (r_takes13 : Int) => Ld (.i .i64) w (a.add 3) fun (r_puts13 : Int) => Ld (.i .i64) w (a.add 4) fun (r_by13 : Int) =>
 R r_word13 r_number13 r_takes13 r_puts13 r_by13 w) else (if (op == 32) = true then (St a (.string (⟨#[116, 105, 99, 107]⟩ : ByteArray)) w fun (w : World) =>
 St (a.add 1) (.bool false) w fun (w : World) =>
 St (a.add 2) (.int .i64 0) w fun (w : World) =>
 St (a.add 3) (.int .i64 1) w fun (w : World) =>
 St (a.add 4) (.int .i64 0) w fun (w : World) =>
 Ld .s w a fun (r_word14 : ByteArray) => Ld .b w (a.add 1) fun (r_number14 : Bool) => Ld (.i .i64) w (a.add 2) fun (r_takes14 : Int) => Ld (.i .i64) w (a.add 3) fun (r_puts14 : Int) => Ld (.i .i64) w (a.add 4) fun (r_by14 : Int) =>
 R r_word14 r_number14 r_takes14 r_puts14 r_by14 w) else (if (op == 33) = true then (St a (.string (⟨#[109, 101]⟩ : ByteArray)) w fun (w : World) =>
 St (a.add 1) (.bool false) w fun (w : World) =>
 St (a.add 2) (.int .i64 0) w fun (w : World) =>
 St (a.add 3) (.int .i64 1) w fun (w : World) =>
 St (a.add 4) (.int .i64 0) w fun (w : World) =>
 Ld .s w a fun (r_word15 : ByteArray) => Ld .b w (a.add 1) fun (r_number15 : Bool) => Ld (.i .i64) w (a.add 2) fun (r_takes15 : Int) => Ld (.i .i64) w (a.add 3) fun (r_puts15 : Int) => Ld (.i .i64) w (a.add 4) fun (r_by15 : Int) =>
 R r_word15 r_number15 r_takes15 r_puts15 r_by15 w) else (if (op == 34) = true then (St a (.string (⟨#[105, 110, 112, 117, 116]⟩ : ByteArray)) w fun (w : World) =>
 St (a.add 1) (.bool false) w fun (w : World) =>
 St (a.add 2) (.int .i64 2) w fun (w : World) =>
 St (a.add 3) (.int .i64 1) w fun (w : World) =>
 St (a.add 4) (.int .i64 0) w fun (w : World) =>
 Ld .s w a fun (r_word16 : ByteArray) => Ld .b w (a.add 1) fun (r_number16 : Bool) => Ld (.i .i64) w (a.add 2) fun (r_takes16 : Int) => Ld (.i .i64) w (a.add 3) fun (r_puts16 : Int) => Ld (.i .i64) w (a.add 4) fun (r_by16 : Int) =>
 R r_word16 r_number16 r_takes16 r_puts16 r_by16 w) else (if (op == 35) = true then (St a (.string (⟨#[104, 97, 115]⟩ : ByteArray)) w fun (w : World) =>
 St (a.add 1) (.bool true) w fun (w : World) =>
 St (a.add 2) (.int .i64 0) w fun (w : World) =>
 St (a.add 3) (.int .i64 1) w fun (w : World) =>
 St (a.add 4) (.int .i64 0) w fun (w : World) =>
 Ld .s w a fun (r_word17 : ByteArray) => Ld .b w (a.add 1) fun (r_number17 : Bool) => Ld (.i .i64) w (a.add 2) fun (r_takes17 : Int) => Ld (.i .i64) w (a.add 3) fun (r_puts17 : Int) => Ld (.i .i64) w (a.add 4) fun (r_by17 : Int) =>
 R r_word17 r_number17 r_takes17 r_puts17 r_by17 w) else (if (op == 36) = true then (St a (.string (⟨#[109, 105, 110]⟩ : ByteArray)) w fun (w : World) =>
 St (a.add 1) (.bool false) w fun (w : World) =>
 St (a.add 2) (.int .i64 2) w fun (w : World) =>
 St (a.add 3) (.int .i64 1) w fun (w : World) =>
 St (a.add 4) (.int .i64 0) w fun (w : World) =>
 Ld .s w a fun (r_word18 : ByteArray) => Ld .b w (a.add 1) fun (r_number18 : Bool) => Ld (.i .i64) w (a.add 2) fun (r_takes18 : Int) => Ld (.i .i64) w (a.add 3) fun (r_puts18 : Int) => Ld (.i .i64) w (a.add 4) fun (r_by18 : Int) =>
 R r_word18 r_number18 r_takes18 r_puts18 r_by18 w) else (if (op == 37) = true then (St a (.string (⟨#[109, 97, 120]⟩ : ByteArray)) w fun (w : World) =>
 St (a.add 1) (.bool false) w fun (w : World) =>
 St (a.add 2) (.int .i64 2) w fun (w : World) =>
 St (a.add 3) (.int .i64 1) w fun (w : World) =>
 St (a.add 4) (.int .i64 0) w fun (w : World) =>
 Ld .s w a fun (r_word19 : ByteArray) => Ld .b w (a.add 1) fun (r_number19 : Bool) => Ld (.i .i64) w (a.add 2) fun (r_takes19 : Int) => Ld (.i .i64) w (a.add 3) fun (r_puts19 : Int) => Ld (.i .i64) w (a.add 4) fun (r_by19 : Int) =>
 R r_word19 r_number19 r_takes19 r_puts19 r_by19 w) else (if (op == 38) = true then (St a (.string (⟨#[97, 98, 115]⟩ : ByteArray)) w fun (w : World) =>
 St (a.add 1) (.bool false) w fun (w : World) =>
 St (a.add 2) (.int .i64 1) w fun (w : World) =>
 St (a.add 3) (.int .i64 1) w fun (w : World) =>
 St (a.add 4) (.int .i64 0) w fun (w : World) =>
 Ld .s w a fun (r_word20 : ByteArray) => Ld .b w (a.add 1) fun (r_number20 : Bool) => Ld (.i .i64) w (a.add 2) fun (r_takes20 : Int) => Ld (.i .i64) w (a.add 3) fun (r_puts20 : Int) => Ld (.i .i64) w (a.add 4) fun (r_by20 : Int) =>
 R r_word20 r_number20 r_takes20 r_puts20 r_by20 w) else (if (op == 39) = true then (St a (.string (⟨#[100, 114, 111, 112]⟩ : ByteArray)) w fun (w : World) =>
 St (a.add 1) (.bool false) w fun (w : World) =>
 St (a.add 2) (.int .i64 1) w fun (w : World) =>
 St (a.add 3) (.int .i64 0) w fun (w : World) =>
 St (a.add 4) (.int .i64 0) w fun (w : World) =>
 Ld .s w a fun (r_word21 : ByteArray) => Ld .b w (a.add 1) fun (r_number21 : Bool) => Ld (.i .i64) w (a.add 2) fun (r_takes21 : Int) => Ld (.i .i64) w (a.add 3) fun (r_puts21 : Int) => Ld (.i .i64) w (a.add 4) fun (r_by21 : Int) =>
 R r_word21 r_number21 r_takes21 r_puts21 r_by21 w) else (St a (.string (⟨#[]⟩ : ByteArray)) w fun (w : World) =>
 St (a.add 1) (.bool false) w fun (w : World) =>
 St (a.add 2) (.int .i64 0) w fun (w : World) =>
 St (a.add 3) (.int .i64 0) w fun (w : World) =>
 St (a.add 4) (.int .i64 0) w fun (w : World) =>
 Ld .s w a fun (r_word22 : ByteArray) => Ld .b w (a.add 1) fun (r_number22 : Bool) => Ld (.i .i64) w (a.add 2) fun (r_takes22 : Int) => Ld (.i .i64) w (a.add 3) fun (r_puts22 : Int) => Ld (.i .i64) w (a.add 4) fun (r_by22 : Int) =>
 R r_word22 r_number22 r_takes22 r_puts22 r_by22 w)))))))))))))))))))))
theorem c67_of {op w R} (h : f67 op w R) : c67 op w R :=
  callK_of (H := ⟨[], []⟩) okP Tryz.func67 (cast (by kernel_rfl) h)
def f68 (r : Option Addr) (least most : Int) (w : World) (R : Int → World → Prop) (E : List PanicEntry → World → Prop) : Prop :=
 Dr w fun (w : World) =>
 NN r fun (r_ : Addr) =>
 Ld .sl w r_ fun (b : Sl) =>
 NN r fun (r_2 : Addr) =>
 Ld (.i .i64) w (r_2.add 1) fun (at_ : Int) =>
 Cut ⟨b.a, b.len, b.cap⟩ at_ (b.len : Int) (b.cap : Int) 1 fun (s : Sl) =>
 c93 s w fun (n_ size : Int) (w : World) =>
 ∃ J_ : World → Prop, (if (cond (cond (size == 0) true (decide (n_ < (IntKind.u64.wrap least)))) true (decide (n_ > (IntKind.u64.wrap most)))) = true then (NN r fun (r_3 : Addr) =>
 Ld (.i .i64) w (r_3.add 1) fun (at_2 : Int) =>
 c71 at_2 w (fun  (w : World) =>
 J_  w) E) else (J_  w)) ∧ ∀ w : World, J_  w → (NN r fun (r_4 : Addr) =>
 Ld (.i .i64) w (r_4.add 1) fun (at_3 : Int) =>
 NN r fun (r_5 : Addr) =>
 St (r_5.add 1) (.int .i64 (IntKind.i64.wrap (at_3 + size))) w fun (w : World) =>
 R (IntKind.i64.wrap n_) w)
theorem f68_eq (r : Option Addr) (least most : Int) (w : World) (R : Int → World → Prop) (E : List PanicEntry → World → Prop) :
  f68 r least most w R E = dFuncE Tryz.prog ⟨[], [(4, ⟨[], [0, 7, 8]⟩)]⟩ [37, 68, 69, 70, 71] Tryz.f68 [.pointer r, .int .i64 least, .int .i64 most] (fun v w' => viewRet [.one (.i .i64)] v R w') E w := by kernel_rfl
theorem c68_of {r : Option Addr} {least : Int} {most : Int} {w : World} {R : Int → World → Prop} {E : List PanicEntry → World → Prop} (h : f68 r least most w R E) : c68 r least most w R E :=
 callP_of okP (pan := [37, 68, 69, 70, 71]) Tryz.func68 (by rw [← f68_eq]; exact h)
def f69 (r : Option Addr) (w : World) (R : Sl → World → Prop) (E : List PanicEntry → World → Prop) : Prop :=
 c68 r 0 12 w (fun (n_ : Int) (w : World) =>
 ∃ Inv_ : Sl → Int → Int → Nat → World → Prop, (∃ n : Nat, Inv_ ⟨none, 0, 0⟩ 0 n_ n w) ∧ ∀ out : Sl, ∀ last : Int, ∀ n_2 : Int, ∀ m : Nat, ∀ w : World, Inv_ out last n_2 m w → (if (decide (n_2 > 0)) = true then (c68 r (IntKind.i64.wrap (last + 1)) 12 w (fun (last2 : Int) (w : World) =>
 Nw (.cells #[.int .i64 last2] 3) w fun (b : Addr) (w : World) =>
 Run .sl Tryz.prog (Builtin.append_ #[52, 52] 52 #[.slice out.a out.len out.cap, .slice (some b) 1 1]) w fun (out2 : Sl) (w : World) =>
 ∃ m2 : Nat, m2 < m ∧ Inv_ out2 last2 (IntKind.i64.wrap (n_2 - 1)) m2 w) E) else (R out w))) E
theorem f69_eq (r : Option Addr) (w : World) (R : Sl → World → Prop) (E : List PanicEntry → World → Prop) :
  f69 r w R E = dFuncE Tryz.prog ⟨[(4, ⟨[(3, .sl), (4, .i .i64), (5, .i .i64)], [0]⟩)], []⟩ [37, 68, 69, 70, 71] Tryz.f69 [.pointer r] (fun v w' => viewRet [.one .sl] v R w') E w := by kernel_rfl
theorem c69_of {r : Option Addr} {w : World} {R : Sl → World → Prop} {E : List PanicEntry → World → Prop} (h : f69 r w R E) : c69 r w R E :=
 callP_of okP (pan := [37, 68, 69, 70, 71]) Tryz.func69 (by rw [← f69_eq]; exact h)
def f70 (r : Option Addr) (w : World) (R : ByteArray → Int → Int → Sl → World → Prop) (E : List PanicEntry → World → Prop) : Prop :=
 Nw (.cells #[.string (⟨#[]⟩ : ByteArray), .int .i64 0, .int .i64 0, .slice none 0 0] 30) w fun (a : Addr) (w : World) =>
 Dr w fun (w : World) =>
 NN r fun (r_ : Addr) =>
 Ld .sl w r_ fun (b : Sl) =>
 NN r fun (r_2 : Addr) =>
 Ld (.i .i64) w (r_2.add 1) fun (at_ : Int) =>
 Cut ⟨b.a, b.len, b.cap⟩ at_ (b.len : Int) (b.cap : Int) 1 fun (s : Sl) =>
 c94 s w fun (name : ByteArray) (size : Int) (w : World) =>
 ∃ J_ : World → Prop, (if (cond (cond (size == 0) true (decide ((name.size : Int) < 1))) true (decide ((name.size : Int) > 16))) = true then (NN r fun (r_3 : Addr) =>
 Ld (.i .i64) w (r_3.add 1) fun (at_2 : Int) =>
 c71 at_2 w (fun  (w : World) =>
 J_  w) E) else (J_  w)) ∧ ∀ w : World, J_  w → (NN r fun (r_4 : Addr) =>
 Ld (.i .i64) w (r_4.add 1) fun (at_3 : Int) =>
 NN r fun (r_5 : Addr) =>
 St (r_5.add 1) (.int .i64 (IntKind.i64.wrap (at_3 + size))) w fun (w : World) =>
 c68 r 0 4 w (fun (r2 : Int) (w : World) =>
 Nw (.cells #[.string (⟨#[]⟩ : ByteArray), .int .i64 0, .int .i64 0, .slice none 0 0] 30) w fun (out : Addr) (w : World) =>
 St out (.string name) w fun (w : World) =>
 St (out.add 1) (.int .i64 r2) w fun (w : World) =>
 St (out.add 2) (.int .i64 0) w fun (w : World) =>
 St (out.add 3) (.slice none 0 0) w fun (w : World) =>
 Ld (.i .i64) w (out.add 1) fun (Params : Int) =>
 c68 r Params 32 w (fun (r3 : Int) (w : World) =>
 St (out.add 2) (.int .i64 r3) w fun (w : World) =>
 NN r fun (r_6 : Addr) =>
 Ld (.i .i64) w (r_6.add 2) fun (left : Int) =>
 c68 r 0 left w (fun (n_ : Int) (w : World) =>
 NN r fun (r_7 : Addr) =>
 Ld (.i .i64) w (r_7.add 2) fun (left2 : Int) =>
 NN r fun (r_8 : Addr) =>
 St (r_8.add 2) (.int .i64 (IntKind.i64.wrap (left2 - n_))) w fun (w : World) =>
 ∃ Inv_ : Int → Nat → World → Prop, (∃ n : Nat, Inv_ 0 n w) ∧ ∀ t72 : Int, ∀ m : Nat, ∀ w : World, Inv_ t72 m w → (if (decide (t72 < n_)) = true then (c68 r 1 39 w (fun (r4 : Int) (w : World) =>
 Nw (.cells #[.int .i64 0, .int .i64 0] 23) w fun (i : Addr) (w : World) =>
 St i (.int .i64 r4) w fun (w : World) =>
 St (i.add 1) (.int .i64 0) w fun (w : World) =>
 ∃ J_2 : World → Prop, (Ld (.i .i64) w i fun (Op : Int) =>
 c32 Op w fun (r_word : ByteArray) (r_number : Bool) (r_takes r_puts r_by : Int) (w : World) =>
 if r_number = true then (Dr w fun (w : World) =>
 NN r fun (r_9 : Addr) =>
 Ld .sl w r_9 fun (b2 : Sl) =>
 NN r fun (r_10 : Addr) =>
 Ld (.i .i64) w (r_10.add 1) fun (at_4 : Int) =>
 Cut ⟨b2.a, b2.len, b2.cap⟩ at_4 (b2.len : Int) (b2.cap : Int) 1 fun (s2 : Sl) =>
 c95 s2 w fun (a2 size2 : Int) (w : World) =>
 ∃ J_3 : World → Prop, (if (size2 == 0) = true then (NN r fun (r_11 : Addr) =>
 Ld (.i .i64) w (r_11.add 1) fun (at_5 : Int) =>
 c71 at_5 w (fun  (w : World) =>
 J_3  w) E) else (J_3  w)) ∧ ∀ w : World, J_3  w → (St (i.add 1) (.int .i64 a2) w fun (w : World) =>
 NN r fun (r_12 : Addr) =>
 Ld (.i .i64) w (r_12.add 1) fun (at_6 : Int) =>
 NN r fun (r_13 : Addr) =>
 St (r_13.add 1) (.int .i64 (IntKind.i64.wrap (at_6 + size2))) w fun (w : World) =>
 J_2  w)) else (J_2  w)) ∧ ∀ w : World, J_2  w → (Ld .sl w (out.add 3) fun (Code : Sl) =>
 Ld (.i .i64) w i fun (i_Op : Int) => Ld (.i .i64) w (i.add 1) fun (i_A : Int) =>
 Nw (.cells #[.int .i64 i_Op, .int .i64 i_A] 23) w fun (b3 : Addr) (w : World) =>
 Run .sl Tryz.prog (Builtin.append_ #[28, 28] 28 #[.slice Code.a Code.len Code.cap, .slice (some b3) 1 1]) w fun (s3 : Sl) (w : World) =>
 St (out.add 3) (.slice s3.a s3.len s3.cap) w fun (w : World) =>
 ∃ m2 : Nat, m2 < m ∧ Inv_ (IntKind.i64.wrap (t72 + 1)) m2 w)) E) else (Ld .s w out fun (out_Name : ByteArray) => Ld (.i .i64) w (out.add 1) fun (out_Params : Int) => Ld (.i .i64) w (out.add 2) fun (out_Locals : Int) => Ld .sl w (out.add 3) fun (out_Code : Sl) =>
 St a (.string out_Name) w fun (w : World) =>
 St (a.add 1) (.int .i64 out_Params) w fun (w : World) =>
 St (a.add 2) (.int .i64 out_Locals) w fun (w : World) =>
 St (a.add 3) (.slice out_Code.a out_Code.len out_Code.cap) w fun (w : World) =>
 Ld .s w a fun (r_Name : ByteArray) => Ld (.i .i64) w (a.add 1) fun (r_Params : Int) => Ld (.i .i64) w (a.add 2) fun (r_Locals : Int) => Ld .sl w (a.add 3) fun (r_Code : Sl) =>
 R r_Name r_Params r_Locals r_Code w))) E) E) E)
theorem f70_eq (r : Option Addr) (w : World) (R : ByteArray → Int → Int → Sl → World → Prop) (E : List PanicEntry → World → Prop) :
  f70 r w R E = dFuncE Tryz.prog ⟨[(10, ⟨[(72, .i .i64)], [0, 2, 5, 71]⟩)], [(4, ⟨[], [0, 2, 3, 4]⟩), (16, ⟨[], [0, 2, 5, 7, 8, 9, 71, 72]⟩), (18, ⟨[], [0, 2, 5, 7, 71, 72]⟩)]⟩ [37, 68, 69, 70, 71] Tryz.f70 [.pointer r] (fun v w' => viewRet [.agg [.s, .i .i64, .i .i64, .sl]] v R w') E w := by kernel_rfl
theorem c70_of {r : Option Addr} {w : World} {R : ByteArray → Int → Int → Sl → World → Prop} {E : List PanicEntry → World → Prop} (h : f70 r w R E) : c70 r w R E :=
 callP_of okP (pan := [37, 68, 69, 70, 71]) Tryz.func70 (by rw [← f70_eq]; exact h)
def f71 (at_ : Int) (w : World) (R : World → Prop) (E : List PanicEntry → World → Prop) : Prop :=
 Nw (.cells #[.int .i64 at_, .int .i64 130] 89) w fun (a : Addr) (w : World) =>
 E [{ v := .iface 86 (.pointer (some a)), recovered := false }] w
theorem f71_eq (at_ : Int) (w : World) (R : World → Prop) (E : List PanicEntry → World → Prop) :
  f71 at_ w R E = dFuncE Tryz.prog ⟨[], []⟩ [37, 68, 69, 70, 71] Tryz.f71 [.int .i64 at_] (fun v w' => viewRet [] v R w') E w := by kernel_rfl
theorem c71_of {at_ : Int} {w : World} {R : World → Prop} {E : List PanicEntry → World → Prop} (h : f71 at_ w R E) : c71 at_ w R E :=
 callP_of okP (pan := [37, 68, 69, 70, 71]) Tryz.func71 (by rw [← f71_eq]; exact h)
def f75 (l : Sl) (w : World) (R : Bool → World → Prop) : Prop :=
 ∃ Inv_ : Int → Int → Nat → World → Prop, (∃ n : Nat, Inv_ 0 0 n w) ∧ ∀ last : Int, ∀ t8 : Int, ∀ m : Nat, ∀ w : World, Inv_ last t8 m w → (if (decide (t8 < (l.len : Int))) = true then (Ix l.a l.len t8 1 fun (a : Addr) =>
 Ld (.i .i64) w a fun (k : Int) =>
 if (cond (decide (k ≤ last)) true (decide (k > 12))) = true then (R false w) else (∃ m2 : Nat, m2 < m ∧ Inv_ k (IntKind.i64.wrap (t8 + 1)) m2 w)) else (R true w))
theorem c75_of {l w R} (h : f75 l w R) : c75 l w R :=
  callK_of (H := ⟨[(3, ⟨[(3, .i .i64), (8, .i .i64)], [6, 7]⟩)], []⟩) okP Tryz.func75 (cast (by kernel_rfl) h)
def f76 (b : Sl) (n_ : Int) (w : World) (R : Sl → World → Prop) : Prop :=
 c98 b w fun (r : Sl) (w : World) =>
 c97 r n_ w fun (r2 : Sl) (w : World) =>
 R r2 w
theorem c76_of {b n_ w R} (h : f76 b n_ w R) : c76 b n_ w R :=
  callK_of (H := ⟨[], []⟩) okP Tryz.func76 (cast (by kernel_rfl) h)
def f77 (b : Sl) (s : ByteArray) (w : World) (R : Sl → World → Prop) : Prop :=
 c76 b (IntKind.u64.wrap (s.size : Int)) w fun (r : Sl) (w : World) =>
 Run .sl Tryz.prog (Builtin.append_ #[34, 9] 34 #[.slice r.a r.len r.cap, .string s]) w fun (s2 : Sl) (w : World) =>
 R s2 w
theorem c77_of {b s w R} (h : f77 b s w R) : c77 b s w R :=
  callK_of (H := ⟨[], []⟩) okP Tryz.func77 (cast (by kernel_rfl) h)
def f78 (b : Sl) (n_ : Int) (w : World) (R : Sl → World → Prop) : Prop :=
 c99 n_ w fun (r : Int) (w : World) =>
 c76 b r w fun (r2 : Sl) (w : World) =>
 R r2 w
theorem c78_of {b n_ w R} (h : f78 b n_ w R) : c78 b n_ w R :=
  callK_of (H := ⟨[], []⟩) okP Tryz.func78 (cast (by kernel_rfl) h)
def f83 (r_Name : ByteArray) (r_Params r_Locals : Int) (r_Code : Sl) (w : World) (R : Bool → World → Prop) : Prop :=
 Nw (.cells #[.string r_Name, .int .i64 r_Params, .int .i64 r_Locals, .slice r_Code.a r_Code.len r_Code.cap] 30) w fun (r : Addr) (w : World) =>
 Ld (.i .i64) w (r.add 1) fun (Params : Int) =>
 if (decide (Params ≥ 0)) = true then (Ld (.i .i64) w (r.add 1) fun (Params2 : Int) =>
 if (decide (Params2 ≤ 4)) = true then (Ld (.i .i64) w (r.add 2) fun (Locals : Int) =>
 Ld (.i .i64) w (r.add 1) fun (Params3 : Int) =>
 if (decide (Locals ≥ Params3)) = true then (Ld (.i .i64) w (r.add 2) fun (Locals2 : Int) =>
 R (decide (Locals2 ≤ 32)) w) else (R false w)) else (R false w)) else (R false w)
theorem c83_of {r_Name r_Params r_Locals r_Code w R} (h : f83 r_Name r_Params r_Locals r_Code w R) : c83 r_Name r_Params r_Locals r_Code w R :=
  callK_of (H := ⟨[], []⟩) okP Tryz.func83 (cast (by kernel_rfl) h)
def f84 (i_Op i_A : Int) (w : World) (R : Bool → World → Prop) : Prop :=
 Nw (.cells #[.int .i64 i_Op, .int .i64 i_A] 23) w fun (i : Addr) (w : World) =>
 Ld (.i .i64) w i fun (Op : Int) =>
 c31 Op w fun (r : Bool) (w : World) =>
 if r = true then (Ld (.i .i64) w i fun (Op2 : Int) =>
 c32 Op2 w fun (r_word : ByteArray) (r_number : Bool) (r_takes r_puts r_by : Int) (w : World) =>
 if r_number = true then (R true w) else (Ld (.i .i64) w (i.add 1) fun (A : Int) =>
 R (A == 0) w)) else (R false w)
theorem c84_of {i_Op i_A w R} (h : f84 i_Op i_A w R) : c84 i_Op i_A w R :=
  callK_of (H := ⟨[], []⟩) okP Tryz.func84 (cast (by kernel_rfl) h)
def f85 (b : Option Addr) (w : World) (R : World → Prop) : Prop :=
 NN b fun (b_ : Addr) =>
 Ld .p w b_ fun (addr : Option Addr) =>
 if addr.isNone = true then (Run .v Tryz.prog (convert 110 148 (.pointer b)) w fun (x : Value) (w : World) =>
 CallX Tryz.prog 102 [x] [.one .v] w fun (r : Value) (w : World) =>
 Run .p Tryz.prog (convert 148 110 (r)) w fun (x2 : Option Addr) (w : World) =>
 NN b fun (b_2 : Addr) =>
 St b_2 (.pointer x2) w fun (w : World) =>
 R w) else (NN b fun (b_3 : Addr) =>
 Ld .p w b_3 fun (addr2 : Option Addr) =>
 RunRo .b Tryz.prog (binSem .neq 110 (.tmp 17) (.tmp 18) (.pointer addr2) (.pointer b)) w fun (eq : Bool) =>
 if eq = true then (False) else (R w))
theorem c85_of {b w R} (h : f85 b w R) : c85 b w R :=
  callK_of (H := ⟨[], []⟩) okP Tryz.func85 (cast (by kernel_rfl) h)
def f87 (i base : Int) (w : World) (R : ByteArray → World → Prop) : Prop :=
 c103 i base w fun (r : ByteArray) (w : World) =>
 R r w
theorem c87_of {i base w R} (h : f87 i base w R) : c87 i base w R :=
  callK_of (H := ⟨[], []⟩) okP Tryz.func87 (cast (by kernel_rfl) h)
def f90 (s : ByteArray) (w : World) (R : Int → Bool → World → Prop) : Prop :=
 c106 s 10 64 w fun (n_ : Int) (e : Value) (w : World) =>
 RunRo .b Tryz.prog (binSem .eql 39 (.tmp 12) (.const (.nilIface)) (e) (.nilIface)) w fun (eq : Bool) =>
 if eq = true then (c87 n_ 10 w fun (r : ByteArray) (w : World) =>
 R n_ (r.toList == s.toList) w) else (R n_ false w)
theorem c90_of {s w R} (h : f90 s w R) : c90 s w R :=
  callK_of (H := ⟨[], []⟩) okP Tryz.func90 (cast (by kernel_rfl) h)
def f93 (b : Sl) (w : World) (R : Int → Int → World → Prop) : Prop :=
 ∃ Inv_ : Int → Int → Nat → World → Prop, (∃ n : Nat, Inv_ 0 0 n w) ∧ ∀ n_ : Int, ∀ t9 : Int, ∀ m : Nat, ∀ w : World, Inv_ n_ t9 m w → (if (decide (t9 < (b.len : Int))) = true then (Ix b.a b.len t9 1 fun (a : Addr) =>
 Ld (.i .u8) w a fun (c : Int) =>
 if (cond (t9 == 9) (decide (c > 1)) false) = true then (R 0 0 w) else ((0 : Int) ≤ (IntKind.i64.wrap (7 * t9)) ∧ (if (decide (c ≥ 128)) = true then (∃ m2 : Nat, m2 < m ∧ Inv_ (IntKind.u64.wrap ((BitVec.ofInt 64 n_ ||| BitVec.ofInt 64 (IntKind.u64.wrap ((IntKind.u64.wrap (IntKind.u8.wrap ((BitVec.ofInt 8 c &&& BitVec.ofInt 8 127).toNat : Nat))) * 2 ^ (min (Int.toNat (IntKind.i64.wrap (7 * t9))) 64)))).toNat : Nat)) (IntKind.i64.wrap (t9 + 1)) m2 w) else (if (cond (c == 0) (decide (t9 > 0)) false) = true then (R 0 0 w) else (R (IntKind.u64.wrap ((BitVec.ofInt 64 n_ ||| BitVec.ofInt 64 (IntKind.u64.wrap ((IntKind.u64.wrap (IntKind.u8.wrap ((BitVec.ofInt 8 c &&& BitVec.ofInt 8 127).toNat : Nat))) * 2 ^ (min (Int.toNat (IntKind.i64.wrap (7 * t9))) 64)))).toNat : Nat)) (IntKind.i64.wrap (t9 + 1)) w))))) else (R 0 0 w))
theorem c93_of {b w R} (h : f93 b w R) : c93 b w R :=
  callK_of (H := ⟨[(3, ⟨[(4, .i .u64), (9, .i .i64)], [7, 8]⟩)], []⟩) okP Tryz.func93 (cast (by kernel_rfl) h)
def f94 (b : Sl) (w : World) (R : ByteArray → Int → World → Prop) : Prop :=
 c93 b w fun (n_ size : Int) (w : World) =>
 if (cond (size == 0) true (decide (n_ > (IntKind.u64.wrap (IntKind.i64.wrap ((b.len : Int) - size)))))) = true then (R (⟨#[]⟩ : ByteArray) 0 w) else (Cut ⟨b.a, b.len, b.cap⟩ size (IntKind.i64.wrap (size + (IntKind.i64.wrap n_))) (b.cap : Int) 1 fun (s : Sl) =>
 RdB w ⟨s.a, s.len, s.cap⟩ fun (x : ByteArray) =>
 R x (IntKind.i64.wrap (size + (IntKind.i64.wrap n_))) w)
theorem c94_of {b w R} (h : f94 b w R) : c94 b w R :=
  callK_of (H := ⟨[], []⟩) okP Tryz.func94 (cast (by kernel_rfl) h)
def f95 (b : Sl) (w : World) (R : Int → Int → World → Prop) : Prop :=
 c93 b w fun (n_ size : Int) (w : World) =>
 c107 n_ w fun (r : Int) (w : World) =>
 R r size w
theorem c95_of {b w R} (h : f95 b w R) : c95 b w R :=
  callK_of (H := ⟨[], []⟩) okP Tryz.func95 (cast (by kernel_rfl) h)
def f97 (b : Sl) (n_ : Int) (w : World) (R : Sl → World → Prop) : Prop :=
 ∃ Inv_ : Sl → Int → Nat → World → Prop, (∃ n : Nat, Inv_ b n_ n w) ∧ ∀ b2 : Sl, ∀ n_2 : Int, ∀ m : Nat, ∀ w : World, Inv_ b2 n_2 m w → (if (decide (n_2 ≥ 128)) = true then (Nw (.cells #[.int .u8 (IntKind.u8.wrap ((BitVec.ofInt 8 (IntKind.u8.wrap n_2) ||| BitVec.ofInt 8 128).toNat : Nat))] 5) w fun (b3 : Addr) (w : World) =>
 Run .sl Tryz.prog (Builtin.append_ #[34, 34] 34 #[.slice b2.a b2.len b2.cap, .slice (some b3) 1 1]) w fun (b4 : Sl) (w : World) =>
 (0 : Int) ≤ 7 ∧ (∃ m2 : Nat, m2 < m ∧ Inv_ b4 (Int.fdiv n_2 (2 ^ (min (Int.toNat 7) 64))) m2 w)) else (Nw (.cells #[.int .u8 (IntKind.u8.wrap n_2)] 5) w fun (b5 : Addr) (w : World) =>
 Run .sl Tryz.prog (Builtin.append_ #[34, 34] 34 #[.slice b2.a b2.len b2.cap, .slice (some b5) 1 1]) w fun (s : Sl) (w : World) =>
 R s w))
theorem c97_of {b n_ w R} (h : f97 b n_ w R) : c97 b n_ w R :=
  callK_of (H := ⟨[(1, ⟨[(0, .sl), (1, .i .u64)], []⟩)], []⟩) okP Tryz.func97 (cast (by kernel_rfl) h)
def f98 (b : Sl) (w : World) (R : Sl → World → Prop) : Prop :=
 Run .sl Tryz.prog (Builtin.append_ #[34, 34] 34 #[.slice none 0 0, .slice b.a b.len b.cap]) w fun (s : Sl) (w : World) =>
 R s w
theorem c98_of {b w R} (h : f98 b w R) : c98 b w R :=
  callK_of (H := ⟨[], []⟩) okP Tryz.func98 (cast (by kernel_rfl) h)
def f99 (n_ : Int) (w : World) (R : Int → World → Prop) : Prop :=
 (0 : Int) ≤ 1 ∧ ((0 : Int) ≤ 63 ∧ (R (IntKind.u64.wrap ((BitVec.ofInt 64 (IntKind.u64.wrap (IntKind.i64.wrap (n_ * 2 ^ (min (Int.toNat 1) 64)))) ^^^ BitVec.ofInt 64 (IntKind.u64.wrap (Int.fdiv n_ (2 ^ (min (Int.toNat 63) 64))))).toNat : Nat)) w))
theorem c99_of {n_ w R} (h : f99 n_ w R) : c99 n_ w R :=
  callK_of (H := ⟨[], []⟩) okP Tryz.func99 (cast (by kernel_rfl) h)
def f107 (n_ : Int) (w : World) (R : Int → World → Prop) : Prop :=
 (0 : Int) ≤ 1 ∧ (R (IntKind.i64.wrap ((BitVec.ofInt 64 (IntKind.i64.wrap (Int.fdiv n_ (2 ^ (min (Int.toNat 1) 64)))) ^^^ BitVec.ofInt 64 (IntKind.i64.wrap (0 - (IntKind.i64.wrap (IntKind.u64.wrap ((BitVec.ofInt 64 n_ &&& BitVec.ofInt 64 1).toNat : Nat)))))).toNat : Nat)) w)
theorem c107_of {n_ w R} (h : f107 n_ w R) : c107 n_ w R :=
  callK_of (H := ⟨[], []⟩) okP Tryz.func107 (cast (by kernel_rfl) h)
def f129 (s : ByteArray) (w : World) (R : Int → Int → World → Prop) : Prop :=
 ∃ J_ : Bool → World → Prop, (if (!(s.toList == (⟨#[]⟩ : ByteArray).toList)) = true then (IxS s 0 fun (c : Int) =>
 J_ (decide (c < 128)) w) else (J_ false w)) ∧ ∀ t10 : Bool, ∀ w : World, J_ t10 w → (if t10 = true then (IxS s 0 fun (c2 : Int) =>
 R (IntKind.i32.wrap c2) 1 w) else (c138 s w fun (r size : Int) (w : World) =>
 R r size w))
def f138 (s : ByteArray) (w : World) (R : Int → Int → World → Prop) : Prop :=
 if (decide ((s.size : Int) < 1)) = true then (R 65533 0 w) else (IxS s 0 fun (c : Int) =>
 IxA ⟨6, 0, none⟩ 256 c 1 fun (a : Addr) =>
 Ld (.i .u8) w a fun (x : Int) =>
 if (decide (x ≥ 240)) = true then ((0 : Int) ≤ 31 ∧ ((0 : Int) ≤ 31 ∧ (IxS s 0 fun (c2 : Int) =>
 R (IntKind.i32.wrap ((BitVec.ofInt 32 (IntKind.i32.wrap ((BitVec.ofInt 32 (IntKind.i32.wrap c2) &&& ~~~ BitVec.ofInt 32 (Int.fdiv (IntKind.i32.wrap ((IntKind.i32.wrap x) * 2 ^ (min (Int.toNat 31) 32))) (2 ^ (min (Int.toNat 31) 32)))).toNat : Nat)) ||| BitVec.ofInt 32 (IntKind.i32.wrap ((BitVec.ofInt 32 65533 &&& BitVec.ofInt 32 (Int.fdiv (IntKind.i32.wrap ((IntKind.i32.wrap x) * 2 ^ (min (Int.toNat 31) 32))) (2 ^ (min (Int.toNat 31) 32)))).toNat : Nat))).toNat : Nat)) 1 w))) else ((0 : Int) ≤ 4 ∧ (IxA ⟨7, 0, none⟩ 16 (Int.fdiv x (2 ^ (min (Int.toNat 4) 8))) 2 fun (a2 : Addr) =>
 Ld (.i .u8) w a2 fun (accept_lo : Int) => Ld (.i .u8) w (a2.add 1) fun (accept_hi : Int) =>
 Nw (.cells #[.int .u8 0, .int .u8 0] 189) w fun (accept : Addr) (w : World) =>
 St accept (.int .u8 accept_lo) w fun (w : World) =>
 St (accept.add 1) (.int .u8 accept_hi) w fun (w : World) =>
 if (decide ((s.size : Int) < (IntKind.i64.wrap (IntKind.u8.wrap ((BitVec.ofInt 8 x &&& BitVec.ofInt 8 7).toNat : Nat))))) = true then (R 65533 1 w) else (IxS s 1 fun (c3 : Int) =>
 ∃ J_ : World → Prop, (Ld (.i .u8) w accept fun (lo : Int) =>
 if (decide (c3 < lo)) = true then (R 65533 1 w) else (Ld (.i .u8) w (accept.add 1) fun (hi : Int) =>
 if (decide (hi < c3)) = true then (R 65533 1 w) else (J_  w))) ∧ ∀ w : World, J_  w → (if (decide ((IntKind.i64.wrap (IntKind.u8.wrap ((BitVec.ofInt 8 x &&& BitVec.ofInt 8 7).toNat : Nat))) ≤ 2)) = true then ((0 : Int) ≤ 6 ∧ (R (IntKind.i32.wrap ((BitVec.ofInt 32 (IntKind.i32.wrap ((IntKind.i32.wrap (IntKind.u8.wrap ((BitVec.ofInt 8 c &&& BitVec.ofInt 8 31).toNat : Nat))) * 2 ^ (min (Int.toNat 6) 32))) ||| BitVec.ofInt 32 (IntKind.i32.wrap (IntKind.u8.wrap ((BitVec.ofInt 8 c3 &&& BitVec.ofInt 8 63).toNat : Nat)))).toNat : Nat)) 2 w)) else (IxS s 2 fun (c4 : Int) =>
 if (cond (decide (c4 < 128)) true (decide (191 < c4))) = true then (R 65533 1 w) else (if (decide ((IntKind.i64.wrap (IntKind.u8.wrap ((BitVec.ofInt 8 x &&& BitVec.ofInt 8 7).toNat : Nat))) ≤ 3)) = true then ((0 : Int) ≤ 12 ∧ ((0 : Int) ≤ 6 ∧ (R (IntKind.i32.wrap ((BitVec.ofInt 32 (IntKind.i32.wrap ((BitVec.ofInt 32 (IntKind.i32.wrap ((IntKind.i32.wrap (IntKind.u8.wrap ((BitVec.ofInt 8 c &&& BitVec.ofInt 8 15).toNat : Nat))) * 2 ^ (min (Int.toNat 12) 32))) ||| BitVec.ofInt 32 (IntKind.i32.wrap ((IntKind.i32.wrap (IntKind.u8.wrap ((BitVec.ofInt 8 c3 &&& BitVec.ofInt 8 63).toNat : Nat))) * 2 ^ (min (Int.toNat 6) 32)))).toNat : Nat)) ||| BitVec.ofInt 32 (IntKind.i32.wrap (IntKind.u8.wrap ((BitVec.ofInt 8 c4 &&& BitVec.ofInt 8 63).toNat : Nat)))).toNat : Nat)) 3 w))) else (IxS s 3 fun (c5 : Int) =>
 if (cond (decide (c5 < 128)) true (decide (191 < c5))) = true then (R 65533 1 w) else ((0 : Int) ≤ 18 ∧ ((0 : Int) ≤ 12 ∧ ((0 : Int) ≤ 6 ∧ (R (IntKind.i32.wrap ((BitVec.ofInt 32 (IntKind.i32.wrap ((BitVec.ofInt 32 (IntKind.i32.wrap ((BitVec.ofInt 32 (IntKind.i32.wrap ((IntKind.i32.wrap (IntKind.u8.wrap ((BitVec.ofInt 8 c &&& BitVec.ofInt 8 7).toNat : Nat))) * 2 ^ (min (Int.toNat 18) 32))) ||| BitVec.ofInt 32 (IntKind.i32.wrap ((IntKind.i32.wrap (IntKind.u8.wrap ((BitVec.ofInt 8 c3 &&& BitVec.ofInt 8 63).toNat : Nat))) * 2 ^ (min (Int.toNat 12) 32)))).toNat : Nat)) ||| BitVec.ofInt 32 (IntKind.i32.wrap ((IntKind.i32.wrap (IntKind.u8.wrap ((BitVec.ofInt 8 c4 &&& BitVec.ofInt 8 63).toNat : Nat))) * 2 ^ (min (Int.toNat 6) 32)))).toNat : Nat)) ||| BitVec.ofInt 32 (IntKind.i32.wrap (IntKind.u8.wrap ((BitVec.ofInt 8 c5 &&& BitVec.ofInt 8 63).toNat : Nat)))).toNat : Nat)) 4 w))))))))))))
end Go.Proofs.YtmfgofbcnlkolaaGreatDoor.F
end

section
namespace Go.Den
open Go.RowKit
structure Fr (S : List Nat) (w w' : World) : Prop where
 os : w'.os = w.os
 tape : w'.tape = w.tape
 output : w'.output = w.output
 size : w.heap.size ≤ w'.heap.size
 block : ∀ k, k < w.heap.size → k ∉ S → w'.heap[k]? = w.heap[k]?
theorem Fr.refl (S : List Nat) (w : World) : Fr S w w := ⟨rfl, rfl, rfl, Nat.le_refl _, fun _ _ _ => rfl⟩
theorem Fr.trans {S S' : List Nat} {a b c : World} (h : Fr S a b) (h' : Fr S' b c) (hs : ∀ k ∈ S', k ∈ S ∨ a.heap.size ≤ k) : Fr S a c :=
 ⟨h'.os.trans h.os, h'.tape.trans h.tape, h'.output.trans h.output, Nat.le_trans h.size h'.size, fun k hk hn =>
  (h'.block k (Nat.lt_of_lt_of_le hk h.size) (fun hm => (hs k hm).elim hn (fun hl => by omega))).trans (h.block k hk hn)⟩
theorem Fr.mono {S S' : List Nat} {a b : World} (h : Fr S a b) (hs : ∀ k ∈ S, k ∈ S' ∨ a.heap.size ≤ k) : Fr S' a b :=
 ⟨h.os, h.tape, h.output, h.size, fun k hk hn => h.block k hk fun hm => (hs k hm).elim hn (fun hl => by omega)⟩
theorem Fr.below {w w' : World} (h : Fr [] w w') : Below w.heap.size w w' := ⟨h.os, h.tape, h.output, h.size, fun k hk => h.block k hk (by simp)⟩
theorem Fr.drew {S : List Nat} {a w : World} (h : Fr S a w) : Fr S a w.drew := ⟨h.os, h.tape, h.output, h.size, h.block⟩
def Blk (w : World) (b : Nat) (e : TypeId) (c : List Value) : Prop := w.heap[b]? = some (.cells c.toArray e (0, 0))
theorem Blk.lt {w : World} {b : Nat} {e : TypeId} {c : List Value} (h : Blk w b e c) : b < w.heap.size := (Array.getElem?_eq_some_iff.1 h).1
theorem Blk.fr {S : List Nat} {w w' : World} {b : Nat} {e : TypeId} {c : List Value} (h : Blk w b e c) (hf : Fr S w w') (hn : b ∉ S) : Blk w' b e c :=
 (hf.block b h.lt hn).trans h
theorem Blk.cell {w : World} {b : Nat} {e : TypeId} {c : List Value} (h : Blk w b e c) (o : Nat) : w.cell? ⟨b, o, none⟩ = c[o]? := by
 unfold Blk at h
 simp [World.cell?, h]
theorem Blk.frozen {w : World} {b : Nat} {e : TypeId} {c : List Value} (h : Blk w b e c) (o : Nat) : w.frozen? ⟨b, o, none⟩ = false := by
 unfold Blk at h
 simp [World.frozen?, h]
theorem Blk.set {w : World} {b : Nat} {e : TypeId} {c : List Value} (h : Blk w b e c) (o : Nat) (v : Value) : Blk (w.setCell ⟨b, o, none⟩ v) b e (c.set o v) := by
 unfold Blk at h ⊢
 simp only [World.setCell, Array.getElem?_modify, ↓reduceIte, h, Option.map_some, Option.isSome_none, Bool.false_eq_true, if_false]
 congr 2
 simp
theorem Fr.set {w : World} {b : Nat} (o : Nat) (v : Value) : Fr [b] w (w.setCell ⟨b, o, none⟩ v) :=
 ⟨rfl, rfl, rfl, by simp, fun k hk hn => Below.heap_setCell w ⟨b, o, none⟩ v k (by simpa using hn)⟩
theorem Fr.alloc (w : World) (o : Obj) : Fr [] w (w.alloc o) := ⟨rfl, rfl, rfl, by simp, fun k hk _ => Below.heap_alloc w o k hk⟩
theorem Blk.alloc (w : World) (c : List Value) (e : TypeId) : Blk (w.alloc (.cells c.toArray e)) w.heap.size e c := by
 show (w.heap.push _)[w.heap.size]? = _
 simp
theorem Addr.add_none (b o n : Nat) : (⟨b, o, none⟩ : Addr).add n = ⟨b, o + n, none⟩ := by
 unfold Addr.add; split <;> simp_all
@[simp] theorem NN_some (a : Addr) (K : Addr → Prop) : NN (some a) K = K a := rfl
theorem ld {k : Kd} {w : World} {b o : Nat} {e : TypeId} {c : List Value} {x : k.T} {K : k.T → Prop} (h : Blk w b e c) (hx : c[o]? = some (k.inj x)) (hK : K x) : Ld k w ⟨b, o, none⟩ K :=
 ⟨x, by rw [h.cell, hx], hK⟩
theorem ldf {k : Kd} {w : World} {b n : Nat} {e : TypeId} {c : List Value} {x : k.T} {K : k.T → Prop} (h : Blk w b e c) (hx : c[n]? = some (k.inj x)) (hK : K x) : Ld k w ((⟨b, 0, none⟩ : Addr).add n) K := by
 rw [Addr.add_none, Nat.zero_add]
 exact ld h hx hK
theorem st {w : World} {b o : Nat} {e : TypeId} {c : List Value} {v : Value} {K : World → Prop} (h : Blk w b e c) (ho : o < c.length) (hv : v.oneCell' = true)
  (hK : ∀ w', Blk w' b e (c.set o v) → Fr [b] w w' → w'.heap.size = w.heap.size → K w') : St ⟨b, o, none⟩ v w K :=
 ⟨hv, by rw [h.cell]; simp [ho], h.frozen o, hK _ (h.set o v) (Fr.set o v) (by simp)⟩
section append
variable {P : Program} {w : World}
end append
theorem infoP {P : Program} {t : TypeId} {z : Option Value} {n b : Nat} (h : (P.info? t).map (fun i => (i.zero, i.size, i.bytes)) = some (z, n, b)) :
  ∃ i, P.info? t = some i ∧ i.zero = z ∧ i.size = n ∧ i.bytes = b := by
 cases hi : P.info? t with
 | none => simp [hi] at h
 | some i => simp only [hi, Option.map_some, Option.some.injEq, Prod.mk.injEq] at h; exact ⟨i, rfl, h⟩
theorem wr64 {n : Int} (h1 : -9223372036854775808 ≤ n) (h2 : n ≤ 9223372036854775807) : IntKind.i64.wrap n = n := by
 simp only [IntKind.wrap, IntKind.bits, IntKind.signed, Bool.true_and, decide_eq_true_eq, ge_iff_le]; split <;> omega
end Go.Den
end
