/-
  Part 2 of the proof: CodeDecodes is true of the given program where what it reads is of bulk at most 1048576: its row, and the card tied to the program's text.
-/
import Derived.Test.YtmfgofbcnlkolaaGreatDoorPkA
import Derived.Below
import Derived.OpenShut
import Derived.SizedLaws
import Derived.ChangeOld
set_option linter.unusedSimpArgs false
set_option linter.unusedVariables false
set_option maxRecDepth 100000
section
namespace Go.Den
variable {ds : List Deferred}
def FlN (objs : List Obj) (K : List (Option Addr) → World → Prop) : Nat → List (Option Addr) → World → Prop
 | 0, ys, w => K ys w
 | n + 1, ys, w => K ys w ∧ ∀ i o, objs[i]? = some o → ys[i]? = some none → FlN objs K n (ys.set i (some ⟨w.heap.size, 0, none⟩)) (w.alloc o)
def FlS (fs : List (Obj × Option Addr)) (w : World) (K : Fn (fs.map fun _ => Kd.p) (World → Prop)) : Prop :=
 FlN (fs.map (·.1)) (fun ys w => viewL (fs.map fun _ => Kd.p) (ys.map Value.pointer) (fun r => r w) K) fs.length (fs.map (·.2)) w
def Need (y : Option Addr) (K : Addr → Prop) : Prop :=
 match y with
 | some a => K a
 | none => True
structure FlI where
 idx : Nat
 obj : Obj
 val : Addr → Value
 dst : Nat
 y : Option Addr
def flAct (P : Program) (op : Op) (ρ : Operand → Option Value) (K : Obj → (Addr → Value) → Prop) : Prop :=
 match op with
 | .alloc el =>
  match P.info? el with
  | some i => match i.zero with
   | some z => K (.cells z.cells el) fun a => .pointer (some a)
   | none => False
  | none => False
 | .box el x =>
  match ρ x with
  | some v => dCells P el v fun cs => K (.cells cs.toArray el) fun a => .pointer (some a)
  | none => False
 | .buildSlice t len parts =>
  match P.underlying t, mapO ρ (parts.toList.map (·.2)) with
  | some (.slice el), some vs => match P.info? el with
   | some inf => match inf.zero with
    | some z => cond (Nat.beq len 0) (match parts.toList with
      | [] => K (.cells #[] el) fun a => .slice (some a) 0 0
      | _ => False) <| cond (Nat.ble (len * inf.size) 1000000 && Nat.beq z.cells.size inf.size && !Nat.beq (len * inf.size) 0)
      (dFill P ((List.range len).map fun i => (i * inf.size, inf.size, el)) (zrow z.cells.toList len) ((parts.toList.map (·.1)).zip vs) fun cs =>
       K (.cells cs.toArray el) fun a => .slice (some a) len len) False
    | none => False
   | none => False
  | _, _ => False
 | .makeMap t r =>
  match r with
  | none => K (.map #[] 0) fun a => .map (some a.block)
  | some x => match P.underlying t, ρ x with
   | some (.map _ _), some (.int _ _) => K (.map #[] 0) fun a => .map (some a.block)
   | _, _ => False
 | .makeSlice t x y =>
  match P.underlying t, ρ x, ρ y with
  | some (.slice el), some (.int _ l), some (.int _ c) => match P.info? el with
   | some inf => match inf.zero with
    | some z => cond (Nat.beq z.cells.size inf.size && !Nat.beq inf.size 0)
      (0 ≤ l ∧ l ≤ c ∧ c ≤ 281474976710656 ∧ inf.bytes * c ≤ 281474976710656 ∧ K (.cells (zrow z.cells.toList c.toNat).toArray el) fun a => .slice (some a) l.toNat c.toNat) False
    | none => False
   | none => False
  | _, _, _ => False
 | _ => False
inductive Itm where
 | ro (i : Nat)
 | eff (i : Nat)
 | settle (i : Nat)
def actAll (P : Program) (N : NX) (fl : FEnv) : List Row → Env → List FlI → (Env → List FlI → Prop) → Prop
 | [], l, pend, K => K l pend
 | x :: r, l, pend, K => match x.o.guard, x.o.dst with
  | none, some d => cond (Nat.blt d N.n && flFree fl d)
    (flAct P x.o.op (look l fl []) fun obj val => actAll P N fl r ((d, none) :: l) (pend ++ [⟨x.idx, obj, val, d, none⟩]) K) False
  | _, _ => False
def upd : List FlI → List Value → List FlI
 | p :: ps, .pointer y :: vs => { p with y := y } :: upd ps vs
 | ps, _ => ps
def isOn (mask : Nat) (x : Row) : Bool := Nat.beq (x.anc ||| mask) mask
def gap (P : Program) (N : NX) (fl : FEnv) (mask : Nat) (wait : List Row) (pend : List FlI) (l : Env) (w : World) (K : List FlI → Env → World → Prop) : Prop :=
 actAll P N fl (wait.filter (isOn mask)) l pend fun l1 pend1 => match pend1 with
  | [] => K [] l1 w
  | p :: ps => FlS ((p :: ps).map fun p => (p.obj, p.y)) w (curry _ fun cs w1 => K (upd (p :: ps) cs) l1 w1)
def dFl (P : Program) (N : NX) (ops : Array Oper) (split : Bool) (rows : List Row) : List Itm → Nat → List Row → List FlI → Env → FEnv → CEnv → World → (Env → World → Prop) → Prop
 | [], _, wait, pend, l, _, _, w, K => match wait, pend with
  | [], [] => K l w
  | _, _ => False
 | .ro i :: r, mask, wait, pend, l, fl, C, w, K => match rows[i]? with
  | some x => dStep P N ops split (itOf x) l fl C w fun l' fl' C' w' => dFl P N ops split rows r (mask ||| 2 ^ i) wait pend l' fl' C' w' K
  | none => False
 | .eff i :: r, mask, wait, pend, l, fl, C, w, K => match rows[i]? with
  | some x => gap P N fl mask wait pend l w fun pend1 l1 w1 =>
    dStep P N ops split (itOf x) l1 fl C w1 fun l' fl' C' w' => dFl P N ops split rows r (mask ||| 2 ^ i) (wait.filter fun y => !isOn mask y) pend1 l' fl' C' w' K
  | none => False
 | .settle i :: r, mask, wait, pend, l, fl, C, w, K =>
  gap P N fl mask wait pend l w fun pend1 l1 w1 => match pend1.find? fun p => Nat.beq p.idx i with
   | some p => Need p.y fun ad => dFl P N ops split rows r (mask ||| 2 ^ i) (wait.filter fun y => !isOn mask y) (pend1.filter fun p => !Nat.beq p.idx i) ((p.dst, some (p.val ad)) :: l1) fl C w1 K
   | none => False
def isFloat (rows : List Row) (x : Row) : Bool :=
 !x.ro && isAlloc x.o.op && x.o.guard.isNone && rows.any fun y => !y.ro && !Nat.beq y.idx x.idx && !Nat.testBit x.anc y.idx && !Nat.testBit y.anc x.idx
def settles (fls : List Nat) (done : Nat) (x : Row) : List Nat := fls.filter fun i => Nat.testBit x.anc i && !Nat.testBit done i
def mkItems (rows : List Row) (fls : List Nat) : Nat → Nat → List Itm
 | 0, _ => []
 | f + 1, done =>
  match rows.find? (fun x => x.ro && !Nat.testBit done x.idx && isOn done x) with
  | some x => .ro x.idx :: mkItems rows fls f (done ||| 2 ^ x.idx)
  | none => match rows.find? (fun x => !x.ro && !(fls.any fun i => Nat.beq i x.idx) && !Nat.testBit done x.idx && Nat.beq (x.anc ||| done ||| (fls.foldl (fun s i => s ||| 2 ^ i) 0)) (done ||| (fls.foldl (fun s i => s ||| 2 ^ i) 0))) with
   | some x => match settles fls done x with
    | i :: _ => .settle i :: mkItems rows fls f (done ||| 2 ^ i)
    | [] => .eff x.idx :: mkItems rows fls f (done ||| 2 ^ x.idx)
   | none => match fls.find? (fun i => !Nat.testBit done i) with
    | some i => .settle i :: mkItems rows fls f (done ||| 2 ^ i)
    | none => []
section
variable {P : Program} {e : Operand → Value} {ρ : Operand → Option Value}
theorem of_flAct (hρ : ∀ x v, ρ x = some v → e x = v) {op : Op} {ty : TypeId} {K : Obj → (Addr → Value) → Prop} (h : flAct P op ρ K)
  (dst : Option Tmp) (pos : String) (after : Array Edge) (g : Option (Nat × Bool)) :
  ∃ obj val, (∀ w, (execOp e ⟨dst, op, ty, pos, after, g⟩).run P w = .ok (.value (val ⟨w.heap.size, 0, none⟩)) (w.alloc obj)) ∧ K obj val := by
 unfold flAct at h
 split at h
 ·rename_i el
  split at h
  ·rename_i i hi
   split at h
   ·rename_i z hz
    refine ⟨_, _, fun w => ?_, h⟩
    simp [execOp, Instr.alloc, zeroValue, typeInfo, hi, hz, newVar, newRow]
   ·exact h.elim
  ·exact h.elim
 ·rename_i el x
  split at h
  ·rename_i v hv
   have h1 := of_dCells h
   refine ⟨_, _, fun w => ?_, h1⟩
   simp [execOp, Instr.box, newVar, newRow, hρ _ _ hv]
  ·exact h.elim
 ·rename_i t len parts
  split at h
  ·rename_i el vs hu hm
   split at h
   ·rename_i inf hi
    split at h
    ·rename_i z hz
     cases hb0 : Nat.beq len 0 with
     | true =>
      rw [hb0] at h
      simp only [cond_true] at h
      obtain rfl := Nat.eq_of_beq_eq_true hb0
      split at h
      ·rename_i hp
       have hp' : parts = #[] := Array.ext' (by simpa using hp)
       subst hp'
       refine ⟨_, _, fun w => ?_, h⟩
       have e0 : Array.range 0 = #[] := rfl
       simp [execOp, Instr.buildSlice, run_underlying hu, sizeOf, typeInfo, hi, Instr.fill, newRow, e0]
      ·exact h.elim
     | false =>
     rw [hb0] at h
     simp only [cond_false] at h
     cases hb : (Nat.ble (len * inf.size) 1000000 && Nat.beq z.cells.size inf.size && !Nat.beq (len * inf.size) 0) with
     | false => rw [hb] at h; exact h.elim
     | true =>
      rw [hb] at h
      simp only [cond_true] at h
      simp only [Bool.and_eq_true, Bool.not_eq_true'] at hb
      obtain ⟨⟨hb1, hb2⟩, hb3⟩ := hb
      have hle : len * inf.size ≤ 1000000 := Nat.le_of_ble_eq_true hb1
      have hsz : z.cells.size = inf.size := Nat.eq_of_beq_eq_true hb2
      have hnz : len * inf.size ≠ 0 := by intro h0; rw [h0] at hb3; cases hb3
      obtain ⟨cs, hc, hK⟩ := of_dFill h
      have hc' := fill_mono (F' := fun i => some (i * inf.size, inf.size)) (by
       intro i x hx
       simp only [Option.map_eq_some_iff] at hx
       obtain ⟨y, hy, rfl⟩ := hx
       simp only [List.getElem?_map, Option.map_eq_some_iff] at hy
       obtain ⟨j, hj, rfl⟩ := hy
       obtain ⟨hlt, hj'⟩ := List.getElem?_eq_some_iff.1 hj
       simp only [List.getElem_range] at hj'
       subst hj'
       rfl) hc
      have e1 := of_mapO hρ hm
      have hparts : (parts.map fun (i, x) => (i, e x)).toList = (parts.toList.map (·.1)).zip vs := by
       rw [← e1]
       simp only [Array.toList_map, List.map_map]
       generalize parts.toList = ps
       induction ps with
       | nil => rfl
       | cons p ps ih => simp [ih]
      have hrow := zrow_eq (z := z.cells) len
      rw [hsz] at hrow
      refine ⟨_, _, fun w => ?_, hK⟩
      have h24 : ¬ (len * inf.size > 2 ^ 24) := by
       have : (2 : Nat) ^ 24 = 16777216 := by decide
       omega
      simp only [execOp, Instr.buildSlice, Sem.run_bind, run_underlying hu, Result.andThen_ok, sizeOf, typeInfo, run_program, hi, Sem.run_pure, if_neg h24, if_neg hnz, zeroValue, hz, hsz, hrow, hparts, hc', newRow,
       run_newObj, World.alloc_eq, Array.toArray_toList]
    ·exact h.elim
   ·exact h.elim
  ·exact h.elim
 ·rename_i t r
  split at h
  ·refine ⟨_, _, fun w => ?_, h⟩
   simp [execOp, Instr.makeMap]
  ·rename_i x
   split at h
   ·rename_i k el kk n hu h1
    refine ⟨_, _, fun w => ?_, h⟩
    simp [execOp, Instr.makeMap, run_underlying hu, hρ _ _ h1, asInt, asIntOf]
   ·exact h.elim
 ·rename_i t x y
  split at h
  ·rename_i el k l k' c hu h1 h2
   split at h
   ·rename_i inf hi
    split at h
    ·rename_i z hz
     cases hb : (Nat.beq z.cells.size inf.size && !Nat.beq inf.size 0) with
     | false => rw [hb] at h; exact h.elim
     | true =>
      rw [hb] at h
      simp only [cond_true] at h
      simp only [Bool.and_eq_true, Bool.not_eq_true'] at hb
      obtain ⟨c1, c2, c3, c4, hK⟩ := h
      refine ⟨_, _, fun w => ?_, hK⟩
      have := run_makeSlice (P := P) (w := w) (k := k) (k' := k') hu hi hz (Nat.eq_of_beq_eq_true hb.1) (by intro h0; rw [h0] at hb; exact absurd hb.2 (by decide)) c1 c2 c3 c4
      simp [execOp, hρ _ _ h1, hρ _ _ h2, this]
    ·exact h.elim
   ·exact h.elim
  ·exact h.elim
 ·exact h.elim
theorem FlN_done {objs : List Obj} {K : List (Option Addr) → World → Prop} : ∀ {n : Nat} {ys : List (Option Addr)} {w : World}, FlN objs K n ys w → K ys w
 | 0, _, _, h => h
 | _ + 1, _, _, h => h.1
end
section
variable {P : Program} {N : NX} {ops : Array Oper}
theorem row_step (hP : OkP P) (hs : Region.noSelect ops = true) {Q : Exit → Act → World → Prop} (hQ : ∀ c a w (o : Oper) v, o ∈ ops.toList → Q (.panic c) (a.put o.dst v) w → Q (.panic c) a w)
  (asv : List Nat) (has : asv = ancL ops.toList []) (rows : List Row) (hrows : rows = rowsOf P 0 ops.toList asv) {x : Row} {i done m : Nat} {C : CEnv} {a : Act} {w : World} {G : Env → FEnv → CEnv → World → Prop}
  (hri : rows[i]? = some x) (hdone : ∀ j, done.testBit j = true → j < ops.size ∧ asv.getD j 0 ||| done = done) (hsub : x.anc ||| done = done) (hb0 : done.testBit x.idx = false) (ys : List Row)
  (hys : ∀ y ∈ rows, done.testBit y.idx = false → y.idx ≠ x.idx → y ∈ ys) (hC : ∀ x ∈ C, holdAt w x.2 ∧ (loadsOf P rows).testBit x.1 = true) (hst : Step ds P N ops (itOf x) a C w G) (hE : ∀ ch w', N.E ch w' → Q (.panic ch) a w')
  (ih : ∀ {v : Value} {l : Env} {fl : FEnv} {C' : CEnv} {w' : World}, (∀ x ∈ C', holdAt w' x.2 ∧ (loadsOf P rows).testBit x.1 = true) → EnvOk ds N (a.put x.o.dst v) l → FlOk (a.put x.o.dst v) fl → G l fl C' w' →
   wpAnyE P .any ops asv Q C' m (bitsA ops.size (done ||| 2 ^ x.idx)) (a.put x.o.dst v) w') :
  (x.ro = true → mixTail P ops x ys = true → wpAnyE P .any ops asv Q C (m + 1) (bitsA ops.size done) a w) ∧
  (x.ro = false → tailE (loadsOf P rows) x ys = true → wpOp P ops Q x.idx (fun a' w' => Gd P ops asv C x.idx w w' ∧ wpAnyE P .any ops asv Q C m ((bitsA ops.size done).setIfInBounds x.idx true) a' w') a w) := by
  have rowFact : ∀ y ∈ rowsOf P 0 ops.toList asv, ops[y.idx]? = some y.o ∧ asv[y.idx]? = some y.anc ∧ y.dir = dirOf y.o.after.toList ∧ y.ro = dRoOk P y.o.op ∧ y.hd = headOp P y.o := by
   intro y hy
   obtain ⟨j, h1, h2, h3, h4⟩ := rowsOf_mem hy
   rw [Nat.zero_add] at h3
   rw [h3]
   exact ⟨by simpa using h1, h2, h4⟩
  obtain ⟨h0, hax, hdir, hxro, hxhd⟩ := rowFact x (by rw [← hrows]; exact List.mem_of_getElem? hri)
  have haxD : asv.getD x.idx 0 = x.anc := by simp [hax]
  have hklt : x.idx < ops.size := (Array.getElem?_eq_some_iff.1 h0).1
  have hanc : ∀ j oj, ops[j]? = some oj → asv[j]? = some (maskOf (asv.take j) oj.after.toList) := by
   intro j oj hj
   have := ancL_get ops.toList [] j oj (by simpa using hj)
   rw [has]
   simpa using this
  have hancD : ∀ j oj, ops[j]? = some oj → asv.getD j 0 = maskOf (asv.take j) oj.after.toList := fun j oj hj => by simp [hanc j oj hj]
  have hready : x.idx ∈ Region.ready .any ops (bitsA ops.size done) := by
   refine mem_ready.2 ⟨by rw [bitsA_getD, if_pos hklt]; exact hb0, x.o, h0, fun e he hbe => ?_⟩
   have h2 : x.anc.testBit e.on = true := by
    rw [← haxD, hancD _ _ h0]
    exact maskOf_has hbe _ _ (.inl (by simpa using he))
   have h3 := sub_bits hsub h2
   rw [bitsA_getD, if_pos (hdone _ h3).1]
   exact h3
  have hlater : ∀ j oj, j ≠ x.idx → ops[j]? = some oj → done.testBit j = false → ∃ y ∈ ys, y.idx = j ∧ y.o = oj ∧ y.anc = asv.getD j 0 ∧ y.dir = dirOf oj.after.toList ∧ y.hd = headOp P oj := by
   intro j oj hne hj hun
   have hjlt := (Array.getElem?_eq_some_iff.1 hj).1
   have hjr : j < rows.length := by
    rw [hrows, rowsOf_length P _ _ _ (by rw [has, ancL_len])]; simpa using hjlt
   obtain ⟨y, hy⟩ : ∃ y, rows[j]? = some y := ⟨_, List.getElem?_eq_getElem hjr⟩
   have hmem : y ∈ rows := List.mem_of_getElem? hy
   have hidx : y.idx = j := by
    rw [hrows] at hy
    have := rowsOf_get P _ _ _ _ _ hy
    omega
   obtain ⟨g1, g2, g3, g4, g5⟩ := rowFact y (by rw [← hrows]; exact hmem)
   rw [hidx] at g1 g2
   have e : y.o = oj := Option.some.inj (g1.symm.trans hj)
   refine ⟨y, ?_, hidx, e, by simp [g2], by rw [g3, e], by rw [g5, e]⟩
   exact hys y hmem (by rw [hidx]; exact hun) (by rw [hidx]; exact hne)
  -- where a set of bits holds whom an operation waits for
  have through : ∀ i oi, ops[i]? = some oi → (asv.getD i 0).testBit x.idx = true → ∃ e ∈ oi.after, Region.binds .any e = true ∧ (e.on = x.idx ∨ (asv.getD e.on 0).testBit x.idx = true) := by
   intro i oi hi hb
   rw [hancD i oi hi] at hb
   rcases maskOf_bit _ _ hb with h5 | ⟨e, he, hbe, h5⟩
   ·simp at h5
   ·refine ⟨e, by simpa using he, hbe, h5.imp id fun h6 => ?_⟩
    have h7 : (asv.take i).getD e.on 0 = asv.getD e.on 0 ∨ (asv.take i).getD e.on 0 = 0 := by
     simp only [List.getD_eq_getElem?_getD, List.getElem?_take]
     split
     ·exact .inl rfl
     ·exact .inr rfl
    rcases h7 with h7 | h7
    ·rw [h7] at h6; exact h6
    ·rw [h7] at h6; simp at h6
  refine ⟨fun hxro' hb2 => ?_, fun hxro' htl => ?_⟩
  ·have hro : dRoOk P x.o.op = true := hxro ▸ hxro'
   have go : ∀ (v : Value) (S : World → Prop) (C' : CEnv), (∀ j, j < ops.size → j ≠ x.idx → done.testBit j = false → (asv.getD j 0).testBit x.idx = false → ∀ w w', Gd P ops asv C' j w w' → S w → S w') →
     YieldsIf P ops S x.o v a → S w → wpAnyE P .any ops asv Q C' m (bitsA ops.size (done ||| 2 ^ x.idx)) (a.put x.o.dst v) w →
     wpAnyE P .any ops asv Q C' (m + 1) (bitsA ops.size done) a w := by
    intro v S C' hpres hy hS hrest'
    refine wpAnyE_first (S := S) (without asv ops.size x.idx) h0 (Region.noSelect_spec hs) (fun c a w hq => hQ c a w x.o _ (List.mem_of_getElem? (by simpa using h0)) hq) ?_ (by simp [without]) _ _ _ _ ?_ ?_ ?_ hready hy hS (by rw [bitsA_set]; exact hrest')
    ·intro j hj
     obtain ⟨h1, oj, h2, h3⟩ := mem_ready.1 hj
     have hjlt := (Array.getElem?_eq_some_iff.1 h2).1
     rw [without_getD, if_pos hjlt] at h1
     by_cases hjk : j = x.idx
     ·exact hjk
     ·simp only [hjk, decide_false, Bool.not_false, Bool.true_and, Bool.not_eq_false'] at h1
      obtain ⟨e, he, hbe, h5⟩ := through j oj h2 h1
      have h6 := h3 e he hbe
      rw [without_getD] at h6
      split at h6
      ·simp only [Bool.and_eq_true, Bool.not_eq_true', decide_eq_false_iff_not] at h6
       rcases h5 with h5 | h5
       ·exact absurd h5 h6.1
       ·rw [h6.2] at h5; cases h5
      ·cases h6
    ·intro j oj hj hjk hun hno
     have hjlt := (Array.getElem?_eq_some_iff.1 hj).1
     rw [bitsA_getD, if_pos hjlt] at hun
     obtain ⟨y, hy', e1, e2, e3, e4, e5⟩ := hlater j oj hjk hj hun
     have hmt := mixTail_mem hb2 hy'
     rw [hxro'] at hmt
     simp only [Bool.and_eq_true, Bool.or_eq_true] at hmt
     rcases hmt.1 with h1 | h1
     ·rw [e4] at h1
      rcases dirOf_bit _ _ h1 with h2 | ⟨e, he, hbe, h2⟩
      ·simp at h2
      ·exact absurd h2 (hno e (by simpa using he) hbe)
     ·rw [e2] at h1; exact h1
    ·intro j hj
     rw [bitsA_getD] at hj
     split at hj
     ·rename_i hjlt
      rw [without_getD, if_pos hjlt]
      have hne : j ≠ x.idx := by intro e; rw [e, hb0] at hj; cases hj
      have : (asv.getD j 0).testBit x.idx = false := by
       cases hbit : (asv.getD j 0).testBit x.idx with
       | false => rfl
       | true =>
        have := sub_bits (hdone j hj).2 hbit
        rw [hb0] at this; cases this
      simp only [hne, decide_false, Bool.not_false, Bool.true_and, Bool.not_eq_true', this]
     ·cases hj
    ·intro j hj hLj
     rw [bitsA_getD] at hj
     split at hj
     ·rename_i hjlt
      rw [without_getD, if_pos hjlt] at hLj
      simp only [Bool.and_eq_true, Bool.not_eq_true', decide_eq_false_iff_not] at hLj
      exact hpres j hjlt hLj.1 hj hLj.2
     ·cases hj
   rcases hst with ⟨v, l', fl', fp, hfp, h1, h01, h2, h3, h4, h5⟩ | ⟨l', fl', h1, h3, h4, h5⟩ | ⟨hn, h1, h2⟩
   ·have hCx : ∀ y ∈ C, y ∈ addC (itOf x) fp C := fun y hy => by simp [addC, itOf, hy]
    refine wpAnyE_mono hCx _ _ _ _ ?_
    refine go v (OKw P x.o.op fp w) _ ?_ (.inl ⟨h1, h2⟩) ?_ (ih ?_ h3 h4 h5)
    ·intro j hjlt hjk hun hanc0 w1 w2 hg hok
     rcases hok with hok | ⟨hok, hx⟩ | ⟨hok, hc⟩
     ·exact .inl hok
     ·have hj' : ops[j]? = some ops[j] := by simp [hjlt]
      obtain ⟨y, hy', e1, e2, e3, e4, e5⟩ := hlater j ops[j] hjk hj' hun
      have hmt := mixTail_mem hb2 hy'
      rw [hxro'] at hmt
      simp only [Bool.and_eq_true, Bool.or_eq_true] at hmt
      rcases hmt.2 with ((h7 | h7) | h7) | h7
      ·exact .inl h7
      ·rw [hok] at h7; cases h7
      ·rw [e3, hanc0] at h7; cases h7
      ·refine .inr (.inl ⟨hok, hx.trans (hg.1 ?_)⟩)
       simp only [headAt, hj']
       rw [← e5]; exact h7
     ·refine .inr (.inr ⟨hok, fun z hz => ?_⟩)
      exact hg.2 (x.idx, z) (by simp [addC, itOf, hz]) hanc0 (hc z hz)
    ·unfold OKw
     cases hb : isLoad P x.o.op with
     | true => exact .inr (.inr ⟨rfl, h01⟩)
     | false => exact .inr (.inl ⟨rfl, Ext.refl w⟩)
    ·intro y hy
     simp only [addC, itOf, List.mem_append, List.mem_map] at hy
     rcases hy with ⟨z, hz, rfl⟩ | hy
     ·exact ⟨h01 z hz, loadsOf_bit (List.mem_of_getElem? hri) (by
       cases hll : isLoad P x.o.op with
       | true => rfl
       | false => rw [hfp hll] at hz; cases hz)⟩
     ·exact hC y hy
   ·exact go undef (fun _ => True) C (fun _ _ _ _ _ _ _ _ _ => trivial) (.inr ⟨h1, rfl⟩) trivial (ih hC h3 h4 h5)
   ·have hn' : dRoOk P x.o.op = false := hn
    rw [hro] at hn'; cases hn'
  ·have hro : dRoOk P x.o.op = false := hxro ▸ hxro'
   unfold wpOp
   simp only [h0]
   rw [bitsA_set]
   rcases hst with ⟨v, l', fl', fp, hfp, h1, h01, h2, h3, h4, h5⟩ | ⟨l', fl', h1, h3, h4, h5⟩ | ⟨hn, h1, h2⟩
   ·have h1' : Region.wanted x.o (yielded ops a.tmps) = true := h1
    rw [if_pos h1']
    refine .inl ?_
    unfold Oper.wp
    have h2' : (execOp a.eval x.o).run P w = .ok (.value v) w := h2 w (by
     unfold OKw
     cases hb : isLoad P (itOf x).o.op with
     | true => exact .inr (.inr ⟨rfl, h01⟩)
     | false => exact .inr (.inl ⟨rfl, Ext.refl w⟩))
    rw [h2']
    refine ⟨Gd.refl, ?_⟩
    refine wpAnyE_mono (C' := addC (itOf x) fp C) (fun y hy => by simp [addC, itOf, hy]) _ _ _ _ (ih ?_ h3 h4 h5)
    intro y hy
    simp only [addC, itOf, List.mem_append, List.mem_map] at hy
    rcases hy with ⟨z, hz, rfl⟩ | hy
    ·exact ⟨h01 z hz, loadsOf_bit (List.mem_of_getElem? hri) (by
      cases hll : isLoad P x.o.op with
      | true => rfl
      | false => rw [hfp hll] at hz; cases hz)⟩
    ·exact hC y hy
   ·have h1' : Region.wanted x.o (yielded ops a.tmps) = false := h1
    rw [if_neg (by rw [h1']; simp)]
    exact ⟨Gd.refl, ih hC h3 h4 h5⟩
   ·have h1' : Region.wanted x.o (yielded ops a.tmps) = true := h1
    rw [if_pos h1']
    refine .inl (Oper.wp_mono ?_ (h2 Q hE))
    rintro a' w' ⟨hxx, hkp, v, l', fl', rfl, h3, h4, h5⟩
    have hcells : ∀ y ∈ C, (asv.getD x.idx 0).testBit y.1 = false → holdAt w' y.2 := by
     intro y hy hb
     cases hal : isAlloc x.o.op with
     | true => exact (hxx hal).hold (hC y hy).1
     | false =>
      have := hkp hal
      simp only [keepOk, itOf] at this
      exact this y hy (by rw [← haxD]; exact hb)
    refine ⟨⟨fun hh => hxx ?_, fun y hy hb _ => hcells y hy hb⟩, ?_⟩
    ·have : headOp P x.o = true := by simpa [headAt, h0] using hh
     have hn' : dRoOk P x.o.op = false := hn
     simp only [headOp, hn', Bool.false_or] at this
     exact this
    ·refine wpAnyE_more (C2 := dropC (itOf x) C) trivial _ _ _ _ ?_ (ih ?_ h3 h4 h5)
     ·intro y hy
      cases hb : x.anc.testBit y.1 with
      | false => exact .inl (by simp [dropC, itOf, hy, hb])
      | true =>
       refine .inr fun i hi => ?_
       rw [bitsA_getD] at hi
       split at hi
       ·rename_i hilt
        simp only [Nat.testBit_or, Bool.or_eq_false_iff, Nat.testBit_two_pow, decide_eq_false_iff_not] at hi
        have hi' : ops[i]? = some ops[i] := by simp [hilt]
        obtain ⟨z, hz, e1, e2, e3, e4, e5⟩ := hlater i ops[i] (fun e => hi.2 e.symm) hi' hi.1
        have hmt := List.all_eq_true.1 htl z hz
        simp only [Bool.or_eq_true] at hmt
        rcases hmt with hmt | hmt
        ·left; simp only [headAt, hi']; rw [← e5]; exact hmt
        ·right
         rw [← e3]
         exact sub_bits (Nat.eq_of_beq_eq_true hmt) (by rw [Nat.testBit_and, hb, (hC y hy).2]; rfl)
       ·cases hi
     ·intro y hy
      simp only [dropC, itOf, List.mem_filter, Bool.not_eq_true'] at hy
      exact ⟨hcells y hy.1 (by rw [haxD]; exact hy.2), (hC y hy.1).2⟩
end
def bitsOf (is : List Nat) : Nat := is.foldl (fun s i => s ||| 2 ^ i) 0
def pendAt (rows : List Row) (fls : List Nat) (mask : Nat) : List Nat := fls.filter fun i => !Nat.testBit mask i && match rows[i]? with
 | some y => isOn mask y
 | none => false
def has (is : List Nat) (j : Nat) : Bool := is.any fun i => Nat.beq i j
def coverF (rows : List Row) (pm : List Nat) (mask on : Nat) (e : Option Nat) : Bool :=
 rows.all fun y => Nat.testBit mask y.idx || has pm y.idx || (match e with
  | some i => Nat.beq i y.idx
  | none => false) || !isOn on y
def flCheck (P : Program) (ops : Array Oper) (rows : List Row) (fls : List Nat) : List Itm → Nat → Bool
 | [], mask => (List.range ops.size).all fun i => Nat.testBit mask i
 | .ro i :: r, mask => match rows[i]? with
  | some x => x.ro && isOn mask x && !Nat.testBit mask i && mixTail P ops x (rest rows mask i) && flCheck P ops rows fls r (mask ||| 2 ^ i)
  | none => false
 | .eff i :: r, mask => match rows[i]? with
  | some x => !x.ro && !has fls i && isOn mask x && !Nat.testBit mask i && tailE (loadsOf P rows) x (rest rows mask i) &&
    coverF rows (pendAt rows fls mask) mask (mask ||| bitsOf (pendAt rows fls mask)) (some i) && flCheck P ops rows fls r (mask ||| 2 ^ i)
  | none => false
 | .settle i :: r, mask => has (pendAt rows fls mask) i &&
   coverF rows (pendAt rows fls mask) mask (mask ||| bitsOf ((pendAt rows fls mask).filter fun j => !Nat.beq j i)) none && flCheck P ops rows fls r (mask ||| 2 ^ i)
def floatsOk (ops : Array Oper) (rows : List Row) (fls : List Nat) : Bool :=
 fls.all fun i => match rows[i]? with
  | some x => isAlloc x.o.op && !x.ro && rows.all fun y => Nat.beq y.idx i || ((match x.o.dst, y.o.dst with
    | some d, some d' => !Nat.beq d d'
    | _, _ => true) && (Nat.testBit x.anc y.idx || match y.o.dst with
    | some d => !(x.o.looksAt ops).contains d
    | none => true) && (match y.o.guard, x.o.dst with
    | some (j, _), some d => (match (ops[j]?).bind (·.dst) with
     | some d' => !Nat.beq d d'
     | none => true)
    | _, _ => true))
  | none => false
def remOf (n D : Nat) : Nat := ((List.range n).filter fun j => !Nat.testBit D j).length
theorem filter_lt {l : List Nat} {p q : Nat → Bool} {i : Nat} (hi : i ∈ l) (hp : p i = true) (hq : q i = false) (h : ∀ j, q j = true → p j = true) : (l.filter q).length + 1 ≤ (l.filter p).length := by
 induction l with
 | nil => cases hi
 | cons x l ih =>
  have hle : (l.filter q).length ≤ (l.filter p).length := by
   clear ih hi
   induction l with
   | nil => simp
   | cons y l ih =>
    simp only [List.filter_cons]
    cases hqy : q y with
    | true => rw [h y hqy]; simpa using ih
    | false => cases hpy : p y <;> simp <;> omega
  rcases List.mem_cons.1 hi with rfl | hi
  ·simp only [List.filter_cons, hp, hq, if_true, Bool.false_eq_true, if_false, List.length_cons]; omega
  ·have := ih hi
   simp only [List.filter_cons]
   cases hqx : q x with
   | true => rw [h x hqx]; simp; omega
   | false => cases hpx : p x <;> simp <;> omega
theorem rem_set {n D i : Nat} (hi : i < n) (h : D.testBit i = false) : remOf n (D ||| 2 ^ i) + 1 ≤ remOf n D := by
 refine filter_lt (List.mem_range.2 hi) (by simp [h]) (by simp [Nat.testBit_or]) ?_
 intro j hj
 simp only [Nat.testBit_or, Bool.not_or, Bool.and_eq_true] at hj
 exact hj.1
theorem putK_keep {N : NX} {fl : FEnv} {dst : Option Nat} {l : Env} {v : Value} {K R : Env → Prop} (hR : ∀ l', (∀ t, dst ≠ some t → gt l' t = gt l t) → R l') :
  putK N fl dst l v K = putK N fl dst l v (fun l' => K l' ∧ R l') := by
 cases dst with
 | none => simp [putK, hR l (fun _ _ => rfl)]
 | some d =>
  simp only [putK]
  congr 1
  apply propext
  refine ⟨fun h => ⟨h, hR _ fun t ht => ?_⟩, fun h => h.1⟩
  simp only [gt]
  cases hb : Nat.beq d t with
  | false => rfl
  | true => exact absurd (by rw [Nat.eq_of_beq_eq_true hb]) ht
theorem exec1_keep {P : Program} {N : NX} {it : It} {l : Env} {fl : FEnv} {C : CEnv} {w : World} {K : Env → CEnv → World → Prop} {R : Env → Prop} (hR : ∀ l', (∀ t, it.o.dst ≠ some t → gt l' t = gt l t) → R l') :
  exec1 P N it l fl C w K = exec1 P N it l fl C w (fun l' C' w' => K l' C' w' ∧ R l') := by
 unfold exec1
 congr 1
 ·congr 1
  funext v fp
  congr 1
  funext v
  rw [putK_keep hR]
 ·refine congrArg (dEffE P N it.o.op it.o.type (look l fl []) w) ?_
  funext v w'
  congr 1
  rw [putK_keep hR]
def Kept (ops : Array Oper) (o : Oper) (l : Env) (fl : FEnv) (l' : Env) (fl' : FEnv) : Prop :=
 ∀ t, o.dst ≠ some t → (∀ j want, o.guard = some (j, want) → (ops[j]?).bind (·.dst) ≠ some t) → gt l' t = gt l t ∧ (flFree fl t = true → flFree fl' t = true)
theorem gt_cons {l : Env} {g t : Nat} {v : Option Value} (h : g ≠ t) : gt ((g, v) :: l) t = gt l t := by
 simp only [gt]
 cases hb : Nat.beq g t with
 | false => rfl
 | true => exact absurd (Nat.eq_of_beq_eq_true hb) h
theorem lookFlags_free {fl : FEnv} {t g : Nat} {G : List (Nat × Bool)} (h : flFree fl t = true) (hg : lookFlags fl g = some G) : ∀ x ∈ G, x.1 ≠ t := by
 induction fl with
 | nil => simp [lookFlags] at hg
 | cons y fl ih =>
  obtain ⟨d, G', v⟩ := y
  simp only [lookFlags] at hg
  have hall := of_flFree h
  cases hb : Nat.beq d g with
  | true =>
   rw [hb] at hg
   simp only [cond_true, Option.some.injEq] at hg
   subst hg
   exact (hall (d, G', v) (by simp)).2
  | false =>
   rw [hb] at hg
   refine ih ?_ hg
   unfold flFree at h ⊢
   simp only [List.all_cons, Bool.and_eq_true] at h
   exact h.2
theorem dStep_keep {P : Program} {N : NX} {ops : Array Oper} {split : Bool} {it : It} {l : Env} {fl : FEnv} {C : CEnv} {w : World} {G : Env → FEnv → CEnv → World → Prop} (h : dStep P N ops split it l fl C w G) :
  dStep P N ops split it l fl C w (fun l' fl' C' w' => G l' fl' C' w' ∧ Kept ops it.o l fl l' fl') := by
 have base : ∀ l', (∀ t, it.o.dst ≠ some t → gt l' t = gt l t) → Kept ops it.o l fl l' fl := fun l' h t h1 _ => ⟨h t h1, id⟩
 unfold dStep at h ⊢
 split at h
 ·rename_i hg
  rw [exec1_keep base] at h
  simp only [hg]
  exact h
 ·rename_i j want hg
  simp only [hg]
  split at h
  ·exact h.elim
  ·rename_i g hgd
   have base2 : ∀ (b : Bool) l', (∀ t, it.o.dst ≠ some t → gt l' t = gt ((g, some (.bool b)) :: l) t) → Kept ops it.o l fl l' fl := fun b l' h t h1 h2 =>
    ⟨(h t h1).trans (gt_cons (by intro e; subst e; exact h2 j want hg hgd)), id⟩
   split at h
   ·split at h
    ·rename_i c hc
     split at h
     ·rename_i hct
      rw [if_pos hct]
      cases want with
      | true => simp only [cond_true] at h ⊢; rw [exec1_keep (base2 true)] at h; exact h
      | false => simp only [cond_false] at h ⊢; rw [putK_keep (base2 true)] at h; exact h
     ·rename_i hct
      rw [if_neg hct]
      cases want with
      | true => simp only [cond_true] at h ⊢; rw [putK_keep (base2 false)] at h; exact h
      | false => simp only [cond_false] at h ⊢; rw [exec1_keep (base2 false)] at h; exact h
    ·rename_i hc
     rw [putK_keep base] at h
     exact h
    ·exact h.elim
   ·split at h
    ·exact h.elim
    ·rename_i G' hG
     split at h
     ·rename_i v d hv hd
      cases hb : (Nat.blt d N.n && flFree fl d && ((g, want) :: G').all fun x => !(Nat.beq x.1 d)) with
      | false => rw [hb] at h; exact h.elim
      | true =>
       rw [hb] at h
       simp only [cond_true] at h ⊢
       refine ⟨h, fun t h1 h2 => ⟨gt_cons (by intro e; subst e; exact h1 hd), fun hf => ?_⟩⟩
       have hgt : g ≠ t := by intro e; subst e; exact h2 j want hg hgd
       have hdt : d ≠ t := by intro e; subst e; exact h1 hd
       have hGt : ∀ x ∈ G', x.1 ≠ t := by
        unfold flagsOf at hG
        split at hG
        ·simp only [Option.some.injEq] at hG; subst hG; simp
        ·exact lookFlags_free hf hG
        ·cases hG
       unfold flFree at hf ⊢
       simp only [List.all_cons, hf, Bool.and_true]
       have nb : ∀ {x y : Nat}, x ≠ y → Nat.beq x y = false := fun {x y} hne => by
        cases hb : Nat.beq x y with
        | false => rfl
        | true => exact absurd (Nat.eq_of_beq_eq_true hb) hne
       simp only [nb hdt, nb hgt, Bool.not_false, Bool.true_and]
       exact List.all_eq_true.2 fun x hx => by rw [nb (hGt x hx)]; rfl
     ·exact h.elim
section
variable {P : Program} {N : NX} {ops : Array Oper}
def PIn (P : Program) (rows : List Row) (fls : List Nat) (mask : Nat) (a : Act) (p : FlI) : Prop :=
 ∃ x, rows[p.idx]? = some x ∧ x.o.dst = some p.dst ∧ x.o.guard = none ∧ has fls p.idx = true ∧ isOn mask x = true ∧
  (p.y = none → ∀ w, (execOp a.eval x.o).run P w = .ok (.value (p.val ⟨w.heap.size, 0, none⟩)) (w.alloc p.obj)) ∧ (∀ ad, p.y = some ad → a.tmps[p.dst]? = some (p.val ad))
structure FSt (ds : List Deferred) (P : Program) (N : NX) (ops : Array Oper) (asv : List Nat) (rows : List Row) (fls : List Nat) (a0 : Act) (mask D : Nat) (wait : List Row) (pend : List FlI) (l : Env) (fl : FEnv) (C : CEnv) (w : World) (a : Act) : Prop where
 env : EnvOk ds N a l
 flo : FlOk a fl
 cells : ∀ x ∈ C, holdAt w x.2 ∧ (loadsOf P rows).testBit x.1 = true
 pin : ∀ p ∈ pend, PIn P rows fls mask a p
 free : ∀ p ∈ pend, (∀ v, gt l p.dst ≠ some (some v)) ∧ flFree fl p.dst = true ∧ p.dst < N.n
 nod : (pend.map (·.idx)).Nodup
 pm : ∀ p ∈ pend, mask.testBit p.idx = false
 sub : ∀ j, D.testBit j = true ↔ mask.testBit j = true ∨ ∃ p ∈ pend, p.idx = j ∧ p.y ≠ none
 dn : ∀ j, D.testBit j = true → j < ops.size ∧ asv.getD j 0 ||| D = D
 wt : ∀ y ∈ wait, rows[y.idx]? = some y ∧ has fls y.idx = true ∧ mask.testBit y.idx = false ∧ ∀ p ∈ pend, p.idx ≠ y.idx
 wnd : (wait.map (·.idx)).Nodup
 all : ∀ i, has fls i = true → mask.testBit i = false → i < rows.length → (∃ p ∈ pend, p.idx = i) ∨ ∃ y ∈ wait, y.idx = i
 off : Off (dstsOf ops.toList) a0 a
theorem EnvOk.shadow {a : Act} {l : Env} {d : Nat} (h : EnvOk ds N a l) : EnvOk ds N a ((d, none) :: l) := by
 refine ⟨h.size, h.defers, fun t u hu => ?_⟩
 simp only [gt] at hu
 cases hb : Nat.beq d t with
 | true => rw [hb] at hu; simp at hu
 | false => rw [hb] at hu; exact h.at' t u hu
theorem act_ok {asv : List Nat} {rows : List Row} {fls : List Nat} {a0 : Act} {mask D : Nat} {fl : FEnv} {C : CEnv} {w : World} {a : Act} {K : Env → List FlI → Prop} :
  ∀ (on off : List Row) (pend : List FlI) (l : Env), (∀ y ∈ on, isOn mask y = true) → FSt ds P N ops asv rows fls a0 mask D (on ++ off) pend l fl C w a → actAll P N fl on l pend K →
   ∃ l1 more, K l1 (pend ++ more) ∧ FSt ds P N ops asv rows fls a0 mask D off (pend ++ more) l1 fl C w a ∧ (∀ y ∈ on, ∃ p ∈ pend ++ more, p.idx = y.idx)
 | [], off, pend, l, _, hst, h => ⟨l, [], by simpa [actAll] using h, by simpa using hst, by simp⟩
 | x :: on, off, pend, l, hon, hst, h => by
  simp only [actAll] at h
  split at h
  ·rename_i d hg hd
   cases hb : (Nat.blt d N.n && flFree fl d) with
   | false => rw [hb] at h; exact h.elim
   | true =>
    rw [hb] at h
    simp only [cond_true] at h
    simp only [Bool.and_eq_true] at hb
    obtain ⟨⟨dst, op, ty, pos, after, guard⟩, idx, anc, dir, ro, hdd⟩ := x
    simp only at hg hd
    subst hd
    subst hg
    obtain ⟨obj, val, hrun, h⟩ := of_flAct (ty := ty) (fun x v hx => of_look hst.env hst.flo holds_nil x v hx) h (some d) pos after none
    have hw := hst.wt _ (List.mem_append_left _ List.mem_cons_self)
    have hnd := hst.wnd
    simp only [List.cons_append, List.map_cons, List.nodup_cons] at hnd
    have hst' : FSt ds P N ops asv rows fls a0 mask D (on ++ off) (pend ++ [⟨idx, obj, val, d, none⟩]) ((d, none) :: l) fl C w a := by
     refine { env := hst.env.shadow, flo := hst.flo, cells := hst.cells, pin := ?_, free := ?_, nod := ?_, pm := ?_, sub := ?_, dn := hst.dn, wt := ?_, wnd := hnd.2, all := ?_, off := hst.off }
     ·intro p hp
      rcases List.mem_append.1 hp with hp | hp
      ·exact hst.pin p hp
      ·simp only [List.mem_singleton] at hp
       subst hp
       exact ⟨_, hw.1, rfl, rfl, hw.2.1, hon _ (by simp), fun _ => hrun, fun ad h => by cases h⟩
     ·intro p hp
      rcases List.mem_append.1 hp with hp | hp
      ·refine ⟨fun v => ?_, (hst.free p hp).2⟩
       by_cases e : d = p.dst
       ·subst e; simp [gt]
       ·rw [gt_cons e]; exact (hst.free p hp).1 v
      ·simp only [List.mem_singleton] at hp
       subst hp
       exact ⟨fun v => by simp [gt], hb.2, by simpa [Nat.blt_eq] using hb.1⟩
     ·rw [List.map_append, List.nodup_append]
      refine ⟨hst.nod, by simp, ?_⟩
      rintro x hx y hy rfl
      simp only [List.map_cons, List.map_nil, List.mem_singleton] at hy
      obtain ⟨p, hp, he⟩ := List.mem_map.1 hx
      exact hw.2.2.2 p hp (he.trans hy)
     ·intro p hp
      rcases List.mem_append.1 hp with hp | hp
      ·exact hst.pm p hp
      ·simp only [List.mem_singleton] at hp
       subst hp
       exact hw.2.2.1
     ·intro j
      rw [hst.sub j]
      refine or_congr Iff.rfl ⟨?_, ?_⟩
      ·rintro ⟨p, hp, h⟩; exact ⟨p, List.mem_append_left _ hp, h⟩
      ·rintro ⟨p, hp, h1, h2⟩
       rcases List.mem_append.1 hp with hp | hp
       ·exact ⟨p, hp, h1, h2⟩
       ·simp only [List.mem_singleton] at hp
        subst hp
        exact absurd rfl h2
     ·intro y hy
      obtain ⟨h1, h2, h3, h4⟩ := hst.wt y (List.mem_cons_of_mem _ hy)
      refine ⟨h1, h2, h3, fun p hp => ?_⟩
      rcases List.mem_append.1 hp with hp | hp
      ·exact h4 p hp
      ·simp only [List.mem_singleton] at hp
       subst hp
       intro e
       exact hnd.1 (List.mem_map.2 ⟨y, hy, e.symm⟩)
     ·intro i h1 h2 h3
      rcases hst.all i h1 h2 h3 with ⟨p, hp, he⟩ | ⟨y, hy, he⟩
      ·exact .inl ⟨p, List.mem_append_left _ hp, he⟩
      ·rcases List.mem_cons.1 hy with rfl | hy
       ·exact .inl ⟨_, List.mem_append_right _ (List.mem_singleton.2 rfl), he⟩
       ·exact .inr ⟨y, hy, he⟩
    obtain ⟨l1, more, hK, hs, hcov⟩ := act_ok on off _ _ (fun y hy => hon y (List.mem_cons_of_mem _ hy)) hst' h
    refine ⟨l1, [⟨idx, obj, val, d, none⟩] ++ more, by simpa using hK, by simpa using hs, ?_⟩
    intro y hy
    rcases List.mem_cons.1 hy with rfl | hy
    ·exact ⟨⟨idx, obj, val, d, none⟩, by simp, rfl⟩
    ·obtain ⟨p, hp, he⟩ := hcov y hy
     exact ⟨p, by simpa using hp, he⟩
  ·exact h.elim
end
section
variable {P : Program} {N : NX} {ops : Array Oper}
theorem floats_spec {rows : List Row} {fls : List Nat} (h : floatsOk ops rows fls = true) {i : Nat} {x : Row} (hi : has fls i = true) (hx : rows[i]? = some x) :
  isAlloc x.o.op = true ∧ x.ro = false ∧ ∀ y ∈ rows, y.idx ≠ i → (∀ d d', x.o.dst = some d → y.o.dst = some d' → d ≠ d') ∧ (x.anc.testBit y.idx = true ∨ ∀ d, y.o.dst = some d → d ∉ x.o.looksAt ops) ∧ (∀ j want d, y.o.guard = some (j, want) → x.o.dst = some d → (ops[j]?).bind (·.dst) ≠ some d) := by
 obtain ⟨j, hj, he⟩ := List.any_eq_true.1 hi
 have := List.all_eq_true.1 h j hj
 rw [Nat.eq_of_beq_eq_true he, hx] at this
 simp only [Bool.and_eq_true, Bool.not_eq_true'] at this
 obtain ⟨⟨h1, h2⟩, h3⟩ := this
 refine ⟨h1, h2, fun y hy hne => ?_⟩
 have h4 := List.all_eq_true.1 h3 y hy
 simp only [Bool.or_eq_true, Bool.and_eq_true] at h4
 rcases h4 with h4 | ⟨⟨h4, h5⟩, h6⟩
 ·exact absurd (Nat.eq_of_beq_eq_true h4) hne
 ·refine ⟨fun d d' hd hd' => ?_, ?_, fun j want d hg hd he => ?_⟩
  ·rw [hd, hd'] at h4
   intro e
   subst e
   simp at h4
  ·rcases h5 with h5 | h5
   ·exact .inl h5
   ·refine .inr fun d hd => ?_
    rw [hd] at h5
    simpa using h5
  ·rw [hg, hd] at h6
   simp only [he] at h6
   simp at h6
theorem PIn.put {rows : List Row} {fls : List Nat} {mask : Nat} {a : Act} {p : FlI} {o : Oper} {v : Value} (hs : Region.noSelect ops = true) (h : PIn P rows fls mask a p)
  (hops : ∀ (i : Nat) (x : Row), rows[i]? = some x → ops[i]? = some x.o) (hd : o.dst ≠ some p.dst) (hl : ∀ x : Row, rows[p.idx]? = some x → ∀ d, o.dst = some d → d ∉ x.o.looksAt ops) : PIn P rows fls mask (a.put o.dst v) p := by
 obtain ⟨x, h1, h2, h3, h4, h5, h6, h7⟩ := h
 refine ⟨x, h1, h2, h3, h4, h5, fun hy w => ?_, fun ad had => ?_⟩
 ·rw [execOp_put (ops := ops) x.o (fun cs b => Region.noSelect_spec hs p.idx x.o cs b (hops _ _ h1)) a o.dst v (hl x h1)]
  exact h6 hy w
 ·cases hod : o.dst with
  | none => exact h7 ad had
  | some d =>
   rw [put_get, if_neg]
   ·exact h7 ad had
   ·intro e; apply hd; rw [hod, e]
theorem EnvOk.putFree {a : Act} {l : Env} {d : Nat} {v : Value} (h : EnvOk ds N a l) (hf : ∀ u, gt l d ≠ some (some u)) : EnvOk ds N (a.put (some d) v) l := by
 refine ⟨by simp [Act.put, h.size], by simp [Act.put, h.defers], fun t u hu => ?_⟩
 rw [put_get, if_neg]
 ·exact h.at' t u hu
 ·intro e; subst e; exact hf u hu
theorem nod_ne {pend : List FlI} (h : (pend.map (·.idx)).Nodup) {j k : Nat} {q p : FlI} (hj : pend[j]? = some q) (hk : pend[k]? = some p) (hne : j ≠ k) : q.idx ≠ p.idx := by
 have hp := List.pairwise_iff_getElem.1 h
 obtain ⟨hjl, rfl⟩ := List.getElem?_eq_some_iff.1 hj
 obtain ⟨hkl, rfl⟩ := List.getElem?_eq_some_iff.1 hk
 rcases Nat.lt_or_gt_of_ne hne with h1 | h1
 ·have := hp j k (by simpa using hjl) (by simpa using hkl) h1
  simpa using this
 ·have := hp k j (by simpa using hkl) (by simpa using hjl) h1
  intro e
  simp [e] at this
theorem fl_exec (hs : Region.noSelect ops = true) {asv : List Nat} (has0 : asv = ancL ops.toList []) {rows : List Row} (hrows : rows = rowsOf P 0 ops.toList asv) {fls : List Nat} (hfo : floatsOk ops rows fls = true) {a0 : Act} {mask D : Nat} {wait : List Row} {pend : List FlI}
  {l : Env} {fl : FEnv} {C : CEnv} {w : World} {a : Act} (hst : FSt ds P N ops asv rows fls a0 mask D wait pend l fl C w a) (hmD : ∀ x : Row, isOn mask x = true → x.anc ||| D = D) {k : Nat} {p : FlI} (hk : pend[k]? = some p) (hy : p.y = none)
  {Q : Exit → Act → World → Prop} {R : Act → World → Prop}
  (H : ∀ a', FSt ds P N ops asv rows fls a0 mask (D ||| 2 ^ p.idx) wait (pend.set k { p with y := some ⟨w.heap.size, 0, none⟩ }) l fl C (w.alloc p.obj) a' → R a' (w.alloc p.obj)) :
  wpOp P ops Q p.idx (fun a' w' => Gd P ops asv C p.idx w w' ∧ R a' w') a w := by
 have hp : p ∈ pend := List.mem_of_getElem? hk
 have hkl : k < pend.length := (List.getElem?_eq_some_iff.1 hk).1
 obtain ⟨x, h1, h2, h3, h4, h5, h6, h7⟩ := hst.pin p hp
 have hops : ∀ (i : Nat) (x : Row), rows[i]? = some x → ops[i]? = some x.o := fun i x hx => (row_fact hrows hx).2.1
 have hspec := floats_spec hfo h4 h1
 have hfree := hst.free p hp
 unfold wpOp
 simp only [hops _ _ h1]
 rw [if_pos (by simp [Region.wanted, h3])]
 refine .inl ?_
 unfold Oper.wp
 rw [h6 hy w]
 have hext : Ext w (w.alloc p.obj) := Ext.alloc w p.obj
 refine ⟨⟨fun _ => hext, fun y hy _ hc => hext.hold hc⟩, ?_⟩
 rw [h2]
 refine H _ { env := hst.env.putFree hfree.1, flo := hst.flo.put hfree.2.1, cells := fun y hy => ⟨hext.hold (hst.cells y hy).1, (hst.cells y hy).2⟩, pin := ?_, free := ?_, nod := ?_, pm := ?_, sub := ?_, dn := ?_, wt := ?_, wnd := hst.wnd, all := ?_, off := ?_ }
 ·intro q hq
  have hne : ∀ q ∈ pend, q.idx ≠ p.idx → PIn P rows fls mask (a.put (some p.dst) (p.val ⟨w.heap.size, 0, none⟩)) q := by
   intro q hq hne
   obtain ⟨xq, g1, g2, g3, g4, g5, g6, g7⟩ := hst.pin q hq
   have hx := row_fact hrows h1
   have hxq := row_fact hrows g1
   have := PIn.put (o := x.o) (v := p.val ⟨w.heap.size, 0, none⟩) hs (hst.pin q hq) hops (by
    rw [h2]
    intro e
    simp only [Option.some.injEq] at e
    exact (hspec.2.2 xq (List.mem_of_getElem? g1) (by rw [hxq.1]; exact hne)).1 _ _ h2 g2 e) (by
    intro x' hx' d hd
    obtain rfl := Option.some.inj (g1.symm.trans hx')
    rcases ((floats_spec hfo g4 g1).2.2 x (List.mem_of_getElem? h1) (by rw [hx.1]; exact fun e => hne e.symm)).2.1 with h | h
    ·exfalso
     rw [hx.1] at h
     have := sub_bits (Nat.eq_of_beq_eq_true g5) h
     rw [hst.pm p hp] at this; cases this
    ·exact h d hd)
   rw [h2] at this
   exact this
  obtain ⟨j, hj⟩ := List.getElem?_of_mem hq
  by_cases ejk : k = j
  ·subst ejk
   rw [List.getElem?_set_self hkl] at hj
   obtain rfl := Option.some.inj hj
   refine ⟨x, h1, h2, h3, h4, h5, (fun h => by cases h), fun ad had => ?_⟩
   ·simp only [Option.some.injEq] at had
    subst had
    rw [put_get, if_pos rfl, if_pos (by rw [hst.env.size]; exact hfree.2.2)]
  ·rw [List.getElem?_set_ne ejk] at hj
   exact hne q (List.mem_of_getElem? hj) (nod_ne hst.nod hj hk (fun e => ejk e.symm))
 ·intro q hq
  obtain ⟨j, hj⟩ := List.getElem?_of_mem hq
  by_cases ejk : k = j
  ·subst ejk
   rw [List.getElem?_set_self hkl] at hj
   obtain rfl := Option.some.inj hj
   exact hfree
  ·rw [List.getElem?_set_ne ejk] at hj
   exact hst.free q (List.mem_of_getElem? hj)
 ·have : (pend.set k { p with y := some ⟨w.heap.size, 0, none⟩ }).map (·.idx) = pend.map (·.idx) := by
   rw [List.map_set]
   apply List.ext_getElem?
   intro j
   rw [List.getElem?_set]
   split
   ·rename_i e; subst e; rw [if_pos (by simpa using hkl), List.getElem?_map, hk]; rfl
   ·rfl
  rw [this]; exact hst.nod
 ·intro q hq
  obtain ⟨j, hj⟩ := List.getElem?_of_mem hq
  by_cases ejk : k = j
  ·subst ejk
   rw [List.getElem?_set_self hkl] at hj
   obtain rfl := Option.some.inj hj
   exact hst.pm p hp
  ·rw [List.getElem?_set_ne ejk] at hj
   exact hst.pm q (List.mem_of_getElem? hj)
 ·intro j
  rw [Nat.testBit_or, Bool.or_eq_true, hst.sub j, Nat.testBit_two_pow, decide_eq_true_eq]
  constructor
  ·rintro ((h | ⟨q, hq, h1, h2⟩) | rfl)
   ·exact .inl h
   ·obtain ⟨jj, hj⟩ := List.getElem?_of_mem hq
    by_cases e : k = jj
    ·subst e
     rw [hk] at hj
     obtain rfl := Option.some.inj hj
     exact absurd hy h2
    ·exact .inr ⟨q, List.mem_of_getElem? (i := jj) (by rw [List.getElem?_set_ne e]; exact hj), h1, h2⟩
   ·exact .inr ⟨_, List.mem_of_getElem? (i := k) (List.getElem?_set_self hkl), rfl, by simp⟩
  ·rintro (h | ⟨q, hq, h1, h2⟩)
   ·exact .inl (.inl h)
   ·obtain ⟨jj, hj⟩ := List.getElem?_of_mem hq
    by_cases e : k = jj
    ·subst e
     rw [List.getElem?_set_self hkl] at hj
     obtain rfl := Option.some.inj hj
     exact .inr h1
    ·rw [List.getElem?_set_ne e] at hj
     exact .inl (.inr ⟨q, List.mem_of_getElem? hj, h1, h2⟩)
 ·intro j hj
  rw [Nat.testBit_or, Bool.or_eq_true, Nat.testBit_two_pow, decide_eq_true_eq] at hj
  rcases hj with hj | rfl
  ·obtain ⟨g1, g2⟩ := hst.dn j hj
   exact ⟨g1, by rw [← Nat.or_assoc, g2]⟩
  ·have hx := row_fact hrows h1
   refine ⟨(Array.getElem?_eq_some_iff.1 hx.2.1).1, ?_⟩
   have : asv.getD p.idx 0 = x.anc := by simp [hx.2.2]
   rw [this, ← Nat.or_assoc, hmD x h5]
 ·intro y hyw
  obtain ⟨g1, g2, g3, g4⟩ := hst.wt y hyw
  refine ⟨g1, g2, g3, fun q hq => ?_⟩
  obtain ⟨j, hj⟩ := List.getElem?_of_mem hq
  by_cases ejk : k = j
  ·subst ejk
   rw [List.getElem?_set_self hkl] at hj
   obtain rfl := Option.some.inj hj
   exact g4 p hp
  ·rw [List.getElem?_set_ne ejk] at hj
   exact g4 q (List.mem_of_getElem? hj)
 ·intro i g1 g2 g3
  rcases hst.all i g1 g2 g3 with ⟨q, hq, he⟩ | h
  ·obtain ⟨j, hj⟩ := List.getElem?_of_mem hq
   by_cases ejk : k = j
   ·subst ejk
    rw [hk] at hj
    obtain rfl := Option.some.inj hj
    exact .inl ⟨_, List.mem_of_getElem? (i := k) (List.getElem?_set_self hkl), he⟩
   ·exact .inl ⟨q, List.mem_of_getElem? (i := j) (by rw [List.getElem?_set_ne ejk]; exact hj), he⟩
  ·exact .inr h
 ·refine hst.off.trans ?_
  have := off_one (ops := ops) (o := x.o) (a := a) (v := p.val ⟨w.heap.size, 0, none⟩) (by
   obtain ⟨hh, he⟩ := Array.getElem?_eq_some_iff.1 (hops _ _ h1)
   rw [← he]; simp)
  rw [h2] at this
  exact this
theorem upd_set {base : List FlI} {p : FlI} {ad : Addr} : ∀ {pend : List FlI} {k : Nat}, upd base ((pend.map (·.y)).map Value.pointer) = pend → pend[k]? = some p →
  upd base (((pend.set k { p with y := some ad }).map (·.y)).map Value.pointer) = pend.set k { p with y := some ad } := by
 induction base with
 | nil =>
  intro pend k h hk
  simp only [upd] at h
  subst h
  simp at hk
 | cons b base ih =>
  intro pend k h hk
  cases pend with
  | nil => simp at hk
  | cons q pend =>
   simp only [List.map_cons, upd, List.cons.injEq] at h
   obtain ⟨h1, h2⟩ := h
   cases k with
   | zero =>
    simp only [List.getElem?_cons_zero, Option.some.injEq] at hk
    subst hk
    simp only [List.set_cons_zero, List.map_cons, upd, List.cons.injEq]
    refine ⟨?_, h2⟩
    rw [← h1]
   | succ k =>
    simp only [List.set_cons_succ, List.map_cons, upd, List.cons.injEq]
    exact ⟨h1, ih h2 (by simpa using hk)⟩
def isNone' (p : FlI) : Bool := p.y.isNone
theorem set_none_lt {ad : Addr} : ∀ {pend : List FlI} {k : Nat} {p : FlI}, pend[k]? = some p → p.y = none →
  ((pend.set k { p with y := some ad }).filter isNone').length + 1 = (pend.filter isNone').length
 | [], k, p, hk, _ => by simp at hk
 | q :: pend, 0, p, hk, hy => by
  simp only [List.getElem?_cons_zero, Option.some.injEq] at hk
  subst hk
  simp [isNone', hy]
 | q :: pend, k + 1, p, hk, hy => by
  have := set_none_lt (ad := ad) (pend := pend) (k := k) (p := p) (by simpa using hk) hy
  simp only [List.set_cons_succ, List.filter_cons]
  split
  ·simp only [List.length_cons]; omega
  ·exact this
theorem gap_ok (hs : Region.noSelect ops = true) {asv : List Nat} (has0 : asv = ancL ops.toList []) {rows : List Row} (hrows : rows = rowsOf P 0 ops.toList asv) {fls : List Nat} (hfo : floatsOk ops rows fls = true) {a0 : Act} {mask : Nat} {wait : List Row}
  {base : List FlI} {l : Env} {fl : FEnv} {C : CEnv} {Q : Exit → Act → World → Prop} {K' : List (Option Addr) → World → Prop}
  (hmask : ∀ x : Row, isOn mask x = true → ∀ D, (∀ j, mask.testBit j = true → D.testBit j = true) → x.anc ||| D = D)
  (H : ∀ pend D w a m, upd base ((pend.map (·.y)).map Value.pointer) = pend → pend.map (·.idx) = base.map (·.idx) → K' (pend.map (·.y)) w → FSt ds P N ops asv rows fls a0 mask D wait pend l fl C w a → remOf ops.size D ≤ m →
   wpAnyE P .any ops asv Q C m (bitsA ops.size D) a w ∨ ((∃ i, i ∈ Region.ready .any ops (bitsA ops.size D)) ∧ ∀ i ∈ Region.ready .any ops (bitsA ops.size D), (∃ p ∈ pend, p.idx = i ∧ p.y = none) ∨
    ∀ m', m = m' + 1 → wpOp P ops Q i (fun a' w' => Gd P ops asv C i w w' ∧ wpAnyE P .any ops asv Q C m' ((bitsA ops.size D).setIfInBounds i true) a' w') a w)) :
  ∀ (n : Nat) (pend : List FlI) (D : Nat) (w : World) (a : Act) (m : Nat), FlN (base.map (·.obj)) K' n (pend.map (·.y)) w → pend.map (·.obj) = base.map (·.obj) → upd base ((pend.map (·.y)).map Value.pointer) = pend → pend.map (·.idx) = base.map (·.idx) →
   (pend.filter isNone').length ≤ n → FSt ds P N ops asv rows fls a0 mask D wait pend l fl C w a → remOf ops.size D ≤ m → wpAnyE P .any ops asv Q C m (bitsA ops.size D) a w := by
 have common : ∀ (n : Nat) (pend : List FlI) (D : Nat) (w : World) (a : Act) (m : Nat), FlN (base.map (·.obj)) K' n (pend.map (·.y)) w → pend.map (·.obj) = base.map (·.obj) → upd base ((pend.map (·.y)).map Value.pointer) = pend → pend.map (·.idx) = base.map (·.idx) →
   FSt ds P N ops asv rows fls a0 mask D wait pend l fl C w a → remOf ops.size D ≤ m →
   (∀ (k : Nat) (p : FlI), pend[k]? = some p → p.y = none → ∀ m', m = m' + 1 → p.idx ∈ Region.ready .any ops (bitsA ops.size D) → wpOp P ops Q p.idx (fun a' w' => Gd P ops asv C p.idx w w' ∧ wpAnyE P .any ops asv Q C m' ((bitsA ops.size D).setIfInBounds p.idx true) a' w') a w) →
   wpAnyE P .any ops asv Q C m (bitsA ops.size D) a w := by
  intro n pend D w a m hF ho hu hi hst hm hfl
  rcases H pend D w a m hu hi (FlN_done hF) hst hm with h | ⟨⟨i0, hi0⟩, h⟩
  ·exact h
  ·obtain ⟨h1, oi, h2, _⟩ := mem_ready.1 hi0
   have hlt := (Array.getElem?_eq_some_iff.1 h2).1
   rw [bitsA_getD, if_pos hlt] at h1
   have hpos := rem_set hlt h1
   obtain ⟨m', rfl⟩ : ∃ m', m = m' + 1 := ⟨m - 1, by omega⟩
   refine ⟨fun h1 => (by rw [h1] at hi0; cases hi0), fun i hi => ?_⟩
   rcases h i hi with ⟨p, hp, rfl, hy⟩ | h
   ·obtain ⟨k, hk⟩ := List.getElem?_of_mem hp
    exact hfl k p hk hy m' rfl hi
   ·exact h m' rfl
 intro n
 induction n with
 | zero =>
  intro pend D w a m hF ho hu hi hn hst hm
  refine common 0 pend D w a m hF ho hu hi hst hm fun k p hk hy => ?_
  have : p ∈ pend.filter isNone' := List.mem_filter.2 ⟨List.mem_of_getElem? hk, by simp [isNone', hy]⟩
  have := List.length_pos_of_mem this
  omega
 | succ n ih =>
  intro pend D w a m hF ho hu hi hn hst hm
  refine common (n + 1) pend D w a m hF ho hu hi hst hm fun k p hk hy m' hm' hr => ?_
  subst hm'
  have hp : p ∈ pend := List.mem_of_getElem? hk
  obtain ⟨x, g1, _⟩ := hst.pin p hp
  have hx := row_fact hrows g1
  have hlt : p.idx < ops.size := (Array.getElem?_eq_some_iff.1 hx.2.1).1
  have hnd : D.testBit p.idx = false := by
   obtain ⟨h1, _⟩ := mem_ready.1 hr
   rw [bitsA_getD, if_pos hlt] at h1
   exact h1
  have hrem := rem_set hlt hnd
  refine fl_exec hs has0 hrows hfo hst (fun x hx => hmask x hx D fun j hj => (hst.sub j).2 (.inl hj)) hk hy fun a' hst' => ?_
  rw [bitsA_set]
  have hF' := hF.2 k p.obj (by rw [← ho]; simp [hk]) (by simp [hk, hy])
  refine ih _ _ _ a' m' ?_ ?_ (upd_set hu hk) ?_ ?_ hst' (by omega)
  ·rw [List.map_set]; exact hF'
  ·rw [List.map_set, ← ho]
   apply List.ext_getElem?
   intro j
   rw [List.getElem?_set]
   split
   ·rename_i e; subst e; rw [if_pos (by simpa using (List.getElem?_eq_some_iff.1 hk).1), List.getElem?_map, hk]; rfl
   ·rfl
  ·rw [List.map_set, ← hi]
   apply List.ext_getElem?
   intro j
   rw [List.getElem?_set]
   split
   ·rename_i e; subst e; rw [if_pos (by simpa using (List.getElem?_eq_some_iff.1 hk).1), List.getElem?_map, hk]; rfl
   ·rfl
  ·have := set_none_lt (ad := ⟨w.heap.size, 0, none⟩) hk hy
   omega
theorem viewL_curry {R : Type} {f : R → Prop} : ∀ (fs : List (Obj × Option Addr)) (ys : List (Option Addr)) (F : List Value → R), ys.length = fs.length →
  viewL (fs.map fun _ => Kd.p) (ys.map Value.pointer) f (curry (fs.map fun _ => Kd.p) F) = f (F (ys.map Value.pointer))
 | [], [], F, _ => rfl
 | [], _ :: _, F, h => by simp at h
 | _ :: _, [], F, h => by simp at h
 | _ :: fs, y :: ys, F, h => by
  have := viewL_curry (f := f) fs ys (fun vs => F (Value.pointer y :: vs)) (by simpa using h)
  exact this
theorem FSt.perm {asv : List Nat} {rows : List Row} {fls : List Nat} {a0 : Act} {mask D : Nat} {wait wait' : List Row} {pend : List FlI} {l : Env} {fl : FEnv} {C : CEnv} {w : World} {a : Act} (hp : wait.Perm wait') (hst : FSt ds P N ops asv rows fls a0 mask D wait pend l fl C w a) : FSt ds P N ops asv rows fls a0 mask D wait' pend l fl C w a :=
  { env := hst.env, flo := hst.flo, cells := hst.cells, pin := hst.pin, free := hst.free, nod := hst.nod, pm := hst.pm, sub := hst.sub, dn := hst.dn
    wt := fun y hy => hst.wt y (hp.mem_iff.2 hy)
    wnd := (hp.map _).nodup_iff.1 hst.wnd
    all := fun i h1 h2 h3 => (hst.all i h1 h2 h3).imp id fun ⟨y, hy, he⟩ => ⟨y, hp.mem_iff.1 hy, he⟩
    off := hst.off }
theorem PIn.mono {rows : List Row} {fls : List Nat} {mask mask' : Nat} {a : Act} {p : FlI} (h : PIn P rows fls mask a p) (hm : ∀ x : Row, isOn mask x = true → isOn mask' x = true) : PIn P rows fls mask' a p := by
 obtain ⟨x, h1, h2, h3, h4, h5, h6⟩ := h
 exact ⟨x, h1, h2, h3, h4, hm x h5, h6⟩
theorem isOn_or {mask m : Nat} {x : Row} (h : isOn mask x = true) : isOn (mask ||| m) x = true := by
 unfold isOn at h ⊢
 have := Nat.eq_of_beq_eq_true h
 rw [← Nat.or_assoc, this]
 simp
theorem FSt.next (hs : Region.noSelect ops = true) {asv : List Nat} (has0 : asv = ancL ops.toList []) {rows : List Row} (hrows : rows = rowsOf P 0 ops.toList asv) {fls : List Nat} (hfo : floatsOk ops rows fls = true) {a0 : Act} {mask D : Nat} {wait : List Row} {pend : List FlI}
  {l l' : Env} {fl fl' : FEnv} {C C' : CEnv} {w w' : World} {a : Act} {i : Nat} {x : Row} {v : Value} (hst : FSt ds P N ops asv rows fls a0 mask D wait pend l fl C w a) (hri : rows[i]? = some x) (hnf : has fls i = false) (hD : x.anc ||| D = D) (hmi : mask.testBit i = false)
  (hC : ∀ x ∈ C', holdAt w' x.2 ∧ (loadsOf P rows).testBit x.1 = true) (henv : EnvOk ds N (a.put x.o.dst v) l') (hflo : FlOk (a.put x.o.dst v) fl') (hk : Kept ops x.o l fl l' fl') :
  FSt ds P N ops asv rows fls a0 (mask ||| 2 ^ i) (D ||| 2 ^ i) wait pend l' fl' C' w' (a.put x.o.dst v) := by
 have hops : ∀ (i : Nat) (x : Row), rows[i]? = some x → ops[i]? = some x.o := fun i x hx => (row_fact hrows hx).2.1
 have hx := row_fact hrows hri
 have hne : ∀ p ∈ pend, i ≠ p.idx := by
  intro p hp e
  obtain ⟨y, h1, h2, h3, h4, _⟩ := hst.pin p hp
  rw [← e, hnf] at h4; cases h4
 have hdst : ∀ p ∈ pend, x.o.dst ≠ some p.dst := by
  intro p hp e
  obtain ⟨y, h1, h2, h3, h4, _⟩ := hst.pin p hp
  exact ((floats_spec hfo h4 h1).2.2 x (List.mem_of_getElem? hri) (by rw [hx.1]; exact hne p hp)).1 _ _ h2 e rfl
 have hkeep : ∀ p ∈ pend, gt l' p.dst = gt l p.dst ∧ (flFree fl p.dst = true → flFree fl' p.dst = true) := by
  intro p hp
  refine hk p.dst (hdst p hp) fun j want hg he => ?_
  obtain ⟨y, h1, h2, h3, h4, _⟩ := hst.pin p hp
  exact ((floats_spec hfo h4 h1).2.2 x (List.mem_of_getElem? hri) (by rw [hx.1]; exact hne p hp)).2.2 j want _ hg h2 he
 refine { env := henv, flo := hflo, cells := hC, pin := ?_, free := ?_, nod := hst.nod, pm := ?_, sub := ?_, dn := ?_, wt := ?_, wnd := hst.wnd, all := ?_, off := ?_ }
 ·intro p hp
  refine PIn.mono (PIn.put hs (hst.pin p hp) hops (hdst p hp) ?_) (fun x => isOn_or)
  intro y hy d hd
  obtain ⟨y', h1, h2, h3, h4, h5, _⟩ := hst.pin p hp
  obtain rfl := Option.some.inj (h1.symm.trans hy)
  rcases ((floats_spec hfo h4 h1).2.2 x (List.mem_of_getElem? hri) (by rw [hx.1]; exact hne p hp)).2.1 with h | h
  ·rw [hx.1] at h
   have := sub_bits (Nat.eq_of_beq_eq_true h5) h
   rw [hmi] at this; cases this
  ·exact h d hd
 ·intro p hp
  obtain ⟨g1, g2, g3⟩ := hst.free p hp
  obtain ⟨k1, k2⟩ := hkeep p hp
  exact ⟨fun v => by rw [k1]; exact g1 v, k2 g2, g3⟩
 ·intro p hp
  rw [Nat.testBit_or, hst.pm p hp, Nat.testBit_two_pow]
  simp [hne p hp]
 ·intro j
  rw [Nat.testBit_or, Nat.testBit_or, Bool.or_eq_true, Bool.or_eq_true, hst.sub j]
  constructor
  ·rintro ((h | h) | h)
   ·exact .inl (.inl h)
   ·exact .inr h
   ·exact .inl (.inr h)
  ·rintro ((h | h) | h)
   ·exact .inl (.inl h)
   ·exact .inr h
   ·exact .inl (.inr h)
 ·intro j hj
  rw [Nat.testBit_or, Bool.or_eq_true, Nat.testBit_two_pow, decide_eq_true_eq] at hj
  rcases hj with hj | rfl
  ·obtain ⟨g1, g2⟩ := hst.dn j hj
   exact ⟨g1, by rw [← Nat.or_assoc, g2]⟩
  ·refine ⟨(Array.getElem?_eq_some_iff.1 hx.2.1).1, ?_⟩
   have : asv.getD i 0 = x.anc := by simp [hx.2.2]
   rw [this, ← Nat.or_assoc, hD]
 ·intro y hy
  obtain ⟨g1, g2, g3, g4⟩ := hst.wt y hy
  refine ⟨g1, g2, ?_, g4⟩
  rw [Nat.testBit_or, g3, Nat.testBit_two_pow]
  have : i ≠ y.idx := by rintro rfl; rw [g2] at hnf; cases hnf
  simp [this]
 ·intro j h1 h2 h3
  rw [Nat.testBit_or, Bool.or_eq_false_iff] at h2
  exact hst.all j h1 h2.1 h3
 ·exact hst.off.trans (off_one (by
   obtain ⟨hh, he⟩ := Array.getElem?_eq_some_iff.1 hx.2.1
   rw [← he]; simp))
theorem FSt.settle {asv : List Nat} {rows : List Row} (hrows : rows = rowsOf P 0 ops.toList asv) {fls : List Nat} (hfo : floatsOk ops rows fls = true) {a0 : Act} {mask D : Nat} {wait : List Row} {pend : List FlI} {l : Env} {fl : FEnv} {C : CEnv} {w : World} {a : Act} (hst : FSt ds P N ops asv rows fls a0 mask D wait pend l fl C w a) {p : FlI} (hp : p ∈ pend) {ad : Addr} (hy : p.y = some ad) :
  FSt ds P N ops asv rows fls a0 (mask ||| 2 ^ p.idx) D wait (pend.filter fun q => !Nat.beq q.idx p.idx) ((p.dst, some (p.val ad)) :: l) fl C w a := by
 obtain ⟨x, h1, h2, h3, h4, h5, h6, h7⟩ := hst.pin p hp
 have hmem : ∀ q, q ∈ pend.filter (fun q => !Nat.beq q.idx p.idx) ↔ q ∈ pend ∧ q.idx ≠ p.idx := by
  intro q
  rw [List.mem_filter]
  constructor
  ·rintro ⟨g1, g2⟩
   refine ⟨g1, fun e => ?_⟩
   rw [e] at g2
   simp at g2
  ·rintro ⟨g1, g2⟩
   refine ⟨g1, ?_⟩
   cases hb : Nat.beq q.idx p.idx with
   | false => rfl
   | true => exact absurd (Nat.eq_of_beq_eq_true hb) g2
 have uniq : ∀ q ∈ pend, q.idx = p.idx → q = p := by
  intro q hq he
  obtain ⟨j, hj⟩ := List.getElem?_of_mem hq
  obtain ⟨k, hk⟩ := List.getElem?_of_mem hp
  by_cases e : j = k
  ·subst e; exact Option.some.inj (hj.symm.trans hk)
  ·exact absurd he (nod_ne hst.nod hj hk e)
 refine { env := ?_, flo := hst.flo, cells := hst.cells, pin := ?_, free := ?_, nod := ?_, pm := ?_, sub := ?_, dn := hst.dn, wt := ?_, wnd := hst.wnd, all := ?_, off := hst.off }
 ·refine ⟨hst.env.size, hst.env.defers, fun t u hu => ?_⟩
  simp only [gt] at hu
  cases hb : Nat.beq p.dst t with
  | true =>
   rw [hb] at hu
   simp only [cond_true, Option.some.injEq] at hu
   subst hu
   rw [← Nat.eq_of_beq_eq_true hb]
   exact h7 ad hy
  | false => rw [hb] at hu; exact hst.env.at' t u hu
 ·intro q hq
  exact (hst.pin q ((hmem q).1 hq).1).mono (fun x => isOn_or)
 ·intro q hq
  obtain ⟨g1, g2⟩ := (hmem q).1 hq
  obtain ⟨k1, k2, k3⟩ := hst.free q g1
  refine ⟨fun v => ?_, k2, k3⟩
  rw [gt_cons]
  ·exact k1 v
  ·-- other blocks have other places
   intro e
   obtain ⟨y, q1, q2, q3, q4, _⟩ := hst.pin q g1
   have hx := row_fact hrows h1
   exact ((floats_spec hfo q4 q1).2.2 x (List.mem_of_getElem? h1) (by rw [hx.1]; exact fun e => g2 e.symm)).1 _ _ q2 h2 e.symm
 ·exact (List.filter_sublist.map _).nodup hst.nod
 ·intro q hq
  obtain ⟨g1, g2⟩ := (hmem q).1 hq
  rw [Nat.testBit_or, hst.pm q g1, Nat.testBit_two_pow]
  have : ¬ p.idx = q.idx := fun e => g2 e.symm
  simp [this]
 ·intro j
  rw [hst.sub j, Nat.testBit_or, Bool.or_eq_true, Nat.testBit_two_pow, decide_eq_true_eq]
  constructor
  ·rintro (h | ⟨q, hq, g1, g2⟩)
   ·exact .inl (.inl h)
   ·by_cases e : q.idx = p.idx
    ·exact .inl (.inr (by rw [← e]; exact g1))
    ·exact .inr ⟨q, (hmem q).2 ⟨hq, e⟩, g1, g2⟩
  ·rintro ((h | h) | ⟨q, hq, g1, g2⟩)
   ·exact .inl h
   ·exact .inr ⟨p, hp, h, by rw [hy]; simp⟩
   ·exact .inr ⟨q, ((hmem q).1 hq).1, g1, g2⟩
 ·intro y hyw
  obtain ⟨g1, g2, g3, g4⟩ := hst.wt y hyw
  refine ⟨g1, g2, ?_, fun q hq => g4 q ((hmem q).1 hq).1⟩
  rw [Nat.testBit_or, g3, Nat.testBit_two_pow]
  have : ¬ p.idx = y.idx := g4 p hp
  simp [this]
 ·intro i g1 g2 g3
  rw [Nat.testBit_or, Bool.or_eq_false_iff, Nat.testBit_two_pow, decide_eq_false_iff_not] at g2
  rcases hst.all i g1 g2.1 g3 with ⟨q, hq, he⟩ | h
  ·exact .inl ⟨q, (hmem q).2 ⟨hq, fun e => g2.2 (e ▸ he)⟩, he⟩
  ·exact .inr h
theorem FlS_cons {p : FlI} {ps : List FlI} {w : World} {K : List FlI → World → Prop} (h : FlS ((p :: ps).map fun p => (p.obj, p.y)) w (curry _ fun cs w1 => K (upd (p :: ps) cs) w1)) :
  FlN ((p :: ps).map (·.obj)) (fun ys w => ys.length = (p :: ps).length → K (upd (p :: ps) (ys.map Value.pointer)) w) (p :: ps).length ((p :: ps).map (·.y)) w := by
 unfold FlS at h
 simp only [List.map_map, List.length_map] at h
 have e1 : (((fun x : Obj × Option Addr => x.fst) ∘ fun p : FlI => (p.obj, p.y)) : FlI → Obj) = (fun p => p.obj) := rfl
 have e2 : (((fun x : Obj × Option Addr => x.snd) ∘ fun p : FlI => (p.obj, p.y)) : FlI → Option Addr) = (fun p => p.y) := rfl
 have mono : ∀ (objs : List Obj) (K K' : List (Option Addr) → World → Prop), (∀ ys w, K ys w → K' ys w) → ∀ (n : Nat) (ys : List (Option Addr)) (w : World), FlN objs K n ys w → FlN objs K' n ys w := by
  intro objs K K' hKK n
  induction n with
  | zero => exact fun ys w h => hKK _ _ h
  | succ n ih => exact fun ys w h => ⟨hKK _ _ h.1, fun i o ho hy => ih _ _ (h.2 i o ho hy)⟩
 refine mono _ _ _ ?_ _ _ _ h
 intro ys w hv hl
 have := viewL_curry (f := fun r : World → Prop => r w) ((p :: ps).map fun p => (p.obj, p.y)) ys (fun cs w1 => K (upd (p :: ps) cs) w1) (by simpa using hl)
 rw [this] at hv
 exact hv
theorem upd_self : ∀ (ps : List FlI), upd ps ((ps.map (·.y)).map Value.pointer) = ps
 | [] => rfl
 | p :: ps => by
  simp only [List.map_cons, upd]
  rw [upd_self ps]
theorem ready_cases (asv : List Nat) (has0 : asv = ancL ops.toList []) {rows : List Row} (hrows : rows = rowsOf P 0 ops.toList asv) {D i : Nat} (hi : i ∈ Region.ready .any ops (bitsA ops.size D)) (hdn : ∀ j, D.testBit j = true → j < ops.size ∧ asv.getD j 0 ||| D = D) :
  ∃ y, rows[i]? = some y ∧ y.idx = i ∧ D.testBit i = false ∧ y.anc ||| D = D := by
 obtain ⟨h1, oi, h2, h3⟩ := mem_ready.1 hi
 have hlt := (Array.getElem?_eq_some_iff.1 h2).1
 rw [bitsA_getD, if_pos hlt] at h1
 have hjr : i < rows.length := by
  rw [hrows, rowsOf_length P _ _ _ (by rw [has0, ancL_len])]; simpa using hlt
 obtain ⟨y, hy⟩ : ∃ y, rows[i]? = some y := ⟨_, List.getElem?_eq_getElem hjr⟩
 have hyf := row_fact hrows hy
 refine ⟨y, hy, hyf.1, h1, ?_⟩
 have ho : oi = y.o := Option.some.inj (h2.symm.trans hyf.2.1)
 have hanc : asv[i]? = some (maskOf (asv.take i) oi.after.toList) := by
  have := ancL_get ops.toList [] i oi (by simpa using h2)
  rw [has0]
  simpa using this
 have he : y.anc = maskOf (asv.take i) oi.after.toList := Option.some.inj (hyf.2.2.symm.trans hanc)
 apply Nat.eq_of_testBit_eq
 intro k
 rw [Nat.testBit_or]
 cases hk : y.anc.testBit k with
 | false => simp
 | true =>
  rw [he] at hk
  rcases maskOf_bit _ _ hk with h5 | ⟨e, hem, hbe, h5⟩
  ·simp at h5
  ·have h6 := h3 e (by simpa using hem) hbe
   rw [bitsA_getD] at h6
   have helt : D.testBit e.on = true := by
    split at h6
    ·exact h6
    ·cases h6
   rcases h5 with h5 | h5
   ·rw [← h5, helt]; rfl
   ·have h7 : (asv.take i).getD e.on 0 = asv.getD e.on 0 ∨ (asv.take i).getD e.on 0 = 0 := by
     simp only [List.getD_eq_getElem?_getD, List.getElem?_take]
     split
     ·exact .inl rfl
     ·exact .inr rfl
    rcases h7 with h7 | h7
    ·rw [h7] at h5
     rw [sub_bits (hdn e.on helt).2 h5]; rfl
    ·rw [h7] at h5; simp at h5
theorem ready_of_anc (asv : List Nat) (has0 : asv = ancL ops.toList []) {rows : List Row} (hrows : rows = rowsOf P 0 ops.toList asv) {D i : Nat} {y : Row} (hy : rows[i]? = some y) (hD : y.anc ||| D = D) (h0 : D.testBit i = false) (hdn : ∀ j, D.testBit j = true → j < ops.size ∧ asv.getD j 0 ||| D = D) :
  i ∈ Region.ready .any ops (bitsA ops.size D) := by
 have hyf := row_fact hrows hy
 have hlt := (Array.getElem?_eq_some_iff.1 hyf.2.1).1
 refine mem_ready.2 ⟨by rw [bitsA_getD, if_pos hlt]; exact h0, y.o, hyf.2.1, fun e he hbe => ?_⟩
 have hanc : asv[i]? = some (maskOf (asv.take i) y.o.after.toList) := by
  have := ancL_get ops.toList [] i y.o (by simpa using hyf.2.1)
  rw [has0]
  simpa using this
 have he' : y.anc = maskOf (asv.take i) y.o.after.toList := Option.some.inj (hyf.2.2.symm.trans hanc)
 have h2 : y.anc.testBit e.on = true := by
  rw [he']
  exact maskOf_has hbe _ _ (.inl (by simpa using he))
 have h3 := sub_bits hD h2
 rw [bitsA_getD, if_pos (hdn _ h3).1]
 exact h3
theorem has_mem {is : List Nat} {j : Nat} (h : has is j = true) : j ∈ is := by
 obtain ⟨k, hk, he⟩ := List.any_eq_true.1 h
 rw [← Nat.eq_of_beq_eq_true he]; exact hk
theorem mem_has {is : List Nat} {j : Nat} (h : j ∈ is) : has is j = true := List.any_eq_true.2 ⟨j, h, by simp⟩
theorem bitsOf_bit {is : List Nat} {j : Nat} (h : j ∈ is) : (bitsOf is).testBit j = true := by
 have key : ∀ (is : List Nat) (s : Nat), (s.testBit j = true ∨ j ∈ is) → (is.foldl (fun s i => s ||| 2 ^ i) s).testBit j = true := by
  intro is
  induction is with
  | nil => intro s h; simpa using h
  | cons i is ih =>
   intro s h
   refine ih _ ?_
   rcases h with h | h
   ·exact .inl (by rw [Nat.testBit_or, h]; rfl)
   ·rcases List.mem_cons.1 h with rfl | h
    ·exact .inl (by rw [Nat.testBit_or, Nat.testBit_two_pow_self]; simp)
    ·exact .inr h
 exact key is 0 (.inr h)
theorem anc_up {x : Row} {mask D : Nat} (h : isOn mask x = true) (hs : ∀ j, mask.testBit j = true → D.testBit j = true) : x.anc ||| D = D := by
 have h1 := Nat.eq_of_beq_eq_true h
 apply Nat.eq_of_testBit_eq
 intro k
 rw [Nat.testBit_or]
 cases hk : x.anc.testBit k with
 | false => simp
 | true => rw [hs k (sub_bits h1 hk)]; rfl
theorem on_of {x : Row} {on D : Nat} (h : x.anc ||| D = D) (hs : ∀ j, D.testBit j = true → on.testBit j = true) : isOn on x = true := by
 unfold isOn
 have : x.anc ||| on = on := by
  apply Nat.eq_of_testBit_eq
  intro k
  rw [Nat.testBit_or]
  cases hk : x.anc.testBit k with
  | false => simp
  | true => rw [hs k (sub_bits h hk)]; rfl
 rw [this]; simp
theorem mem_pendAt {rows : List Row} {fls : List Nat} {mask j : Nat} (h : has (pendAt rows fls mask) j = true) : has fls j = true ∧ mask.testBit j = false ∧ ∃ y, rows[j]? = some y ∧ isOn mask y = true := by
 have h1 := has_mem h
 unfold pendAt at h1
 rw [List.mem_filter] at h1
 obtain ⟨h2, h3⟩ := h1
 simp only [Bool.and_eq_true, Bool.not_eq_true'] at h3
 refine ⟨mem_has h2, h3.1, ?_⟩
 cases hy : rows[j]? with
 | none => rw [hy] at h3; exact absurd h3.2 (by simp)
 | some y => rw [hy] at h3; exact ⟨y, rfl, h3.2⟩
theorem pendAt_mem {rows : List Row} {fls : List Nat} {mask j : Nat} {y : Row} (h1 : has fls j = true) (h2 : mask.testBit j = false) (h3 : rows[j]? = some y) (h4 : isOn mask y = true) : j ∈ pendAt rows fls mask := by
 unfold pendAt
 rw [List.mem_filter]
 refine ⟨has_mem h1, ?_⟩
 simp [h2, h3, h4]
theorem filter_perm {α : Type} (p : α → Bool) : ∀ l : List α, l.Perm (l.filter p ++ l.filter fun y => !p y)
 | [] => List.Perm.refl _
 | x :: l => by
  have ih := filter_perm p l
  cases h : p x with
  | true => simp only [List.filter_cons, h, if_true, Bool.not_true, Bool.false_eq_true, if_false, List.cons_append]; exact ih.cons x
  | false => simp only [List.filter_cons, h, if_true, Bool.not_false, Bool.false_eq_true, if_false]; exact (ih.cons x).trans List.perm_middle.symm
theorem rem_pos {n D i : Nat} {m : Nat} (hi : i < n) (h : D.testBit i = false) (hm : remOf n D ≤ m) : ∃ m', m = m' + 1 ∧ remOf n (D ||| 2 ^ i) ≤ m' := by
 have := rem_set hi h
 exact ⟨m - 1, by omega, by omega⟩
theorem dFl_ok {split : Bool} (hP : OkP P) (hs : Region.noSelect ops = true) {Q : Exit → Act → World → Prop} (hQ : ∀ c a w (o : Oper) v, o ∈ ops.toList → Q (.panic c) (a.put o.dst v) w → Q (.panic c) a w) (asv : List Nat) (has0 : asv = ancL ops.toList []) (rows : List Row) (hrows : rows = rowsOf P 0 ops.toList asv) (fls : List Nat) (hfo : floatsOk ops rows fls = true) {a0 : Act} {K : Env → World → Prop}
  (hK : ∀ a' l' w', Off (dstsOf ops.toList) a0 a' → EnvOk ds N a' l' → K l' w' → Q .normal a' w') (hE : ∀ ch a' w', Off (dstsOf ops.toList) a0 a' → EnvOk ds N a' [] → N.E ch w' → Q (.panic ch) a' w') :
  ∀ (its : List Itm) (mask : Nat) (wait : List Row) (pend : List FlI) (l : Env) (fl : FEnv) (C : CEnv) (w : World) (D : Nat) (a : Act) (m : Nat), flCheck P ops rows fls its mask = true → FSt ds P N ops asv rows fls a0 mask D wait pend l fl C w a →
   dFl P N ops split rows its mask wait pend l fl C w K → remOf ops.size D ≤ m → wpAnyE P .any ops asv Q C m (bitsA ops.size D) a w
 | [], mask, wait, pend, l, fl, C, w, D, a, m, hc, hst, h, hm => by
  simp only [flCheck] at hc
  simp only [dFl] at h
  split at h
  ·have hr : Region.ready .any ops (bitsA ops.size D) = [] := by
    refine List.eq_nil_iff_forall_not_mem.2 fun j hj => ?_
    obtain ⟨h1, oj, h2, _⟩ := mem_ready.1 hj
    have hlt := (Array.getElem?_eq_some_iff.1 h2).1
    rw [bitsA_getD, if_pos hlt] at h1
    have := List.all_eq_true.1 hc j (List.mem_range.2 hlt)
    rw [(hst.sub j).2 (.inl this)] at h1; cases h1
   cases m with
   | zero => exact ⟨hr, hK a l w hst.off hst.env h⟩
   | succ n => exact ⟨fun _ => hK a l w hst.off hst.env h, fun i hi => by rw [hr] at hi; cases hi⟩
  ·exact h.elim
 | .ro i :: r, mask, wait, pend, l, fl, C, w, D, a, m, hc, hst, h, hm => by
  have ih := dFl_ok hP hs hQ asv has0 rows hrows fls hfo hK hE r (split := split)
  simp only [flCheck] at hc
  simp only [dFl] at h
  cases hri : rows[i]? with
  | none => rw [hri] at h; exact h.elim
  | some x =>
   rw [hri] at h hc
   simp only [Bool.and_eq_true, Bool.not_eq_true'] at h hc
   obtain ⟨⟨⟨⟨c1, c2⟩, c3⟩, c4⟩, c5⟩ := hc
   have hx := row_fact hrows hri
   have hlt : i < ops.size := (Array.getElem?_eq_some_iff.1 hx.2.1).1
   have hnf : has fls i = false := by
    cases hf : has fls i with
    | false => rfl
    | true => have := (floats_spec hfo hf hri).2.1; rw [c1] at this; cases this
   have hDi : D.testBit i = false := by
    cases hd : D.testBit i with
    | false => rfl
    | true =>
     rcases (hst.sub i).1 hd with h1 | ⟨p, hp, h1, _⟩
     ·rw [c3] at h1; cases h1
     ·obtain ⟨y, _, _, _, h4, _⟩ := hst.pin p hp
      rw [h1, hnf] at h4; cases h4
   have hanc := anc_up c2 (fun j hj => (hst.sub j).2 (.inl hj))
   obtain ⟨m', rfl, hm'⟩ := rem_pos hlt hDi hm
   have hstep := step_of hP hst.env hst.flo (dStep_keep h)
   refine (row_step (m := m') hP hs hQ asv has0 rows hrows hri hst.dn hanc (by rw [hx.1]; exact hDi) (rest rows mask i) ?_ hst.cells hstep (fun ch w' hc => hE ch _ w' hst.off hst.env.bare hc) ?_).1 c1 c4
   ·intro y hy hun hne
    simp only [rest, List.mem_filter, Bool.and_eq_true, Bool.not_eq_true']
    refine ⟨hy, ?_, ?_⟩
    ·cases hb : mask.testBit y.idx with
     | false => rfl
     | true => rw [(hst.sub _).2 (.inl hb)] at hun; cases hun
    ·cases hb : Nat.beq y.idx i with
     | false => rfl
     | true => exact absurd ((Nat.eq_of_beq_eq_true hb).trans hx.1.symm) hne
   ·intro v l' fl' C' w' hC' he hf ⟨hG, hk⟩
    rw [hx.1]
    refine ih _ _ _ _ _ _ _ _ _ _ c5 (hst.next hs has0 hrows hfo hri hnf hanc c3 hC' he hf hk) hG hm'
 | .eff i :: r, mask, wait, pend, l, fl, C, w, D, a, m, hc, hst, h, hm => by
  have ih := dFl_ok hP hs hQ asv has0 rows hrows fls hfo hK hE r (split := split)
  simp only [flCheck] at hc
  simp only [dFl] at h
  cases hri : rows[i]? with
  | none => rw [hri] at h; exact h.elim
  | some x =>
   rw [hri] at h hc
   simp only [Bool.and_eq_true, Bool.not_eq_true'] at h hc
   obtain ⟨⟨⟨⟨⟨⟨c1, c2⟩, c3⟩, c4⟩, c5⟩, c6⟩, c7⟩ := hc
   have hx := row_fact hrows hri
   have hlt : i < ops.size := (Array.getElem?_eq_some_iff.1 hx.2.1).1
   unfold gap at h
   obtain ⟨l1, more, h1, hst1, hcov⟩ := act_ok (wait.filter (isOn mask)) (wait.filter fun y => !isOn mask y) pend l (fun y hy => (List.mem_filter.1 hy).2) (hst.perm (filter_perm _ _)) h
   generalize pend ++ more = pend1 at h1 hst1 hcov
   generalize hoff : (wait.filter fun y => !isOn mask y) = off at h1 hst1
   -- who is pending
   have hpm : ∀ j, has (pendAt rows fls mask) j = true → ∃ p ∈ pend1, p.idx = j := by
    intro j hj
    obtain ⟨g1, g2, y, g3, g4⟩ := mem_pendAt hj
    rcases hst1.all j g1 g2 (List.getElem?_eq_some_iff.1 g3).1 with h | ⟨y', hy', he⟩
    ·exact h
    ·have q := (hst1.wt y' hy').1
     rw [he, g3] at q
     obtain rfl := Option.some.inj q
     rw [← hoff, List.mem_filter, g4] at hy'
     exact absurd hy'.2 (by simp)
   have eff : ∀ (pend' : List FlI) (D : Nat) (w : World) (a : Act) (m' : Nat), FSt ds P N ops asv rows fls a0 mask D off pend' l1 fl C w a →
     dStep P N ops split (itOf x) l1 fl C w (fun l' fl' C' w' => dFl P N ops split rows r (mask ||| 2 ^ i) off pend' l' fl' C' w' K) → remOf ops.size D ≤ m' + 1 →
     D.testBit i = false ∧ x.anc ||| D = D ∧ wpOp P ops Q x.idx (fun a' w' => Gd P ops asv C x.idx w w' ∧ wpAnyE P .any ops asv Q C m' ((bitsA ops.size D).setIfInBounds x.idx true) a' w') a w := by
    intro pend' D w a m' hst' hd hm'
    have hDi : D.testBit i = false := by
     cases hd : D.testBit i with
     | false => rfl
     | true =>
      rcases (hst'.sub i).1 hd with h1 | ⟨p, hp, h1, _⟩
      ·rw [c4] at h1; cases h1
      ·obtain ⟨y, _, _, _, h4, _⟩ := hst'.pin p hp
       rw [h1, c2] at h4; cases h4
    have hanc := anc_up c3 (fun j hj => (hst'.sub j).2 (.inl hj))
    have hrem := rem_set hlt hDi
    have hstep := step_of hP hst'.env hst'.flo (dStep_keep hd)
    refine ⟨hDi, hanc, (row_step (m := m') hP hs hQ asv has0 rows hrows hri hst'.dn hanc (by rw [hx.1]; exact hDi) (rest rows mask i) ?_ hst'.cells hstep (fun ch w' hc => hE ch _ w' hst'.off hst'.env.bare hc) ?_).2 c1 c5⟩
    ·intro y hy hun hne
     simp only [rest, List.mem_filter, Bool.and_eq_true, Bool.not_eq_true']
     refine ⟨hy, ?_, ?_⟩
     ·cases hb : mask.testBit y.idx with
      | false => rfl
      | true => rw [(hst'.sub _).2 (.inl hb)] at hun; cases hun
     ·cases hb : Nat.beq y.idx i with
      | false => rfl
      | true => exact absurd ((Nat.eq_of_beq_eq_true hb).trans hx.1.symm) hne
    ·intro v l' fl' C' w' hC' he hf ⟨hG, hk⟩
     rw [hx.1]
     exact ih _ _ _ _ _ _ _ _ _ _ c7 (hst'.next hs has0 hrows hfo hri c2 hanc c4 hC' he hf hk) hG (by omega)
   have cls : ∀ (pend' : List FlI) (D : Nat) (w : World) (a : Act), FSt ds P N ops asv rows fls a0 mask D off pend' l1 fl C w a → pend'.map (·.idx) = pend1.map (·.idx) → ∀ j ∈ Region.ready .any ops (bitsA ops.size D), (∃ p ∈ pend', p.idx = j ∧ p.y = none) ∨ j = i := by
    intro pend' D w a hst' hidx j hj
    obtain ⟨y, g1, g2, g3, g4⟩ := ready_cases asv has0 hrows hj hst'.dn
    have hon : isOn (mask ||| bitsOf (pendAt rows fls mask)) y = true := on_of g4 (fun k hk => by
     rw [Nat.testBit_or, Bool.or_eq_true]
     rcases (hst'.sub k).1 hk with h | ⟨p, hp, h, _⟩
     ·exact .inl h
     ·obtain ⟨z, q1, _, _, q4, q5, _⟩ := hst'.pin p hp
      exact .inr (bitsOf_bit (by rw [← h]; exact pendAt_mem q4 (hst'.pm p hp) q1 q5)))
    have := List.all_eq_true.1 c6 y (List.mem_of_getElem? g1)
    simp only [Bool.or_eq_true, Bool.not_eq_true', g2] at this
    rcases this with ((h | h) | h) | h
    ·rw [(hst'.sub j).2 (.inl h)] at g3; cases g3
    ·obtain ⟨p, hp, he⟩ := hpm j h
     have hm1 : j ∈ pend'.map (·.idx) := by rw [hidx]; exact List.mem_map.2 ⟨p, hp, he⟩
     obtain ⟨p', hp', he'⟩ := List.mem_map.1 hm1
     refine .inl ⟨p', hp', he', ?_⟩
     cases hy : p'.y with
     | none => rfl
     | some ad => rw [(hst'.sub j).2 (.inr ⟨p', hp', he', by rw [hy]; simp⟩)] at g3; cases g3
    ·exact .inr (Nat.eq_of_beq_eq_true h).symm
    ·rw [hon] at h; cases h
   cases pend1 with
   | nil =>
    simp only at h1
    have hm1 : ∃ m', m = m' + 1 := by
     have hDi : D.testBit i = false := by
      cases hd : D.testBit i with
      | false => rfl
      | true =>
       rcases (hst1.sub i).1 hd with h1 | ⟨p, hp, h1, _⟩
       ·rw [c4] at h1; cases h1
       ·cases hp
     obtain ⟨m', h1, _⟩ := rem_pos hlt hDi hm
     exact ⟨m', h1⟩
    obtain ⟨m', rfl⟩ := hm1
    obtain ⟨hDi, hanc, hw⟩ := eff [] D w a m' hst1 h1 hm
    refine ⟨fun hr => ?_, fun j hj => ?_⟩
    ·have := ready_of_anc asv has0 hrows hri hanc hDi hst1.dn
     rw [hr] at this; cases this
    ·rcases cls [] D w a hst1 rfl j hj with ⟨p, hp, _⟩ | rfl
     ·cases hp
     ·rw [hx.1] at hw; exact hw
   | cons p ps =>
    simp only at h1
    have hF := FlS_cons (K := fun pend1 w1 => dStep P N ops split (itOf x) l1 fl C w1 fun l' fl' C' w' => dFl P N ops split rows r (mask ||| 2 ^ i) off pend1 l' fl' C' w' K) h1
    refine gap_ok hs has0 hrows hfo (base := p :: ps) (fun x hx D hD => anc_up hx hD) ?_ (p :: ps).length (p :: ps) D w a m hF rfl (upd_self _) rfl (List.length_filter_le _ _) hst1 hm
    intro pend' D w a m hu hidx hKK hst' hm'
    have hlen : (pend'.map (·.y)).length = (p :: ps).length := by
     have := congrArg List.length hidx
     simpa using this
    have hd := hKK hlen
    rw [hu] at hd
    have hDi : D.testBit i = false := by
     cases hd : D.testBit i with
     | false => rfl
     | true =>
      rcases (hst'.sub i).1 hd with h1 | ⟨p, hp, h1, _⟩
      ·rw [c4] at h1; cases h1
      ·obtain ⟨y, _, _, _, h4, _⟩ := hst'.pin p hp
       rw [h1, c2] at h4; cases h4
    have hanc := anc_up c3 (fun j hj => (hst'.sub j).2 (.inl hj))
    refine .inr ⟨⟨i, ready_of_anc asv has0 hrows hri hanc hDi hst'.dn⟩, fun j hj => ?_⟩
    rcases cls pend' D w a hst' hidx j hj with h | rfl
    ·exact .inl h
    ·refine .inr fun m' hmm => ?_
     obtain ⟨_, _, hw⟩ := eff pend' D w a m' hst' hd (by omega)
     rw [hx.1] at hw; exact hw
 | .settle i :: r, mask, wait, pend, l, fl, C, w, D, a, m, hc, hst, h, hm => by
  have ih := dFl_ok hP hs hQ asv has0 rows hrows fls hfo hK hE r (split := split)
  simp only [flCheck, Bool.and_eq_true] at hc
  simp only [dFl] at h
  obtain ⟨⟨c1, c6⟩, c7⟩ := hc
  unfold gap at h
  obtain ⟨l1, more, h1, hst1, hcov⟩ := act_ok (wait.filter (isOn mask)) (wait.filter fun y => !isOn mask y) pend l (fun y hy => (List.mem_filter.1 hy).2) (hst.perm (filter_perm _ _)) h
  generalize pend ++ more = pend1 at h1 hst1 hcov
  generalize hoff : (wait.filter fun y => !isOn mask y) = off at h1 hst1
  have hpm : ∀ j, has (pendAt rows fls mask) j = true → ∃ p ∈ pend1, p.idx = j := by
   intro j hj
   obtain ⟨g1, g2, y, g3, g4⟩ := mem_pendAt hj
   rcases hst1.all j g1 g2 (List.getElem?_eq_some_iff.1 g3).1 with h | ⟨y', hy', he⟩
   ·exact h
   ·have q := (hst1.wt y' hy').1
    rw [he, g3] at q
    obtain rfl := Option.some.inj q
    rw [← hoff, List.mem_filter, g4] at hy'
    exact absurd hy'.2 (by simp)
  cases pend1 with
  | nil => simp only [List.find?_nil] at h1
  | cons p ps =>
   simp only at h1
   have hF := FlS_cons (K := fun pend1 w1 => match pend1.find? fun p => Nat.beq p.idx i with
    | some p => Need p.y fun ad => dFl P N ops split rows r (mask ||| 2 ^ i) off (pend1.filter fun p => !Nat.beq p.idx i) ((p.dst, some (p.val ad)) :: l1) fl C w1 K
    | none => False) h1
   refine gap_ok hs has0 hrows hfo (base := p :: ps) (fun x hx D hD => anc_up hx hD) ?_ (p :: ps).length (p :: ps) D w a m hF rfl (upd_self _) rfl (List.length_filter_le _ _) hst1 hm
   intro pend' D w a m hu hidx hKK hst' hm'
   have hlen : (pend'.map (·.y)).length = (p :: ps).length := by
    have := congrArg List.length hidx
    simpa using this
   have hd := hKK hlen
   rw [hu] at hd
   split at hd
   ·rename_i q hq
    have hqm : q ∈ pend' := List.mem_of_find?_eq_some hq
    have hqi : q.idx = i := Nat.eq_of_beq_eq_true (by have := List.find?_some hq; exact this)
    cases hy : q.y with
    | some ad =>
     left
     rw [hy] at hd
     have := hst'.settle hrows hfo hqm hy
     rw [hqi] at this
     exact ih _ _ _ _ _ _ _ _ _ _ c7 this hd hm'
    | none =>
     right
     have hDi : D.testBit i = false := by
      cases hdd : D.testBit i with
      | false => rfl
      | true =>
       rcases (hst'.sub i).1 hdd with h1 | ⟨p, hp, h1, h2⟩
       ·have := hst'.pm q hqm
        rw [hqi, h1] at this; cases this
       ·have : p = q := by
         obtain ⟨j, hj⟩ := List.getElem?_of_mem hp
         obtain ⟨k, hk⟩ := List.getElem?_of_mem hqm
         by_cases e : j = k
         ·subst e; exact Option.some.inj (hj.symm.trans hk)
         ·exact absurd (h1.trans hqi.symm) (nod_ne hst'.nod hj hk e)
        rw [this, hy] at h2
        exact absurd rfl h2
     obtain ⟨z, q1, _, _, q4, q5, _⟩ := hst'.pin q hqm
     rw [hqi] at q1
     have hanc := anc_up q5 (fun j hj => (hst'.sub j).2 (.inl hj))
     refine ⟨⟨i, ready_of_anc asv has0 hrows q1 hanc hDi hst'.dn⟩, fun j hj => ?_⟩
     obtain ⟨y, g1, g2, g3, g4⟩ := ready_cases asv has0 hrows hj hst'.dn
     have hon : isOn (mask ||| bitsOf ((pendAt rows fls mask).filter fun j => !Nat.beq j i)) y = true := on_of g4 (fun k hk => by
      rw [Nat.testBit_or, Bool.or_eq_true]
      rcases (hst'.sub k).1 hk with h | ⟨p, hp, h, _⟩
      ·exact .inl h
      ·obtain ⟨z, q1, _, _, q4, q5, _⟩ := hst'.pin p hp
       refine .inr (bitsOf_bit (List.mem_filter.2 ⟨by rw [← h]; exact pendAt_mem q4 (hst'.pm p hp) q1 q5, ?_⟩))
       cases hb : Nat.beq k i with
       | false => rfl
       | true =>
        have := Nat.eq_of_beq_eq_true hb
        rw [this, hDi] at hk; cases hk)
     have := List.all_eq_true.1 c6 y (List.mem_of_getElem? g1)
     simp only [Bool.or_eq_true, Bool.not_eq_true', g2, Bool.or_false] at this
     rcases this with (h | h) | h
     ·rw [(hst'.sub j).2 (.inl h)] at g3; cases g3
     ·obtain ⟨p, hp, he⟩ := hpm j h
      have hm1 : j ∈ pend'.map (·.idx) := by rw [hidx]; exact List.mem_map.2 ⟨p, hp, he⟩
      obtain ⟨p', hp', he'⟩ := List.mem_map.1 hm1
      refine .inl ⟨p', hp', he', ?_⟩
      cases hy : p'.y with
      | none => rfl
      | some ad => rw [(hst'.sub j).2 (.inr ⟨p', hp', he', by rw [hy]; simp⟩)] at g3; cases g3
     ·rw [hon] at h; cases h
   ·exact hd.elim
def flsOf (rows : List Row) : List Nat := (rows.filter (isFloat rows)).map (·.idx)
def waitOf (rows : List Row) (fls : List Nat) : List Row := rows.filter fun y => has fls y.idx
def allRows (P : Program) (ops : Array Oper) : List Row := rowsOf P 0 ops.toList (ancL ops.toList [])
def flItems (P : Program) (ops : Array Oper) : List Itm := mkItems (allRows P ops) (flsOf (allRows P ops)) ops.size 0
def flOk (P : Program) (ops : Array Oper) : Bool :=
 Region.noSelect ops && floatsOk ops (allRows P ops) (flsOf (allRows P ops)) && flCheck P ops (allRows P ops) (flsOf (allRows P ops)) (flItems P ops) 0
theorem rem_le (n : Nat) : remOf n 0 ≤ n := by
 unfold remOf
 exact Nat.le_trans (List.length_filter_le _ _) (by simp)
theorem dFl_region {split : Bool} (hP : OkP P) (hc : flOk P ops = true) {Q : Exit → Act → World → Prop} (hQ : ∀ c a w (o : Oper) v, o ∈ ops.toList → Q (.panic c) (a.put o.dst v) w → Q (.panic c) a w) {a : Act} {l : Env} {w : World} {K : Env → World → Prop} (hl : EnvOk ds N a l)
  (hK : ∀ a' l' w', Off (dstsOf ops.toList) a a' → EnvOk ds N a' l' → K l' w' → Q .normal a' w') (hE : ∀ ch a' w', Off (dstsOf ops.toList) a a' → EnvOk ds N a' [] → N.E ch w' → Q (.panic ch) a' w')
  (h : dFl P N ops split (allRows P ops) (flItems P ops) 0 (waitOf (allRows P ops) (flsOf (allRows P ops))) [] l [] [] w K) :
  wpAnyE P .any ops (ancL ops.toList []) Q [] ops.size (bitsA ops.size 0) a w := by
 unfold flOk at hc
 simp only [Bool.and_eq_true] at hc
 obtain ⟨⟨h1, h2⟩, h3⟩ := hc
 refine dFl_ok hP h1 hQ _ rfl (allRows P ops) rfl (flsOf (allRows P ops)) h2 (a0 := a) hK hE (flItems P ops) 0 _ [] l [] [] w 0 a ops.size h3 ?_ h (rem_le _)
 have rowIdx : ∀ (i : Nat) (y : Row), (allRows P ops)[i]? = some y → y.idx = i := fun i y hy => (row_fact (P := P) (ops := ops) (rows := allRows P ops) rfl hy).1
 have memIdx : ∀ y ∈ allRows P ops, (allRows P ops)[y.idx]? = some y := by
  intro y hy
  obtain ⟨i, hi⟩ := List.getElem?_of_mem hy
  rw [rowIdx i y hi]; exact hi
 refine { env := hl, flo := (fun _ h => by cases h), cells := by simp, pin := by simp, free := by simp, nod := by simp, pm := by simp, sub := by simp, dn := by simp, wt := ?_, wnd := ?_, all := ?_, off := Off.refl _ _ }
 ·intro y hy
  unfold waitOf at hy
  rw [List.mem_filter] at hy
  exact ⟨memIdx y hy.1, hy.2, by simp, by simp⟩
 ·unfold waitOf
  refine (List.filter_sublist.map _).nodup ?_
  refine List.pairwise_map.2 (List.pairwise_iff_getElem.2 ?_)
  intro i j hi hj hij he
  rw [rowIdx i _ (List.getElem?_eq_getElem hi), rowIdx j _ (List.getElem?_eq_getElem hj)] at he
  omega
 ·intro i h1 _ h3
  refine .inr ⟨(allRows P ops)[i], ?_, rowIdx i _ (List.getElem?_eq_getElem h3)⟩
  unfold waitOf
  rw [List.mem_filter]
  refine ⟨List.getElem_mem _, ?_⟩
  rw [rowIdx i _ (List.getElem?_eq_getElem h3)]
  exact h1
end
end Go.Den
end

section
namespace Go.Den
variable {ds : List Deferred}
def pureOp (P : Program) (op : Op) : Bool :=
 match op with
 | .move _ | .pick _ _ _ | .unOp _ _ _ | .extract _ _ => true
 | .binOp o t _ y _ =>
  match o with
  | .quo | .rem | .shl | .shr => false
  | _ => match P.underlying t with
   | some (.int _) | some .bool => true
   | some .string => match o with
    | .add => false
    | _ => true
   | some (.pointer _) | some (.slice _) | some (.map _ _) => isConst y
   | _ => false
 | .call c => match c.callee, c.argTypes.toList with
  | .builtin .len, [t] => match P.underlying t with
   | some (.slice _) | some .string => true
   | _ => false
  | _, _ => false
 | .convert src dst _ => match P.underlying src, P.underlying dst with
  | some (.int _), some (.int _) => true
  | _, _ => false
 | _ => false
def splits (P : Program) (ops : Array Oper) : Bool := ops.toList.any fun o => o.guard.isSome && !pureOp P o.op
def dRegion (P : Program) (N : NX) (ops : Array Oper) (draw : Bool) (l : Env) (w : World) (K : Env → World → Prop) : Prop :=
 match draw with
 | false => dOps P N ops (splits P ops) (textIts 0 ops.toList) l [] [] w K
 | true => cond (mixOk P ops) (dOps P N ops (splits P ops) (drawIts P ops) l [] [] w.drew K)
   (cond (flOk P ops) (dFl P N ops (splits P ops) (allRows P ops) (flItems P ops) 0 (waitOf (allRows P ops) (flsOf (allRows P ops))) [] l [] [] w.drew K)
   (cond (treeOk P ops) (dTr P N ops (splits P ops) (trRows P ops) (trOf P ops) l [] [] w.drew K) False))
structure Hint where
 mods : List (Nat × Kd)
 keep : List Nat
structure Hints where
 loops : List (Nat × Hint)
 joins : List (Nat × Hint)
def findH : List (Nat × Hint) → Nat → Option Hint
 | [], _ => none
 | (k, h) :: r, n => cond (Nat.beq k n) (some h) (findH r n)
def firstReg : Code → Option Nat
 | .region id _ _ => some id
 | .seq a b => match firstReg a with
  | some r => some r
  | none => firstReg b
 | .cond _ a b => match firstReg a with
  | some r => some r
  | none => firstReg b
 | .block _ c => firstReg c
 | .loop c => firstReg c
 | .scope c => firstReg c
 | _ => none
def hintAt (hs : List (Nat × Hint)) (c : Code) : Option Hint :=
 match hs with
 | [] => none
 | h :: t => match firstReg c with
  | some r => findH (h :: t) r
  | none => none
def writes : Code → List Nat
 | .region _ ops _ => dstsOf ops.toList
 | .seq a b => writes a ++ writes b
 | .cond _ a b => writes a ++ writes b
 | .block _ c => writes c
 | .loop c => writes c
 | _ => []
def keepEnv (l : Env) : List Nat → Option Env
 | [] => some []
 | t :: r => match gt l t, keepEnv l r with
  | some (some v), some e => some ((t, some v) :: e)
  | _, _ => none
def getVals (l : Env) : List Nat → Option (List Value)
 | [] => some []
 | t :: r => match gt l t, getVals l r with
  | some (some v), some e => some (v :: e)
  | _, _ => none
def zipEnv : List (Nat × Kd) → List Value → Env
 | (t, _) :: r, v :: vs => (t, some v) :: zipEnv r vs
 | _, _ => []
def kept (c : Code) (ts : List Nat) : Bool := ts.all fun t => !((writes c).any (Nat.beq t))
def dCode (P : Program) (N : NX) (H : Hints) : Code → Env → (Exit → Env → World → Prop) → World → Prop
 | .skip, l, Q, w => Q .normal l w
 | .label _, l, Q, w => Q .normal l w
 | .region _ ops draw, l, Q, w => dRegion P ⟨N.n, N.pan, fun ch w' => Q (.panic ch) [] w'⟩ ops draw l w fun l' w' => Q .normal l' w'
 | .seq a b, l, Q, w =>
  match hintAt H.joins b with
  | none => dCode P N H a l (fun e l' w' => match e with
   | .normal => dCode P N H b l' Q w'
   | e => Q e l' w') w
  | some h => cond (kept a h.keep) (match keepEnv l h.keep with
   | none => False
   | some kl => ∃ J : Fn (h.mods.map (·.2)) (World → Prop),
     dCode P N H a l (fun e l' w' => match e with
      | .normal => match getVals l' (h.mods.map (·.1)) with
       | some vs => viewL (h.mods.map (·.2)) vs (fun r => r w') J
       | none => False
      | e => Q e l' w') w ∧
     allK (h.mods.map (·.2)) J fun vs r => ∀ w', r w' → dCode P N H b (zipEnv h.mods vs ++ kl) Q w') False
 | .cond c x y, l, Q, w =>
  match look l [] [] c with
  | some (.bool b) => if b = true then dCode P N H x l Q w else dCode P N H y l Q w
  | _ => False
 | .block id c, l, Q, w => dCode P N H c l (fun e l' w' => match e with
   | .exit id' => cond (Nat.beq id' id) (Q .normal l' w') (Q (.exit id') l' w')
   | e => Q e l' w') w
 | .loop c, l, Q, w =>
  match hintAt H.loops c with
  | none => False
  | some h => cond (kept c h.keep) (match keepEnv l h.keep, getVals l (h.mods.map (·.1)) with
   | some kl, some vs0 => ∃ Inv : Fn (h.mods.map (·.2)) (Nat → World → Prop),
     viewL (h.mods.map (·.2)) vs0 (fun r => ∃ n, r n w) Inv ∧
     allK (h.mods.map (·.2)) Inv fun vs r => ∀ n w', r n w' →
      dCode P N H c (zipEnv h.mods vs ++ kl) (fun e l' w'' => match e with
       | .normal => match getVals l' (h.mods.map (·.1)) with
        | some vs' => viewL (h.mods.map (·.2)) vs' (fun r' => ∃ n', n' < n ∧ r' n' w'') Inv
        | none => False
       | e => Q e l' w'') w'
   | _, _ => False) False
 | .exit id, l, Q, w => Q (.exit id) l w
 | .ret, l, Q, w => Q .ret l w
 | _, _, _, _ => False
def dResults (P : Program) (l : Env) (w : World) : List ResultVar → (List Value → Prop) → Prop
 | [], K => K []
 | .tmp t :: r, K => match gt l t with
  | some (some v) => dResults P l w r fun vs => K (v :: vs)
  | _ => False
 | .cell t ty :: r, K => match gt l t with
  | some (some (.pointer p)) => NN p fun a => dLoad P ty w a fun v => dResults P l w r fun vs => K (v :: vs)
  | _ => False
def initEnv : Nat → List Value → Env
 | _, [] => []
 | i, v :: vs => (i, some v) :: initEnv (i + 1) vs
def dFuncE (P : Program) (H : Hints) (pan : List FuncId) (fn : Func) (args : List Value) (K : Value → World → Prop) (E : List PanicEntry → World → Prop) (w : World) : Prop :=
 match fn.body with
 | none => False
 | some c => cond (Nat.ble args.length fn.ntmps) (dCode P ⟨fn.ntmps, pan, fun _ _ => False⟩ H c (initEnv 0 args) (fun e l w' => match e with
   | .normal => dResults P l w' fn.results.toList fun vs => K (mkRes vs) w'
   | .ret => dResults P l w' fn.results.toList fun vs => K (mkRes vs) w'
   | .panic ch => E ch w'
   | _ => False) w) False
def dFunc (P : Program) (H : Hints) (fn : Func) (args : List Value) (K : Value → World → Prop) (w : World) : Prop :=
 dFuncE P H [] fn args K (fun _ _ => False) w
section
variable {P : Program} {N : NX} {H : Hints}
theorem FlOk.nil {a : Act} : FlOk a [] := fun _ h => by cases h
theorem textIts_o : ∀ (i : Nat) (os : List Oper), (textIts i os).map (·.o) = os
 | _, [] => rfl
 | i, o :: r => by simp [textIts, textIts_o (i + 1) r]
def RegP (ds : List Deferred) (N : NX) (ops : Array Oper) (a : Act) (K : Env → World → Prop) : Exit → Act → World → Prop :=
 fun e a' w' => Off (dstsOf ops.toList) a a' ∧ ∃ l', EnvOk ds N a' l' ∧ ((e = .normal ∧ K l' w') ∨ ∃ ch, e = .panic ch ∧ l' = [] ∧ N.E ch w')
theorem RegP.inv {ops : Array Oper} {a0 : Act} {K : Env → World → Prop} : ∀ c (a : Act) w (o : Oper) v, o ∈ ops.toList → RegP ds N ops a0 K (.panic c) (a.put o.dst v) w → RegP ds N ops a0 K (.panic c) a w := by
 rintro c a w o v ho ⟨h1, l', h2, ⟨h, _⟩ | ⟨ch, h3, h4, h5⟩⟩
 ·cases h
 ·refine ⟨fun t ht => ?_, [], ⟨?_, ?_, fun t v h => by simp [gt] at h⟩, .inr ⟨ch, h3, rfl, h5⟩⟩
  ·rw [← h1 t ht]
   cases hd : o.dst with
   | none => rfl
   | some d =>
    rw [put_get, if_neg]
    intro e
    subst e
    exact ht (List.mem_filterMap.2 ⟨o, ho, hd⟩)
  ·rw [← h2.size]
   cases hd : o.dst <;> simp [Act.put]
  ·rw [← h2.defers]
   cases hd : o.dst <;> rfl
theorem RegP.pan {ops : Array Oper} {a0 : Act} {K : Env → World → Prop} : ∀ ch (a : Act) w, Off (dstsOf ops.toList) a0 a → EnvOk ds N a [] → N.E ch w → RegP ds N ops a0 K (.panic ch) a w :=
 fun ch a w h1 h2 h3 => ⟨h1, [], h2, .inr ⟨ch, rfl, rfl, h3⟩⟩
theorem EnvOk.cast {N N' : NX} {a : Act} {l : Env} (h : EnvOk ds N a l) (e : N.n = N'.n) : EnvOk ds N' a l := ⟨h.size.trans e, h.defers, h.at'⟩
theorem dRegion_list (hP : OkP P) {ops : Array Oper} {l : Env} {w : World} {a : Act} {K : Env → World → Prop} (hl : EnvOk ds N a l)
  (h : dRegion P N ops false l w K) : wpList P ops (RegP ds N ops a K) ops.toList a w := by
 unfold dRegion at h
 simp only at h
 have e : dstsIt (textIts 0 ops.toList) = dstsOf ops.toList := by
  conv => rhs; rw [← textIts_o 0 ops.toList]
  simp [dstsIt, dstsOf, List.filterMap_map, Function.comp_def]
 have := dOps_list (Q := RegP ds N ops a K) hP (textIts 0 ops.toList) hl FlOk.nil h (fun a' l' w' ho hl' hK => ⟨by rw [← e]; exact ho, l', hl', .inl ⟨rfl, hK⟩⟩) (fun ch a' w' ho => RegP.pan ch a' w' (by rw [← e]; exact ho))
 rw [textIts_o] at this
 exact this
theorem dRegion_any (hP : OkP P) {ops : Array Oper} {l : Env} {w : World} {a : Act} {K : Env → World → Prop} (hl : EnvOk ds N a l)
  (h : dRegion P N ops true l w K) : wpAny P .any ops (RegP ds N ops a K) ops.size (Array.replicate ops.size false) a { w with drawn := w.drawn + 1 } := by
 unfold dRegion at h
 simp only at h
 cases hb : mixOk P ops with
 | false =>
  rw [hb] at h
  simp only [cond_false] at h
  cases hf : flOk P ops with
  | true =>
   rw [hf] at h
   simp only [cond_true] at h
   refine wpAny_of_E (asv := ancL ops.toList []) (C := []) _ _ _ _ ?_
   have := dFl_region hP hf (Q := RegP ds N ops a K) RegP.inv hl (fun a' l' w' ho hl' hK => ⟨ho, l', hl', .inl ⟨rfl, hK⟩⟩) RegP.pan h
   rw [bitsA_zero] at this
   exact this
  | false =>
  rw [hf] at h
  simp only [cond_false] at h
  cases ht : treeOk P ops with
  | false => rw [ht] at h; exact h.elim
  | true =>
   rw [ht] at h
   simp only [cond_true] at h
   unfold treeOk at ht
   simp only [Bool.and_eq_true] at ht
   obtain ⟨⟨ht1, ht2⟩, ht3⟩ := ht
   refine wpAny_of_E (asv := ancL ops.toList []) (C := []) _ _ _ _ ?_
   have := (dTr_mix hP ht1 (Q := RegP ds N ops a K) RegP.inv _ rfl
    (trRows P ops) rfl (a0 := a) (K := K) (fun a' l' w' ho hl' hK => ⟨ho, l', hl', .inl ⟨rfl, hK⟩⟩) RegP.pan (trOf P ops) true 0 ops.size (Nat.le_of_ble_eq_true ht2)
    (fun j hj => by simp at hj) (fun _ hx => (by cases hx)) ht3 hl FlOk.nil (Off.refl _ _) h).1 rfl
   rw [bitsA_zero] at this
   exact this
 | true =>
  rw [hb] at h
  simp only [cond_true] at h
  unfold mixOk at hb
  simp only [Bool.and_eq_true] at hb
  obtain ⟨⟨hb1, hb2⟩, hb3⟩ := hb
  refine wpAny_of_E (asv := ancL ops.toList []) (C := []) _ _ _ _ ?_
  have hsub : ∀ t, t ∈ dstsIt ((canonOf (rowsOf P 0 ops.toList (ancL ops.toList []))).map itOf) → t ∈ dstsOf ops.toList := by
   intro t ht
   simp only [dstsIt, List.mem_filterMap, List.mem_map] at ht
   obtain ⟨it, ⟨x, hx, rfl⟩, hd⟩ := ht
   obtain ⟨jj, h1, _⟩ := rowsOf_mem (canonOf_mem hx)
   simp only [dstsOf, List.mem_filterMap]
   exact ⟨x.o, List.mem_of_getElem? h1, hd⟩
  have := dOps_mix hP hb1 (Q := RegP ds N ops a K) RegP.inv _ rfl
   (canonOf (rowsOf P 0 ops.toList (ancL ops.toList []))) 0 (fun x hx => canonOf_mem hx) (fun j hj => by simp at hj) (fun _ hx => (by cases hx)) hb3 hl FlOk.nil h
   (fun a' l' w' ho hl' hK => ⟨ho.mono hsub, l', hl', .inl ⟨rfl, hK⟩⟩) (fun ch a' w' ho => RegP.pan ch a' w' (ho.mono hsub))
  rw [bitsA_zero, Nat.eq_of_beq_eq_true hb2] at this
  exact this
theorem wp_dRegion (hP : OkP P) {id : Nat} {ops : Array Oper} {draw : Bool} {l : Env} {w : World} {a : Act} {K : Env → World → Prop} (hl : EnvOk ds N a l)
  (h : dRegion P N ops draw l w K) : (Code.region id ops draw).wp P (RegP ds N ops a K) a w := by
 cases draw with
 | false => exact wp_region_list (dRegion_list hP hl h)
 | true => exact wp_region_any hP.mixed (dRegion_any hP hl h)
theorem gt_all {l : Env} {a : Act} (h : ∀ t v, (t, some v) ∈ l → a.tmps[t]? = some v) : ∀ t v, gt l t = some (some v) → a.tmps[t]? = some v := by
 induction l with
 | nil => intro t v hg; simp [gt] at hg
 | cons x r ih =>
  intro t v hg
  obtain ⟨j, u⟩ := x
  simp only [gt] at hg
  cases hb : Nat.beq j t with
  | true =>
   rw [hb] at hg
   simp only [cond_true, Option.some.injEq] at hg
   subst hg
   rw [← Nat.eq_of_beq_eq_true hb]
   exact h j v (by simp)
  | false => rw [hb] at hg; exact ih (fun t v ht => h t v (by simp [ht])) t v hg
theorem mem_keepEnv {l : Env} : ∀ {ts : List Nat} {kl : Env}, keepEnv l ts = some kl → ∀ t v, (t, some v) ∈ kl → t ∈ ts ∧ gt l t = some (some v)
 | [], kl, h, t, v, hm => by simp only [keepEnv, Option.some.injEq] at h; subst h; cases hm
 | x :: r, kl, h, t, v, hm => by
  simp only [keepEnv] at h
  split at h
  ·rename_i u e hg hk
   simp only [Option.some.injEq] at h
   subst h
   rcases List.mem_cons.1 hm with hm | hm
   ·simp only [Prod.mk.injEq, Option.some.injEq] at hm
    obtain ⟨rfl, rfl⟩ := hm
    exact ⟨by simp, hg⟩
   ·obtain ⟨h1, h2⟩ := mem_keepEnv hk t v hm
    exact ⟨by simp [h1], h2⟩
  ·cases h
theorem mem_zipEnv {a : Act} {l : Env} (hl : ∀ t v, gt l t = some (some v) → a.tmps[t]? = some v) : ∀ {ms : List (Nat × Kd)} {vs : List Value}, getVals l (ms.map (·.1)) = some vs →
  ∀ t v, (t, some v) ∈ zipEnv ms vs → a.tmps[t]? = some v
 | [], vs, h, t, v, hm => by simp [zipEnv] at hm
 | (x, k) :: r, vs, h, t, v, hm => by
  simp only [List.map_cons, getVals] at h
  split at h
  ·rename_i u e hg hk
   simp only [Option.some.injEq] at h
   subst h
   simp only [zipEnv] at hm
   rcases List.mem_cons.1 hm with hm | hm
   ·simp only [Prod.mk.injEq, Option.some.injEq] at hm
    obtain ⟨rfl, rfl⟩ := hm
    exact hl _ _ hg
   ·exact mem_zipEnv hl hk t v hm
  ·cases h
theorem of_kept {c : Code} {ts : List Nat} (h : kept c ts = true) : ∀ t ∈ ts, t ∉ writes c := by
 intro t ht hw
 have := List.all_eq_true.1 h t ht
 simp only [Bool.not_eq_true'] at this
 have h2 : (writes c).any (Nat.beq t) = true := List.any_eq_true.2 ⟨t, hw, by simp⟩
 rw [h2] at this
 cases this
theorem env_again {a a' : Act} {l l' kl : Env} {h : Hint} {vs : List Value} {c : Code} (hl : EnvOk ds N a l) (hl' : EnvOk ds N a' l') (ho : Off (writes c) a a') (hk : kept c h.keep = true)
  (hkl : keepEnv l h.keep = some kl) (hv : getVals l' (h.mods.map (·.1)) = some vs) : EnvOk ds N a' (zipEnv h.mods vs ++ kl) := by
 refine ⟨hl'.size, hl'.defers, gt_all ?_⟩
 intro t v hm
 rcases List.mem_append.1 hm with hm | hm
 ·exact mem_zipEnv hl'.at' hv t v hm
 ·obtain ⟨h1, h2⟩ := mem_keepEnv hkl t v hm
  rw [ho t (of_kept hk t h1)]
  exact hl.at' t v h2
def Post (ds : List Deferred) (N : NX) (ws : List Nat) (a : Act) (Q : Exit → Env → World → Prop) : Exit → Act → World → Prop :=
 fun e a' w' => Off ws a a' ∧ ∃ l', EnvOk ds N a' l' ∧ Q e l' w'
theorem dCode_sound (hP : OkP P) : ∀ (c : Code) {l : Env} {Q : Exit → Env → World → Prop} {w : World} {a : Act}, EnvOk ds N a l → dCode P N H c l Q w →
  c.wp P (Post ds N (writes c) a Q) a w
 | .skip, l, Q, w, a, hl, h => wp_skip ⟨Off.refl _ _, l, hl, h⟩
 | .label _, l, Q, w, a, hl, h => wp_label ⟨Off.refl _ _, l, hl, h⟩
 | .region id ops draw, l, Q, w, a, hl, h => by
  refine wp_mono (wp_dRegion (N := ⟨N.n, N.pan, fun ch w' => Q (.panic ch) [] w'⟩) hP (hl.cast rfl) h) ?_
  rintro e a' w' ⟨ho, l', hl', ⟨rfl, hK⟩ | ⟨ch, rfl, rfl, hK⟩⟩
  ·exact ⟨ho, l', hl'.cast rfl, hK⟩
  ·exact ⟨ho, [], hl'.cast rfl, hK⟩
 | .seq x y, l, Q, w, a, hl, h => by
  have ihx := fun {l Q w a} => dCode_sound hP x (l := l) (Q := Q) (w := w) (a := a)
  have ihy := fun {l Q w a} => dCode_sound hP y (l := l) (Q := Q) (w := w) (a := a)
  unfold dCode at h
  refine wp_seq ?_
  split at h
  ·refine wp_mono (ihx hl h) ?_
   rintro e a' w' ⟨ho, l', hl', hq⟩
   have hox : Off (writes (.seq x y)) a a' := ho.mono fun t ht => by simp [writes, ht]
   cases e with
   | normal =>
    refine wp_mono (ihy hl' hq) ?_
    rintro e a'' w'' ⟨ho', l'', hl'', hq'⟩
    exact ⟨hox.trans (ho'.mono fun t ht => by simp [writes, ht]), l'', hl'', hq'⟩
   | _ => exact ⟨hox, l', hl', hq⟩
  ·rename_i hh _
   cases hb : kept x hh.keep with
   | false => rw [hb] at h; exact h.elim
   | true =>
    rw [hb] at h
    simp only [cond_true] at h
    split at h
    ·exact h.elim
    ·rename_i kl hkl
     obtain ⟨J, h1, h2⟩ := h
     refine wp_mono (ihx hl h1) ?_
     rintro e a' w' ⟨ho, l', hl', hq⟩
     have hox : Off (writes (.seq x y)) a a' := ho.mono fun t ht => by simp [writes, ht]
     cases e with
     | normal =>
      simp only at hq
      split at hq
      ·rename_i vs hvs
       obtain ⟨r, hr, hb2⟩ := of_viewL hq h2
       refine wp_mono (ihy (env_again hl hl' ho hb hkl hvs) (hb2 w' hr)) ?_
       rintro e a'' w'' ⟨ho', l'', hl'', hq'⟩
       exact ⟨hox.trans (ho'.mono fun t ht => by simp [writes, ht]), l'', hl'', hq'⟩
      ·exact hq.elim
     | _ => exact ⟨hox, l', hl', hq⟩
 | .cond c x y, l, Q, w, a, hl, h => by
  have ihx := fun {l Q w a} => dCode_sound hP x (l := l) (Q := Q) (w := w) (a := a)
  have ihy := fun {l Q w a} => dCode_sound hP y (l := l) (Q := Q) (w := w) (a := a)
  unfold dCode at h
  split at h
  ·rename_i b hb
   have he := of_look hl FlOk.nil holds_nil c _ hb
   refine wp_cond he ?_
   cases b with
   | true =>
    simp only [if_true] at h ⊢
    refine wp_mono (ihx hl h) ?_
    rintro e a' w' ⟨ho, r⟩
    exact ⟨ho.mono fun t ht => by simp [writes, ht], r⟩
   | false =>
    simp only [Bool.false_eq_true, if_false] at h ⊢
    refine wp_mono (ihy hl h) ?_
    rintro e a' w' ⟨ho, r⟩
    exact ⟨ho.mono fun t ht => by simp [writes, ht], r⟩
  ·exact h.elim
 | .block id c, l, Q, w, a, hl, h => by
  have ih := fun {l Q w a} => dCode_sound hP c (l := l) (Q := Q) (w := w) (a := a)
  unfold dCode at h
  refine wp_block (wp_mono (ih hl h) ?_)
  rintro e a' w' ⟨ho, l', hl', hq⟩
  cases e with
  | exit id' =>
   simp only [Exit.inBlock]
   simp only at hq
   by_cases hid : id' = id
   ·rw [if_pos hid]
    have : Nat.beq id' id = true := by rw [hid]; simp
    rw [this] at hq
    exact ⟨ho, l', hl', hq⟩
   ·rw [if_neg hid]
    have : Nat.beq id' id = false := by
     cases hb : Nat.beq id' id with
     | false => rfl
     | true => exact absurd (Nat.eq_of_beq_eq_true hb) hid
    rw [this] at hq
    exact ⟨ho, l', hl', hq⟩
  | _ => exact ⟨ho, l', hl', hq⟩
 | .loop c, l, Q, w, a, hl, h => by
  have ih := fun {l Q w a} => dCode_sound hP c (l := l) (Q := Q) (w := w) (a := a)
  unfold dCode at h
  split at h
  ·exact h.elim
  ·rename_i hh _
   cases hb : kept c hh.keep with
   | false => rw [hb] at h; exact h.elim
   | true =>
    rw [hb] at h
    simp only [cond_true] at h
    split at h
    ·rename_i kl vs0 hkl hvs0
     obtain ⟨Inv, h1, h2⟩ := h
     have start : ∃ (n : Nat) (vs : List Value) (r : Nat → World → Prop), getVals l (hh.mods.map (·.1)) = some vs ∧ r n w ∧ (∀ n w', r n w' → dCode P N H c (zipEnv hh.mods vs ++ kl) (fun e l' w'' => match e with
       | .normal => match getVals l' (hh.mods.map (·.1)) with
        | some vs' => viewL (hh.mods.map (·.2)) vs' (fun r' => ∃ n', n' < n ∧ r' n' w'') Inv
        | none => False
       | e => Q e l' w'') w') := by
      obtain ⟨r, ⟨n, hr⟩, hB⟩ := of_viewL h1 h2
      exact ⟨n, vs0, r, hvs0, hr, hB⟩
     obtain ⟨n0, vs, r0, hvs, hr0, hB0⟩ := start
     refine wp_loop_ghost (fun n a' w' => Off (writes c) a a' ∧ ∃ (l' : Env) (vs : List Value) (r : Nat → World → Prop), EnvOk ds N a' l' ∧ getVals l' (hh.mods.map (·.1)) = some vs ∧ r n w' ∧
       (∀ n w', r n w' → dCode P N H c (zipEnv hh.mods vs ++ kl) (fun e l' w'' => match e with
       | .normal => match getVals l' (hh.mods.map (·.1)) with
        | some vs' => viewL (hh.mods.map (·.2)) vs' (fun r' => ∃ n', n' < n ∧ r' n' w'') Inv
        | none => False
       | e => Q e l' w'') w')) n0 ⟨Off.refl _ _, l, vs, r0, hl, hvs, hr0, hB0⟩ ?_
     rintro n a1 w1 ⟨ho, l1, vs1, r1, hl1, hvs1, hr1, hB1⟩
     refine wp_mono (ih (env_again hl hl1 ho hb hkl hvs1) (hB1 n w1 hr1)) ?_
     rintro e a' w' ⟨ho', l', hl', hq⟩
     cases e with
     | normal =>
      simp only at hq
      split at hq
      ·rename_i vs' hvs'
       obtain ⟨r', ⟨n', hlt, hr'⟩, hB'⟩ := of_viewL hq h2
       exact ⟨n', hlt, ho.trans ho', l', vs', r', hl', hvs', hr', hB'⟩
      ·exact hq.elim
     | _ => exact ⟨ho.trans ho', l', hl', hq⟩
    ·exact h.elim
 | .exit id, l, Q, w, a, hl, h => wp_exit ⟨Off.refl _ _, l, hl, h⟩
 | .ret, l, Q, w, a, hl, h => wp_ret ⟨Off.refl _ _, l, hl, h⟩
 | .rangeFunc _ _ _ _, _, _, _, _, _, h => h.elim
 | .scope _, _, _, _, _, _, h => h.elim
 | .goto _, _, _, _, _, _, h => h.elim
 | .refuse _, _, _, _, _, _, h => h.elim
theorem gt_initEnv : ∀ {vs : List Value} {i t : Nat} {v : Value}, gt (initEnv i vs) t = some (some v) → i ≤ t ∧ vs[t - i]? = some v
 | [], i, t, v, h => by simp [initEnv, gt] at h
 | u :: vs, i, t, v, h => by
  simp only [initEnv, gt] at h
  cases hb : Nat.beq i t with
  | true =>
   rw [hb] at h
   simp only [cond_true, Option.some.injEq] at h
   have := Nat.eq_of_beq_eq_true hb
   subst this
   simp [h]
  | false =>
   rw [hb] at h
   obtain ⟨h1, h2⟩ := gt_initEnv h
   refine ⟨by omega, ?_⟩
   rw [show t - i = (t - (i + 1)) + 1 by omega]
   simpa using h2
def resF (tmps : Array Value) : ResultVar → Sem Value
 | .tmp t => pure (tmps.getD t undef)
 | .cell x t => do loadVar t (← asAddr (tmps.getD x undef))
theorem results_eq (fn : Func) (tmps : Array Value) :
  results fn tmps = (do let vs ← fn.results.mapM (resF tmps); pure (if h : vs.size = 1 then vs[0] else .tuple vs)) := by
 unfold results
 congr 1
theorem of_dResults {a : Act} {l : Env} {w : World} (hl : EnvOk ds N a l) : ∀ {rs : List ResultVar} {K : List Value → Prop}, dResults P l w rs K →
  ∃ vs, (rs.mapM (resF a.tmps)).run P w = .ok vs w ∧ K vs
 | [], K, h => ⟨[], by simp, h⟩
 | .tmp t :: r, K, h => by
  simp only [dResults] at h
  split at h
  ·rename_i v hv
   obtain ⟨vs, hr, hK⟩ := of_dResults hl h
   have := hl.at' _ _ hv
   have h1 : (resF a.tmps (.tmp t)).run P w = .ok v w := by simp [resF, this]
   exact ⟨v :: vs, by simp only [List.mapM_cons, Sem.run_bind, h1, Result.andThen_ok, hr, Sem.run_pure], hK⟩
  ·exact h.elim
 | .cell t ty :: r, K, h => by
  simp only [dResults] at h
  split at h
  ·rename_i p hv
   obtain ⟨ad, rfl, h1⟩ := of_NN h
   obtain ⟨v, hfp1, hv1, h2⟩ := of_dLoad h1
   obtain ⟨vs, hr, hK⟩ := of_dResults hl h2
   have := hl.at' _ _ hv
   have h1 : (resF a.tmps (.cell t ty)).run P w = .ok v w := by simp [resF, this, asAddr, hv1 w hfp1]
   exact ⟨v :: vs, by simp only [List.mapM_cons, Sem.run_bind, h1, Result.andThen_ok, hr, Sem.run_pure], hK⟩
  ·exact h.elim
theorem dFuncE_sound (hP : OkP P) {pan : List FuncId} {f : FuncId} {fn : Func} {args : List Value} {K : Value → World → Prop} {E : List PanicEntry → World → Prop} {w : World} (hf : P.funcs[f]? = some fn)
  (h : dFuncE P H pan fn args K E w) : Calls P f args.toArray w fun e w' => (∃ v, e = .returned v ∧ K v w') ∨ ∃ ch, e = .panicked ch ∧ E ch w' := by
 unfold dFuncE at h
 split at h
 ·exact h.elim
 ·rename_i c hc
  cases hb : Nat.ble args.length fn.ntmps with
  | false => rw [hb] at h; exact h.elim
  | true =>
   rw [hb] at h
   simp only [cond_true] at h
   have hle : args.length ≤ fn.ntmps := Nat.le_of_ble_eq_true hb
   refine calls_of_wp hf hc ?_
   have hl : EnvOk [] ⟨fn.ntmps, pan, fun _ _ => False⟩ ⟨args.toArray ++ Array.replicate (fn.ntmps - args.toArray.size) undef, []⟩ (initEnv 0 args) := by
    refine ⟨by simp; omega, rfl, fun t v ht => ?_⟩
    obtain ⟨_, h2⟩ := gt_initEnv ht
    simp only [Nat.sub_zero] at h2
    have hlt := (List.getElem?_eq_some_iff.1 h2).1
    rw [Array.getElem?_append_left (by simpa using hlt)]
    simpa using h2
   refine wp_mono (dCode_sound hP c hl h) ?_
   rintro e a' w' ⟨_, l', hl', hq⟩
   have fin : dResults P l' w' fn.results.toList (fun vs => K (mkRes vs) w') → a'.defers = [] ∧ ∃ v, (results fn a'.tmps).run P w' = .ok v w' ∧ ((∃ v', Ending.returned v = .returned v' ∧ K v' w') ∨ ∃ ch, Ending.returned v = .panicked ch ∧ E ch w') := by
    intro hr
    obtain ⟨vs, hv, hK⟩ := of_dResults hl' hr
    refine ⟨hl'.defers, mkRes vs, ?_, .inl ⟨mkRes vs, rfl, hK⟩⟩
    rw [results_eq, Array.mapM_eq_mapM_toList]
    simp only [Sem.run_bind, Sem.run_map, hv, Result.andThen_ok, Sem.run_pure]
    congr 1
    unfold mkRes
    split
    ·rename_i h1
     have hlen : vs.length = 1 := by simpa using h1
     match vs, hlen with
     | [v], _ => rfl
    ·rename_i h1
     have hlen : vs.length ≠ 1 := by simpa using h1
     match vs, hlen with
     | [], _ => rfl
     | _ :: _ :: _, _ => rfl
   cases e with
   | normal => exact fin hq
   | ret => exact fin hq
   | panic ch => exact ⟨hl'.defers, .inr ⟨ch, rfl, hq⟩⟩
   | _ => exact hq.elim
theorem dFunc_sound (hP : OkP P) {f : FuncId} {fn : Func} {args : List Value} {K : Value → World → Prop} {w : World} (hf : P.funcs[f]? = some fn)
  (h : dFunc P H fn args K w) : Calls P f args.toArray w fun e w' => ∃ v, e = .returned v ∧ K v w' :=
 Calls.mono (dFuncE_sound hP hf h) fun e w' h => h.elim id fun ⟨_, _, h⟩ => h.elim
theorem callK_of (hP : OkP P) {f : FuncId} {fn : Func} {args : List Value} {shs : List Sh} {R : Fn (kdsOf shs) (World → Prop)} {w : World} (hf : P.funcs[f]? = some fn)
  (h : dFunc P H fn args (fun v w' => viewRet shs v R w') w) : CallK P f args shs w R := dFunc_sound hP hf h
theorem callP_of (hP : OkP P) {pan : List FuncId} {f : FuncId} {fn : Func} {args : List Value} {shs : List Sh} {R : Fn (kdsOf shs) (World → Prop)} {E : List PanicEntry → World → Prop} {w : World} (hf : P.funcs[f]? = some fn)
  (h : dFuncE P H pan fn args (fun v w' => viewRet shs v R w') E w) : CallP P f args shs w R E := dFuncE_sound hP hf h
end
end Go.Den
end

section
namespace Go.Den
def Dr (w : World) (K : World → Prop) : Prop := K w.drew
end Go.Den
end

section
namespace Go.Den
open Go.RowKit
structure Fr (S : List Nat) (w w' : World) : Prop where
 os : w'.os = w.os
 tape : w'.tape = w.tape
 output : w'.output = w.output
 size : w.heap.size ≤ w'.heap.size
 block : ∀ k, k < w.heap.size → k ∉ S → w'.heap[k]? = w.heap[k]?
theorem Fr.refl (S : List Nat) (w : World) : Fr S w w := ⟨rfl, rfl, rfl, Nat.le_refl _, fun _ _ _ => rfl⟩
theorem Fr.trans {S S' : List Nat} {a b c : World} (h : Fr S a b) (h' : Fr S' b c) (hs : ∀ k ∈ S', k ∈ S ∨ a.heap.size ≤ k) : Fr S a c :=
 ⟨h'.os.trans h.os, h'.tape.trans h.tape, h'.output.trans h.output, Nat.le_trans h.size h'.size, fun k hk hn =>
  (h'.block k (Nat.lt_of_lt_of_le hk h.size) (fun hm => (hs k hm).elim hn (fun hl => by omega))).trans (h.block k hk hn)⟩
theorem Fr.mono {S S' : List Nat} {a b : World} (h : Fr S a b) (hs : ∀ k ∈ S, k ∈ S' ∨ a.heap.size ≤ k) : Fr S' a b :=
 ⟨h.os, h.tape, h.output, h.size, fun k hk hn => h.block k hk fun hm => (hs k hm).elim hn (fun hl => by omega)⟩
theorem Fr.below {w w' : World} (h : Fr [] w w') : Below w.heap.size w w' := ⟨h.os, h.tape, h.output, h.size, fun k hk => h.block k hk (by simp)⟩
theorem Fr.drew {S : List Nat} {a w : World} (h : Fr S a w) : Fr S a w.drew := ⟨h.os, h.tape, h.output, h.size, h.block⟩
def Blk (w : World) (b : Nat) (e : TypeId) (c : List Value) : Prop := w.heap[b]? = some (.cells c.toArray e (0, 0))
theorem Blk.lt {w : World} {b : Nat} {e : TypeId} {c : List Value} (h : Blk w b e c) : b < w.heap.size := (Array.getElem?_eq_some_iff.1 h).1
theorem Blk.fr {S : List Nat} {w w' : World} {b : Nat} {e : TypeId} {c : List Value} (h : Blk w b e c) (hf : Fr S w w') (hn : b ∉ S) : Blk w' b e c :=
 (hf.block b h.lt hn).trans h
theorem Blk.cell {w : World} {b : Nat} {e : TypeId} {c : List Value} (h : Blk w b e c) (o : Nat) : w.cell? ⟨b, o, none⟩ = c[o]? := by
 unfold Blk at h
 simp [World.cell?, h]
theorem Blk.frozen {w : World} {b : Nat} {e : TypeId} {c : List Value} (h : Blk w b e c) (o : Nat) : w.frozen? ⟨b, o, none⟩ = false := by
 unfold Blk at h
 simp [World.frozen?, h]
theorem Blk.set {w : World} {b : Nat} {e : TypeId} {c : List Value} (h : Blk w b e c) (o : Nat) (v : Value) : Blk (w.setCell ⟨b, o, none⟩ v) b e (c.set o v) := by
 unfold Blk at h ⊢
 simp only [World.setCell, Array.getElem?_modify, ↓reduceIte, h, Option.map_some, Option.isSome_none, Bool.false_eq_true, if_false]
 congr 2
 simp
theorem Fr.set {w : World} {b : Nat} (o : Nat) (v : Value) : Fr [b] w (w.setCell ⟨b, o, none⟩ v) :=
 ⟨rfl, rfl, rfl, by simp, fun k hk hn => Below.heap_setCell w ⟨b, o, none⟩ v k (by simpa using hn)⟩
theorem Fr.alloc (w : World) (o : Obj) : Fr [] w (w.alloc o) := ⟨rfl, rfl, rfl, by simp, fun k hk _ => Below.heap_alloc w o k hk⟩
theorem Blk.alloc (w : World) (c : List Value) (e : TypeId) : Blk (w.alloc (.cells c.toArray e)) w.heap.size e c := by
 show (w.heap.push _)[w.heap.size]? = _
 simp
theorem Addr.add_none (b o n : Nat) : (⟨b, o, none⟩ : Addr).add n = ⟨b, o + n, none⟩ := by
 unfold Addr.add; split <;> simp_all
@[simp] theorem NN_some (a : Addr) (K : Addr → Prop) : NN (some a) K = K a := rfl
theorem ld {k : Kd} {w : World} {b o : Nat} {e : TypeId} {c : List Value} {x : k.T} {K : k.T → Prop} (h : Blk w b e c) (hx : c[o]? = some (k.inj x)) (hK : K x) : Ld k w ⟨b, o, none⟩ K :=
 ⟨x, by rw [h.cell, hx], hK⟩
theorem ldf {k : Kd} {w : World} {b n : Nat} {e : TypeId} {c : List Value} {x : k.T} {K : k.T → Prop} (h : Blk w b e c) (hx : c[n]? = some (k.inj x)) (hK : K x) : Ld k w ((⟨b, 0, none⟩ : Addr).add n) K := by
 rw [Addr.add_none, Nat.zero_add]
 exact ld h hx hK
theorem st {w : World} {b o : Nat} {e : TypeId} {c : List Value} {v : Value} {K : World → Prop} (h : Blk w b e c) (ho : o < c.length) (hv : v.oneCell' = true)
  (hK : ∀ w', Blk w' b e (c.set o v) → Fr [b] w w' → w'.heap.size = w.heap.size → K w') : St ⟨b, o, none⟩ v w K :=
 ⟨hv, by rw [h.cell]; simp [ho], h.frozen o, hK _ (h.set o v) (Fr.set o v) (by simp)⟩
section append
variable {P : Program} {w : World}
end append
theorem infoP {P : Program} {t : TypeId} {z : Option Value} {n b : Nat} (h : (P.info? t).map (fun i => (i.zero, i.size, i.bytes)) = some (z, n, b)) :
  ∃ i, P.info? t = some i ∧ i.zero = z ∧ i.size = n ∧ i.bytes = b := by
 cases hi : P.info? t with
 | none => simp [hi] at h
 | some i => simp only [hi, Option.map_some, Option.some.injEq, Prod.mk.injEq] at h; exact ⟨i, rfl, h⟩
theorem wr64 {n : Int} (h1 : -9223372036854775808 ≤ n) (h2 : n ≤ 9223372036854775807) : IntKind.i64.wrap n = n := by
 simp only [IntKind.wrap, IntKind.bits, IntKind.signed, Bool.true_and, decide_eq_true_eq, ge_iff_le]; split <;> omega
def eqV (d : TypeDesc) (a b : Value) : Option Bool :=
 match d, a, b with
 | .int _, .int k a, .int k' b => cond (decide (k = k')) (some (a == b)) none
 | .bool, .bool a, .bool b => some (a == b)
 | .string, .string a, .string b => some (a == b)
 | _, _, _ => none
def eqFs (P : Program) (xs ys : Array Value) : List Field → Option Bool
 | [] => some true
 | f :: r => cond (f.name == "_") none (match P.underlying f.type with
  | some d => cond (isAggD d) none (match xs.toList[f.offset]?, ys.toList[f.offset]? with
   | some a, some b => match eqV d a b, eqFs P xs ys r with
    | some r1, some r2 => some (r1 && r2)
    | _, _ => none
   | _, _ => none)
  | none => none)
theorem of_eqV {P : Program} {w : World} {n : Nat} {t : TypeId} {d : TypeDesc} {a b : Value} {r : Bool} (hd : P.underlying t = some d) (h : eqV d a b = some r) : (Op.equalIn (n + 1) t a b).run P w = .ok r w := by
 unfold eqV at h
 split at h
 ·rename_i k a k' b
  cases hk : decide (k = k') with
  | false => rw [hk] at h; cases h
  | true =>
   rw [hk] at h
   obtain rfl := of_decide_eq_true hk
   simp only [cond_true, Option.some.injEq] at h
   subst h
   simp [Op.equalIn, run_underlying hd]
 ·simp only [Option.some.injEq] at h; subst h; simp [Op.equalIn, run_underlying hd]
 ·simp only [Option.some.injEq] at h; subst h; simp [Op.equalIn, run_underlying hd]
 ·cases h
theorem of_eqFs {P : Program} {w : World} {n : Nat} {xs ys : Array Value} : ∀ {fs : List Field} {r : Bool}, eqFs P xs ys fs = some r → (Op.eqFields (n + 1) xs ys fs).run P w = .ok r w
 | [], r, h => by simp only [eqFs, Option.some.injEq] at h; subst h; simp [Op.eqFields]
 | f :: fs, r, h => by
  simp only [eqFs] at h
  cases hn : f.name == "_" with
  | true => rw [hn] at h; cases h
  | false =>
   rw [hn] at h
   simp only [cond_false] at h
   split at h
   ·rename_i d hd
    cases ha : isAggD d with
    | true => rw [ha] at h; cases h
    | false =>
     rw [ha] at h
     simp only [cond_false] at h
     split at h
     ·rename_i a b hx hy
      split at h
      ·rename_i r1 r2 h1 h2
       simp only [Option.some.injEq] at h
       subst h
       have e1 := of_eqV (P := P) (w := w) (n := n) hd h1
       have e2 := of_eqFs (w := w) (n := n) h2
       have p1 : (part f.type xs f.offset).run P w = .ok a w := by
        have : xs[f.offset]? = some a := by simpa using hx
        simp [part, isAggD_run hd, ha, this]
       have p2 : (part f.type ys f.offset).run P w = .ok b w := by
        have : ys[f.offset]? = some b := by simpa using hy
        simp [part, isAggD_run hd, ha, this]
       have hne : f.name ≠ "_" := by simpa using hn
       simp only [Op.eqFields, if_pos hne, hn, Sem.run_bind, p1, p2, Result.andThen_ok, e1]
       cases r1 <;> simp [e2]
      ·cases h
     ·cases h
   ·cases h
theorem runNe {P : Program} {t : TypeId} {x y : Operand} {xs ys : Array Value} {r : Bool} {w : World} {K : Bool → Prop} (hg : P.eqGuardType P.depth t = false)
  (ht : P.underlying t = some (.struct (P.fieldsOf t))) (hp : P.stoodInHeld t = false) (h : eqFs P xs ys (P.fieldsOf t).toList = some r) (hK : K (!r)) :
  RunRo .b P (binSem .neq t x y (.agg xs) (.agg ys)) w K := by
 refine ⟨!r, fun w' _ => ?_, hK⟩
 have e : (Op.equal t (.agg xs) (.agg ys)).run P w' = .ok r w' := by
  show (Op.equalIn (9998 + 1 + 1) t (.agg xs) (.agg ys)).run P w' = _
  rw [run_equalIn_struct (P := P) w' (9998 + 1) t xs ys ht hp]
  exact of_eqFs h
 unfold binSem
 simp [eqGuard, hg, binOp, e, Kd.inj]
theorem ifT {c : Prop} [Decidable c] {t e : Prop} (h : c) (ht : t) : if c then t else e := by rw [if_pos h]; exact ht
theorem ifF {c : Prop} [Decidable c] {t e : Prop} (h : ¬ c) (he : e) : if c then t else e := by rw [if_neg h]; exact he
section rows
variable {α : Type} {f : α → List Value} {n : Nat}
theorem fm_len (hf : ∀ x, (f x).length = n) (l : List α) : (l.flatMap f).length = l.length * n := by
 induction l with
 | nil => simp
 | cons x l ih => simp [List.flatMap_cons, hf, ih, Nat.add_mul, Nat.add_comm]
theorem fm_take (hf : ∀ x, (f x).length = n) (l : List α) (k : Nat) : (l.flatMap f).take (k * n) = (l.take k).flatMap f := by
 induction l generalizing k with
 | nil => simp
 | cons x l ih =>
  cases k with
  | zero => simp
  | succ k =>
   have e1 : (k + 1) * n = n + k * n := by rw [Nat.add_mul, Nat.one_mul, Nat.add_comm]
   rw [List.take_succ_cons, List.flatMap_cons, List.flatMap_cons, e1, ← ih, List.take_append, hf, Nat.add_sub_cancel_left]
   rw [List.take_of_length_le (by rw [hf]; omega)]
theorem fm_drop (hf : ∀ x, (f x).length = n) (l : List α) (k : Nat) : (l.flatMap f).drop (k * n) = (l.drop k).flatMap f := by
 induction l generalizing k with
 | nil => simp
 | cons x l ih =>
  cases k with
  | zero => simp
  | succ k =>
   have e1 : (k + 1) * n = n + k * n := by rw [Nat.add_mul, Nat.one_mul, Nat.add_comm]
   rw [List.drop_succ_cons, List.flatMap_cons, e1, ← ih, List.drop_append, hf, Nat.add_sub_cancel_left]
   rw [List.drop_of_length_le (by rw [hf]; omega), List.nil_append]
theorem fm_get (hf : ∀ x, (f x).length = n) {l : List α} {i j : Nat} {x : α} (hx : l[i]? = some x) (hj : j < n) : (l.flatMap f)[i * n + j]? = (f x)[j]? := by
 have e1 : l.drop i = x :: l.drop (i + 1) := by
  obtain ⟨hi, rfl⟩ := List.getElem?_eq_some_iff.1 hx
  exact List.drop_eq_getElem_cons hi
 rw [← List.getElem?_drop, fm_drop hf, e1, List.flatMap_cons, List.getElem?_append_left (by rw [hf]; exact hj)]
theorem fm_set (hf : ∀ x, (f x).length = n) (l : List α) (i : Nat) (x : α) (hi : i < l.length) : (l.set i x).flatMap f = (l.flatMap f).take (i * n) ++ f x ++ (l.flatMap f).drop ((i + 1) * n) := by
 rw [fm_take hf, fm_drop hf, List.set_eq_take_append_cons_drop, if_pos hi]
 simp [List.flatMap_append]
end rows
def SlF {α : Type} (w : World) (s : Sl) (e : TypeId) (n : Nat) (f : α → List Value) (l : List α) (o : List Nat) : Prop :=
  l.length = s.len ∧
  ((s.a = none ∧ s.len = 0 ∧ s.cap = 0 ∧ o = []) ∨
   ∃ b off c, s.a = some ⟨b, off, none⟩ ∧ o = [b] ∧ Blk w b e c ∧ s.len ≤ s.cap ∧ off + s.cap * n ≤ c.length ∧ (c.drop off).take (s.len * n) = l.flatMap f)
section
variable {α : Type} {f : α → List Value} {n : Nat} {e : TypeId}
theorem SlF.nil {w : World} : SlF w ⟨none, 0, 0⟩ e n f [] [] := ⟨rfl, .inl ⟨rfl, rfl, rfl, rfl⟩⟩
theorem SlF.len {w : World} {s : Sl} {l : List α} {o : List Nat} (h : SlF w s e n f l o) : l.length = s.len := h.1
theorem SlF.lt {w : World} {s : Sl} {l : List α} {o : List Nat} (h : SlF w s e n f l o) : ∀ k ∈ o, k < w.heap.size := by
 rcases h.2 with ⟨_, _, _, rfl⟩ | ⟨b, off, c, _, rfl, hb, _⟩
 ·simp
 ·intro k hk; simp only [List.mem_singleton] at hk; subst hk; exact hb.lt
theorem SlF.fr {S : List Nat} {w w' : World} {s : Sl} {l : List α} {o : List Nat} (h : SlF w s e n f l o) (hf : Fr S w w') (hn : ∀ k ∈ o, k ∉ S) : SlF w' s e n f l o := by
 refine ⟨h.1, ?_⟩
 rcases h.2 with h1 | ⟨b, off, c, h1, rfl, hb, h2⟩
 ·exact .inl h1
 ·exact .inr ⟨b, off, c, h1, rfl, hb.fr hf (hn b (by simp)), h2⟩
theorem SlF.blk {w : World} {b : Nat} {l : List α} {m : Nat} (hb : Blk w b e (l.flatMap f)) (hm : l.length = m) (hf : ∀ x, (f x).length = n) : SlF w ⟨some ⟨b, 0, none⟩, m, m⟩ e n f l [b] := by
 refine ⟨hm, .inr ⟨b, 0, _, rfl, rfl, hb, Nat.le_refl _, ?_, ?_⟩⟩
 ·rw [fm_len hf, hm]; simp
 ·rw [List.drop_zero, List.take_of_length_le]; rw [fm_len hf, hm]; exact Nat.le_refl _
theorem SlF.ix (hf : ∀ x, (f x).length = n) {w : World} {s : Sl} {l : List α} {o : List Nat} (h : SlF w s e n f l o) {i : Int} {x : α} (hi : 0 ≤ i) (hx : l[i.toNat]? = some x) {K : Addr → Prop}
  (hK : ∀ b off c, o = [b] → Blk w b e c → off + n ≤ c.length → (∀ j, j < n → c[off + j]? = (f x)[j]?) →
   (∀ w' y, Blk w' b e (c.take off ++ f y ++ c.drop (off + n)) → SlF w' s e n f (l.set i.toNat y) o) → K ⟨b, off, none⟩) :
  Ix s.a s.len i n K := by
 have hlt := (List.getElem?_eq_some_iff.1 hx).1
 have hl := h.1
 refine ⟨hi, by omega, ?_⟩
 rcases h.2 with ⟨h1, h2, _⟩ | ⟨b, off, c, h1, ho, hb, h2, h3, h4⟩
 ·omega
 rw [h1]
 simp only [NN_some, Addr.add_none]
 have e1 : (i.toNat + 1) * n ≤ s.len * n := Nat.mul_le_mul_right _ (by omega)
 have e2 : s.len * n ≤ s.cap * n := Nat.mul_le_mul_right _ h2
 rw [Nat.add_mul, Nat.one_mul] at e1
 refine hK b (off + i.toNat * n) c ho hb (by omega) ?_ ?_
 ·intro j hj
  rw [← fm_get hf hx hj, ← h4, List.getElem?_take, if_pos (by omega), List.getElem?_drop, Nat.add_assoc]
 ·intro w' y hb'
  refine ⟨by simpa using hl, .inr ⟨b, off, _, h1, ho, hb', h2, ?_, ?_⟩⟩
  ·simp only [List.length_append, List.length_take, List.length_drop, hf]; omega
  ·rw [fm_set hf _ _ _ hlt, ← h4]
   apply List.ext_getElem?
   intro j
   have l1 : (List.take (off + i.toNat * n) c).length = off + i.toNat * n := by rw [List.length_take]; omega
   have l2 : (List.take (i.toNat * n) (List.take (s.len * n) (List.drop off c))).length = i.toNat * n := by simp only [List.length_take, List.length_drop]; omega
   simp only [List.getElem?_take, List.getElem?_drop, List.getElem?_append, List.length_append, l1, l2, hf]
   have e4 : (i.toNat + 1) * n = i.toNat * n + n := by rw [Nat.add_mul, Nat.one_mul]
   rw [e4]
   by_cases hj : j < s.len * n
   ·rw [if_pos hj]
    by_cases c1 : j < i.toNat * n
    ·rw [if_pos (by omega), if_pos (by omega), if_pos (by omega), if_pos (by omega), if_pos (by omega), if_pos (by omega), if_pos (by omega)]
    ·by_cases c2 : j < i.toNat * n + n
     ·rw [if_pos (by omega), if_neg (by omega), if_pos (by omega), if_neg (by omega)]
      congr 1; omega
     ·rw [if_neg (by omega), if_neg (by omega), if_pos (by omega)]
      congr 1; omega
   ·rw [if_neg hj]
    rw [if_neg (by omega), if_neg (by omega)]
section append
variable {P : Program} {w : World}
theorem SlF.app (hf : ∀ x, (f x).length = n) {s : Sl} {t ty : TypeId} {i : TypeInfo} {z : Value} {l news : List α} {o : List Nat} {x : Addr} {m c' : Nat} {K : Sl → World → Prop}
  (ht : P.underlying t = some (.slice e)) (hi : P.info? e = some i) (hsz : i.size = n) (hz : i.zero = some z) (hz1 : z.cells.size = n)
  (h : SlF w s e n f l o) (hl : news.length = m) (hnews : ∀ j u, (news.flatMap f)[j]? = some u → w.cell? (x.add j) = some u) (h1 : ∀ u ∈ news.flatMap f, u.oneCell' = true)
  (hb : (s.len + m) * i.bytes ≤ 140737488355328) (hn : s.len + m ≤ 140737488355328)
  (hK : ∀ s' w' o', SlF w' s' e n f (l ++ news) o' → s'.len = s.len + m → (o' = o ∨ ∃ k, w.heap.size ≤ k ∧ k < w'.heap.size ∧ o' = [k]) → (s.cap < s.len + m → o' ≠ [] ∧ ∀ k ∈ o', w.heap.size ≤ k) → Fr o w w' → (s.cap < s.len + m → Fr [] w w') → (s.a ≠ none ∨ m ≠ 0 → s'.a ≠ none) → K s' w') :
  Run .sl P (Builtin.append_ #[t, t] ty #[.slice s.a s.len s.cap, .slice (some x) m c']) w K := by
 have hvl := h.1
 have hnl : (news.flatMap f).length = m * n := by rw [fm_len hf, hl]
 have hll : (l.flatMap f).length = s.len * n := by rw [fm_len hf, hvl]
 have hadd : ∀ a b : Nat, (a + b) * n = a * n + b * n := fun a b => Nat.add_mul a b n
 have hfit : ∀ cap, cap < s.len + m → Builtin.nextslicecap (s.len + m) cap * i.bytes ≤ 281474976710656 := fun cap hc => growslice_fits hc hb
 have grown : ∀ (cap : Nat) (w1 : World), w1 = w.drew.alloc (.cells ((l.flatMap f).toArray ++ (news.flatMap f).toArray ++ Builtin.zeroCells z.cells (grownCap w (s.len + m) cap e - (s.len + m))) e) →
   SlF w1 ⟨some ⟨w.heap.size, 0, none⟩, s.len + m, grownCap w (s.len + m) cap e⟩ e n f (l ++ news) [w.heap.size] ∧ Fr [] w w1 ∧ w.heap.size < w1.heap.size := by
  intro cap w1 hw1
  subst hw1
  have hge := grownCap_ge w (s.len + m) cap e
  have hge' : (s.len + m) * n ≤ grownCap w (s.len + m) cap e * n := Nat.mul_le_mul_right _ hge
  refine ⟨⟨by simp [hvl, hl], .inr ⟨w.heap.size, 0, (l.flatMap f ++ news.flatMap f ++ (Builtin.zeroCells z.cells (grownCap w (s.len + m) cap e - (s.len + m))).toList), rfl, rfl, ?_, hge, ?_, ?_⟩⟩, ?_, by simp⟩
  ·have := Blk.alloc w.drew (l.flatMap f ++ news.flatMap f ++ (Builtin.zeroCells z.cells (grownCap w (s.len + m) cap e - (s.len + m))).toList) e
   have e1 : (l.flatMap f ++ news.flatMap f ++ (Builtin.zeroCells z.cells (grownCap w (s.len + m) cap e - (s.len + m))).toList).toArray = (l.flatMap f).toArray ++ (news.flatMap f).toArray ++ Builtin.zeroCells z.cells (grownCap w (s.len + m) cap e - (s.len + m)) := by
    apply Array.ext'; simp
   rw [e1] at this
   simp only [Blk] at this ⊢
   exact this.trans (by rw [e1])
  ·have e2 : (grownCap w (s.len + m) cap e - (s.len + m)) * n = grownCap w (s.len + m) cap e * n - (s.len + m) * n := Nat.sub_mul _ _ _
   simp only [List.length_append, Array.length_toList, size_zeroCells, hz1, hnl, hll]
   rw [e2, hadd] at *
   show 0 + _ * n ≤ _
   omega
  ·simp only [List.drop_zero, List.flatMap_append]
   rw [List.take_left' (by simp only [List.length_append, hnl, hll, hadd])]
  ·exact ⟨rfl, rfl, rfl, by simp, fun k hk _ => Below.heap_alloc w.drew _ k hk⟩
 rcases h.2 with ⟨ha, hl0, hc0, ho⟩ | ⟨b, off, c, ha, ho, hbk, hcap, hoff, htk⟩
 ·have hvs : l = [] := List.eq_nil_of_length_eq_zero (by omega)
  by_cases hm : m = 0
  ·subst hm
   have hnn : news = [] := List.eq_nil_of_length_eq_zero hl
   subst hnn
   refine ⟨s, w, ?_, hK s w o (by simpa using h) (by simp) (.inl rfl) (by omega) (Fr.refl _ _) (by omega) (by simp [ha])⟩
   rw [ha, hl0, hc0]
   simp [Kd.inj, ha, hl0, hc0, Builtin.append_, run_underlying ht, sizeOf, typeInfo, hi, Builtin.lenOf, Builtin.firstCells, loadCells, loadCellsFrom]
  ·have hr := run_append_nil (P := P) w t ty e i z ht hi hz x m c' (news.flatMap f) (by rw [hsz]; exact hnl) hnews (by omega) (by omega) (by
    have := hb; rw [hl0, Nat.zero_add] at this; omega)
   obtain ⟨g1, g2, g3⟩ := grown 0 _ rfl
   rw [hl0, Nat.zero_add] at g1 g2 g3
   refine ⟨⟨some ⟨w.heap.size, 0, none⟩, m, grownCap w m 0 e⟩, _, ?_, hK _ _ [w.heap.size] g1 (by simp [hl0]) (.inr ⟨_, Nat.le_refl _, g3, rfl⟩) (fun _ => ⟨by simp, by simp⟩) (g2.mono (by simp)) (fun _ => g2) (by simp)⟩
   rw [ha, hl0, hc0, hr]
   simp [Kd.inj, hvs]
 ·subst ho
  have hcap' : s.len * n ≤ s.cap * n := Nat.mul_le_mul_right _ hcap
  by_cases hroom : s.len + m ≤ s.cap
  ·have hroom' : s.len * n + m * n ≤ s.cap * n := by rw [← hadd]; exact Nat.mul_le_mul_right _ hroom
   have hf1 := run_firstCells_some (P := P) w n m x m c' (news.flatMap f) hnl hnews
   have hst := run_storeCells_at P b (off + s.len * n) e (news.flatMap f) 0 c.toArray w hbk (by simp only [List.size_toArray, hnl]; omega) h1
   refine ⟨⟨some ⟨b, off, none⟩, s.len + m, s.cap⟩, _, ?_, hK _ (w.setRow b (c.take (off + s.len * n) ++ news.flatMap f ++ c.drop (off + s.len * n + (news.flatMap f).length)).toArray) [b] ?_ rfl (.inl rfl) (by omega) ?_ (by omega) (by simp)⟩
   ·rw [ha]
    simp only [Nat.add_zero] at hst
    simp [Builtin.append_, run_underlying ht, sizeOf, typeInfo, hi, Builtin.lenOf, hroom, hsz, hf1, Addr.add_none, hst, Kd.inj]
   ·refine ⟨by simp [hvl, hl], .inr ⟨b, off, _, rfl, rfl, setRow_heap w b c.toArray _ e _ hbk, hroom, ?_, ?_⟩⟩
    ·simp only [List.length_append, List.length_take, List.length_drop, hnl]; omega
    apply List.ext_getElem?
    intro j
    rw [List.flatMap_append, ← htk]
    simp only [List.getElem?_take, List.getElem?_drop, List.getElem?_append, List.length_append, List.length_take, List.length_drop, hnl, hadd]
    have e1 : min (off + s.len * n) c.length = off + s.len * n := by omega
    have e2 : min (s.len * n) (c.length - off) = s.len * n := by omega
    rw [e1, e2]
    by_cases hj : j < s.len * n + m * n
    ·rw [if_pos hj, if_pos (by omega)]
     by_cases hj2 : j < s.len * n
     ·rw [if_pos (by omega), if_pos (by omega), if_pos (by omega), if_pos (by omega)]
     ·rw [if_neg (by omega), if_neg (by omega)]
      congr 1; omega
    ·rw [if_neg hj, if_neg (by omega)]
     symm
     apply List.getElem?_eq_none
     rw [hnl]; omega
   ·exact ⟨rfl, rfl, rfl, by simp, fun k _ hk => setRow_other w b k _ (fun e => hk (by simp [e]))⟩
  ·have holds : ∀ j v, (l.flatMap f)[j]? = some v → w.cell? ((⟨b, off, none⟩ : Addr).add j) = some v := by
    intro j v hj
    rw [Addr.add_none, hbk.cell]
    rw [← htk, List.getElem?_take] at hj
    split at hj
    ·rw [List.getElem?_drop] at hj; exact hj
    ·cases hj
   have hr := run_append_grow (P := P) w t ty e i z ht hi hz ⟨b, off, none⟩ s.len s.cap (l.flatMap f) (by rw [hsz]; exact hll) holds x m c' (news.flatMap f) (by rw [hsz]; exact hnl) hnews (by omega) (by omega) (hfit _ (by omega))
   obtain ⟨g1, g2, g3⟩ := grown s.cap _ rfl
   refine ⟨⟨some ⟨w.heap.size, 0, none⟩, s.len + m, grownCap w (s.len + m) s.cap e⟩, _, ?_, hK _ _ [w.heap.size] g1 rfl (.inr ⟨_, Nat.le_refl _, g3, rfl⟩) (fun _ => ⟨by simp, by simp⟩) (g2.mono (by simp)) (fun _ => g2) (by simp)⟩
   rw [ha, hr]
   rfl
end append
end
def SlR {α : Type} (w : World) (s : Sl) (n : Nat) (f : α → List Value) (l : List α) (o : List Nat) : Prop :=
  l.length = s.len ∧
  ((s.len = 0 ∧ o = []) ∨
   ∃ x, s.a = some x ∧ o = [x.block] ∧ x.block < w.heap.size ∧ ∀ j u, (l.flatMap f)[j]? = some u → w.cell? (x.add j) = some u)
section
variable {α : Type} {f : α → List Value} {n : Nat} {e : TypeId}
theorem SlR.nil {w : World} {s : Sl} (h : s.len = 0) : SlR w s n f [] [] := ⟨h.symm, .inl ⟨h, rfl⟩⟩
theorem SlR.len {w : World} {s : Sl} {l : List α} {o : List Nat} (h : SlR w s n f l o) : l.length = s.len := h.1
theorem SlR.lt {w : World} {s : Sl} {l : List α} {o : List Nat} (h : SlR w s n f l o) : ∀ k ∈ o, k < w.heap.size := by
 rcases h.2 with ⟨_, rfl⟩ | ⟨x, _, rfl, hx, _⟩
 ·simp
 ·intro k hk; simp only [List.mem_singleton] at hk; subst hk; exact hx
theorem Addr.add_block (x : Addr) (j : Nat) : (x.add j).block = x.block := by
 unfold Addr.add; split <;> rfl
theorem Fr.cell {S : List Nat} {w w' : World} (hf : Fr S w w') {a : Addr} (h1 : a.block < w.heap.size) (h2 : a.block ∉ S) : w'.cell? a = w.cell? a := by
 unfold World.cell?
 rw [hf.block _ h1 h2]
theorem SlR.fr {S : List Nat} {w w' : World} {s : Sl} {l : List α} {o : List Nat} (h : SlR w s n f l o) (hf : Fr S w w') (hn : ∀ k ∈ o, k ∉ S) : SlR w' s n f l o := by
 refine ⟨h.1, ?_⟩
 rcases h.2 with h1 | ⟨x, h1, rfl, hx, h2⟩
 ·exact .inl h1
 ·exact .inr ⟨x, h1, rfl, Nat.lt_of_lt_of_le hx hf.size, fun j u hj => by
   rw [hf.cell (by rw [Addr.add_block]; exact hx) (by rw [Addr.add_block]; exact hn _ (by simp))]; exact h2 j u hj⟩
theorem SlF.toR {w : World} {s : Sl} {l : List α} {o : List Nat} (h : SlF w s e n f l o) : SlR w s n f l o := by
 refine ⟨h.1, ?_⟩
 rcases h.2 with ⟨_, h1, _, h2⟩ | ⟨b, off, c, h1, ho, hb, h2, h3, h4⟩
 ·exact .inl ⟨h1, h2⟩
 ·refine .inr ⟨_, h1, ho, hb.lt, fun j u hj => ?_⟩
  rw [Addr.add_none, hb.cell]
  rw [← h4, List.getElem?_take] at hj
  split at hj
  ·rw [List.getElem?_drop] at hj; exact hj
  ·cases hj
theorem Addr.add_add_any (x : Addr) (i j : Nat) : (x.add i).add j = x.add (i + j) := by
 unfold Addr.add
 by_cases h1 : i = 0
 ·simp [h1]
 ·by_cases h2 : j = 0
  ·simp [h2]
  ·simp [h1, h2, Nat.add_assoc]
theorem SlR.ix (hf : ∀ x, (f x).length = n) {w : World} {s : Sl} {l : List α} {o : List Nat} (h : SlR w s n f l o) {i : Int} {x : α} (hi : 0 ≤ i) (hx : l[i.toNat]? = some x) {K : Addr → Prop}
  (hK : ∀ a, (∀ j, j < n → w.cell? (a.add j) = (f x)[j]?) → K a) : Ix s.a s.len i n K := by
 have hlt := (List.getElem?_eq_some_iff.1 hx).1
 have hl := h.1
 refine ⟨hi, by omega, ?_⟩
 rcases h.2 with ⟨h1, _⟩ | ⟨y, h1, ho, hy, h2⟩
 ·omega
 rw [h1]
 simp only [NN_some]
 refine hK _ fun j hj => ?_
 have e1 := fm_get hf hx hj
 have e2 : (f x)[j]? = some ((f x)[j]'(by rw [hf]; exact hj)) := by simp
 rw [Addr.add_add_any, e2]
 exact h2 _ _ (e1.trans e2)
section append
variable {P : Program} {w : World}
theorem SlF.appS (hf : ∀ x, (f x).length = n) {s s2 : Sl} {t ty : TypeId} {i : TypeInfo} {z : Value} {l news : List α} {o o2 : List Nat} {K : Sl → World → Prop}
  (ht : P.underlying t = some (.slice e)) (hi : P.info? e = some i) (hsz : i.size = n) (hz : i.zero = some z) (hz1 : z.cells.size = n)
  (h : SlF w s e n f l o) (h2 : SlR w s2 n f news o2) (h1 : ∀ x, ∀ u ∈ f x, u.oneCell' = true)
  (hb : (s.len + s2.len) * i.bytes ≤ 140737488355328) (hn : s.len + s2.len ≤ 140737488355328)
  (hK : ∀ s' w' o', SlF w' s' e n f (l ++ news) o' → s'.len = s.len + s2.len → (o' = o ∨ ∃ k, w.heap.size ≤ k ∧ k < w'.heap.size ∧ o' = [k]) → (s.cap < s.len + s2.len → o' ≠ [] ∧ ∀ k ∈ o', w.heap.size ≤ k) → Fr o w w' → (s.cap < s.len + s2.len → Fr [] w w') → (s.a ≠ none ∨ s2.len ≠ 0 → s'.a ≠ none) → K s' w') :
  Run .sl P (Builtin.append_ #[t, t] ty #[.slice s.a s.len s.cap, .slice s2.a s2.len s2.cap]) w K := by
 rcases h2.2 with ⟨hl0, ho⟩ | ⟨x, ha, ho, _, hcell⟩
 ·have hnn : news = [] := List.eq_nil_of_length_eq_zero (by rw [h2.1, hl0])
  subst hnn
  refine ⟨s, w, ?_, hK s w o (by simpa using h) (by omega) (.inl rfl) (fun hc => ?_) (Fr.refl _ _) (fun _ => Fr.refl _ _) (by simp [hl0])⟩
  ·rcases h.2 with ⟨ga, gl0, gc0, go⟩ | ⟨b, off, c, ga, go, gbk, gcap, goff, gtk⟩
   ·rw [hl0, ga, gl0, gc0]
    cases s2.a <;> simp [Kd.inj, ga, gl0, gc0, Builtin.append_, run_underlying ht, sizeOf, typeInfo, hi, Builtin.lenOf, Builtin.firstCells, loadCells, loadCellsFrom]
   ·rw [hl0, ga]
    cases s2.a <;> simp [Kd.inj, ga, gcap, Builtin.append_, run_underlying ht, sizeOf, typeInfo, hi, Builtin.lenOf, Builtin.firstCells, storeCells, loadCells, loadCellsFrom]
  ·rcases h.2 with ⟨ga, gl0, gc0, go⟩ | ⟨b, off, c, ga, go, gbk, gcap, goff, gtk⟩ <;> omega
 ·rw [ha]
  exact SlF.app hf ht hi hsz hz hz1 h h2.1 hcell (fun u hu => by
   obtain ⟨x, _, hu⟩ := List.mem_flatMap.1 hu
   exact h1 x u hu) hb hn hK
end append
end
theorem Addr.add_zero_cell {w : World} {a : Addr} {v : Value} (h : w.cell? (a.add 0) = some v) : w.cell? a = some v := by
 obtain ⟨b, o, sp⟩ := a
 cases sp with
 | none => simpa [Addr.add] using h
 | some m => simpa [Addr.add] using h
theorem ldR {k : Kd} {w : World} {a : Addr} {x : k.T} {K : k.T → Prop} {j : Nat} {c : List Value} (h : w.cell? (a.add j) = c[j]?) (hx : c[j]? = some (k.inj x)) (hK : K x) : Ld k w (a.add j) K :=
 ⟨x, h.trans hx, hK⟩
theorem ldR0 {k : Kd} {w : World} {a : Addr} {x : k.T} {K : k.T → Prop} {c : List Value} (h : w.cell? (a.add 0) = c[0]?) (hx : c[0]? = some (k.inj x)) (hK : K x) : Ld k w a K :=
 ⟨x, Addr.add_zero_cell (h.trans hx), hK⟩
theorem sto {w : World} {b o n : Nat} {e : TypeId} {c : List Value} {v : Value} {K : World → Prop} (h : Blk w b e c) (ho : o + n < c.length) (hv : v.oneCell' = true)
  (hK : ∀ w', Blk w' b e (c.set (o + n) v) → Fr [b] w w' → w'.heap.size = w.heap.size → K w') : St ((⟨b, o, none⟩ : Addr).add n) v w K := by
 rw [Addr.add_none]
 exact st h ho hv hK
theorem calls_true {P : Program} {f : FuncId} {args : List Value} {w : World} (h : CallK P f args [.one .b] w (fun b w' => b = true ∧ Fr [] w w')) :
  Calls P f args.toArray w fun e w' => e = .returned (.bool true) ∧ Below w.heap.size w w' := by
 refine Calls.mono h fun e w' h => ?_
 obtain ⟨v, rfl, hv⟩ := h
 obtain ⟨x, rfl, rfl, hf⟩ : ∃ x, v = Value.bool x ∧ x = true ∧ Fr [] w w' := by
  have hv' : Kd.view .b v (fun x => x = true ∧ Fr [] w w') := hv
  cases v with
  | bool x => exact ⟨x, rfl, hv'.1, hv'.2⟩
  | _ => exact hv'.elim
 exact ⟨rfl, hf.below⟩
end Go.Den
end

section
namespace Go.Den
open Go.RowKit
mutual
def bulkD {H : Type} : DataW H → Nat
 | .lit (.string bytes) => bytes.length + 1
 | .lit _ => 1
 | .nil => 1
 | .ptr d => bulkD d + 1
 | .slice elems spare => bulkDAll elems + bulkDAll spare + 1
 | .agg parts => bulkDAll parts + 1
 | .iface _ d => bulkD d + 1
 | .map entries => bulkDEntries entries + 1
 | .held _ => 1
def bulkDAll {H : Type} : List (DataW H) → Nat
 | [] => 0
 | d :: r => bulkD d + bulkDAll r
def bulkDEntries {H : Type} : List (Lit × DataW H) → Nat
 | [] => 0
 | x :: r => bulkDEntry x + bulkDEntries r
def bulkDEntry {H : Type} : Lit × DataW H → Nat
  | (.string bytes, d) => bytes.length + bulkD d + 1
  | (_, d) => bulkD d + 1
 end
theorem bulkD_mem {H : Type} {d : DataW H} : ∀ {l : List (DataW H)}, d ∈ l → bulkD d ≤ bulkDAll l
 | x :: l, h => by
  rcases List.mem_cons.1 h with rfl | h
  ·simp only [bulkDAll]; omega
  ·have := bulkD_mem h
   simp only [bulkDAll]; omega
theorem bulkD_pos {H : Type} (d : DataW H) : 1 ≤ bulkD d := by
 cases d with
 | lit l => cases l <;> simp [bulkD]
 | _ => simp [bulkD]
theorem bulkD_len {H : Type} : ∀ l : List (DataW H), l.length ≤ bulkDAll l
 | [] => by simp [bulkDAll]
 | d :: l => by
  have := bulkD_len l
  have := bulkD_pos d
  simp only [bulkDAll, List.length_cons]; omega
def RdV (P : Program) (w : World) (B : Nat) : Nat → TypeId → List Value → Prop
 | 0, _, _ => False
 | n + 1, t, cs => match P.underlying t with
  | some .bool => ∃ b, cs = [.bool b]
  | some (.int k) => ∃ m, cs = [.int k m] ∧ (Lit.int k m).wf = true
  | some .string => ∃ s : ByteArray, cs = [.string s] ∧ s.size ≤ reachBytes ∧ s.size ≤ B
  | some (.slice e) => cs = [.slice none 0 0] ∨ ∃ a len cap, cs = [.slice (some a) len cap] ∧ len ≤ cap ∧ len * P.bytesOf e ≤ reachBytes ∧ len ≤ B ∧
    ∀ i, i < len → ∃ ci : List Value, ci.length = P.cellsOf e ∧ (∀ j, j < P.cellsOf e → w.cell? ((a.add (i * P.cellsOf e)).add j) = ci[j]?) ∧ RdV P w B n e ci
  | some (.struct fs) => cs.length = P.cellsOf t ∧ ∀ (i : Nat) (f : Field), fs[i]? = some f → RdV P w B n f.type ((cs.drop f.offset).take (P.cellsOf f.type))
  | some (.array m e) => cs.length = P.cellsOf t ∧ ∀ i, i < m → RdV P w B n e ((cs.drop (i * P.cellsOf e)).take (P.cellsOf e))
  | _ => True
section
variable {H : Type} {enc : TypeId × Value → H} {P : Program} {w : World} {base : Nat} {spare : Nat → Bool} {held : Bool}
theorem weights_all {e : TypeId} {d : DataW H} {k : Nat} : ∀ {l : List (DataW H)}, d ∈ l → k ∈ d.weights P e → k ∈ DataW.weightsAll P e l
 | x :: l, h, hk => by
  simp only [DataW.weightsAll, List.mem_append]
  rcases List.mem_cons.1 h with rfl | h
  ·exact .inl hk
  ·exact .inr (weights_all h hk)
theorem rd_of_trod (B : Nat) : ∀ (n : Nat) (t : TypeId) (cs : List Value) (d : DataW H) (ps : List MemPlace), DataW.trod enc P w base spare held n t cs = some (d, ps) → (∀ k ∈ d.weights P t, k ≤ reachBytes) → (maxLen ≤ B ∨ bulkD d ≤ B) → RdV P w B n t cs
 | 0, t, cs, d, ps, h, _, _ => by simp [DataW.trod] at h
 | n + 1, t, cs, d, ps, h, hw, hb => by
  have ih := rd_of_trod B n
  unfold RdV
  split
  ·rename_i hu
   obtain ⟨b, h1, _⟩ := DataW.trod_bool hu h
   exact ⟨b, h1⟩
  ·rename_i k hu
   obtain ⟨m, h1, _, h2⟩ := DataW.trod_int hu h
   exact ⟨m, h1, h2⟩
  ·rename_i hu
   obtain ⟨s, h1, h2, h3⟩ := DataW.trod_string hu h
   simp only [Prod.mk.injEq] at h2
   obtain ⟨rfl, _⟩ := h2
   have hl : s.data.toList.length = s.size := by rw [Array.length_toList]; rfl
   refine ⟨s, h1, ?_, ?_⟩
   ·have := hw s.data.toList.length (by unfold DataW.weights; exact List.mem_singleton.2 rfl)
    rw [hl] at this; exact this
   ·rcases hb with hb | hb
    ·exact Nat.le_trans h3 hb
    ·simp only [bulkD] at hb; rw [hl] at hb; omega
  ·rename_i e hu
   rcases DataW.trod_slice hu h with ⟨h1, _⟩ | ⟨a, len, cap, elems, rest, m, hm, h1, h2, hba, hl, hc, hlen, hel, _⟩
   ·exact .inl h1
   ·obtain rfl : m = n := by omega
    simp only [Prod.mk.injEq] at h2
    obtain ⟨rfl, _⟩ := h2
    refine .inr ⟨a, len, cap, h1, hl, ?_, ?_, ?_⟩
    ·have := hw ((elems.map (·.1)).length + (rest.map (·.1)).length |> (· * P.bytesOf e)) (by simp [DataW.weights, hu])
     simp only [List.length_map] at this
     have h3 : len * P.bytesOf e ≤ (elems.length + rest.length) * P.bytesOf e := Nat.mul_le_mul_right _ (by omega)
     exact Nat.le_trans h3 this
    ·rcases hb with hb | hb
     ·omega
     ·simp only [bulkD] at hb
      have := bulkD_len (elems.map (·.1))
      simp only [List.length_map] at this
      omega
    ·intro i hi
     have h3 := hel i hi
     have h4 : elems[i]? = some elems[i] := List.getElem?_eq_getElem (by omega)
     rw [h4, Option.bind_eq_some_iff] at h3
     obtain ⟨ci, hci, hd⟩ := h3
     obtain ⟨_, k1, k2⟩ := World.cells?_some hci
     have hmem : (elems[i]).1 ∈ elems.map (·.1) := List.mem_map.2 ⟨_, List.getElem_mem _, rfl⟩
     refine ⟨ci, k1, k2, ih e ci (elems[i]).1 (elems[i]).2 hd (fun k hk => hw k ?_) ?_⟩
     ·simp only [DataW.weights, hu, List.mem_cons, List.mem_append]
      exact .inr (.inl (weights_all hmem hk))
     ·refine hb.imp id fun hb => ?_
      have := bulkD_mem hmem
      simp only [bulkD] at hb
      omega
  ·rename_i fs hu
   obtain ⟨xs, m, hm, hx, hl, hxl, hf⟩ := DataW.trod_struct hu h
   obtain rfl : m = n := by omega
   simp only [Prod.mk.injEq] at hx
   obtain ⟨rfl, _⟩ := hx
   refine ⟨hl, fun i f hi => ?_⟩
   have hlt := (Array.getElem?_eq_some_iff.1 hi).1
   have h3 := hf i f hi
   have h4 : xs[i]? = some xs[i] := List.getElem?_eq_getElem (by omega)
   rw [h4] at h3
   have hmem : (xs[i]).1 ∈ xs.map (·.1) := List.mem_map.2 ⟨_, List.getElem_mem _, rfl⟩
   refine ih f.type _ (xs[i]).1 (xs[i]).2 h3 (fun k hk => hw k ?_) (hb.imp id fun hb => ?_)
   ·simp only [DataW.weights, hu]
    exact DataW.weights_mem_each (j := i) (t := f.type) (d := (xs[i]).1) (by simp [hi]) (by simp [show i < xs.length by omega]) k hk
   ·have := bulkD_mem hmem
    simp only [bulkD] at hb
    omega
  ·rename_i m' e hu
   obtain ⟨xs, m, hm, hx, hl, hxl, hf⟩ := DataW.trod_array hu h
   obtain rfl : m = n := by omega
   simp only [Prod.mk.injEq] at hx
   obtain ⟨rfl, _⟩ := hx
   refine ⟨hl, fun i hi => ?_⟩
   have h3 := hf i hi
   have h4 : xs[i]? = some xs[i] := List.getElem?_eq_getElem (by omega)
   rw [h4] at h3
   have hmem : (xs[i]).1 ∈ xs.map (·.1) := List.mem_map.2 ⟨_, List.getElem_mem _, rfl⟩
   refine ih e _ (xs[i]).1 (xs[i]).2 h3 (fun k hk => hw k ?_) (hb.imp id fun hb => ?_)
   ·simp only [DataW.weights, hu]
    exact weights_all hmem hk
   ·have := bulkD_mem hmem
    simp only [bulkD] at hb
    omega
  ·trivial
variable {B n : Nat} {t : TypeId} {cs : List Value}
theorem rd_int {k : IntKind} (hu : P.underlying t = some (.int k)) (h : RdV P w B n t cs) : ∃ m, cs = [.int k m] ∧ (Lit.int k m).wf = true := by
 cases n with
 | zero => exact h.elim
 | succ n => unfold RdV at h; rw [hu] at h; exact h
theorem rd_slice {α : Type} {f : α → List Value} {nn e : Nat} {G : α → Prop} (hu : P.underlying t = some (.slice e)) (hc : P.cellsOf e = nn) (hnn : 0 < nn) (hel : ∀ m ci, ci.length = nn → RdV P w B m e ci → ∃ x, ci = f x ∧ G x) (h : RdV P w B n t cs) :
  ∃ (s : Sl) (l : List α) (o : List Nat), cs = [.slice s.a s.len s.cap] ∧ SlR w s nn f l o ∧ (∀ x ∈ l, G x) ∧ l.length * P.bytesOf e ≤ reachBytes ∧ l.length ≤ B ∧ s.len ≤ s.cap := by
 cases n with
 | zero => exact h.elim
 | succ n =>
  unfold RdV at h
  rw [hu] at h
  rcases h with rfl | ⟨a, len, cap, rfl, h1, h2, h3, h4⟩
  ·exact ⟨⟨none, 0, 0⟩, [], [], rfl, SlR.nil rfl, by simp, by simp, by simp, Nat.le_refl _⟩
  ·rw [hc] at h4
   have hx : ∀ i, i < len → ∃ x : α, (∀ j, j < nn → w.cell? ((a.add (i * nn)).add j) = (f x)[j]?) ∧ (f x).length = nn ∧ G x := by
    intro i hi
    obtain ⟨ci, k1, k2, k3⟩ := h4 i hi
    obtain ⟨x, rfl, hg⟩ := hel n ci k1 k3
    exact ⟨x, k2, k1, hg⟩
   -- the list of them
   have build : ∀ k, k ≤ len → ∃ l : List α, l.length = k ∧ ∀ i, i < k → ∃ x, l[i]? = some x ∧ (∀ j, j < nn → w.cell? ((a.add (i * nn)).add j) = (f x)[j]?) ∧ (f x).length = nn ∧ G x := by
    intro k
    induction k with
    | zero => intro _; exact ⟨[], rfl, by intro i hi; omega⟩
    | succ k ih =>
     intro hk
     obtain ⟨l, q1, q2⟩ := ih (by omega)
     obtain ⟨x, q3⟩ := hx k (by omega)
     refine ⟨l ++ [x], by simp [q1], fun i hi => ?_⟩
     by_cases hik : i < k
     ·obtain ⟨y, r1, r2⟩ := q2 i hik
      exact ⟨y, by rw [List.getElem?_append_left (by omega)]; exact r1, r2⟩
     ·obtain rfl : i = k := by omega
      exact ⟨x, by rw [List.getElem?_append_right (by omega), q1, Nat.sub_self]; rfl, q3⟩
   obtain ⟨l, q1, q2⟩ := build len (Nat.le_refl _)
   have hG : ∀ x ∈ l, (f x).length = nn ∧ G x := by
    intro x hx
    obtain ⟨i, hi⟩ := List.getElem?_of_mem hx
    obtain ⟨y, r1, _, r3, r4⟩ := q2 i (by have := (List.getElem?_eq_some_iff.1 hi).1; omega)
    obtain rfl := Option.some.inj (hi.symm.trans r1)
    exact ⟨r3, r4⟩
   refine ⟨⟨some a, len, cap⟩, l, if len = 0 then [] else [a.block], rfl, ⟨q1, ?_⟩, fun x hx => (hG x hx).2, by rw [q1]; exact h2, by rw [q1]; exact h3, h1⟩
   by_cases h0 : len = 0
   ·exact .inl ⟨h0, by rw [if_pos h0]⟩
   ·refine .inr ⟨a, rfl, by rw [if_neg h0], ?_, ?_⟩
    ·obtain ⟨y, r1, r2, r3, _⟩ := q2 0 (by omega)
     have := r2 0 hnn
     rw [List.getElem?_eq_getElem (by omega)] at this
     have := World.block_lt_of_cell? w _ this
     rwa [Addr.add_block, Addr.add_block] at this
    ·-- cells of all elements
     have key : ∀ (l' : List α) (k : Nat), (∀ x ∈ l', (f x).length = nn) → (∀ i x, l'[i]? = some x → ∀ j, j < nn → w.cell? ((a.add ((k + i) * nn)).add j) = (f x)[j]?) → ∀ j u, (l'.flatMap f)[j]? = some u → w.cell? (a.add (k * nn + j)) = some u := by
      intro l'
      induction l' with
      | nil => intro k _ _ j u hj; simp at hj
      | cons x l' ih =>
       intro k hlen hcell j u hj
       rw [List.flatMap_cons] at hj
       by_cases hjn : j < nn
       ·rw [List.getElem?_append_left (by rw [hlen x (by simp)]; exact hjn)] at hj
        have := hcell 0 x rfl j hjn
        rw [Nat.add_zero, Addr.add_add_any] at this
        rw [this]; exact hj
       ·rw [List.getElem?_append_right (by rw [hlen x (by simp)]; omega), hlen x (by simp)] at hj
        have := ih (k + 1) (fun y hy => hlen y (by simp [hy])) (fun i y hy j hj => by
         have := hcell (i + 1) y (by simpa using hy) j hj
         rwa [show k + (i + 1) = k + 1 + i by omega] at this) (j - nn) u hj
        rw [show (k + 1) * nn + (j - nn) = k * nn + j by rw [Nat.add_mul, Nat.one_mul]; omega] at this
        exact this
     intro j u hj
     have := key l 0 (fun x hx => (hG x hx).1) (fun i x hi j hj => by
      obtain ⟨y, r1, r2, _⟩ := q2 i (by have := (List.getElem?_eq_some_iff.1 hi).1; omega)
      obtain rfl := Option.some.inj (hi.symm.trans r1)
      rw [Nat.zero_add]; exact r2 j hj) j u hj
     simpa using this
end
end Go.Den
end
