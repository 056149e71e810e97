/-
  A denotation of the model's code as one formula for each function. Part E: operations that write, and rows of operations.
-/
import Derived.Test.YtmbbfaigbhnhcaaDenD
set_option linter.unusedSimpArgs false
set_option linter.unusedVariables false
namespace Go.Den

/-- What the program's tables must meet, once for a program. -/
structure OkP (P : Program) : Prop where
  mixed : P.follows .mixedOrders = true
  names : (P.funcs.toList.all fun f => f.name != "runtime.NumGoroutine") = true

/-- n rows of zero cells, one behind the other. -/
def zrow (z : List Value) : Nat → List Value
  | 0 => []
  | n + 1 => z ++ zrow z n

/-- A slice made. -/
def Mk (z : List Value) (el : TypeId) (bytes : Nat) (l c : Int) (w : World) (K : Sl → World → Prop) : Prop :=
  0 ≤ l ∧ l ≤ c ∧ c ≤ 281474976710656 ∧ bytes * c ≤ 281474976710656 ∧
    Nw (.cells (zrow z c.toNat).toArray el) w fun a w' => K ⟨some a, l.toNat, c.toNat⟩ w'

/-- A call through a value of a function type. -/
def CallV (P : Program) (v : Value) (args : List Value) (shs : List Sh) (w : World) (R : Fn (kdsOf shs) (World → Prop)) : Prop :=
  ∃ f first captured, v = .func (.func f) first captured ∧ (∃ fn, P.funcs[f]? = some fn ∧ fn.body.isSome = true) ∧ CallK P f (first.toList ++ args ++ captured.toList) shs w R

/-- A call of a function that the model stands in for. -/
def CallX (P : Program) (f : FuncId) (args : List Value) (shs : List Sh) (w : World) (R : Fn (kdsOf shs) (World → Prop)) : Prop :=
  ∃ v w', (callFunc f args.toArray).run P w = .ok (.value v) w' ∧ viewRet shs v R w'

def dEff (P : Program) (op : Op) (ty : TypeId) (ρ : Operand → Option Value) (w : World) (K : Value → World → Prop) : Prop :=
  match op with
  | .alloc el =>
    match P.info? el with
    | some i => match i.zero with
      | some z => Nw (.cells z.cells el) w fun a w' => K (.pointer (some a)) w'
      | none => False
    | none => False
  | .box el x =>
    match ρ x with
    | some v => dCells P el v fun cs => Nw (.cells cs.toArray el) w fun a w' => K (.pointer (some a)) w'
    | none => False
  | .buildSlice t len parts =>
    match P.underlying t, mapO ρ (parts.toList.map (·.2)) with
    | some (.slice el), some vs => match P.info? el with
      | some inf => match inf.zero with
        | some z => cond (Nat.beq len 0) (match parts.toList with
            | [] => Nw (.cells #[] el) w fun a w' => K (.slice (some a) 0 0) w'
            | _ => False) <| cond (Nat.ble (len * inf.size) 1000000 && Nat.beq z.cells.size inf.size && !Nat.beq (len * inf.size) 0)
            (dFill P ((List.range len).map fun i => (i * inf.size, inf.size, el)) (zrow z.cells.toList len) ((parts.toList.map (·.1)).zip vs) fun cs =>
              Nw (.cells cs.toArray el) w fun a w' => K (.slice (some a) len len) w') False
        | none => False
      | none => False
    | _, _ => False
  | .store t x y =>
    match ρ x, ρ y with
    | some (.pointer p), some v => NN p fun a => dCells P t v fun cs => cond (Nat.beq cs.length (P.cellsOf t) && !Nat.beq (P.cellsOf t) 0) (StL a cs 0 w fun w' => K undef w') False
    | _, _ => False
  | .makeSlice t x y =>
    match P.underlying t, ρ x, ρ y with
    | some (.slice el), some (.int _ l), some (.int _ c) => match P.info? el with
      | some inf => match inf.zero with
        | some z => cond (Nat.beq z.cells.size inf.size && !Nat.beq inf.size 0)
            (Mk z.cells.toList el inf.bytes l c w fun s w' => K (.slice s.a s.len s.cap) w') False
        | none => False
      | none => False
    | _, _, _ => False
  | .makeMap t r =>
    match r with
    | none => Nw (.map #[] 0) w fun a w' => K (.map (some a.block)) w'
    | some x => match P.underlying t, ρ x with
      | some (.map _ _), some (.int _ _) => Nw (.map #[] 0) w fun a w' => K (.map (some a.block)) w'
      | _, _ => False
  | .mapUpdate t m k x =>
    match ρ m, ρ k, ρ x with
    | some m, some k, some x => RunU P (Instr.mapUpdate t m k x) w fun w' => K undef w'
    | _, _, _ => False
  | .insert t m k x =>
    match ρ m, ρ k, ρ x with
    | some m, some k, some x => RunU P (Instr.mapUpdate t m k x) w fun w' => K undef w'
    | _, _, _ => False
  | .range t x =>
    match ρ x with
    | some v => Run .p P (Instr.range t v) w fun p w' => K (.pointer p) w'
    | none => False
  | .next it isStr =>
    match ρ it with
    | some v => RunL (retShapes P ty) P (Instr.next v isStr ty) w (curry _ fun cs w' => K (mkRes (unflat (retShapes P ty) cs)) w')
    | none => False
  | .convert src dst x =>
    match P.underlying dst, ρ x with
    | some d, some v => Run (cellKd d) P (convert src dst v) w fun r w' => K ((cellKd d).inj r) w'
    | _, _ => False
  | .call c =>
    match mapO ρ c.args.toList with
    | none => False
    | some vs =>
      match c.callee with
      | .value (.func f) => match P.funcs[f]? with
        | some fn => cond fn.body.isSome
            (CallK P f vs (fn.resultTypes.toList.map (shapeOf P)) w (curry _ fun cs w' => K (mkRes (unflat (fn.resultTypes.toList.map (shapeOf P)) cs)) w'))
            (CallX P f vs (fn.resultTypes.toList.map (shapeOf P)) w (curry _ fun cs w' => K (mkRes (unflat (fn.resultTypes.toList.map (shapeOf P)) cs)) w'))
        | none => False
      | .value x => match ρ x with
        | some v => CallV P v vs (retShapes P ty) w (curry _ fun cs w' => K (mkRes (unflat (retShapes P ty) cs)) w')
        | none => False
      | .builtin .append => Run .sl P (Builtin.append_ c.argTypes ty vs.toArray) w fun s w' => K (.slice s.a s.len s.cap) w'
      | .builtin .copy => Run (.i .i64) P (Builtin.copy_ c.argTypes ty vs.toArray) w fun n w' => K (.int .i64 n) w'
      | .builtin .delete => Run .v P (Builtin.delete_ c.argTypes ty vs.toArray) w fun v w' => K v w'
      | .builtin .clear => Run .v P (Builtin.clear_ c.argTypes ty vs.toArray) w fun v w' => K v w'
      | _ => False
  | _ => False

/-- Does the operation only make a block? -/
def isAlloc : Op → Bool
  | .alloc _ | .box _ _ | .buildSlice _ _ _ | .makeSlice _ _ _ | .makeMap _ _ => true
  | _ => false

section
variable {P : Program} {a : Act} {ρ : Operand → Option Value} {w : World} {Q : Exit → Act → World → Prop}

theorem run_callFunc {f : FuncId} {fn : Func} {args : Array Value} (hP : OkP P) (hf : P.funcs[f]? = some fn) (hb : fn.body.isSome = true) :
    (callFunc f args).run P w = .ok (.enter f args) w := by
  have hn : fn.name ≠ "runtime.NumGoroutine" := by
    have := List.all_eq_true.1 hP.names fn (by
      obtain ⟨h1, h2⟩ := Array.getElem?_eq_some_iff.1 hf
      rw [← h2]; simp)
    simpa using this
  obtain ⟨c, hc⟩ := Option.isSome_iff_exists.1 hb
  simp [callFunc, hf, hn, hc]

theorem zrow_getElem {z : List Value} : ∀ (n i : Nat), i < n * z.length → (zrow z n)[i]? = z[i % z.length]?
  | 0, i, h => by simp at h
  | n + 1, i, h => by
    simp only [zrow]
    rw [Nat.add_mul, Nat.one_mul] at h
    by_cases hi : i < z.length
    · rw [List.getElem?_append_left hi, Nat.mod_eq_of_lt hi]
    · rw [List.getElem?_append_right (by omega), zrow_getElem n (i - z.length) (by omega)]
      congr 1
      have : i = (i - z.length) + z.length := by omega
      conv => rhs; rw [this]
      simp

theorem zrow_length {z : List Value} : ∀ n, (zrow z n).length = n * z.length
  | 0 => by simp [zrow]
  | n + 1 => by simp [zrow, zrow_length n, Nat.add_mul]; omega

theorem zrow_eq {z : Array Value} (n : Nat) : (Array.range (n * z.size)).map (fun i => z[i % z.size]!) = (zrow z.toList n).toArray := by
  apply Array.ext'
  apply List.ext_getElem?
  intro i
  simp only [Array.toList_map, Array.toList_range, List.getElem?_map]
  by_cases hi : i < n * z.size
  · rw [List.getElem?_range hi, zrow_getElem n i (by simpa using hi)]
    have hz : 0 < z.size := by
      rcases Nat.eq_zero_or_pos z.size with h | h
      · rw [h] at hi; simp at hi
      · exact h
    have hm := Nat.mod_lt i hz
    simp [hm]
  · have h1 : (List.range (n * z.size))[i]? = none := by simp; omega
    have h2 : (zrow z.toList n)[i]? = none := by simp [zrow_length]; omega
    rw [h1]; simp [h2]

theorem run_makeSlice {t el : TypeId} {inf : TypeInfo} {z : Value} {k k' : IntKind} {l c : Int} (hu : P.underlying t = some (.slice el)) (hi : P.info? el = some inf) (hz : inf.zero = some z)
    (hs : z.cells.size = inf.size) (hs0 : inf.size ≠ 0) (h1 : 0 ≤ l) (h2 : l ≤ c) (h3 : c ≤ 281474976710656) (h4 : inf.bytes * c ≤ 281474976710656) :
    (Instr.makeSlice t (.int k l) (.int k' c)).run P w = .ok (.slice (some ⟨w.heap.size, 0, none⟩) l.toNat c.toNat) (w.alloc (.cells (zrow z.cells.toList c.toNat).toArray el)) := by
  have w1 : IntKind.i64.wrap l = l := by simp only [IntKind.wrap, IntKind.bits, IntKind.signed, Bool.true_and, decide_eq_true_eq, ge_iff_le]; split <;> omega
  have w2 : IntKind.i64.wrap c = c := by simp only [IntKind.wrap, IntKind.bits, IntKind.signed, Bool.true_and, decide_eq_true_eq, ge_iff_le]; split <;> omega
  have hrow := zrow_eq (z := z.cells) c.toNat
  rw [hs] at hrow
  have e48 : (2 : Int) ^ 48 = 281474976710656 := by decide
  simp only [Instr.makeSlice, Sem.run_bind, run_underlying hu, Result.andThen_ok, asInt, asIntOf, Sem.run_pure, typeInfo, run_program, hi, w1, w2, e48]
  have hA : (c < 0 || decide (inf.bytes * c > 281474976710656)) = false := by simp; omega
  have hB : decide (l < 0) = false := by simp; omega
  have hC : decide (l > c) = false := by simp; omega
  simp only [hA, hB, hC, Bool.or_self, Bool.false_eq_true, if_false, Sem.run_bind, run_askRoom, Result.andThen_ok, sizeOf, typeInfo, run_program, hi, Sem.run_pure]
  by_cases hc : c.toNat * inf.size = 0
  · have hc0 : c.toNat = 0 := by
      rcases Nat.mul_eq_zero.1 hc with h | h
      · exact h
      · exact absurd h hs0
    have e0 : Array.range 0 = #[] := rfl
    simp [hc, hc0, newRow, zrow, e0]
  · simp only [if_neg hc, Sem.run_bind, zeroValue, typeInfo, run_program, Result.andThen_ok, hi, Sem.run_pure, hz, newRow, run_newObj]
    simp only [hs, hrow, World.alloc_eq]

theorem ite_neg_sem {α : Type} {c : Prop} [Decidable c] {x y : Sem α} (h : ¬ c) : (if c then x else y) = y := if_neg h

theorem of_dEff (hP : OkP P) (hρ : ∀ x v, ρ x = some v → a.eval x = v) {op : Op} {ty : TypeId} {K : Value → World → Prop} (h : dEff P op ty ρ w K)
    (dst : Option Tmp) (pos : String) (after : Array Edge) (g : Option (Nat × Bool)) :
    (⟨dst, op, ty, pos, after, g⟩ : Oper).wp P a w (fun a' w' => ∃ v, a' = a.put dst v ∧ K v w' ∧ (isAlloc op = true → Ext w w')) Q := by
  have val : ∀ {v w'}, (execOp a.eval ⟨dst, op, ty, pos, after, g⟩).run P w = .ok (.value v) w' → (isAlloc op = true → Ext w w') → K v w' →
      (⟨dst, op, ty, pos, after, g⟩ : Oper).wp P a w (fun a' w' => ∃ v, a' = a.put dst v ∧ K v w' ∧ (isAlloc op = true → Ext w w')) Q := by
    intro v w' hr hx hK
    unfold Oper.wp
    rw [hr]
    exact ⟨v, rfl, hK, hx⟩
  have skp : ∀ {w'}, (execOp a.eval ⟨dst, op, ty, pos, after, g⟩).run P w = .ok .skip w' → (isAlloc op = true → Ext w w') → K undef w' →
      (⟨dst, op, ty, pos, after, g⟩ : Oper).wp P a w (fun a' w' => ∃ v, a' = a.put dst v ∧ K v w' ∧ (isAlloc op = true → Ext w w')) Q := by
    intro w' hr hx hK
    unfold Oper.wp
    rw [hr]
    exact ⟨undef, rfl, hK, hx⟩
  unfold dEff at h
  split at h
  · rename_i el
    split at h
    · rename_i i hi
      split at h
      · rename_i z hz
        refine val (v := .pointer (some ⟨w.heap.size, 0, none⟩)) (w' := w.alloc (.cells z.cells el)) ?_ (fun _ => Ext.alloc _ _) h
        simp [execOp, Instr.alloc, zeroValue, typeInfo, hi, hz, newVar, newRow]
      · exact h.elim
    · exact h.elim
  · rename_i el x
    split at h
    · rename_i v hv
      have h1 := of_dCells h
      refine val (v := .pointer (some ⟨w.heap.size, 0, none⟩)) (w' := w.alloc (.cells v.cells.toList.toArray el)) ?_ (fun _ => Ext.alloc _ _) h1
      simp [execOp, Instr.box, newVar, newRow, hρ _ _ hv]
    · exact h.elim
  · rename_i t len parts
    split at h
    · rename_i el vs hu hm
      split at h
      · rename_i inf hi
        split at h
        · rename_i z hz
          cases hb0 : Nat.beq len 0 with
          | true =>
            rw [hb0] at h
            simp only [cond_true] at h
            obtain rfl := Nat.eq_of_beq_eq_true hb0
            split at h
            · rename_i hp
              have hp' : parts = #[] := Array.ext' (by simpa using hp)
              subst hp'
              refine val (v := .slice (some ⟨w.heap.size, 0, none⟩) 0 0) (w' := w.alloc (.cells #[] el)) ?_ (fun _ => Ext.alloc _ _) h
              have e0 : Array.range 0 = #[] := rfl
              simp [execOp, Instr.buildSlice, run_underlying hu, sizeOf, typeInfo, hi, Instr.fill, newRow, e0]
            · exact h.elim
          | false =>
          rw [hb0] at h
          simp only [cond_false] at h
          cases hb : (Nat.ble (len * inf.size) 1000000 && Nat.beq z.cells.size inf.size && !Nat.beq (len * inf.size) 0) with
          | false => rw [hb] at h; exact h.elim
          | true =>
            rw [hb] at h
            simp only [cond_true] at h
            simp only [Bool.and_eq_true, Bool.not_eq_true'] at hb
            obtain ⟨⟨hb1, hb2⟩, hb3⟩ := hb
            have hle : len * inf.size ≤ 1000000 := Nat.le_of_ble_eq_true hb1
            have hsz : z.cells.size = inf.size := Nat.eq_of_beq_eq_true hb2
            have hnz : len * inf.size ≠ 0 := by intro h0; rw [h0] at hb3; cases hb3
            obtain ⟨cs, hc, hK⟩ := of_dFill h
            have hc' := fill_mono (F' := fun i => some (i * inf.size, inf.size)) (by
              intro i x hx
              simp only [Option.map_eq_some_iff] at hx
              obtain ⟨y, hy, rfl⟩ := hx
              simp only [List.getElem?_map, Option.map_eq_some_iff] at hy
              obtain ⟨j, hj, rfl⟩ := hy
              obtain ⟨hlt, hj'⟩ := List.getElem?_eq_some_iff.1 hj
              simp only [List.getElem_range] at hj'
              subst hj'
              rfl) hc
            have e1 := of_mapO hρ hm
            have hparts : (parts.map fun (i, x) => (i, a.eval x)).toList = (parts.toList.map (·.1)).zip vs := by
              rw [← e1]
              simp only [Array.toList_map, List.map_map]
              generalize parts.toList = ps
              induction ps with
              | nil => rfl
              | cons p ps ih => simp [ih]
            have hrow := zrow_eq (z := z.cells) len
            rw [hsz] at hrow
            refine val (v := .slice (some ⟨w.heap.size, 0, none⟩) len len) (w' := w.alloc (.cells cs.toList.toArray el)) ?_ (fun _ => Ext.alloc _ _) hK
            have h24 : ¬ (len * inf.size > 2 ^ 24) := by
              have : (2 : Nat) ^ 24 = 16777216 := by decide
              omega
            simp only [execOp, Instr.buildSlice, Sem.run_bind, run_underlying hu, Result.andThen_ok, sizeOf, typeInfo, run_program, hi, Sem.run_pure, if_neg h24, if_neg hnz, zeroValue, hz, hsz, hrow, hparts, hc', newRow,
              run_newObj, World.alloc_eq, Array.toArray_toList]
        · exact h.elim
      · exact h.elim
    · exact h.elim
  · rename_i t x y
    split at h
    · rename_i p v h1 h2
      obtain ⟨ad, rfl, h3⟩ := of_NN h
      have h4 := of_dCells h3
      cases hb : (Nat.beq v.cells.toList.length (P.cellsOf t) && !Nat.beq (P.cellsOf t) 0) with
      | false => rw [hb] at h4; exact h4.elim
      | true =>
        rw [hb] at h4
        simp only [Bool.and_eq_true, Bool.not_eq_true'] at hb
        obtain ⟨w', hr, hK⟩ := of_StL (P := P) h4
        have hn : v.cells.size = P.cellsOf t := by simpa using Nat.eq_of_beq_eq_true hb.1
        obtain ⟨i, hi, his⟩ := of_cellsOf (P := P) (t := t) rfl (by intro h0; rw [h0] at hb; exact absurd hb.2 (by decide))
        refine skp (w' := w') ?_ (fun h => by cases h) hK
        have : v.cells.size = i.size := by rw [hn, his]
        simp [execOp, Instr.storeAt, Instr.sureAddr, hρ _ _ h1, hρ _ _ h2, storeVar, sizeOf, typeInfo, hi, this, hr]
    · exact h.elim
  · rename_i t x y
    split at h
    · rename_i el k l k' c hu h1 h2
      split at h
      · rename_i inf hi
        split at h
        · rename_i z hz
          cases hb : (Nat.beq z.cells.size inf.size && !Nat.beq inf.size 0) with
          | false => rw [hb] at h; exact h.elim
          | true =>
            rw [hb] at h
            simp only [cond_true] at h
            simp only [Bool.and_eq_true, Bool.not_eq_true'] at hb
            obtain ⟨c1, c2, c3, c4, hK⟩ := h
            refine val (v := .slice (some ⟨w.heap.size, 0, none⟩) l.toNat c.toNat) (w' := w.alloc (.cells (zrow z.cells.toList c.toNat).toArray el)) ?_ (fun _ => Ext.alloc _ _) hK
            have := run_makeSlice (P := P) (w := w) (k := k) (k' := k') hu hi hz (Nat.eq_of_beq_eq_true hb.1) (by intro h0; rw [h0] at hb; exact absurd hb.2 (by decide)) c1 c2 c3 c4
            simp [execOp, hρ _ _ h1, hρ _ _ h2, this]
        · exact h.elim
      · exact h.elim
    · exact h.elim
  · rename_i t r
    split at h
    · refine val (v := .map (some w.heap.size)) (w' := w.alloc (.map #[] 0)) ?_ (fun _ => Ext.alloc _ _) h
      simp [execOp, Instr.makeMap]
    · rename_i x
      split at h
      · rename_i k el kk n hu h1
        refine val (v := .map (some w.heap.size)) (w' := w.alloc (.map #[] 0)) ?_ (fun _ => Ext.alloc _ _) h
        simp [execOp, Instr.makeMap, run_underlying hu, hρ _ _ h1, asInt, asIntOf]
      · exact h.elim
  · rename_i t m k x
    split at h
    · rename_i m' k' x' h1 h2 h3
      obtain ⟨w', hr, hK⟩ := h
      exact skp (by simp [execOp, hρ _ _ h1, hρ _ _ h2, hρ _ _ h3, hr]) (fun h => by cases h) hK
    · exact h.elim
  · rename_i t m k x
    split at h
    · rename_i m' k' x' h1 h2 h3
      obtain ⟨w', hr, hK⟩ := h
      exact skp (by simp [execOp, hρ _ _ h1, hρ _ _ h2, hρ _ _ h3, hr]) (fun h => by cases h) hK
    · exact h.elim
  · rename_i t x
    split at h
    · rename_i v h1
      obtain ⟨p, w', hr, hK⟩ := h
      exact val (by simp only [execOp, hρ _ _ h1, Sem.run_bind, hr, Result.andThen_ok, Sem.run_pure, Kd.inj]) (fun h => by cases h) hK
    · exact h.elim
  · rename_i it isStr
    split at h
    · rename_i v0 h1
      obtain ⟨v, w', hr, hv⟩ := h
      obtain ⟨cs, hK, he⟩ := of_viewRet_curry hv
      rw [he] at hK
      exact val (by simp [execOp, hρ _ _ h1, hr]) (fun h => by cases h) hK
    · exact h.elim
  · rename_i src dst' x
    split at h
    · rename_i d v hd h1
      obtain ⟨r, w', hr, hK⟩ := h
      exact val (by simp [execOp, hρ _ _ h1, hr]) (fun h => by cases h) hK
    · exact h.elim
  · rename_i c
    split at h
    · exact h.elim
    · rename_i vs hm
      have e1 := of_mapO hρ hm
      obtain ⟨callee, args, argTypes⟩ := c
      simp only at h hm e1
      have a1 : args.map a.eval = vs.toArray := Array.ext' (by simp [e1])
      split at h
      · rename_i f
        split at h
        · rename_i fn hf
          cases hb : fn.body.isSome with
          | false =>
            rw [hb] at h
            simp only [cond_false] at h
            obtain ⟨v, w', hr, hv⟩ := h
            obtain ⟨cs, hK, he⟩ := of_viewRet_curry hv
            rw [he] at hK
            exact val (by simp [execOp, Go.resolve, Act.eval, Deferred.ofValue, invoke, a1, hr]) (fun h => by cases h) hK
          | true =>
            rw [hb] at h
            simp only [cond_true] at h
            unfold Oper.wp
            have hr : (execOp a.eval ⟨dst, .call ⟨.value (.func f), args, argTypes⟩, ty, pos, after, g⟩).run P w = .ok (.enter f vs.toArray) w := by
              simp [execOp, Go.resolve, Act.eval, Deferred.ofValue, invoke, a1, run_callFunc hP hf hb]
            rw [hr]
            refine Calls.mono h ?_
            rintro e w' ⟨v, rfl, hv⟩
            obtain ⟨cs, hK, he⟩ := of_viewRet_curry hv
            rw [he] at hK
            exact ⟨v, rfl, hK, fun h => by cases h⟩
        · exact h.elim
      · rename_i x hx
        split at h
        · rename_i v h1
          obtain ⟨f, first, captured, rfl, ⟨fn, hf, hb⟩, hcall⟩ := h
          unfold Oper.wp
          have hr : (execOp a.eval ⟨dst, .call ⟨.value x, args, argTypes⟩, ty, pos, after, g⟩).run P w = .ok (.enter f (first.toList ++ vs ++ captured.toList).toArray) w := by
            have := run_callFunc (w := w) (args := (first ++ vs.toArray ++ captured)) hP hf hb
            have e2 : (first.toList ++ vs ++ captured.toList).toArray = first ++ vs.toArray ++ captured := Array.ext' (by simp)
            rw [e2]
            simp [execOp, Go.resolve, hρ _ _ h1, Deferred.ofValue, invoke, a1]
            simpa using this
          rw [hr]
          refine Calls.mono hcall ?_
          rintro e w' ⟨v, rfl, hv⟩
          obtain ⟨cs, hK, he⟩ := of_viewRet_curry hv
          rw [he] at hK
          exact ⟨v, rfl, hK, fun h => by cases h⟩
        · exact h.elim
      · obtain ⟨s, w', hr, hK⟩ := h
        exact val (by simp only [execOp, Go.resolve, invoke, builtin, a1, Sem.run_bind, Sem.run_pure, Result.andThen_ok, hr, Kd.inj]) (fun h => by cases h) hK
      · obtain ⟨s, w', hr, hK⟩ := h
        exact val (by simp only [execOp, Go.resolve, invoke, builtin, a1, Sem.run_bind, Sem.run_pure, Result.andThen_ok, hr, Kd.inj]) (fun h => by cases h) hK
      · obtain ⟨s, w', hr, hK⟩ := h
        exact val (by simp only [execOp, Go.resolve, invoke, builtin, a1, Sem.run_bind, Sem.run_pure, Result.andThen_ok, hr, Kd.inj]) (fun h => by cases h) hK
      · obtain ⟨s, w', hr, hK⟩ := h
        exact val (by simp only [execOp, Go.resolve, invoke, builtin, a1, Sem.run_bind, Sem.run_pure, Result.andThen_ok, hr, Kd.inj]) (fun h => by cases h) hK
      · exact h.elim
  · exact h.elim

end
end Go.Den
