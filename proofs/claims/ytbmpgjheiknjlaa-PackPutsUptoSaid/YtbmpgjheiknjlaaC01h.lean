/-
  The document's examples, at the head of all statements of layer 1.
-/
import Derived.Test.YtbmpgjheiknjlaaC01g
import Derived.Lib.SlBytesConst
set_option linter.unusedSimpArgs false
set_option linter.unusedVariables false
set_option maxRecDepth 100000
namespace Go.Proofs.Ytbmpgjheiknjlaa.F
open Go Go.Den Go.Proofs

theorem und5 : Try.prog.underlying 5 = some (.int .u8) := by kernel_rfl

section
variable {S : List Nat} {w0 w : World} {its : List Thing}

/-- Bytes of a constant string. -/
theorem conv_const (h : Hp S w0 w its) {C : List Int} {n : Nat} (hn : C.length = n) {cs : List Value} (hcs : cs = C.flatMap u8v) {K : Sl → World → Prop} (hK : ∀ b w', Hp S w0 w' (its ++ [tRd ⟨some ⟨b, 0, none⟩, n, n⟩ 1 u8v C]) → K ⟨some ⟨b, 0, none⟩, n, n⟩ w') :
    Nw (.cells cs.toArray 5) w fun b w => Run .sl Try.prog (convert 22 22 (.slice (some b) n n)) w K := by
  subst hcs
  refine ⟨⟨some ⟨w.heap.size, 0, none⟩, n, n⟩, w.alloc (.cells (C.flatMap u8v).toArray 5 ((C.flatMap u8v).toArray.size, (C.flatMap u8v).toArray.size + 1)), Lib.run_convert_bytes_const w 22 5 (C.flatMap u8v).toArray n n und22 und5, hK w.heap.size _ ?_⟩
  generalize ho : (Obj.cells (C.flatMap u8v).toArray 5 ((C.flatMap u8v).toArray.size, (C.flatMap u8v).toArray.size + 1)) = o
  have hh : (w.alloc o).heap[w.heap.size]? = some o := by show (w.heap.push _)[_]? = _; simp
  have hsz : w.heap.size < (w.alloc o).heap.size := by show _ < (w.heap.push _).size; simp
  refine h.grow (Fr.alloc w o) (t := tRd ⟨some ⟨w.heap.size, 0, none⟩, n, n⟩ 1 u8v C) (O := [w.heap.size]) ?_ (by simp) rfl
  refine ⟨hn, .inr ⟨⟨w.heap.size, 0, none⟩, rfl, rfl, hsz, fun j u hj => ?_⟩⟩
  rw [Addr.add_none]
  subst ho
  simp only [World.cell?, hh, Nat.zero_add]
  simpa using hj

theorem str_eq {l : List Int} {b : ByteArray} (h : Bytes l) (hb : strL b = l) : ((strOf l).toList == b.toList) = true := by
  rw [str_beq, strL_of h, hb]; simp

theorem byte_list {l : List Int} (h : (l.all fun x => decide (0 ≤ x ∧ x < 256)) = true) : Bytes l := by
  intro x hx
  have := List.all_eq_true.1 h x hx
  simpa using this
theorem r64_list {l : List Int} (h : (l.all fun x => decide (-9223372036854775808 ≤ x ∧ x ≤ 9223372036854775807)) = true) : R64 l := by
  intro x hx
  have := List.all_eq_true.1 h x hx
  simpa using this

theorem sum_shown : sumU [49, 50, 51, 52, 53, 54, 55, 56, 57] = 3808858755 := by decide +kernel

set_option maxHeartbeats 4000000 in
theorem shown_spec {K : Bool → World → Prop} (hK : ∀ w', Fr [] w w' → K true w') : c8 w K := by
  refine c8_of ?_
  unfold f8
  have h := Hp.begin_ w
  refine h.nw (c := [_, _]) fun b w1 h => ?_
  have h := h.blkSl (i := 0) (m := 2) (l := [(1 : Int), 2]) (f := u8v) (n := 1) rfl rfl rfl u8v_len
  refine Put_spec h 0 (n := 300) (b := ⟨some ⟨b, 0, none⟩, 2, 2⟩) rfl Hp.rdSl (by omega) (by omega) (by simp) fun a w1 h => ?_
  refine h.nw (c := [_, _, _, _]) fun b2 w1 h => ?_
  simp only [List.cons_append, List.nil_append, List.set_cons_zero, List.set_cons_succ] at h
  have h := h.blkSl (i := 2) (m := 4) (l := [(5 : Int), 5, 5, 5]) (f := iv) (n := 1) rfl rfl rfl iv_len
  have h := h.nil 5 1 u8v
  simp only [List.cons_append, List.nil_append, List.set_cons_zero, List.set_cons_succ] at h
  refine PutRow_spec h 3 2 (b := ⟨none, 0, 0⟩) (v := ⟨some ⟨b2, 0, none⟩, 4, 4⟩) (bs := []) (l := [5, 5, 5, 5]) rfl Hp.rdSl rfl Hp.rdSl (r64_list (by decide)) (by simp) (by simp) fun b3 w1 h => ?_
  refine h.nw (c := [_, _, _]) fun b4 w1 h => ?_
  simp only [List.cons_append, List.nil_append, List.set_cons_zero, List.set_cons_succ] at h
  have h := h.blkSl (i := 5) (m := 3) (l := [(1000 : Int), 1001, 1002]) (f := iv) (n := 1) rfl rfl rfl iv_len
  simp only [List.cons_append, List.nil_append, List.set_cons_zero, List.set_cons_succ] at h
  refine PutRow_spec h 3 5 (b := ⟨none, 0, 0⟩) (v := ⟨some ⟨b4, 0, none⟩, 3, 3⟩) (bs := []) (l := [1000, 1001, 1002]) rfl Hp.rdSl rfl Hp.rdSl (r64_list (by decide)) (by simp) (by simp) fun c w1 h => ?_
  refine h.nw (c := [_, _, _, _, _, _]) fun b5 w1 h => ?_
  simp only [List.cons_append, List.nil_append, List.set_cons_zero, List.set_cons_succ] at h
  have h := h.blkSl (i := 7) (m := 6) (l := [(4 : Int), 2, 1, 4, 10, 9]) (f := u8v) (n := 1) rfl rfl rfl u8v_len
  simp only [List.cons_append, List.nil_append, List.set_cons_zero, List.set_cons_succ] at h
  have er : rowU [5, 5, 5, 5] = [4, 2, 1, 4, 10] := by decide
  have er2 : rowU [1000, 1001, 1002] = [3, 1, 208, 15, 2, 2] := by decide
  rw [er, er2] at h
  refine GetRow_spec h 7 (most := 4) (b := ⟨some ⟨b5, 0, none⟩, 6, 6⟩) rfl Hp.rdSl (byte_list (by decide)) (by simp) (by simp) fun l X k w1 hrow h => ?_
  obtain ⟨rfl, hk⟩ := hrow.2.2 [5, 5, 5, 5] ⟨by omega, by simp, by simp, r64_list (by decide), [9], by rw [er]; rfl⟩
  rw [er] at hk
  have hk : k = 5 := hk
  subst hk
  refine h.nw (c := [_, _, _]) fun b6 w1 h => ?_
  simp only [List.cons_append, List.nil_append, List.set_cons_zero, List.set_cons_succ] at h
  have h := h.blkSl (i := 9) (m := 3) (l := [(1 : Int), 97, 98]) (f := u8v) (n := 1) rfl rfl rfl u8v_len
  refine GetText_spec h 9 (b := ⟨some ⟨b6, 0, none⟩, 3, 3⟩) (l := [1, 97, 98]) rfl Hp.rdSl (byte_list (by decide)) (by simp) (by simp) ?_
  have et : getT [1, 97, 98] = ([97], 2) := by decide
  rw [et]
  refine h.nw (c := [_]) fun b7 w1 h => ?_
  simp only [List.cons_append, List.nil_append, List.set_cons_zero, List.set_cons_succ] at h
  have h := h.blkSl (i := 10) (m := 1) (l := [(1 : Int)]) (f := u8v) (n := 1) rfl rfl rfl u8v_len
  refine GetInt_spec h 10 (b := ⟨some ⟨b7, 0, none⟩, 1, 1⟩) (l := [1]) rfl Hp.rdSl (byte_list (by decide)) (by simp) ?_
  have ei : getI [1] = (-1, 1) := by decide
  rw [ei]
  refine h.nw (c := [_, _]) fun b8 w1 h => ?_
  simp only [List.cons_append, List.nil_append, List.set_cons_zero, List.set_cons_succ] at h
  have h := h.blkSl (i := 11) (m := 2) (l := [(172 : Int), 2]) (f := u8v) (n := 1) rfl rfl rfl u8v_len
  refine Get_spec h 11 (b := ⟨some ⟨b8, 0, none⟩, 2, 2⟩) (l := [172, 2]) rfl Hp.rdSl (byte_list (by decide)) (by simp) ?_
  have eu : getU [172, 2] = (300, 2) := by decide
  rw [eu]
  simp only [List.cons_append, List.nil_append, List.set_cons_zero, List.set_cons_succ] at h
  have ep : [1, 2] ++ putU 300 = [1, 2, 172, 2] := by decide
  have ep' : (1 : Int) :: 2 :: putU 300 = [1, 2, 172, 2] := by decide
  rw [ep'] at h
  refine h.rdb 1 rfl Hp.rdSl _ (strL_of (byte_list (by decide))) ?_
  refine ifT (str_eq (byte_list (by decide)) (by decide)) ?_
  refine h.rdb 4 rfl Hp.rdSl _ (strL_of (byte_list (by decide))) ?_
  refine ifT (str_eq (byte_list (by decide)) (by decide)) ?_
  refine h.rdb 6 rfl Hp.rdSl _ (strL_of (byte_list (by decide))) ?_
  refine ifT (str_eq (byte_list (by decide)) (by decide)) ?_
  refine ifT rfl ?_
  have hll := h.len (s := l) 8 rfl
  simp only [List.length_cons, List.length_nil] at hll
  refine ifT (by simp; omega) ?_
  refine h.ixld (k := .i .i64) (s := l) (y := 5) (x := 5) 8 rfl (by omega) rfl iv_len rfl ?_
  refine ifT rfl ?_
  refine ifT (str_eq (byte_list (by decide)) (by decide)) ?_
  refine ifT rfl ?_
  refine ifT rfl ?_
  refine ifT rfl ?_
  refine ifT rfl ?_
  refine ifT rfl ?_
  refine conv_const h (C := [49, 50, 51, 52, 53, 54, 55, 56, 57]) (n := 9) (cs := [_, _, _, _, _, _, _, _, _]) rfl rfl fun b9 w1 h => ?_
  simp only [List.cons_append, List.nil_append] at h
  refine Sum_spec h 12 rfl Hp.rdRd (byte_list (by decide)) (by simp) ?_
  rw [sum_shown]
  refine ifT rfl ?_
  refine PutText_spec h 3 (b := ⟨none, 0, 0⟩) (l := []) rfl Hp.rdSl (by decide) fun r2 w1 h => ?_
  simp only [List.cons_append, List.nil_append] at h
  have ex : putU ((⟨#[97]⟩ : ByteArray).size : Int) ++ strL ⟨#[97]⟩ = [1, 97] := by decide
  rw [ex] at h
  refine h.rdb 13 rfl Hp.rdSl _ (strL_of (byte_list (by decide))) ?_
  refine ifT (str_eq (byte_list (by decide)) (by decide)) ?_
  refine PutInt_spec h 3 (b := ⟨none, 0, 0⟩) (l := []) (n := -1) rfl Hp.rdSl (by omega) (by omega) (by simp) fun r3 w1 h => ?_
  simp only [List.cons_append, List.nil_append] at h
  have ez : putU (zig (-1)) = [1] := by decide
  rw [ez] at h
  refine h.rdb 14 rfl Hp.rdSl _ (strL_of (byte_list (by decide))) ?_
  have := hK _ h.fr
  have e : ((strOf [1]).toList == (⟨#[1]⟩ : ByteArray).toList) = true := str_eq (byte_list (by decide)) (by decide)
  rw [e]
  exact this
end
end Go.Proofs.Ytbmpgjheiknjlaa.F
