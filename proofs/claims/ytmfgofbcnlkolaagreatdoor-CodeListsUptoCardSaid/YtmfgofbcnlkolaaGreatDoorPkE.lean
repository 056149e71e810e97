/-
  Part 5 of the proof: CodeLists is true of the given program where what it reads is of bulk at most 1048576: its row, and the card tied to the program's text.
-/
import Derived.Test.YtmfgofbcnlkolaaGreatDoorPkD
import Derived.Lib.SplitLaws
import Derived.Lib.AtoiErrMem
import Derived.Lib.Overlaps
import Derived.Lib.AppendZerosOnto
import Derived.Shelf.Vars
import Derived.Stop.LaidErr
import Derived.Lib.LaidTab
import Derived.Lib.IndexBytes
import Derived.Lib.CountLaws
set_option linter.unusedSimpArgs false
set_option linter.unusedVariables false
set_option maxRecDepth 100000
section
namespace Go.Proofs.YtmfgofbcnlkolaaGreatDoor.F
open Go Go.Den Go.Proofs
theorem writtenM_no {r : RT} {left : Int} (h : writtenM r left = true) : codeOk r.code = true ∧ (1 ≤ r.nm.size ∧ r.nm.size ≤ 16) ∧ (0 ≤ r.pa ∧ r.pa ≤ 4 ∧ r.pa ≤ r.lo ∧ r.lo ≤ 32) ∧ 0 ≤ left - r.code.length := by
 obtain ⟨h1, h2⟩ := written_iff.1 h
 obtain ⟨a, b, c⟩ := rtOk_iff.1 h1
 exact ⟨a, b, c, h2⟩
theorem rdRo {α : Type} {s : Sl} {n : Nat} {f : α → List Value} {l : List α} : Hp.Reads (tRd s n f l).ro s n f l := ⟨fun {w O} h => ⟨O, h⟩⟩
section
variable {w0 w : World} {its rest : List Thing}
theorem List_spec {nm : ByteArray} {pa lo : Int} {sl : Sl} {code : List Ins} (hr : ∃ o, SlR w sl 2 insv code o) (hok : RT.Ok ⟨nm, pa, lo, code⟩) (hnm : nm.size ≤ 140737488355328) (hT : TabW w) {K : ByteArray → World → Prop}
  (hK : ∀ w', Hp [] w w' [] → K (listS ⟨nm, pa, lo, code⟩) w') : c25 nm pa lo sl w K := by
 obtain ⟨o, hr⟩ := hr
 have hcl := hok.len
 refine c25_of ?_
 unfold f25
 have h : Hp [] w w [(tRd sl 2 insv code).ro] := (Hp.init w).addRo (O := o) hr (by simp)
 have hlen := h.lenU (u := (tRd sl 2 insv code).ro) 0 rfl (rdRo (n := 2) (f := insv))
 refine h.nw fun rb w1 h => ?_
 refine h.nw fun lb w1 h => ?_
 refine h.st0 2 rfl (by simp) rfl fun w1 h => ?_
 have hno : listM ⟨nm, pa, lo, code⟩ = false → ∀ w', Hp [] w w' [] → K ⟨#[]⟩ w' := fun e w' h => by
  have := hK w' h
  unfold listS at this
  rw [e] at this
  exact this
 refine ⟨fun w' => listM ⟨nm, pa, lo, code⟩ = true ∧ Hp [] w w' [(tRd sl 2 insv code).ro, tBlk rb 30 [.string nm, .int .i64 pa, .int .i64 lo, .slice sl.a sl.len sl.cap]], ?_, ?_⟩
 ·refine h.ld0 (k := .s) (x := nm) 1 rfl rfl ?_
  refine listed_spec hnm ?_
  by_cases h1 : listedM nm = true
  ·refine ifF (by simp [h1]) ?_
   refine h.ld0 (k := .s) (x := nm) 1 rfl rfl ?_
   refine h.ld (n := 1) (k := .i .i64) (x := pa) 1 rfl rfl ?_
   refine h.ld (n := 2) (k := .i .i64) (x := lo) 1 rfl rfl ?_
   refine h.ld (n := 3) (k := .sl) (x := sl) 1 rfl rfl ?_
   refine written_spec h 2 0 (u := (tRd sl 2 insv code).ro) (left := 2000) (by decide) rfl rfl rdRo hcl (by decide) (by decide) fun w2 h => ?_
   by_cases h2 : writtenM ⟨nm, pa, lo, code⟩ 2000 = true
   ·refine ifF (by simp [h2]) ⟨by unfold listM; rw [h1, h2]; rfl, ?_⟩
    have h : Hp [] w w2 ([(tRd sl 2 insv code).ro, tBlk rb 30 [.string nm, .int .i64 pa, .int .i64 lo, .slice sl.a sl.len sl.cap]] ++ [tBlk lb 3 [.int .i64 (2000 - code.length)]]) := h
    exact h.front
   ·refine ifT (by simp [h2]) (hno (by unfold listM; simp [h2]) w2 (frNil h.fr))
  ·exact ifT (by simp [h1]) (hno (by unfold listM; simp [h1]) w1 (frNil h.fr))
 clear h
 rintro w1 ⟨hM, h⟩
 have hyes : ∀ w', Hp [] w w' [] → K (strOf (listL ⟨nm, pa, lo, code⟩)) w' := fun w' h => by
  have := hK w' h
  unfold listS at this
  rw [if_pos hM] at this
  exact this
 have hW : writtenM ⟨nm, pa, lo, code⟩ 2000 = true := by
  unfold listM at hM
  rw [Bool.and_eq_true] at hM
  exact hM.2
 obtain ⟨k1, ⟨k2, k3⟩, ⟨k4, k5, k6, k7⟩, k8⟩ := writtenM_no hW
 dsimp only at k1 k2 k3 k4 k5 k6 k7 k8
 have z1 : (⟨#[32]⟩ : ByteArray).size = 1 := rfl
 have z2 : (⟨#[10]⟩ : ByteArray).size = 1 := rfl
 have d1 := dec_size (n := pa) (by omega) (by omega)
 have d2 := dec_size (n := lo) (by omega) (by omega)
 refine bld_new h fun b w1 h => ?_
 have h : Hp [] w w1 [(tRd sl 2 insv code).ro, tBlk rb 30 [.string nm, .int .i64 pa, .int .i64 lo, .slice sl.a sl.len sl.cap], tBld w.heap.size b []] := h
 refine h.dr fun w1 h => ?_
 refine h.ld0 (k := .s) (x := nm) 1 rfl rfl ⟨by omega, ?_⟩
 refine h.ld (n := 1) (k := .i .i64) (x := pa) 1 rfl rfl ?_
 refine h.ld (n := 2) (k := .i .i64) (x := lo) 1 rfl rfl ?_
 refine Itoa_spec h hT (by omega) (by omega) fun w1 h => ?_
 refine ⟨h.cel (n := 2) 1 rfl rfl, h.cel0 1 rfl rfl, by simp only [ByteArray.size_append]; omega, by simp only [ByteArray.size_append]; omega, ?_⟩
 refine Itoa_spec h hT (by omega) (by omega) fun w1 h => ?_
 refine ⟨h.cel0 1 rfl rfl, by simp only [ByteArray.size_append]; omega, by simp only [ByteArray.size_append]; omega, ?_⟩
 refine WriteString_spec h 2 rfl _ (by simp only [ByteArray.size_append, List.length_nil]; omega) fun w1 h => ?_
 have eh : ([] : List Int) ++ strL (nm ++ ⟨#[32]⟩ ++ dec pa ++ ⟨#[32]⟩ ++ dec lo ++ ⟨#[10]⟩) = headL ⟨nm, pa, lo, code⟩ := by
  simp only [strL_append', List.nil_append]
  show _ = strL nm ++ 32 :: (decL pa ++ 32 :: (decL lo ++ [10]))
  simp [decL]; rfl
 rw [eh] at h
 have h : Hp [] w w1 [(tRd sl 2 insv code).ro, tBlk rb 30 [.string nm, .int .i64 pa, .int .i64 lo, .slice sl.a sl.len sl.cap], tBld w.heap.size b (headL ⟨nm, pa, lo, code⟩)] := h
 have hhl : (headL ⟨nm, pa, lo, code⟩).length ≤ 100 := by
  rw [← eh]
  simp only [List.nil_append, strL_len, ByteArray.size_append]; omega
 refine h.ld (n := 3) (k := .sl) (x := sl) 1 rfl rfl ?_
 refine ⟨fun t m w' => ∃ k : Nat, t = k ∧ k ≤ code.length ∧ m = code.length - k ∧ Hp [] w w' [(tRd sl 2 insv code).ro, tBlk rb 30 [.string nm, .int .i64 pa, .int .i64 lo, .slice sl.a sl.len sl.cap], tBld w.heap.size b (headL ⟨nm, pa, lo, code⟩ ++ (code.take k).flatMap fun x => lineL x ++ [10])], ⟨_, 0, rfl, by omega, rfl, by simpa using h⟩, ?_⟩
 clear h
 rintro t m w2 ⟨k, rfl, hk, rfl, h⟩
 by_cases hend : k = code.length
 ·refine ifF (by simp; omega) ?_
  rw [List.take_of_length_le (by omega)] at h
  refine String_spec h 2 rfl ?_ fun w3 h => hyes w3 h
  have hB : ∀ (x : Ins), Bytes (lineL x) := fun x => by
   unfold lineL
   intro y hy
   rcases List.mem_append.1 hy with hy | hy
   ·exact strL_bytes _ y hy
   ·split at hy
    ·rcases List.mem_cons.1 hy with rfl | hy
     ·decide
     ·exact strL_bytes _ y hy
    ·cases hy
  intro y hy
  rcases List.mem_append.1 hy with hy | hy
  ·rw [← eh] at hy
   exact strL_bytes _ y (by simpa using hy)
  ·obtain ⟨x, _, hx⟩ := List.mem_flatMap.1 hy
   rcases List.mem_append.1 hx with hx | hx
   ·exact hB x y hx
   ·simp only [List.mem_singleton] at hx
    subst hx; decide
 ·obtain ⟨x, hx⟩ : ∃ x, code[k]? = some x := ⟨code[k]'(by omega), List.getElem?_eq_getElem (by omega)⟩
  have hxm := List.mem_of_getElem? hx
  have hrg := hok.rng x hxm
  refine ifT (by simp; omega) ?_
  obtain ⟨O, hO⟩ := h.see (i := 0) rfl
  refine SlR.ix insv_len hO (by omega) (x := x) (by rw [Int.toNat_natCast]; exact hx) fun ad hc => ?_
  refine ldR0 (k := .i .i64) (x := x.1) (hc 0 (by omega)) rfl ?_
  refine ldR (k := .i .i64) (x := x.2) (hc 1 (by omega)) rfl ?_
  refine ins_copy h fun ib w3 h => ?_
  refine h.ld0 (k := .i .i64) (x := x.1) 3 rfl rfl ?_
  refine h.ld (n := 1) (k := .i .i64) (x := x.2) 3 rfl rfl ?_
  refine line_spec h hT hrg.1 hrg.2 fun s w3 hs h => ?_
  have hll := lineL_len hrg.1 hrg.2
  rw [← hs, strL_len] at hll
  refine ⟨by omega, ?_⟩
  have hfl : ((code.take k).flatMap fun x => lineL x ++ [10]).length ≤ 28 * (code.take k).length := flat_len fun y hy => by
   have := hok.rng y (List.mem_of_mem_take hy)
   have := lineL_len this.1 this.2
   rw [List.length_append]; simp; omega
  rw [List.length_take] at hfl
  refine WriteString_spec h 2 rfl _ (by rw [List.length_append, ByteArray.size_append]; omega) fun w4 h => ?_
  refine ⟨code.length - (k + 1), by omega, k + 1, by rw [wr64 (by omega) (by omega)]; omega, by omega, rfl, ?_⟩
  have h : Hp [] w w4 ([(tRd sl 2 insv code).ro, tBlk rb 30 [.string nm, .int .i64 pa, .int .i64 lo, .slice sl.a sl.len sl.cap], tBld w.heap.size b (headL ⟨nm, pa, lo, code⟩ ++ (code.take k).flatMap (fun x => lineL x ++ [10]) ++ strL (s ++ ⟨#[10]⟩))] ++ [tBlk ib 23 [.int .i64 x.1, .int .i64 x.2]]) := h
  have h := h.front
  have e : headL ⟨nm, pa, lo, code⟩ ++ (code.take k).flatMap (fun x => lineL x ++ [10]) ++ strL (s ++ ⟨#[10]⟩) = headL ⟨nm, pa, lo, code⟩ ++ (code.take (k + 1)).flatMap (fun x => lineL x ++ [10]) := by
   rw [List.take_add_one, hx, List.flatMap_append, strL_append', hs, List.append_assoc]
   simp; rfl
  rw [e] at h
  exact h
end
structure Glob (w : World) : Prop where
 tab : TabW w
 m : ∃ m : Int, w.cell? ⟨0, 0, none⟩ = some (.int .i64 m)
 e2 : ∃ ev, w.cell? ⟨2, 0, none⟩ = some ev ∧ (ev = .nilIface ∨ ∃ te pe, ev = .iface te pe)
 e3 : ∃ ev, w.cell? ⟨3, 0, none⟩ = some ev ∧ (ev = .nilIface ∨ ∃ te pe, ev = .iface te pe)
theorem cell_fr {w w' : World} (hf : Fr [] w w') {a : Addr} {v : Value} (h : w.cell? a = some v) : w'.cell? a = some v := by
 have hb := World.block_lt_of_cell? w a h
 rw [← h]
 exact World.cell?_of_block (hf.block _ hb (by simp))
theorem Glob.fr {w w' : World} (h : Glob w) (hf : Fr [] w w') : Glob w' := by
 obtain ⟨m, hm⟩ := h.m
 obtain ⟨e, he, he'⟩ := h.e2
 obtain ⟨f, hf', hf''⟩ := h.e3
 exact ⟨tab_fr h.tab hf, ⟨m, cell_fr hf hm⟩, ⟨e, cell_fr hf he, he'⟩, ⟨f, cell_fr hf hf', hf''⟩⟩
def cutB (s sep : ByteArray) : ByteArray × ByteArray × Bool := (⟨(Lib.cut s.data.toList sep.data.toList).1.toArray⟩, ⟨(Lib.cut s.data.toList sep.data.toList).2.1.toArray⟩, (Lib.cut s.data.toList sep.data.toList).2.2)
def decO (s : ByteArray) : Option Int := match Lib.parseIntB 64 s.data.toList with
 | .ok v => if dec v = s then some v else none
 | _ => none
def nl : ByteArray := ⟨#[10]⟩
def sp : ByteArray := ⟨#[32]⟩
def splitS (s : ByteArray) : List ByteArray := Lib.splitB sp 0 (Lib.countB s sp) s
theorem cut_found {s sep : ByteArray} (h : (cutB s sep).2.2 = true) : (cutB s sep).1.size + sep.size ≤ s.size := by
 unfold cutB Lib.cut at h ⊢
 split at h
 ·rename_i h0
  rw [if_pos h0]
  have hi := Lib.indexB_cases s sep
  have e : Lib.indexB s sep = Lib.index s.data.toList sep.data.toList := rfl
  rw [e] at hi
  rcases hi with hi | ⟨i, hi, hl⟩
  ·omega
  ·rw [hi]
   show (List.toArray _).size + sep.size ≤ s.size
   have : s.data.toList.length = s.size := by rw [Array.length_toList]; rfl
   simp only [List.size_toArray, List.length_take, Int.toNat_natCast]
   omega
 ·cases h
theorem cut_size (s sep : ByteArray) : (cutB s sep).1.size ≤ s.size ∧ (cutB s sep).2.1.size ≤ s.size := by
 unfold cutB Lib.cut
 split
 ·refine ⟨?_, ?_⟩
  ·show (List.toArray _).size ≤ s.data.size
   simp; omega
  ·show (List.toArray _).size ≤ s.data.size
   simp
 ·refine ⟨?_, ?_⟩
  ·show (List.toArray _).size ≤ s.data.size
   simp
  ·show (List.toArray _).size ≤ s.data.size
   simp
theorem parse_range {l : List UInt8} {v : Int} (h : Lib.parseIntB 64 l = .ok v) : -9223372036854775808 ≤ v ∧ v ≤ 9223372036854775807 := by
 cases l with
 | nil => cases h
 | cons c r =>
  simp only [Lib.parseIntB] at h
  split at h
  ·cases h
  ·cases h
  ·rename_i u hu
   split at h
   ·cases h
   ·rename_i h1
    split at h
    ·cases h
    ·rename_i h2
     have p : (2 : Nat) ^ (64 - 1) = 9223372036854775808 := by decide
     rw [p] at h1 h2
     simp only [Lib.NumEnd.ok.injEq] at h
     split at h
     ·rename_i h3
      have : ¬ 9223372036854775808 < u := fun k => h2 ⟨h3, k⟩
      omega
     ·rename_i h3
      have : ¬ 9223372036854775808 ≤ u := fun k => h1 ⟨h3, k⟩
      omega
section
variable {w0 w : World} {its rest : List Thing}
theorem frTrans {w w' : World} (h : Hp [] w0 w its) (hb : RowKit.Below w.heap.size w w') : Hp [] w0 w' its := h.keep (frOfBelow hb)
theorem Cut_spec (h : Hp [] w0 w its) (hG : Glob w0) {s sep : ByteArray} (hs : s.size < 4294967281) {K : ByteArray → ByteArray → Bool → World → Prop} (hK : ∀ w', Hp [] w0 w' its → K (cutB s sep).1 (cutB s sep).2.1 (cutB s sep).2.2 w') : c60 s sep w K := by
 obtain ⟨m, hm⟩ := (hG.fr h.fr).m
 refine Calls.mono (Tryz.strings_Cut s sep m w hs hm) fun e w' ⟨he, n, hw⟩ => ?_
 subst he hw
 exact ⟨_, rfl, hK _ (frTrans h ⟨rfl, rfl, rfl, Nat.le_refl _, fun _ _ => rfl⟩)⟩
abbrev sv (x : ByteArray) : List Value := [.string x]
theorem Split_spec (h : Hp [] w0 w its) (hG : Glob w0) {s : ByteArray} (hs : s.size < 4294967281) {K : Sl → World → Prop} (hK : ∀ sl w', Hp [] w0 w' (its ++ [tSl sl 9 1 sv (splitS s)]) → K sl w') : c89 s ⟨#[32]⟩ w K := by
 obtain ⟨m, hm⟩ := (hG.fr h.fr).m
 refine Calls.mono (Tryz.strings_Split s ⟨#[32]⟩ m w hs hm (by decide)) fun e w' ⟨he, hw⟩ => ?_
 subst he hw
 refine ⟨_, rfl, ?_⟩
 have h := nw_now h ((splitS s).flatMap sv) 9
 have h := h.blkSl (i := its.length) (m := Lib.countB s sp + 1) (l := splitS s) (f := sv) (n := 1) List.getElem?_concat_length rfl (Lib.splitB_all sp (by decide) 0 _ s rfl) (fun x => rfl)
 rw [set_last] at h
 have e : (splitS s).flatMap sv = (splitS s).map Value.string := by rw [List.map_eq_flatMap]
 rw [e] at h
 exact hK _ _ h
theorem decimal_spec (h : Hp [] w0 w its) (hG : Glob w0) {s : ByteArray} (hs : s.size < 4294967281) {K : Int → Bool → World → Prop} (hok : ∀ v, decO s = some v → -9223372036854775808 ≤ v → v ≤ 9223372036854775807 → ∀ w', Hp [] w0 w' its → K v true w') (hno : decO s = none → ∀ x w', Hp [] w0 w' its → K x false w') : c90 s w K := by
 refine c90_of ?_
 unfold f90
 unfold decO at hok hno
 have hG' := hG.fr h.fr
 cases hp : Lib.parseIntB 64 s.data.toList
 case ok v =>
  rw [hp] at hok hno
  dsimp only at hok hno
  obtain ⟨v0, v1⟩ := parse_range hp
  refine Calls.mono (Tryz.strconv_ParseInt_10_at64_ok s (by omega) v hp w) fun e w' ⟨he, hw⟩ => ?_
  subst he
  have h : Hp [] w0 w' its := by
   rcases hw with rfl | ⟨t, rfl⟩
   ·exact h
   ·exact frTrans h (Lib.bytesWorld_below w 5 t)
  refine ⟨_, rfl, ?_⟩
  refine ⟨true, fun _ _ => by kernel_rfl, ?_⟩
  refine ifT rfl ?_
  refine Format_spec h hG.tab v0 v1 fun w2 h => ?_
  rw [str_beq]
  by_cases hd : dec v = s
  ·rw [if_pos hd] at hok
   rw [hd, decide_eq_true rfl]
   exact hok v rfl v0 v1 w2 h
  ·rw [if_neg hd] at hno
   rw [decide_eq_false fun k => hd (strL_inj k)]
   exact hno rfl v w2 h
 case range =>
  rw [hp] at hno
  obtain ⟨ev, h1, h2⟩ := hG'.e3
  refine Calls.mono (Tryz.strconv_ParseInt_10_at64_range s (by omega) hp ev w h1 h2) fun e w' ⟨N, he, _, _, hw⟩ => ?_
  subst he
  refine ⟨_, rfl, ?_⟩
  refine ⟨false, fun _ _ => by kernel_rfl, ?_⟩
  exact ifF (by decide) (hno rfl _ w' (frTrans h hw))
 rw [hp] at hno
 obtain ⟨ev, h1, h2⟩ := hG'.e2
 refine Calls.mono (Tryz.strconv_ParseInt_10_at64_syntax s (by omega) hp ev w h1 h2) fun e w' ⟨N, he, _, _, hw⟩ => ?_
 subst he
 refine ⟨_, rfl, ?_⟩
 refine ⟨false, fun _ _ => by kernel_rfl, ?_⟩
 exact ifF (by decide) (hno rfl _ w' (frTrans h hw))
end
def insR (t : ByteArray) : Option Ins :=
 if numOf (cutB t sp).1 = 0 ∨ (row (numOf (cutB t sp).1)).num ≠ (cutB t sp).2.2 then none
 else if (cutB t sp).2.2 = true then (decO (cutB t sp).2.1).map fun a => (numOf (cutB t sp).1, a) else some (numOf (cutB t sp).1, 0)
def headR (t : ByteArray) : Option (ByteArray × Int × Int) := match splitS t with
 | [a, b, c] => if listedM a = true then (match decO b, decO c with
  | some p, some q => if 0 ≤ p ∧ p ≤ 4 ∧ p ≤ q ∧ q ≤ 32 then some (a, p, q) else none
  | _, _ => none) else none
 | _ => none
theorem split_size (sep : ByteArray) : ∀ (k : Nat) (s x : ByteArray), x ∈ Lib.splitB sep 0 k s → x.size ≤ s.size
 | 0, s, x, h => by
  rw [Lib.splitB_zero] at h
  simp only [List.mem_singleton] at h
  rw [h]; exact Nat.le_refl _
 | k + 1, s, x, h => by
  unfold Lib.splitB at h
  split at h
  ·simp only [List.mem_singleton] at h
   rw [h]; exact Nat.le_refl _
  ·rcases List.mem_cons.1 h with rfl | h
   ·rw [ByteArray.size_extract]; omega
   ·have := split_size sep k _ x h
    rw [ByteArray.size_extract] at this
    omega
section
variable {w0 w : World} {its rest : List Thing}
theorem decimal_u (h : Hp [] w0 w its) (hG : Glob w0) {s : ByteArray} (hs : s.size < 4294967281) {K : Int → Bool → World → Prop} (hK : ∀ v ok w', (ok = true → decO s = some v ∧ -9223372036854775808 ≤ v ∧ v ≤ 9223372036854775807) → (ok = false → decO s = none) → Hp [] w0 w' its → K v ok w') : c90 s w K :=
 decimal_spec h hG hs (fun v hv v0 v1 w' h => hK v true w' (fun _ => ⟨hv, v0, v1⟩) (fun e => by cases e) h) (fun hv x w' h => hK x false w' (fun e => by cases e) (fun _ => hv) h)
theorem readIns_spec (h : Hp [] w0 w its) (hG : Glob w0) {t : ByteArray} (ht : t.size < 4294967281) {K : Int → Int → Bool → World → Prop} (hok : ∀ x, insR t = some x → -9223372036854775808 ≤ x.2 → x.2 ≤ 9223372036854775807 → ∀ w', Hp [] w0 w' its → K x.1 x.2 true w') (hno : insR t = none → ∀ op a w', Hp [] w0 w' its → K op a false w') : c62 t w K := by
 refine c62_of ?_
 unfold f62
 refine h.nw fun A w1 h => ?_
 have hLs : ∀ {A : List Thing} {b : Nat} {e : TypeId} {c : List Value}, ((A ++ [tBlk b e c])[A.length]?).map Thing.holds = some (tBlk b e c).holds := fun {A b e c} => by rw [List.getElem?_concat_length]; rfl
 refine Cut_spec h hG ht fun w1 h => ?_
 refine Number_spec h fun w1 h => ?_
 have hsz := (cut_size t sp).2
 unfold insR at hok hno
 have esp : (⟨#[32]⟩ : ByteArray) = sp := rfl
 rw [esp]
 generalize hc1 : cutB t sp = c at *
 obtain ⟨word, number, more⟩ := c
 dsimp only at hok hno hsz ⊢
 generalize numOf word = op at *
 refine ⟨fun b w' => b = decide (op = 0 ∨ (row op).num ≠ more) ∧ Hp [] w0 w' (its ++ [tBlk A 23 [.int .i64 0, .int .i64 0]]), ?_, ?_⟩
 ·by_cases h0 : op = 0
  ·exact ifT (by simp [h0]) ⟨by simp [h0], h⟩
  ·refine ifF (by simpa using h0) (shape_spec h fun w1 h => ⟨?_, h⟩)
   cases hn : (row op).num <;> cases more <;> simp [h0]
 clear h
 rintro b w1 ⟨rfl, h⟩
 by_cases hb : op = 0 ∨ (row op).num ≠ more
 ·rw [if_pos hb] at hno
  refine ifT (by simpa using hb) ?_
  refine h.st0 _ List.getElem?_concat_length (by simp) rfl fun w1 h => ?_
  rw [set_last] at h
  refine h.st (n := 1) _ List.getElem?_concat_length (by simp) rfl fun w1 h => ?_
  rw [set_last] at h
  refine h.ld0 (k := .i .i64) (x := 0) _ hLs rfl ?_
  refine h.ld (n := 1) (k := .i .i64) (x := 0) _ hLs rfl ?_
  exact hno rfl _ _ w1 h.front
 ·rw [if_neg hb] at hno hok
  refine ifF (by simpa using hb) ?_
  cases more with
  | false =>
   refine ifT rfl ?_
   refine h.st0 _ List.getElem?_concat_length (by simp) rfl fun w1 h => ?_
   rw [set_last] at h
   refine h.st (n := 1) _ List.getElem?_concat_length (by simp) rfl fun w1 h => ?_
   rw [set_last] at h
   refine h.ld0 (k := .i .i64) (x := op) _ hLs rfl ?_
   refine h.ld (n := 1) (k := .i .i64) (x := 0) _ hLs rfl ?_
   exact hok (op, 0) rfl (by show (-9223372036854775808 : Int) ≤ 0; decide) (by show (0 : Int) ≤ 9223372036854775807; decide) w1 h.front
  | true =>
   refine ifF (by decide) ?_
   have fin : ∀ a ok w', Hp [] w0 w' (its ++ [tBlk A 23 [.int .i64 0, .int .i64 0]]) → (∀ w', Hp [] w0 w' its → K op a ok w') → St ⟨A, 0, none⟩ (.int .i64 op) w' fun w => St ((⟨A, 0, none⟩ : Addr).add 1) (.int .i64 a) w fun w => Ld (.i .i64) w ⟨A, 0, none⟩ fun r1 => Ld (.i .i64) w ((⟨A, 0, none⟩ : Addr).add 1) fun r2 => K r1 r2 ok w := by
    intro a ok w' h hk
    refine h.st0 _ List.getElem?_concat_length (by simp) rfl fun w1 h => ?_
    rw [set_last] at h
    refine h.st (n := 1) _ List.getElem?_concat_length (by simp) rfl fun w1 h => ?_
    rw [set_last] at h
    refine h.ld0 (k := .i .i64) (x := op) _ hLs rfl ?_
    refine h.ld (n := 1) (k := .i .i64) (x := a) _ hLs rfl ?_
    exact hk w1 h.front
   refine decimal_spec h hG (by omega) (fun v hv v0 v1 w2 h => fin v true w2 h (hok (op, v) ?_ v0 v1)) (fun hv x w2 h => fin x false w2 h (hno ?_ op x))
   ·rw [if_pos rfl, hv]; rfl
   ·rw [if_pos rfl, hv]; rfl
theorem header_spec (h : Hp [] w0 w its) (hG : Glob w0) {t : ByteArray} (ht : t.size < 4294967281) {K : ByteArray → Int → Int → Sl → Bool → World → Prop} (hok : ∀ nm pa lo, headR t = some (nm, pa, lo) → ∀ w', Hp [] w0 w' its → K nm pa lo ⟨none, 0, 0⟩ true w') (hno : headR t = none → ∀ w', Hp [] w0 w' its → K ⟨#[]⟩ 0 0 ⟨none, 0, 0⟩ false w') : c61 t w K := by
 refine c61_of ?_
 unfold f61
 refine h.nw fun A w1 h => ?_
 refine Split_spec h hG ht fun sl w1 h => ?_
 have hlen := h.len (s := sl) (e := 9) (n := 1) (f := sv) (l := splitS t) (its ++ [tBlk A 30 [.string (⟨#[]⟩ : ByteArray), .int .i64 0, .int .i64 0, .slice none 0 0]]).length (by rw [List.getElem?_concat_length]; rfl)
 have hel : ∀ {w' : World} {i : Nat} {x : ByteArray} {K : ByteArray → Prop}, Hp [] w0 w' (its ++ [tBlk A 30 [.string (⟨#[]⟩ : ByteArray), .int .i64 0, .int .i64 0, .slice none 0 0]] ++ [tSl sl 9 1 sv (splitS t)]) → (splitS t)[i]? = some x → K x → Ix sl.a sl.len (i : Int) 1 fun a => Ld .s w' a fun x => K x := by
  intro w' i x K h hx hK
  refine h.ixr (its ++ [tBlk A 30 [.string (⟨#[]⟩ : ByteArray), .int .i64 0, .int .i64 0, .slice none 0 0]]).length (s := sl) (l := splitS t) (f := sv) (n := 1) (e := 9) (by rw [List.getElem?_concat_length]; rfl) (by omega) (y := x) (by rw [Int.toNat_natCast]; exact hx) (fun _ => rfl) fun ad hc => ?_
  exact ldR0 (k := .s) (x := x) (hc 0 (by omega)) rfl hK
 have fail : ∀ w', Hp [] w0 w' (its ++ [tBlk A 30 [.string (⟨#[]⟩ : ByteArray), .int .i64 0, .int .i64 0, .slice none 0 0]] ++ [tSl sl 9 1 sv (splitS t)]) → headR t = none → (St ⟨A, 0, none⟩ (.string (⟨#[]⟩ : ByteArray)) w' fun (w : World) => St ((⟨A, 0, none⟩ : Addr).add 1) (.int .i64 0) w fun (w : World) => St ((⟨A, 0, none⟩ : Addr).add 2) (.int .i64 0) w fun (w : World) => St ((⟨A, 0, none⟩ : Addr).add 3) (.slice none 0 0) w fun (w : World) =>
   Ld .s w ⟨A, 0, none⟩ fun r_Name => Ld (.i .i64) w ((⟨A, 0, none⟩ : Addr).add 1) fun r_Params => Ld (.i .i64) w ((⟨A, 0, none⟩ : Addr).add 2) fun r_Locals => Ld .sl w ((⟨A, 0, none⟩ : Addr).add 3) fun r_Code => K r_Name r_Params r_Locals r_Code false w) := by
  intro w' h hn
  refine h.st0 its.length mid1 (by simp) rfl fun w1 h => ?_
  rw [List.set_append_left _ _ (by simp), set_last] at h
  refine h.st (n := 1) its.length mid1 (by simp) rfl fun w1 h => ?_
  rw [List.set_append_left _ _ (by simp), set_last] at h
  refine h.st (n := 2) its.length mid1 (by simp) rfl fun w1 h => ?_
  rw [List.set_append_left _ _ (by simp), set_last] at h
  refine h.st (n := 3) its.length mid1 (by simp) rfl fun w1 h => ?_
  rw [List.set_append_left _ _ (by simp), set_last] at h
  refine h.ld0 (k := .s) (x := (⟨#[]⟩ : ByteArray)) its.length (by rw [mid1]; rfl) rfl ?_
  refine h.ld (n := 1) (k := .i .i64) (x := 0) its.length (by rw [mid1]; rfl) rfl ?_
  refine h.ld (n := 2) (k := .i .i64) (x := 0) its.length (by rw [mid1]; rfl) rfl ?_
  refine h.ld (n := 3) (k := .sl) (x := ⟨none, 0, 0⟩) its.length (by rw [mid1]; rfl) rfl ?_
  exact hno hn w1 h.front.front
 have hps : ∀ x ∈ splitS t, x.size ≤ t.size := fun x hx => split_size sp _ t x hx
 refine ⟨fun b w' => Hp [] w0 w' (its ++ [tBlk A 30 [.string (⟨#[]⟩ : ByteArray), .int .i64 0, .int .i64 0, .slice none 0 0]] ++ [tSl sl 9 1 sv (splitS t)]) ∧ (b = true → headR t = none) ∧ (b = false → ∃ x y z, splitS t = [x, y, z] ∧ listedM x = true), ?_, ?_⟩
 ·by_cases h3 : sl.len = 3
  ·obtain ⟨x, y, z, hsp⟩ : ∃ x y z, splitS t = [x, y, z] := by
    have hl3 : (splitS t).length = 3 := by omega
    generalize splitS t = ls at hl3
    match ls, hl3 with
    | [x, y, z], _ => exact ⟨x, y, z, rfl⟩
   refine ifF (by simp [h3]) ?_
   refine hel (i := 0) (x := x) h (by rw [hsp]; rfl) ?_
   refine listed_spec (by have := hps x (by rw [hsp]; simp); omega) ⟨h, fun hb => ?_, fun hb => ⟨x, y, z, hsp, by simpa using hb⟩⟩
   unfold headR
   rw [hsp]
   dsimp only
   rw [if_neg (by simpa using hb)]
  ·refine ifT (by simp; omega) ⟨h, fun _ => ?_, fun hb => by cases hb⟩
   unfold headR
   split
   ·rename_i hsp
    rw [hsp] at hlen
    simp at hlen
    omega
   ·rfl
 clear h
 rintro b w1 ⟨h, hb1, hb2⟩
 cases b with
 | true => exact ifT rfl (fail w1 h (hb1 rfl))
 | false =>
  refine ifF (by decide) ?_
  obtain ⟨x, y, z, hsp, hlx⟩ := hb2 rfl
  have sy := hps y (by rw [hsp]; simp)
  have sz := hps z (by rw [hsp]; simp)
  have hh : headR t = (match decO y, decO z with
   | some p, some q => if 0 ≤ p ∧ p ≤ 4 ∧ p ≤ q ∧ q ≤ 32 then some (x, p, q) else none
   | _, _ => none) := by
   unfold headR
   rw [hsp]
   dsimp only
   rw [if_pos hlx]
  refine hel (i := 1) (x := y) h (by rw [hsp]; rfl) ?_
  refine decimal_u h hG (by omega) fun p one w2 g1 g2 h => ?_
  refine hel (i := 2) (x := z) h (by rw [hsp]; rfl) ?_
  refine decimal_u h hG (by omega) fun q tw w3 k1 k2 h => ?_
  by_cases hg : one = true ∧ tw = true ∧ 0 ≤ p ∧ p ≤ 4 ∧ p ≤ q ∧ q ≤ 32
  ·obtain ⟨rfl, rfl, hr⟩ := hg
   refine ifF (by simp; omega) ?_
   refine hel (i := 0) (x := x) h (by rw [hsp]; rfl) ?_
   refine h.st0 its.length mid1 (by simp) rfl fun w1 h => ?_
   rw [List.set_append_left _ _ (by simp), set_last] at h
   refine h.st (n := 1) its.length mid1 (by simp) rfl fun w1 h => ?_
   rw [List.set_append_left _ _ (by simp), set_last] at h
   refine h.st (n := 2) its.length mid1 (by simp) rfl fun w1 h => ?_
   rw [List.set_append_left _ _ (by simp), set_last] at h
   refine h.st (n := 3) its.length mid1 (by simp) rfl fun w1 h => ?_
   rw [List.set_append_left _ _ (by simp), set_last] at h
   refine h.ld0 (k := .s) (x := x) its.length (by rw [mid1]; rfl) rfl ?_
   refine h.ld (n := 1) (k := .i .i64) (x := p) its.length (by rw [mid1]; rfl) rfl ?_
   refine h.ld (n := 2) (k := .i .i64) (x := q) its.length (by rw [mid1]; rfl) rfl ?_
   refine h.ld (n := 3) (k := .sl) (x := ⟨none, 0, 0⟩) its.length (by rw [mid1]; rfl) rfl ?_
   refine hok x p q ?_ w1 h.front.front
   rw [hh, (g1 rfl).1, (k1 rfl).1]
   dsimp only
   rw [if_pos hr]
  ·refine ifT ?_ (fail w3 h ?_)
   ·cases one with
    | false => rfl
    | true =>
     cases tw with
     | false => rfl
     | true =>
      have : ¬ (0 ≤ p ∧ p ≤ 4 ∧ p ≤ q ∧ q ≤ 32) := fun k => hg ⟨rfl, rfl, k⟩
      simp; omega
   ·rw [hh]
    cases one with
    | false => rw [g2 rfl]
    | true =>
     rw [(g1 rfl).1]
     cases tw with
     | false => rw [k2 rfl]
     | true =>
      rw [(k1 rfl).1]
      dsimp only
      rw [if_neg fun k => hg ⟨rfl, rfl, k⟩]
end
def rt0 : RT := ⟨⟨#[]⟩, 0, 0, []⟩
def rAdd (r : RT) (i : Ins) : RT := ⟨r.nm, r.pa, r.lo, r.code ++ [i]⟩
def readG (s : ByteArray) : Nat → Nat → Option RT → Except Nat RT
 | 0, a, _ => .error a
 | f + 1, a, st =>
  if st.isSome = true ∧ ¬ a < s.size then .ok (st.getD rt0)
  else if (cutB (s.extract a s.size) nl).2.2 = false then .error a
  else match st with
   | none => (match headR (cutB (s.extract a s.size) nl).1 with
    | none => .error a
    | some h => readG s f (a + (cutB (s.extract a s.size) nl).1.size + 1) (some ⟨h.1, h.2.1, h.2.2, []⟩))
   | some r => if r.code.length < 2000 then (match insR (cutB (s.extract a s.size) nl).1 with
    | none => .error a
    | some i => readG s f (a + (cutB (s.extract a s.size) nl).1.size + 1) (some (rAdd r i))) else .error a
def readM (s : ByteArray) : Except Nat RT := readG s (s.size + 2) 0 none
abbrev tR (b : Nat) (r : RT) (sl : Sl) : Thing := tBlk b 30 [.string r.nm, .int .i64 r.pa, .int .i64 r.lo, .slice sl.a sl.len sl.cap]
abbrev tA0 (b : Nat) : Thing := tBlk b 30 [.string (⟨#[]⟩ : ByteArray), .int .i64 0, .int .i64 0, .slice none 0 0]
section
variable {w0 w : World} {its rest : List Thing}
theorem set_mid {α : Type} {l B : List α} {a x : α} : (l ++ [a] ++ B).set l.length x = l ++ [x] ++ B := by
 rw [List.set_append_left _ _ (by simp), set_last]
theorem Read_spec (h : Hp [] w0 w its) (hG : Glob w0) {s : ByteArray} (hs : s.size < 4294967281) {K : ByteArray → Int → Int → Sl → Value → World → Prop}
  (hok : ∀ r, readM s = .ok r → ∀ sl w', Hp [] w0 w' (its ++ [tSl sl 23 2 insv r.code]) → K r.nm r.pa r.lo sl .nilIface w')
  (herr : ∀ e, readM s = .error e → ∀ fb w', Hp [] w0 w' (its ++ [tFault fb e]) → K ⟨#[]⟩ 0 0 ⟨none, 0, 0⟩ (.iface 86 (.pointer (some ⟨fb, 0, none⟩))) w') : c27 s w K := by
 refine c27_of ?_
 unfold f27
 obtain ⟨inf, i1, i2, i3, i4⟩ := inf23
 refine h.nw fun A w1 h => ?_
 refine h.nw fun R w1 h => ?_
 have h := h.nil 23 2 insv
 have h : Hp [] w0 w1 (its ++ [tA0 A] ++ [tR R rt0 ⟨none, 0, 0⟩] ++ [tSl ⟨none, 0, 0⟩ 23 2 insv rt0.code]) := h
 refine ⟨fun at_ first m w' => ∃ (a f : Nat) (st : Option RT) (sl : Sl), at_ = a ∧ a ≤ s.size ∧ first = st.isNone ∧ m = s.size - a ∧ s.size - a + 2 ≤ f ∧ readM s = readG s f a st ∧ Hp [] w0 w' (its ++ [tA0 A] ++ [tR R (st.getD rt0) sl] ++ [tSl sl 23 2 insv (st.getD rt0).code]),
  ⟨_, 0, s.size + 2, none, _, rfl, by omega, rfl, rfl, by omega, rfl, h⟩, ?_⟩
 clear h
 rintro at_ first m w1 ⟨a, f, st, sl, rfl, ha, rfl, rfl, hf, hM, h⟩
 obtain ⟨f, rfl⟩ : ∃ g, f = g + 1 := ⟨f - 1, by omega⟩
 unfold readG at hM
 have hA : ∀ {B : List Thing}, ((its ++ [tA0 A] ++ B)[its.length]?).map Thing.holds = some (tA0 A).holds := fun {B} => by rw [mid1]; rfl
 by_cases hend : st.isSome = true ∧ ¬ a < s.size
 ·rw [if_pos hend] at hM
  obtain ⟨r, rfl⟩ := Option.isSome_iff_exists.1 hend.1
  have h : Hp [] w0 w1 (its ++ [tA0 A] ++ [tR R r sl] ++ [tSl sl 23 2 insv r.code]) := h
  refine ifF (by simp; omega) ?_
  have hR : ((its ++ [tA0 A] ++ [tR R r sl] ++ [tSl sl 23 2 insv r.code])[its.length + 1]?).map Thing.holds = some (tR R r sl).holds := by rw [mid2]; rfl
  refine h.ld0 (k := .s) (x := r.nm) _ hR rfl ?_
  refine h.ld (n := 1) (k := .i .i64) (x := r.pa) _ hR rfl ?_
  refine h.ld (n := 2) (k := .i .i64) (x := r.lo) _ hR rfl ?_
  refine h.ld (n := 3) (k := .sl) (x := sl) _ hR rfl ?_
  have h : Hp [] w0 w1 (its ++ [tA0 A] ++ ([tR R r sl] ++ [tSl sl 23 2 insv r.code])) := by simpa using h
  refine h.st0 its.length mid1 (by simp) rfl fun w1 h => ?_
  rw [set_mid] at h
  refine h.st (n := 1) its.length mid1 (by simp) rfl fun w1 h => ?_
  rw [set_mid] at h
  refine h.st (n := 2) its.length mid1 (by simp) rfl fun w1 h => ?_
  rw [set_mid] at h
  refine h.st (n := 3) its.length mid1 (by simp) rfl fun w1 h => ?_
  rw [set_mid] at h
  refine h.ld0 (k := .s) (x := r.nm) its.length (by rw [mid1]; rfl) rfl ?_
  refine h.ld (n := 1) (k := .i .i64) (x := r.pa) its.length (by rw [mid1]; rfl) rfl ?_
  refine h.ld (n := 2) (k := .i .i64) (x := r.lo) its.length (by rw [mid1]; rfl) rfl ?_
  refine h.ld (n := 3) (k := .sl) (x := sl) its.length (by rw [mid1]; rfl) rfl ?_
  refine hok r hM sl w1 ?_
  refine Hp.dropMid (mid := [tBlk A 30 [.string r.nm, .int .i64 r.pa, .int .i64 r.lo, .slice sl.a sl.len sl.cap]] ++ [tR R r sl]) ?_
  simpa using h
 ·rw [if_neg hend] at hM
  refine ifT ?_ ?_
  ·cases st with
   | none => rfl
   | some r =>
    have : a < s.size := by
     rcases Nat.lt_or_ge a s.size with g | g
     ·exact g
     ·exact absurd ⟨rfl, by omega⟩ hend
    simp [this]
  refine ⟨by omega, by omega, by omega, ?_⟩
  rw [Int.toNat_natCast, Int.toNat_natCast]
  have hes : (s.extract a s.size).size = s.size - a := by rw [ByteArray.size_extract]; omega
  refine Cut_spec h hG (by omega) fun w1 h => ?_
  have esp : (⟨#[10]⟩ : ByteArray) = nl := rfl
  rw [esp]
  have hcf := cut_found (s := s.extract a s.size) (sep := nl)
  have hcs := (cut_size (s.extract a s.size) nl).1
  have hn1 : nl.size = 1 := rfl
  generalize hc : cutB (s.extract a s.size) nl = c at *
  obtain ⟨text, x_, whole⟩ := c
  dsimp only at hM hcf hcs ⊢
  have hlen := h.len (s := sl) (e := 23) (n := 2) (f := insv) (l := (st.getD rt0).code) (its.length + 2) (by rw [last3]; rfl)
  -- it is wrong here
  have wrongX : ∀ (B : List Thing) (w2 : World), Hp [] w0 w2 (its ++ [tA0 A] ++ B) → readM s = .error a → Nw (.cells #[.int .i64 (a : Int), .int .i64 130] 89) w2 fun (a2 : Addr) (w : World) =>
    St ⟨A, 0, none⟩ (.string (⟨#[]⟩ : ByteArray)) w fun (w : World) => St ((⟨A, 0, none⟩ : Addr).add 1) (.int .i64 0) w fun (w : World) => St ((⟨A, 0, none⟩ : Addr).add 2) (.int .i64 0) w fun (w : World) => St ((⟨A, 0, none⟩ : Addr).add 3) (.slice none 0 0) w fun (w : World) =>
    Ld .s w ⟨A, 0, none⟩ fun r1 => Ld (.i .i64) w ((⟨A, 0, none⟩ : Addr).add 1) fun r2 => Ld (.i .i64) w ((⟨A, 0, none⟩ : Addr).add 2) fun r3 => Ld .sl w ((⟨A, 0, none⟩ : Addr).add 3) fun r4 => K r1 r2 r3 r4 (.iface 86 (.pointer (some a2))) w := by
   intro B w2 h he
   refine h.nw fun fb w3 h => ?_
   have h : Hp [] w0 w3 (its ++ [tA0 A] ++ (B ++ [tFault fb a])) := by simpa using h
   refine h.st0 its.length mid1 (by simp) rfl fun w1 h => ?_
   rw [set_mid] at h
   refine h.st (n := 1) its.length mid1 (by simp) rfl fun w1 h => ?_
   rw [set_mid] at h
   refine h.st (n := 2) its.length mid1 (by simp) rfl fun w1 h => ?_
   rw [set_mid] at h
   refine h.st (n := 3) its.length mid1 (by simp) rfl fun w1 h => ?_
   rw [set_mid] at h
   refine h.ld0 (k := .s) (x := (⟨#[]⟩ : ByteArray)) its.length (by rw [mid1]; rfl) rfl ?_
   refine h.ld (n := 1) (k := .i .i64) (x := 0) its.length (by rw [mid1]; rfl) rfl ?_
   refine h.ld (n := 2) (k := .i .i64) (x := 0) its.length (by rw [mid1]; rfl) rfl ?_
   refine h.ld (n := 3) (k := .sl) (x := ⟨none, 0, 0⟩) its.length (by rw [mid1]; rfl) rfl ?_
   refine herr a he fb w1 ?_
   refine Hp.dropMid (mid := [tA0 A] ++ B) ?_
   simpa using h
  refine ⟨fun b w' => b = (whole && (st.isNone || decide ((st.getD rt0).code.length < 2000))) ∧ Hp [] w0 w' (its ++ [tA0 A] ++ [tR R (st.getD rt0) sl] ++ [tSl sl 23 2 insv (st.getD rt0).code]), ?_, ?_⟩
  ·cases whole with
   | false => exact ifF (by decide) ⟨rfl, h⟩
   | true =>
    refine ifT rfl ?_
    cases st with
    | none => exact ifT rfl ⟨rfl, h⟩
    | some r =>
     refine ifF (by simp) ?_
     refine h.ld (n := 3) (k := .sl) (x := sl) (its.length + 1) (by rw [mid2]; rfl) rfl ⟨?_, h⟩
     have : r.code.length = sl.len := hlen
     simp; omega
  clear h
  rintro g w1 ⟨rfl, h⟩
  refine ⟨fun g w' => (g = false ∧ readM s = .error a ∧ ∃ B, Hp [] w0 w' (its ++ [tA0 A] ++ B)) ∨ (g = true ∧ whole = true ∧ ∃ r' sl', readM s = readG s f (a + text.size + 1) (some r') ∧ Hp [] w0 w' (its ++ [tA0 A] ++ [tR R r' sl'] ++ [tSl sl' 23 2 insv r'.code])), ?_, ?_⟩
  ·by_cases hg : (whole && (st.isNone || decide ((st.getD rt0).code.length < 2000))) = true
   ·refine ifF (by simp [hg]) ?_
    rw [Bool.and_eq_true] at hg
    obtain ⟨rfl, hg⟩ := hg
    rw [if_neg (by decide)] at hM
    cases st with
    | none =>
     refine ifT rfl ?_
     dsimp only at hM
     have stores : ∀ (nm : ByteArray) (pa lo : Int) (sl2 : Sl) (w2 : World), Hp [] w0 w2 (its ++ [tA0 A] ++ [tR R rt0 sl] ++ [tSl sl 23 2 insv rt0.code]) → ∀ {G : World → Prop}, (∀ w3, Hp [] w0 w3 (its ++ [tA0 A] ++ [tBlk R 30 [.string nm, .int .i64 pa, .int .i64 lo, .slice sl2.a sl2.len sl2.cap]] ++ [tSl sl 23 2 insv rt0.code]) → G w3) → St ⟨R, 0, none⟩ (.string nm) w2 fun w => St ((⟨R, 0, none⟩ : Addr).add 1) (.int .i64 pa) w fun w => St ((⟨R, 0, none⟩ : Addr).add 2) (.int .i64 lo) w fun w => St ((⟨R, 0, none⟩ : Addr).add 3) (.slice sl2.a sl2.len sl2.cap) w G := by
      intro nm pa lo sl2 w2 h G hG
      refine h.st0 (its ++ [tA0 A]).length mid1 (by simp) rfl fun w1 h => ?_
      rw [set_mid] at h
      refine h.st (n := 1) (its ++ [tA0 A]).length mid1 (by simp) rfl fun w1 h => ?_
      rw [set_mid] at h
      refine h.st (n := 2) (its ++ [tA0 A]).length mid1 (by simp) rfl fun w1 h => ?_
      rw [set_mid] at h
      refine h.st (n := 3) (its ++ [tA0 A]).length mid1 (by simp) rfl fun w1 h => ?_
      rw [set_mid] at h
      exact hG w1 h
     refine header_spec h hG (by omega) (fun nm pa lo hh w2 h => stores _ _ _ _ w2 h fun w3 h => .inr ⟨rfl, rfl, ⟨nm, pa, lo, []⟩, ⟨none, 0, 0⟩, ?_, ?_⟩) (fun hh w2 h => stores _ _ _ _ w2 h fun w3 h => .inl ⟨rfl, ?_, _, by rw [List.append_assoc (its ++ [tA0 A])] at h; exact h⟩)
     ·rw [hM, hh]
     ·have h := h.front.nil 23 2 insv
      exact h
     ·rw [hM, hh]
    | some r =>
     refine ifF (by simp) ?_
     dsimp only at hM
     have hl2 : r.code.length < 2000 := by simpa using hg
     rw [if_pos hl2] at hM
     have hsl : r.code.length = sl.len := hlen
     have h : Hp [] w0 w1 (its ++ [tA0 A] ++ [tR R r sl] ++ [tSl sl 23 2 insv r.code]) := h
     refine h.nw fun I w2 h => ?_
     have fin : ∀ (op x : Int) (w2 : World), Hp [] w0 w2 (its ++ [tA0 A] ++ [tR R r sl] ++ [tSl sl 23 2 insv r.code] ++ [tBlk I 23 [.int .i64 0, .int .i64 0]]) → ∀ {G : World → Prop}, (∀ sl' w3, Hp [] w0 w3 (its ++ [tA0 A] ++ [tR R (rAdd r (op, x)) sl'] ++ [tSl sl' 23 2 insv (rAdd r (op, x)).code]) → G w3) →
       St ⟨I, 0, none⟩ (.int .i64 op) w2 fun w => St ((⟨I, 0, none⟩ : Addr).add 1) (.int .i64 x) w fun w => Ld .sl w ((⟨R, 0, none⟩ : Addr).add 3) fun Code2 => Ld (.i .i64) w ⟨I, 0, none⟩ fun r1 => Ld (.i .i64) w ((⟨I, 0, none⟩ : Addr).add 1) fun r2 =>
        Nw (.cells #[.int .i64 r1, .int .i64 r2] 23) w fun b w => Run .sl Tryz.prog (Builtin.append_ #[28, 28] 28 #[.slice Code2.a Code2.len Code2.cap, .slice (some b) 1 1]) w fun s3 w => St ((⟨R, 0, none⟩ : Addr).add 3) (.slice s3.a s3.len s3.cap) w fun w => G w := by
      intro op x w2 h G hG
      refine h.st0 _ List.getElem?_concat_length (by simp) rfl fun w3 h => ?_
      rw [set_last] at h
      refine h.st (n := 1) _ List.getElem?_concat_length (by simp) rfl fun w3 h => ?_
      rw [set_last] at h
      refine h.ld (n := 3) (k := .sl) (x := sl) (its ++ [tA0 A]).length (by rw [List.append_assoc (its ++ [tA0 A] ++ [tR R r sl]), mid1]; rfl) rfl ?_
      refine h.ld0 (k := .i .i64) (x := op) _ (by rw [List.getElem?_concat_length]; rfl) rfl ?_
      refine h.ld (n := 1) (k := .i .i64) (x := x) _ (by rw [List.getElem?_concat_length]; rfl) rfl ?_
      have h := h.front
      refine h.nwapp (c := insv (op, x)) _ (op, x) List.getElem?_concat_length insv_len und28 i1 i3 i2 rfl rfl (by simp [Value.oneCell']) (by rw [i4]; omega) (by omega) fun s2 w6 h _ _ => ?_
      rw [set_last] at h
      refine h.st (n := 3) (its ++ [tA0 A]).length mid1 (by simp) rfl fun w7 h => ?_
      rw [set_mid] at h
      exact hG s2 w7 h
     refine readIns_spec h hG (by omega) (fun x hx x0 x1 w2 h => fin x.1 x.2 w2 h fun sl' w3 h => .inr ⟨rfl, rfl, rAdd r x, sl', ?_, h⟩) (fun hx op x w2 h => fin op x w2 h fun sl' w3 h => .inl ⟨rfl, ?_, _, by rw [List.append_assoc (its ++ [tA0 A])] at h; exact h⟩)
     ·rw [hM, hx]
     ·rw [hM, hx]
   ·have hg' := Bool.eq_false_iff.2 hg
    refine ifT (by rw [hg']; rfl) (.inl ⟨hg', ?_, _, by rw [List.append_assoc (its ++ [tA0 A])] at h; exact h⟩)
    rw [hM]
    cases whole with
    | false => rfl
    | true =>
     rw [if_neg (by decide)]
     cases st with
     | none => exact absurd rfl hg
     | some r =>
      dsimp only
      rw [if_neg (by simpa using hg)]
  clear h
  rintro g w1 (⟨rfl, he, B, h⟩ | ⟨rfl, rfl, r', sl', he, h⟩)
  ·exact ifT rfl (wrongX B w1 h he)
  ·refine ifF (by decide) ?_
   have := hcf rfl
   refine ⟨s.size - (a + text.size + 1), by omega, a + text.size + 1, f, some r', sl', ?_, by omega, rfl, rfl, by omega, he, h⟩
   rw [wr64 (n := (text.size : Int) + 1) (by omega) (by omega), wr64 (by omega) (by omega)]; omega
end
theorem dec_1 : dec 1 = ⟨#[49]⟩ := by simp [dec, Lib.itoa, Lib.decDigits_one]
theorem dec_2 : dec 2 = ⟨#[50]⟩ := by simp [dec, Lib.itoa, Lib.decDigits_one]
theorem dec_0 : dec 0 = ⟨#[48]⟩ := by simp [dec, Lib.itoa, Lib.decDigits_one]
theorem dec_7 : dec 7 = ⟨#[55]⟩ := by simp [dec, Lib.itoa, Lib.decDigits_one]
theorem dec_m3 : dec (-3) = ⟨#[45, 51]⟩ := by simp [dec, Lib.itoa, Lib.decDigits_one]
theorem decO_of {s : ByteArray} {v : Int} (h : Lib.parseIntB 64 s.data.toList = .ok v) (hd : dec v = s) : decO s = some v := by
 unfold decO; rw [h]; dsimp only; rw [if_pos hd]
theorem decO_no {s : ByteArray} {v : Int} (h : Lib.parseIntB 64 s.data.toList = .ok v) (hd : dec v ≠ s) : decO s = none := by
 unfold decO; rw [h]; dsimp only; rw [if_neg hd]
theorem list_shown : listS ⟨⟨#[102]⟩, 1, 2, [(2, 0), (1, -3), (6, 0), (22, 0)]⟩ = ⟨#[102, 32, 49, 32, 50, 10, 108, 111, 97, 100, 32, 48, 10, 112, 117, 115, 104, 32, 45, 51, 10, 97, 100, 100, 10, 114, 101, 116, 10]⟩ := by
 have e : listL ⟨⟨#[102]⟩, 1, 2, [(2, 0), (1, -3), (6, 0), (22, 0)]⟩ = [102, 32, 49, 32, 50, 10, 108, 111, 97, 100, 32, 48, 10, 112, 117, 115, 104, 32, 45, 51, 10, 97, 100, 100, 10, 114, 101, 116, 10] := by
  unfold listL headL
  simp only [List.flatMap_cons, List.flatMap_nil, lineL, decL, dec_1, dec_2]
  rw [if_pos (by rfl), if_pos (by rfl), if_neg (by decide), if_neg (by decide), dec_0, dec_m3]
  rfl
 unfold listS
 rw [e]
 rfl
theorem head_shown : headR ⟨#[102, 32, 49, 32, 50]⟩ = some (⟨#[102]⟩, 1, 2) := by
 unfold headR
 rw [show splitS ⟨#[102, 32, 49, 32, 50]⟩ = [⟨#[102]⟩, ⟨#[49]⟩, ⟨#[50]⟩] from rfl]
 dsimp only
 rw [if_pos (by rfl), decO_of (s := ⟨#[49]⟩) (v := 1) rfl dec_1, decO_of (s := ⟨#[50]⟩) (v := 2) rfl dec_2]
 rfl
theorem ins_yes : insR ⟨#[112, 117, 115, 104, 32, 55]⟩ = some (1, 7) := by
 unfold insR
 rw [show cutB ⟨#[112, 117, 115, 104, 32, 55]⟩ sp = (⟨#[112, 117, 115, 104]⟩, ⟨#[55]⟩, true) from rfl]
 dsimp only
 rw [show numOf ⟨#[112, 117, 115, 104]⟩ = 1 from rfl, if_neg (by decide), if_pos rfl, decO_of (s := ⟨#[55]⟩) (v := 7) rfl dec_7]
 rfl
theorem ins_no : insR ⟨#[108, 111, 97, 100, 32, 48, 48]⟩ = none := by
 unfold insR
 rw [show cutB ⟨#[108, 111, 97, 100, 32, 48, 48]⟩ sp = (⟨#[108, 111, 97, 100]⟩, ⟨#[48, 48]⟩, true) from rfl]
 dsimp only
 rw [show numOf ⟨#[108, 111, 97, 100]⟩ = 2 from rfl, if_neg (by decide), if_pos rfl, decO_no (s := ⟨#[48, 48]⟩) (v := 0) rfl (by rw [dec_0]; decide)]
 rfl
theorem read_yes : readM ⟨#[102, 32, 49, 32, 50, 10, 112, 117, 115, 104, 32, 55, 10]⟩ = .ok ⟨⟨#[102]⟩, 1, 2, [(1, 7)]⟩ := by
 show readG _ (14 + 1) 0 none = _
 unfold readG
 rw [if_neg (by decide)]
 rw [show cutB ((⟨#[102, 32, 49, 32, 50, 10, 112, 117, 115, 104, 32, 55, 10]⟩ : ByteArray).extract 0 (⟨#[102, 32, 49, 32, 50, 10, 112, 117, 115, 104, 32, 55, 10]⟩ : ByteArray).size) nl = (⟨#[102, 32, 49, 32, 50]⟩, ⟨#[112, 117, 115, 104, 32, 55, 10]⟩, true) from rfl]
 dsimp only
 rw [if_neg (by decide), head_shown]
 show readG _ (13 + 1) 6 (some ⟨⟨#[102]⟩, 1, 2, []⟩) = _
 unfold readG
 rw [if_neg (by decide)]
 rw [show cutB ((⟨#[102, 32, 49, 32, 50, 10, 112, 117, 115, 104, 32, 55, 10]⟩ : ByteArray).extract 6 (⟨#[102, 32, 49, 32, 50, 10, 112, 117, 115, 104, 32, 55, 10]⟩ : ByteArray).size) nl = (⟨#[112, 117, 115, 104, 32, 55]⟩, ⟨#[]⟩, true) from rfl]
 dsimp only
 rw [if_neg (by decide), if_pos (by decide), ins_yes]
 show readG _ (12 + 1) 13 (some ⟨⟨#[102]⟩, 1, 2, [(1, 7)]⟩) = _
 unfold readG
 rw [if_pos (by decide)]
 rfl
theorem read_no : readM ⟨#[102, 32, 49, 32, 50, 10, 108, 111, 97, 100, 32, 48, 48, 10]⟩ = .error 6 := by
 show readG _ (15 + 1) 0 none = _
 unfold readG
 rw [if_neg (by decide)]
 rw [show cutB ((⟨#[102, 32, 49, 32, 50, 10, 108, 111, 97, 100, 32, 48, 48, 10]⟩ : ByteArray).extract 0 (⟨#[102, 32, 49, 32, 50, 10, 108, 111, 97, 100, 32, 48, 48, 10]⟩ : ByteArray).size) nl = (⟨#[102, 32, 49, 32, 50]⟩, ⟨#[108, 111, 97, 100, 32, 48, 48, 10]⟩, true) from rfl]
 dsimp only
 rw [if_neg (by decide), head_shown]
 show readG _ (14 + 1) 6 (some ⟨⟨#[102]⟩, 1, 2, []⟩) = _
 unfold readG
 rw [if_neg (by decide)]
 rw [show cutB ((⟨#[102, 32, 49, 32, 50, 10, 108, 111, 97, 100, 32, 48, 48, 10]⟩ : ByteArray).extract 6 (⟨#[102, 32, 49, 32, 50, 10, 108, 111, 97, 100, 32, 48, 48, 10]⟩ : ByteArray).size) nl = (⟨#[108, 111, 97, 100, 32, 48, 48]⟩, ⟨#[]⟩, true) from rfl]
 dsimp only
 rw [if_neg (by decide), if_pos (by decide), ins_no]
theorem pg_no : pgD [0, 0, 0] = .error 2 := rfl
theorem pg_yes : pgD [0, 1, 1, 102, 0, 0, 1, 22] = .ok ⟨[], [⟨⟨#[102]⟩, 0, 0, [(22, 0)]⟩]⟩ := rfl
section
variable {w0 w : World} {its rest : List Thing}
theorem pg_copy {S : List Nat} (h : Hp S w0 w its) {s1 s2 : Sl} {K : Addr → World → Prop} (hK : ∀ b w', Hp S w0 w' (its ++ [tBlk b 37 [.slice s1.a s1.len s1.cap, .slice s2.a s2.len s2.cap]]) → K ⟨b, 0, none⟩ w') :
  Nw (.cells #[.slice none 0 0, .slice none 0 0] 37) w fun (s : Addr) (w : World) => St s (.slice s1.a s1.len s1.cap) w fun (w : World) => St (s.add 1) (.slice s2.a s2.len s2.cap) w fun (w : World) => K s w := by
 refine h.nw fun b w1 h => ?_
 refine h.st0 its.length List.getElem?_concat_length (by simp) rfl fun w2 h => ?_
 rw [set_last] at h
 refine h.st (n := 1) its.length List.getElem?_concat_length (by simp) rfl fun w2 h => ?_
 rw [set_last] at h
 exact hK b w2 h
theorem shown0 (hG : Glob w) {K : Bool → World → Prop} (hK : ∀ w', Hp [] w w' [] → K true w') : c8 w K := by
 refine c8_of ?_
 unfold f8
 have h : Hp [] w w [] := Hp.init w
 refine h.nwS (l := [(2, 0), (1, -3), (6, 0), (22, 0)]) (f := insv) (n := 2) (m := 4) rfl rfl insv_len fun cb w1 h => ?_
 refine rt_copy h (sl := ⟨some ⟨cb, 0, none⟩, 4, 4⟩) fun rb w1 h => ?_
 have h : Hp [] w w1 [tSl ⟨some ⟨cb, 0, none⟩, 4, 4⟩ 23 2 insv [(2, 0), (1, -3), (6, 0), (22, 0)], tBlk rb 30 [.string ⟨#[102]⟩, .int .i64 1, .int .i64 2, .slice (some ⟨cb, 0, none⟩) 4 4]] := h
 refine h.ld0 (k := .s) (x := ⟨#[102]⟩) 1 rfl rfl ?_
 refine h.ld (n := 1) (k := .i .i64) (x := 1) 1 rfl rfl ?_
 refine h.ld (n := 2) (k := .i .i64) (x := 2) 1 rfl rfl ?_
 refine h.ld (n := 3) (k := .sl) (x := ⟨some ⟨cb, 0, none⟩, 4, 4⟩) 1 rfl rfl ?_
 obtain ⟨O, hO⟩ := h.see (i := 0) rfl
 refine List_spec (code := [(2, 0), (1, -3), (6, 0), (22, 0)]) ⟨O, SlF.toR hO⟩ ⟨by decide, by decide⟩ (by decide) (hG.fr h.fr).tab fun w2 h2 => ?_
 rw [list_shown]
 have h := (h.keep h2.fr).front (a := [])
 clear h2 hO O
 -- Read
 refine Read_spec h hG (by decide) (fun r hr sl1 w2 h => ?_) (fun e he => by rw [read_yes] at he; cases he)
 rw [read_yes] at hr
 cases hr
 refine rt_copy h (sl := sl1) fun xb w2 h => ?_
 have h : Hp [] w w2 [tSl sl1 23 2 insv [(1, 7)], tBlk xb 30 [.string ⟨#[102]⟩, .int .i64 1, .int .i64 2, .slice sl1.a sl1.len sl1.cap]] := h
 refine Read_spec h hG (by decide) (fun r hr => by rw [read_no] at hr; cases hr) (fun e he fb w2 h => ?_)
 rw [read_no] at he
 cases he
 refine rt_copy h (sl := ⟨none, 0, 0⟩) fun xb2 w2 h => ?_
 have h : Hp [] w w2 ([tSl sl1 23 2 insv [(1, 7)], tBlk xb 30 [.string ⟨#[102]⟩, .int .i64 1, .int .i64 2, .slice sl1.a sl1.len sl1.cap], tFault fb 6] ++ [tBlk xb2 30 [.string ⟨#[]⟩, .int .i64 0, .int .i64 0, .slice none 0 0]]) := h
 have h := h.front
 refine fault_spec h 2 rfl fun w2 h => ?_
 have h := h.nil 30 4 rtv
 refine Effect_spec h 3 (u := tSl ⟨none, 0, 0⟩ 30 4 rtv []) rfl Hp.rdSl fun w2 h => ?_
 rw [show (effM 26 26 []).1 = 2 from rfl, show (effM 26 26 []).2 = 0 from rfl]
 have hS0 : RdS w2 ⟨none, 0, 0⟩ ([] : List SY) := ⟨[], [], rfl, by simp, ⟨[], SlR.nil rfl, by simp⟩, by simp⟩
 have hR0 : RdR w2 ⟨none, 0, 0⟩ ([] : List RT) := ⟨[], rfl, ⟨[], SlR.nil rfl⟩, by simp⟩
 refine Encode_spec (p := ⟨[], []⟩) hS0 hR0 ⟨by simp, by simp⟩ (fun _ s2 w3 h2 => ?_) (fun e => by cases e)
 have h := h.r0 (rest := [tB s2 (encPg ⟨[], []⟩)]) rfl h2
 have h : Hp [] w w3 [tSl sl1 23 2 insv [(1, 7)], tBlk xb 30 [.string ⟨#[102]⟩, .int .i64 1, .int .i64 2, .slice sl1.a sl1.len sl1.cap], tFault fb 6, tSl ⟨none, 0, 0⟩ 30 4 rtv [], tB s2 [0, 0]] := h
 clear h2 hS0 hR0
 -- Decode
 refine h.nwS (l := [0, 0, 0]) (f := u8v) (n := 1) (m := 3) rfl rfl u8v_len fun b3 w4 h => ?_
 have h := h.comm
 have hs3 : Src (tSl ⟨some ⟨b3, 0, none⟩, 3, 3⟩ 5 1 u8v [0, 0, 0]) ⟨some ⟨b3, 0, none⟩, 3, 3⟩ [0, 0, 0] := ⟨Hp.rdSl, by unfold Bytes; decide, by decide, rfl, Nat.le_refl _⟩
 refine Decode_spec h hs3 (fun p hp => by rw [pg_no] at hp; cases hp) (fun e he f2 w4 h => ?_)
 rw [pg_no] at he
 cases he
 refine pg_copy h (s1 := ⟨none, 0, 0⟩) (s2 := ⟨none, 0, 0⟩) fun pb w4 h => ?_
 have h : Hp [] w w4 ([tSl ⟨some ⟨b3, 0, none⟩, 3, 3⟩ 5 1 u8v [0, 0, 0], tSl sl1 23 2 insv [(1, 7)], tBlk xb 30 [.string ⟨#[102]⟩, .int .i64 1, .int .i64 2, .slice sl1.a sl1.len sl1.cap], tFault fb 6, tSl ⟨none, 0, 0⟩ 30 4 rtv [], tB s2 [0, 0], tFault f2 2] ++ [tBlk pb 37 [.slice none 0 0, .slice none 0 0]]) := h
 have h := h.front
 refine fault_spec h 6 rfl fun w4 h => ?_
 refine h.nwS (l := [0, 1, 1, 102, 0, 0, 1, 22]) (f := u8v) (n := 1) (m := 8) rfl rfl u8v_len fun b4 w5 h => ?_
 have h := h.comm
 have hs4 : Src (tSl ⟨some ⟨b4, 0, none⟩, 8, 8⟩ 5 1 u8v [0, 1, 1, 102, 0, 0, 1, 22]) ⟨some ⟨b4, 0, none⟩, 8, 8⟩ [0, 1, 1, 102, 0, 0, 1, 22] := ⟨Hp.rdSl, by unfold Bytes; decide, by decide, rfl, Nat.le_refl _⟩
 refine Decode_spec h hs4 (fun p hp q1 q2 w5 h => ?_) (fun e he => by rw [pg_yes] at he; cases he)
 rw [pg_yes] at hp
 cases hp
 refine pg_copy h (s1 := q1) (s2 := q2) fun qb w5 h => ?_
 have h : Hp [] w w5 [tSl ⟨some ⟨b4, 0, none⟩, 8, 8⟩ 5 1 u8v [0, 1, 1, 102, 0, 0, 1, 22], tSl ⟨some ⟨b3, 0, none⟩, 3, 3⟩ 5 1 u8v [0, 0, 0], tSl sl1 23 2 insv [(1, 7)], tBlk xb 30 [.string ⟨#[102]⟩, .int .i64 1, .int .i64 2, .slice sl1.a sl1.len sl1.cap], tFault fb 6, tSl ⟨none, 0, 0⟩ 30 4 rtv [], tB s2 [0, 0], tFault f2 2, tSyN q1 [], tFnN q2 [⟨⟨#[102]⟩, 0, 0, [(22, 0)]⟩], tBlk qb 37 [.slice q1.a q1.len q1.cap, .slice q2.a q2.len q2.cap]] := h
 refine ifT (by simp) ?_
 refine ⟨true, fun _ _ => by kernel_rfl, ifT rfl ?_⟩
 have hl1 := h.len (s := sl1) (e := 23) (n := 2) (f := insv) (l := [(1, 7)]) 2 rfl
 refine h.ld (n := 3) (k := .sl) (x := sl1) 3 rfl rfl ?_
 refine ifT (by rw [← hl1]; rfl) ?_
 refine h.ld (n := 3) (k := .sl) (x := sl1) 3 rfl rfl ?_
 refine h.ixr 2 (s := sl1) (l := [(1, 7)]) (f := insv) (n := 2) (e := 23) (j := 0) rfl (by decide) (y := (1, 7)) rfl insv_len fun ad hc => ?_
 refine ldR (k := .i .i64) (x := 7) (hc 1 (by decide)) rfl ?_
 refine ifT rfl (ifT rfl (ifT rfl (ifT rfl (ifT rfl (ifT rfl ?_)))))
 refine h.rdb 6 (u := tB s2 [0, 0]) rfl Hp.rdSl ⟨#[0, 0]⟩ rfl ?_
 refine ifT (by simp) (ifT rfl (ifT rfl (ifT rfl (ifT rfl ?_))))
 refine ⟨true, fun _ _ => by kernel_rfl, ifT rfl ?_⟩
 have hq := h.nest_see (e := 30) (n := 4) (cells := rtv) (sub := subI) (vis := RV.r) (s := q2) (l := [⟨⟨#[102]⟩, 0, 0, [(22, 0)]⟩]) 9 rfl
 refine h.ld (n := 1) (k := .sl) (x := q2) 10 rfl rfl ?_
 refine ifT (by rw [← hq.1]; rfl) ?_
 refine h.ld (n := 1) (k := .sl) (x := q2) 10 rfl rfl ?_
 obtain ⟨xs, hx, h⟩ := h.nest_open (i := 9) rfl
 obtain ⟨x, rfl⟩ : ∃ x, xs = [x] := List.length_eq_one_iff.1 (by simpa using congrArg List.length hx)
 have hxc : x.code = [(22, 0)] := by
  have : x.r = ⟨⟨#[102]⟩, 0, 0, [(22, 0)]⟩ := by simpa using hx
  exact congrArg RT.code this
 obtain ⟨O, O1, O2, g1, _⟩ := h.see (i := 11) (t := tAll [subI x]) rfl
 have hxl : x.code.length = x.sl.len := g1.1
 refine h.ixr 9 (s := q2) (l := [x]) (f := rtv) (n := 4) (e := 30) (j := 0) rfl (by decide) (y := x) rfl rtv_len fun ad hc => ?_
 refine ldR (k := .sl) (x := x.sl) (hc 3 (by decide)) rfl ?_
 refine ifT (by rw [← hxl, hxc]; rfl) ?_
 refine Name_spec h fun w6 h => ?_
 refine ifT (by rw [str_beq]; rfl) ?_
 refine Number_spec h fun w6 h => ?_
 exact hK w6 (frNil h.fr)
theorem shown_spec (h : Hp [] w0 w its) (hG : Glob w0) {K : Bool → World → Prop} (hK : ∀ w', Hp [] w0 w' its → K true w') : c8 w K :=
 shown0 (hG.fr h.fr) fun w' h2 => hK w' (h.keep h2.fr)
end
end Go.Proofs.YtmfgofbcnlkolaaGreatDoor.F
end

section
namespace Go.Proofs.YtmfgofbcnlkolaaGreatDoor.FW
open F
open Go Go.Den Go.Proofs Go.RowKit
theorem und23s : Tryz.prog.underlying 23 = some (.struct (Tryz.prog.fieldsOf 23)) := by kernel_rfl
theorem und30s : Tryz.prog.underlying 30 = some (.struct (Tryz.prog.fieldsOf 30)) := by kernel_rfl
theorem undI3 : Tryz.prog.underlying 3 = some (.int .i64) := by kernel_rfl
theorem undI2 : Tryz.prog.underlying 2 = some (.int .i64) := by kernel_rfl
theorem und28s : Tryz.prog.underlying 28 = some (.slice 23) := by kernel_rfl
theorem cel2 : Tryz.prog.cellsOf 2 = 1 := by kernel_rfl
theorem cel3 : Tryz.prog.cellsOf 3 = 1 := by kernel_rfl
theorem cel9 : Tryz.prog.cellsOf 9 = 1 := by kernel_rfl
theorem cel23 : Tryz.prog.cellsOf 23 = 2 := by kernel_rfl
theorem cel28 : Tryz.prog.cellsOf 28 = 1 := by kernel_rfl
theorem cel30 : Tryz.prog.cellsOf 30 = 4 := by kernel_rfl
theorem byt23 : Tryz.prog.bytesOf 23 = 16 := by kernel_rfl
theorem wf_rng {x : Int} (h : (Lit.int .i64 x).wf = true) : -9223372036854775808 ≤ x ∧ x ≤ 9223372036854775807 := by
 have hm : IntKind.i64.min ≤ x ∧ x ≤ IntKind.i64.max := by simpa [Lit.wf] using h
 have h1 : IntKind.i64.min = -9223372036854775808 := by decide
 have h2 : IntKind.i64.max = 9223372036854775807 := by decide
 omega
theorem dec_ins {w : World} {B m : Nat} {ci : List Value} (hl : ci.length = 2) (h : RdV Tryz.prog w B m 23 ci) : ∃ x : Ins, ci = insv x ∧ (-9223372036854775808 ≤ x.2 ∧ x.2 ≤ 9223372036854775807) := by
 obtain ⟨_, q, hf⟩ := rd_struct und23s h
 match ci, hl with
 | [c0, c1], _ =>
  obtain ⟨m0, e0, h0⟩ := rd_int undI3 (rd_field hf 0 (ft := 3) (off := 0) (sz := 1) (by kernel_rfl) cel3)
  obtain ⟨m1, e1, h1⟩ := rd_int undI2 (rd_field hf 1 (ft := 2) (off := 1) (sz := 1) (by kernel_rfl) cel2)
  simp only [List.drop_zero, List.drop_succ_cons, List.take_succ_cons, List.take_zero, List.cons.injEq, and_true] at e0 e1
  subst e0 e1
  exact ⟨(m0, m1), rfl, wf_rng h1⟩
theorem dec_code {w : World} {B n : Nat} {cs : List Value} (h : RdV Tryz.prog w B n 28 cs) : ∃ (s : Sl) (l : List Ins), cs = [.slice s.a s.len s.cap] ∧ (∃ o, SlR w s 2 insv l o) ∧ l.length ≤ 8796093022208 ∧ ∀ x ∈ l, -9223372036854775808 ≤ x.2 ∧ x.2 ≤ 9223372036854775807 := by
 obtain ⟨s, l, o, h1, h2, h3, hb, h4, h5⟩ := rd_slice (f := insv) (G := fun x => -9223372036854775808 ≤ x.2 ∧ x.2 ≤ 9223372036854775807) und28s cel23 (by omega) (fun m ci hl hr => dec_ins hl hr) h
 rw [byt23] at hb
 unfold reachBytes at hb
 exact ⟨s, l, h1, ⟨o, h2⟩, by omega, h3⟩
theorem dec_rt {w : World} {B m : Nat} {ci : List Value} (hl : ci.length = 4) (h : RdV Tryz.prog w B m 30 ci) : ∃ x : RV, ci = rtv x ∧ x.r.Ok ∧ (∃ o, SlR w x.sl 2 insv x.code o) ∧ x.nm.size ≤ 140737488355328 ∧ (-9223372036854775808 ≤ x.pa ∧ x.pa ≤ 9223372036854775807) ∧ (-9223372036854775808 ≤ x.lo ∧ x.lo ≤ 9223372036854775807) := by
 obtain ⟨_, q, hf⟩ := rd_struct und30s h
 match ci, hl with
 | [c0, c1, c2, c3], _ =>
  obtain ⟨m0, e0, h0, _⟩ := rd_string und9 (rd_field hf 0 (ft := 9) (off := 0) (sz := 1) (by kernel_rfl) cel9)
  obtain ⟨m1, e1, h1⟩ := rd_int undI3 (rd_field hf 1 (ft := 3) (off := 1) (sz := 1) (by kernel_rfl) cel3)
  obtain ⟨m2, e2, h2⟩ := rd_int undI3 (rd_field hf 2 (ft := 3) (off := 2) (sz := 1) (by kernel_rfl) cel3)
  obtain ⟨s, l, e3, h3, h4, h5⟩ := dec_code (rd_field hf 3 (ft := 28) (off := 3) (sz := 1) (by kernel_rfl) cel28)
  simp only [List.drop_zero, List.drop_succ_cons, List.take_succ_cons, List.take_zero, List.cons.injEq, and_true] at e0 e1 e2 e3
  subst e0 e1 e2 e3
  unfold reachBytes at h0
  exact ⟨⟨m0, m1, m2, s, l⟩, rfl, ⟨by show l.length ≤ _; omega, h5⟩, h3, by show m0.size ≤ _; omega, wf_rng h1, wf_rng h2⟩
def pow10s : List Int := [1, 10, 100, 1000, 10000, 100000, 1000000, 10000000, 100000000, 1000000000, 10000000000, 100000000000, 1000000000000, 10000000000000, 100000000000000, 1000000000000000, 10000000000000000, 100000000000000000, 1000000000000000000, 10000000000000000000]
theorem gP : Tryz.prog.globalNamed "internal/strconv.uint64pow10" = some 1 := by kernel_rfl
theorem und39' : (match Tryz.prog.underlying 39 with | some (.interface _) => true | _ => false) = true := by kernel_rfl
theorem und39i : ∃ ms : Array (String × TypeId), Tryz.prog.underlying 39 = some (.interface ms) := by
 have h := und39'
 split at h
 ·exact ⟨_, by assumption⟩
 ·cases h
theorem starE : "*errors.errorString" = "*" ++ "errors.errorString" := by decide
theorem row191 (u : TypeId) (h : Tryz.prog.typeName? 3 u = some "*errors.errorString") : u = 191 :=
 typeName_ptr_named (nm := "errors.errorString") (by rw [← starE]; kernel_rfl) (by kernel_rfl) (by decide) u (by rw [← starE]; exact h)
theorem und191 : Tryz.prog.underlying 191 = some (.pointer 193) := by kernel_rfl
theorem und193 : Tryz.prog.underlying 193 = some (.struct #[⟨"s", 9, 0, false, "", "errors", 0⟩]) := by kernel_rfl
theorem cel193 : Tryz.prog.cellsOf 193 = 1 := by kernel_rfl
theorem gS : Tryz.prog.globalNamed "strconv.ErrSyntax" = some 2 := by kernel_rfl
theorem gR : Tryz.prog.globalNamed "strconv.ErrRange" = some 3 := by kernel_rfl
theorem gST : (Tryz.prog.globals[2]?).map (·.type) = some 39 := by kernel_rfl
theorem gRT : (Tryz.prog.globals[3]?).map (·.type) = some 39 := by kernel_rfl
theorem gPT : (Tryz.prog.globals[1]?).map (·.type) = some 165 := by kernel_rfl
theorem glob_of {w : World} (hs : w.ShapedOpen Tryz.prog) (ht : TabW w) (h2 : ∃ a : Addr, w.var? Tryz.prog "strconv.ErrSyntax" = some #[.iface 191 (.pointer (some a))]) (h3 : ∃ a : Addr, w.var? Tryz.prog "strconv.ErrRange" = some #[.iface 191 (.pointer (some a))]) : Glob w := by
 obtain ⟨a, ha⟩ := h2
 obtain ⟨b, hb⟩ := h3
 exact ⟨ht, cell_of_shapedOpen_int (g := 0) (t := 3) (zero := #[.int .i64 0]) hs (by rw [show Tryz.prog.globals.size = 8 by kernel_rfl]; decide) (by kernel_rfl) rfl (by kernel_rfl) (by kernel_rfl) undI3,
  ⟨.iface 191 (.pointer (some a)), World.var?_cell gS ha 0, .inr ⟨_, _, rfl⟩⟩,
  ⟨.iface 191 (.pointer (some b)), World.var?_cell gR hb 0, .inr ⟨_, _, rfl⟩⟩⟩
end Go.Proofs.YtmfgofbcnlkolaaGreatDoor.FW
end

section
namespace Go.Proofs.YtmfgofbcnlkolaaGreatDoor.F
open Go Go.Den Go.Proofs
theorem insNe {w : World} {x y : Operand} {a b c d : Int} {K : Bool → Prop} (hK : K (!decide ((a, b) = (c, d)))) : RunRo .b Tryz.prog (binSem .neq 23 x y (.agg #[.int .i64 a, .int .i64 b]) (.agg #[.int .i64 c, .int .i64 d])) w K := by
 refine runNe (r := (a == c && (b == d && true))) (by kernel_rfl) (by kernel_rfl) (by kernel_rfl) (by kernel_rfl) ?_
 have e : (a == c && (b == d && true)) = decide ((a, b) = (c, d)) := by
  rw [Bool.eq_iff_iff]; simp
 rw [e]; exact hK
theorem insEq {w : World} {x y : Operand} {a b c d : Int} {K : Bool → Prop} (hK : K (decide ((a, b) = (c, d)))) : RunRo .b Tryz.prog (binSem .eql 23 x y (.agg #[.int .i64 a, .int .i64 b]) (.agg #[.int .i64 c, .int .i64 d])) w K := by
 refine runEq (r := (a == c && (b == d && true))) (by kernel_rfl) (by kernel_rfl) (by kernel_rfl) (by kernel_rfl) ?_
 have e : (a == c && (b == d && true)) = decide ((a, b) = (c, d)) := by
  rw [Bool.eq_iff_iff]; simp
 rw [e]; exact hK
section
variable {S : List Nat} {w0 w : World} {its rest : List Thing}
theorem same_spec (h : Hp S w0 w its) (i j : Nat) {u v : Thing} {s t : Sl} {l m : List Ins} (hi : (its[i]?).map Thing.holds = some u.holds) (hu : Hp.Reads u s 2 insv l) (hj : (its[j]?).map Thing.holds = some v.holds) (hv : Hp.Reads v t 2 insv m) (hl : l.length ≤ 140737488355328)
  {K : Bool → World → Prop} (hK : ∀ w', Hp S w0 w' its → K (decide (l = m)) w') : c65 s t w K := by
 refine c65_of ?_
 unfold f65
 have hls := h.lenU i hi hu
 have hms := h.lenU j hj hv
 by_cases hlen : l.length = m.length
 ·refine ifF (by simp; omega) ?_
  refine ⟨fun k mm w' => ∃ q : Nat, k = q ∧ q ≤ l.length ∧ mm = l.length - q ∧ l.take q = m.take q ∧ Hp S w0 w' its, ⟨_, 0, rfl, by omega, rfl, rfl, h⟩, ?_⟩
  clear h
  rintro k mm w1 ⟨q, rfl, hq, rfl, he, h⟩
  by_cases hend : q = l.length
  ·refine ifF (by simp; omega) ?_
   have e : l = m := by
    rw [List.take_of_length_le (by omega), List.take_of_length_le (by omega)] at he
    exact he
   have := hK w1 h
   rw [decide_eq_true e] at this
   exact this
  ·obtain ⟨x, hx⟩ : ∃ x, l[q]? = some x := ⟨l[q]'(by omega), List.getElem?_eq_getElem (by omega)⟩
   obtain ⟨y, hy⟩ : ∃ y, m[q]? = some y := ⟨m[q]'(by omega), List.getElem?_eq_getElem (by omega)⟩
   refine ifT (by simp; omega) ?_
   refine h.dr fun w1 h => ?_
   obtain ⟨O, hO⟩ := h.see' hi
   obtain ⟨o, hR⟩ := hu.rd hO
   obtain ⟨O2, hO2⟩ := h.see' hj
   obtain ⟨o2, hR2⟩ := hv.rd hO2
   refine SlR.ix insv_len hR (by omega) (x := x) (by rw [Int.toNat_natCast]; exact hx) fun ad hc => ?_
   refine ldR0 (k := .i .i64) (x := x.1) (hc 0 (by omega)) rfl ?_
   refine ldR (k := .i .i64) (x := x.2) (hc 1 (by omega)) rfl ?_
   refine SlR.ix insv_len hR2 (by omega) (x := y) (by rw [Int.toNat_natCast]; exact hy) fun ad hc => ?_
   refine ldR0 (k := .i .i64) (x := y.1) (hc 0 (by omega)) rfl ?_
   refine ldR (k := .i .i64) (x := y.2) (hc 1 (by omega)) rfl ?_
   refine insNe ?_
   by_cases hxy : x = y
   ·subst hxy
    refine ifF (by simp) ⟨l.length - (q + 1), by omega, q + 1, by rw [wr64 (by omega) (by omega)]; omega, by omega, rfl, ?_, h⟩
    rw [List.take_add_one, List.take_add_one, hx, hy, he]
   ·have hne : (!decide ((x.1, x.2) = (y.1, y.2))) = true := by
     rw [decide_eq_false fun e => hxy e]; rfl
    refine ifT hne ?_
    have := hK w1 h
    rw [decide_eq_false fun e => hxy (by rw [e, hy] at hx; exact (Option.some.inj hx).symm)] at this
    exact this
 ·refine ifT (by simp; omega) ?_
  have := hK w h
  rw [decide_eq_false fun e => hlen (by rw [e])] at this
  exact this
theorem rt_eq {a b : RT} : a = b ↔ a.code = b.code ∧ a.nm = b.nm ∧ a.pa = b.pa ∧ a.lo = b.lo := by
 obtain ⟨a1, a2, a3, a4⟩ := a
 obtain ⟨b1, b2, b3, b4⟩ := b
 simp only [RT.mk.injEq]
 exact ⟨fun ⟨p, q, r, s⟩ => ⟨s, p, q, r⟩, fun ⟨p, q, r, s⟩ => ⟨q, r, s, p⟩⟩
theorem routines_spec (h : Hp S w0 w its) (i j : Nat) {u v : Thing} {x y : RV} (hi : (its[i]?).map Thing.holds = some u.holds) (hu : Hp.Reads u x.sl 2 insv x.code) (hj : (its[j]?).map Thing.holds = some v.holds) (hv : Hp.Reads v y.sl 2 insv y.code) (hl : x.code.length ≤ 140737488355328)
  {K : Bool → World → Prop} (hK : ∀ (r : Bool) w', (r = true ↔ x.r = y.r) → Hp S w0 w' its → K r w') : c29 x.nm x.pa x.lo x.sl y.nm y.pa y.lo y.sl w K := by
 refine c29_of ?_
 unfold f29
 have hjl : j < its.length := by
  rcases Nat.lt_or_ge j its.length with h1 | h1
  ·exact h1
  ·rw [List.getElem?_eq_none h1] at hj; cases hj
 have hil : i < its.length := by
  rcases Nat.lt_or_ge i its.length with h1 | h1
  ·exact h1
  ·rw [List.getElem?_eq_none h1] at hi; cases hi
 refine h.nw fun a w1 h => ?_
 refine h.nw fun b w1 h => ?_
 have hA : ∀ {t : Thing}, ((its ++ [tBlk a 30 (rtv x)] ++ [t])[its.length]?).map Thing.holds = some (tBlk a 30 (rtv x)).holds := fun {t} => by rw [mid1]; rfl
 have hB : ((its ++ [tBlk a 30 (rtv x)] ++ [tBlk b 30 (rtv y)])[(its ++ [tBlk a 30 (rtv x)]).length]?).map Thing.holds = some (tBlk b 30 (rtv y)).holds := by rw [List.getElem?_concat_length]; rfl
 have h : Hp S w0 w1 (its ++ [tBlk a 30 (rtv x)] ++ [tBlk b 30 (rtv y)]) := h
 refine h.ld (n := 3) (k := .sl) (x := x.sl) _ hA rfl ?_
 refine h.ld (n := 3) (k := .sl) (x := y.sl) _ hB rfl ?_
 refine same_spec h i j (u := u) (v := v) (by rw [List.append_assoc, List.getElem?_append_left hil]; exact hi) hu (by rw [List.append_assoc, List.getElem?_append_left hjl]; exact hj) hv hl fun w1 h => ?_
 have no : ¬ x.r = y.r → K false w1 := fun hn => hK false w1 ⟨(fun e => by cases e), fun e => absurd e hn⟩ h.front.front
 by_cases h1 : x.code = y.code
 ·refine ifT (by simpa using h1) ?_
  refine h.ld0 (k := .s) (x := x.nm) _ hA rfl ?_
  refine h.ld0 (k := .s) (x := y.nm) _ hB rfl ?_
  by_cases h2 : x.nm = y.nm
  ·refine ifT (by rw [h2]; simp) ?_
   refine h.ld (n := 1) (k := .i .i64) (x := x.pa) _ hA rfl ?_
   refine h.ld (n := 1) (k := .i .i64) (x := y.pa) _ hB rfl ?_
   by_cases h3 : x.pa = y.pa
   ·refine ifT (by rw [h3]; simp) ?_
    refine h.ld (n := 2) (k := .i .i64) (x := x.lo) _ hA rfl ?_
    refine h.ld (n := 2) (k := .i .i64) (x := y.lo) _ hB rfl ?_
    refine hK _ w1 ?_ h.front.front
    rw [rt_eq]
    simp [RV.r, h1, h2, h3]
   ·exact ifF (by simpa using h3) (no fun e => h3 (congrArg RT.pa e))
  ·refine ifF ?_ (no fun e => h2 (congrArg RT.nm e))
   rw [str_beq]
   simpa using fun e => h2 (strL_inj e)
 ·exact ifF (by simpa using h1) (no fun e => h1 (congrArg RT.code e))
end
def digs : ByteArray := ⟨#[48, 49, 50, 51, 52, 53, 54, 55, 56, 57]⟩
theorem dig {d : Nat} (h : d < 10) : digs.extract d (d + 1) = ⟨#[UInt8.ofNat (48 + d)]⟩ := by
 have key : ∀ k : Fin 10, digs.extract k.val (k.val + 1) = ⟨#[UInt8.ofNat (48 + k.val)]⟩ := by decide
 exact key ⟨d, h⟩
theorem dec_small {n : Int} (h0 : 0 ≤ n) (h1 : n < 10) : dec n = ⟨#[UInt8.ofNat (48 + n.toNat)]⟩ := by
 unfold dec Lib.itoa
 rw [if_neg (by omega), Lib.decDigits_one (by omega)]
theorem dec_big {n : Int} (h : 10 ≤ n) : dec n = dec (n / 10) ++ ⟨#[UInt8.ofNat (48 + (n % 10).toNat)]⟩ := by
 unfold dec Lib.itoa
 rw [if_neg (by omega), if_neg (by omega)]
 conv => lhs; rw [Lib.decDigits, dif_neg (by omega)]
 have e1 : (n / 10).toNat = n.toNat / 10 := by omega
 have e2 : (n % 10).toNat = n.toNat % 10 := by omega
 rw [e1, e2]
 apply ByteArray.ext
 simp [ByteArray.data_append]
theorem dec_neg {n : Int} (h : n < 0) : dec n = ⟨#[45]⟩ ++ dec (-n) := by
 unfold dec Lib.itoa
 rw [if_pos h, if_neg (by omega)]
 have e1 : n.natAbs = (-n).toNat := by omega
 rw [e1]
 apply ByteArray.ext
 simp [ByteArray.data_append]
theorem dec_min : dec (-9223372036854775808) = ⟨#[45, 57, 50, 50, 51, 51, 55, 50, 48, 51, 54, 56, 53, 52, 55, 55, 53, 56, 48, 56]⟩ := by
 unfold dec Lib.itoa
 rw [if_pos (by decide)]
 have e : ((-9223372036854775808 : Int)).natAbs = 9223372036854775808 := by decide
 rw [e]
 have d : Lib.decDigits 9223372036854775808 = [57, 50, 50, 51, 51, 55, 50, 48, 51, 54, 56, 53, 52, 55, 55, 53, 56, 48, 56] := by
  rw [Lib.decDigits_eq]
  have hn : Lib.nDigits 9223372036854775808 = 19 := Lib.nDigits_unique 18 _ (by decide) (by decide)
  rw [hn]
  decide
 rw [d]
section
variable {S : List Nat} {w0 w : World} {its rest : List Thing}
theorem Rdec_pos : ∀ (k : Nat) (n : Int), 0 ≤ n → n ≤ 9223372036854775807 → n.toNat < k → ∀ {w : World} {K : ByteArray → World → Prop}, K (dec n) w → c58 n w K
 | 0, n, _, _, h, _, _, _ => by omega
 | k + 1, n, h0, h1, hk, w, K, hK => by
  refine c58_of ?_
  unfold f58
  refine ifF (by simp; omega) (ifF (by simp; omega) ⟨by decide, by decide, ?_⟩)
  have em : Int.tmod n 10 = n % 10 := Int.tmod_eq_emod_of_nonneg h0
  have ed : Int.tdiv n 10 = n / 10 := Int.tdiv_eq_ediv_of_nonneg h0
  have e3 : IntKind.i64.wrap (n % 10 + 1) = n % 10 + 1 := wr64 (by omega) (by omega)
  rw [em, e3]
  refine ⟨by omega, by omega, ?_, ?_⟩
  ·show n % 10 + 1 ≤ (10 : Int)
   omega
  have e4 : (n % 10 + 1).toNat = (n % 10).toNat + 1 := by omega
  have e5 : (⟨#[48, 49, 50, 51, 52, 53, 54, 55, 56, 57]⟩ : ByteArray).extract (n % 10).toNat (n % 10 + 1).toNat = ⟨#[UInt8.ofNat (48 + (n % 10).toNat)]⟩ := by
   rw [e4]; exact dig (by omega)
  rw [e5]
  by_cases h10 : n < 10
  ·refine ifT (by simpa using h10) ?_
   have e6 : n % 10 = n := by omega
   rw [e6, ← dec_small h0 h10]
   exact hK
  ·refine ifF (by simpa using h10) ⟨by decide, ?_⟩
   have e7 : IntKind.i64.wrap (Int.tdiv n 10) = n / 10 := by rw [ed]; exact wr64 (by omega) (by omega)
   rw [e7]
   refine Rdec_pos k (n / 10) (by omega) (by omega) (by omega) ⟨?_, ?_⟩
   ·have := dec_size (n := n / 10) (by omega) (by omega)
    have z : (⟨#[UInt8.ofNat (48 + (n % 10).toNat)]⟩ : ByteArray).size = 1 := rfl
    omega
   ·rw [← dec_big (by omega)]
    exact hK
theorem Rdec_spec {n : Int} (h0 : -9223372036854775808 ≤ n) (h1 : n ≤ 9223372036854775807) {K : ByteArray → World → Prop} (hK : K (dec n) w) : c58 n w K := by
 by_cases hp : 0 ≤ n
 ·exact Rdec_pos (n.toNat + 1) n hp h1 (by omega) hK
 ·refine c58_of ?_
  unfold f58
  by_cases hm : n = -9223372036854775808
  ·subst hm
   refine ifT (by decide) ?_
   rw [dec_min] at hK
   exact hK
  ·refine ifF (by simpa using hm) (ifT (by simp; omega) ?_)
   have e : IntKind.i64.wrap (0 - n) = -n := by rw [wr64 (by omega) (by omega)]; omega
   rw [e]
   refine Rdec_pos ((-n).toNat + 1) (-n) (by omega) (by omega) (by omega) ⟨?_, ?_⟩
   ·have := dec_size (n := -n) (by omega) (by omega)
    have z : (⟨#[45]⟩ : ByteArray).size = 1 := rfl
    omega
   ·rw [← dec_neg (by omega)]
    exact hK
end
theorem listM_eq (r : RT) : listM r = ((strL r.nm).all visM && (rtOk r && decide (r.code.length ≤ 2000))) := by
 rw [Bool.eq_iff_iff]
 unfold listM listedM
 simp only [Bool.and_eq_true, decide_eq_true_iff, written_iff, rtOk_iff]
 constructor
 ·rintro ⟨⟨⟨a, b⟩, c⟩, d, e⟩
  exact ⟨a, d, by omega⟩
 ·rintro ⟨a, d, e⟩
  exact ⟨⟨⟨a, by omega⟩, by omega⟩, d, by omega⟩
section
variable {S : List Nat} {w0 w : World} {its rest : List Thing}
theorem Rlisted_spec (h : Hp S w0 w its) (j : Nat) {u : Thing} {nm : ByteArray} {pa lo : Int} {sl : Sl} {l : List Ins} (hj : its[j]? = some u) (hu : Hp.Reads u sl 2 insv l) (hlen : l.length ≤ 140737488355328) (hn : nm.size ≤ 140737488355328) {K : Bool → World → Prop}
  (hK : ∀ w', Hp S w0 w' its → K (listM ⟨nm, pa, lo, l⟩) w') : c57 nm pa lo sl w K := by
 refine c57_of ?_
 unfold f57
 rw [listM_eq] at hK
 have hjl := (List.getElem?_eq_some_iff.1 hj).1
 refine h.nw fun b w1 h => ?_
 refine ⟨fun t m w' => ∃ k : Nat, t = k ∧ k ≤ nm.size ∧ m = nm.size - k ∧ (strL nm).all visM = ((strL nm).drop k).all visM ∧ Hp S w0 w' (its ++ [tBlk b 30 [.string nm, .int .i64 pa, .int .i64 lo, .slice sl.a sl.len sl.cap]]), ⟨_, 0, rfl, by omega, rfl, rfl, h⟩, ?_⟩
 clear h
 rintro t m w1 ⟨k, rfl, hk, rfl, ha, h⟩
 have hl := strL_len nm
 have hB : ((its ++ [tBlk b 30 [.string nm, .int .i64 pa, .int .i64 lo, .slice sl.a sl.len sl.cap]])[its.length]?).map Thing.holds = some (tBlk b 30 [.string nm, .int .i64 pa, .int .i64 lo, .slice sl.a sl.len sl.cap]).holds := by rw [List.getElem?_concat_length]; rfl
 dsimp only at hK
 refine h.ld0 (k := .s) (x := nm) _ hB rfl ?_
 by_cases hend : k = nm.size
 ·refine ifF (by simp; omega) ?_
  rw [List.drop_of_length_le (by omega)] at ha
  refine h.ld0 (k := .s) (x := nm) _ hB rfl ?_
  refine h.ld (n := 1) (k := .i .i64) (x := pa) _ hB rfl ?_
  refine h.ld (n := 2) (k := .i .i64) (x := lo) _ hB rfl ?_
  refine h.ld (n := 3) (k := .sl) (x := sl) _ hB rfl ?_
  have hls := h.lenU (i := j) (by rw [List.getElem?_append_left hjl, hj]; rfl) hu
  refine Rroutine_spec h j (u := u) (by rw [List.getElem?_append_left hjl]; exact hj) hu hlen fun w2 h => ?_
  by_cases h1 : rtOk ⟨nm, pa, lo, l⟩ = true
  ·refine ifT h1 ?_
   refine h.ld (n := 3) (k := .sl) (x := sl) _ hB rfl ?_
   have := hK w2 h.front
   rw [ha, h1] at this
   have e : decide ((sl.len : Int) ≤ 2000) = decide (l.length ≤ 2000) := by congr 1; apply propext; omega
   rw [e]
   simpa using this
  ·refine ifF h1 ?_
   have := hK w2 h.front
   rw [ha, Bool.eq_false_iff.2 h1] at this
   exact this
 ·obtain ⟨c, hb, hs⟩ := strL_at (s := nm) (k := k) (by omega)
  refine ifT (by simp; omega) ?_
  rw [drop_cons hs, List.all_cons] at ha
  have hno : visM (c.toNat : Int) = false → ∀ w', Hp S w0 w' (its ++ [tBlk b 30 [.string nm, .int .i64 pa, .int .i64 lo, .slice sl.a sl.len sl.cap]]) → K false w' := fun hv w' h => by
   have := hK w' h.front
   rw [ha, hv] at this
   exact this
  refine h.ld0 (k := .s) (x := nm) _ hB rfl ?_
  refine ⟨by omega, c, by rw [Int.toNat_natCast]; exact hb, ?_⟩
  by_cases h1 : (c.toNat : Int) < 33
  ·exact ifT (by simpa using h1) (hno (by unfold visM; simp; omega) w1 h)
  ·refine ifF (by simpa using h1) ?_
   refine h.ld0 (k := .s) (x := nm) _ hB rfl ?_
   refine ⟨by omega, c, by rw [Int.toNat_natCast]; exact hb, ?_⟩
   by_cases h2 : (c.toNat : Int) > 126
   ·exact ifT (by simpa using h2) (hno (by unfold visM; simp; omega) w1 h)
   ·refine ifF (by simpa using h2) ⟨nm.size - (k + 1), by omega, k + 1, ?_, by omega, rfl, ?_, h⟩
    ·rw [wr64 (by omega) (by omega)]; omega
    ·rw [ha]
     have : visM (c.toNat : Int) = true := by unfold visM; simp; omega
     rw [this]; rfl
theorem RList_spec (h : Hp S w0 w its) (j : Nat) {u : Thing} {nm : ByteArray} {pa lo : Int} {sl : Sl} {code : List Ins} (hj : its[j]? = some u) (hu : Hp.Reads u sl 2 insv code) (hok : RT.Ok ⟨nm, pa, lo, code⟩) (hn : nm.size ≤ 140737488355328) {K : ByteArray → World → Prop}
  (hK : ∀ w', Hp S w0 w' its → K (listS ⟨nm, pa, lo, code⟩) w') : c26 nm pa lo sl w K := by
 have hcl := hok.len
 refine c26_of ?_
 unfold f26
 have hjl := (List.getElem?_eq_some_iff.1 hj).1
 refine h.nw fun b w1 h => ?_
 have hB : ((its ++ [tBlk b 30 [.string nm, .int .i64 pa, .int .i64 lo, .slice sl.a sl.len sl.cap]])[its.length]?).map Thing.holds = some (tBlk b 30 [.string nm, .int .i64 pa, .int .i64 lo, .slice sl.a sl.len sl.cap]).holds := by rw [List.getElem?_concat_length]; rfl
 have hj' : (its ++ [tBlk b 30 [.string nm, .int .i64 pa, .int .i64 lo, .slice sl.a sl.len sl.cap]])[j]? = some u := by rw [List.getElem?_append_left hjl]; exact hj
 refine h.ld0 (k := .s) (x := nm) _ hB rfl ?_
 refine h.ld (n := 1) (k := .i .i64) (x := pa) _ hB rfl ?_
 refine h.ld (n := 2) (k := .i .i64) (x := lo) _ hB rfl ?_
 refine h.ld (n := 3) (k := .sl) (x := sl) _ hB rfl ?_
 refine Rlisted_spec h j hj' hu hcl hn fun w1 h => ?_
 by_cases hM : listM ⟨nm, pa, lo, code⟩ = true
 ·refine ifF (by simp [hM]) ?_
  have hyes : ∀ w' s, strL s = listL ⟨nm, pa, lo, code⟩ → Hp S w0 w' its → K s w' := fun w' s e h => by
   have := hK w' h
   unfold listS at this
   rw [if_pos hM, ← e, strOf_strL] at this
   exact this
  have hW : writtenM ⟨nm, pa, lo, code⟩ 2000 = true := by
   unfold listM at hM
   rw [Bool.and_eq_true] at hM
   exact hM.2
  obtain ⟨k1, ⟨k2, k3⟩, ⟨k4, k5, k6, k7⟩, k8⟩ := writtenM_no hW
  dsimp only at k1 k2 k3 k4 k5 k6 k7 k8
  have z1 : (⟨#[32]⟩ : ByteArray).size = 1 := rfl
  have z2 : (⟨#[10]⟩ : ByteArray).size = 1 := rfl
  have d1 := dec_size (n := pa) (by omega) (by omega)
  have d2 := dec_size (n := lo) (by omega) (by omega)
  refine h.dr fun w1 h => ?_
  refine h.ld0 (k := .s) (x := nm) _ hB rfl ⟨by omega, ?_⟩
  refine h.ld (n := 1) (k := .i .i64) (x := pa) _ hB rfl ?_
  refine h.ld (n := 2) (k := .i .i64) (x := lo) _ hB rfl ?_
  refine Rdec_spec (by omega) (by omega) ?_
  refine ⟨h.cel (n := 2) _ hB rfl, h.cel0 _ hB rfl, by simp only [ByteArray.size_append]; omega, by simp only [ByteArray.size_append]; omega, ?_⟩
  refine Rdec_spec (by omega) (by omega) ?_
  refine ⟨h.cel0 _ hB rfl, by simp only [ByteArray.size_append]; omega, by simp only [ByteArray.size_append]; omega, ?_⟩
  have eh : strL (nm ++ ⟨#[32]⟩ ++ dec pa ++ ⟨#[32]⟩ ++ dec lo ++ ⟨#[10]⟩) = headL ⟨nm, pa, lo, code⟩ := by
   simp only [strL_append']
   show _ = strL nm ++ 32 :: (decL pa ++ 32 :: (decL lo ++ [10]))
   simp [decL]; rfl
  have hhl : (headL ⟨nm, pa, lo, code⟩).length ≤ 100 := by
   rw [← eh]
   simp only [strL_len, ByteArray.size_append]; omega
  have hls := h.lenU (i := j) (by rw [hj']; rfl) hu
  refine ⟨fun s t m w' => ∃ k : Nat, t = k ∧ k ≤ code.length ∧ m = code.length - k ∧ strL s = headL ⟨nm, pa, lo, code⟩ ++ ((code.take k).flatMap fun x => lineL x ++ [10]) ∧ Hp S w0 w' (its ++ [tBlk b 30 [.string nm, .int .i64 pa, .int .i64 lo, .slice sl.a sl.len sl.cap]]), ⟨_, 0, rfl, by omega, rfl, by rw [eh]; simp, h⟩, ?_⟩
  clear h
  rintro s t m w2 ⟨k, rfl, hk, rfl, hs, h⟩
  refine h.ld (n := 3) (k := .sl) (x := sl) _ hB rfl ?_
  by_cases hend : k = code.length
  ·refine ifF (by simp; omega) ?_
   rw [List.take_of_length_le (by omega)] at hs
   exact hyes w2 s hs h.front
  ·obtain ⟨x, hx⟩ : ∃ x, code[k]? = some x := ⟨code[k]'(by omega), List.getElem?_eq_getElem (by omega)⟩
   have hrg := hok.rng x (List.mem_of_getElem? hx)
   refine ifT (by simp; omega) ?_
   have hix : ∀ {w' : World} {m : Nat} {v : Int} {G : Int → Prop}, Hp S w0 w' (its ++ [tBlk b 30 [.string nm, .int .i64 pa, .int .i64 lo, .slice sl.a sl.len sl.cap]]) → m < 2 → (insv x)[m]? = some (.int .i64 v) → G v → Ix sl.a sl.len (k : Int) 2 fun a => Ld (.i .i64) w' (a.add m) fun r => G r := by
    intro w' m v G h hm hv hG
    obtain ⟨O, hO⟩ := h.see hj'
    obtain ⟨o, hR⟩ := hu.rd hO
    refine SlR.ix insv_len hR (by omega) (x := x) (by rw [Int.toNat_natCast]; exact hx) fun ad hc => ?_
    exact ldR (k := .i .i64) (x := v) (hc m hm) hv hG
   have hix0 : ∀ {w' : World} {G : Int → Prop}, Hp S w0 w' (its ++ [tBlk b 30 [.string nm, .int .i64 pa, .int .i64 lo, .slice sl.a sl.len sl.cap]]) → G x.1 → Ix sl.a sl.len (k : Int) 2 fun a => Ld (.i .i64) w' a fun r => G r := by
    intro w' G h hG
    obtain ⟨O, hO⟩ := h.see hj'
    obtain ⟨o, hR⟩ := hu.rd hO
    refine SlR.ix insv_len hR (by omega) (x := x) (by rw [Int.toNat_natCast]; exact hx) fun ad hc => ?_
    exact ldR0 (k := .i .i64) (x := x.1) (hc 0 (by omega)) rfl hG
   have hfl : ((code.take k).flatMap fun x => lineL x ++ [10]).length ≤ 28 * (code.take k).length := flat_len fun y hy => by
    have := hok.rng y (List.mem_of_mem_take hy)
    have := lineL_len this.1 this.2
    rw [List.length_append]; simp; omega
   rw [List.length_take] at hfl
   have hsl : s.size ≤ 100 + 28 * 2000 := by
    have := congrArg List.length hs
    rw [strL_len, List.length_append] at this
    omega
   have hw5 := word_size x.1
   have hd := dec_size hrg.1 hrg.2
   have e10 : strL (⟨#[10]⟩ : ByteArray) = [10] := rfl
   have e32 : strL (⟨#[32]⟩ : ByteArray) = [32] := rfl
   refine h.ld (n := 3) (k := .sl) (x := sl) _ hB rfl ?_
   refine hix0 h ?_
   refine RName_spec h fun w3 h => ⟨by omega, ?_⟩
   refine h.ld (n := 3) (k := .sl) (x := sl) _ hB rfl ?_
   refine hix0 h ?_
   refine HasA_spec h fun w3 h => ?_
   by_cases hnum : (row x.1).num = true
   ·refine ifT hnum ⟨by simp only [ByteArray.size_append]; omega, ?_⟩
    refine h.ld (n := 3) (k := .sl) (x := sl) _ hB rfl ?_
    refine hix (m := 1) (v := x.2) h (by decide) rfl ?_
    refine Rdec_spec hrg.1 hrg.2 ⟨by simp only [ByteArray.size_append]; omega, by simp only [ByteArray.size_append]; omega, ?_⟩
    refine ⟨code.length - (k + 1), by omega, k + 1, by rw [wr64 (by omega) (by omega)]; omega, by omega, rfl, ?_, h⟩
    rw [List.take_add_one, hx, List.flatMap_append]
    simp only [strL_append', hs, e10, e32]
    simp [lineL, decL, hnum]
   ·refine ifF hnum ⟨by simp only [ByteArray.size_append]; omega, ?_⟩
    refine ⟨code.length - (k + 1), by omega, k + 1, by rw [wr64 (by omega) (by omega)]; omega, by omega, rfl, ?_, h⟩
    rw [List.take_add_one, hx, List.flatMap_append]
    simp only [strL_append', hs, e10]
    simp [lineL, hnum]
 ·refine ifT (by simp [hM]) ?_
  have := hK w1 h.front
  unfold listS at this
  rw [if_neg hM] at this
  exact this
end
def accN (neg : Bool) (a c : Int) : Int := if neg = true then 10 * a - (c - 48) else 10 * a + (c - 48)
def dL (u : Nat) : List Int := (Lib.decDigits u).map fun b => (b.toNat : Int)
theorem dL_small {u : Nat} (h : u < 10) : dL u = [48 + (u : Int)] := by
 unfold dL
 rw [Lib.decDigits_one h]
 have : (UInt8.ofNat (48 + u)).toNat = 48 + u := by
  rw [UInt8.toNat_ofNat']; omega
 rw [List.map_singleton, this]; simp
theorem dL_big {u : Nat} (h : ¬ u < 10) : dL u = dL (u / 10) ++ [48 + ((u % 10 : Nat) : Int)] := by
 unfold dL
 conv => lhs; rw [Lib.decDigits, dif_neg h]
 have : (UInt8.ofNat (48 + u % 10)).toNat = 48 + u % 10 := by
  rw [UInt8.toNat_ofNat']; omega
 rw [List.map_append, List.map_singleton, this]
 simp
theorem dL_rng (u : Nat) : ∀ c ∈ dL u, 48 ≤ c ∧ c ≤ 57 := by
 induction u using Nat.strongRecOn with
 | _ u ih =>
  intro c hc
  by_cases h : u < 10
  ·rw [dL_small h] at hc
   simp only [List.mem_singleton] at hc
   omega
  ·rw [dL_big h] at hc
   rcases List.mem_append.1 hc with hc | hc
   ·exact ih (u / 10) (by omega) c hc
   ·simp only [List.mem_singleton] at hc
    omega
theorem dL_acc (neg : Bool) (u : Nat) : (dL u).foldl (accN neg) 0 = if neg = true then -(u : Int) else u := by
 induction u using Nat.strongRecOn with
 | _ u ih =>
  by_cases h : u < 10
  ·rw [dL_small h]
   cases neg <;> simp [accN] <;> omega
  ·rw [dL_big h, List.foldl_append, ih (u / 10) (by omega)]
   cases neg <;> simp [accN] <;> omega
theorem dec_L (v : Int) : strL (dec v) = if v < 0 then 45 :: dL v.natAbs else dL v.toNat := by
 unfold strL dec Lib.itoa
 split
 ·simp [dL]
 ·simp [dL]
theorem dL_ne (u : Nat) : ∃ c r, dL u = c :: r ∧ 48 ≤ c := by
 have h := dL_rng u
 cases hd : dL u with
 | nil =>
  by_cases h : u < 10
  ·rw [dL_small h] at hd; cases hd
  ·rw [dL_big h] at hd; simp at hd
 | cons c r =>
  rw [hd] at h
  exact ⟨c, r, rfl, (h c (by simp)).1⟩
def negL (l : List Int) : Bool := decide (l.head? = some 45)
def stL (l : List Int) : Nat := if negL l = true then 1 else 0
theorem dec_struct {v : Int} {l : List Int} (h : strL (dec v) = l) : ((l.drop (stL l)).foldl (accN (negL l)) 0 = v) ∧ (∀ c ∈ l.drop (stL l), 48 ≤ c ∧ c ≤ 57) ∧ stL l < l.length := by
 rw [dec_L] at h
 by_cases hv : v < 0
 ·rw [if_pos hv] at h
  subst h
  obtain ⟨c, r, hd, _⟩ := dL_ne v.natAbs
  refine ⟨?_, fun c hc => dL_rng v.natAbs c (by simpa [stL, negL] using hc), by simp [stL, negL, hd]⟩
  show ((45 :: dL v.natAbs).drop 1).foldl (accN true) 0 = v
  rw [List.drop_succ_cons, List.drop_zero, dL_acc]
  simp; omega
 ·rw [if_neg hv] at h
  obtain ⟨c, r, hd, hc⟩ := dL_ne v.toNat
  have hn : negL l = false := by
   rw [← h, hd]; unfold negL; simp; omega
  have hs : stL l = 0 := by unfold stL; rw [hn]; rfl
  rw [hs, hn, List.drop_zero, ← h]
  refine ⟨?_, dL_rng v.toNat, by rw [hd]; simp⟩
  rw [dL_acc]
  simp; omega
theorem wrE (x : Int) : IntKind.i64.wrap x = (x + 9223372036854775808) % 18446744073709551616 - 9223372036854775808 := by
 rw [wi64]; split <;> omega
theorem u8w {c : Int} (h0 : 48 ≤ c) (h1 : c ≤ 57) : IntKind.u8.wrap (c - 48) = c - 48 := by
 have key : ∀ k : Fin 10, IntKind.u8.wrap ((k.val : Nat) : Int) = ((k.val : Nat) : Int) := by decide
 have := key ⟨(c - 48).toNat, by omega⟩
 dsimp only at this
 have e : (((c - 48).toNat : Nat) : Int) = c - 48 := by omega
 rw [e] at this
 exact this
theorem wr_add (a d : Int) : IntKind.i64.wrap (IntKind.i64.wrap (10 * IntKind.i64.wrap a) + IntKind.i64.wrap d) = IntKind.i64.wrap (10 * a + d) := by
 simp only [wrE]; omega
theorem wr_sub (a d : Int) : IntKind.i64.wrap (IntKind.i64.wrap (10 * IntKind.i64.wrap a) - IntKind.i64.wrap d) = IntKind.i64.wrap (10 * a - d) := by
 simp only [wrE]; omega
theorem Rnum_spec {w : World} {s : ByteArray} (hs : s.size ≤ 140737488355328) {K : Int → Bool → World → Prop} (hok : ∀ v, -9223372036854775808 ≤ v → v ≤ 9223372036854775807 → dec v = s → K v true w) (hno : (∀ v, -9223372036854775808 ≤ v → v ≤ 9223372036854775807 → dec v ≠ s) → ∀ x, K x false w) : c92 s w K := by
 refine c92_of ?_
 unfold f92
 obtain ⟨L, hL⟩ : ∃ L, L = strL s := ⟨_, rfl⟩
 have hl : L.length = s.size := by rw [hL, strL_len]
 refine ⟨fun n i m w' => w' = w ∧ ∃ (q : Nat) (a : Int), i = q ∧ q ≤ s.size ∧ m = s.size - q ∧ n = IntKind.i64.wrap a ∧ a = ((L.take q).drop (stL L)).foldl (accN (negL L)) 0, ⟨_, rfl, 0, 0, rfl, by omega, rfl, by rw [wr64 (by decide) (by decide)], by simp⟩, ?_⟩
 rintro n i m w' ⟨hw, q, a, rfl, hq, rfl, rfl, ha⟩
 obtain rfl := hw.symm
 by_cases hend : q = s.size
 ·refine ifF (by simp; omega) ?_
  have hw1 := wr64lo a
  have hw2 := wr64hi a
  refine Rdec_spec hw1 hw2 ?_
  rw [str_beq]
  by_cases hd : dec (IntKind.i64.wrap a) = s
  ·rw [hd, decide_eq_true rfl]
   exact hok _ hw1 hw2 hd
  ·rw [decide_eq_false fun k => hd (strL_inj k)]
   refine hno (fun v v0 v1 hv => hd ?_) _
   obtain ⟨e1, _, _⟩ := dec_struct (v := v) (l := L) (by rw [hL, hv])
   rw [List.take_of_length_le (by omega), e1] at ha
   rw [ha, wr64 v0 v1]
   exact hv
 ·obtain ⟨c, hc, hcs⟩ := strL_at (s := s) (k := q) (by omega)
  rw [← hL] at hcs
  refine ifT (by simp; omega) ?_
  have e1 : IntKind.i64.wrap ((q : Int) + 1) = ((q + 1 : Nat) : Int) := by rw [wr64 (by omega) (by omega)]; omega
  rw [e1]
  have hneg : ∀ {c0 : UInt8}, s[(0 : Nat)]? = some c0 → (((c0.toNat : Int) == 45) = true ↔ negL L = true) := by
   intro c0 h0
   obtain ⟨c1, h1, h2⟩ := strL_at (s := s) (k := 0) (by omega)
   rw [h0] at h1
   cases h1
   unfold negL
   rw [hL, List.head?_eq_getElem?, h2]
   simp
  refine ⟨fun w' => w' = w ∧ stL L ≤ q, ?_, ?_⟩
  ·by_cases h0 : q = 0
   ·subst h0
    refine ifT (by simp) ⟨by omega, c, hc, ?_⟩
    have hn := hneg hc
    by_cases h45 : negL L = true
    ·refine ifT (hn.2 h45) ⟨s.size - 1, by omega, rfl, 1, a, rfl, by omega, rfl, rfl, ?_⟩
     rw [ha]
     have : stL L = 1 := by unfold stL; rw [if_pos h45]
     rw [this]
     simp
    ·refine ifF (fun k => h45 (hn.1 k)) ⟨rfl, ?_⟩
     unfold stL
     rw [if_neg h45]
     exact Nat.le_refl _
   ·refine ifF (by simpa using h0) ⟨rfl, ?_⟩
    unfold stL
    split <;> omega
  rintro w' ⟨hw, hst⟩
  obtain rfl := hw.symm
  have bad : ¬ (48 ≤ (c.toNat : Int) ∧ (c.toNat : Int) ≤ 57) → ∀ x, K x false w := fun hb x => hno (fun v v0 v1 hv => by
   obtain ⟨_, e2, _⟩ := dec_struct (v := v) (l := L) (by rw [hL, hv])
   refine hb (e2 _ ?_)
   have : (L.drop (stL L))[q - stL L]? = some (c.toNat : Int) := by
    rw [List.getElem?_drop]
    have : stL L + (q - stL L) = q := by omega
    rw [this]; exact hcs
   exact List.mem_of_getElem? this) x
  refine ⟨fun w' => w' = w ∧ 48 ≤ (c.toNat : Int) ∧ (c.toNat : Int) ≤ 57, ?_, ?_⟩
  ·refine ⟨by omega, c, by rw [Int.toNat_natCast]; exact hc, ?_⟩
   by_cases h1 : (c.toNat : Int) < 48
   ·exact ifT (by simpa using h1) (bad (by omega) 0)
   ·refine ifF (by simpa using h1) ⟨by omega, c, by rw [Int.toNat_natCast]; exact hc, ?_⟩
    by_cases h2 : (c.toNat : Int) > 57
    ·exact ifT (by simpa using h2) (bad (by omega) 0)
    ·exact ifF (by simpa using h2) ⟨rfl, by omega, by omega⟩
  rintro w' ⟨hw, g0, g1⟩
  obtain rfl := hw.symm
  obtain ⟨c0, h0, _⟩ := strL_at (s := s) (k := 0) (by omega)
  have hn := hneg h0
  have hstep : ((L.take (q + 1)).drop (stL L)).foldl (accN (negL L)) 0 = accN (negL L) a c.toNat := by
   rw [List.take_add_one, hcs]
   have : (L.take q ++ (some (c.toNat : Int)).toList).drop (stL L) = (L.take q).drop (stL L) ++ [(c.toNat : Int)] := by
    rw [List.drop_append_of_le_length (by rw [List.length_take]; omega)]; rfl
   rw [this, List.foldl_append, ← ha]
   rfl
  refine ⟨by omega, c0, h0, ?_⟩
  by_cases h45 : negL L = true
  ·refine ifT (hn.2 h45) ⟨by omega, c, by rw [Int.toNat_natCast]; exact hc, ?_⟩
   refine ⟨s.size - (q + 1), by omega, rfl, q + 1, _, rfl, by omega, rfl, ?_, rfl⟩
   rw [hstep, u8w g0 g1, wr_sub]
   unfold accN
   rw [if_pos h45]
  ·refine ifF (fun k => h45 (hn.1 k)) ⟨by omega, c, by rw [Int.toNat_natCast]; exact hc, ?_⟩
   refine ⟨s.size - (q + 1), by omega, rfl, q + 1, _, rfl, by omega, rfl, ?_, rfl⟩
   rw [hstep, u8w g0 g1, wr_add]
   unfold accN
   rw [if_neg h45]
def pieces : List Int → List Int → List (List Int)
 | cur, [] => [cur]
 | cur, c :: r => if c = 32 then cur :: pieces [] r else pieces (cur ++ [c]) r
theorem pieces_len : ∀ (l cur : List Int), (pieces cur l).length ≤ l.length + 1
 | [], cur => by simp [pieces]
 | c :: r, cur => by
  unfold pieces
  split
  ·have := pieces_len r []
   simp only [List.length_cons]; omega
  ·have := pieces_len r (cur ++ [c])
   simp only [List.length_cons]; omega
theorem strL_extract' (s : ByteArray) (a b : Nat) : strL (s.extract a b) = ((strL s).take b).drop a := by
 unfold strL
 rw [ByteArray.data_extract, Array.toList_extract]
 simp [List.extract, List.drop_take, List.map_take, List.map_drop]
theorem und139 : Tryz.prog.underlying 139 = some (.slice 9) := by kernel_rfl
theorem inf9 : ∃ inf : TypeInfo, Tryz.prog.info? 9 = some inf ∧ inf.zero = some (.string ⟨#[]⟩) ∧ inf.size = 1 ∧ inf.bytes = 16 := infoP (by kernel_rfl)
section
variable {S : List Nat} {w0 w : World} {its rest : List Thing}
theorem Words_spec (h : Hp S w0 w its) {s : ByteArray} (hs : s.size < 4294967281) {K : Sl → World → Prop} (hK : ∀ sl (ws : List ByteArray) w', ws.map strL = pieces [] (strL s) → Hp S w0 w' (its ++ [tSl sl 9 1 sv ws]) → K sl w') : c91 s w K := by
 refine c91_of ?_
 unfold f91
 obtain ⟨inf, i1, i2, i3, i4⟩ := inf9
 obtain ⟨L, hL⟩ : ∃ L, L = strL s := ⟨_, rfl⟩
 have hl : L.length = s.size := by rw [hL, strL_len]
 rw [← hL] at hK
 have hpl := pieces_len L []
 have h := h.nil 9 1 sv
 refine ⟨fun l fr i m w' => ∃ (ws : List ByteArray) (f q : Nat), fr = f ∧ i = q ∧ m = s.size + 1 - q ∧ f ≤ q ∧ Hp S w0 w' (its ++ [tSl l 9 1 sv ws]) ∧ ((q ≤ s.size ∧ pieces [] L = ws.map strL ++ pieces ((L.take q).drop f) (L.drop q)) ∨ (q = s.size + 1 ∧ pieces [] L = ws.map strL)), ⟨_, [], 0, 0, rfl, rfl, rfl, by omega, h, .inl ⟨by omega, by simp⟩⟩, ?_⟩
 clear h
 rintro l fr i m w1 ⟨ws, f, q, rfl, rfl, rfl, hfq, h, ⟨hq, hp⟩ | ⟨rfl, hp⟩⟩
 ·refine ifT (by simp; omega) ?_
  have hln := h.len (s := l) (e := 9) (n := 1) (f := sv) (l := ws) its.length (by rw [List.getElem?_concat_length]; rfl)
  have hwl : ws.length ≤ s.size + 1 := by
   have := congrArg List.length hp
   rw [List.length_append, List.length_map] at this
   omega
  have e1 : IntKind.i64.wrap ((q : Int) + 1) = ((q + 1 : Nat) : Int) := by rw [wr64 (by omega) (by omega)]; omega
  refine ⟨fun b w' => w' = w1 ∧ b = decide (L[q]? = none ∨ L[q]? = some 32), ?_, ?_⟩
  ·by_cases hend : q = s.size
   ·refine ifT (by simp; omega) ⟨rfl, ?_⟩
    rw [List.getElem?_eq_none (by omega)]; simp
   ·obtain ⟨c, hc, hcs⟩ := strL_at (s := s) (k := q) (by omega)
    rw [← hL] at hcs
    refine ifF (by simp; omega) ⟨by omega, c, by rw [Int.toNat_natCast]; exact hc, rfl, ?_⟩
    rw [hcs]
    by_cases h32 : (c.toNat : Int) = 32 <;> simp [h32]
  rintro b w' ⟨hw, rfl⟩
  obtain rfl := hw.symm
  by_cases hb : L[q]? = none ∨ L[q]? = some 32
  ·refine ifT (by simpa using hb) ⟨by omega, by omega, by omega, ?_⟩
   rw [Int.toNat_natCast, Int.toNat_natCast]
   refine h.nwapp (c := sv (s.extract f q)) its.length (s.extract f q) List.getElem?_concat_length (fun _ => rfl) und139 i1 i3 i2 rfl rfl (by simp [Value.oneCell']) (by rw [i4]; omega) (by omega) fun s2 w2 h _ _ => ?_
   rw [set_last] at h
   rw [e1]
   refine ⟨s.size + 1 - (q + 1), by omega, _, q + 1, q + 1, rfl, rfl, rfl, by omega, h, ?_⟩
   have ex : strL (s.extract f q) = (L.take q).drop f := by rw [strL_extract', hL]
   rcases hb with hb | hb
   ·have hqe : q = s.size := by
     have := List.getElem?_eq_none_iff.1 hb
     omega
    refine .inr ⟨by omega, ?_⟩
    have ed : L.drop q = [] := List.drop_of_length_le (by omega)
    rw [hp, ed, List.map_append, List.map_singleton, ex]
    rfl
   ·have hlt := (List.getElem?_eq_some_iff.1 hb).1
    refine .inl ⟨by omega, ?_⟩
    rw [hp, drop_cons hb, List.map_append, List.map_singleton, ex]
    have : (L.take (q + 1)).drop (q + 1) = [] := List.drop_of_length_le (by rw [List.length_take]; omega)
    rw [this]
    simp [pieces]
  ·refine ifF (by simpa using hb) ?_
   obtain ⟨c, hc⟩ : ∃ c, L[q]? = some c := by
    cases hx : L[q]? with
    | none => exact absurd (.inl hx) hb
    | some c => exact ⟨c, rfl⟩
   have hlt := (List.getElem?_eq_some_iff.1 hc).1
   rw [e1]
   refine ⟨s.size + 1 - (q + 1), by omega, ws, f, q + 1, rfl, rfl, rfl, by omega, h, .inl ⟨by omega, ?_⟩⟩
   have h32 : ¬ c = 32 := fun e => hb (.inr (by rw [hc, e]))
   rw [hp, drop_cons hc]
   have : (L.take (q + 1)).drop f = (L.take q).drop f ++ [c] := by
    rw [List.take_add_one, hc, List.drop_append_of_le_length (by rw [List.length_take]; omega)]; rfl
   rw [this]
   conv => lhs; rw [pieces]
   rw [if_neg h32]
 ·refine ifF (by simp; omega) (hK l ws w1 hp.symm h)
end
abbrev bI (b : UInt8) : Int := (b.toNat : Int)
theorem pieces_idx : ∀ (l : List UInt8) (cur : List Int), (Lib.indexByte l 32 = -1 ∧ pieces cur (l.map bI) = [cur ++ l.map bI]) ∨ ∃ i : Nat, Lib.indexByte l 32 = i ∧ pieces cur (l.map bI) = (cur ++ (l.map bI).take i) :: pieces [] ((l.map bI).drop (i + 1))
 | [], cur => .inl ⟨rfl, by simp [pieces]⟩
 | b :: l, cur => by
  by_cases hb : b = 32
  ·subst hb
   refine .inr ⟨0, rfl, ?_⟩
   simp [pieces]
   intro h
   exact absurd rfl h
  ·have hbe : (b == 32) = false := by simpa using hb
   have hne : ¬ bI b = 32 := fun e => hb (by
    apply UInt8.toNat_inj.1
    have : (b.toNat : Int) = 32 := e
    show b.toNat = 32
    omega)
   have hp : pieces cur ((b :: l).map bI) = pieces (cur ++ [bI b]) (l.map bI) := by
    rw [List.map_cons]
    conv => lhs; rw [pieces]
    rw [if_neg hne]
   rw [hp]
   rcases pieces_idx l (cur ++ [bI b]) with ⟨h1, h2⟩ | ⟨i, h1, h2⟩
   ·refine .inl ⟨?_, by rw [h2]; simp⟩
    unfold Lib.indexByte
    rw [hbe, h1]; rfl
   ·refine .inr ⟨i + 1, ?_, by rw [h2]; simp⟩
    unfold Lib.indexByte
    rw [hbe, h1]
    have : ((i : Int) == -1) = false := by
     rw [beq_eq_false_iff_ne]; omega
    rw [this]
    rfl
theorem indexB_sp (s : ByteArray) : Lib.indexB s sp = Lib.indexByte s.data.toList 32 := by
 show Lib.index s.data.toList [32] = _
 exact Lib.index_one _ _
theorem split_pieces : ∀ (k : Nat) (s : ByteArray), Lib.countB s sp = k → (Lib.splitB sp 0 k s).map strL = pieces [] (strL s) := by
 intro k
 induction k with
 | zero =>
  intro s hk
  rcases pieces_idx s.data.toList [] with ⟨h1, h2⟩ | ⟨i, h1, h2⟩
  ·show [strL s] = pieces [] (s.data.toList.map bI)
   rw [h2]; rfl
  ·have := Lib.countB_hit s sp i (by decide) (by rw [indexB_sp, h1])
   omega
 | succ k ih =>
  intro s hk
  rcases pieces_idx s.data.toList [] with ⟨h1, h2⟩ | ⟨i, h1, h2⟩
  ·have := Lib.countB_miss s sp (by rw [indexB_sp, h1])
   omega
  ·have hix : Lib.indexB s sp = i := by rw [indexB_sp, h1]
   have hc := Lib.countB_hit s sp i (by decide) hix
   rw [Lib.splitB_hit sp 0 k s i hix, List.map_cons, ih _ (by omega)]
   show _ = pieces [] (s.data.toList.map bI)
   rw [h2]
   have e1 : strL (s.extract 0 (i + 0)) = (s.data.toList.map bI).take i := by
    rw [strL_extract']; rfl
   have e2 : strL (s.extract (i + sp.size) s.size) = (s.data.toList.map bI).drop (i + 1) := by
    rw [strL_extract', List.take_of_length_le (by rw [strL_len]; exact Nat.le_refl _)]
    rfl
   rw [e1, e2, List.nil_append]
theorem splitS_pieces (s : ByteArray) : (splitS s).map strL = pieces [] (strL s) := split_pieces _ s rfl
theorem words_split {s : ByteArray} {ws : List ByteArray} (h : ws.map strL = pieces [] (strL s)) : ws = splitS s := by
 rw [← splitS_pieces] at h
 have inj : ∀ (a b : List ByteArray), a.map strL = b.map strL → a = b := by
  intro a
  induction a with
  | nil => intro b h; cases b with
   | nil => rfl
   | cons y b => cases h
  | cons x a ih => intro b h; cases b with
   | nil => cases h
   | cons y b =>
    simp only [List.map_cons, List.cons.injEq] at h
    rw [strL_inj h.1, ih b h.2]
 exact inj _ _ h
theorem cut_pieces (s : ByteArray) : (cutB s sp).2.2 = false ∧ splitS s = [s] ∧ (cutB s sp).1 = s ∨ (cutB s sp).2.2 = true ∧ splitS s = (cutB s sp).1 :: splitS (cutB s sp).2.1 := by
 rcases pieces_idx s.data.toList [] with ⟨h1, h2⟩ | ⟨i, h1, h2⟩
 ·left
  have hi : ¬ 0 ≤ Lib.index s.data.toList sp.data.toList := by
   have : Lib.index s.data.toList sp.data.toList = -1 := by rw [← h1, ← indexB_sp]
   rw [this]; decide
  unfold cutB Lib.cut
  rw [if_neg hi]
  refine ⟨rfl, ?_, by simp⟩
  unfold splitS
  rw [Lib.countB_miss s sp (by rw [indexB_sp, h1])]
  rfl
 ·right
  have hx : Lib.index s.data.toList sp.data.toList = i := by rw [← h1, ← indexB_sp]
  have hix : Lib.indexB s sp = i := by rw [indexB_sp, h1]
  have hc := Lib.countB_hit s sp i (by decide) hix
  unfold cutB Lib.cut
  rw [if_pos (by rw [hx]; omega), hx]
  refine ⟨rfl, ?_⟩
  unfold splitS
  have e0 : Lib.countB s sp = Lib.countB (s.extract (i + sp.size) s.size) sp + 1 := by omega
  rw [e0, Lib.splitB_hit sp 0 _ s i hix]
  have e1 : s.extract 0 (i + 0) = ⟨(s.data.toList.take (i : Int).toNat).toArray⟩ := by
   apply strL_inj
   rw [strL_extract', Int.toNat_natCast]
   simp [strL, List.map_take]
  have e2 : s.extract (i + sp.size) s.size = ⟨(s.data.toList.drop ((i : Int).toNat + sp.data.toList.length)).toArray⟩ := by
   apply strL_inj
   rw [strL_extract', List.take_of_length_le (by rw [strL_len]; exact Nat.le_refl _), Int.toNat_natCast]
   simp [strL, List.map_drop]
  rw [e1, e2]
theorem pm_app (M : Nat) (r : List UInt8) : ∀ (l : List UInt8) (acc a : Nat), Lib.parseUintM M acc l = .ok a → Lib.parseUintM M acc (l ++ r) = Lib.parseUintM M a r
 | [], acc, a, h => by
  simp only [Lib.parseUintM, Lib.NumEnd.ok.injEq] at h
  subst h; rfl
 | c :: l, acc, a, h => by
  rw [List.cons_append]
  simp only [Lib.parseUintM] at h ⊢
  split at h
  ·rename_i h1
   rw [if_pos h1]
   split at h
   ·cases h
   ·rename_i h2
    rw [if_neg h2]
    split at h
    ·cases h
    ·rename_i h3
     rw [if_neg h3]
     exact pm_app M r l _ a h
  ·cases h
theorem pm_dec (u : Nat) : u ≤ 9223372036854775808 → Lib.parseUintM 18446744073709551615 0 (Lib.decDigits u) = .ok u := by
 induction u using Nat.strongRecOn with
 | _ u ih =>
  intro hu
  have one : ∀ (acc d : Nat), d < 10 → acc ≤ 922337203685477580 → Lib.parseUintM 18446744073709551615 acc [UInt8.ofNat (48 + d)] = .ok (acc * 10 + d) := by
   intro acc d hd ha
   have e : (UInt8.ofNat (48 + d)).toNat = 48 + d := by rw [UInt8.toNat_ofNat']; omega
   simp only [Lib.parseUintM]
   rw [e, if_pos (by omega), if_neg (by omega), if_neg (by omega)]
   have e2 : acc * 10 + (48 + d - 48) = acc * 10 + d := by omega
   rw [e2]
  by_cases h : u < 10
  ·rw [Lib.decDigits_one h, one 0 u h (by omega)]
   simp
  ·rw [Lib.decDigits, dif_neg h, pm_app _ _ _ _ _ (ih (u / 10) (by omega) (by omega)), one _ _ (by omega) (by omega)]
   congr 1; omega
theorem parse_dec {v : Int} (h0 : -9223372036854775808 ≤ v) (h1 : v ≤ 9223372036854775807) : Lib.parseIntB 64 (Lib.itoa v) = .ok v := by
 have hM : (2 : Nat) ^ 64 - 1 = 18446744073709551615 := by decide
 have hP : (2 : Nat) ^ (64 - 1) = 9223372036854775808 := by decide
 have ne : ∀ u, Lib.decDigits u ≠ [] := fun u e => by
  obtain ⟨c, r, hd, _⟩ := dL_ne u
  unfold dL at hd
  rw [e] at hd; cases hd
 have pu : ∀ u, u ≤ 9223372036854775808 → Lib.parseUintB 64 (Lib.decDigits u) = .ok u := fun u hu => by
  unfold Lib.parseUintB
  rw [if_neg (ne u), hM]
  exact pm_dec u hu
 unfold Lib.itoa
 by_cases hv : v < 0
 ·rw [if_pos hv]
  simp only [Lib.parseIntB]
  have e45 : (45 : UInt8).toNat = 45 := rfl
  rw [e45, if_pos (.inr rfl), pu _ (by omega)]
  dsimp only
  rw [hP, if_neg (by simp), if_neg (by omega), if_pos rfl]
  congr 1; omega
 ·rw [if_neg hv]
  cases hd : Lib.decDigits v.toNat with
  | nil => exact absurd hd (ne _)
  | cons c r =>
   have hc : 48 ≤ c.toNat ∧ c.toNat ≤ 57 := by
    have := dL_rng v.toNat (c.toNat : Int) (by unfold dL; rw [hd]; simp)
    omega
   simp only [Lib.parseIntB]
   rw [if_neg (by omega), ← hd, pu _ (by omega)]
   dsimp only
   rw [hP, if_neg (by omega), if_neg (by omega), if_neg (by omega)]
   congr 1; omega
theorem decO_dec {v : Int} {s : ByteArray} (h0 : -9223372036854775808 ≤ v) (h1 : v ≤ 9223372036854775807) (h : dec v = s) : decO s = some v := by
 refine decO_of (v := v) ?_ h
 rw [← h]
 show Lib.parseIntB 64 (Lib.itoa v).toArray.toList = .ok v
 rw [List.toList_toArray]
 exact parse_dec h0 h1
theorem decO_some {v : Int} {s : ByteArray} (h : decO s = some v) : dec v = s ∧ -9223372036854775808 ≤ v ∧ v ≤ 9223372036854775807 := by
 unfold decO at h
 cases hp : Lib.parseIntB 64 s.data.toList with
 | ok x =>
  rw [hp] at h
  dsimp only at h
  split at h
  ·rename_i hd
   cases h
   exact ⟨hd, parse_range hp⟩
  ·cases h
 | _ => rw [hp] at h; cases h
theorem Rnum_u {w : World} {s : ByteArray} (hs : s.size ≤ 140737488355328) {K : Int → Bool → World → Prop} (hK : ∀ v ok, (ok = true → decO s = some v) → (ok = false → decO s = none) → K v ok w) : c92 s w K := by
 refine Rnum_spec hs (fun v v0 v1 hv => hK v true (fun _ => decO_dec v0 v1 hv) (fun e => by cases e)) (fun hn x => hK x false (fun e => by cases e) (fun _ => ?_))
 cases hd : decO s with
 | none => rfl
 | some v =>
  obtain ⟨a, b, c⟩ := decO_some hd
  exact absurd a (hn v b c)
theorem pieces_nosp : ∀ (l cur : List Int), (∀ c ∈ l, c ≠ 32) → pieces cur l = [cur ++ l]
 | [], cur, _ => by simp [pieces]
 | c :: r, cur, h => by
  rw [pieces, if_neg (h c (by simp)), pieces_nosp r _ fun d hd => h d (by simp [hd])]
  simp
theorem decO_nosp {s : ByteArray} {v : Int} (h : decO s = some v) : splitS s = [s] := by
 obtain ⟨hd, _, _⟩ := decO_some h
 have : ([s] : List ByteArray).map strL = pieces [] (strL s) := by
  rw [pieces_nosp]
  ·rfl
  ·intro c hc e
   rw [← hd, dec_L] at hc
   subst e
   split at hc
   ·rcases List.mem_cons.1 hc with hc | hc
    ·omega
    ·have := dL_rng _ _ hc; omega
   ·have := dL_rng _ _ hc; omega
 exact (words_split this).symm
theorem split_one {s x : ByteArray} (h : splitS s = [x]) : x = s := by
 rcases cut_pieces s with ⟨_, h1, _⟩ | ⟨_, h1⟩
 ·rw [h1] at h; cases h; rfl
 ·rw [h1] at h
  have : splitS (cutB s sp).2.1 = [] := by simpa using (List.cons.inj h).2
  rcases cut_pieces (cutB s sp).2.1 with ⟨_, h2, _⟩ | ⟨_, h2⟩ <;> rw [h2] at this <;> cases this
theorem split_pos (s : ByteArray) : 1 ≤ (splitS s).length := by
 rcases cut_pieces s with ⟨_, h1, _⟩ | ⟨_, h1⟩ <;> rw [h1] <;> simp
section
variable {S : List Nat} {w0 w : World} {its rest : List Thing}
theorem Rins_spec (h : Hp S w0 w its) {t : ByteArray} (ht : t.size < 4294967281) {K : Int → Int → Bool → World → Prop} (hok : ∀ x, insR t = some x → ∀ w', Hp S w0 w' its → K x.1 x.2 true w') (hno : insR t = none → ∀ w', Hp S w0 w' its → K 0 0 false w') : c64 t w K := by
 refine c64_of ?_
 unfold f64
 refine h.nw fun A w1 h => ?_
 refine Words_spec h ht fun sl ws w1 hws h => ?_
 obtain rfl := words_split hws
 have hlen := h.len (s := sl) (e := 9) (n := 1) (f := sv) (l := splitS t) (its ++ [tBlk A 23 [.int .i64 0, .int .i64 0]]).length (by rw [List.getElem?_concat_length]; rfl)
 have hel : ∀ {w' : World} {i : Nat} {x : ByteArray} {K : ByteArray → Prop}, Hp S w0 w' (its ++ [tBlk A 23 [.int .i64 0, .int .i64 0]] ++ [tSl sl 9 1 sv (splitS t)]) → (splitS t)[i]? = some x → K x → Ix sl.a sl.len (i : Int) 1 fun a => Ld .s w' a fun x => K x := by
  intro w' i x K h hx hK
  refine h.ixr (its ++ [tBlk A 23 [.int .i64 0, .int .i64 0]]).length (s := sl) (l := splitS t) (f := sv) (n := 1) (e := 9) (by rw [List.getElem?_concat_length]; rfl) (by omega) (y := x) (by rw [Int.toNat_natCast]; exact hx) (fun _ => rfl) fun ad hc => ?_
  exact ldR0 (k := .s) (x := x) (hc 0 (by omega)) rfl hK
 have put : ∀ (op a : Int) (is : Bool) (B : List Thing) (w' : World), Hp S w0 w' (its ++ [tBlk A 23 [.int .i64 0, .int .i64 0]] ++ B) → (∀ w', Hp S w0 w' its → K op a is w') → St ⟨A, 0, none⟩ (.int .i64 op) w' fun w => St ((⟨A, 0, none⟩ : Addr).add 1) (.int .i64 a) w fun w => Ld (.i .i64) w ⟨A, 0, none⟩ fun r1 => Ld (.i .i64) w ((⟨A, 0, none⟩ : Addr).add 1) fun r2 => K r1 r2 is w := by
  intro op a is B w' h hk
  refine h.st0 its.length mid1 (by simp) rfl fun w1 h => ?_
  rw [set_mid] at h
  refine h.st (n := 1) its.length mid1 (by simp) rfl fun w1 h => ?_
  rw [set_mid] at h
  refine h.ld0 (k := .i .i64) (x := op) its.length (by rw [mid1]; rfl) rfl ?_
  refine h.ld (n := 1) (k := .i .i64) (x := a) its.length (by rw [mid1]; rfl) rfl ?_
  exact hk w1 h.front.front
 obtain ⟨x, r, hxr⟩ : ∃ x r, splitS t = x :: r := by
  have := split_pos t
  cases hs : splitS t with
  | nil => rw [hs] at this; simp at this
  | cons x r => exact ⟨x, r, rfl⟩
 refine hel (i := 0) (x := x) h (by rw [hxr]; rfl) ?_
 refine RNumber_spec h fun w1 h => ?_
 refine HasA_spec h fun w1 h => ?_
 have hsz : ∀ y ∈ splitS t, y.size ≤ t.size := fun y hy => split_size sp _ t y hy
 -- what insR says
 have key : insR t = if numOf x = 0 ∨ ((row (numOf x)).num = false ∧ (splitS t).length ≠ 1) ∨ ((row (numOf x)).num = true ∧ (splitS t).length ≠ 2) then none else if (row (numOf x)).num = true then (decO (r.getD 0 ⟨#[]⟩)).map fun a => (numOf x, a) else some (numOf x, 0) := by
  unfold insR
  rcases cut_pieces t with ⟨h1, h2, h3⟩ | ⟨h1, h2⟩
  ·rw [h1, h3]
   rw [h2] at hxr
   cases hxr
   rw [h2]
   cases hn : (row (numOf t)).num <;> by_cases h0 : numOf t = 0 <;> simp [h0, hn]
  ·rw [h1]
   rw [h2] at hxr
   obtain ⟨e1, e2⟩ := List.cons.inj hxr
   rw [e1, h2, e2, e1]
   have hp := split_pos (cutB t sp).2.1
   rw [e2] at hp
   cases hn : (row (numOf x)).num with
   | false =>
    rw [if_pos (.inr (by decide)), if_pos (.inr (.inl ⟨rfl, by simp; intro e; rw [e] at hp; simp at hp⟩))]
   | true =>
    by_cases h0 : numOf x = 0
    ·rw [if_pos (.inl h0), if_pos (.inl h0)]
    ·rw [if_neg (by simp [h0]), if_pos rfl]
     by_cases h2l : r.length = 1
     ·obtain ⟨y, rfl⟩ := List.length_eq_one_iff.1 h2l
      have ey := split_one e2
      rw [if_neg (by simp [h0]), if_pos rfl, ← ey]
      rfl
     ·rw [if_pos (.inr (.inr ⟨rfl, by simp; exact h2l⟩))]
      cases hd : decO (cutB t sp).2.1 with
      | none => rfl
      | some v =>
       have := decO_nosp hd
       rw [e2] at this
       rw [this] at h2l
       exact absurd rfl h2l
 by_cases hbad : numOf x = 0 ∨ ((row (numOf x)).num = false ∧ (splitS t).length ≠ 1) ∨ ((row (numOf x)).num = true ∧ (splitS t).length ≠ 2)
 ·rw [if_pos hbad] at key
  refine ifT ?_ (put 0 0 false _ w1 h (hno key))
  cases hn : (row (numOf x)).num <;> simp [hn] at hbad ⊢ <;> omega
 ·rw [if_neg hbad] at key
  refine ifF ?_ ?_
  ·cases hn : (row (numOf x)).num <;> simp [hn] at hbad ⊢ <;> omega
  refine ins_copy h (x := (numOf x, 0)) fun I w2 h => ?_
  cases hn : (row (numOf x)).num with
  | true =>
   rw [hn, if_pos rfl] at key
   refine ifT rfl ?_
   have hl2 : (splitS t).length = 2 := by
    rw [hn] at hbad
    simp at hbad
    exact hbad.2
   obtain ⟨y, rfl⟩ : ∃ y, r = [y] := List.length_eq_one_iff.1 (by rw [hxr] at hl2; simpa using hl2)
   have key : insR t = (decO y).map fun a => (numOf x, a) := key
   have hI : ((its ++ [tBlk A 23 [.int .i64 0, .int .i64 0]] ++ [tSl sl 9 1 sv (splitS t)] ++ [tBlk I 23 [.int .i64 (numOf x), .int .i64 0]])[(its ++ [tBlk A 23 [.int .i64 0, .int .i64 0]] ++ [tSl sl 9 1 sv (splitS t)]).length]?) = some (tBlk I 23 [.int .i64 (numOf x), .int .i64 0]) := List.getElem?_concat_length
   refine hel (i := 1) (x := y) h.front (by rw [hxr]; rfl) ?_
   have hys := hsz y (by rw [hxr]; simp)
   refine Rnum_u (by omega) fun v ok g1 g2 => ?_
   cases ok with
   | false =>
    refine ifT rfl ?_
    have h : Hp S w0 w2 (its ++ [tBlk A 23 [.int .i64 0, .int .i64 0]] ++ ([tSl sl 9 1 sv (splitS t)] ++ [tBlk I 23 [.int .i64 (numOf x), .int .i64 0]])) := by simpa using h
    exact put 0 0 false _ w2 h (hno (by rw [key, g2 rfl]; rfl))
   | true =>
    refine ifF (by decide) ?_
    refine h.st (n := 1) _ hI (by simp) rfl fun w3 h => ?_
    rw [set_last] at h
    refine h.ld0 (k := .i .i64) (x := numOf x) _ (by rw [List.getElem?_concat_length]; rfl) rfl ?_
    refine h.ld (n := 1) (k := .i .i64) (x := v) _ (by rw [List.getElem?_concat_length]; rfl) rfl ?_
    have h : Hp S w0 w3 (its ++ [tBlk A 23 [.int .i64 0, .int .i64 0]] ++ ([tSl sl 9 1 sv (splitS t)] ++ [tBlk I 23 [.int .i64 (numOf x), .int .i64 v]])) := by simpa using h
    exact put (numOf x) v true _ w3 h (hok (numOf x, v) (by rw [key, g1 rfl]; rfl))
  | false =>
   rw [hn, if_neg (by decide)] at key
   refine ifF (by decide) ?_
   refine h.ld0 (k := .i .i64) (x := numOf x) _ (by rw [List.getElem?_concat_length]; rfl) rfl ?_
   refine h.ld (n := 1) (k := .i .i64) (x := 0) _ (by rw [List.getElem?_concat_length]; rfl) rfl ?_
   have h : Hp S w0 w2 (its ++ [tBlk A 23 [.int .i64 0, .int .i64 0]] ++ ([tSl sl 9 1 sv (splitS t)] ++ [tBlk I 23 [.int .i64 (numOf x), .int .i64 0]])) := by simpa using h
   exact put (numOf x) 0 true _ w2 h (hok (numOf x, 0) key)
end
theorem listM_head {x : ByteArray} {p q : Int} : listM ⟨x, p, q, []⟩ = true ↔ listedM x = true ∧ 0 ≤ p ∧ p ≤ 4 ∧ p ≤ q ∧ q ≤ 32 := by
 unfold listM
 rw [Bool.and_eq_true, written_iff, rtOk_iff]
 constructor
 ·rintro ⟨a, ⟨_, _, b⟩, _⟩
  exact ⟨a, b⟩
 ·rintro ⟨a, b⟩
  have : listedM x = true := a
  unfold listedM at a
  rw [Bool.and_eq_true, Bool.and_eq_true, decide_eq_true_iff, decide_eq_true_iff] at a
  exact ⟨this, ⟨rfl, ⟨by have := a.1.2; show 1 ≤ x.size; omega, a.2⟩, b⟩, by simp⟩
section
variable {S : List Nat} {w0 w : World} {its rest : List Thing}
theorem Rhead_spec (h : Hp S w0 w its) {t : ByteArray} (ht : t.size < 4294967281) {K : ByteArray → Int → Int → Sl → Bool → World → Prop} (hok : ∀ nm pa lo, headR t = some (nm, pa, lo) → ∀ w', Hp S w0 w' its → K nm pa lo ⟨none, 0, 0⟩ true w') (hno : headR t = none → ∀ nm pa lo w', Hp S w0 w' its → K nm pa lo ⟨none, 0, 0⟩ false w') : c63 t w K := by
 refine c63_of ?_
 unfold f63
 refine h.nw fun A w1 h => ?_
 refine Words_spec h ht fun sl ws w1 hws h => ?_
 obtain rfl := words_split hws
 have hlen := h.len (s := sl) (e := 9) (n := 1) (f := sv) (l := splitS t) (its ++ [tA0 A]).length (by rw [List.getElem?_concat_length]; rfl)
 have hel : ∀ {w' : World} {i : Nat} {x : ByteArray} {K : ByteArray → Prop}, Hp S w0 w' (its ++ [tA0 A] ++ [tSl sl 9 1 sv (splitS t)]) → (splitS t)[i]? = some x → K x → Ix sl.a sl.len (i : Int) 1 fun a => Ld .s w' a fun x => K x := by
  intro w' i x K h hx hK
  refine h.ixr (its ++ [tA0 A]).length (s := sl) (l := splitS t) (f := sv) (n := 1) (e := 9) (by rw [List.getElem?_concat_length]; rfl) (by omega) (y := x) (by rw [Int.toNat_natCast]; exact hx) (fun _ => rfl) fun ad hc => ?_
  exact ldR0 (k := .s) (x := x) (hc 0 (by omega)) rfl hK
 have put : ∀ (nm : ByteArray) (pa lo : Int) (is : Bool) (B : List Thing) (w' : World), Hp S w0 w' (its ++ [tA0 A] ++ B) → (∀ w', Hp S w0 w' its → K nm pa lo ⟨none, 0, 0⟩ is w') → St ⟨A, 0, none⟩ (.string nm) w' fun w => St ((⟨A, 0, none⟩ : Addr).add 1) (.int .i64 pa) w fun w => St ((⟨A, 0, none⟩ : Addr).add 2) (.int .i64 lo) w fun w => St ((⟨A, 0, none⟩ : Addr).add 3) (.slice none 0 0) w fun w =>
   Ld .s w ⟨A, 0, none⟩ fun r1 => Ld (.i .i64) w ((⟨A, 0, none⟩ : Addr).add 1) fun r2 => Ld (.i .i64) w ((⟨A, 0, none⟩ : Addr).add 2) fun r3 => Ld .sl w ((⟨A, 0, none⟩ : Addr).add 3) fun r4 => K r1 r2 r3 r4 is w := by
  intro nm pa lo is B w' h hk
  refine h.st0 its.length mid1 (by simp) rfl fun w1 h => ?_
  rw [set_mid] at h
  refine h.st (n := 1) its.length mid1 (by simp) rfl fun w1 h => ?_
  rw [set_mid] at h
  refine h.st (n := 2) its.length mid1 (by simp) rfl fun w1 h => ?_
  rw [set_mid] at h
  refine h.st (n := 3) its.length mid1 (by simp) rfl fun w1 h => ?_
  rw [set_mid] at h
  refine h.ld0 (k := .s) (x := nm) its.length (by rw [mid1]; rfl) rfl ?_
  refine h.ld (n := 1) (k := .i .i64) (x := pa) its.length (by rw [mid1]; rfl) rfl ?_
  refine h.ld (n := 2) (k := .i .i64) (x := lo) its.length (by rw [mid1]; rfl) rfl ?_
  refine h.ld (n := 3) (k := .sl) (x := ⟨none, 0, 0⟩) its.length (by rw [mid1]; rfl) rfl ?_
  exact hk w1 h.front.front
 have hsz : ∀ y ∈ splitS t, y.size ≤ t.size := fun y hy => split_size sp _ t y hy
 by_cases h3 : sl.len = 3
 ·refine ifF (by simp [h3]) ?_
  obtain ⟨x, y, z, hsp⟩ : ∃ x y z, splitS t = [x, y, z] := by
   have hl3 : (splitS t).length = 3 := by omega
   generalize splitS t = ls at hl3
   match ls, hl3 with
   | [x, y, z], _ => exact ⟨x, y, z, rfl⟩
  have sx := hsz x (by rw [hsp]; simp)
  have sy := hsz y (by rw [hsp]; simp)
  have sz := hsz z (by rw [hsp]; simp)
  have hh : headR t = if listedM x = true then (match decO y, decO z with
   | some p, some q => if 0 ≤ p ∧ p ≤ 4 ∧ p ≤ q ∧ q ≤ 32 then some (x, p, q) else none
   | _, _ => none) else none := by
   unfold headR
   rw [hsp] <;> rfl
  refine hel (i := 1) (x := y) h (by rw [hsp]; rfl) ?_
  refine Rnum_u (by omega) fun p one g1 g2 => ?_
  refine hel (i := 2) (x := z) h (by rw [hsp]; rfl) ?_
  refine Rnum_u (by omega) fun q tw k1 k2 => ?_
  by_cases hg : one = true ∧ tw = true ∧ p ≤ 4 ∧ q ≤ 32 ∧ 0 ≤ p ∧ 0 ≤ q
  ·obtain ⟨rfl, rfl, g4, g5, g6, g7⟩ := hg
   refine ifF (by simp; omega) ?_
   refine hel (i := 0) (x := x) h (by rw [hsp]; rfl) ?_
   refine rt_copy h (sl := ⟨none, 0, 0⟩) fun rb w2 h => ?_
   have hR : ((its ++ [tA0 A] ++ [tSl sl 9 1 sv (splitS t)] ++ [tBlk rb 30 [.string x, .int .i64 p, .int .i64 q, .slice none 0 0]])[(its ++ [tA0 A] ++ [tSl sl 9 1 sv (splitS t)]).length]?).map Thing.holds = some (tBlk rb 30 [.string x, .int .i64 p, .int .i64 q, .slice none 0 0]).holds := by rw [List.getElem?_concat_length]; rfl
   refine h.ld0 (k := .s) (x := x) _ hR rfl ?_
   refine h.ld (n := 1) (k := .i .i64) (x := p) _ hR rfl ?_
   refine h.ld (n := 2) (k := .i .i64) (x := q) _ hR rfl ?_
   refine h.ld (n := 3) (k := .sl) (x := ⟨none, 0, 0⟩) _ hR rfl ?_
   have h := h.nil 23 2 insv
   refine Rlisted_spec h _ (u := tSl ⟨none, 0, 0⟩ 23 2 insv []) List.getElem?_concat_length Hp.rdSl (by decide) (by omega) fun w3 h => ?_
   have h := h.front
   refine h.ld0 (k := .s) (x := x) _ hR rfl ?_
   refine h.ld (n := 1) (k := .i .i64) (x := p) _ hR rfl ?_
   refine h.ld (n := 2) (k := .i .i64) (x := q) _ hR rfl ?_
   refine h.ld (n := 3) (k := .sl) (x := ⟨none, 0, 0⟩) _ hR rfl ?_
   have h : Hp S w0 w3 (its ++ [tA0 A] ++ ([tSl sl 9 1 sv (splitS t)] ++ [tBlk rb 30 [.string x, .int .i64 p, .int .i64 q, .slice none 0 0]])) := by simpa using h
   rw [g1 rfl, k1 rfl] at hh
   dsimp only at hh
   cases hM : listM ⟨x, p, q, []⟩ with
   | true =>
    obtain ⟨m1, m2⟩ := listM_head.1 hM
    rw [if_pos m1, if_pos m2] at hh
    exact put x p q true _ w3 h (hok x p q hh)
   | false =>
    refine put x p q false _ w3 h (hno ?_ x p q)
    rw [hh]
    by_cases m1 : listedM x = true
    ·rw [if_pos m1, if_neg fun m2 => by rw [listM_head.2 ⟨m1, m2⟩] at hM; cases hM]
    ·rw [if_neg m1]
  ·refine ifT ?_ (put ⟨#[]⟩ 0 0 false _ w1 h (hno ?_ _ _ _))
   ·cases one with
    | false => rfl
    | true =>
     cases tw with
     | false => rfl
     | true =>
      have : ¬ (p ≤ 4 ∧ q ≤ 32 ∧ 0 ≤ p ∧ 0 ≤ q) := fun k => hg ⟨rfl, rfl, k⟩
      simp; omega
   ·rw [hh]
    by_cases m1 : listedM x = true
    ·rw [if_pos m1]
     cases one with
     | false => rw [g2 rfl]
     | true =>
      rw [g1 rfl]
      cases tw with
      | false => rw [k2 rfl]
      | true =>
       rw [k1 rfl]
       dsimp only
       rw [if_neg fun k => hg ⟨rfl, rfl, by omega, by omega, by omega, by omega⟩]
    ·rw [if_neg m1]
 ·refine ifT (by simp; omega) (put ⟨#[]⟩ 0 0 false _ w1 h (hno ?_ _ _ _))
  unfold headR
  split
  ·rename_i hsp
   rw [hsp] at hlen
   simp at hlen
   omega
  ·rfl
end
theorem idx_none : ∀ (l : List UInt8), (∀ c ∈ l, c ≠ 10) → Lib.indexByte l 10 = -1
 | [], _ => rfl
 | b :: l, h => by
  have hb : (b == 10) = false := by simpa using h b (by simp)
  unfold Lib.indexByte
  rw [hb, idx_none l fun c hc => h c (by simp [hc])]; rfl
theorem idx_hit : ∀ (p r : List UInt8), (∀ c ∈ p, c ≠ 10) → Lib.indexByte (p ++ 10 :: r) 10 = p.length
 | [], r, _ => rfl
 | b :: p, r, h => by
  have hb : (b == 10) = false := by simpa using h b (by simp)
  rw [List.cons_append]
  unfold Lib.indexByte
  rw [hb, idx_hit p r fun c hc => h c (by simp [hc])]
  have : ((p.length : Int) == -1) = false := by rw [beq_eq_false_iff_ne]; omega
  rw [this]
  simp
theorem index_nl (s : ByteArray) : Lib.index s.data.toList nl.data.toList = Lib.indexByte s.data.toList 10 := by
 show Lib.index s.data.toList [10] = _
 exact Lib.index_one _ _
theorem ext_list (s : ByteArray) (a : Nat) : (s.extract a s.size).data.toList = s.data.toList.drop a := by
 rw [ByteArray.data_extract, Array.toList_extract]
 have : s.size = s.data.toList.length := by rw [Array.length_toList]; rfl
 show (s.data.toList.drop a).take (s.size - a) = _
 exact List.take_of_length_le (by rw [List.length_drop, ← this]; exact Nat.le_refl _)
def NoNl (s : ByteArray) (a q : Nat) : Prop := ∀ j b, a ≤ j → j < q → s.data.toList[j]? = some b → b ≠ 10
theorem nl_none {s : ByteArray} {a : Nat} (h : NoNl s a s.size) : (cutB (s.extract a s.size) nl).2.2 = false := by
 have hi : Lib.index (s.extract a s.size).data.toList nl.data.toList = -1 := by
  rw [index_nl, ext_list]
  refine idx_none _ fun c hc => ?_
  obtain ⟨j, hj⟩ := List.mem_iff_getElem?.1 hc
  rw [List.getElem?_drop] at hj
  have hlt := (List.getElem?_eq_some_iff.1 hj).1
  exact h (a + j) c (by omega) (by rw [Array.length_toList] at hlt; exact hlt) hj
 unfold cutB Lib.cut
 rw [hi, if_neg (by decide)]
theorem nl_hit {s : ByteArray} {a q : Nat} (haq : a ≤ q) (h : NoNl s a q) (hq : s.data.toList[q]? = some 10) : (cutB (s.extract a s.size) nl).2.2 = true ∧ (cutB (s.extract a s.size) nl).1 = s.extract a q := by
 have hlt := (List.getElem?_eq_some_iff.1 hq).1
 have hsp : s.data.toList.drop a = (s.data.toList.drop a).take (q - a) ++ 10 :: s.data.toList.drop (q + 1) := by
  conv => lhs; rw [← List.take_append_drop (q - a) (s.data.toList.drop a)]
  congr 1
  rw [List.drop_drop]
  have : a + (q - a) = q := by omega
  rw [this]
  exact drop_cons hq
 have hpl : ((s.data.toList.drop a).take (q - a)).length = q - a := by
  rw [List.length_take, List.length_drop]; omega
 have hi : Lib.index (s.extract a s.size).data.toList nl.data.toList = ((q - a : Nat) : Int) := by
  rw [index_nl, ext_list, hsp, idx_hit, hpl]
  intro c hc
  obtain ⟨j, hj⟩ := List.mem_iff_getElem?.1 hc
  have hjl := (List.getElem?_eq_some_iff.1 hj).1
  rw [hpl] at hjl
  rw [List.getElem?_take, if_pos hjl, List.getElem?_drop] at hj
  exact h (a + j) c (by omega) (by omega) hj
 unfold cutB Lib.cut
 rw [hi, if_pos (by omega)]
 refine ⟨rfl, ?_⟩
 apply strL_inj
 rw [strL_extract', Int.toNat_natCast, ext_list]
 show ((s.data.toList.drop a).take (q - a)).toArray.toList.map _ = _
 unfold strL
 rw [List.toList_toArray, ← List.drop_take, List.map_drop, List.map_take]
section
variable {S : List Nat} {w0 w : World} {its rest : List Thing}
theorem Rread_spec (h : Hp S w0 w its) {s : ByteArray} (hs : s.size < 4294967281) {K : ByteArray → Int → Int → Sl → Int → Int → World → Prop}
  (hok : ∀ r, readM s = .ok r → ∀ sl w', Hp S w0 w' (its ++ [tSl sl 23 2 insv r.code]) → K r.nm r.pa r.lo sl 0 0 w')
  (herr : ∀ e : Nat, readM s = .error e → ∀ w', Hp S w0 w' its → K ⟨#[]⟩ 0 0 ⟨none, 0, 0⟩ e 130 w') : c28 s w K := by
 refine c28_of ?_
 unfold f28
 obtain ⟨inf, i1, i2, i3, i4⟩ := inf23
 refine h.nw fun A w1 h => ?_
 refine rt_copy h (sl := ⟨none, 0, 0⟩) fun R w1 h => ?_
 have h := h.nil 23 2 insv
 have h : Hp S w0 w1 (its ++ [tA0 A] ++ [tR R rt0 ⟨none, 0, 0⟩] ++ [tSl ⟨none, 0, 0⟩ 23 2 insv rt0.code]) := h
 have putA : ∀ (nm : ByteArray) (pa lo : Int) (sl : Sl) (B : List Thing) (w' : World), Hp S w0 w' (its ++ [tA0 A] ++ B) → ∀ {G : ByteArray → Int → Int → Sl → World → Prop}, (∀ w', Hp S w0 w' (its ++ [tBlk A 30 [.string nm, .int .i64 pa, .int .i64 lo, .slice sl.a sl.len sl.cap]] ++ B) → G nm pa lo sl w') → St ⟨A, 0, none⟩ (.string nm) w' fun w => St ((⟨A, 0, none⟩ : Addr).add 1) (.int .i64 pa) w fun w => St ((⟨A, 0, none⟩ : Addr).add 2) (.int .i64 lo) w fun w => St ((⟨A, 0, none⟩ : Addr).add 3) (.slice sl.a sl.len sl.cap) w fun w =>
   Ld .s w ⟨A, 0, none⟩ fun r1 => Ld (.i .i64) w ((⟨A, 0, none⟩ : Addr).add 1) fun r2 => Ld (.i .i64) w ((⟨A, 0, none⟩ : Addr).add 2) fun r3 => Ld .sl w ((⟨A, 0, none⟩ : Addr).add 3) fun r4 => G r1 r2 r3 r4 w := by
  intro nm pa lo sl B w' h G hk
  refine h.st0 its.length mid1 (by simp) rfl fun w1 h => ?_
  rw [set_mid] at h
  refine h.st (n := 1) its.length mid1 (by simp) rfl fun w1 h => ?_
  rw [set_mid] at h
  refine h.st (n := 2) its.length mid1 (by simp) rfl fun w1 h => ?_
  rw [set_mid] at h
  refine h.st (n := 3) its.length mid1 (by simp) rfl fun w1 h => ?_
  rw [set_mid] at h
  refine h.ld0 (k := .s) (x := nm) its.length (by rw [mid1]; rfl) rfl ?_
  refine h.ld (n := 1) (k := .i .i64) (x := pa) its.length (by rw [mid1]; rfl) rfl ?_
  refine h.ld (n := 2) (k := .i .i64) (x := lo) its.length (by rw [mid1]; rfl) rfl ?_
  refine h.ld (n := 3) (k := .sl) (x := sl) its.length (by rw [mid1]; rfl) rfl ?_
  exact hk w1 h
 refine ⟨fun at_ line m w' => ∃ (a f ln : Nat) (st : Option RT) (sl : Sl), at_ = a ∧ line = ln ∧ ln ≤ 2002 ∧ a ≤ s.size ∧ (st = none → ln = 0) ∧ (∀ r, st = some r → ln = r.code.length + 1) ∧ m = s.size - a ∧ s.size - a + 2 ≤ f ∧ readM s = readG s f a st ∧ Hp S w0 w' (its ++ [tA0 A] ++ [tR R (st.getD rt0) sl] ++ [tSl sl 23 2 insv (st.getD rt0).code]),
  ⟨_, 0, s.size + 2, 0, none, _, rfl, rfl, by omega, by omega, fun _ => rfl, (fun r hr => by cases hr), rfl, by omega, rfl, h⟩, ?_⟩
 clear h
 rintro at_ line m w1 ⟨a, f, ln, st, sl, rfl, rfl, hln, ha, hl0, hl1, rfl, hf, hM, h⟩
 obtain ⟨f, rfl⟩ : ∃ g, f = g + 1 := ⟨f - 1, by omega⟩
 unfold readG at hM
 by_cases hend : st.isSome = true ∧ ¬ a < s.size
 ·rw [if_pos hend] at hM
  obtain ⟨r, rfl⟩ := Option.isSome_iff_exists.1 hend.1
  have h : Hp S w0 w1 (its ++ [tA0 A] ++ [tR R r sl] ++ [tSl sl 23 2 insv r.code]) := h
  have hlr := hl1 r rfl
  refine ifF (by simp; omega) ?_
  have hR : ((its ++ [tA0 A] ++ [tR R r sl] ++ [tSl sl 23 2 insv r.code])[its.length + 1]?).map Thing.holds = some (tR R r sl).holds := by rw [mid2]; rfl
  refine h.ld0 (k := .s) (x := r.nm) _ hR rfl ?_
  refine h.ld (n := 1) (k := .i .i64) (x := r.pa) _ hR rfl ?_
  refine h.ld (n := 2) (k := .i .i64) (x := r.lo) _ hR rfl ?_
  refine h.ld (n := 3) (k := .sl) (x := sl) _ hR rfl ?_
  refine putA r.nm r.pa r.lo sl ([tR R r sl] ++ [tSl sl 23 2 insv r.code]) w1 (by simpa using h) fun w2 h => ?_
  refine hok r hM sl w2 ?_
  refine Hp.dropMid (mid := [tBlk A 30 [.string r.nm, .int .i64 r.pa, .int .i64 r.lo, .slice sl.a sl.len sl.cap]] ++ [tR R r sl]) ?_
  simpa using h
 ·rw [if_neg hend] at hM
  have hgo : a < s.size ∨ ln = 0 := by
   cases st with
   | none => exact .inr (hl0 rfl)
   | some r =>
    left
    rcases Nat.lt_or_ge a s.size with g | g
    ·exact g
    ·exact absurd ⟨rfl, by omega⟩ hend
  refine ifT (by rcases hgo with g | g <;> simp [g]) ?_
  have wrongX : ∀ (B : List Thing) (w2 : World), Hp S w0 w2 (its ++ [tA0 A] ++ B) → readM s = .error a → St ⟨A, 0, none⟩ (.string (⟨#[]⟩ : ByteArray)) w2 fun w => St ((⟨A, 0, none⟩ : Addr).add 1) (.int .i64 0) w fun w => St ((⟨A, 0, none⟩ : Addr).add 2) (.int .i64 0) w fun w => St ((⟨A, 0, none⟩ : Addr).add 3) (.slice none 0 0) w fun w =>
    Ld .s w ⟨A, 0, none⟩ fun r1 => Ld (.i .i64) w ((⟨A, 0, none⟩ : Addr).add 1) fun r2 => Ld (.i .i64) w ((⟨A, 0, none⟩ : Addr).add 2) fun r3 => Ld .sl w ((⟨A, 0, none⟩ : Addr).add 3) fun r4 => K r1 r2 r3 r4 (a : Int) 130 w := by
   intro B w2 h he
   exact putA ⟨#[]⟩ 0 0 ⟨none, 0, 0⟩ B w2 h (G := fun r1 r2 r3 r4 w => K r1 r2 r3 r4 (a : Int) 130 w) fun w3 h => herr a he w3 h.front.front
  have hszl : s.data.toList.length = s.size := by rw [Array.length_toList]; rfl
  refine ⟨fun e w' => w' = w1 ∧ ∃ q : Nat, e = q ∧ a ≤ q ∧ q ≤ s.size ∧ NoNl s a q ∧ (q = s.size ∨ s.data.toList[q]? = some 10), ?_, ?_⟩
  ·refine ⟨fun e m w' => w' = w1 ∧ ∃ q : Nat, e = q ∧ a ≤ q ∧ q ≤ s.size ∧ m = s.size - q ∧ NoNl s a q, ⟨_, rfl, a, rfl, Nat.le_refl _, ha, rfl, fun j b h1 h2 => by omega⟩, ?_⟩
   rintro e m w' ⟨hw, q, rfl, haq, hq, rfl, hno⟩
   obtain rfl := hw.symm
   by_cases hqe : q = s.size
   ·exact ifF (by simp; omega) ⟨rfl, q, rfl, haq, hq, hno, .inl hqe⟩
   ·obtain ⟨c, hc, _⟩ := strL_at (s := s) (k := q) (by omega)
    have hcd : s.data.toList[q]? = some c := by
     rw [Array.getElem?_toList]
     have := hc
     rw [getElem?_pos s q (by omega)] at this
     rw [Array.getElem?_eq_getElem (show q < s.data.size from by have : s.data.size = s.size := rfl; omega)]
     exact this
    refine ifT (by simp; omega) ⟨by omega, c, by rw [Int.toNat_natCast]; exact hc, ?_⟩
    by_cases h10 : c = 10
    ·subst h10
     exact ifF (by decide) ⟨rfl, q, rfl, haq, hq, hno, .inr hcd⟩
    ·have hne : ¬ (c.toNat : Int) = 10 := fun e => h10 (by
      apply UInt8.toNat_inj.1
      show c.toNat = 10
      omega)
     refine ifT (by simpa using hne) ⟨s.size - (q + 1), by omega, rfl, q + 1, by rw [wr64 (by omega) (by omega)]; omega, by omega, by omega, rfl, ?_⟩
     intro j b h1 h2 hj
     by_cases hjq : j = q
     ·subst hjq
      rw [hcd] at hj
      cases hj
      exact h10
     ·exact hno j b h1 (by omega) hj
  rintro e w' ⟨hw, q, rfl, haq, hq, hno, hqe⟩
  obtain rfl := hw.symm
  have hlen := h.len (s := sl) (e := 23) (n := 2) (f := insv) (l := (st.getD rt0).code) (its.length + 2) (by rw [last3]; rfl)
  have hqs : (s.extract a q).size = q - a := by rw [ByteArray.size_extract]; omega
  by_cases hbad : q = s.size ∨ 2000 < ln
  ·refine ifT (by rcases hbad with g | g <;> simp [g]; omega) (wrongX _ w1 (by rw [List.append_assoc (its ++ [tA0 A])] at h; exact h) ?_)
   by_cases hq1 : q = s.size
   ·subst hq1
    rw [hM, if_pos (nl_none hno)]
   ·have hx := hqe.resolve_left hq1
    obtain ⟨c1, c2⟩ := nl_hit haq hno hx
    rw [c1, if_neg (by decide)] at hM
    cases st with
    | none => have := hl0 rfl; omega
    | some r =>
     have := hl1 r rfl
     dsimp only at hM
     rw [if_neg (by omega)] at hM
     exact hM
  ·have hq1 : ¬ q = s.size := fun e => hbad (.inl e)
   have hx := hqe.resolve_left hq1
   obtain ⟨c1, c2⟩ := nl_hit haq hno hx
   rw [c1, if_neg (by decide), c2, hqs] at hM
   have eq1 : a + (q - a) + 1 = q + 1 := by omega
   rw [eq1] at hM
   refine ifF (by simp; omega) ?_
   refine ⟨fun g w' => (g = false ∧ readM s = .error a ∧ ∃ B, Hp S w0 w' (its ++ [tA0 A] ++ B)) ∨ (g = true ∧ ∃ r' sl', readM s = readG s f (q + 1) (some r') ∧ ln = r'.code.length ∧ Hp S w0 w' (its ++ [tA0 A] ++ [tR R r' sl'] ++ [tSl sl' 23 2 insv r'.code])), ?_, ?_⟩
   ·cases st with
    | none =>
     have hl00 := hl0 rfl
     subst hl00
     refine ifT rfl ⟨by omega, by omega, by omega, ?_⟩
     rw [Int.toNat_natCast, Int.toNat_natCast]
     dsimp only at hM
     have h : Hp S w0 w1 (its ++ [tA0 A] ++ [tR R rt0 sl] ++ [tSl sl 23 2 insv rt0.code]) := h
     have stores : ∀ (nm : ByteArray) (pa lo : Int) (sl2 : Sl) (w2 : World), Hp S w0 w2 (its ++ [tA0 A] ++ [tR R rt0 sl] ++ [tSl sl 23 2 insv rt0.code]) → ∀ {G : World → Prop}, (∀ w3, Hp S w0 w3 (its ++ [tA0 A] ++ [tBlk R 30 [.string nm, .int .i64 pa, .int .i64 lo, .slice sl2.a sl2.len sl2.cap]] ++ [tSl sl 23 2 insv rt0.code]) → G w3) → St ⟨R, 0, none⟩ (.string nm) w2 fun w => St ((⟨R, 0, none⟩ : Addr).add 1) (.int .i64 pa) w fun w => St ((⟨R, 0, none⟩ : Addr).add 2) (.int .i64 lo) w fun w => St ((⟨R, 0, none⟩ : Addr).add 3) (.slice sl2.a sl2.len sl2.cap) w G := by
      intro nm pa lo sl2 w2 h G hG
      refine h.st0 (its ++ [tA0 A]).length mid1 (by simp) rfl fun w1 h => ?_
      rw [set_mid] at h
      refine h.st (n := 1) (its ++ [tA0 A]).length mid1 (by simp) rfl fun w1 h => ?_
      rw [set_mid] at h
      refine h.st (n := 2) (its ++ [tA0 A]).length mid1 (by simp) rfl fun w1 h => ?_
      rw [set_mid] at h
      refine h.st (n := 3) (its ++ [tA0 A]).length mid1 (by simp) rfl fun w1 h => ?_
      rw [set_mid] at h
      exact hG w1 h
     refine Rhead_spec h (by omega) (fun nm pa lo hh w2 h => stores nm pa lo ⟨none, 0, 0⟩ w2 h fun w3 h => .inr ⟨rfl, ⟨nm, pa, lo, []⟩, ⟨none, 0, 0⟩, ?_, rfl, ?_⟩) (fun hh nm pa lo w2 h => stores nm pa lo ⟨none, 0, 0⟩ w2 h fun w3 h => .inl ⟨rfl, ?_, _, by rw [List.append_assoc (its ++ [tA0 A])] at h; exact h⟩)
     ·rw [hM, hh]
     ·have h := h.front.nil 23 2 insv
      exact h
     ·rw [hM, hh]
    | some r =>
     have hlr := hl1 r rfl
     refine ifF (by simp; omega) ⟨by omega, by omega, by omega, ?_⟩
     rw [Int.toNat_natCast, Int.toNat_natCast]
     dsimp only at hM
     rw [if_pos (by omega)] at hM
     have hsl : r.code.length = sl.len := hlen
     have h : Hp S w0 w1 (its ++ [tA0 A] ++ [tR R r sl] ++ [tSl sl 23 2 insv r.code]) := h
     have fin : ∀ (op x : Int) (w2 : World), Hp S w0 w2 (its ++ [tA0 A] ++ [tR R r sl] ++ [tSl sl 23 2 insv r.code]) → ∀ {G : World → Prop}, (∀ sl' w3, Hp S w0 w3 (its ++ [tA0 A] ++ [tR R (rAdd r (op, x)) sl'] ++ [tSl sl' 23 2 insv (rAdd r (op, x)).code]) → G w3) →
       Nw (.cells #[.int .i64 0, .int .i64 0] 23) w2 fun I w => St I (.int .i64 op) w fun w => St (I.add 1) (.int .i64 x) w fun w => Ld .sl w ((⟨R, 0, none⟩ : Addr).add 3) fun Code2 => Ld (.i .i64) w I fun r1 => Ld (.i .i64) w (I.add 1) fun r2 =>
        Nw (.cells #[.int .i64 r1, .int .i64 r2] 23) w fun b w => Run .sl Tryz.prog (Builtin.append_ #[28, 28] 28 #[.slice Code2.a Code2.len Code2.cap, .slice (some b) 1 1]) w fun s3 w => St ((⟨R, 0, none⟩ : Addr).add 3) (.slice s3.a s3.len s3.cap) w fun w => G w := by
      intro op x w2 h G hG
      refine ins_copy h (x := (op, x)) fun I w3 h => ?_
      refine h.ld (n := 3) (k := .sl) (x := sl) (its ++ [tA0 A]).length (by rw [List.append_assoc (its ++ [tA0 A] ++ [tR R r sl]), mid1]; rfl) rfl ?_
      refine h.ld0 (k := .i .i64) (x := op) _ (by rw [List.getElem?_concat_length]; rfl) rfl ?_
      refine h.ld (n := 1) (k := .i .i64) (x := x) _ (by rw [List.getElem?_concat_length]; rfl) rfl ?_
      have h := h.front
      refine h.nwapp (c := insv (op, x)) _ (op, x) List.getElem?_concat_length insv_len und28 i1 i3 i2 rfl rfl (by simp [Value.oneCell']) (by rw [i4]; omega) (by omega) fun s2 w6 h _ _ => ?_
      rw [set_last] at h
      refine h.st (n := 3) (its ++ [tA0 A]).length mid1 (by simp) rfl fun w7 h => ?_
      rw [set_mid] at h
      exact hG s2 w7 h
     refine Rins_spec h (by omega) (fun x hx w2 h => fin x.1 x.2 w2 h fun sl' w3 h => .inr ⟨rfl, rAdd r x, sl', ?_, ?_, h⟩) (fun hx w2 h => fin 0 0 w2 h fun sl' w3 h => .inl ⟨rfl, ?_, _, by rw [List.append_assoc (its ++ [tA0 A])] at h; exact h⟩)
     ·rw [hM, hx]
     ·simp [rAdd]; omega
     ·rw [hM, hx]
   clear h
   rintro g w2 (⟨rfl, he, B, h⟩ | ⟨rfl, r', sl', he, hlr, h⟩)
   ·exact ifT rfl (wrongX B w2 h he)
   ·refine ifF (by decide) ⟨s.size - (q + 1), by omega, q + 1, f, ln + 1, some r', sl', by rw [wr64 (by omega) (by omega)]; omega, by rw [wr64 (by omega) (by omega)]; omega, by omega, by omega, (fun e => by cases e), (fun r hr => by cases hr; omega), rfl, by omega, he, h⟩
end
def pad7 : List Ins := List.replicate 80 ((-7, 0) : Ins)
section
variable {S : List Nat} {w0 w : World} {its rest : List Thing}
theorem lent_spec (h : Hp S w0 w its) (j : Nat) {u : Thing} {nm : ByteArray} {pa lo : Int} {sl : Sl} {code : List Ins} (hj : its[j]? = some u) (hu : Hp.Reads u sl 2 insv code) (hl : code.length ≤ 8796093022208)
  {K : ByteArray → Int → Int → Sl → Sl → World → Prop} (hK : ∀ s l w', (∀ ls : List Ins, ls.length = code.length + 80 → Hp.Reads (tSl l 23 2 insv ls) s 2 insv (ls.take code.length)) → s.len = code.length → Hp S w0 w' (its ++ [tSl l 23 2 insv (code ++ pad7)]) → K nm pa lo s l w') : c20 nm pa lo sl w K := by
 refine c20_of ?_
 unfold f20
 have hjl := (List.getElem?_eq_some_iff.1 hj).1
 have hsl := h.lenU j (by rw [hj]; rfl) hu
 obtain ⟨inf, i1, i2, i3, i4⟩ := inf23
 refine h.nw fun R w1 h => ?_
 refine h.nw fun A w1 h => ?_
 have h : Hp S w0 w1 (its ++ [tBlk R 30 [.string nm, .int .i64 pa, .int .i64 lo, .slice sl.a sl.len sl.cap]] ++ [tA0 A]) := h
 have hR : ∀ {B : List Thing}, ((its ++ [tBlk R 30 [.string nm, .int .i64 pa, .int .i64 lo, .slice sl.a sl.len sl.cap]] ++ B)[its.length]?).map Thing.holds = some (tBlk R 30 [.string nm, .int .i64 pa, .int .i64 lo, .slice sl.a sl.len sl.cap]).holds := fun {B} => by rw [mid1]; rfl
 refine h.ld (n := 3) (k := .sl) (x := sl) _ hR rfl ?_
 have e1 : IntKind.i64.wrap ((sl.len : Int) + 80) = ((code.length + 80 : Nat) : Int) := by rw [wr64 (by omega) (by omega)]; omega
 rw [e1]
 refine h.mks (f := insv) (n := 2) (x0 := ((0, 0) : Ins)) insv_len rfl (by omega) (by omega) (by omega) (by omega) ?_
 intro l w1 h hll hlc _
 rw [Int.toNat_natCast] at h hll hlc
 have h : Hp S w0 w1 (its ++ [tBlk R 30 [.string nm, .int .i64 pa, .int .i64 lo, .slice sl.a sl.len sl.cap]] ++ [tA0 A] ++ [tSl l 23 2 insv (List.replicate (code.length + 80) ((0, 0) : Ins))]) := h
 have hR3 : ∀ {B C : List Thing}, ((its ++ [tBlk R 30 [.string nm, .int .i64 pa, .int .i64 lo, .slice sl.a sl.len sl.cap]] ++ B ++ C)[its.length]?).map Thing.holds = some (tBlk R 30 [.string nm, .int .i64 pa, .int .i64 lo, .slice sl.a sl.len sl.cap]).holds := fun {B C} => by rw [List.append_assoc, mid1]; rfl
 refine h.ld (n := 3) (k := .sl) (x := sl) _ hR3 rfl ?_
 refine h.copy _ j (by simp; omega) (l := List.replicate (code.length + 80) ((0, 0) : Ins)) (news := code) List.getElem?_concat_length (u := u) (by rw [List.append_assoc, List.append_assoc, List.getElem?_append_left hjl]; exact hj) hu insv_len und28 i1 i3 (by simp [Value.oneCell']) (by omega) fun w1 h => ?_
 rw [set_last, List.drop_replicate] at h
 have e2 : code.length + 80 - sl.len = 80 := by omega
 rw [e2] at h
 refine h.ld (n := 3) (k := .sl) (x := sl) _ hR3 rfl ?_
 refine ⟨fun i m w' => ∃ q : Nat, i = ((code.length + q : Nat) : Int) ∧ q ≤ 80 ∧ m = 80 - q ∧ Hp S w0 w' (its ++ [tBlk R 30 [.string nm, .int .i64 pa, .int .i64 lo, .slice sl.a sl.len sl.cap]] ++ [tA0 A] ++ [tSl l 23 2 insv (code ++ List.replicate q ((-7, 0) : Ins) ++ List.replicate (80 - q) ((0, 0) : Ins))]), ⟨_, 0, by omega, by omega, rfl, by simpa using h⟩, ?_⟩
 clear h
 rintro i m w2 ⟨q, rfl, hq, rfl, h⟩
 by_cases hend : q = 80
 ·subst hend
  refine ifF (by simp; omega) ?_
  have h : Hp S w0 w2 (its ++ [tBlk R 30 [.string nm, .int .i64 pa, .int .i64 lo, .slice sl.a sl.len sl.cap]] ++ [tA0 A] ++ [tSl l 23 2 insv (code ++ pad7)]) := by
   simpa [pad7] using h
  refine h.ld (n := 3) (k := .sl) (x := sl) _ hR3 rfl ?_
  have hlp : (code ++ pad7).length = l.len := by rw [List.length_append]; unfold pad7; rw [List.length_replicate]; omega
  show Cut l 0 (sl.len : Int) (l.cap : Int) 2 _
  have hall : ∀ ls : List Ins, ls.length = code.length + 80 → Cut l 0 (sl.len : Int) (l.cap : Int) 2 (fun s => Hp.Reads (tSl l 23 2 insv ls) s 2 insv (ls.take code.length) ∧ s.len = code.length) := fun ls hls =>
   Hp.cutv (u := tSl l 23 2 insv ls) (l := ls) Hp.rdSl (by omega) insv_len (by omega) (by omega) (by omega) (by omega) (by omega) fun s hs q1 q2 => by
    simp only [Int.toNat_natCast, Int.toNat_zero, List.drop_zero] at hs q1 q2
    rw [← hsl] at hs q1
    exact ⟨hs, by omega⟩
  have h80 : (code ++ pad7).length = code.length + 80 := by rw [List.length_append]; unfold pad7; rw [List.length_replicate]
  obtain ⟨s, hcut, hs, q1⟩ : ∃ s : Sl, (∀ G : Sl → Prop, G s → Cut l 0 (sl.len : Int) (l.cap : Int) 2 G) ∧ (∀ ls : List Ins, ls.length = code.length + 80 → Hp.Reads (tSl l 23 2 insv ls) s 2 insv (ls.take code.length)) ∧ s.len = code.length :=
   ⟨_, fun G hG => ⟨(hall _ h80).1, (hall _ h80).2.1, (hall _ h80).2.2.1, (hall _ h80).2.2.2.1, hG⟩, fun ls hls => ((hall ls hls).2.2.2.2).1, ((hall _ h80).2.2.2.2).2⟩
  refine hcut _ ?_
  have h : Hp S w0 w2 (its ++ [tBlk R 30 [.string nm, .int .i64 pa, .int .i64 lo, .slice sl.a sl.len sl.cap]] ++ ([tA0 A] ++ [tSl l 23 2 insv (code ++ pad7)])) := by simpa using h
  refine h.st (n := 3) its.length mid1 (by simp) rfl fun w2 h => ?_
  rw [set_mid] at h
  refine h.ld0 (k := .s) (x := nm) its.length (by rw [mid1]; rfl) rfl ?_
  refine h.ld (n := 1) (k := .i .i64) (x := pa) its.length (by rw [mid1]; rfl) rfl ?_
  refine h.ld (n := 2) (k := .i .i64) (x := lo) its.length (by rw [mid1]; rfl) rfl ?_
  refine h.ld (n := 3) (k := .sl) (x := s) its.length (by rw [mid1]; rfl) rfl ?_
  have h : Hp S w0 w2 (its ++ [tR R ⟨nm, pa, lo, code⟩ s] ++ [tA0 A] ++ [tSl l 23 2 insv (code ++ pad7)]) := by simpa using h
  refine h.st0 (its ++ [tR R ⟨nm, pa, lo, code⟩ s]).length mid1 (by simp) rfl fun w2 h => ?_
  rw [set_mid] at h
  refine h.st (n := 1) (its ++ [tR R ⟨nm, pa, lo, code⟩ s]).length mid1 (by simp) rfl fun w2 h => ?_
  rw [set_mid] at h
  refine h.st (n := 2) (its ++ [tR R ⟨nm, pa, lo, code⟩ s]).length mid1 (by simp) rfl fun w2 h => ?_
  rw [set_mid] at h
  refine h.st (n := 3) (its ++ [tR R ⟨nm, pa, lo, code⟩ s]).length mid1 (by simp) rfl fun w2 h => ?_
  rw [set_mid] at h
  refine h.ld0 (k := .s) (x := nm) (its ++ [tR R ⟨nm, pa, lo, code⟩ s]).length (by rw [mid1]; rfl) rfl ?_
  refine h.ld (n := 1) (k := .i .i64) (x := pa) (its ++ [tR R ⟨nm, pa, lo, code⟩ s]).length (by rw [mid1]; rfl) rfl ?_
  refine h.ld (n := 2) (k := .i .i64) (x := lo) (its ++ [tR R ⟨nm, pa, lo, code⟩ s]).length (by rw [mid1]; rfl) rfl ?_
  refine h.ld (n := 3) (k := .sl) (x := s) (its ++ [tR R ⟨nm, pa, lo, code⟩ s]).length (by rw [mid1]; rfl) rfl ?_
  refine hK _ l w2 hs q1 ?_
  refine Hp.dropMid (mid := [tR R ⟨nm, pa, lo, code⟩ s] ++ [tR A ⟨nm, pa, lo, code⟩ s]) ?_
  simpa using h
 ·obtain ⟨r, hr⟩ : ∃ r, 80 - q = r + 1 := ⟨79 - q, by omega⟩
  rw [hr, List.replicate_succ] at h
  refine ifT (by simp; omega) ?_
  refine h.ixst2 _ (y := ((-7, 0) : Ins)) List.getElem?_concat_length (by omega) (by rw [Int.toNat_natCast]; simp) insv_len rfl rfl rfl fun w3 h => ?_
  rw [set_last, Int.toNat_natCast] at h
  have e3 : (code ++ List.replicate q ((-7, 0) : Ins) ++ ((0, 0) : Ins) :: List.replicate r ((0, 0) : Ins)).set (code.length + q) ((-7, 0) : Ins) = code ++ List.replicate (q + 1) ((-7, 0) : Ins) ++ List.replicate (80 - (q + 1)) ((0, 0) : Ins) := by
   have hlq : code.length + q = (code ++ List.replicate q ((-7, 0) : Ins)).length := by simp
   rw [hlq, List.set_append_right _ _ (Nat.le_refl _), Nat.sub_self, List.set_cons_zero, List.replicate_succ']
   have : 80 - (q + 1) = r := by omega
   rw [this]
   simp
  rw [e3] at h
  exact ⟨80 - (q + 1), by omega, q + 1, by rw [wr64 (by omega) (by omega)]; omega, by omega, rfl, h⟩
end
section
variable {S : List Nat} {w0 w : World} {its rest : List Thing}
theorem still_spec (h : Hp S w0 w its) (i j : Nat) (hij : i ≠ j) {u : Thing} {l : Sl} {nm : ByteArray} {pa lo : Int} {sl : Sl} {code : List Ins} (hi : its[i]? = some (tSl l 23 2 insv (code ++ pad7))) (hj : its[j]? = some u) (hu : Hp.Reads u sl 2 insv code) (hl : code.length ≤ 8796093022208)
  {K : Bool → World → Prop} (hK : ∀ w', Hp S w0 w' (its.set i (tSl l 23 2 insv (List.replicate (code.length + 80) ((-8, 0) : Ins)))) → K true w') : c24 l nm pa lo sl w K := by
 refine c24_of ?_
 unfold f24
 have hil := (List.getElem?_eq_some_iff.1 hi).1
 have hjl := (List.getElem?_eq_some_iff.1 hj).1
 have hsl := h.lenU j (by rw [hj]; rfl) hu
 have hp80 : pad7.length = 80 := List.length_replicate
 have hll := h.len (s := l) (e := 23) (n := 2) (f := insv) (l := code ++ pad7) i (by rw [hi]; rfl)
 rw [List.length_append, hp80] at hll
 refine h.nw fun R w1 h => ?_
 have h0 : Hp S w0 w1 (its.set i (tSl l 23 2 insv (List.replicate 0 ((-8, 0) : Ins) ++ (code ++ pad7).drop 0)) ++ [tBlk R 30 [.string nm, .int .i64 pa, .int .i64 lo, .slice sl.a sl.len sl.cap]]) := by
  have : its.set i (tSl l 23 2 insv (List.replicate 0 ((-8, 0) : Ins) ++ (code ++ pad7).drop 0)) = its := by
   simp only [List.replicate_zero, List.nil_append, List.drop_zero]
   exact Hp.set_same' hi
  rw [this]; exact h
 clear h
 refine ⟨fun ok t m w' => ok = true ∧ ∃ q : Nat, t = q ∧ q ≤ code.length + 80 ∧ m = code.length + 80 - q ∧ Hp S w0 w' (its.set i (tSl l 23 2 insv (List.replicate q ((-8, 0) : Ins) ++ (code ++ pad7).drop q)) ++ [tBlk R 30 [.string nm, .int .i64 pa, .int .i64 lo, .slice sl.a sl.len sl.cap]]), ⟨_, rfl, 0, rfl, by omega, rfl, h0⟩, ?_⟩
 clear h0
 rintro ok t m w2 ⟨rfl, q, rfl, hq, rfl, h⟩
 have hset : ∀ (x : Thing) (B : List Thing), (its.set i x ++ B)[i]? = some x := fun x B => by
  rw [List.getElem?_append_left (by rw [List.length_set]; exact hil), List.getElem?_set_self hil]
 have hgj : ∀ (x : Thing) (B : List Thing), (its.set i x ++ B)[j]? = some u := fun x B => by
  rw [List.getElem?_append_left (by rw [List.length_set]; exact hjl), List.getElem?_set_ne hij]; exact hj
 have hR : ∀ (x : Thing), ((its.set i x ++ [tBlk R 30 [.string nm, .int .i64 pa, .int .i64 lo, .slice sl.a sl.len sl.cap]])[(its.set i x).length]?).map Thing.holds = some (tBlk R 30 [.string nm, .int .i64 pa, .int .i64 lo, .slice sl.a sl.len sl.cap]).holds := fun x => by rw [List.getElem?_concat_length]; rfl
 by_cases hend : q = code.length + 80
 ·subst hend
  refine ifF (by simp; omega) ?_
  have e : (code ++ pad7).drop (code.length + 80) = [] := List.drop_of_length_le (by rw [List.length_append, hp80]; exact Nat.le_refl _)
  rw [e, List.append_nil] at h
  exact hK w2 h.front
 ·obtain ⟨x, hx⟩ : ∃ x, (code ++ pad7)[q]? = some x := ⟨(code ++ pad7)[q]'(by rw [List.length_append, hp80]; omega), List.getElem?_eq_getElem _⟩
  refine ifT (by simp; omega) ?_
  have hxl : (List.replicate q ((-8, 0) : Ins) ++ (code ++ pad7).drop q)[q]? = some x := by
   rw [List.getElem?_append_right (by simp), List.length_replicate, Nat.sub_self, List.getElem?_drop]
   exact hx
  have getl : ∀ {w' : World} {G : Int → Int → Prop}, Hp S w0 w' (its.set i (tSl l 23 2 insv (List.replicate q ((-8, 0) : Ins) ++ (code ++ pad7).drop q)) ++ [tBlk R 30 [.string nm, .int .i64 pa, .int .i64 lo, .slice sl.a sl.len sl.cap]]) → G x.1 x.2 → Ix l.a l.len (q : Int) 2 fun a => Ld (.i .i64) w' a fun r1 => Ld (.i .i64) w' (a.add 1) fun r2 => G r1 r2 := by
   intro w' G h hG
   refine h.ixr i (s := l) (l := List.replicate q ((-8, 0) : Ins) ++ (code ++ pad7).drop q) (f := insv) (n := 2) (e := 23) (by rw [hset]; rfl) (by omega) (y := x) (by rw [Int.toNat_natCast]; exact hxl) insv_len fun ad hc => ?_
   refine ldR0 (k := .i .i64) (x := x.1) (hc 0 (by omega)) rfl ?_
   exact ldR (k := .i .i64) (x := x.2) (hc 1 (by omega)) rfl hG
  refine ⟨fun b w' => b = true ∧ Hp S w0 w' (its.set i (tSl l 23 2 insv (List.replicate q ((-8, 0) : Ins) ++ (code ++ pad7).drop q)) ++ [tBlk R 30 [.string nm, .int .i64 pa, .int .i64 lo, .slice sl.a sl.len sl.cap]]), ?_, ?_⟩
  ·refine h.dr fun w2 h => ?_
   refine ifT rfl ?_
   refine h.ld (n := 3) (k := .sl) (x := sl) _ (hR _) rfl ?_
   by_cases hql : q < code.length
   ·refine ifT (by simp; omega) ?_
    refine getl h ?_
    refine h.ld (n := 3) (k := .sl) (x := sl) _ (hR _) rfl ?_
    have hxc : code[q]? = some x := by rw [List.getElem?_append_left hql] at hx; exact hx
    obtain ⟨O, hO⟩ := h.see (hgj _ _)
    obtain ⟨o, hRd⟩ := hu.rd hO
    refine SlR.ix insv_len hRd (by omega) (x := x) (by rw [Int.toNat_natCast]; exact hxc) fun ad hc => ?_
    refine ldR0 (k := .i .i64) (x := x.1) (hc 0 (by omega)) rfl ?_
    refine ldR (k := .i .i64) (x := x.2) (hc 1 (by omega)) rfl ?_
    refine insEq ?_
    exact ifT (by simp) ⟨rfl, h⟩
   ·refine ifF (by simp; omega) ?_
    refine h.ld (n := 3) (k := .sl) (x := sl) _ (hR _) rfl ?_
    refine ifT (by simp; omega) ?_
    refine getl h ?_
    refine insEq ⟨?_, h⟩
    have hx7 : x = (-7, 0) := by
     rw [List.getElem?_append_right (by omega)] at hx
     exact List.eq_of_mem_replicate (List.mem_of_getElem? hx)
    rw [hx7]; rfl
  clear h
  rintro b w3 ⟨rfl, h⟩
  refine h.ixst2 i (y := ((-8, 0) : Ins)) (hset _ _) (by omega) (by rw [Int.toNat_natCast]; exact (List.getElem?_eq_some_iff.1 hxl).1) insv_len rfl rfl rfl fun w4 h => ?_
  rw [List.set_append_left _ _ (by rw [List.length_set]; exact hil), List.set_set, Int.toNat_natCast] at h
  have e3 : (List.replicate q ((-8, 0) : Ins) ++ (code ++ pad7).drop q).set q ((-8, 0) : Ins) = List.replicate (q + 1) ((-8, 0) : Ins) ++ (code ++ pad7).drop (q + 1) := by
   rw [drop_cons hx]
   have : q = (List.replicate q ((-8, 0) : Ins)).length := by simp
   conv => lhs; arg 2; rw [this]
   rw [List.set_append_right _ _ (Nat.le_refl _), Nat.sub_self, List.set_cons_zero, List.replicate_succ']
   simp
  rw [e3] at h
  exact ⟨code.length + 80 - (q + 1), by omega, rfl, q + 1, by rw [wr64 (by omega) (by omega)]; omega, by omega, rfl, h⟩
end
abbrev slv (s : Sl) : List Value := [.slice s.a s.len s.cap]
theorem und50 : Tryz.prog.underlying 50 = some (.slice 28) := by kernel_rfl
theorem inf28 : ∃ inf : TypeInfo, Tryz.prog.info? 28 = some inf ∧ inf.zero = some (.slice none 0 0) ∧ inf.size = 1 ∧ inf.bytes = 24 := infoP (by kernel_rfl)
abbrev y0 : Ins := (-1000, 0)
section
variable {S : List Nat} {w0 w : World} {its rest : List Thing}
theorem instrs_spec (h : Hp S w0 w its) (i j : Nat) (hij : i ≠ j) {x l : Sl} {code : List Ins} (hi : its[i]? = some (tSl x 23 2 insv code)) (hj : its[j]? = some (tSl l 28 1 slv [x])) (hl : code.length ≤ 1000000)
  {K : Bool → World → Prop} (hK : ∀ w' t1 t2, Hp S w0 w' ((its.set i t1).set j t2) → K true w') : c30 l w K := by
 refine c30_of ?_
 unfold f30
 have hil := (List.getElem?_eq_some_iff.1 hi).1
 have hjl := (List.getElem?_eq_some_iff.1 hj).1
 obtain ⟨inf, i1, i2, i3, i4⟩ := inf23
 obtain ⟨inf', j1, j2, j3, j4⟩ := inf28
 have hll := h.len (s := l) (e := 28) (n := 1) (f := slv) (l := [x]) j (by rw [hj]; rfl)
 have hl1 : l.len = 1 := hll.symm
 have hxl := h.len (s := x) (e := 23) (n := 2) (f := insv) (l := code) i (by rw [hi]; rfl)
 have hgj : ∀ (t : Thing), (its.set i t)[j]? = some (tSl l 28 1 slv [x]) := fun t => by rw [List.getElem?_set_ne hij]; exact hj
 have hgi : ∀ (t : Thing), (its.set i t)[i]? = some t := fun t => List.getElem?_set_self hil
 have getx : ∀ {w' : World} {t : Thing} {G : Sl → Prop}, Hp S w0 w' (its.set i t) → G x → Ix l.a l.len 0 1 fun a => Ld .sl w' a fun r => G r := by
  intro w' t G h hG
  refine h.ixr j (s := l) (l := [x]) (f := slv) (n := 1) (e := 28) (by rw [hgj]; rfl) (by omega) (y := x) rfl (fun _ => rfl) fun ad hc => ?_
  exact ldR0 (k := .sl) (x := x) (hc 0 (by omega)) rfl hG
 refine ⟨fun t m w' => (t = 0 ∧ m = 1 ∧ Hp S w0 w' (its.set i (tSl x 23 2 insv code))) ∨ (t = 1 ∧ m = 0 ∧ Hp S w0 w' (its.set i (tSl x 23 2 insv (List.replicate code.length y0)))), ⟨1, .inl ⟨rfl, rfl, by rw [Hp.set_same' hi]; exact h⟩⟩, ?_⟩
 clear h
 rintro t m w1 (⟨rfl, rfl, h⟩ | ⟨rfl, rfl, h⟩)
 ·refine ifT (by simp [hl1]) ?_
  refine ⟨fun k m w' => ∃ q : Nat, k = q ∧ q ≤ code.length ∧ m = code.length - q ∧ Hp S w0 w' (its.set i (tSl x 23 2 insv (List.replicate q y0 ++ code.drop q))), ⟨_, 0, rfl, by omega, rfl, by simpa using h⟩, ?_⟩
  clear h
  rintro k m w2 ⟨q, rfl, hq, rfl, h⟩
  refine getx h ?_
  by_cases hend : q = code.length
  ·refine ifF (by simp; omega) ⟨0, by omega, .inr ⟨by rw [wr64 (by decide) (by decide)]; rfl, rfl, ?_⟩⟩
   subst hend
   simpa using h
  ·refine ifT (by simp; omega) ?_
   refine getx h ?_
   have e0 : IntKind.i64.wrap ((-1000) - 0) = -1000 := wr64 (by decide) (by decide)
   rw [e0]
   obtain ⟨c, hc⟩ : ∃ c, code[q]? = some c := ⟨code[q]'(by omega), List.getElem?_eq_getElem (by omega)⟩
   refine h.ixst2 i (y := y0) (hgi _) (by omega) (by rw [Int.toNat_natCast, List.length_append, List.length_replicate, List.length_drop]; omega) insv_len rfl rfl rfl fun w3 h => ?_
   rw [List.set_set, Int.toNat_natCast] at h
   have e3 : (List.replicate q y0 ++ code.drop q).set q y0 = List.replicate (q + 1) y0 ++ code.drop (q + 1) := by
    rw [drop_cons hc]
    have : q = (List.replicate q y0).length := by simp
    conv => lhs; arg 2; rw [this]
    rw [List.set_append_right _ _ (Nat.le_refl _), Nat.sub_self, List.set_cons_zero, List.replicate_succ']
    simp
   rw [e3] at h
   exact ⟨code.length - (q + 1), by omega, q + 1, by rw [wr64 (by omega) (by omega)]; omega, by omega, rfl, h⟩
 ·refine ifF (by simp [hl1]) ?_
  have h := h.lc_start (hgi _)
  rw [List.set_set] at h
  refine ⟨fun l2 t m w' => (t = 0 ∧ m = 1 ∧ l2 = l ∧ Hp S w0 w' (its.set i (tLC 23 2 insv x x y0 code.length code.length))) ∨ (t = 1 ∧ m = 0 ∧ ∃ g, Hp S w0 w' ((its.set i (tLC 23 2 insv x g y0 code.length (code.length + 100))).set j (tSl l2 28 1 slv [x, g]))), ⟨1, .inl ⟨rfl, rfl, rfl, h⟩⟩, ?_⟩
  clear h
  rintro l2 t m w2 (⟨rfl, rfl, rfl, h⟩ | ⟨rfl, rfl, g, h⟩)
  ·refine ifT (by simp [hl1]) ?_
   refine getx h ?_
   refine ⟨fun g2 k m w' => ∃ q : Nat, k = q ∧ q ≤ 100 ∧ m = 100 - q ∧ Hp S w0 w' (its.set i (tLC 23 2 insv x g2 y0 code.length (code.length + q))), ⟨_, 0, rfl, by omega, rfl, h⟩, ?_⟩
   clear h
   rintro g2 k m w3 ⟨q, rfl, hq, rfl, h⟩
   have e0 : IntKind.i64.wrap ((-1000) - 0) = -1000 := wr64 (by decide) (by decide)
   by_cases hend : q = 100
   ·subst hend
    refine ifF (by decide) ?_
    refine h.nwapp (c := slv g2) j g2 (hgj _) (fun _ => rfl) und50 j1 j3 j2 rfl rfl (by simp [Value.oneCell']) (by rw [j4, hl1]; decide) (by rw [hl1]; decide) fun l3 w4 h _ _ => ?_
    exact ⟨0, by omega, .inr ⟨by rw [wr64 (by decide) (by decide)]; rfl, rfl, g2, h⟩⟩
   ·refine ifT (by simp; omega) ?_
    rw [e0]
    refine h.lc_app (cs := insv y0) i y0 (hgi _) insv_len und28 i1 i3 i2 rfl rfl (by simp [Value.oneCell']) (by rw [i4]; omega) (by omega) fun s' w4 h => ?_
    rw [List.set_set] at h
    exact ⟨100 - (q + 1), by omega, q + 1, by rw [wr64 (by omega) (by omega)]; omega, by omega, rfl, h⟩
  ·refine ifF (by simp [hl1]) ?_
   have h := h.lc_done (j := i) (by rw [List.getElem?_set_ne (fun e => hij e.symm), hgi])
   rw [List.set_comm _ _ (fun e => hij e.symm), List.set_set] at h
   have hJ : ∀ (t : Thing), ((its.set i t).set j (tSl l2 28 1 slv [x, g]))[j]? = some (tSl l2 28 1 slv [x, g]) := fun t => List.getElem?_set_self (by rw [List.length_set]; exact hjl)
   have hl2 := h.len (s := l2) (e := 28) (n := 1) (f := slv) (l := [x, g]) j (by rw [hJ]; rfl)
   have hl22 : l2.len = 2 := hl2.symm
   obtain ⟨T, hT⟩ : ∃ T, T = tShare (tRd x 2 insv (List.replicate code.length y0)) (tRd g 2 insv (List.replicate (code.length + 100) y0)) := ⟨_, rfl⟩
   rw [← hT] at h
   have hI : ((its.set i T).set j (tSl l2 28 1 slv [x, g]))[i]? = some T := by rw [List.getElem?_set_ne (fun e => hij e.symm), hgi]
   -- what stands at q
   have two : ∀ q : Nat, q < 2 → ∃ (z : Sl) (n : Nat), [x, g][q]? = some z ∧ n ≤ 1000100 ∧ ∀ w', Hp S w0 w' ((its.set i T).set j (tSl l2 28 1 slv [x, g])) → ∃ o, SlR w' z 2 insv (List.replicate n y0) o := by
    intro q hq
    match q, hq with
    | 0, _ =>
     refine ⟨x, code.length, rfl, by omega, fun w' h => ?_⟩
     obtain ⟨O, hO⟩ := h.see hI
     rw [hT] at hO
     obtain ⟨O1, O2, hA, _⟩ := hO
     exact ⟨O1, hA⟩
    | 1, _ =>
     refine ⟨g, code.length + 100, rfl, by omega, fun w' h => ?_⟩
     obtain ⟨O, hO⟩ := h.see hI
     rw [hT] at hO
     obtain ⟨O1, O2, _, hB, _⟩ := hO
     exact ⟨O2, hB⟩
   refine ⟨fun t m w' => ∃ q : Nat, t = q ∧ q ≤ 2 ∧ m = 2 - q ∧ Hp S w0 w' ((its.set i T).set j (tSl l2 28 1 slv [x, g])), ⟨_, 0, rfl, by omega, rfl, h⟩, ?_⟩
   clear h
   rintro t m w3 ⟨q, rfl, hq, rfl, h⟩
   by_cases hend : q = 2
   ·refine ifF (by simp; omega) (hK w3 _ _ h)
   ·refine ifT (by simp; omega) ?_
    obtain ⟨z, n, hz, hn, hrd⟩ := two q (by omega)
    have getz : ∀ {w' : World} {G : Sl → Prop}, Hp S w0 w' ((its.set i T).set j (tSl l2 28 1 slv [x, g])) → G z → Ix l2.a l2.len (q : Int) 1 fun a => Ld .sl w' a fun r => G r := by
     intro w' G h hG
     refine h.ixr j (s := l2) (l := [x, g]) (f := slv) (n := 1) (e := 28) (by rw [hJ]; rfl) (by omega) (y := z) (by rw [Int.toNat_natCast]; exact hz) (fun _ => rfl) fun ad hc => ?_
     exact ldR0 (k := .sl) (x := z) (hc 0 (by omega)) rfl hG
    refine ⟨fun k m w' => ∃ r : Nat, k = r ∧ r ≤ n ∧ m = n - r ∧ Hp S w0 w' ((its.set i T).set j (tSl l2 28 1 slv [x, g])), ⟨_, 0, rfl, by omega, rfl, h⟩, ?_⟩
    clear h
    rintro k m w4 ⟨r, rfl, hr, rfl, h⟩
    obtain ⟨o0, hz0⟩ := hrd w4 h
    have hzl : z.len = n := by have := hz0.1; rw [List.length_replicate] at this; exact this.symm
    refine getz h ?_
    by_cases hre : r = n
    ·refine ifF (by simp; omega) ⟨2 - (q + 1), by omega, q + 1, by rw [wr64 (by omega) (by omega)]; omega, by omega, rfl, h⟩
    ·refine ifT (by simp; omega) ?_
     refine h.dr fun w5 h => ?_
     refine getz h ?_
     obtain ⟨o1, hz1⟩ := hrd w5 h
     refine SlR.ix insv_len hz1 (by omega) (x := y0) (by rw [Int.toNat_natCast, List.getElem?_replicate, if_pos (by omega)]) fun ad hc => ?_
     refine ldR0 (k := .i .i64) (x := -1000) (hc 0 (by omega)) rfl ?_
     refine ldR (k := .i .i64) (x := 0) (hc 1 (by omega)) rfl ?_
     refine ⟨by rw [hl1]; decide, ?_⟩
     have em : IntKind.i64.wrap ((-1000) - (Int.tmod (q : Int) (l.len : Int))) = -1000 := by
      rw [hl1]
      have : Int.tmod (q : Int) ((1 : Nat) : Int) = 0 := Int.tmod_one (q : Int)
      rw [this]
      exact wr64 (by decide) (by decide)
     rw [em]
     refine insNe (ifF (by simp) ?_)
     exact ⟨n - (r + 1), by omega, r + 1, by rw [wr64 (by omega) (by omega)]; omega, by omega, rfl, h⟩
end
theorem readG_len (s : ByteArray) : ∀ (f a : Nat) (st : Option RT) (r : RT), (∀ r0, st = some r0 → r0.code.length ≤ 2000) → readG s f a st = .ok r → r.code.length ≤ 2000
 | 0, a, st, r, _, h => by cases h
 | f + 1, a, st, r, hst, h => by
  unfold readG at h
  split at h
  ·rename_i hc
   cases st with
   | none => cases hc.1
   | some r0 =>
    cases h
    exact hst r0 rfl
  ·split at h
   ·cases h
   ·cases st with
    | none =>
     dsimp only at h
     split at h
     ·cases h
     ·exact readG_len s f _ _ r (fun r0 h0 => by cases h0; simp) h
    | some r0 =>
     dsimp only at h
     split at h
     ·rename_i hl
      split at h
      ·cases h
      ·exact readG_len s f _ _ r (fun r1 h1 => by cases h1; simp [rAdd]; omega) h
     ·cases h
theorem readM_len {s : ByteArray} {r : RT} (h : readM s = .ok r) : r.code.length ≤ 2000 :=
 readG_len s _ _ _ r (fun r0 h0 => by cases h0) h
section
variable {S : List Nat} {w0 w : World} {its rest : List Thing}
theorem lists_spec {w : World} (hG : Glob w) {nm : ByteArray} {pa lo : Int} {sl : Sl} {code : List Ins} {s : ByteArray} (hr : ∃ o, SlR w sl 2 insv code o) (hok : RT.Ok ⟨nm, pa, lo, code⟩) (hl : code.length ≤ 8796093022208) (hnm : nm.size ≤ 140737488355328) (hs : s.size < 4294967281) {K : Bool → World → Prop} (hK : ∀ w', Hp [] w w' [] → K true w') : c6 nm pa lo sl s w K := by
 obtain ⟨o, hr⟩ := hr
 refine c6_of ?_
 unfold f6
 have h : Hp [] w w [(tRd sl 2 insv code).ro] := (Hp.init w).addRo (O := o) hr (by simp)
 refine h.nw fun rb w1 h => ?_
 have h : Hp [] w w1 [(tRd sl 2 insv code).ro, tR rb ⟨nm, pa, lo, code⟩ sl] := h
 refine shown_spec h hG fun w1 h => ?_
 refine h.ld0 (k := .s) (x := nm) 1 rfl rfl ?_
 refine h.ld (n := 1) (k := .i .i64) (x := pa) 1 rfl rfl ?_
 refine h.ld (n := 2) (k := .i .i64) (x := lo) 1 rfl rfl ?_
 refine h.ld (n := 3) (k := .sl) (x := sl) 1 rfl rfl ?_
 refine lent_spec h 0 (u := (tRd sl 2 insv code).ro) rfl rdRo hl fun sx l w1 hsx hsl h => ?_
 have hp80 : pad7.length = 80 := List.length_replicate
 refine rt_copy h (sl := sx) fun xb w1 h => ?_
 have h : Hp [] w w1 [(tRd sl 2 insv code).ro, tR rb ⟨nm, pa, lo, code⟩ sl, tSl l 23 2 insv (code ++ pad7), tR xb ⟨nm, pa, lo, code⟩ sx] := h
 refine h.ld0 (k := .s) (x := nm) 3 rfl rfl ?_
 refine h.ld (n := 1) (k := .i .i64) (x := pa) 3 rfl rfl ?_
 refine h.ld (n := 2) (k := .i .i64) (x := lo) 3 rfl rfl ?_
 refine h.ld (n := 3) (k := .sl) (x := sx) 3 rfl rfl ?_
 obtain ⟨O, hO⟩ := h.see (i := 2) rfl
 have hrd := (hsx (code ++ pad7) (by rw [List.length_append, hp80])).rd hO
 rw [List.take_left] at hrd
 refine List_spec (code := code) hrd hok hnm (hG.fr h.fr).tab fun w2 h2 => ?_
 have h := h.keep h2.fr
 clear h2 hrd hO O
 refine h.ld0 (k := .s) (x := nm) 1 rfl rfl ?_
 refine h.ld (n := 1) (k := .i .i64) (x := pa) 1 rfl rfl ?_
 refine h.ld (n := 2) (k := .i .i64) (x := lo) 1 rfl rfl ?_
 refine h.ld (n := 3) (k := .sl) (x := sl) 1 rfl rfl ?_
 refine still_spec h 2 0 (by decide) (u := (tRd sl 2 insv code).ro) rfl rfl rdRo hl fun w2 h => ?_
 have h : Hp [] w w2 [(tRd sl 2 insv code).ro, tR rb ⟨nm, pa, lo, code⟩ sl, tSl l 23 2 insv (List.replicate (code.length + 80) ((-8, 0) : Ins)), tR xb ⟨nm, pa, lo, code⟩ sx] := h
 have hll := h.len (s := l) (e := 23) (n := 2) (f := insv) (l := List.replicate (code.length + 80) ((-8, 0) : Ins)) 2 rfl
 rw [List.length_replicate] at hll
 refine ⟨fun t m w' => ∃ q : Nat, t = q ∧ q ≤ code.length + 80 ∧ m = code.length + 80 - q ∧ Hp [] w w' [(tRd sl 2 insv code).ro, tR rb ⟨nm, pa, lo, code⟩ sl, tSl l 23 2 insv (List.replicate q ((24, 0) : Ins) ++ List.replicate (code.length + 80 - q) ((-8, 0) : Ins)), tR xb ⟨nm, pa, lo, code⟩ sx], ⟨_, 0, rfl, by omega, rfl, by simpa using h⟩, ?_⟩
 clear h
 rintro t m w3 ⟨q, rfl, hq, rfl, h⟩
 by_cases hend : q = code.length + 80
 ·subst hend
  refine ifF (by simp; omega) ?_
  rw [Nat.sub_self, List.replicate_zero, List.append_nil] at h
  obtain ⟨inf, i1, i2, i3, i4⟩ := inf23
  refine h.ld0 (k := .s) (x := nm) 1 rfl rfl ?_
  refine h.ld (n := 1) (k := .i .i64) (x := pa) 1 rfl rfl ?_
  refine h.ld (n := 2) (k := .i .i64) (x := lo) 1 rfl rfl ?_
  refine h.ld (n := 3) (k := .sl) (x := sl) 1 rfl rfl ?_
  refine rt_copy h (sl := sl) fun nb w3 h => ?_
  refine h.nw (c := []) fun b w3 h => ?_
  have h : Hp [] w w3 ([(tRd sl 2 insv code).ro, tR rb ⟨nm, pa, lo, code⟩ sl, tSl l 23 2 insv (List.replicate (code.length + 80) ((24, 0) : Ins)), tR xb ⟨nm, pa, lo, code⟩ sx, tR nb ⟨nm, pa, lo, code⟩ sl] ++ [tBlk b 23 []]) := h
  have h := h.blkSl (i := 5) (m := 0) (l := ([] : List Ins)) (f := insv) (n := 2) rfl rfl rfl insv_len
  have h : Hp [] w w3 [(tRd sl 2 insv code).ro, tR rb ⟨nm, pa, lo, code⟩ sl, tSl l 23 2 insv (List.replicate (code.length + 80) ((24, 0) : Ins)), tR xb ⟨nm, pa, lo, code⟩ sx, tR nb ⟨nm, pa, lo, code⟩ sl, tSl ⟨some ⟨b, 0, none⟩, 0, 0⟩ 23 2 insv []] := h
  refine h.ld (n := 3) (k := .sl) (x := sx) 3 rfl rfl ?_
  have hus := hsx (List.replicate (code.length + 80) ((24, 0) : Ins)) List.length_replicate
  obtain ⟨code', hc'⟩ : ∃ c, c = (List.replicate (code.length + 80) ((24, 0) : Ins)).take code.length := ⟨_, rfl⟩
  rw [← hc'] at hus
  have hcl : code'.length = code.length := by rw [hc', List.length_take, List.length_replicate]; omega
  have hok' : RT.Ok ⟨nm, pa, lo, code'⟩ := ⟨by show code'.length ≤ _; omega, fun y hy => by
   have hy : y ∈ code' := hy
   rw [hc'] at hy
   have := List.eq_of_mem_replicate (List.mem_of_mem_take hy)
   rw [this]; decide⟩
  refine h.appS 5 2 (s := ⟨some ⟨b, 0, none⟩, 0, 0⟩) (news := code') rfl (u := tSl l 23 2 insv (List.replicate (code.length + 80) ((24, 0) : Ins))) rfl hus insv_len und28 i1 i3 i2 rfl (by simp [Value.oneCell']) (by rw [i4]; show (0 + sx.len) * 16 ≤ _; omega) (by show 0 + sx.len ≤ _; omega) fun s2 w3 h _ _ => ?_
  have h : Hp [] w w3 [(tRd sl 2 insv code).ro, tR rb ⟨nm, pa, lo, code⟩ sl, tSl l 23 2 insv (List.replicate (code.length + 80) ((24, 0) : Ins)), tR xb ⟨nm, pa, lo, code⟩ sx, tR nb ⟨nm, pa, lo, code⟩ sl, tSl s2 23 2 insv code'] := by simpa using h
  refine h.st (n := 3) 4 rfl (by simp) rfl fun w3 h => ?_
  have h : Hp [] w w3 [(tRd sl 2 insv code).ro, tR rb ⟨nm, pa, lo, code⟩ sl, tSl l 23 2 insv (List.replicate (code.length + 80) ((24, 0) : Ins)), tR xb ⟨nm, pa, lo, code⟩ sx, tR nb ⟨nm, pa, lo, code'⟩ s2, tSl s2 23 2 insv code'] := h
  refine ⟨fun b w' => b = true ∧ Hp [] w w' [(tRd sl 2 insv code).ro, tR rb ⟨nm, pa, lo, code⟩ sl, tSl l 23 2 insv (List.replicate (code.length + 80) ((24, 0) : Ins)), tR xb ⟨nm, pa, lo, code⟩ sx, tR nb ⟨nm, pa, lo, code'⟩ s2, tSl s2 23 2 insv code'], ?_, ?_⟩
  ·refine h.dr fun w3 h => ?_
   refine ifT rfl ?_
   refine h.ld0 (k := .s) (x := nm) 3 rfl rfl ?_
   refine h.ld (n := 1) (k := .i .i64) (x := pa) 3 rfl rfl ?_
   refine h.ld (n := 2) (k := .i .i64) (x := lo) 3 rfl rfl ?_
   refine h.ld (n := 3) (k := .sl) (x := sx) 3 rfl rfl ?_
   refine h.ld0 (k := .s) (x := nm) 4 rfl rfl ?_
   refine h.ld (n := 1) (k := .i .i64) (x := pa) 4 rfl rfl ?_
   refine h.ld (n := 2) (k := .i .i64) (x := lo) 4 rfl rfl ?_
   refine h.ld (n := 3) (k := .sl) (x := s2) 4 rfl rfl ?_
   obtain ⟨O, hO⟩ := h.see (i := 2) rfl
   refine List_spec (code := code') (hus.rd hO) hok' hnm (hG.fr h.fr).tab fun w4 h2 => ?_
   have h := h.keep h2.fr
   refine ⟨h.cel0 4 rfl rfl, h.cel (n := 1) 4 rfl rfl, h.cel (n := 2) 4 rfl rfl, h.cel (n := 3) 4 rfl rfl, ?_⟩
   refine RList_spec h 5 (u := tSl s2 23 2 insv code') rfl Hp.rdSl hok' hnm fun w5 h => ⟨by simp, h⟩
  clear h
  rintro b2 w4 ⟨rfl, h⟩
  have h : Hp [] w w4 [(tRd sl 2 insv code).ro, tR rb ⟨nm, pa, lo, code⟩ sl] := h.front (a := [(tRd sl 2 insv code).ro, tR rb ⟨nm, pa, lo, code⟩ sl]) (b := [tSl l 23 2 insv (List.replicate (code.length + 80) ((24, 0) : Ins)), tR xb ⟨nm, pa, lo, code⟩ sx, tR nb ⟨nm, pa, lo, code'⟩ s2, tSl s2 23 2 insv code'])
  cases hM : readM s with
  | error e =>
   refine Read_spec h hG hs (fun r1 hr1 => by rw [hM] at hr1; cases hr1) (fun e1 he f1 w5 h => ?_)
   rw [hM] at he; cases he
   refine rt_copy h (sl := ⟨none, 0, 0⟩) fun ab w5 h => ?_
   refine fault_spec h 2 rfl fun w5 h => ?_
   refine Rread_spec h hs (fun r1 hr1 => by rw [hM] at hr1; cases hr1) (fun e1 he w5 h => ?_)
   rw [hM] at he; cases he
   refine rt_copy h (sl := ⟨none, 0, 0⟩) fun bb w5 h => ?_
   refine Read_spec h hG hs (fun r1 hr1 => by rw [hM] at hr1; cases hr1) (fun e1 he f2 w5 h => ?_)
   rw [hM] at he; cases he
   refine rt_copy h (sl := ⟨none, 0, 0⟩) fun cb w5 h => ?_
   have h := h.nil 23 2 insv
   have h : Hp [] w w5 [(tRd sl 2 insv code).ro, tR rb ⟨nm, pa, lo, code⟩ sl, tFault f1 e, tA0 ab, tA0 bb, tFault f2 e, tA0 cb, tSl ⟨none, 0, 0⟩ 23 2 insv []] := h
   refine h.ld0 (k := .s) (x := ⟨#[]⟩) 3 rfl rfl ?_
   refine h.ld (n := 1) (k := .i .i64) (x := 0) 3 rfl rfl ?_
   refine h.ld (n := 2) (k := .i .i64) (x := 0) 3 rfl rfl ?_
   refine h.ld (n := 3) (k := .sl) (x := ⟨none, 0, 0⟩) 3 rfl rfl ?_
   refine h.ld0 (k := .s) (x := ⟨#[]⟩) 4 rfl rfl ?_
   refine h.ld (n := 1) (k := .i .i64) (x := 0) 4 rfl rfl ?_
   refine h.ld (n := 2) (k := .i .i64) (x := 0) 4 rfl rfl ?_
   refine h.ld (n := 3) (k := .sl) (x := ⟨none, 0, 0⟩) 4 rfl rfl ?_
   refine routines_spec (x := ⟨⟨#[]⟩, 0, 0, ⟨none, 0, 0⟩, []⟩) (y := ⟨⟨#[]⟩, 0, 0, ⟨none, 0, 0⟩, []⟩) h 7 7 (u := tSl ⟨none, 0, 0⟩ 23 2 insv []) (v := tSl ⟨none, 0, 0⟩ 23 2 insv []) rfl Hp.rdSl rfl Hp.rdSl (by decide) fun one w5 h1 h => ?_
   obtain rfl := h1.2 rfl
   refine h.ld (n := 3) (k := .sl) (x := ⟨none, 0, 0⟩) 3 rfl rfl ?_
   refine h.nwS (l := [(⟨none, 0, 0⟩ : Sl)]) (f := slv) (n := 1) (m := 1) rfl rfl (fun _ => rfl) fun b3 w5 h => ?_
   refine instrs_spec h 7 8 (by decide) rfl rfl (by decide) fun w5 t1 t2 h => ?_
   have h := h.nil 23 2 insv
   have h : Hp [] w w5 [(tRd sl 2 insv code).ro, tR rb ⟨nm, pa, lo, code⟩ sl, tFault f1 e, tA0 ab, tA0 bb, tFault f2 e, tA0 cb, t1, t2, tSl ⟨none, 0, 0⟩ 23 2 insv []] := h
   refine h.ld0 (k := .s) (x := ⟨#[]⟩) 6 rfl rfl ?_
   refine h.ld (n := 1) (k := .i .i64) (x := 0) 6 rfl rfl ?_
   refine h.ld (n := 2) (k := .i .i64) (x := 0) 6 rfl rfl ?_
   refine h.ld (n := 3) (k := .sl) (x := ⟨none, 0, 0⟩) 6 rfl rfl ?_
   refine h.ld0 (k := .s) (x := ⟨#[]⟩) 4 rfl rfl ?_
   refine h.ld (n := 1) (k := .i .i64) (x := 0) 4 rfl rfl ?_
   refine h.ld (n := 2) (k := .i .i64) (x := 0) 4 rfl rfl ?_
   refine h.ld (n := 3) (k := .sl) (x := ⟨none, 0, 0⟩) 4 rfl rfl ?_
   refine routines_spec (x := ⟨⟨#[]⟩, 0, 0, ⟨none, 0, 0⟩, []⟩) (y := ⟨⟨#[]⟩, 0, 0, ⟨none, 0, 0⟩, []⟩) h 9 9 (u := tSl ⟨none, 0, 0⟩ 23 2 insv []) (v := tSl ⟨none, 0, 0⟩ 23 2 insv []) rfl Hp.rdSl rfl Hp.rdSl (by decide) fun two w5 h2 h => ?_
   obtain rfl := h2.2 rfl
   refine h.dr fun w5 h => ?_
   refine ifT rfl (ifT rfl (ifT rfl ?_))
   refine h.ld0 (k := .s) (x := nm) 1 rfl rfl ?_
   refine h.ld (n := 1) (k := .i .i64) (x := pa) 1 rfl rfl ?_
   refine h.ld (n := 2) (k := .i .i64) (x := lo) 1 rfl rfl ?_
   refine h.ld (n := 3) (k := .sl) (x := sl) 1 rfl rfl ?_
   refine RList_spec h 0 (u := (tRd sl 2 insv code).ro) rfl rdRo hok hnm fun w5 h => ?_
   refine ifT (by simp) (ifT rfl (ifT rfl (ifT rfl (ifT (by simp) (ifT rfl ?_)))))
   refine ⟨false, fun _ _ => by kernel_rfl, ⟨false, fun _ _ => by kernel_rfl, ?_⟩⟩
   exact hK w5 (frNil h.fr)
  | ok r =>
   have hrl := readM_len hM
   refine Read_spec h hG hs (fun r1 hr1 a1 w5 h => ?_) (fun e he => by rw [hM] at he; cases he)
   rw [hM] at hr1; cases hr1
   refine rt_copy h (sl := a1) fun ab w5 h => ?_
   refine fault_nil ?_
   refine Rread_spec h hs (fun r1 hr1 a2 w5 h => ?_) (fun e he => by rw [hM] at he; cases he)
   rw [hM] at hr1; cases hr1
   refine rt_copy h (sl := a2) fun bb w5 h => ?_
   refine Read_spec h hG hs (fun r1 hr1 a3 w5 h => ?_) (fun e he => by rw [hM] at he; cases he)
   rw [hM] at hr1; cases hr1
   refine rt_copy h (sl := a3) fun cb w5 h => ?_
   have h : Hp [] w w5 [(tRd sl 2 insv code).ro, tR rb ⟨nm, pa, lo, code⟩ sl, tSl a1 23 2 insv r.code, tR ab r a1, tSl a2 23 2 insv r.code, tR bb r a2, tSl a3 23 2 insv r.code, tR cb r a3] := h
   refine h.ld0 (k := .s) (x := r.nm) 3 rfl rfl ?_
   refine h.ld (n := 1) (k := .i .i64) (x := r.pa) 3 rfl rfl ?_
   refine h.ld (n := 2) (k := .i .i64) (x := r.lo) 3 rfl rfl ?_
   refine h.ld (n := 3) (k := .sl) (x := a1) 3 rfl rfl ?_
   refine h.ld0 (k := .s) (x := r.nm) 5 rfl rfl ?_
   refine h.ld (n := 1) (k := .i .i64) (x := r.pa) 5 rfl rfl ?_
   refine h.ld (n := 2) (k := .i .i64) (x := r.lo) 5 rfl rfl ?_
   refine h.ld (n := 3) (k := .sl) (x := a2) 5 rfl rfl ?_
   refine routines_spec (x := ⟨r.nm, r.pa, r.lo, a1, r.code⟩) (y := ⟨r.nm, r.pa, r.lo, a2, r.code⟩) h 2 4 (u := tSl a1 23 2 insv r.code) (v := tSl a2 23 2 insv r.code) rfl Hp.rdSl rfl Hp.rdSl (by show r.code.length ≤ _; omega) fun one w5 h1 h => ?_
   obtain rfl := h1.2 rfl
   refine h.ld (n := 3) (k := .sl) (x := a1) 3 rfl rfl ?_
   refine h.nwS (l := [a1]) (f := slv) (n := 1) (m := 1) rfl rfl (fun _ => rfl) fun b3 w5 h => ?_
   refine instrs_spec h 2 8 (by decide) rfl rfl (by omega) fun w5 t1 t2 h => ?_
   have h : Hp [] w w5 [(tRd sl 2 insv code).ro, tR rb ⟨nm, pa, lo, code⟩ sl, t1, tR ab r a1, tSl a2 23 2 insv r.code, tR bb r a2, tSl a3 23 2 insv r.code, tR cb r a3, t2] := h
   refine h.ld0 (k := .s) (x := r.nm) 7 rfl rfl ?_
   refine h.ld (n := 1) (k := .i .i64) (x := r.pa) 7 rfl rfl ?_
   refine h.ld (n := 2) (k := .i .i64) (x := r.lo) 7 rfl rfl ?_
   refine h.ld (n := 3) (k := .sl) (x := a3) 7 rfl rfl ?_
   refine h.ld0 (k := .s) (x := r.nm) 5 rfl rfl ?_
   refine h.ld (n := 1) (k := .i .i64) (x := r.pa) 5 rfl rfl ?_
   refine h.ld (n := 2) (k := .i .i64) (x := r.lo) 5 rfl rfl ?_
   refine h.ld (n := 3) (k := .sl) (x := a2) 5 rfl rfl ?_
   refine routines_spec (x := ⟨r.nm, r.pa, r.lo, a3, r.code⟩) (y := ⟨r.nm, r.pa, r.lo, a2, r.code⟩) h 6 4 (u := tSl a3 23 2 insv r.code) (v := tSl a2 23 2 insv r.code) rfl Hp.rdSl rfl Hp.rdSl (by show r.code.length ≤ _; omega) fun two w5 h2 h => ?_
   obtain rfl := h2.2 rfl
   refine h.dr fun w5 h => ?_
   refine ifT rfl (ifT rfl (ifT rfl ?_))
   refine h.ld0 (k := .s) (x := nm) 1 rfl rfl ?_
   refine h.ld (n := 1) (k := .i .i64) (x := pa) 1 rfl rfl ?_
   refine h.ld (n := 2) (k := .i .i64) (x := lo) 1 rfl rfl ?_
   refine h.ld (n := 3) (k := .sl) (x := sl) 1 rfl rfl ?_
   refine RList_spec h 0 (u := (tRd sl 2 insv code).ro) rfl rdRo hok hnm fun w5 h => ?_
   refine ifT (by simp) (ifT rfl (ifT rfl (ifT rfl (ifT rfl (ifT rfl ?_)))))
   refine ⟨true, fun _ _ => by kernel_rfl, ⟨true, fun _ _ => by kernel_rfl, ?_⟩⟩
   exact hK w5 (frNil h.fr)
 ·obtain ⟨r, hr⟩ : ∃ r, code.length + 80 - q = r + 1 := ⟨code.length + 79 - q, by omega⟩
  rw [hr, List.replicate_succ] at h
  refine ifT (by simp; omega) ?_
  refine h.ixst2 2 (y := ((24, 0) : Ins)) rfl (by omega) (by rw [Int.toNat_natCast]; simp) insv_len rfl rfl rfl fun w4 h => ?_
  rw [Int.toNat_natCast] at h
  have e3 : (List.replicate q ((24, 0) : Ins) ++ ((-8, 0) : Ins) :: List.replicate r ((-8, 0) : Ins)).set q ((24, 0) : Ins) = List.replicate (q + 1) ((24, 0) : Ins) ++ List.replicate (code.length + 80 - (q + 1)) ((-8, 0) : Ins) := by
   have hlq : q = (List.replicate q ((24, 0) : Ins)).length := by simp
   conv => lhs; arg 2; rw [hlq]
   rw [List.set_append_right _ _ (Nat.le_refl _), Nat.sub_self, List.set_cons_zero, List.replicate_succ']
   have : code.length + 80 - (q + 1) = r := by omega
   rw [this]
   simp
  rw [e3] at h
  exact ⟨code.length + 80 - (q + 1), by omega, q + 1, by rw [wr64 (by omega) (by omega)]; omega, by omega, rfl, h⟩
end
end Go.Proofs.YtmfgofbcnlkolaaGreatDoor.F
end

section
namespace Go.Proofs.YtmfgofbcnlkolaaGreatDoor.FW
open F
open Go Go.Den Go.Proofs Go.RowKit
theorem dec_rt2 {w : World} {B m : Nat} {ci : List Value} (hl : ci.length = 4) (h : RdV Tryz.prog w B m 30 ci) : ∃ x : RV, ci = rtv x ∧ x.r.Ok ∧ (∃ o, SlR w x.sl 2 insv x.code o) ∧ x.nm.size ≤ 140737488355328 ∧ x.code.length ≤ 8796093022208 := by
 obtain ⟨x, h1, h2, h3, h4, _, _⟩ := dec_rt hl h
 obtain ⟨_, q, hf⟩ := rd_struct und30s h
 obtain ⟨s, l, e3, ⟨o, h6⟩, h7, _⟩ := dec_code (rd_field hf 3 (ft := 28) (off := 3) (sz := 1) (by kernel_rfl) cel28)
 subst h1
 obtain ⟨o', h3'⟩ := h3
 have e4 : s.len = x.sl.len := by
  simp only [rtv, List.drop_succ_cons, List.drop_zero, List.take_succ_cons, List.take_zero, List.cons.injEq, Value.slice.injEq, and_true] at e3
  exact e3.2.1.symm
 have e5 := h6.len
 have e6 := h3'.len
 exact ⟨x, rfl, h2, ⟨o', h3'⟩, h4, by omega⟩
theorem lists_call {w : World} (hG : Glob w) {B n : Nat} {cs : Array Value} {s : ByteArray} (hc : cs.toList.length = 4) (h : RdV Tryz.prog w B n 30 cs.toList) (hs : s.size ≤ 1048576) :
  Calls Tryz.prog 6 #[.agg cs, .string s] w fun e w' => e = .returned (.bool true) ∧ Below w.heap.size w w' := by
 obtain ⟨x, hx, h1, h2, h3, h4⟩ := dec_rt2 hc h
 have e : cs = #[.string x.nm, .int .i64 x.pa, .int .i64 x.lo, .slice x.sl.a x.sl.len x.sl.cap] := by
  apply Array.toList_inj.1
  exact hx
 subst e
 exact calls_true (lists_spec (nm := x.nm) (pa := x.pa) (lo := x.lo) (sl := x.sl) (code := x.code) (s := s) hG h2 h1 h4 h3 (by omega) fun w' hf => ⟨rfl, hf.fr⟩)
end Go.Proofs.YtmfgofbcnlkolaaGreatDoor.FW
end
