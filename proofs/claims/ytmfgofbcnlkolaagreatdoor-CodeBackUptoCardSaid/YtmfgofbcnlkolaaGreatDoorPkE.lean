/-
  Part 5 of the proof: CodeBack is true of the given program where what it reads is of bulk at most 1048576: its row, and the card tied to the program's text.
-/
import Derived.Test.YtmfgofbcnlkolaaGreatDoorPkD
import Derived.Lib.SplitLaws
import Derived.Lib.AtoiErrMem
import Derived.Lib.Overlaps
import Derived.Lib.AppendZerosOnto
import Derived.Shelf.Vars
import Derived.Stop.LaidErr
import Derived.Lib.LaidTab
import Derived.Lib.IndexBytes
import Derived.Lib.CountLaws
set_option linter.unusedSimpArgs false
set_option linter.unusedVariables false
set_option maxRecDepth 100000
section
namespace Go.Proofs.YtmfgofbcnlkolaaGreatDoor.F
open Go Go.Den Go.Proofs
structure Glob (w : World) : Prop where
 tab : TabW w
 m : ∃ m : Int, w.cell? ⟨0, 0, none⟩ = some (.int .i64 m)
 e2 : ∃ ev, w.cell? ⟨2, 0, none⟩ = some ev ∧ (ev = .nilIface ∨ ∃ te pe, ev = .iface te pe)
 e3 : ∃ ev, w.cell? ⟨3, 0, none⟩ = some ev ∧ (ev = .nilIface ∨ ∃ te pe, ev = .iface te pe)
theorem cell_fr {w w' : World} (hf : Fr [] w w') {a : Addr} {v : Value} (h : w.cell? a = some v) : w'.cell? a = some v := by
 have hb := World.block_lt_of_cell? w a h
 rw [← h]
 exact World.cell?_of_block (hf.block _ hb (by simp))
theorem Glob.fr {w w' : World} (h : Glob w) (hf : Fr [] w w') : Glob w' := by
 obtain ⟨m, hm⟩ := h.m
 obtain ⟨e, he, he'⟩ := h.e2
 obtain ⟨f, hf', hf''⟩ := h.e3
 exact ⟨tab_fr h.tab hf, ⟨m, cell_fr hf hm⟩, ⟨e, cell_fr hf he, he'⟩, ⟨f, cell_fr hf hf', hf''⟩⟩
def cutB (s sep : ByteArray) : ByteArray × ByteArray × Bool := (⟨(Lib.cut s.data.toList sep.data.toList).1.toArray⟩, ⟨(Lib.cut s.data.toList sep.data.toList).2.1.toArray⟩, (Lib.cut s.data.toList sep.data.toList).2.2)
def decO (s : ByteArray) : Option Int := match Lib.parseIntB 64 s.data.toList with
 | .ok v => if dec v = s then some v else none
 | _ => none
def nl : ByteArray := ⟨#[10]⟩
def sp : ByteArray := ⟨#[32]⟩
def splitS (s : ByteArray) : List ByteArray := Lib.splitB sp 0 (Lib.countB s sp) s
theorem cut_found {s sep : ByteArray} (h : (cutB s sep).2.2 = true) : (cutB s sep).1.size + sep.size ≤ s.size := by
 unfold cutB Lib.cut at h ⊢
 split at h
 ·rename_i h0
  rw [if_pos h0]
  have hi := Lib.indexB_cases s sep
  have e : Lib.indexB s sep = Lib.index s.data.toList sep.data.toList := rfl
  rw [e] at hi
  rcases hi with hi | ⟨i, hi, hl⟩
  ·omega
  ·rw [hi]
   show (List.toArray _).size + sep.size ≤ s.size
   have : s.data.toList.length = s.size := by rw [Array.length_toList]; rfl
   simp only [List.size_toArray, List.length_take, Int.toNat_natCast]
   omega
 ·cases h
theorem cut_size (s sep : ByteArray) : (cutB s sep).1.size ≤ s.size ∧ (cutB s sep).2.1.size ≤ s.size := by
 unfold cutB Lib.cut
 split
 ·refine ⟨?_, ?_⟩
  ·show (List.toArray _).size ≤ s.data.size
   simp; omega
  ·show (List.toArray _).size ≤ s.data.size
   simp
 ·refine ⟨?_, ?_⟩
  ·show (List.toArray _).size ≤ s.data.size
   simp
  ·show (List.toArray _).size ≤ s.data.size
   simp
theorem parse_range {l : List UInt8} {v : Int} (h : Lib.parseIntB 64 l = .ok v) : -9223372036854775808 ≤ v ∧ v ≤ 9223372036854775807 := by
 cases l with
 | nil => cases h
 | cons c r =>
  simp only [Lib.parseIntB] at h
  split at h
  ·cases h
  ·cases h
  ·rename_i u hu
   split at h
   ·cases h
   ·rename_i h1
    split at h
    ·cases h
    ·rename_i h2
     have p : (2 : Nat) ^ (64 - 1) = 9223372036854775808 := by decide
     rw [p] at h1 h2
     simp only [Lib.NumEnd.ok.injEq] at h
     split at h
     ·rename_i h3
      have : ¬ 9223372036854775808 < u := fun k => h2 ⟨h3, k⟩
      omega
     ·rename_i h3
      have : ¬ 9223372036854775808 ≤ u := fun k => h1 ⟨h3, k⟩
      omega
section
variable {w0 w : World} {its rest : List Thing}
theorem frTrans {w w' : World} (h : Hp [] w0 w its) (hb : RowKit.Below w.heap.size w w') : Hp [] w0 w' its := h.keep (frOfBelow hb)
theorem Cut_spec (h : Hp [] w0 w its) (hG : Glob w0) {s sep : ByteArray} (hs : s.size < 4294967281) {K : ByteArray → ByteArray → Bool → World → Prop} (hK : ∀ w', Hp [] w0 w' its → K (cutB s sep).1 (cutB s sep).2.1 (cutB s sep).2.2 w') : c60 s sep w K := by
 obtain ⟨m, hm⟩ := (hG.fr h.fr).m
 refine Calls.mono (Tryz.strings_Cut s sep m w hs hm) fun e w' ⟨he, n, hw⟩ => ?_
 subst he hw
 exact ⟨_, rfl, hK _ (frTrans h ⟨rfl, rfl, rfl, Nat.le_refl _, fun _ _ => rfl⟩)⟩
abbrev sv (x : ByteArray) : List Value := [.string x]
theorem Split_spec (h : Hp [] w0 w its) (hG : Glob w0) {s : ByteArray} (hs : s.size < 4294967281) {K : Sl → World → Prop} (hK : ∀ sl w', Hp [] w0 w' (its ++ [tSl sl 9 1 sv (splitS s)]) → K sl w') : c89 s ⟨#[32]⟩ w K := by
 obtain ⟨m, hm⟩ := (hG.fr h.fr).m
 refine Calls.mono (Tryz.strings_Split s ⟨#[32]⟩ m w hs hm (by decide)) fun e w' ⟨he, hw⟩ => ?_
 subst he hw
 refine ⟨_, rfl, ?_⟩
 have h := nw_now h ((splitS s).flatMap sv) 9
 have h := h.blkSl (i := its.length) (m := Lib.countB s sp + 1) (l := splitS s) (f := sv) (n := 1) List.getElem?_concat_length rfl (Lib.splitB_all sp (by decide) 0 _ s rfl) (fun x => rfl)
 rw [set_last] at h
 have e : (splitS s).flatMap sv = (splitS s).map Value.string := by rw [List.map_eq_flatMap]
 rw [e] at h
 exact hK _ _ h
theorem decimal_spec (h : Hp [] w0 w its) (hG : Glob w0) {s : ByteArray} (hs : s.size < 4294967281) {K : Int → Bool → World → Prop} (hok : ∀ v, decO s = some v → -9223372036854775808 ≤ v → v ≤ 9223372036854775807 → ∀ w', Hp [] w0 w' its → K v true w') (hno : decO s = none → ∀ x w', Hp [] w0 w' its → K x false w') : c90 s w K := by
 refine c90_of ?_
 unfold f90
 unfold decO at hok hno
 have hG' := hG.fr h.fr
 cases hp : Lib.parseIntB 64 s.data.toList
 case ok v =>
  rw [hp] at hok hno
  dsimp only at hok hno
  obtain ⟨v0, v1⟩ := parse_range hp
  refine Calls.mono (Tryz.strconv_ParseInt_10_at64_ok s (by omega) v hp w) fun e w' ⟨he, hw⟩ => ?_
  subst he
  have h : Hp [] w0 w' its := by
   rcases hw with rfl | ⟨t, rfl⟩
   ·exact h
   ·exact frTrans h (Lib.bytesWorld_below w 5 t)
  refine ⟨_, rfl, ?_⟩
  refine ⟨true, fun _ _ => by kernel_rfl, ?_⟩
  refine ifT rfl ?_
  refine Format_spec h hG.tab v0 v1 fun w2 h => ?_
  rw [str_beq]
  by_cases hd : dec v = s
  ·rw [if_pos hd] at hok
   rw [hd, decide_eq_true rfl]
   exact hok v rfl v0 v1 w2 h
  ·rw [if_neg hd] at hno
   rw [decide_eq_false fun k => hd (strL_inj k)]
   exact hno rfl v w2 h
 case range =>
  rw [hp] at hno
  obtain ⟨ev, h1, h2⟩ := hG'.e3
  refine Calls.mono (Tryz.strconv_ParseInt_10_at64_range s (by omega) hp ev w h1 h2) fun e w' ⟨N, he, _, _, hw⟩ => ?_
  subst he
  refine ⟨_, rfl, ?_⟩
  refine ⟨false, fun _ _ => by kernel_rfl, ?_⟩
  exact ifF (by decide) (hno rfl _ w' (frTrans h hw))
 rw [hp] at hno
 obtain ⟨ev, h1, h2⟩ := hG'.e2
 refine Calls.mono (Tryz.strconv_ParseInt_10_at64_syntax s (by omega) hp ev w h1 h2) fun e w' ⟨N, he, _, _, hw⟩ => ?_
 subst he
 refine ⟨_, rfl, ?_⟩
 refine ⟨false, fun _ _ => by kernel_rfl, ?_⟩
 exact ifF (by decide) (hno rfl _ w' (frTrans h hw))
end
def insR (t : ByteArray) : Option Ins :=
 if numOf (cutB t sp).1 = 0 ∨ (row (numOf (cutB t sp).1)).num ≠ (cutB t sp).2.2 then none
 else if (cutB t sp).2.2 = true then (decO (cutB t sp).2.1).map fun a => (numOf (cutB t sp).1, a) else some (numOf (cutB t sp).1, 0)
def headR (t : ByteArray) : Option (ByteArray × Int × Int) := match splitS t with
 | [a, b, c] => if listedM a = true then (match decO b, decO c with
  | some p, some q => if 0 ≤ p ∧ p ≤ 4 ∧ p ≤ q ∧ q ≤ 32 then some (a, p, q) else none
  | _, _ => none) else none
 | _ => none
theorem split_size (sep : ByteArray) : ∀ (k : Nat) (s x : ByteArray), x ∈ Lib.splitB sep 0 k s → x.size ≤ s.size
 | 0, s, x, h => by
  rw [Lib.splitB_zero] at h
  simp only [List.mem_singleton] at h
  rw [h]; exact Nat.le_refl _
 | k + 1, s, x, h => by
  unfold Lib.splitB at h
  split at h
  ·simp only [List.mem_singleton] at h
   rw [h]; exact Nat.le_refl _
  ·rcases List.mem_cons.1 h with rfl | h
   ·rw [ByteArray.size_extract]; omega
   ·have := split_size sep k _ x h
    rw [ByteArray.size_extract] at this
    omega
section
variable {w0 w : World} {its rest : List Thing}
theorem decimal_u (h : Hp [] w0 w its) (hG : Glob w0) {s : ByteArray} (hs : s.size < 4294967281) {K : Int → Bool → World → Prop} (hK : ∀ v ok w', (ok = true → decO s = some v ∧ -9223372036854775808 ≤ v ∧ v ≤ 9223372036854775807) → (ok = false → decO s = none) → Hp [] w0 w' its → K v ok w') : c90 s w K :=
 decimal_spec h hG hs (fun v hv v0 v1 w' h => hK v true w' (fun _ => ⟨hv, v0, v1⟩) (fun e => by cases e) h) (fun hv x w' h => hK x false w' (fun e => by cases e) (fun _ => hv) h)
theorem readIns_spec (h : Hp [] w0 w its) (hG : Glob w0) {t : ByteArray} (ht : t.size < 4294967281) {K : Int → Int → Bool → World → Prop} (hok : ∀ x, insR t = some x → -9223372036854775808 ≤ x.2 → x.2 ≤ 9223372036854775807 → ∀ w', Hp [] w0 w' its → K x.1 x.2 true w') (hno : insR t = none → ∀ op a w', Hp [] w0 w' its → K op a false w') : c62 t w K := by
 refine c62_of ?_
 unfold f62
 refine h.nw fun A w1 h => ?_
 have hLs : ∀ {A : List Thing} {b : Nat} {e : TypeId} {c : List Value}, ((A ++ [tBlk b e c])[A.length]?).map Thing.holds = some (tBlk b e c).holds := fun {A b e c} => by rw [List.getElem?_concat_length]; rfl
 refine Cut_spec h hG ht fun w1 h => ?_
 refine Number_spec h fun w1 h => ?_
 have hsz := (cut_size t sp).2
 unfold insR at hok hno
 have esp : (⟨#[32]⟩ : ByteArray) = sp := rfl
 rw [esp]
 generalize hc1 : cutB t sp = c at *
 obtain ⟨word, number, more⟩ := c
 dsimp only at hok hno hsz ⊢
 generalize numOf word = op at *
 refine ⟨fun b w' => b = decide (op = 0 ∨ (row op).num ≠ more) ∧ Hp [] w0 w' (its ++ [tBlk A 23 [.int .i64 0, .int .i64 0]]), ?_, ?_⟩
 ·by_cases h0 : op = 0
  ·exact ifT (by simp [h0]) ⟨by simp [h0], h⟩
  ·refine ifF (by simpa using h0) (shape_spec h fun w1 h => ⟨?_, h⟩)
   cases hn : (row op).num <;> cases more <;> simp [h0]
 clear h
 rintro b w1 ⟨rfl, h⟩
 by_cases hb : op = 0 ∨ (row op).num ≠ more
 ·rw [if_pos hb] at hno
  refine ifT (by simpa using hb) ?_
  refine h.st0 _ List.getElem?_concat_length (by simp) rfl fun w1 h => ?_
  rw [set_last] at h
  refine h.st (n := 1) _ List.getElem?_concat_length (by simp) rfl fun w1 h => ?_
  rw [set_last] at h
  refine h.ld0 (k := .i .i64) (x := 0) _ hLs rfl ?_
  refine h.ld (n := 1) (k := .i .i64) (x := 0) _ hLs rfl ?_
  exact hno rfl _ _ w1 h.front
 ·rw [if_neg hb] at hno hok
  refine ifF (by simpa using hb) ?_
  cases more with
  | false =>
   refine ifT rfl ?_
   refine h.st0 _ List.getElem?_concat_length (by simp) rfl fun w1 h => ?_
   rw [set_last] at h
   refine h.st (n := 1) _ List.getElem?_concat_length (by simp) rfl fun w1 h => ?_
   rw [set_last] at h
   refine h.ld0 (k := .i .i64) (x := op) _ hLs rfl ?_
   refine h.ld (n := 1) (k := .i .i64) (x := 0) _ hLs rfl ?_
   exact hok (op, 0) rfl (by show (-9223372036854775808 : Int) ≤ 0; decide) (by show (0 : Int) ≤ 9223372036854775807; decide) w1 h.front
  | true =>
   refine ifF (by decide) ?_
   have fin : ∀ a ok w', Hp [] w0 w' (its ++ [tBlk A 23 [.int .i64 0, .int .i64 0]]) → (∀ w', Hp [] w0 w' its → K op a ok w') → St ⟨A, 0, none⟩ (.int .i64 op) w' fun w => St ((⟨A, 0, none⟩ : Addr).add 1) (.int .i64 a) w fun w => Ld (.i .i64) w ⟨A, 0, none⟩ fun r1 => Ld (.i .i64) w ((⟨A, 0, none⟩ : Addr).add 1) fun r2 => K r1 r2 ok w := by
    intro a ok w' h hk
    refine h.st0 _ List.getElem?_concat_length (by simp) rfl fun w1 h => ?_
    rw [set_last] at h
    refine h.st (n := 1) _ List.getElem?_concat_length (by simp) rfl fun w1 h => ?_
    rw [set_last] at h
    refine h.ld0 (k := .i .i64) (x := op) _ hLs rfl ?_
    refine h.ld (n := 1) (k := .i .i64) (x := a) _ hLs rfl ?_
    exact hk w1 h.front
   refine decimal_spec h hG (by omega) (fun v hv v0 v1 w2 h => fin v true w2 h (hok (op, v) ?_ v0 v1)) (fun hv x w2 h => fin x false w2 h (hno ?_ op x))
   ·rw [if_pos rfl, hv]; rfl
   ·rw [if_pos rfl, hv]; rfl
theorem header_spec (h : Hp [] w0 w its) (hG : Glob w0) {t : ByteArray} (ht : t.size < 4294967281) {K : ByteArray → Int → Int → Sl → Bool → World → Prop} (hok : ∀ nm pa lo, headR t = some (nm, pa, lo) → ∀ w', Hp [] w0 w' its → K nm pa lo ⟨none, 0, 0⟩ true w') (hno : headR t = none → ∀ w', Hp [] w0 w' its → K ⟨#[]⟩ 0 0 ⟨none, 0, 0⟩ false w') : c61 t w K := by
 refine c61_of ?_
 unfold f61
 refine h.nw fun A w1 h => ?_
 refine Split_spec h hG ht fun sl w1 h => ?_
 have hlen := h.len (s := sl) (e := 9) (n := 1) (f := sv) (l := splitS t) (its ++ [tBlk A 30 [.string (⟨#[]⟩ : ByteArray), .int .i64 0, .int .i64 0, .slice none 0 0]]).length (by rw [List.getElem?_concat_length]; rfl)
 have hel : ∀ {w' : World} {i : Nat} {x : ByteArray} {K : ByteArray → Prop}, Hp [] w0 w' (its ++ [tBlk A 30 [.string (⟨#[]⟩ : ByteArray), .int .i64 0, .int .i64 0, .slice none 0 0]] ++ [tSl sl 9 1 sv (splitS t)]) → (splitS t)[i]? = some x → K x → Ix sl.a sl.len (i : Int) 1 fun a => Ld .s w' a fun x => K x := by
  intro w' i x K h hx hK
  refine h.ixr (its ++ [tBlk A 30 [.string (⟨#[]⟩ : ByteArray), .int .i64 0, .int .i64 0, .slice none 0 0]]).length (s := sl) (l := splitS t) (f := sv) (n := 1) (e := 9) (by rw [List.getElem?_concat_length]; rfl) (by omega) (y := x) (by rw [Int.toNat_natCast]; exact hx) (fun _ => rfl) fun ad hc => ?_
  exact ldR0 (k := .s) (x := x) (hc 0 (by omega)) rfl hK
 have fail : ∀ w', Hp [] w0 w' (its ++ [tBlk A 30 [.string (⟨#[]⟩ : ByteArray), .int .i64 0, .int .i64 0, .slice none 0 0]] ++ [tSl sl 9 1 sv (splitS t)]) → headR t = none → (St ⟨A, 0, none⟩ (.string (⟨#[]⟩ : ByteArray)) w' fun (w : World) => St ((⟨A, 0, none⟩ : Addr).add 1) (.int .i64 0) w fun (w : World) => St ((⟨A, 0, none⟩ : Addr).add 2) (.int .i64 0) w fun (w : World) => St ((⟨A, 0, none⟩ : Addr).add 3) (.slice none 0 0) w fun (w : World) =>
   Ld .s w ⟨A, 0, none⟩ fun r_Name => Ld (.i .i64) w ((⟨A, 0, none⟩ : Addr).add 1) fun r_Params => Ld (.i .i64) w ((⟨A, 0, none⟩ : Addr).add 2) fun r_Locals => Ld .sl w ((⟨A, 0, none⟩ : Addr).add 3) fun r_Code => K r_Name r_Params r_Locals r_Code false w) := by
  intro w' h hn
  refine h.st0 its.length mid1 (by simp) rfl fun w1 h => ?_
  rw [List.set_append_left _ _ (by simp), set_last] at h
  refine h.st (n := 1) its.length mid1 (by simp) rfl fun w1 h => ?_
  rw [List.set_append_left _ _ (by simp), set_last] at h
  refine h.st (n := 2) its.length mid1 (by simp) rfl fun w1 h => ?_
  rw [List.set_append_left _ _ (by simp), set_last] at h
  refine h.st (n := 3) its.length mid1 (by simp) rfl fun w1 h => ?_
  rw [List.set_append_left _ _ (by simp), set_last] at h
  refine h.ld0 (k := .s) (x := (⟨#[]⟩ : ByteArray)) its.length (by rw [mid1]; rfl) rfl ?_
  refine h.ld (n := 1) (k := .i .i64) (x := 0) its.length (by rw [mid1]; rfl) rfl ?_
  refine h.ld (n := 2) (k := .i .i64) (x := 0) its.length (by rw [mid1]; rfl) rfl ?_
  refine h.ld (n := 3) (k := .sl) (x := ⟨none, 0, 0⟩) its.length (by rw [mid1]; rfl) rfl ?_
  exact hno hn w1 h.front.front
 have hps : ∀ x ∈ splitS t, x.size ≤ t.size := fun x hx => split_size sp _ t x hx
 refine ⟨fun b w' => Hp [] w0 w' (its ++ [tBlk A 30 [.string (⟨#[]⟩ : ByteArray), .int .i64 0, .int .i64 0, .slice none 0 0]] ++ [tSl sl 9 1 sv (splitS t)]) ∧ (b = true → headR t = none) ∧ (b = false → ∃ x y z, splitS t = [x, y, z] ∧ listedM x = true), ?_, ?_⟩
 ·by_cases h3 : sl.len = 3
  ·obtain ⟨x, y, z, hsp⟩ : ∃ x y z, splitS t = [x, y, z] := by
    have hl3 : (splitS t).length = 3 := by omega
    generalize splitS t = ls at hl3
    match ls, hl3 with
    | [x, y, z], _ => exact ⟨x, y, z, rfl⟩
   refine ifF (by simp [h3]) ?_
   refine hel (i := 0) (x := x) h (by rw [hsp]; rfl) ?_
   refine listed_spec (by have := hps x (by rw [hsp]; simp); omega) ⟨h, fun hb => ?_, fun hb => ⟨x, y, z, hsp, by simpa using hb⟩⟩
   unfold headR
   rw [hsp]
   dsimp only
   rw [if_neg (by simpa using hb)]
  ·refine ifT (by simp; omega) ⟨h, fun _ => ?_, fun hb => by cases hb⟩
   unfold headR
   split
   ·rename_i hsp
    rw [hsp] at hlen
    simp at hlen
    omega
   ·rfl
 clear h
 rintro b w1 ⟨h, hb1, hb2⟩
 cases b with
 | true => exact ifT rfl (fail w1 h (hb1 rfl))
 | false =>
  refine ifF (by decide) ?_
  obtain ⟨x, y, z, hsp, hlx⟩ := hb2 rfl
  have sy := hps y (by rw [hsp]; simp)
  have sz := hps z (by rw [hsp]; simp)
  have hh : headR t = (match decO y, decO z with
   | some p, some q => if 0 ≤ p ∧ p ≤ 4 ∧ p ≤ q ∧ q ≤ 32 then some (x, p, q) else none
   | _, _ => none) := by
   unfold headR
   rw [hsp]
   dsimp only
   rw [if_pos hlx]
  refine hel (i := 1) (x := y) h (by rw [hsp]; rfl) ?_
  refine decimal_u h hG (by omega) fun p one w2 g1 g2 h => ?_
  refine hel (i := 2) (x := z) h (by rw [hsp]; rfl) ?_
  refine decimal_u h hG (by omega) fun q tw w3 k1 k2 h => ?_
  by_cases hg : one = true ∧ tw = true ∧ 0 ≤ p ∧ p ≤ 4 ∧ p ≤ q ∧ q ≤ 32
  ·obtain ⟨rfl, rfl, hr⟩ := hg
   refine ifF (by simp; omega) ?_
   refine hel (i := 0) (x := x) h (by rw [hsp]; rfl) ?_
   refine h.st0 its.length mid1 (by simp) rfl fun w1 h => ?_
   rw [List.set_append_left _ _ (by simp), set_last] at h
   refine h.st (n := 1) its.length mid1 (by simp) rfl fun w1 h => ?_
   rw [List.set_append_left _ _ (by simp), set_last] at h
   refine h.st (n := 2) its.length mid1 (by simp) rfl fun w1 h => ?_
   rw [List.set_append_left _ _ (by simp), set_last] at h
   refine h.st (n := 3) its.length mid1 (by simp) rfl fun w1 h => ?_
   rw [List.set_append_left _ _ (by simp), set_last] at h
   refine h.ld0 (k := .s) (x := x) its.length (by rw [mid1]; rfl) rfl ?_
   refine h.ld (n := 1) (k := .i .i64) (x := p) its.length (by rw [mid1]; rfl) rfl ?_
   refine h.ld (n := 2) (k := .i .i64) (x := q) its.length (by rw [mid1]; rfl) rfl ?_
   refine h.ld (n := 3) (k := .sl) (x := ⟨none, 0, 0⟩) its.length (by rw [mid1]; rfl) rfl ?_
   refine hok x p q ?_ w1 h.front.front
   rw [hh, (g1 rfl).1, (k1 rfl).1]
   dsimp only
   rw [if_pos hr]
  ·refine ifT ?_ (fail w3 h ?_)
   ·cases one with
    | false => rfl
    | true =>
     cases tw with
     | false => rfl
     | true =>
      have : ¬ (0 ≤ p ∧ p ≤ 4 ∧ p ≤ q ∧ q ≤ 32) := fun k => hg ⟨rfl, rfl, k⟩
      simp; omega
   ·rw [hh]
    cases one with
    | false => rw [g2 rfl]
    | true =>
     rw [(g1 rfl).1]
     cases tw with
     | false => rw [k2 rfl]
     | true =>
      rw [(k1 rfl).1]
      dsimp only
      rw [if_neg fun k => hg ⟨rfl, rfl, k⟩]
end
def rt0 : RT := ⟨⟨#[]⟩, 0, 0, []⟩
def rAdd (r : RT) (i : Ins) : RT := ⟨r.nm, r.pa, r.lo, r.code ++ [i]⟩
def readG (s : ByteArray) : Nat → Nat → Option RT → Except Nat RT
 | 0, a, _ => .error a
 | f + 1, a, st =>
  if st.isSome = true ∧ ¬ a < s.size then .ok (st.getD rt0)
  else if (cutB (s.extract a s.size) nl).2.2 = false then .error a
  else match st with
   | none => (match headR (cutB (s.extract a s.size) nl).1 with
    | none => .error a
    | some h => readG s f (a + (cutB (s.extract a s.size) nl).1.size + 1) (some ⟨h.1, h.2.1, h.2.2, []⟩))
   | some r => if r.code.length < 2000 then (match insR (cutB (s.extract a s.size) nl).1 with
    | none => .error a
    | some i => readG s f (a + (cutB (s.extract a s.size) nl).1.size + 1) (some (rAdd r i))) else .error a
def readM (s : ByteArray) : Except Nat RT := readG s (s.size + 2) 0 none
abbrev tR (b : Nat) (r : RT) (sl : Sl) : Thing := tBlk b 30 [.string r.nm, .int .i64 r.pa, .int .i64 r.lo, .slice sl.a sl.len sl.cap]
abbrev tA0 (b : Nat) : Thing := tBlk b 30 [.string (⟨#[]⟩ : ByteArray), .int .i64 0, .int .i64 0, .slice none 0 0]
section
variable {w0 w : World} {its rest : List Thing}
theorem set_mid {α : Type} {l B : List α} {a x : α} : (l ++ [a] ++ B).set l.length x = l ++ [x] ++ B := by
 rw [List.set_append_left _ _ (by simp), set_last]
theorem Read_spec (h : Hp [] w0 w its) (hG : Glob w0) {s : ByteArray} (hs : s.size < 4294967281) {K : ByteArray → Int → Int → Sl → Value → World → Prop}
  (hok : ∀ r, readM s = .ok r → ∀ sl w', Hp [] w0 w' (its ++ [tSl sl 23 2 insv r.code]) → K r.nm r.pa r.lo sl .nilIface w')
  (herr : ∀ e, readM s = .error e → ∀ fb w', Hp [] w0 w' (its ++ [tFault fb e]) → K ⟨#[]⟩ 0 0 ⟨none, 0, 0⟩ (.iface 86 (.pointer (some ⟨fb, 0, none⟩))) w') : c27 s w K := by
 refine c27_of ?_
 unfold f27
 obtain ⟨inf, i1, i2, i3, i4⟩ := inf23
 refine h.nw fun A w1 h => ?_
 refine h.nw fun R w1 h => ?_
 have h := h.nil 23 2 insv
 have h : Hp [] w0 w1 (its ++ [tA0 A] ++ [tR R rt0 ⟨none, 0, 0⟩] ++ [tSl ⟨none, 0, 0⟩ 23 2 insv rt0.code]) := h
 refine ⟨fun at_ first m w' => ∃ (a f : Nat) (st : Option RT) (sl : Sl), at_ = a ∧ a ≤ s.size ∧ first = st.isNone ∧ m = s.size - a ∧ s.size - a + 2 ≤ f ∧ readM s = readG s f a st ∧ Hp [] w0 w' (its ++ [tA0 A] ++ [tR R (st.getD rt0) sl] ++ [tSl sl 23 2 insv (st.getD rt0).code]),
  ⟨_, 0, s.size + 2, none, _, rfl, by omega, rfl, rfl, by omega, rfl, h⟩, ?_⟩
 clear h
 rintro at_ first m w1 ⟨a, f, st, sl, rfl, ha, rfl, rfl, hf, hM, h⟩
 obtain ⟨f, rfl⟩ : ∃ g, f = g + 1 := ⟨f - 1, by omega⟩
 unfold readG at hM
 have hA : ∀ {B : List Thing}, ((its ++ [tA0 A] ++ B)[its.length]?).map Thing.holds = some (tA0 A).holds := fun {B} => by rw [mid1]; rfl
 by_cases hend : st.isSome = true ∧ ¬ a < s.size
 ·rw [if_pos hend] at hM
  obtain ⟨r, rfl⟩ := Option.isSome_iff_exists.1 hend.1
  have h : Hp [] w0 w1 (its ++ [tA0 A] ++ [tR R r sl] ++ [tSl sl 23 2 insv r.code]) := h
  refine ifF (by simp; omega) ?_
  have hR : ((its ++ [tA0 A] ++ [tR R r sl] ++ [tSl sl 23 2 insv r.code])[its.length + 1]?).map Thing.holds = some (tR R r sl).holds := by rw [mid2]; rfl
  refine h.ld0 (k := .s) (x := r.nm) _ hR rfl ?_
  refine h.ld (n := 1) (k := .i .i64) (x := r.pa) _ hR rfl ?_
  refine h.ld (n := 2) (k := .i .i64) (x := r.lo) _ hR rfl ?_
  refine h.ld (n := 3) (k := .sl) (x := sl) _ hR rfl ?_
  have h : Hp [] w0 w1 (its ++ [tA0 A] ++ ([tR R r sl] ++ [tSl sl 23 2 insv r.code])) := by simpa using h
  refine h.st0 its.length mid1 (by simp) rfl fun w1 h => ?_
  rw [set_mid] at h
  refine h.st (n := 1) its.length mid1 (by simp) rfl fun w1 h => ?_
  rw [set_mid] at h
  refine h.st (n := 2) its.length mid1 (by simp) rfl fun w1 h => ?_
  rw [set_mid] at h
  refine h.st (n := 3) its.length mid1 (by simp) rfl fun w1 h => ?_
  rw [set_mid] at h
  refine h.ld0 (k := .s) (x := r.nm) its.length (by rw [mid1]; rfl) rfl ?_
  refine h.ld (n := 1) (k := .i .i64) (x := r.pa) its.length (by rw [mid1]; rfl) rfl ?_
  refine h.ld (n := 2) (k := .i .i64) (x := r.lo) its.length (by rw [mid1]; rfl) rfl ?_
  refine h.ld (n := 3) (k := .sl) (x := sl) its.length (by rw [mid1]; rfl) rfl ?_
  refine hok r hM sl w1 ?_
  refine Hp.dropMid (mid := [tBlk A 30 [.string r.nm, .int .i64 r.pa, .int .i64 r.lo, .slice sl.a sl.len sl.cap]] ++ [tR R r sl]) ?_
  simpa using h
 ·rw [if_neg hend] at hM
  refine ifT ?_ ?_
  ·cases st with
   | none => rfl
   | some r =>
    have : a < s.size := by
     rcases Nat.lt_or_ge a s.size with g | g
     ·exact g
     ·exact absurd ⟨rfl, by omega⟩ hend
    simp [this]
  refine ⟨by omega, by omega, by omega, ?_⟩
  rw [Int.toNat_natCast, Int.toNat_natCast]
  have hes : (s.extract a s.size).size = s.size - a := by rw [ByteArray.size_extract]; omega
  refine Cut_spec h hG (by omega) fun w1 h => ?_
  have esp : (⟨#[10]⟩ : ByteArray) = nl := rfl
  rw [esp]
  have hcf := cut_found (s := s.extract a s.size) (sep := nl)
  have hcs := (cut_size (s.extract a s.size) nl).1
  have hn1 : nl.size = 1 := rfl
  generalize hc : cutB (s.extract a s.size) nl = c at *
  obtain ⟨text, x_, whole⟩ := c
  dsimp only at hM hcf hcs ⊢
  have hlen := h.len (s := sl) (e := 23) (n := 2) (f := insv) (l := (st.getD rt0).code) (its.length + 2) (by rw [last3]; rfl)
  -- it is wrong here
  have wrongX : ∀ (B : List Thing) (w2 : World), Hp [] w0 w2 (its ++ [tA0 A] ++ B) → readM s = .error a → Nw (.cells #[.int .i64 (a : Int), .int .i64 130] 89) w2 fun (a2 : Addr) (w : World) =>
    St ⟨A, 0, none⟩ (.string (⟨#[]⟩ : ByteArray)) w fun (w : World) => St ((⟨A, 0, none⟩ : Addr).add 1) (.int .i64 0) w fun (w : World) => St ((⟨A, 0, none⟩ : Addr).add 2) (.int .i64 0) w fun (w : World) => St ((⟨A, 0, none⟩ : Addr).add 3) (.slice none 0 0) w fun (w : World) =>
    Ld .s w ⟨A, 0, none⟩ fun r1 => Ld (.i .i64) w ((⟨A, 0, none⟩ : Addr).add 1) fun r2 => Ld (.i .i64) w ((⟨A, 0, none⟩ : Addr).add 2) fun r3 => Ld .sl w ((⟨A, 0, none⟩ : Addr).add 3) fun r4 => K r1 r2 r3 r4 (.iface 86 (.pointer (some a2))) w := by
   intro B w2 h he
   refine h.nw fun fb w3 h => ?_
   have h : Hp [] w0 w3 (its ++ [tA0 A] ++ (B ++ [tFault fb a])) := by simpa using h
   refine h.st0 its.length mid1 (by simp) rfl fun w1 h => ?_
   rw [set_mid] at h
   refine h.st (n := 1) its.length mid1 (by simp) rfl fun w1 h => ?_
   rw [set_mid] at h
   refine h.st (n := 2) its.length mid1 (by simp) rfl fun w1 h => ?_
   rw [set_mid] at h
   refine h.st (n := 3) its.length mid1 (by simp) rfl fun w1 h => ?_
   rw [set_mid] at h
   refine h.ld0 (k := .s) (x := (⟨#[]⟩ : ByteArray)) its.length (by rw [mid1]; rfl) rfl ?_
   refine h.ld (n := 1) (k := .i .i64) (x := 0) its.length (by rw [mid1]; rfl) rfl ?_
   refine h.ld (n := 2) (k := .i .i64) (x := 0) its.length (by rw [mid1]; rfl) rfl ?_
   refine h.ld (n := 3) (k := .sl) (x := ⟨none, 0, 0⟩) its.length (by rw [mid1]; rfl) rfl ?_
   refine herr a he fb w1 ?_
   refine Hp.dropMid (mid := [tA0 A] ++ B) ?_
   simpa using h
  refine ⟨fun b w' => b = (whole && (st.isNone || decide ((st.getD rt0).code.length < 2000))) ∧ Hp [] w0 w' (its ++ [tA0 A] ++ [tR R (st.getD rt0) sl] ++ [tSl sl 23 2 insv (st.getD rt0).code]), ?_, ?_⟩
  ·cases whole with
   | false => exact ifF (by decide) ⟨rfl, h⟩
   | true =>
    refine ifT rfl ?_
    cases st with
    | none => exact ifT rfl ⟨rfl, h⟩
    | some r =>
     refine ifF (by simp) ?_
     refine h.ld (n := 3) (k := .sl) (x := sl) (its.length + 1) (by rw [mid2]; rfl) rfl ⟨?_, h⟩
     have : r.code.length = sl.len := hlen
     simp; omega
  clear h
  rintro g w1 ⟨rfl, h⟩
  refine ⟨fun g w' => (g = false ∧ readM s = .error a ∧ ∃ B, Hp [] w0 w' (its ++ [tA0 A] ++ B)) ∨ (g = true ∧ whole = true ∧ ∃ r' sl', readM s = readG s f (a + text.size + 1) (some r') ∧ Hp [] w0 w' (its ++ [tA0 A] ++ [tR R r' sl'] ++ [tSl sl' 23 2 insv r'.code])), ?_, ?_⟩
  ·by_cases hg : (whole && (st.isNone || decide ((st.getD rt0).code.length < 2000))) = true
   ·refine ifF (by simp [hg]) ?_
    rw [Bool.and_eq_true] at hg
    obtain ⟨rfl, hg⟩ := hg
    rw [if_neg (by decide)] at hM
    cases st with
    | none =>
     refine ifT rfl ?_
     dsimp only at hM
     have stores : ∀ (nm : ByteArray) (pa lo : Int) (sl2 : Sl) (w2 : World), Hp [] w0 w2 (its ++ [tA0 A] ++ [tR R rt0 sl] ++ [tSl sl 23 2 insv rt0.code]) → ∀ {G : World → Prop}, (∀ w3, Hp [] w0 w3 (its ++ [tA0 A] ++ [tBlk R 30 [.string nm, .int .i64 pa, .int .i64 lo, .slice sl2.a sl2.len sl2.cap]] ++ [tSl sl 23 2 insv rt0.code]) → G w3) → St ⟨R, 0, none⟩ (.string nm) w2 fun w => St ((⟨R, 0, none⟩ : Addr).add 1) (.int .i64 pa) w fun w => St ((⟨R, 0, none⟩ : Addr).add 2) (.int .i64 lo) w fun w => St ((⟨R, 0, none⟩ : Addr).add 3) (.slice sl2.a sl2.len sl2.cap) w G := by
      intro nm pa lo sl2 w2 h G hG
      refine h.st0 (its ++ [tA0 A]).length mid1 (by simp) rfl fun w1 h => ?_
      rw [set_mid] at h
      refine h.st (n := 1) (its ++ [tA0 A]).length mid1 (by simp) rfl fun w1 h => ?_
      rw [set_mid] at h
      refine h.st (n := 2) (its ++ [tA0 A]).length mid1 (by simp) rfl fun w1 h => ?_
      rw [set_mid] at h
      refine h.st (n := 3) (its ++ [tA0 A]).length mid1 (by simp) rfl fun w1 h => ?_
      rw [set_mid] at h
      exact hG w1 h
     refine header_spec h hG (by omega) (fun nm pa lo hh w2 h => stores _ _ _ _ w2 h fun w3 h => .inr ⟨rfl, rfl, ⟨nm, pa, lo, []⟩, ⟨none, 0, 0⟩, ?_, ?_⟩) (fun hh w2 h => stores _ _ _ _ w2 h fun w3 h => .inl ⟨rfl, ?_, _, by rw [List.append_assoc (its ++ [tA0 A])] at h; exact h⟩)
     ·rw [hM, hh]
     ·have h := h.front.nil 23 2 insv
      exact h
     ·rw [hM, hh]
    | some r =>
     refine ifF (by simp) ?_
     dsimp only at hM
     have hl2 : r.code.length < 2000 := by simpa using hg
     rw [if_pos hl2] at hM
     have hsl : r.code.length = sl.len := hlen
     have h : Hp [] w0 w1 (its ++ [tA0 A] ++ [tR R r sl] ++ [tSl sl 23 2 insv r.code]) := h
     refine h.nw fun I w2 h => ?_
     have fin : ∀ (op x : Int) (w2 : World), Hp [] w0 w2 (its ++ [tA0 A] ++ [tR R r sl] ++ [tSl sl 23 2 insv r.code] ++ [tBlk I 23 [.int .i64 0, .int .i64 0]]) → ∀ {G : World → Prop}, (∀ sl' w3, Hp [] w0 w3 (its ++ [tA0 A] ++ [tR R (rAdd r (op, x)) sl'] ++ [tSl sl' 23 2 insv (rAdd r (op, x)).code]) → G w3) →
       St ⟨I, 0, none⟩ (.int .i64 op) w2 fun w => St ((⟨I, 0, none⟩ : Addr).add 1) (.int .i64 x) w fun w => Ld .sl w ((⟨R, 0, none⟩ : Addr).add 3) fun Code2 => Ld (.i .i64) w ⟨I, 0, none⟩ fun r1 => Ld (.i .i64) w ((⟨I, 0, none⟩ : Addr).add 1) fun r2 =>
        Nw (.cells #[.int .i64 r1, .int .i64 r2] 23) w fun b w => Run .sl Tryz.prog (Builtin.append_ #[28, 28] 28 #[.slice Code2.a Code2.len Code2.cap, .slice (some b) 1 1]) w fun s3 w => St ((⟨R, 0, none⟩ : Addr).add 3) (.slice s3.a s3.len s3.cap) w fun w => G w := by
      intro op x w2 h G hG
      refine h.st0 _ List.getElem?_concat_length (by simp) rfl fun w3 h => ?_
      rw [set_last] at h
      refine h.st (n := 1) _ List.getElem?_concat_length (by simp) rfl fun w3 h => ?_
      rw [set_last] at h
      refine h.ld (n := 3) (k := .sl) (x := sl) (its ++ [tA0 A]).length (by rw [List.append_assoc (its ++ [tA0 A] ++ [tR R r sl]), mid1]; rfl) rfl ?_
      refine h.ld0 (k := .i .i64) (x := op) _ (by rw [List.getElem?_concat_length]; rfl) rfl ?_
      refine h.ld (n := 1) (k := .i .i64) (x := x) _ (by rw [List.getElem?_concat_length]; rfl) rfl ?_
      have h := h.front
      refine h.nwapp (c := insv (op, x)) _ (op, x) List.getElem?_concat_length insv_len und28 i1 i3 i2 rfl rfl (by simp [Value.oneCell']) (by rw [i4]; omega) (by omega) fun s2 w6 h _ _ => ?_
      rw [set_last] at h
      refine h.st (n := 3) (its ++ [tA0 A]).length mid1 (by simp) rfl fun w7 h => ?_
      rw [set_mid] at h
      exact hG s2 w7 h
     refine readIns_spec h hG (by omega) (fun x hx x0 x1 w2 h => fin x.1 x.2 w2 h fun sl' w3 h => .inr ⟨rfl, rfl, rAdd r x, sl', ?_, h⟩) (fun hx op x w2 h => fin op x w2 h fun sl' w3 h => .inl ⟨rfl, ?_, _, by rw [List.append_assoc (its ++ [tA0 A])] at h; exact h⟩)
     ·rw [hM, hx]
     ·rw [hM, hx]
   ·have hg' := Bool.eq_false_iff.2 hg
    refine ifT (by rw [hg']; rfl) (.inl ⟨hg', ?_, _, by rw [List.append_assoc (its ++ [tA0 A])] at h; exact h⟩)
    rw [hM]
    cases whole with
    | false => rfl
    | true =>
     rw [if_neg (by decide)]
     cases st with
     | none => exact absurd rfl hg
     | some r =>
      dsimp only
      rw [if_neg (by simpa using hg)]
  clear h
  rintro g w1 (⟨rfl, he, B, h⟩ | ⟨rfl, rfl, r', sl', he, h⟩)
  ·exact ifT rfl (wrongX B w1 h he)
  ·refine ifF (by decide) ?_
   have := hcf rfl
   refine ⟨s.size - (a + text.size + 1), by omega, a + text.size + 1, f, some r', sl', ?_, by omega, rfl, rfl, by omega, he, h⟩
   rw [wr64 (n := (text.size : Int) + 1) (by omega) (by omega), wr64 (by omega) (by omega)]; omega
end
theorem dec_1 : dec 1 = ⟨#[49]⟩ := by simp [dec, Lib.itoa, Lib.decDigits_one]
theorem dec_2 : dec 2 = ⟨#[50]⟩ := by simp [dec, Lib.itoa, Lib.decDigits_one]
theorem dec_0 : dec 0 = ⟨#[48]⟩ := by simp [dec, Lib.itoa, Lib.decDigits_one]
theorem dec_7 : dec 7 = ⟨#[55]⟩ := by simp [dec, Lib.itoa, Lib.decDigits_one]
theorem dec_m3 : dec (-3) = ⟨#[45, 51]⟩ := by simp [dec, Lib.itoa, Lib.decDigits_one]
theorem decO_of {s : ByteArray} {v : Int} (h : Lib.parseIntB 64 s.data.toList = .ok v) (hd : dec v = s) : decO s = some v := by
 unfold decO; rw [h]; dsimp only; rw [if_pos hd]
theorem decO_no {s : ByteArray} {v : Int} (h : Lib.parseIntB 64 s.data.toList = .ok v) (hd : dec v ≠ s) : decO s = none := by
 unfold decO; rw [h]; dsimp only; rw [if_neg hd]
theorem list_shown : listS ⟨⟨#[102]⟩, 1, 2, [(2, 0), (1, -3), (6, 0), (22, 0)]⟩ = ⟨#[102, 32, 49, 32, 50, 10, 108, 111, 97, 100, 32, 48, 10, 112, 117, 115, 104, 32, 45, 51, 10, 97, 100, 100, 10, 114, 101, 116, 10]⟩ := by
 have e : listL ⟨⟨#[102]⟩, 1, 2, [(2, 0), (1, -3), (6, 0), (22, 0)]⟩ = [102, 32, 49, 32, 50, 10, 108, 111, 97, 100, 32, 48, 10, 112, 117, 115, 104, 32, 45, 51, 10, 97, 100, 100, 10, 114, 101, 116, 10] := by
  unfold listL headL
  simp only [List.flatMap_cons, List.flatMap_nil, lineL, decL, dec_1, dec_2]
  rw [if_pos (by rfl), if_pos (by rfl), if_neg (by decide), if_neg (by decide), dec_0, dec_m3]
  rfl
 unfold listS
 rw [e]
 rfl
theorem head_shown : headR ⟨#[102, 32, 49, 32, 50]⟩ = some (⟨#[102]⟩, 1, 2) := by
 unfold headR
 rw [show splitS ⟨#[102, 32, 49, 32, 50]⟩ = [⟨#[102]⟩, ⟨#[49]⟩, ⟨#[50]⟩] from rfl]
 dsimp only
 rw [if_pos (by rfl), decO_of (s := ⟨#[49]⟩) (v := 1) rfl dec_1, decO_of (s := ⟨#[50]⟩) (v := 2) rfl dec_2]
 rfl
theorem ins_yes : insR ⟨#[112, 117, 115, 104, 32, 55]⟩ = some (1, 7) := by
 unfold insR
 rw [show cutB ⟨#[112, 117, 115, 104, 32, 55]⟩ sp = (⟨#[112, 117, 115, 104]⟩, ⟨#[55]⟩, true) from rfl]
 dsimp only
 rw [show numOf ⟨#[112, 117, 115, 104]⟩ = 1 from rfl, if_neg (by decide), if_pos rfl, decO_of (s := ⟨#[55]⟩) (v := 7) rfl dec_7]
 rfl
theorem ins_no : insR ⟨#[108, 111, 97, 100, 32, 48, 48]⟩ = none := by
 unfold insR
 rw [show cutB ⟨#[108, 111, 97, 100, 32, 48, 48]⟩ sp = (⟨#[108, 111, 97, 100]⟩, ⟨#[48, 48]⟩, true) from rfl]
 dsimp only
 rw [show numOf ⟨#[108, 111, 97, 100]⟩ = 2 from rfl, if_neg (by decide), if_pos rfl, decO_no (s := ⟨#[48, 48]⟩) (v := 0) rfl (by rw [dec_0]; decide)]
 rfl
theorem read_yes : readM ⟨#[102, 32, 49, 32, 50, 10, 112, 117, 115, 104, 32, 55, 10]⟩ = .ok ⟨⟨#[102]⟩, 1, 2, [(1, 7)]⟩ := by
 show readG _ (14 + 1) 0 none = _
 unfold readG
 rw [if_neg (by decide)]
 rw [show cutB ((⟨#[102, 32, 49, 32, 50, 10, 112, 117, 115, 104, 32, 55, 10]⟩ : ByteArray).extract 0 (⟨#[102, 32, 49, 32, 50, 10, 112, 117, 115, 104, 32, 55, 10]⟩ : ByteArray).size) nl = (⟨#[102, 32, 49, 32, 50]⟩, ⟨#[112, 117, 115, 104, 32, 55, 10]⟩, true) from rfl]
 dsimp only
 rw [if_neg (by decide), head_shown]
 show readG _ (13 + 1) 6 (some ⟨⟨#[102]⟩, 1, 2, []⟩) = _
 unfold readG
 rw [if_neg (by decide)]
 rw [show cutB ((⟨#[102, 32, 49, 32, 50, 10, 112, 117, 115, 104, 32, 55, 10]⟩ : ByteArray).extract 6 (⟨#[102, 32, 49, 32, 50, 10, 112, 117, 115, 104, 32, 55, 10]⟩ : ByteArray).size) nl = (⟨#[112, 117, 115, 104, 32, 55]⟩, ⟨#[]⟩, true) from rfl]
 dsimp only
 rw [if_neg (by decide), if_pos (by decide), ins_yes]
 show readG _ (12 + 1) 13 (some ⟨⟨#[102]⟩, 1, 2, [(1, 7)]⟩) = _
 unfold readG
 rw [if_pos (by decide)]
 rfl
theorem read_no : readM ⟨#[102, 32, 49, 32, 50, 10, 108, 111, 97, 100, 32, 48, 48, 10]⟩ = .error 6 := by
 show readG _ (15 + 1) 0 none = _
 unfold readG
 rw [if_neg (by decide)]
 rw [show cutB ((⟨#[102, 32, 49, 32, 50, 10, 108, 111, 97, 100, 32, 48, 48, 10]⟩ : ByteArray).extract 0 (⟨#[102, 32, 49, 32, 50, 10, 108, 111, 97, 100, 32, 48, 48, 10]⟩ : ByteArray).size) nl = (⟨#[102, 32, 49, 32, 50]⟩, ⟨#[108, 111, 97, 100, 32, 48, 48, 10]⟩, true) from rfl]
 dsimp only
 rw [if_neg (by decide), head_shown]
 show readG _ (14 + 1) 6 (some ⟨⟨#[102]⟩, 1, 2, []⟩) = _
 unfold readG
 rw [if_neg (by decide)]
 rw [show cutB ((⟨#[102, 32, 49, 32, 50, 10, 108, 111, 97, 100, 32, 48, 48, 10]⟩ : ByteArray).extract 6 (⟨#[102, 32, 49, 32, 50, 10, 108, 111, 97, 100, 32, 48, 48, 10]⟩ : ByteArray).size) nl = (⟨#[108, 111, 97, 100, 32, 48, 48]⟩, ⟨#[]⟩, true) from rfl]
 dsimp only
 rw [if_neg (by decide), if_pos (by decide), ins_no]
theorem pg_no : pgD [0, 0, 0] = .error 2 := rfl
theorem pg_yes : pgD [0, 1, 1, 102, 0, 0, 1, 22] = .ok ⟨[], [⟨⟨#[102]⟩, 0, 0, [(22, 0)]⟩]⟩ := rfl
section
variable {w0 w : World} {its rest : List Thing}
theorem pg_copy {S : List Nat} (h : Hp S w0 w its) {s1 s2 : Sl} {K : Addr → World → Prop} (hK : ∀ b w', Hp S w0 w' (its ++ [tBlk b 37 [.slice s1.a s1.len s1.cap, .slice s2.a s2.len s2.cap]]) → K ⟨b, 0, none⟩ w') :
  Nw (.cells #[.slice none 0 0, .slice none 0 0] 37) w fun (s : Addr) (w : World) => St s (.slice s1.a s1.len s1.cap) w fun (w : World) => St (s.add 1) (.slice s2.a s2.len s2.cap) w fun (w : World) => K s w := by
 refine h.nw fun b w1 h => ?_
 refine h.st0 its.length List.getElem?_concat_length (by simp) rfl fun w2 h => ?_
 rw [set_last] at h
 refine h.st (n := 1) its.length List.getElem?_concat_length (by simp) rfl fun w2 h => ?_
 rw [set_last] at h
 exact hK b w2 h
theorem shown0 (hG : Glob w) {K : Bool → World → Prop} (hK : ∀ w', Hp [] w w' [] → K true w') : c8 w K := by
 refine c8_of ?_
 unfold f8
 have h : Hp [] w w [] := Hp.init w
 refine h.nwS (l := [(2, 0), (1, -3), (6, 0), (22, 0)]) (f := insv) (n := 2) (m := 4) rfl rfl insv_len fun cb w1 h => ?_
 refine rt_copy h (sl := ⟨some ⟨cb, 0, none⟩, 4, 4⟩) fun rb w1 h => ?_
 have h : Hp [] w w1 [tSl ⟨some ⟨cb, 0, none⟩, 4, 4⟩ 23 2 insv [(2, 0), (1, -3), (6, 0), (22, 0)], tBlk rb 30 [.string ⟨#[102]⟩, .int .i64 1, .int .i64 2, .slice (some ⟨cb, 0, none⟩) 4 4]] := h
 refine h.ld0 (k := .s) (x := ⟨#[102]⟩) 1 rfl rfl ?_
 refine h.ld (n := 1) (k := .i .i64) (x := 1) 1 rfl rfl ?_
 refine h.ld (n := 2) (k := .i .i64) (x := 2) 1 rfl rfl ?_
 refine h.ld (n := 3) (k := .sl) (x := ⟨some ⟨cb, 0, none⟩, 4, 4⟩) 1 rfl rfl ?_
 obtain ⟨O, hO⟩ := h.see (i := 0) rfl
 refine List_spec (code := [(2, 0), (1, -3), (6, 0), (22, 0)]) ⟨O, SlF.toR hO⟩ ⟨by decide, by decide⟩ (by decide) (hG.fr h.fr).tab fun w2 h2 => ?_
 rw [list_shown]
 have h := (h.keep h2.fr).front (a := [])
 clear h2 hO O
 -- Read
 refine Read_spec h hG (by decide) (fun r hr sl1 w2 h => ?_) (fun e he => by rw [read_yes] at he; cases he)
 rw [read_yes] at hr
 cases hr
 refine rt_copy h (sl := sl1) fun xb w2 h => ?_
 have h : Hp [] w w2 [tSl sl1 23 2 insv [(1, 7)], tBlk xb 30 [.string ⟨#[102]⟩, .int .i64 1, .int .i64 2, .slice sl1.a sl1.len sl1.cap]] := h
 refine Read_spec h hG (by decide) (fun r hr => by rw [read_no] at hr; cases hr) (fun e he fb w2 h => ?_)
 rw [read_no] at he
 cases he
 refine rt_copy h (sl := ⟨none, 0, 0⟩) fun xb2 w2 h => ?_
 have h : Hp [] w w2 ([tSl sl1 23 2 insv [(1, 7)], tBlk xb 30 [.string ⟨#[102]⟩, .int .i64 1, .int .i64 2, .slice sl1.a sl1.len sl1.cap], tFault fb 6] ++ [tBlk xb2 30 [.string ⟨#[]⟩, .int .i64 0, .int .i64 0, .slice none 0 0]]) := h
 have h := h.front
 refine fault_spec h 2 rfl fun w2 h => ?_
 have h := h.nil 30 4 rtv
 refine Effect_spec h 3 (u := tSl ⟨none, 0, 0⟩ 30 4 rtv []) rfl Hp.rdSl fun w2 h => ?_
 rw [show (effM 26 26 []).1 = 2 from rfl, show (effM 26 26 []).2 = 0 from rfl]
 have hS0 : RdS w2 ⟨none, 0, 0⟩ ([] : List SY) := ⟨[], [], rfl, by simp, ⟨[], SlR.nil rfl, by simp⟩, by simp⟩
 have hR0 : RdR w2 ⟨none, 0, 0⟩ ([] : List RT) := ⟨[], rfl, ⟨[], SlR.nil rfl⟩, by simp⟩
 refine Encode_spec (p := ⟨[], []⟩) hS0 hR0 ⟨by simp, by simp⟩ (fun _ s2 w3 h2 => ?_) (fun e => by cases e)
 have h := h.r0 (rest := [tB s2 (encPg ⟨[], []⟩)]) rfl h2
 have h : Hp [] w w3 [tSl sl1 23 2 insv [(1, 7)], tBlk xb 30 [.string ⟨#[102]⟩, .int .i64 1, .int .i64 2, .slice sl1.a sl1.len sl1.cap], tFault fb 6, tSl ⟨none, 0, 0⟩ 30 4 rtv [], tB s2 [0, 0]] := h
 clear h2 hS0 hR0
 -- Decode
 refine h.nwS (l := [0, 0, 0]) (f := u8v) (n := 1) (m := 3) rfl rfl u8v_len fun b3 w4 h => ?_
 have h := h.comm
 have hs3 : Src (tSl ⟨some ⟨b3, 0, none⟩, 3, 3⟩ 5 1 u8v [0, 0, 0]) ⟨some ⟨b3, 0, none⟩, 3, 3⟩ [0, 0, 0] := ⟨Hp.rdSl, by unfold Bytes; decide, by decide, rfl, Nat.le_refl _⟩
 refine Decode_spec h hs3 (fun p hp => by rw [pg_no] at hp; cases hp) (fun e he f2 w4 h => ?_)
 rw [pg_no] at he
 cases he
 refine pg_copy h (s1 := ⟨none, 0, 0⟩) (s2 := ⟨none, 0, 0⟩) fun pb w4 h => ?_
 have h : Hp [] w w4 ([tSl ⟨some ⟨b3, 0, none⟩, 3, 3⟩ 5 1 u8v [0, 0, 0], tSl sl1 23 2 insv [(1, 7)], tBlk xb 30 [.string ⟨#[102]⟩, .int .i64 1, .int .i64 2, .slice sl1.a sl1.len sl1.cap], tFault fb 6, tSl ⟨none, 0, 0⟩ 30 4 rtv [], tB s2 [0, 0], tFault f2 2] ++ [tBlk pb 37 [.slice none 0 0, .slice none 0 0]]) := h
 have h := h.front
 refine fault_spec h 6 rfl fun w4 h => ?_
 refine h.nwS (l := [0, 1, 1, 102, 0, 0, 1, 22]) (f := u8v) (n := 1) (m := 8) rfl rfl u8v_len fun b4 w5 h => ?_
 have h := h.comm
 have hs4 : Src (tSl ⟨some ⟨b4, 0, none⟩, 8, 8⟩ 5 1 u8v [0, 1, 1, 102, 0, 0, 1, 22]) ⟨some ⟨b4, 0, none⟩, 8, 8⟩ [0, 1, 1, 102, 0, 0, 1, 22] := ⟨Hp.rdSl, by unfold Bytes; decide, by decide, rfl, Nat.le_refl _⟩
 refine Decode_spec h hs4 (fun p hp q1 q2 w5 h => ?_) (fun e he => by rw [pg_yes] at he; cases he)
 rw [pg_yes] at hp
 cases hp
 refine pg_copy h (s1 := q1) (s2 := q2) fun qb w5 h => ?_
 have h : Hp [] w w5 [tSl ⟨some ⟨b4, 0, none⟩, 8, 8⟩ 5 1 u8v [0, 1, 1, 102, 0, 0, 1, 22], tSl ⟨some ⟨b3, 0, none⟩, 3, 3⟩ 5 1 u8v [0, 0, 0], tSl sl1 23 2 insv [(1, 7)], tBlk xb 30 [.string ⟨#[102]⟩, .int .i64 1, .int .i64 2, .slice sl1.a sl1.len sl1.cap], tFault fb 6, tSl ⟨none, 0, 0⟩ 30 4 rtv [], tB s2 [0, 0], tFault f2 2, tSyN q1 [], tFnN q2 [⟨⟨#[102]⟩, 0, 0, [(22, 0)]⟩], tBlk qb 37 [.slice q1.a q1.len q1.cap, .slice q2.a q2.len q2.cap]] := h
 refine ifT (by simp) ?_
 refine ⟨true, fun _ _ => by kernel_rfl, ifT rfl ?_⟩
 have hl1 := h.len (s := sl1) (e := 23) (n := 2) (f := insv) (l := [(1, 7)]) 2 rfl
 refine h.ld (n := 3) (k := .sl) (x := sl1) 3 rfl rfl ?_
 refine ifT (by rw [← hl1]; rfl) ?_
 refine h.ld (n := 3) (k := .sl) (x := sl1) 3 rfl rfl ?_
 refine h.ixr 2 (s := sl1) (l := [(1, 7)]) (f := insv) (n := 2) (e := 23) (j := 0) rfl (by decide) (y := (1, 7)) rfl insv_len fun ad hc => ?_
 refine ldR (k := .i .i64) (x := 7) (hc 1 (by decide)) rfl ?_
 refine ifT rfl (ifT rfl (ifT rfl (ifT rfl (ifT rfl (ifT rfl ?_)))))
 refine h.rdb 6 (u := tB s2 [0, 0]) rfl Hp.rdSl ⟨#[0, 0]⟩ rfl ?_
 refine ifT (by simp) (ifT rfl (ifT rfl (ifT rfl (ifT rfl ?_))))
 refine ⟨true, fun _ _ => by kernel_rfl, ifT rfl ?_⟩
 have hq := h.nest_see (e := 30) (n := 4) (cells := rtv) (sub := subI) (vis := RV.r) (s := q2) (l := [⟨⟨#[102]⟩, 0, 0, [(22, 0)]⟩]) 9 rfl
 refine h.ld (n := 1) (k := .sl) (x := q2) 10 rfl rfl ?_
 refine ifT (by rw [← hq.1]; rfl) ?_
 refine h.ld (n := 1) (k := .sl) (x := q2) 10 rfl rfl ?_
 obtain ⟨xs, hx, h⟩ := h.nest_open (i := 9) rfl
 obtain ⟨x, rfl⟩ : ∃ x, xs = [x] := List.length_eq_one_iff.1 (by simpa using congrArg List.length hx)
 have hxc : x.code = [(22, 0)] := by
  have : x.r = ⟨⟨#[102]⟩, 0, 0, [(22, 0)]⟩ := by simpa using hx
  exact congrArg RT.code this
 obtain ⟨O, O1, O2, g1, _⟩ := h.see (i := 11) (t := tAll [subI x]) rfl
 have hxl : x.code.length = x.sl.len := g1.1
 refine h.ixr 9 (s := q2) (l := [x]) (f := rtv) (n := 4) (e := 30) (j := 0) rfl (by decide) (y := x) rfl rtv_len fun ad hc => ?_
 refine ldR (k := .sl) (x := x.sl) (hc 3 (by decide)) rfl ?_
 refine ifT (by rw [← hxl, hxc]; rfl) ?_
 refine Name_spec h fun w6 h => ?_
 refine ifT (by rw [str_beq]; rfl) ?_
 refine Number_spec h fun w6 h => ?_
 exact hK w6 (frNil h.fr)
theorem shown_spec (h : Hp [] w0 w its) (hG : Glob w0) {K : Bool → World → Prop} (hK : ∀ w', Hp [] w0 w' its → K true w') : c8 w K :=
 shown0 (hG.fr h.fr) fun w' h2 => hK w' (h.keep h2.fr)
end
end Go.Proofs.YtmfgofbcnlkolaaGreatDoor.F
end

section
namespace Go.Proofs.YtmfgofbcnlkolaaGreatDoor.FW
open F
open Go Go.Den Go.Proofs Go.RowKit
theorem und23s : Tryz.prog.underlying 23 = some (.struct (Tryz.prog.fieldsOf 23)) := by kernel_rfl
theorem und30s : Tryz.prog.underlying 30 = some (.struct (Tryz.prog.fieldsOf 30)) := by kernel_rfl
theorem undI3 : Tryz.prog.underlying 3 = some (.int .i64) := by kernel_rfl
theorem undI2 : Tryz.prog.underlying 2 = some (.int .i64) := by kernel_rfl
theorem und28s : Tryz.prog.underlying 28 = some (.slice 23) := by kernel_rfl
theorem cel2 : Tryz.prog.cellsOf 2 = 1 := by kernel_rfl
theorem cel3 : Tryz.prog.cellsOf 3 = 1 := by kernel_rfl
theorem cel9 : Tryz.prog.cellsOf 9 = 1 := by kernel_rfl
theorem cel23 : Tryz.prog.cellsOf 23 = 2 := by kernel_rfl
theorem cel28 : Tryz.prog.cellsOf 28 = 1 := by kernel_rfl
theorem cel30 : Tryz.prog.cellsOf 30 = 4 := by kernel_rfl
theorem byt23 : Tryz.prog.bytesOf 23 = 16 := by kernel_rfl
theorem byt30 : Tryz.prog.bytesOf 30 = 56 := by kernel_rfl
theorem wf_rng {x : Int} (h : (Lit.int .i64 x).wf = true) : -9223372036854775808 ≤ x ∧ x ≤ 9223372036854775807 := by
 have hm : IntKind.i64.min ≤ x ∧ x ≤ IntKind.i64.max := by simpa [Lit.wf] using h
 have h1 : IntKind.i64.min = -9223372036854775808 := by decide
 have h2 : IntKind.i64.max = 9223372036854775807 := by decide
 omega
theorem dec_ins {w : World} {B m : Nat} {ci : List Value} (hl : ci.length = 2) (h : RdV Tryz.prog w B m 23 ci) : ∃ x : Ins, ci = insv x ∧ (-9223372036854775808 ≤ x.2 ∧ x.2 ≤ 9223372036854775807) := by
 obtain ⟨_, q, hf⟩ := rd_struct und23s h
 match ci, hl with
 | [c0, c1], _ =>
  obtain ⟨m0, e0, h0⟩ := rd_int undI3 (rd_field hf 0 (ft := 3) (off := 0) (sz := 1) (by kernel_rfl) cel3)
  obtain ⟨m1, e1, h1⟩ := rd_int undI2 (rd_field hf 1 (ft := 2) (off := 1) (sz := 1) (by kernel_rfl) cel2)
  simp only [List.drop_zero, List.drop_succ_cons, List.take_succ_cons, List.take_zero, List.cons.injEq, and_true] at e0 e1
  subst e0 e1
  exact ⟨(m0, m1), rfl, wf_rng h1⟩
theorem dec_code {w : World} {B n : Nat} {cs : List Value} (h : RdV Tryz.prog w B n 28 cs) : ∃ (s : Sl) (l : List Ins), cs = [.slice s.a s.len s.cap] ∧ (∃ o, SlR w s 2 insv l o) ∧ l.length ≤ 8796093022208 ∧ ∀ x ∈ l, -9223372036854775808 ≤ x.2 ∧ x.2 ≤ 9223372036854775807 := by
 obtain ⟨s, l, o, h1, h2, h3, hb, h4, h5⟩ := rd_slice (f := insv) (G := fun x => -9223372036854775808 ≤ x.2 ∧ x.2 ≤ 9223372036854775807) und28s cel23 (by omega) (fun m ci hl hr => dec_ins hl hr) h
 rw [byt23] at hb
 unfold reachBytes at hb
 exact ⟨s, l, h1, ⟨o, h2⟩, by omega, h3⟩
theorem dec_rt {w : World} {B m : Nat} {ci : List Value} (hl : ci.length = 4) (h : RdV Tryz.prog w B m 30 ci) : ∃ x : RV, ci = rtv x ∧ x.r.Ok ∧ (∃ o, SlR w x.sl 2 insv x.code o) ∧ x.nm.size ≤ 140737488355328 ∧ (-9223372036854775808 ≤ x.pa ∧ x.pa ≤ 9223372036854775807) ∧ (-9223372036854775808 ≤ x.lo ∧ x.lo ≤ 9223372036854775807) := by
 obtain ⟨_, q, hf⟩ := rd_struct und30s h
 match ci, hl with
 | [c0, c1, c2, c3], _ =>
  obtain ⟨m0, e0, h0, _⟩ := rd_string und9 (rd_field hf 0 (ft := 9) (off := 0) (sz := 1) (by kernel_rfl) cel9)
  obtain ⟨m1, e1, h1⟩ := rd_int undI3 (rd_field hf 1 (ft := 3) (off := 1) (sz := 1) (by kernel_rfl) cel3)
  obtain ⟨m2, e2, h2⟩ := rd_int undI3 (rd_field hf 2 (ft := 3) (off := 2) (sz := 1) (by kernel_rfl) cel3)
  obtain ⟨s, l, e3, h3, h4, h5⟩ := dec_code (rd_field hf 3 (ft := 28) (off := 3) (sz := 1) (by kernel_rfl) cel28)
  simp only [List.drop_zero, List.drop_succ_cons, List.take_succ_cons, List.take_zero, List.cons.injEq, and_true] at e0 e1 e2 e3
  subst e0 e1 e2 e3
  unfold reachBytes at h0
  exact ⟨⟨m0, m1, m2, s, l⟩, rfl, ⟨by show l.length ≤ _; omega, h5⟩, h3, by show m0.size ≤ _; omega, wf_rng h1, wf_rng h2⟩
def pow10s : List Int := [1, 10, 100, 1000, 10000, 100000, 1000000, 10000000, 100000000, 1000000000, 10000000000, 100000000000, 1000000000000, 10000000000000, 100000000000000, 1000000000000000, 10000000000000000, 100000000000000000, 1000000000000000000, 10000000000000000000]
theorem gP : Tryz.prog.globalNamed "internal/strconv.uint64pow10" = some 1 := by kernel_rfl
theorem und39' : (match Tryz.prog.underlying 39 with | some (.interface _) => true | _ => false) = true := by kernel_rfl
theorem und39i : ∃ ms : Array (String × TypeId), Tryz.prog.underlying 39 = some (.interface ms) := by
 have h := und39'
 split at h
 ·exact ⟨_, by assumption⟩
 ·cases h
theorem starE : "*errors.errorString" = "*" ++ "errors.errorString" := by decide
theorem row191 (u : TypeId) (h : Tryz.prog.typeName? 3 u = some "*errors.errorString") : u = 191 :=
 typeName_ptr_named (nm := "errors.errorString") (by rw [← starE]; kernel_rfl) (by kernel_rfl) (by decide) u (by rw [← starE]; exact h)
theorem und191 : Tryz.prog.underlying 191 = some (.pointer 193) := by kernel_rfl
theorem und193 : Tryz.prog.underlying 193 = some (.struct #[⟨"s", 9, 0, false, "", "errors", 0⟩]) := by kernel_rfl
theorem cel193 : Tryz.prog.cellsOf 193 = 1 := by kernel_rfl
theorem gS : Tryz.prog.globalNamed "strconv.ErrSyntax" = some 2 := by kernel_rfl
theorem gR : Tryz.prog.globalNamed "strconv.ErrRange" = some 3 := by kernel_rfl
theorem gST : (Tryz.prog.globals[2]?).map (·.type) = some 39 := by kernel_rfl
theorem gRT : (Tryz.prog.globals[3]?).map (·.type) = some 39 := by kernel_rfl
theorem gPT : (Tryz.prog.globals[1]?).map (·.type) = some 165 := by kernel_rfl
theorem glob_of {w : World} (hs : w.ShapedOpen Tryz.prog) (ht : TabW w) (h2 : ∃ a : Addr, w.var? Tryz.prog "strconv.ErrSyntax" = some #[.iface 191 (.pointer (some a))]) (h3 : ∃ a : Addr, w.var? Tryz.prog "strconv.ErrRange" = some #[.iface 191 (.pointer (some a))]) : Glob w := by
 obtain ⟨a, ha⟩ := h2
 obtain ⟨b, hb⟩ := h3
 exact ⟨ht, cell_of_shapedOpen_int (g := 0) (t := 3) (zero := #[.int .i64 0]) hs (by rw [show Tryz.prog.globals.size = 8 by kernel_rfl]; decide) (by kernel_rfl) rfl (by kernel_rfl) (by kernel_rfl) undI3,
  ⟨.iface 191 (.pointer (some a)), World.var?_cell gS ha 0, .inr ⟨_, _, rfl⟩⟩,
  ⟨.iface 191 (.pointer (some b)), World.var?_cell gR hb 0, .inr ⟨_, _, rfl⟩⟩⟩
end Go.Proofs.YtmfgofbcnlkolaaGreatDoor.FW
end

section
namespace Go.Proofs.YtmfgofbcnlkolaaGreatDoor.F
open Go Go.Den Go.Proofs
theorem insNe {w : World} {x y : Operand} {a b c d : Int} {K : Bool → Prop} (hK : K (!decide ((a, b) = (c, d)))) : RunRo .b Tryz.prog (binSem .neq 23 x y (.agg #[.int .i64 a, .int .i64 b]) (.agg #[.int .i64 c, .int .i64 d])) w K := by
 refine runNe (r := (a == c && (b == d && true))) (by kernel_rfl) (by kernel_rfl) (by kernel_rfl) (by kernel_rfl) ?_
 have e : (a == c && (b == d && true)) = decide ((a, b) = (c, d)) := by
  rw [Bool.eq_iff_iff]; simp
 rw [e]; exact hK
section
variable {S : List Nat} {w0 w : World} {its rest : List Thing}
theorem same_spec (h : Hp S w0 w its) (i j : Nat) {u v : Thing} {s t : Sl} {l m : List Ins} (hi : (its[i]?).map Thing.holds = some u.holds) (hu : Hp.Reads u s 2 insv l) (hj : (its[j]?).map Thing.holds = some v.holds) (hv : Hp.Reads v t 2 insv m) (hl : l.length ≤ 140737488355328)
  {K : Bool → World → Prop} (hK : ∀ w', Hp S w0 w' its → K (decide (l = m)) w') : c65 s t w K := by
 refine c65_of ?_
 unfold f65
 have hls := h.lenU i hi hu
 have hms := h.lenU j hj hv
 by_cases hlen : l.length = m.length
 ·refine ifF (by simp; omega) ?_
  refine ⟨fun k mm w' => ∃ q : Nat, k = q ∧ q ≤ l.length ∧ mm = l.length - q ∧ l.take q = m.take q ∧ Hp S w0 w' its, ⟨_, 0, rfl, by omega, rfl, rfl, h⟩, ?_⟩
  clear h
  rintro k mm w1 ⟨q, rfl, hq, rfl, he, h⟩
  by_cases hend : q = l.length
  ·refine ifF (by simp; omega) ?_
   have e : l = m := by
    rw [List.take_of_length_le (by omega), List.take_of_length_le (by omega)] at he
    exact he
   have := hK w1 h
   rw [decide_eq_true e] at this
   exact this
  ·obtain ⟨x, hx⟩ : ∃ x, l[q]? = some x := ⟨l[q]'(by omega), List.getElem?_eq_getElem (by omega)⟩
   obtain ⟨y, hy⟩ : ∃ y, m[q]? = some y := ⟨m[q]'(by omega), List.getElem?_eq_getElem (by omega)⟩
   refine ifT (by simp; omega) ?_
   refine h.dr fun w1 h => ?_
   obtain ⟨O, hO⟩ := h.see' hi
   obtain ⟨o, hR⟩ := hu.rd hO
   obtain ⟨O2, hO2⟩ := h.see' hj
   obtain ⟨o2, hR2⟩ := hv.rd hO2
   refine SlR.ix insv_len hR (by omega) (x := x) (by rw [Int.toNat_natCast]; exact hx) fun ad hc => ?_
   refine ldR0 (k := .i .i64) (x := x.1) (hc 0 (by omega)) rfl ?_
   refine ldR (k := .i .i64) (x := x.2) (hc 1 (by omega)) rfl ?_
   refine SlR.ix insv_len hR2 (by omega) (x := y) (by rw [Int.toNat_natCast]; exact hy) fun ad hc => ?_
   refine ldR0 (k := .i .i64) (x := y.1) (hc 0 (by omega)) rfl ?_
   refine ldR (k := .i .i64) (x := y.2) (hc 1 (by omega)) rfl ?_
   refine insNe ?_
   by_cases hxy : x = y
   ·subst hxy
    refine ifF (by simp) ⟨l.length - (q + 1), by omega, q + 1, by rw [wr64 (by omega) (by omega)]; omega, by omega, rfl, ?_, h⟩
    rw [List.take_add_one, List.take_add_one, hx, hy, he]
   ·have hne : (!decide ((x.1, x.2) = (y.1, y.2))) = true := by
     rw [decide_eq_false fun e => hxy e]; rfl
    refine ifT hne ?_
    have := hK w1 h
    rw [decide_eq_false fun e => hxy (by rw [e, hy] at hx; exact (Option.some.inj hx).symm)] at this
    exact this
 ·refine ifT (by simp; omega) ?_
  have := hK w h
  rw [decide_eq_false fun e => hlen (by rw [e])] at this
  exact this
theorem setsEq_spec (h : Hp S w0 w its) (i j : Nat) {u v : Thing} {s t : Sl} {l m : List Int} (hi : (its[i]?).map Thing.holds = some u.holds) (hu : Hp.Reads u s 1 iv l) (hj : (its[j]?).map Thing.holds = some v.holds) (hv : Hp.Reads v t 1 iv m) (hl : l.length ≤ 140737488355328)
  {K : Bool → World → Prop} (hK : ∀ w', Hp S w0 w' its → K (decide (l = m)) w') : c41 s t w K := by
 refine c41_of ?_
 unfold f41
 have hls := h.lenU i hi hu
 have hms := h.lenU j hj hv
 by_cases hlen : l.length = m.length
 ·refine ifF (by simp; omega) ?_
  refine ⟨fun k mm w' => ∃ q : Nat, k = q ∧ q ≤ l.length ∧ mm = l.length - q ∧ l.take q = m.take q ∧ Hp S w0 w' its, ⟨_, 0, rfl, by omega, rfl, rfl, h⟩, ?_⟩
  clear h
  rintro k mm w1 ⟨q, rfl, hq, rfl, he, h⟩
  by_cases hend : q = l.length
  ·refine ifF (by simp; omega) ?_
   have e : l = m := by
    rw [List.take_of_length_le (by omega), List.take_of_length_le (by omega)] at he
    exact he
   have := hK w1 h
   rw [decide_eq_true e] at this
   exact this
  ·obtain ⟨x, hx⟩ : ∃ x, l[q]? = some x := ⟨l[q]'(by omega), List.getElem?_eq_getElem (by omega)⟩
   obtain ⟨y, hy⟩ : ∃ y, m[q]? = some y := ⟨m[q]'(by omega), List.getElem?_eq_getElem (by omega)⟩
   refine ifT (by simp; omega) ?_
   refine h.dr fun w1 h => ?_
   obtain ⟨O, hO⟩ := h.see' hi
   obtain ⟨o, hR⟩ := hu.rd hO
   obtain ⟨O2, hO2⟩ := h.see' hj
   obtain ⟨o2, hR2⟩ := hv.rd hO2
   refine SlR.ix iv_len hR (by omega) (x := x) (by rw [Int.toNat_natCast]; exact hx) fun ad hc => ?_
   refine ldR0 (k := .i .i64) (x := x) (hc 0 (by omega)) rfl ?_
   refine SlR.ix iv_len hR2 (by omega) (x := y) (by rw [Int.toNat_natCast]; exact hy) fun ad hc => ?_
   refine ldR0 (k := .i .i64) (x := y) (hc 0 (by omega)) rfl ?_
   by_cases hxy : x = y
   ·subst hxy
    refine ifF (by simp) ⟨l.length - (q + 1), by omega, q + 1, by rw [wr64 (by omega) (by omega)]; omega, by omega, rfl, ?_, h⟩
    rw [List.take_add_one, List.take_add_one, hx, hy, he]
   ·refine ifT (by simpa using hxy) ?_
    have := hK w1 h
    rw [decide_eq_false fun e => hxy (by rw [e, hy] at hx; exact (Option.some.inj hx).symm)] at this
    exact this
 ·refine ifT (by simp; omega) ?_
  have := hK w h
  rw [decide_eq_false fun e => hlen (by rw [e])] at this
  exact this
theorem rt_eq {a b : RT} : a = b ↔ a.code = b.code ∧ a.nm = b.nm ∧ a.pa = b.pa ∧ a.lo = b.lo := by
 obtain ⟨a1, a2, a3, a4⟩ := a
 obtain ⟨b1, b2, b3, b4⟩ := b
 simp only [RT.mk.injEq]
 exact ⟨fun ⟨p, q, r, s⟩ => ⟨s, p, q, r⟩, fun ⟨p, q, r, s⟩ => ⟨q, r, s, p⟩⟩
theorem routines_spec (h : Hp S w0 w its) (i j : Nat) {u v : Thing} {x y : RV} (hi : (its[i]?).map Thing.holds = some u.holds) (hu : Hp.Reads u x.sl 2 insv x.code) (hj : (its[j]?).map Thing.holds = some v.holds) (hv : Hp.Reads v y.sl 2 insv y.code) (hl : x.code.length ≤ 140737488355328)
  {K : Bool → World → Prop} (hK : ∀ (r : Bool) w', (r = true ↔ x.r = y.r) → Hp S w0 w' its → K r w') : c29 x.nm x.pa x.lo x.sl y.nm y.pa y.lo y.sl w K := by
 refine c29_of ?_
 unfold f29
 have hjl : j < its.length := by
  rcases Nat.lt_or_ge j its.length with h1 | h1
  ·exact h1
  ·rw [List.getElem?_eq_none h1] at hj; cases hj
 have hil : i < its.length := by
  rcases Nat.lt_or_ge i its.length with h1 | h1
  ·exact h1
  ·rw [List.getElem?_eq_none h1] at hi; cases hi
 refine h.nw fun a w1 h => ?_
 refine h.nw fun b w1 h => ?_
 have hA : ∀ {t : Thing}, ((its ++ [tBlk a 30 (rtv x)] ++ [t])[its.length]?).map Thing.holds = some (tBlk a 30 (rtv x)).holds := fun {t} => by rw [mid1]; rfl
 have hB : ((its ++ [tBlk a 30 (rtv x)] ++ [tBlk b 30 (rtv y)])[(its ++ [tBlk a 30 (rtv x)]).length]?).map Thing.holds = some (tBlk b 30 (rtv y)).holds := by rw [List.getElem?_concat_length]; rfl
 have h : Hp S w0 w1 (its ++ [tBlk a 30 (rtv x)] ++ [tBlk b 30 (rtv y)]) := h
 refine h.ld (n := 3) (k := .sl) (x := x.sl) _ hA rfl ?_
 refine h.ld (n := 3) (k := .sl) (x := y.sl) _ hB rfl ?_
 refine same_spec h i j (u := u) (v := v) (by rw [List.append_assoc, List.getElem?_append_left hil]; exact hi) hu (by rw [List.append_assoc, List.getElem?_append_left hjl]; exact hj) hv hl fun w1 h => ?_
 have no : ¬ x.r = y.r → K false w1 := fun hn => hK false w1 ⟨(fun e => by cases e), fun e => absurd e hn⟩ h.front.front
 by_cases h1 : x.code = y.code
 ·refine ifT (by simpa using h1) ?_
  refine h.ld0 (k := .s) (x := x.nm) _ hA rfl ?_
  refine h.ld0 (k := .s) (x := y.nm) _ hB rfl ?_
  by_cases h2 : x.nm = y.nm
  ·refine ifT (by rw [h2]; simp) ?_
   refine h.ld (n := 1) (k := .i .i64) (x := x.pa) _ hA rfl ?_
   refine h.ld (n := 1) (k := .i .i64) (x := y.pa) _ hB rfl ?_
   by_cases h3 : x.pa = y.pa
   ·refine ifT (by rw [h3]; simp) ?_
    refine h.ld (n := 2) (k := .i .i64) (x := x.lo) _ hA rfl ?_
    refine h.ld (n := 2) (k := .i .i64) (x := y.lo) _ hB rfl ?_
    refine hK _ w1 ?_ h.front.front
    rw [rt_eq]
    simp [RV.r, h1, h2, h3]
   ·exact ifF (by simpa using h3) (no fun e => h3 (congrArg RT.pa e))
  ·refine ifF ?_ (no fun e => h2 (congrArg RT.nm e))
   rw [str_beq]
   simpa using fun e => h2 (strL_inj e)
 ·exact ifF (by simpa using h1) (no fun e => h1 (congrArg RT.code e))
end
def dL (u : Nat) : List Int := (Lib.decDigits u).map fun b => (b.toNat : Int)
theorem dL_small {u : Nat} (h : u < 10) : dL u = [48 + (u : Int)] := by
 unfold dL
 rw [Lib.decDigits_one h]
 have : (UInt8.ofNat (48 + u)).toNat = 48 + u := by
  rw [UInt8.toNat_ofNat']; omega
 rw [List.map_singleton, this]; simp
theorem dL_big {u : Nat} (h : ¬ u < 10) : dL u = dL (u / 10) ++ [48 + ((u % 10 : Nat) : Int)] := by
 unfold dL
 conv => lhs; rw [Lib.decDigits, dif_neg h]
 have : (UInt8.ofNat (48 + u % 10)).toNat = 48 + u % 10 := by
  rw [UInt8.toNat_ofNat']; omega
 rw [List.map_append, List.map_singleton, this]
 simp
theorem dL_rng (u : Nat) : ∀ c ∈ dL u, 48 ≤ c ∧ c ≤ 57 := by
 induction u using Nat.strongRecOn with
 | _ u ih =>
  intro c hc
  by_cases h : u < 10
  ·rw [dL_small h] at hc
   simp only [List.mem_singleton] at hc
   omega
  ·rw [dL_big h] at hc
   rcases List.mem_append.1 hc with hc | hc
   ·exact ih (u / 10) (by omega) c hc
   ·simp only [List.mem_singleton] at hc
    omega
theorem dec_L (v : Int) : strL (dec v) = if v < 0 then 45 :: dL v.natAbs else dL v.toNat := by
 unfold strL dec Lib.itoa
 split
 ·simp [dL]
 ·simp [dL]
theorem dL_ne (u : Nat) : ∃ c r, dL u = c :: r ∧ 48 ≤ c := by
 have h := dL_rng u
 cases hd : dL u with
 | nil =>
  by_cases h : u < 10
  ·rw [dL_small h] at hd; cases hd
  ·rw [dL_big h] at hd; simp at hd
 | cons c r =>
  rw [hd] at h
  exact ⟨c, r, rfl, (h c (by simp)).1⟩
def pieces : List Int → List Int → List (List Int)
 | cur, [] => [cur]
 | cur, c :: r => if c = 32 then cur :: pieces [] r else pieces (cur ++ [c]) r
theorem strL_extract' (s : ByteArray) (a b : Nat) : strL (s.extract a b) = ((strL s).take b).drop a := by
 unfold strL
 rw [ByteArray.data_extract, Array.toList_extract]
 simp [List.extract, List.drop_take, List.map_take, List.map_drop]
section
variable {S : List Nat} {w0 w : World} {its rest : List Thing}
end
abbrev bI (b : UInt8) : Int := (b.toNat : Int)
theorem pieces_idx : ∀ (l : List UInt8) (cur : List Int), (Lib.indexByte l 32 = -1 ∧ pieces cur (l.map bI) = [cur ++ l.map bI]) ∨ ∃ i : Nat, Lib.indexByte l 32 = i ∧ pieces cur (l.map bI) = (cur ++ (l.map bI).take i) :: pieces [] ((l.map bI).drop (i + 1))
 | [], cur => .inl ⟨rfl, by simp [pieces]⟩
 | b :: l, cur => by
  by_cases hb : b = 32
  ·subst hb
   refine .inr ⟨0, rfl, ?_⟩
   simp [pieces]
   intro h
   exact absurd rfl h
  ·have hbe : (b == 32) = false := by simpa using hb
   have hne : ¬ bI b = 32 := fun e => hb (by
    apply UInt8.toNat_inj.1
    have : (b.toNat : Int) = 32 := e
    show b.toNat = 32
    omega)
   have hp : pieces cur ((b :: l).map bI) = pieces (cur ++ [bI b]) (l.map bI) := by
    rw [List.map_cons]
    conv => lhs; rw [pieces]
    rw [if_neg hne]
   rw [hp]
   rcases pieces_idx l (cur ++ [bI b]) with ⟨h1, h2⟩ | ⟨i, h1, h2⟩
   ·refine .inl ⟨?_, by rw [h2]; simp⟩
    unfold Lib.indexByte
    rw [hbe, h1]; rfl
   ·refine .inr ⟨i + 1, ?_, by rw [h2]; simp⟩
    unfold Lib.indexByte
    rw [hbe, h1]
    have : ((i : Int) == -1) = false := by
     rw [beq_eq_false_iff_ne]; omega
    rw [this]
    rfl
theorem indexB_sp (s : ByteArray) : Lib.indexB s sp = Lib.indexByte s.data.toList 32 := by
 show Lib.index s.data.toList [32] = _
 exact Lib.index_one _ _
theorem split_pieces : ∀ (k : Nat) (s : ByteArray), Lib.countB s sp = k → (Lib.splitB sp 0 k s).map strL = pieces [] (strL s) := by
 intro k
 induction k with
 | zero =>
  intro s hk
  rcases pieces_idx s.data.toList [] with ⟨h1, h2⟩ | ⟨i, h1, h2⟩
  ·show [strL s] = pieces [] (s.data.toList.map bI)
   rw [h2]; rfl
  ·have := Lib.countB_hit s sp i (by decide) (by rw [indexB_sp, h1])
   omega
 | succ k ih =>
  intro s hk
  rcases pieces_idx s.data.toList [] with ⟨h1, h2⟩ | ⟨i, h1, h2⟩
  ·have := Lib.countB_miss s sp (by rw [indexB_sp, h1])
   omega
  ·have hix : Lib.indexB s sp = i := by rw [indexB_sp, h1]
   have hc := Lib.countB_hit s sp i (by decide) hix
   rw [Lib.splitB_hit sp 0 k s i hix, List.map_cons, ih _ (by omega)]
   show _ = pieces [] (s.data.toList.map bI)
   rw [h2]
   have e1 : strL (s.extract 0 (i + 0)) = (s.data.toList.map bI).take i := by
    rw [strL_extract']; rfl
   have e2 : strL (s.extract (i + sp.size) s.size) = (s.data.toList.map bI).drop (i + 1) := by
    rw [strL_extract', List.take_of_length_le (by rw [strL_len]; exact Nat.le_refl _)]
    rfl
   rw [e1, e2, List.nil_append]
theorem splitS_pieces (s : ByteArray) : (splitS s).map strL = pieces [] (strL s) := split_pieces _ s rfl
theorem words_split {s : ByteArray} {ws : List ByteArray} (h : ws.map strL = pieces [] (strL s)) : ws = splitS s := by
 rw [← splitS_pieces] at h
 have inj : ∀ (a b : List ByteArray), a.map strL = b.map strL → a = b := by
  intro a
  induction a with
  | nil => intro b h; cases b with
   | nil => rfl
   | cons y b => cases h
  | cons x a ih => intro b h; cases b with
   | nil => cases h
   | cons y b =>
    simp only [List.map_cons, List.cons.injEq] at h
    rw [strL_inj h.1, ih b h.2]
 exact inj _ _ h
theorem cut_pieces (s : ByteArray) : (cutB s sp).2.2 = false ∧ splitS s = [s] ∧ (cutB s sp).1 = s ∨ (cutB s sp).2.2 = true ∧ splitS s = (cutB s sp).1 :: splitS (cutB s sp).2.1 := by
 rcases pieces_idx s.data.toList [] with ⟨h1, h2⟩ | ⟨i, h1, h2⟩
 ·left
  have hi : ¬ 0 ≤ Lib.index s.data.toList sp.data.toList := by
   have : Lib.index s.data.toList sp.data.toList = -1 := by rw [← h1, ← indexB_sp]
   rw [this]; decide
  unfold cutB Lib.cut
  rw [if_neg hi]
  refine ⟨rfl, ?_, by simp⟩
  unfold splitS
  rw [Lib.countB_miss s sp (by rw [indexB_sp, h1])]
  rfl
 ·right
  have hx : Lib.index s.data.toList sp.data.toList = i := by rw [← h1, ← indexB_sp]
  have hix : Lib.indexB s sp = i := by rw [indexB_sp, h1]
  have hc := Lib.countB_hit s sp i (by decide) hix
  unfold cutB Lib.cut
  rw [if_pos (by rw [hx]; omega), hx]
  refine ⟨rfl, ?_⟩
  unfold splitS
  have e0 : Lib.countB s sp = Lib.countB (s.extract (i + sp.size) s.size) sp + 1 := by omega
  rw [e0, Lib.splitB_hit sp 0 _ s i hix]
  have e1 : s.extract 0 (i + 0) = ⟨(s.data.toList.take (i : Int).toNat).toArray⟩ := by
   apply strL_inj
   rw [strL_extract', Int.toNat_natCast]
   simp [strL, List.map_take]
  have e2 : s.extract (i + sp.size) s.size = ⟨(s.data.toList.drop ((i : Int).toNat + sp.data.toList.length)).toArray⟩ := by
   apply strL_inj
   rw [strL_extract', List.take_of_length_le (by rw [strL_len]; exact Nat.le_refl _), Int.toNat_natCast]
   simp [strL, List.map_drop]
  rw [e1, e2]
theorem pm_app (M : Nat) (r : List UInt8) : ∀ (l : List UInt8) (acc a : Nat), Lib.parseUintM M acc l = .ok a → Lib.parseUintM M acc (l ++ r) = Lib.parseUintM M a r
 | [], acc, a, h => by
  simp only [Lib.parseUintM, Lib.NumEnd.ok.injEq] at h
  subst h; rfl
 | c :: l, acc, a, h => by
  rw [List.cons_append]
  simp only [Lib.parseUintM] at h ⊢
  split at h
  ·rename_i h1
   rw [if_pos h1]
   split at h
   ·cases h
   ·rename_i h2
    rw [if_neg h2]
    split at h
    ·cases h
    ·rename_i h3
     rw [if_neg h3]
     exact pm_app M r l _ a h
  ·cases h
theorem pm_dec (u : Nat) : u ≤ 9223372036854775808 → Lib.parseUintM 18446744073709551615 0 (Lib.decDigits u) = .ok u := by
 induction u using Nat.strongRecOn with
 | _ u ih =>
  intro hu
  have one : ∀ (acc d : Nat), d < 10 → acc ≤ 922337203685477580 → Lib.parseUintM 18446744073709551615 acc [UInt8.ofNat (48 + d)] = .ok (acc * 10 + d) := by
   intro acc d hd ha
   have e : (UInt8.ofNat (48 + d)).toNat = 48 + d := by rw [UInt8.toNat_ofNat']; omega
   simp only [Lib.parseUintM]
   rw [e, if_pos (by omega), if_neg (by omega), if_neg (by omega)]
   have e2 : acc * 10 + (48 + d - 48) = acc * 10 + d := by omega
   rw [e2]
  by_cases h : u < 10
  ·rw [Lib.decDigits_one h, one 0 u h (by omega)]
   simp
  ·rw [Lib.decDigits, dif_neg h, pm_app _ _ _ _ _ (ih (u / 10) (by omega) (by omega)), one _ _ (by omega) (by omega)]
   congr 1; omega
theorem parse_dec {v : Int} (h0 : -9223372036854775808 ≤ v) (h1 : v ≤ 9223372036854775807) : Lib.parseIntB 64 (Lib.itoa v) = .ok v := by
 have hM : (2 : Nat) ^ 64 - 1 = 18446744073709551615 := by decide
 have hP : (2 : Nat) ^ (64 - 1) = 9223372036854775808 := by decide
 have ne : ∀ u, Lib.decDigits u ≠ [] := fun u e => by
  obtain ⟨c, r, hd, _⟩ := dL_ne u
  unfold dL at hd
  rw [e] at hd; cases hd
 have pu : ∀ u, u ≤ 9223372036854775808 → Lib.parseUintB 64 (Lib.decDigits u) = .ok u := fun u hu => by
  unfold Lib.parseUintB
  rw [if_neg (ne u), hM]
  exact pm_dec u hu
 unfold Lib.itoa
 by_cases hv : v < 0
 ·rw [if_pos hv]
  simp only [Lib.parseIntB]
  have e45 : (45 : UInt8).toNat = 45 := rfl
  rw [e45, if_pos (.inr rfl), pu _ (by omega)]
  dsimp only
  rw [hP, if_neg (by simp), if_neg (by omega), if_pos rfl]
  congr 1; omega
 ·rw [if_neg hv]
  cases hd : Lib.decDigits v.toNat with
  | nil => exact absurd hd (ne _)
  | cons c r =>
   have hc : 48 ≤ c.toNat ∧ c.toNat ≤ 57 := by
    have := dL_rng v.toNat (c.toNat : Int) (by unfold dL; rw [hd]; simp)
    omega
   simp only [Lib.parseIntB]
   rw [if_neg (by omega), ← hd, pu _ (by omega)]
   dsimp only
   rw [hP, if_neg (by omega), if_neg (by omega), if_neg (by omega)]
   congr 1; omega
theorem decO_dec {v : Int} {s : ByteArray} (h0 : -9223372036854775808 ≤ v) (h1 : v ≤ 9223372036854775807) (h : dec v = s) : decO s = some v := by
 refine decO_of (v := v) ?_ h
 rw [← h]
 show Lib.parseIntB 64 (Lib.itoa v).toArray.toList = .ok v
 rw [List.toList_toArray]
 exact parse_dec h0 h1
theorem decO_some {v : Int} {s : ByteArray} (h : decO s = some v) : dec v = s ∧ -9223372036854775808 ≤ v ∧ v ≤ 9223372036854775807 := by
 unfold decO at h
 cases hp : Lib.parseIntB 64 s.data.toList with
 | ok x =>
  rw [hp] at h
  dsimp only at h
  split at h
  ·rename_i hd
   cases h
   exact ⟨hd, parse_range hp⟩
  ·cases h
 | _ => rw [hp] at h; cases h
theorem pieces_nosp : ∀ (l cur : List Int), (∀ c ∈ l, c ≠ 32) → pieces cur l = [cur ++ l]
 | [], cur, _ => by simp [pieces]
 | c :: r, cur, h => by
  rw [pieces, if_neg (h c (by simp)), pieces_nosp r _ fun d hd => h d (by simp [hd])]
  simp
theorem split_one {s x : ByteArray} (h : splitS s = [x]) : x = s := by
 rcases cut_pieces s with ⟨_, h1, _⟩ | ⟨_, h1⟩
 ·rw [h1] at h; cases h; rfl
 ·rw [h1] at h
  have : splitS (cutB s sp).2.1 = [] := by simpa using (List.cons.inj h).2
  rcases cut_pieces (cutB s sp).2.1 with ⟨_, h2, _⟩ | ⟨_, h2⟩ <;> rw [h2] at this <;> cases this
section
variable {S : List Nat} {w0 w : World} {its rest : List Thing}
end
abbrev y0 : Ins := (-1000, 0)
section
variable {S : List Nat} {w0 w : World} {its rest : List Thing}
end
theorem readG_len (s : ByteArray) : ∀ (f a : Nat) (st : Option RT) (r : RT), (∀ r0, st = some r0 → r0.code.length ≤ 2000) → readG s f a st = .ok r → r.code.length ≤ 2000
 | 0, a, st, r, _, h => by cases h
 | f + 1, a, st, r, hst, h => by
  unfold readG at h
  split at h
  ·rename_i hc
   cases st with
   | none => cases hc.1
   | some r0 =>
    cases h
    exact hst r0 rfl
  ·split at h
   ·cases h
   ·cases st with
    | none =>
     dsimp only at h
     split at h
     ·cases h
     ·exact readG_len s f _ _ r (fun r0 h0 => by cases h0; simp) h
    | some r0 =>
     dsimp only at h
     split at h
     ·rename_i hl
      split at h
      ·cases h
      ·exact readG_len s f _ _ r (fun r1 h1 => by cases h1; simp [rAdd]; omega) h
     ·cases h
theorem readM_len {s : ByteArray} {r : RT} (h : readM s = .ok r) : r.code.length ≤ 2000 :=
 readG_len s _ _ _ r (fun r0 h0 => by cases h0) h
end Go.Proofs.YtmfgofbcnlkolaaGreatDoor.F
end

section
namespace Go.Proofs.YtmfgofbcnlkolaaGreatDoor.FW
open F
open Go Go.Den Go.Proofs Go.RowKit
theorem dec_rt2 {w : World} {B m : Nat} {ci : List Value} (hl : ci.length = 4) (h : RdV Tryz.prog w B m 30 ci) : ∃ x : RV, ci = rtv x ∧ x.r.Ok ∧ (∃ o, SlR w x.sl 2 insv x.code o) ∧ x.nm.size ≤ 140737488355328 ∧ x.code.length ≤ 8796093022208 := by
 obtain ⟨x, h1, h2, h3, h4, _, _⟩ := dec_rt hl h
 obtain ⟨_, q, hf⟩ := rd_struct und30s h
 obtain ⟨s, l, e3, ⟨o, h6⟩, h7, _⟩ := dec_code (rd_field hf 3 (ft := 28) (off := 3) (sz := 1) (by kernel_rfl) cel28)
 subst h1
 obtain ⟨o', h3'⟩ := h3
 have e4 : s.len = x.sl.len := by
  simp only [rtv, List.drop_succ_cons, List.drop_zero, List.take_succ_cons, List.take_zero, List.cons.injEq, Value.slice.injEq, and_true] at e3
  exact e3.2.1.symm
 have e5 := h6.len
 have e6 := h3'.len
 exact ⟨x, rfl, h2, ⟨o', h3'⟩, h4, by omega⟩
end Go.Proofs.YtmfgofbcnlkolaaGreatDoor.FW
end

section
namespace Go.Proofs.YtmfgofbcnlkolaaGreatDoor.F
open Go Go.Den Go.Proofs
theorem sy_eq {a b : SY} : a = b ↔ a.A = b.A ∧ a.B = b.B ∧ a.C = b.C ∧ a.D = b.D ∧ a.run = b.run := by
 obtain ⟨a1, a2, a3, a4, a5⟩ := a
 obtain ⟨b1, b2, b3, b4, b5⟩ := b
 simp only [SY.mk.injEq]
theorem map_getE {α β : Type} {f : α → β} {l : List α} {k : Nat} {x : α} (h : l[k]? = some x) : (l.map f)[k]? = some (f x) := by rw [List.getElem?_map, h]; rfl
theorem take_eq_step {α : Type} {l m : List α} {k : Nat} {x y : α} (h : l.take k = m.take k) (hx : l[k]? = some x) (hy : m[k]? = some y) (e : x = y) : l.take (k + 1) = m.take (k + 1) := by
 rw [List.take_add_one, List.take_add_one, hx, hy, h, e]
theorem ne_at {α : Type} {l m : List α} {k : Nat} {x y : α} (hx : l[k]? = some x) (hy : m[k]? = some y) (e : x ≠ y) : l ≠ m := fun h => by
 rw [h, hy] at hx
 exact e (Option.some.inj hx).symm
set_option maxHeartbeats 4000000 in
theorem programs_spec {w : World} {s1 s2 t1 t2 : Sl} {p q : PG} (hs : RdS w s1 p.sys) (hr : RdR w s2 p.fns) (hs' : RdS w t1 q.sys) (hr' : RdR w t2 q.fns) (hok : p.Ok) (hn1 : p.sys.length ≤ 140737488355328) (hn2 : p.fns.length ≤ 140737488355328) {K : Bool → World → Prop}
  (hK : ∀ (r : Bool) w', (r = true ↔ p = q) → Hp [] w w' [] → K r w') : c18 s1 s2 t1 t2 w K := by
 refine c18_of ?_
 unfold f18
 obtain ⟨ss, fs⟩ := p
 obtain ⟨ss', fs'⟩ := q
 obtain ⟨xs, O1, rfl, h1⟩ := hs
 obtain ⟨ys, O2, rfl, h2⟩ := hr.thing
 obtain ⟨xs', O3, rfl, h3⟩ := hs'
 obtain ⟨ys', O4, rfl, h4⟩ := hr'.thing
 rw [List.length_map] at hn1 hn2
 have hS : ∀ x ∈ xs, x.m.Ok := fun x hx => hok.sys _ (List.mem_map_of_mem hx)
 have hF : ∀ y ∈ ys, y.r.Ok := fun y hy => hok.fns _ (List.mem_map_of_mem hy)
 have h : Hp [] w w [(tSys s1 xs).ro, (tRts s2 ys).ro, (tSys t1 xs').ro, (tRts t2 ys').ro] := ((((Hp.init w).addRo h1 (by simp)).addRo h2 (by simp)).addRo h3 (by simp)).addRo h4 (by simp)
 have e1 := h.lenU (u := (tSys s1 xs).ro) 0 rfl sys_reads
 have e2 := h.lenU (u := (tRts s2 ys).ro) 1 rfl rts_reads
 have e3 := h.lenU (u := (tSys t1 xs').ro) 2 rfl sys_reads
 have e4 := h.lenU (u := (tRts t2 ys').ro) 3 rfl rts_reads
 refine h.nw fun ab w1 h => ?_
 refine h.nw fun bb w1 h => ?_
 obtain ⟨its, hits⟩ : ∃ its, its = [(tSys s1 xs).ro, (tRts s2 ys).ro, (tSys t1 xs').ro, (tRts t2 ys').ro, tBlk ab 37 [.slice s1.a s1.len s1.cap, .slice s2.a s2.len s2.cap], tBlk bb 37 [.slice t1.a t1.len t1.cap, .slice t2.a t2.len t2.cap]] := ⟨_, rfl⟩
 have h : Hp [] w w1 its := by rw [hits]; exact h
 have bare : ∀ {w' : World}, Hp [] w w' its → Hp [] w w' [] := fun {w'} h => frNil h.fr
 have no : ∀ {w' : World}, ¬ ((⟨xs.map SV.m, ys.map RV.r⟩ : PG) = ⟨xs'.map SV.m, ys'.map RV.r⟩) → Hp [] w w' its → K false w' := fun {w'} hn h => hK false w' ⟨(fun e => by cases e), fun e => absurd e hn⟩ (bare h)
 have la : ∀ {w' : World} {B : List Thing} {G : Sl → Prop}, Hp [] w w' (its ++ B) → G s1 → Ld .sl w' ⟨ab, 0, none⟩ G := fun {w' B G} h hG => by rw [hits] at h; exact h.ld0 (k := .sl) (x := s1) 4 rfl rfl hG
 have la1 : ∀ {w' : World} {B : List Thing} {G : Sl → Prop}, Hp [] w w' (its ++ B) → G s2 → Ld .sl w' ((⟨ab, 0, none⟩ : Addr).add 1) G := fun {w' B G} h hG => by rw [hits] at h; exact h.ld (n := 1) (k := .sl) (x := s2) 4 rfl rfl hG
 have lb : ∀ {w' : World} {B : List Thing} {G : Sl → Prop}, Hp [] w w' (its ++ B) → G t1 → Ld .sl w' ⟨bb, 0, none⟩ G := fun {w' B G} h hG => by rw [hits] at h; exact h.ld0 (k := .sl) (x := t1) 5 rfl rfl hG
 have lb1 : ∀ {w' : World} {B : List Thing} {G : Sl → Prop}, Hp [] w w' (its ++ B) → G t2 → Ld .sl w' ((⟨bb, 0, none⟩ : Addr).add 1) G := fun {w' B G} h hG => by rw [hits] at h; exact h.ld (n := 1) (k := .sl) (x := t2) 5 rfl rfl hG
 have app0 : ∀ {w' : World}, Hp [] w w' its → Hp [] w w' (its ++ []) := fun h => by rw [List.append_nil]; exact h
 refine ⟨fun w' => xs.length = xs'.length ∧ ys.length = ys'.length ∧ Hp [] w w' its, ?_, ?_⟩
 ·refine la (app0 h) (lb (app0 h) ?_)
  by_cases hl : xs.length = xs'.length
  ·refine ifF (by simp; omega) ?_
   refine la1 (app0 h) (lb1 (app0 h) ?_)
   by_cases hl2 : ys.length = ys'.length
   ·exact ifF (by simp; omega) ⟨hl, hl2, h⟩
   ·exact ifT (by simp; omega) (no (fun e => hl2 (by have := congrArg (fun p : PG => p.fns.length) e; simpa using this)) h)
  ·exact ifT (by simp; omega) (no (fun e => hl (by have := congrArg (fun p : PG => p.sys.length) e; simpa using this)) h)
 clear h
 rintro w2 ⟨hl, hl2, h⟩
 refine ⟨fun i m w' => ∃ k : Nat, i = k ∧ k ≤ xs.length ∧ m = xs.length - k ∧ (xs.map SV.m).take k = (xs'.map SV.m).take k ∧ Hp [] w w' its, ⟨_, 0, rfl, by omega, rfl, rfl, h⟩, ?_⟩
 clear h
 rintro i m w3 ⟨k, rfl, hk, rfl, ht, h⟩
 refine la (app0 h) ?_
 by_cases hend : k = xs.length
 ·refine ifF (by simp; omega) ?_
  have hxx : xs.map SV.m = xs'.map SV.m := by
   rw [List.take_of_length_le (by simp; omega), List.take_of_length_le (by simp; omega)] at ht
   exact ht
  refine ⟨fun i m w' => ∃ k : Nat, i = k ∧ k ≤ ys.length ∧ m = ys.length - k ∧ (ys.map RV.r).take k = (ys'.map RV.r).take k ∧ Hp [] w w' its, ⟨_, 0, rfl, by omega, rfl, rfl, h⟩, ?_⟩
  clear h
  rintro i m w4 ⟨j, rfl, hj, rfl, ht2, h⟩
  refine la1 (app0 h) ?_
  by_cases hend2 : j = ys.length
  ·refine ifF (by simp; omega) ?_
   have hyy : ys.map RV.r = ys'.map RV.r := by
    rw [List.take_of_length_le (by simp; omega), List.take_of_length_le (by simp; omega)] at ht2
    exact ht2
   exact hK true w4 ⟨fun _ => by rw [hxx, hyy], fun _ => rfl⟩ (bare h)
  ·obtain ⟨y, hy⟩ : ∃ y, ys[j]? = some y := ⟨ys[j]'(by omega), List.getElem?_eq_getElem (by omega)⟩
   obtain ⟨z, hz⟩ : ∃ z, ys'[j]? = some z := ⟨ys'[j]'(by omega), List.getElem?_eq_getElem (by omega)⟩
   have hym := List.mem_of_getElem? hy
   have hzm := List.mem_of_getElem? hz
   refine ifT (by simp; omega) ?_
   refine h.dr fun w4 h => ?_
   refine la1 (app0 h) ?_
   refine rts_ld h 1 (by rw [hits]; rfl) hy ?_
   refine lb1 (app0 h) ?_
   refine rts_ld h 3 (by rw [hits]; rfl) hz ?_
   refine routines_spec (x := y) (y := z) h 1 3 (u := (tRts s2 ys).ro) (v := (tRts t2 ys').ro) (by rw [hits]; rfl) (rts_code hym) (by rw [hits]; rfl) (rts_code hzm) (hF y hym).len fun ok w4 hok h => ?_
   by_cases he : y.r = z.r
   ·obtain rfl := hok.2 he
    refine ifF (by decide) ?_
    exact ⟨ys.length - (j + 1), by omega, j + 1, by rw [wr64 (by omega) (by omega)]; omega, by omega, rfl, take_eq_step ht2 (map_getE hy) (map_getE hz) he, h⟩
   ·have : ok = false := by
     cases ok
     ·rfl
     ·exact absurd (hok.1 rfl) he
    subst this
    exact ifT rfl (no (fun e => ne_at (map_getE (f := RV.r) hy) (map_getE hz) he (congrArg PG.fns e)) h)
 ·obtain ⟨x, hx⟩ : ∃ x, xs[k]? = some x := ⟨xs[k]'(by omega), List.getElem?_eq_getElem (by omega)⟩
  obtain ⟨z, hz⟩ : ∃ z, xs'[k]? = some z := ⟨xs'[k]'(by omega), List.getElem?_eq_getElem (by omega)⟩
  have hxm := List.mem_of_getElem? hx
  have hzm := List.mem_of_getElem? hz
  have hxl := (hS x hxm).lens
  refine ifT (by simp; omega) ?_
  refine la (app0 h) ?_
  refine sys_ld h 0 (by rw [hits]; rfl) hx ?_
  refine sys_copy h x fun xb w3 h => ?_
  refine lb h ?_
  refine sys_ld h 2 (by rw [hits]; rfl) hz ?_
  refine sys_copy h z fun yb w3 h => ?_
  have h : Hp [] w w3 (its ++ ([tBlk xb 54 (syv x)] ++ [tBlk yb 54 (syv z)])) := by rw [← List.append_assoc]; exact h
  have g0 : ∀ {w' : World}, Hp [] w w' (its ++ ([tBlk xb 54 (syv x)] ++ [tBlk yb 54 (syv z)])) → Hp [] w w' its := fun h => h.front
  obtain ⟨its2, hits2⟩ : ∃ its2, its2 = its ++ ([tBlk xb 54 (syv x)] ++ [tBlk yb 54 (syv z)]) := ⟨_, rfl⟩
  rw [← hits2] at h g0
  have n6 : its.length = 6 := by rw [hits]; rfl
  have i0 : (its2[0]?).map Thing.holds = some (tSys s1 xs).ro.holds := by rw [hits2, hits]; rfl
  have i2 : (its2[2]?).map Thing.holds = some (tSys t1 xs').ro.holds := by rw [hits2, hits]; rfl
  have i6 : (its2[6]?).map Thing.holds = some (tBlk xb 54 (syv x)).holds := by rw [hits2, hits]; rfl
  have i7 : (its2[7]?).map Thing.holds = some (tBlk yb 54 (syv z)).holds := by rw [hits2, hits]; rfl
  refine ⟨fun one w' => (one = true ↔ x.A = z.A ∧ x.B = z.B ∧ x.C = z.C ∧ x.D = z.D) ∧ Hp [] w w' its2, ?_, ?_⟩
  ·refine h.ld0 (k := .sl) (x := x.a) 6 i6 rfl ?_
   refine h.ld0 (k := .sl) (x := z.a) 7 i7 rfl ?_
   refine setsEq_spec h 0 2 i0 (sys_set hxm (y := (x.a, x.A)) (by simp [SV.sls])) i2 (sys_set hzm (y := (z.a, z.A)) (by simp [SV.sls])) (hxl _ (by simp [SV.m, SY.sets])) fun w3 h => ?_
   by_cases d1 : x.A = z.A
   ·refine ifT (by simpa using d1) ?_
    refine h.ld (n := 1) (k := .sl) (x := x.b) 6 i6 rfl ?_
    refine h.ld (n := 1) (k := .sl) (x := z.b) 7 i7 rfl ?_
    refine setsEq_spec h 0 2 i0 (sys_set hxm (y := (x.b, x.B)) (by simp [SV.sls])) i2 (sys_set hzm (y := (z.b, z.B)) (by simp [SV.sls])) (hxl _ (by simp [SV.m, SY.sets])) fun w3 h => ?_
    by_cases d2 : x.B = z.B
    ·refine ifT (by simpa using d2) ?_
     refine h.ld (n := 2) (k := .sl) (x := x.c) 6 i6 rfl ?_
     refine h.ld (n := 2) (k := .sl) (x := z.c) 7 i7 rfl ?_
     refine setsEq_spec h 0 2 i0 (sys_set hxm (y := (x.c, x.C)) (by simp [SV.sls])) i2 (sys_set hzm (y := (z.c, z.C)) (by simp [SV.sls])) (hxl _ (by simp [SV.m, SY.sets])) fun w3 h => ?_
     by_cases d3 : x.C = z.C
     ·refine ifT (by simpa using d3) ?_
      refine h.ld (n := 3) (k := .sl) (x := x.d) 6 i6 rfl ?_
      refine h.ld (n := 3) (k := .sl) (x := z.d) 7 i7 rfl ?_
      refine setsEq_spec h 0 2 i0 (sys_set hxm (y := (x.d, x.D)) (by simp [SV.sls])) i2 (sys_set hzm (y := (z.d, z.D)) (by simp [SV.sls])) (hxl _ (by simp [SV.m, SY.sets])) fun w3 h => ?_
      exact ⟨by simp [d1, d2, d3], h⟩
     ·exact ifF (by simpa using d3) ⟨by simp [d3], h⟩
    ·exact ifF (by simpa using d2) ⟨by simp [d2], h⟩
   ·exact ifF (by simpa using d1) ⟨by simp [d1], h⟩
  clear h
  rintro one w5 ⟨hone, h⟩
  refine h.lda (n := 4) (m := 0) (k := .s) (x := x.run.nm) 6 i6 rfl ?_
  refine h.lda (n := 4) (m := 1) (k := .i .i64) (x := x.run.pa) 6 i6 rfl ?_
  refine h.lda (n := 4) (m := 2) (k := .i .i64) (x := x.run.lo) 6 i6 rfl ?_
  refine h.lda (n := 4) (m := 3) (k := .sl) (x := x.run.sl) 6 i6 rfl ?_
  refine h.lda (n := 4) (m := 0) (k := .s) (x := z.run.nm) 7 i7 rfl ?_
  refine h.lda (n := 4) (m := 1) (k := .i .i64) (x := z.run.pa) 7 i7 rfl ?_
  refine h.lda (n := 4) (m := 2) (k := .i .i64) (x := z.run.lo) 7 i7 rfl ?_
  refine h.lda (n := 4) (m := 3) (k := .sl) (x := z.run.sl) 7 i7 rfl ?_
  refine routines_spec (x := x.run) (y := z.run) h 0 2 i0 (sys_code hxm) i2 (sys_code hzm) (hS x hxm).run.len fun two w5 h2 h => ?_
  by_cases he : x.m = z.m
  ·have he' := sy_eq.1 he
   obtain rfl := hone.2 ⟨he'.1, he'.2.1, he'.2.2.1, he'.2.2.2.1⟩
   obtain rfl := h2.2 he'.2.2.2.2
   refine ifF (by decide) ?_
   exact ⟨xs.length - (k + 1), by omega, k + 1, by rw [wr64 (by omega) (by omega)]; omega, by omega, rfl, take_eq_step ht (map_getE hx) (map_getE hz) he, g0 h⟩
  ·have hb : cond (!one) true (!two) = true := by
    cases h1 : one
    ·rfl
    ·cases h2' : two
     ·rfl
     ·exfalso
      have a1 := hone.1 h1
      exact he (sy_eq.2 ⟨a1.1, a1.2.1, a1.2.2.1, a1.2.2.2, h2.1 h2'⟩)
   exact ifT hb (no (fun e => ne_at (map_getE (f := SV.m) hx) (map_getE hz) he (congrArg PG.sys e)) (g0 h))
def Stands (l : List Int) (a : Nat) (e : List Int) : Prop := l.drop a = e ++ l.drop (a + e.length)
theorem Stands.app {l : List Int} {a : Nat} {e f : List Int} : Stands l a (e ++ f) ↔ Stands l a e ∧ Stands l (a + e.length) f := by
 unfold Stands
 constructor
 ·intro h
  have h2 : l.drop (a + e.length) = f ++ l.drop (a + (e ++ f).length) := by
   rw [← List.drop_drop, h, List.append_assoc, List.drop_left]
  refine ⟨by rw [h2, ← List.append_assoc]; exact h, ?_⟩
  rw [h2, List.length_append]
  congr 2
  omega
 ·rintro ⟨h1, h2⟩
  rw [h1, h2, List.append_assoc, List.length_append]
  congr 3
  omega
theorem Stands.nil {l : List Int} {a : Nat} : Stands l a [] := by unfold Stands; simp
theorem bnd_inv {α β : Type} {x : DR α} {f : α → Nat → Except Nat β} {z : β} (h : bnd x f = .ok z) : ∃ y n, x = .ok (y, n) ∧ f y n = .ok z := by
 match x with
 | .error e => cases h
 | .ok (y, n) => exact ⟨y, n, rfl, h⟩
theorem num_to {l : List Int} {least most x : Int} {a : Nat} (h0 : 0 ≤ x) (h1 : x < 18446744073709551616) (h2 : least ≤ x) (h3 : x ≤ most) (h : Stands l a (putU x)) : numD l least most a = .ok (x, a + (putU x).length) := by
 unfold Stands at h
 unfold numD
 rw [h, getU_put h0 h1, if_neg]
 ·simp
 ·have := putU_pos x
  simp only
  omega
theorem stands_getU {l : List Int} {a : Nat} (hb : Bytes l) (hk : (getU (l.drop a)).2 ≠ 0) : Stands l a (putU (getU (l.drop a)).1) ∧ (putU (getU (l.drop a)).1).length = (getU (l.drop a)).2.toNat := by
 have hbd : Bytes (l.drop a) := fun x hx => hb x (List.mem_of_mem_drop hx)
 have h1 := getU_back hbd hk
 obtain ⟨r1, r2, r3, r4, r5, r6⟩ := getU_range hbd
 have h2 : (putU (getU (l.drop a)).1).length = (getU (l.drop a)).2.toNat := by
  rw [h1, List.length_take]; omega
 refine ⟨?_, h2⟩
 unfold Stands
 rw [h2, h1, ← List.drop_drop, List.take_append_drop]
theorem num_of {l : List Int} {least most x : Int} {a a' : Nat} (hb : Bytes l) (h : numD l least most a = .ok (x, a')) : least ≤ x ∧ x ≤ most ∧ 0 ≤ x ∧ Stands l a (putU x) ∧ a' = a + (putU x).length := by
 obtain ⟨h1, h2, h3, _, _, h4, h5, h6⟩ := numD_ok hb h
 obtain ⟨s1, s2⟩ := stands_getU hb h6
 rw [← h4] at s1 s2
 exact ⟨h1, h2, h3, s1, by rw [s2, h5]⟩
theorem int_to {l : List Int} {x : Int} {a : Nat} (h0 : -9223372036854775808 ≤ x) (h1 : x ≤ 9223372036854775807) (h : Stands l a (putU (zig x))) : intD l a = .ok (x, a + (putU (zig x)).length) := by
 unfold Stands at h
 have hz := zig_range h0 h1
 unfold intD getI
 rw [h, getU_put hz.1 hz.2, if_neg]
 ·simp [zag_zig]
 ·have := putU_pos (zig x)
  simp only
  omega
theorem int_of {l : List Int} {x : Int} {a a' : Nat} (hb : Bytes l) (h : intD l a = .ok (x, a')) : (-9223372036854775808 ≤ x ∧ x ≤ 9223372036854775807) ∧ Stands l a (putU (zig x)) ∧ a' = a + (putU (zig x)).length := by
 obtain ⟨_, _, h3⟩ := intD_ok hb h
 refine ⟨h3, ?_⟩
 unfold intD at h
 split at h
 ·cases h
 ·rename_i hn
  simp only [Except.ok.injEq, Prod.mk.injEq] at h
  unfold getI at hn h
  dsimp only at hn h
  obtain ⟨s1, s2⟩ := stands_getU hb hn
  obtain ⟨r1, _⟩ := getU_range (l := l.drop a) (fun x hx => hb x (List.mem_of_mem_drop hx))
  have e : (getU (l.drop a)).1 = zig x := by rw [← h.1, zig_zag r1]
  rw [e] at s1 s2
  exact ⟨s1, by rw [s2, ← h.2]⟩
theorem text_to {l : List Int} {s : ByteArray} {a : Nat} (h0 : 1 ≤ s.size) (h1 : s.size ≤ 16) (h : Stands l a (encT s)) : textD l a = .ok (s, a + (encT s).length) := by
 unfold Stands encT at h
 unfold textD getT
 have hs := strL_size s
 rw [h, List.append_assoc, getU_put (by omega) (by omega)]
 have hp := putU_pos s.size
 have hc : ¬ ((((s.size : Int), ((putU s.size).length : Int)).2 = 0) ∨ (((putU s.size ++ (strL s ++ l.drop (a + (putU s.size ++ strL s).length))).length : Nat) : Int) - ((s.size : Int), ((putU s.size).length : Int)).2 < ((s.size : Int), ((putU s.size).length : Int)).1) := by
  simp only [List.length_append]
  omega
 rw [if_neg hc]
 have e1 : ((putU s.size ++ (strL s ++ l.drop (a + (putU s.size ++ strL s).length))).drop ((s.size : Int), ((putU s.size).length : Int)).2.toNat).take ((s.size : Int), ((putU s.size).length : Int)).1.toNat = strL s := by
  simp only [Int.toNat_natCast, List.drop_left]
  rw [← hs, List.take_left]
 rw [e1, if_neg (by simp only; omega), strL_inj (strL_of (strL_bytes s))]
 unfold encT
 rw [List.length_append, hs]
 simp only [Except.ok.injEq, Prod.mk.injEq, true_and]
 omega
theorem text_of {l : List Int} {s : ByteArray} {a a' : Nat} (hb : Bytes l) (h : textD l a = .ok (s, a')) : (1 ≤ s.size ∧ s.size ≤ 16) ∧ Stands l a (encT s) ∧ a' = a + (encT s).length := by
 obtain ⟨_, _, h3, h4⟩ := textD_ok hb h
 refine ⟨⟨h3, h4⟩, ?_⟩
 have hbd : Bytes (l.drop a) := fun x hx => hb x (List.mem_of_mem_drop hx)
 unfold textD at h
 split at h
 ·cases h
 ·rename_i hn
  simp only [Except.ok.injEq, Prod.mk.injEq] at h
  unfold getT at hn h
  split at hn
  ·simp at hn
  ·rename_i hq
   rw [if_neg hq] at h
   dsimp only at h
   obtain ⟨s1, s2⟩ := stands_getU hb (a := a) (by omega)
   obtain ⟨r1, r2, r3, r4, r5, r6⟩ := getU_range hbd
   have e1 : strL s = ((l.drop a).drop (getU (l.drop a)).2.toNat).take (getU (l.drop a)).1.toNat := by
    rw [← h.1, strL_of (bytes_take (bytes_drop hbd _) _)]
   have e2 : s.size = (getU (l.drop a)).1.toNat := by
    rw [← strL_size, e1, List.length_take, List.length_drop]; omega
   have e3 : ((s.size : Nat) : Int) = (getU (l.drop a)).1 := by omega
   unfold encT
   rw [e3, Stands.app, List.length_append, strL_size, e2]
   refine ⟨⟨s1, ?_⟩, by omega⟩
   unfold Stands
   rw [strL_size, e2, e1, s2, List.drop_drop]
   have := (List.take_append_drop (getU (l.drop a)).1.toNat (l.drop (a + (getU (l.drop a)).2.toNat))).symm
   rw [List.drop_drop] at this
   exact this
def GoodI (x : Ins) : Prop := insOk x = true ∧ -9223372036854775808 ≤ x.2 ∧ x.2 ≤ 9223372036854775807
theorem ins_to {l : List Int} {x : Ins} {a : Nat} (hg : GoodI x) (h : Stands l a (encIns x)) : insD l a = .ok (x, a + (encIns x).length) := by
 obtain ⟨h1, h2, h3⟩ := hg
 obtain ⟨h4, h5⟩ := insOk_iff.1 h1
 unfold encIns at h ⊢
 rw [Stands.app] at h
 unfold isOpM at h4
 rw [decide_eq_true_iff] at h4
 unfold insD
 rw [num_to (by omega) (by omega) h4.1 h4.2 h.1, bnd_ok]
 by_cases hn : (row x.1).num = true
 ·rw [if_pos hn] at h ⊢
  rw [if_pos hn, int_to h2 h3 h.2, bnd_ok, List.length_append, Nat.add_assoc]
 ·rw [if_neg hn] at h ⊢
  rw [if_neg hn]
  rcases h5 with h5 | h5
  ·exact absurd h5 hn
  ·obtain ⟨p, q⟩ := x
   simp only at h5
   subst h5
   simp
theorem ins_of {l : List Int} {x : Ins} {a a' : Nat} (hb : Bytes l) (h : insD l a = .ok (x, a')) : GoodI x ∧ Stands l a (encIns x) ∧ a' = a + (encIns x).length := by
 unfold insD at h
 obtain ⟨op, a1, h1, h⟩ := bnd_inv h
 obtain ⟨n1, n2, n3, n4, n5⟩ := num_of hb h1
 have hop : isOpM op = true := by unfold isOpM; rw [decide_eq_true_iff]; omega
 by_cases hn : (row op).num = true
 ·rw [if_pos hn] at h
  obtain ⟨v, a2, h2, h⟩ := bnd_inv h
  obtain ⟨m1, m2, m3⟩ := int_of hb h2
  cases h
  refine ⟨⟨insOk_iff.2 ⟨hop, .inl hn⟩, m1.1, m1.2⟩, ?_⟩
  unfold encIns
  rw [if_pos hn, Stands.app, List.length_append]
  subst n5 m3
  exact ⟨⟨n4, m2⟩, by dsimp only; omega⟩
 ·rw [if_neg hn] at h
  cases h
  refine ⟨⟨insOk_iff.2 ⟨hop, .inr rfl⟩, by show (-9223372036854775808 : Int) ≤ 0; decide, by show (0 : Int) ≤ 9223372036854775807; decide⟩, ?_⟩
  unfold encIns
  rw [if_neg hn, List.append_nil]
  exact ⟨n4, n5⟩
theorem code_to {l : List Int} : ∀ {c : List Ins} {a : Nat}, (∀ x ∈ c, GoodI x) → Stands l a (c.flatMap encIns) → codeF l c.length a = .ok (c, a + (c.flatMap encIns).length)
 | [], a, _, _ => rfl
 | x :: c, a, hg, h => by
  rw [List.flatMap_cons, Stands.app] at h
  rw [List.length_cons, codeF, ins_to (hg x (by simp)) h.1, bnd_ok, code_to (fun y hy => hg y (by simp [hy])) h.2, bnd_ok, List.flatMap_cons, List.length_append, Nat.add_assoc]
theorem code_of {l : List Int} (hb : Bytes l) : ∀ {k : Nat} {c : List Ins} {a a' : Nat}, codeF l k a = .ok (c, a') → c.length = k ∧ (∀ x ∈ c, GoodI x) ∧ Stands l a (c.flatMap encIns) ∧ a' = a + (c.flatMap encIns).length
 | 0, c, a, a', h => by
  rw [codeF] at h
  cases h
  exact ⟨rfl, by simp, Stands.nil, rfl⟩
 | k + 1, c, a, a', h => by
  rw [codeF] at h
  obtain ⟨x, a1, h1, h⟩ := bnd_inv h
  obtain ⟨r, a2, h2, h⟩ := bnd_inv h
  cases h
  obtain ⟨g1, g2, g3⟩ := ins_of hb h1
  subst g3
  obtain ⟨q1, q2, q3, q4⟩ := code_of hb h2
  subst q4
  refine ⟨by rw [List.length_cons, q1], fun y hy => ?_, ?_, ?_⟩
  ·rcases List.mem_cons.1 hy with rfl | hy
   ·exact g1
   ·exact q2 y hy
  ·rw [List.flatMap_cons, Stands.app]; exact ⟨g2, q3⟩
  ·rw [List.flatMap_cons, List.length_append]; omega
theorem setF_to {l : List Int} : ∀ {s : List Int} {last : Int} {a : Nat}, 0 ≤ last → risesF last s = true → Stands l a (s.flatMap putU) → setF l s.length last a = .ok (s, a + (s.flatMap putU).length)
 | [], _, a, _, _, _ => rfl
 | x :: s, last, a, h0, hg, h => by
  unfold risesF at hg
  rw [Bool.and_eq_true, decide_eq_true_iff] at hg
  rw [List.flatMap_cons, Stands.app] at h
  rw [List.length_cons, setF, num_to (by omega) (by omega) (by omega) hg.1.2 h.1, bnd_ok, setF_to (by omega) hg.2 h.2, bnd_ok, List.flatMap_cons, List.length_append, Nat.add_assoc]
theorem setF_of {l : List Int} (hb : Bytes l) : ∀ {k : Nat} {s : List Int} {last : Int} {a a' : Nat}, setF l k last a = .ok (s, a') → s.length = k ∧ risesF last s = true ∧ Stands l a (s.flatMap putU) ∧ a' = a + (s.flatMap putU).length
 | 0, s, last, a, a', h => by
  rw [setF] at h
  cases h
  exact ⟨rfl, rfl, Stands.nil, rfl⟩
 | k + 1, s, last, a, a', h => by
  rw [setF] at h
  obtain ⟨x, a1, h1, h⟩ := bnd_inv h
  obtain ⟨r, a2, h2, h⟩ := bnd_inv h
  cases h
  obtain ⟨g1, g2, _, g3, g4⟩ := num_of hb h1
  subst g4
  obtain ⟨q1, q2, q3, q4⟩ := setF_of hb h2
  subst q4
  refine ⟨by rw [List.length_cons, q1], ?_, ?_, ?_⟩
  ·unfold risesF
   rw [Bool.and_eq_true, decide_eq_true_iff]
   exact ⟨⟨by omega, g2⟩, q2⟩
  ·rw [List.flatMap_cons, Stands.app]; exact ⟨g3, q3⟩
  ·rw [List.flatMap_cons, List.length_append]; omega
theorem setD_to {l s : List Int} {a : Nat} (hg : risesM s = true) (h : Stands l a (encSet s)) : setD l a = .ok (s, a + (encSet s).length) := by
 have hl := risesM_len hg
 unfold encSet at h ⊢
 rw [Stands.app] at h
 unfold setD
 rw [num_to (by omega) (by omega) (by omega) (by omega) h.1, bnd_ok, Int.toNat_natCast, setF_to (by decide) hg h.2, List.length_append, Nat.add_assoc]
theorem setD_of {l s : List Int} {a a' : Nat} (hb : Bytes l) (h : setD l a = .ok (s, a')) : risesM s = true ∧ Stands l a (encSet s) ∧ a' = a + (encSet s).length := by
 unfold setD at h
 obtain ⟨n, a1, h1, h⟩ := bnd_inv h
 obtain ⟨g1, g2, g3, g4, g5⟩ := num_of hb h1
 subst g5
 obtain ⟨q1, q2, q3, q4⟩ := setF_of hb h
 subst q4
 have e : n = (s.length : Int) := by omega
 subst e
 refine ⟨q2, ?_, ?_⟩
 ·unfold encSet; rw [Stands.app]; exact ⟨g4, q3⟩
 ·unfold encSet; rw [List.length_append]; omega
theorem sets_to {l : List Int} : ∀ {c : List (List Int)} {a : Nat}, (∀ x ∈ c, risesM x = true) → Stands l a (c.flatMap encSet) → setsF l c.length a = .ok (c, a + (c.flatMap encSet).length)
 | [], a, _, _ => rfl
 | x :: c, a, hg, h => by
  rw [List.flatMap_cons, Stands.app] at h
  rw [List.length_cons, setsF, setD_to (hg x (by simp)) h.1, bnd_ok, sets_to (fun y hy => hg y (by simp [hy])) h.2, bnd_ok, List.flatMap_cons, List.length_append, Nat.add_assoc]
theorem sets_of {l : List Int} (hb : Bytes l) : ∀ {k : Nat} {c : List (List Int)} {a a' : Nat}, setsF l k a = .ok (c, a') → c.length = k ∧ (∀ x ∈ c, risesM x = true) ∧ Stands l a (c.flatMap encSet) ∧ a' = a + (c.flatMap encSet).length
 | 0, c, a, a', h => by
  rw [setsF] at h
  cases h
  exact ⟨rfl, by simp, Stands.nil, rfl⟩
 | k + 1, c, a, a', h => by
  rw [setsF] at h
  obtain ⟨x, a1, h1, h⟩ := bnd_inv h
  obtain ⟨r, a2, h2, h⟩ := bnd_inv h
  cases h
  obtain ⟨g1, g2, g3⟩ := setD_of hb h1
  subst g3
  obtain ⟨q1, q2, q3, q4⟩ := sets_of hb h2
  subst q4
  refine ⟨by rw [List.length_cons, q1], fun y hy => ?_, ?_, ?_⟩
  ·rcases List.mem_cons.1 hy with rfl | hy
   ·exact g1
   ·exact q2 y hy
  ·rw [List.flatMap_cons, Stands.app]; exact ⟨g2, q3⟩
  ·rw [List.flatMap_cons, List.length_append]; omega
def GoodR (r : RT) : Prop := rtOk r = true ∧ ∀ x ∈ r.code, -9223372036854775808 ≤ x.2 ∧ x.2 ≤ 9223372036854775807
theorem GoodR.ins {r : RT} (h : GoodR r) : ∀ x ∈ r.code, GoodI x := fun x hx => ⟨by
 have := (rtOk_iff.1 h.1).1
 unfold codeOk at this
 exact List.all_eq_true.1 this x hx, h.2 x hx⟩
theorem rt_to {l : List Int} {r : RT} {left : Int} {a : Nat} (hg : GoodR r) (hl : (r.code.length : Int) ≤ left) (hl2 : left ≤ 2000) (h : Stands l a (encRt r)) : rtD l left a = .ok ((r, left - r.code.length), a + (encRt r).length) := by
 obtain ⟨k1, k2, k3⟩ := rtOk_iff.1 hg.1
 unfold encRt at h ⊢
 rw [Stands.app, Stands.app, Stands.app, Stands.app] at h
 obtain ⟨⟨⟨⟨h1, h2⟩, h3⟩, h4⟩, h5⟩ := h
 simp only [List.length_append] at h2 h3 h4 h5
 unfold rtD
 rw [text_to k2.1 k2.2 h1, bnd_ok, num_to (by omega) (by omega) (by omega) (by omega) h2, bnd_ok]
 rw [← Nat.add_assoc] at h3
 rw [num_to (by omega) (by omega) (by omega) (by omega) h3, bnd_ok]
 rw [← Nat.add_assoc, ← Nat.add_assoc] at h4
 rw [num_to (by omega) (by omega) (by omega) hl h4, bnd_ok, Int.toNat_natCast]
 rw [← Nat.add_assoc, ← Nat.add_assoc, ← Nat.add_assoc] at h5
 rw [code_to hg.ins h5, bnd_ok]
 simp only [List.length_append, Nat.add_assoc]
theorem rt_of {l : List Int} {r : RT} {left left' : Int} {a a' : Nat} (hb : Bytes l) (h : rtD l left a = .ok ((r, left'), a')) : GoodR r ∧ (r.code.length : Int) ≤ left ∧ left' = left - r.code.length ∧ Stands l a (encRt r) ∧ a' = a + (encRt r).length := by
 unfold rtD at h
 obtain ⟨nm, a1, h1, h⟩ := bnd_inv h
 obtain ⟨pa, a2, h2, h⟩ := bnd_inv h
 obtain ⟨lo, a3, h3, h⟩ := bnd_inv h
 obtain ⟨n, a4, h4, h⟩ := bnd_inv h
 obtain ⟨code, a5, h5, h⟩ := bnd_inv h
 cases h
 obtain ⟨t1, t2, t3⟩ := text_of hb h1
 obtain ⟨p1, p2, p3, p4, p5⟩ := num_of hb h2
 obtain ⟨q1, q2, q3, q4, q5⟩ := num_of hb h3
 obtain ⟨m1, m2, m3, m4, m5⟩ := num_of hb h4
 obtain ⟨c1, c2, c3, c4⟩ := code_of hb h5
 have e : n = (code.length : Int) := by omega
 subst e
 subst t3 p5 q5 m5 c4
 refine ⟨⟨rtOk_iff.2 ⟨?_, t1, by dsimp only; omega⟩, fun x hx => (c2 x hx).2⟩, m2, rfl, ?_, ?_⟩
 ·unfold codeOk
  exact List.all_eq_true.2 fun x hx => (c2 x hx).1
 ·unfold encRt
  rw [Stands.app, Stands.app, Stands.app, Stands.app]
  simp only [List.length_append, ← Nat.add_assoc]
  exact ⟨⟨⟨⟨t2, p4⟩, q4⟩, m4⟩, c3⟩
 ·unfold encRt
  simp only [List.length_append, ← Nat.add_assoc]
def GoodS (s : SY) : Prop := (∀ x ∈ s.sets, risesM x = true) ∧ GoodR s.run
theorem sums_cons {s : SY} {t : List SY} : codeSum ((s :: t).map SY.run) = s.run.code.length + codeSum (t.map SY.run) := by simp [codeSum]
theorem sumf_cons {s : RT} {t : List RT} : codeSum (s :: t) = s.code.length + codeSum t := by simp [codeSum]
theorem syOf_sets {x : List (List Int)} {r : RT} (h : x.length = 4) : (syOf x r).sets = x := by
 match x, h with
 | [x1, x2, x3, x4], _ => rfl
theorem sys_to {l : List Int} : ∀ {c : List SY} {left : Int} {a : Nat}, (∀ x ∈ c, GoodS x) → (codeSum (c.map SY.run) : Int) ≤ left → left ≤ 2000 → Stands l a (c.flatMap encSy) → sysF l c.length left a = .ok ((c, left - codeSum (c.map SY.run)), a + (c.flatMap encSy).length)
 | [], left, a, _, _, _, _ => by simp [sysF, codeSum]
 | x :: c, left, a, hg, hl, hl2, h => by
  rw [sums_cons] at hl
  rw [List.flatMap_cons, Stands.app] at h
  obtain ⟨h1, h2⟩ := h
  have hx := hg x (by simp)
  unfold encSy at h1
  rw [Stands.app] at h1
  have e4 : x.sets.length = 4 := rfl
  have h3 := sets_to (l := l) (a := a) hx.1 h1.1
  rw [e4] at h3
  rw [List.length_cons, sysF, h3, bnd_ok, rt_to hx.2 (by omega) hl2 h1.2, bnd_ok]
  have ex : (encSy x).length = (x.sets.flatMap encSet).length + (encRt x.run).length := by unfold encSy; rw [List.length_append]
  rw [ex, ← Nat.add_assoc] at h2
  rw [sys_to (fun y hy => hg y (by simp [hy])) (by omega) (by omega) h2, bnd_ok, List.flatMap_cons, List.length_append, ex, sums_cons]
  have e1 : syOf x.sets x.run = x := rfl
  rw [e1]
  simp only [Except.ok.injEq, Prod.mk.injEq, true_and]
  omega
theorem sys_of {l : List Int} (hb : Bytes l) : ∀ {k : Nat} {c : List SY} {left left' : Int} {a a' : Nat}, sysF l k left a = .ok ((c, left'), a') → c.length = k ∧ (∀ x ∈ c, GoodS x) ∧ left' = left - codeSum (c.map SY.run) ∧ (0 ≤ left → 0 ≤ left') ∧ Stands l a (c.flatMap encSy) ∧ a' = a + (c.flatMap encSy).length
 | 0, c, left, left', a, a', h => by
  rw [sysF] at h
  cases h
  exact ⟨rfl, by simp, by simp [codeSum], id, Stands.nil, rfl⟩
 | k + 1, c, left, left', a, a', h => by
  rw [sysF] at h
  obtain ⟨x, a1, h1, h⟩ := bnd_inv h
  obtain ⟨⟨r, lf⟩, a2, h2, h⟩ := bnd_inv h
  obtain ⟨⟨t, lf2⟩, a3, h3, h⟩ := bnd_inv h
  dsimp only at h h3
  cases h
  obtain ⟨g1, g2, g3, g4⟩ := sets_of hb h1
  obtain ⟨r1, r2, r3, r4, r5⟩ := rt_of hb h2
  obtain ⟨q1, q2, q3, q4, q5, q6⟩ := sys_of hb h3
  subst g4 r5 q6
  have ex : (syOf x r).sets = x := syOf_sets g1
  have er : (syOf x r).run = r := rfl
  refine ⟨by rw [List.length_cons, q1], fun y hy => ?_, ?_, by omega, ?_, ?_⟩
  ·rcases List.mem_cons.1 hy with rfl | hy
   ·exact ⟨by rw [ex]; exact g2, r1⟩
   ·exact q2 y hy
  ·rw [sums_cons, er]; omega
  ·rw [List.flatMap_cons, Stands.app]
   unfold encSy
   rw [ex, er, Stands.app, List.length_append, ← Nat.add_assoc]
   exact ⟨⟨g3, r4⟩, q5⟩
  ·rw [List.flatMap_cons, List.length_append]
   unfold encSy
   rw [ex, er, List.length_append]
   omega
theorem fns_to {l : List Int} : ∀ {c : List RT} {left : Int} {a : Nat}, (∀ x ∈ c, GoodR x) → (codeSum c : Int) ≤ left → left ≤ 2000 → Stands l a (c.flatMap encRt) → fnsF l c.length left a = .ok ((c, left - codeSum c), a + (c.flatMap encRt).length)
 | [], left, a, _, _, _, _ => by simp [fnsF, codeSum]
 | x :: c, left, a, hg, hl, hl2, h => by
  rw [sumf_cons] at hl
  rw [List.flatMap_cons, Stands.app] at h
  rw [List.length_cons, fnsF, rt_to (hg x (by simp)) (by omega) hl2 h.1, bnd_ok, fns_to (fun y hy => hg y (by simp [hy])) (by omega) (by omega) h.2, bnd_ok, List.flatMap_cons, List.length_append, sumf_cons]
  simp only [Except.ok.injEq, Prod.mk.injEq, true_and]
  omega
theorem fns_of {l : List Int} (hb : Bytes l) : ∀ {k : Nat} {c : List RT} {left left' : Int} {a a' : Nat}, fnsF l k left a = .ok ((c, left'), a') → c.length = k ∧ (∀ x ∈ c, GoodR x) ∧ left' = left - codeSum c ∧ (0 ≤ left → 0 ≤ left') ∧ Stands l a (c.flatMap encRt) ∧ a' = a + (c.flatMap encRt).length
 | 0, c, left, left', a, a', h => by
  rw [fnsF] at h
  cases h
  exact ⟨rfl, by simp, by simp [codeSum], id, Stands.nil, rfl⟩
 | k + 1, c, left, left', a, a', h => by
  rw [fnsF] at h
  obtain ⟨⟨r, lf⟩, a2, h2, h⟩ := bnd_inv h
  obtain ⟨⟨t, lf2⟩, a3, h3, h⟩ := bnd_inv h
  dsimp only at h h3
  cases h
  obtain ⟨r1, r2, r3, r4, r5⟩ := rt_of hb h2
  obtain ⟨q1, q2, q3, q4, q5, q6⟩ := fns_of hb h3
  subst r5 q6
  refine ⟨by rw [List.length_cons, q1], fun y hy => ?_, ?_, by omega, ?_, ?_⟩
  ·rcases List.mem_cons.1 hy with rfl | hy
   ·exact r1
   ·exact q2 y hy
  ·rw [sumf_cons]; omega
  ·rw [List.flatMap_cons, Stands.app]; exact ⟨r4, q5⟩
  ·rw [List.flatMap_cons, List.length_append]; omega
theorem GoodR.of {r : RT} (h : rtOk r = true) (hr : r.Ok) : GoodR r := ⟨h, hr.rng⟩
theorem pg_to {p : PG} (hm : mayM p = true) (hok : p.Ok) : pgD (encPg p) = .ok p := by
 obtain ⟨m1, m2, m3, m4, m5⟩ := mayM_iff.1 hm
 unfold PG.rts at m5
 rw [sum_append] at m5
 have hs : Stands (encPg p) 0 (encPg p) := by unfold Stands; simp
 obtain ⟨l, hl⟩ : ∃ l, l = encPg p := ⟨_, rfl⟩
 have hlen : l.length = (encPg p).length := by rw [hl]
 rw [← hl] at hs ⊢
 have hs : Stands l 0 (encPg p) := by rw [← hl]; exact hs
 unfold encPg at hs hlen
 rw [Stands.app, Stands.app, Stands.app] at hs
 obtain ⟨⟨⟨h1, h2⟩, h3⟩, h4⟩ := hs
 simp only [List.length_append, ← Nat.add_assoc] at h2 h3 h4 hlen
 unfold pgD
 rw [num_to (by omega) (by omega) (by omega) (by omega) h1, bnd_ok, Int.toNat_natCast]
 rw [sys_to (fun x hx => ⟨(syOk_iff.1 (m3 x hx)).1, GoodR.of (syOk_iff.1 (m3 x hx)).2 (hok.sys x hx).run⟩) (by omega) (by omega) h2, bnd_ok]
 rw [num_to (by omega) (by omega) (by omega) (by omega) h3, bnd_ok, Int.toNat_natCast]
 rw [fns_to (fun x hx => GoodR.of (m4 x hx) (hok.fns x hx)) (by omega) (by omega) h4, bnd_ok, if_neg (by omega)]
theorem pg_of {l : List Int} {p : PG} (hb : Bytes l) (h : pgD l = .ok p) : mayM p = true ∧ encPg p = l ∧ p.Ok := by
 unfold pgD at h
 obtain ⟨n, a1, h1, h⟩ := bnd_inv h
 obtain ⟨⟨s, lf⟩, a2, h2, h⟩ := bnd_inv h
 obtain ⟨m, a3, h3, h⟩ := bnd_inv h
 obtain ⟨⟨f, lf2⟩, a4, h4, h⟩ := bnd_inv h
 dsimp only at h h4
 split at h
 ·cases h
 rename_i hend
 cases h
 obtain ⟨n1, n2, n3, n4, n5⟩ := num_of hb h1
 obtain ⟨s1, s2, s3, s4, s5, s6⟩ := sys_of hb h2
 obtain ⟨k1, k2, k3, k4, k5⟩ := num_of hb h3
 obtain ⟨f1, f2, f3, f4, f5, f6⟩ := fns_of hb h4
 have e1 : n = (s.length : Int) := by omega
 have e2 : m = (f.length : Int) := by omega
 subst e1 e2
 subst n5 s6 k5 f6
 have hs : Stands l 0 (encPg ⟨s, f⟩) := by
  unfold encPg
  rw [Stands.app, Stands.app, Stands.app]
  simp only [List.length_append, ← Nat.add_assoc]
  exact ⟨⟨⟨n4, s5⟩, k4⟩, f5⟩
 have hlen : (encPg ⟨s, f⟩).length = 0 + (putU (s.length : Int)).length + (s.flatMap encSy).length + (putU (f.length : Int)).length + (f.flatMap encRt).length := by
  unfold encPg
  simp only [List.length_append]
  omega
 refine ⟨mayM_iff.2 ⟨by show s.length ≤ 16; omega, by show f.length ≤ 16; omega, fun x hx => syOk_iff.2 ⟨(s2 x hx).1, (s2 x hx).2.1⟩, fun x hx => (f2 x hx).1, ?_⟩, ?_, ?_⟩
 ·unfold PG.rts
  rw [sum_append]
  show codeSum (s.map SY.run) + codeSum f ≤ 2000
  have := s4 (by decide)
  have := f4 this
  omega
 ·unfold Stands at hs
  rw [List.drop_zero, List.drop_of_length_le (by omega), List.append_nil] at hs
  exact hs.symm
 ·have hle : ∀ r : RT, GoodR r → r.code.length ≤ 2000 → r.Ok := fun r hr hl => ⟨by omega, hr.2⟩
  have g1 := s4 (by decide)
  have g2 := f4 g1
  have hsum : ∀ {t : List RT} {r : RT}, r ∈ t → r.code.length ≤ codeSum t := fun {t r} hr => by
   unfold codeSum
   induction t with
   | nil => cases hr
   | cons y t ih =>
    rw [List.map_cons, List.sum_cons]
    rcases List.mem_cons.1 hr with rfl | hr
    ·omega
    ·have := ih hr; omega
  refine ⟨fun x hx => ⟨hle _ (s2 x hx).2 ?_, fun t ht => ?_⟩, fun x hx => hle _ (f2 x hx) ?_⟩
  ·have := hsum (List.mem_map.2 ⟨x, hx, rfl⟩ : x.run ∈ s.map SY.run)
   omega
  ·have := risesM_len ((s2 x hx).1 t ht)
   omega
  ·have : x.code.length ≤ codeSum f := hsum hx
   omega
theorem ixb_none (d : UInt8) : ∀ (l : List UInt8), (∀ c ∈ l, c ≠ d) → Lib.indexByte l d = -1
 | [], _ => rfl
 | b :: l, h => by
  have hb : (b == d) = false := by simpa using h b (by simp)
  unfold Lib.indexByte
  rw [hb, ixb_none d l fun c hc => h c (by simp [hc])]; rfl
theorem ixb_hit (d : UInt8) : ∀ (p r : List UInt8), (∀ c ∈ p, c ≠ d) → Lib.indexByte (p ++ d :: r) d = p.length
 | [], r, _ => by
  unfold Lib.indexByte
  simp
 | b :: p, r, h => by
  have hb : (b == d) = false := by simpa using h b (by simp)
  rw [List.cons_append]
  unfold Lib.indexByte
  rw [hb, ixb_hit d p r fun c hc => h c (by simp [hc])]
  have : ((p.length : Int) == -1) = false := by rw [beq_eq_false_iff_ne]; omega
  rw [this]
  simp
theorem first_of {α : Type} [DecidableEq α] (d : α) : ∀ l : List α, (∀ x ∈ l, x ≠ d) ∨ ∃ p r, l = p ++ d :: r ∧ ∀ x ∈ p, x ≠ d
 | [] => .inl (by simp)
 | b :: l => by
  by_cases h : b = d
  ·exact .inr ⟨[], l, by rw [h]; rfl, by simp⟩
  ·rcases first_of d l with h1 | ⟨p, r, h1, h2⟩
   ·left
    intro x hx
    rcases List.mem_cons.1 hx with rfl | hx
    ·exact h
    ·exact h1 x hx
   ·right
    refine ⟨b :: p, r, by rw [h1]; rfl, fun x hx => ?_⟩
    rcases List.mem_cons.1 hx with rfl | hx
    ·exact h
    ·exact h2 x hx
theorem cut_no (d : UInt8) {s : ByteArray} (h : ∀ x ∈ strL s, x ≠ bI d) : cutB s ⟨#[d]⟩ = (s, ⟨#[]⟩, false) := by
 have hi : Lib.index s.data.toList [d] = -1 := by
  rw [Lib.index_one]
  refine ixb_none d _ fun c hc e => ?_
  subst e
  exact h _ (List.mem_map.2 ⟨c, hc, rfl⟩) rfl
 unfold cutB Lib.cut
 show (if 0 ≤ Lib.index s.data.toList [d] then _ else _ : List UInt8 × List UInt8 × Bool) |> fun x => ((⟨x.1.toArray⟩ : ByteArray), (⟨x.2.1.toArray⟩ : ByteArray), x.2.2) = _
 rw [hi, if_neg (by decide)]
theorem cut_yes (d : UInt8) {s a b : ByteArray} (h : strL s = strL a ++ bI d :: strL b) (hp : ∀ x ∈ strL a, x ≠ bI d) : cutB s ⟨#[d]⟩ = (a, b, true) := by
 have hs : s.data.toList = a.data.toList ++ d :: b.data.toList := by
  have h' : s.data.toList.map bI = (a.data.toList ++ d :: b.data.toList).map bI := by
   rw [List.map_append, List.map_cons]; exact h
  exact (List.map_inj_right (f := bI) (fun x y hxy => UInt8.toNat_inj.1 (Int.ofNat_inj.1 hxy))).1 h'
 have hi : Lib.index s.data.toList [d] = a.data.toList.length := by
  rw [Lib.index_one, hs]
  refine ixb_hit d _ _ fun c hc e => ?_
  subst e
  exact hp _ (List.mem_map.2 ⟨c, hc, rfl⟩) rfl
 have hc : Lib.cut s.data.toList [d] = (a.data.toList, b.data.toList, true) := by
  unfold Lib.cut
  rw [hi, if_pos (by omega), hs, Int.toNat_natCast, List.take_left]
  have : (a.data.toList ++ d :: b.data.toList).drop (a.data.toList.length + [d].length) = b.data.toList := by
   rw [← List.drop_drop, List.drop_left]; rfl
  rw [this]
 show ((⟨(Lib.cut s.data.toList [d]).1.toArray⟩ : ByteArray), (⟨(Lib.cut s.data.toList [d]).2.1.toArray⟩ : ByteArray), (Lib.cut s.data.toList [d]).2.2) = _
 rw [hc]
theorem cut_or (d : UInt8) (s : ByteArray) : (cutB s ⟨#[d]⟩).2.2 = false ∧ (cutB s ⟨#[d]⟩).1 = s ∨ (cutB s ⟨#[d]⟩).2.2 = true ∧ strL s = strL (cutB s ⟨#[d]⟩).1 ++ bI d :: strL (cutB s ⟨#[d]⟩).2.1 := by
 rcases first_of d s.data.toList with h | ⟨p, r, h1, h2⟩
 ·have := cut_no d (s := s) (fun x hx e => by
   obtain ⟨c, hc, rfl⟩ := List.mem_map.1 hx
   exact h c hc (UInt8.toNat_inj.1 (Int.ofNat_inj.1 e)))
  rw [this]
  exact .inl ⟨rfl, rfl⟩
 ·have hs : strL s = strL ⟨p.toArray⟩ ++ bI d :: strL ⟨r.toArray⟩ := by
   show s.data.toList.map bI = p.toArray.toList.map bI ++ bI d :: r.toArray.toList.map bI
   rw [h1, List.toList_toArray, List.toList_toArray, List.map_append, List.map_cons]
  have := cut_yes d hs (fun x hx e => by
   obtain ⟨c, hc, rfl⟩ := List.mem_map.1 hx
   have hc : c ∈ p.toArray.toList := hc
   rw [List.toList_toArray] at hc
   exact h2 c hc (UInt8.toNat_inj.1 (Int.ofNat_inj.1 e)))
  rw [this]
  exact .inr ⟨rfl, hs⟩
theorem word_num : ∀ k : Fin 40, isOpM (k.val : Int) = true → numOf (row (k.val : Int)).word = (k.val : Int) := by decide +kernel
theorem numOf_word {op : Int} (h : isOpM op = true) : numOf (row op).word = op := by
 obtain ⟨n, rfl, hn⟩ := op_of h
 exact word_num ⟨n + 1, by omega⟩ h
theorem word_byte : ∀ k : Fin 40, ((strL (row (k.val : Int)).word).all fun c => decide (97 ≤ c ∧ c ≤ 122)) = true := by decide +kernel
theorem word_rng {op : Int} : ∀ c ∈ strL (row op).word, 97 ≤ c ∧ c ≤ 122 := by
 intro c hc
 cases h : isOpM op with
 | false => rw [row_no h] at hc; cases hc
 | true =>
  obtain ⟨n, rfl, hn⟩ := op_of h
  have := List.all_eq_true.1 (word_byte ⟨n + 1, by omega⟩) c hc
  rwa [decide_eq_true_iff] at this
theorem numG_word (name : ByteArray) : ∀ (f : Nat) (op : Int), 1 ≤ op → op + f ≤ 40 → numG name f op ≠ 0 → (row (numG name f op)).word = name ∧ isOpM (numG name f op) = true
 | 0, op, _, _, h => absurd rfl h
 | f + 1, op, h0, h1, h => by
  unfold numG at h ⊢
  by_cases hw : (row op).word = name
  ·rw [if_pos hw]
   refine ⟨hw, ?_⟩
   unfold isOpM
   rw [decide_eq_true_iff]
   omega
  ·rw [if_neg hw] at h ⊢
   exact numG_word name f (op + 1) (by omega) (by omega) h
theorem numOf_back {name : ByteArray} (h : numOf name ≠ 0) : (row (numOf name)).word = name ∧ isOpM (numOf name) = true := numG_word name 39 1 (by decide) (by decide) h
theorem dec_rng {n : Int} : ∀ c ∈ decL n, c = 45 ∨ (48 ≤ c ∧ c ≤ 57) := by
 intro c hc
 unfold decL at hc
 rw [dec_L] at hc
 split at hc
 ·rcases List.mem_cons.1 hc with hc | hc
  ·exact .inl hc
  ·exact .inr (dL_rng _ _ hc)
 ·exact .inr (dL_rng _ _ hc)
theorem bsp : bI 32 = 32 := rfl
theorem bnl : bI 10 = 10 := rfl
theorem line_in {t : ByteArray} {x : Ins} (h : insR t = some x) : strL t = lineL x ∧ GoodI x := by
 unfold insR at h
 split at h
 ·cases h
 rename_i hn
 have h1 : numOf (cutB t sp).1 ≠ 0 := fun e => hn (.inl e)
 have h2 : (row (numOf (cutB t sp).1)).num = (cutB t sp).2.2 := Classical.byContradiction fun e => hn (.inr e)
 obtain ⟨w1, w2⟩ := numOf_back h1
 rcases cut_or 32 t with ⟨c1, c2⟩ | ⟨c1, c2⟩
 ·have c1 : (cutB t sp).2.2 = false := c1
  have c2 : (cutB t sp).1 = t := c2
  rw [c1] at h h2
  rw [if_neg (by decide)] at h
  cases h
  rw [c2] at h2 w1 w2 ⊢
  refine ⟨?_, insOk_iff.2 ⟨w2, .inr rfl⟩, by show (-9223372036854775808 : Int) ≤ 0; decide, by show (0 : Int) ≤ 9223372036854775807; decide⟩
  unfold lineL
  rw [h2, w1]
  simp
 ·have c1 : (cutB t sp).2.2 = true := c1
  have c2 : strL t = strL (cutB t sp).1 ++ bI 32 :: strL (cutB t sp).2.1 := c2
  rw [c1] at h h2
  rw [if_pos rfl] at h
  obtain ⟨v, hv, rfl⟩ := Option.map_eq_some_iff.1 h
  obtain ⟨d1, d2, d3⟩ := decO_some hv
  refine ⟨?_, insOk_iff.2 ⟨w2, .inl h2⟩, d2, d3⟩
  unfold lineL decL
  rw [if_pos h2, w1, d1]
  exact c2
theorem line_out {t : ByteArray} {x : Ins} (hg : GoodI x) (h : strL t = lineL x) : insR t = some x := by
 obtain ⟨g1, g2, g3⟩ := hg
 obtain ⟨g4, g5⟩ := insOk_iff.1 g1
 have hne : x.1 ≠ 0 := fun e => by rw [e] at g4; exact absurd g4 (by decide)
 have hw32 : ∀ c ∈ strL (row x.1).word, c ≠ bI 32 := fun c hc e => by
  have := word_rng c hc
  rw [e, bsp] at this
  omega
 unfold lineL at h
 cases hn : (row x.1).num with
 | true =>
  rw [hn, if_pos rfl] at h
  have hc : cutB t sp = ((row x.1).word, dec x.2, true) := cut_yes 32 h hw32
  unfold insR
  rw [hc]
  dsimp only
  rw [numOf_word g4, hn, if_neg (by simp [hne]), if_pos rfl, decO_dec g2 g3 rfl]
  rfl
 | false =>
  rw [hn] at h
  have ht : t = (row x.1).word := strL_inj (by simpa using h)
  have hc : cutB t sp = (t, ⟨#[]⟩, false) := cut_no 32 (by rw [ht]; exact hw32)
  unfold insR
  rw [hc]
  dsimp only
  rw [ht, numOf_word g4, hn, if_neg (by simp [hne]), if_neg (by simp)]
  have : x.2 = 0 := by
   rcases g5 with g5 | g5
   ·rw [hn] at g5; cases g5
   ·exact g5
  rw [← this]
theorem line_nonl {x : Ins} : ∀ c ∈ lineL x, c ≠ bI 10 := by
 intro c hc e
 rw [e, bnl] at hc
 unfold lineL at hc
 rcases List.mem_append.1 hc with hc | hc
 ·have := word_rng _ hc; omega
 ·split at hc
  ·rcases List.mem_cons.1 hc with hc | hc
   ·omega
   ·have := dec_rng _ hc; omega
  ·cases hc
theorem listed_rng {s : ByteArray} (h : listedM s = true) : (∀ c ∈ strL s, 33 ≤ c ∧ c ≤ 126) ∧ s.size ≠ 0 ∧ s.size ≤ 16 := by
 unfold listedM at h
 rw [Bool.and_eq_true, Bool.and_eq_true, decide_eq_true_iff, decide_eq_true_iff, List.all_eq_true] at h
 refine ⟨fun c hc => ?_, h.1.2, h.2⟩
 have := h.1.1 c hc
 unfold visM at this
 rw [Bool.and_eq_true, decide_eq_true_iff, decide_eq_true_iff] at this
 exact this
theorem headB (nm : ByteArray) (pa lo : Int) : headL ⟨nm, pa, lo, []⟩ = (strL nm ++ 32 :: (decL pa ++ 32 :: decL lo)) ++ [10] := by
 unfold headL; simp
theorem head_in {t nm : ByteArray} {pa lo : Int} (h : headR t = some (nm, pa, lo)) : strL t = strL nm ++ 32 :: (decL pa ++ 32 :: decL lo) ∧ listedM nm = true ∧ 0 ≤ pa ∧ pa ≤ 4 ∧ pa ≤ lo ∧ lo ≤ 32 := by
 unfold headR at h
 split at h
 ·rename_i a b c hs
  split at h
  ·rename_i hl
   split at h
   ·rename_i p q hp hq
    split at h
    ·rename_i hr
     cases h
     obtain ⟨p1, _, _⟩ := decO_some hp
     obtain ⟨q1, _, _⟩ := decO_some hq
     refine ⟨?_, hl, hr⟩
     have tl : ∀ {x y : ByteArray} {r : List ByteArray}, splitS x = y :: r → r ≠ [] → ∃ z, strL x = strL y ++ 32 :: strL z ∧ splitS z = r := by
      intro x y r hx hr
      rcases cut_pieces x with ⟨_, k2, _⟩ | ⟨k1, k2⟩
      ·rw [hx] at k2
       exact absurd (List.cons.inj k2).2 hr
      ·rw [hx] at k2
       obtain ⟨k3, k4⟩ := List.cons.inj k2
       rcases cut_or 32 x with ⟨c1, _⟩ | ⟨_, c2⟩
       ·have c1 : (cutB x sp).2.2 = false := c1
        rw [k1] at c1; cases c1
       ·exact ⟨(cutB x sp).2.1, by rw [k3]; exact c2, k4.symm⟩
     obtain ⟨z1, e1, e2⟩ := tl hs (by simp)
     obtain ⟨z2, e3, e4⟩ := tl e2 (by simp)
     have e5 := split_one e4
     unfold decL
     rw [e1, e3, p1, q1, e5]
    ·cases h
   ·cases h
  ·cases h
 ·cases h
theorem head_out {t nm : ByteArray} {pa lo : Int} (h : strL t = strL nm ++ 32 :: (decL pa ++ 32 :: decL lo)) (hl : listedM nm = true) (hb : 0 ≤ pa ∧ pa ≤ 4 ∧ pa ≤ lo ∧ lo ≤ 32) : headR t = some (nm, pa, lo) := by
 have hs : splitS t = [nm, dec pa, dec lo] := by
  symm
  apply words_split
  rw [h]
  have pc : ∀ (l cur r : List Int), (∀ c ∈ l, c ≠ 32) → pieces cur (l ++ 32 :: r) = (cur ++ l) :: pieces [] r := by
   intro l
   induction l with
   | nil => intro cur r _; rw [List.nil_append, pieces, if_pos rfl, List.append_nil]
   | cons c l ih =>
    intro cur r hc
    rw [List.cons_append, pieces, if_neg (hc c (by simp)), ih _ _ fun d hd => hc d (by simp [hd])]
    simp
  have d32 : ∀ {n : Int}, ∀ c ∈ decL n, c ≠ 32 := fun {n} c hc e => by
   have := dec_rng c hc
   omega
  rw [pc _ _ _ (fun c hc e => by have := (listed_rng hl).1 c hc; omega), pc _ _ _ d32, pieces_nosp _ _ d32]
  rfl
 unfold headR
 rw [hs]
 simp only
 rw [if_pos hl, decO_dec (by omega) (by omega) rfl, decO_dec (by omega) (by omega) rfl]
 simp only
 rw [if_pos hb]
theorem head_nonl {nm : ByteArray} {pa lo : Int} (hl : listedM nm = true) : ∀ c ∈ strL nm ++ 32 :: (decL pa ++ 32 :: decL lo), c ≠ bI 10 := by
 intro c hc e
 rw [e, bnl] at hc
 rcases List.mem_append.1 hc with hc | hc
 ·have := (listed_rng hl).1 _ hc; omega
 ·rcases List.mem_cons.1 hc with hc | hc
  ·omega
  ·rcases List.mem_append.1 hc with hc | hc
   ·have := dec_rng _ hc; omega
   ·rcases List.mem_cons.1 hc with hc | hc
    ·omega
    ·have := dec_rng _ hc; omega
theorem strL_drop (s : ByteArray) (a : Nat) : strL (s.extract a s.size) = (strL s).drop a := by
 rw [strL_extract', List.take_of_length_le (by rw [strL_len]; exact Nat.le_refl _)]
abbrev linesL (c : List Ins) : List Int := c.flatMap fun x => lineL x ++ [10]
theorem cut_step {s : ByteArray} {a : Nat} (h : (cutB (s.extract a s.size) nl).2.2 = true) : (strL s).drop a = strL (cutB (s.extract a s.size) nl).1 ++ 10 :: (strL s).drop (a + (cutB (s.extract a s.size) nl).1.size + 1) := by
 rcases cut_or 10 (s.extract a s.size) with ⟨c1, _⟩ | ⟨_, c2⟩
 ·have c1 : (cutB (s.extract a s.size) nl).2.2 = false := c1
  rw [h] at c1; cases c1
 ·have c2 : strL (s.extract a s.size) = strL (cutB (s.extract a s.size) nl).1 ++ 10 :: strL (cutB (s.extract a s.size) nl).2.1 := c2
  rw [strL_drop] at c2
  have e : (strL s).drop (a + (cutB (s.extract a s.size) nl).1.size + 1) = strL (cutB (s.extract a s.size) nl).2.1 := by
   rw [Nat.add_assoc, ← List.drop_drop, c2, ← strL_len, ← List.drop_drop, List.drop_left]; rfl
  rw [e]
  exact c2
theorem read_in (s : ByteArray) : ∀ (f a : Nat) (r0 r : RT), readG s f a (some r0) = .ok r → ∃ c, r = ⟨r0.nm, r0.pa, r0.lo, r0.code ++ c⟩ ∧ (strL s).drop a = linesL c ∧ ∀ x ∈ c, GoodI x
 | 0, a, r0, r, h => by cases h
 | f + 1, a, r0, r, h => by
  rw [readG] at h
  split at h
  ·rename_i hend
   cases h
   refine ⟨[], by simp, ?_, by simp⟩
   rw [List.drop_of_length_le (by rw [strL_len]; have := hend.2; omega)]
   rfl
  ·split at h
   ·cases h
   rename_i hc
   split at h
   ·split at h
    ·cases h
    rename_i x hx
    obtain ⟨l1, l2⟩ := line_in hx
    have hc : (cutB (s.extract a s.size) nl).2.2 = true := by simpa using hc
    have hst := cut_step hc
    obtain ⟨c, rfl, c2, c3⟩ := read_in s f _ _ _ h
    refine ⟨x :: c, by unfold rAdd; simp, ?_, fun y hy => ?_⟩
    ·rw [hst, c2, l1]
     simp [linesL]
    ·rcases List.mem_cons.1 hy with rfl | hy
     ·exact l2
     ·exact c3 y hy
   ·cases h
theorem read_out (s : ByteArray) : ∀ (c : List Ins) (f a : Nat) (r0 : RT), (strL s).drop a = linesL c → (∀ x ∈ c, GoodI x) → r0.code.length + c.length ≤ 2000 → c.length < f → readG s f a (some r0) = .ok ⟨r0.nm, r0.pa, r0.lo, r0.code ++ c⟩
 | [], f + 1, a, r0, h, hg, hl, hf => by
  have : s.size ≤ a := by
   have h := congrArg List.length h
   rw [List.length_drop, strL_len] at h
   simp at h
   omega
  rw [readG, if_pos ⟨rfl, by omega⟩]
  simp
 | x :: c, f + 1, a, r0, h, hg, hl, hf => by
  rw [List.length_cons] at hl hf
  have hx := hg x (by simp)
  have e : (strL s).drop a = lineL x ++ 10 :: linesL c := by rw [h]; simp [linesL]
  have hb : Bytes (strL s) := strL_bytes s
  have hbd : Bytes ((strL s).drop a) := bytes_drop hb a
  rw [e] at hbd
  have hb1 : Bytes (lineL x) := fun y hy => hbd y (by simp [hy])
  have hb2 : Bytes (linesL c) := fun y hy => hbd y (by simp at hy; simp; exact .inr (.inr hy))
  have hcut : cutB (s.extract a s.size) nl = (strOf (lineL x), strOf (linesL c), true) := by
   refine cut_yes 10 ?_ ?_
   ·rw [strL_drop, e, strL_of hb1, strL_of hb2]; rfl
   ·rw [strL_of hb1]; exact line_nonl
  have ha : a < s.size := by
   have h := congrArg List.length e
   rw [List.length_drop, strL_len, List.length_append, List.length_cons] at h
   omega
  rw [readG, if_neg (fun k => k.2 ha), hcut]
  dsimp only
  rw [if_neg (by decide), if_pos (by omega), line_out hx (strL_of hb1)]
  dsimp only
  have e2 : (strL s).drop (a + (strOf (lineL x)).size + 1) = linesL c := by
   rw [Nat.add_assoc, ← List.drop_drop, e, ← strL_len, strL_of hb1, ← List.drop_drop, List.drop_left]; rfl
  rw [read_out s c f _ (rAdd r0 x) e2 (fun y hy => hg y (by simp [hy])) (by unfold rAdd; rw [List.length_append, List.length_singleton]; omega) (by omega)]
  unfold rAdd
  simp
theorem listL_eq (r : RT) : listL r = headL ⟨r.nm, r.pa, r.lo, []⟩ ++ linesL r.code := rfl
theorem lines_len (c : List Ins) : c.length ≤ (linesL c).length := by
 induction c with
 | nil => simp
 | cons x c ih =>
  have e : linesL (x :: c) = (lineL x ++ [10]) ++ linesL c := rfl
  rw [e, List.length_append, List.length_append, List.length_cons, List.length_singleton]
  omega
theorem list_read {s : ByteArray} {r : RT} (h : readM s = .ok r) : listS r = s ∧ listM r = true ∧ r.Ok := by
 have hlen := readM_len h
 unfold readM at h
 rw [readG] at h
 rw [if_neg (fun k => by cases k.1)] at h
 split at h
 ·cases h
 rename_i hc
 split at h
 ·cases h
 rename_i hd hh
 obtain ⟨nm, pa, lo⟩ := hd
 have hc : (cutB (s.extract 0 s.size) nl).2.2 = true := by simpa using hc
 have hst := cut_step hc
 obtain ⟨k1, k2, k3⟩ := head_in hh
 obtain ⟨c, hr, c2, c3⟩ := read_in s _ _ _ _ h
 rw [List.drop_zero, c2, k1] at hst
 subst hr
 dsimp only [List.nil_append] at hlen ⊢
 have hl : listM ⟨nm, pa, lo, c⟩ = true := by
  unfold listM
  rw [Bool.and_eq_true, written_iff, rtOk_iff]
  refine ⟨k2, ⟨?_, ?_, k3⟩, ?_⟩
  ·unfold codeOk
   exact List.all_eq_true.2 fun x hx => (c3 x hx).1
  ·have := (listed_rng k2).2
   show 1 ≤ nm.size ∧ nm.size ≤ 16
   omega
  ·show (0 : Int) ≤ 2000 - (c.length : Int)
   have : c.length ≤ 2000 := hlen
   omega
 refine ⟨?_, hl, ⟨by show c.length ≤ _; have : c.length ≤ 2000 := hlen; omega, fun x hx => (c3 x hx).2⟩⟩
 unfold listS
 rw [if_pos hl]
 have e : listL ⟨nm, pa, lo, c⟩ = strL s := by
  rw [listL_eq, headB, hst]
  simp
 rw [e]
 exact strL_inj (strL_of (strL_bytes s))
theorem read_list {r : RT} (hok : r.Ok) (hl : listM r = true) : readM (listS r) = .ok r := by
 have hl0 := hl
 unfold listM at hl
 rw [Bool.and_eq_true, written_iff, rtOk_iff] at hl
 obtain ⟨h1, ⟨h2, h3, h4⟩, h5⟩ := hl
 obtain ⟨nm, pa, lo, c⟩ := r
 dsimp only at h1 h2 h3 h4 h5
 have hg : ∀ x ∈ c, GoodI x := fun x hx => ⟨by unfold codeOk at h2; exact List.all_eq_true.1 h2 x hx, hok.rng x hx⟩
 have hnm := (listed_rng h1).1
 have hbn : Bytes (strL nm ++ 32 :: (decL pa ++ 32 :: decL lo)) := by
  intro y hy
  rcases List.mem_append.1 hy with hy | hy
  ·exact strL_bytes nm y hy
  ·rcases List.mem_cons.1 hy with rfl | hy
   ·decide
   ·rcases List.mem_append.1 hy with hy | hy
    ·exact strL_bytes _ y hy
    ·rcases List.mem_cons.1 hy with rfl | hy
     ·decide
     ·exact strL_bytes _ y hy
 have hbl : Bytes (linesL c) := by
  intro y hy
  obtain ⟨x, hx, hy⟩ := List.mem_flatMap.1 hy
  rcases List.mem_append.1 hy with hy | hy
  ·unfold lineL at hy
   rcases List.mem_append.1 hy with hy | hy
   ·exact strL_bytes _ y hy
   ·split at hy
    ·rcases List.mem_cons.1 hy with rfl | hy
     ·decide
     ·exact strL_bytes _ y hy
    ·cases hy
  ·have : y = 10 := by simpa using hy
   subst this; decide
 have hS : strL (listS ⟨nm, pa, lo, c⟩) = (strL nm ++ 32 :: (decL pa ++ 32 :: decL lo)) ++ 10 :: linesL c := by
  unfold listS
  rw [if_pos hl0, strL_of]
  ·rw [listL_eq, headB]; simp
  ·rw [listL_eq, headB]
   intro y hy
   rcases List.mem_append.1 hy with hy | hy
   ·rcases List.mem_append.1 hy with hy | hy
    ·exact hbn y hy
    ·have : y = 10 := by simpa using hy
     subst this; decide
   ·exact hbl y hy
 obtain ⟨s, hs⟩ : ∃ s, s = listS ⟨nm, pa, lo, c⟩ := ⟨_, rfl⟩
 rw [← hs] at hS ⊢
 have hcut : cutB (s.extract 0 s.size) nl = (strOf (strL nm ++ 32 :: (decL pa ++ 32 :: decL lo)), strOf (linesL c), true) := by
  refine cut_yes 10 ?_ ?_
  ·rw [strL_drop, List.drop_zero, hS, strL_of hbn, strL_of hbl]; rfl
  ·rw [strL_of hbn]; exact head_nonl h1
 unfold readM
 rw [readG, if_neg (fun k => by cases k.1), hcut]
 dsimp only
 rw [if_neg (by decide), head_out (strL_of hbn) h1 h4]
 dsimp only
 have hlc := lines_len c
 have hsz : s.size = (strL s).length := (strL_len s).symm
 rw [hS, List.length_append, List.length_cons] at hsz
 rw [read_out s c _ _ _ ?_ hg (by simp; omega) (by omega)]
 ·simp
 ·rw [Nat.zero_add, ← strL_len, strL_of hbn, hS, ← List.drop_drop, List.drop_left]; rfl
theorem listS_size {r : RT} (hok : r.Ok) : (listS r).size ≤ 60000 := by
 unfold listS
 split
 ·rename_i hl
  have hl0 := hl
  unfold listM at hl
  rw [Bool.and_eq_true, written_iff, rtOk_iff] at hl
  obtain ⟨h1, ⟨h2, h3, h4⟩, h5⟩ := hl
  have b : (listL r).length ≤ 60000 := by
   have l1 := flat_len (f := fun x => lineL x ++ [10]) (B := 28) (l := r.code) fun x hx => by
    have := lineL_len (hok.rng x hx).1 (hok.rng x hx).2
    rw [List.length_append, List.length_singleton]; omega
   have l2 := dec_size (n := r.pa) (by omega) (by omega)
   have l3 := dec_size (n := r.lo) (by omega) (by omega)
   have l4 := strL_len r.nm
   unfold listL headL decL
   simp only [List.length_append, List.length_cons, strL_len, List.length_nil]
   omega
  have := strL_len (strOf (listL r))
  have e : (strOf (listL r)).size = (listL r).length := by
   unfold strOf
   show (List.toArray _).size = _
   simp
  omega
 ·decide
theorem all_at {ts : List Thing} {t : Thing} {w : World} {O : List Nat} (ht : t ∈ ts) (h : (tAll ts).holds w O) : ∃ O', t.holds w O' ∧ ∀ k ∈ O', k ∈ O := by
 obtain ⟨k, hk⟩ := List.mem_iff_getElem?.1 ht
 obtain ⟨O1, _, h1, _, _, h4⟩ := tAll_pick hk h
 exact ⟨O1, h1, fun k hk => (h4 k).2 (.inl hk)⟩
theorem rdR_fn {s : Sl} {l : List RT} {w : World} {O : List Nat} (h : (tFnN s l).holds w O) : RdR w s l := by
 obtain ⟨xs, hx, O1, O2, h1, h2, _⟩ := h
 refine ⟨xs, hx, ⟨O1, SlF.toR h1⟩, fun x hm => ?_⟩
 obtain ⟨O', h3, _⟩ := all_at (t := subI x) (List.mem_map.2 ⟨x, hm, rfl⟩) h2
 exact ⟨O', SlF.toR h3⟩
theorem rdS_sy {s : Sl} {l : List SY} {w : World} {O : List Nat} (h : (tSyN s l).holds w O) : RdS w s l := by
 obtain ⟨xs, hx, O1, O2, h1, h2, _⟩ := h
 have h1' := SlF.toR h1
 refine ⟨xs, List.range w.heap.size, hx, fun k hk => List.mem_range.1 hk, ⟨O1, h1', fun k hk => List.mem_range.2 (h1'.lt k hk)⟩, fun x hm => ?_⟩
 obtain ⟨O', h3, _⟩ := all_at (t := subY x) (List.mem_map.2 ⟨x, hm, rfl⟩) h2
 have set : ∀ y ∈ x.sls, ∃ o, SlR w y.1 1 iv y.2 o ∧ ∀ k ∈ o, k ∈ List.range w.heap.size := fun y hy => by
  obtain ⟨O'', h4, _⟩ := all_at (t := tS y) (List.mem_append_left _ (List.mem_map.2 ⟨y, hy, rfl⟩)) h3
  have h4' := SlF.toR h4
  exact ⟨O'', h4', fun k hk => List.mem_range.2 (h4'.lt k hk)⟩
 obtain ⟨O'', h5, _⟩ := all_at (t := subI x.run) (List.mem_append_right _ (by simp)) h3
 have h5' := SlF.toR h5
 exact ⟨set (x.a, x.A) (by simp [SV.sls]), set (x.b, x.B) (by simp [SV.sls]), set (x.c, x.C) (by simp [SV.sls]), set (x.d, x.D) (by simp [SV.sls]), O'', h5', fun k hk => List.mem_range.2 (h5'.lt k hk)⟩
theorem srcB {r : Sl} {l : List Int} {w0 w : World} {S : List Nat} {its : List Thing} (h : Hp S w0 w its) (i : Nat) (hi : its[i]? = some (tB r l)) (hb : Bytes l) (hl : l.length ≤ 140737488355328) : Src (tB r l) r l :=
 ⟨Hp.rdSl, hb, hl, h.len (s := r) (e := 5) (n := 1) (f := u8v) (l := l) i (by rw [hi]; rfl), h.cap (s := r) (e := 5) (n := 1) (f := u8v) (l := l) i (by rw [hi]; rfl)⟩
theorem ifFaultNe {w : World} {n fb : Nat} {K : Bool → Prop} (hK : K true) : RunRo .b Tryz.prog (binSem .neq 39 (.tmp n) (.const (.nilIface)) (.iface 86 (.pointer (some ⟨fb, 0, none⟩))) .nilIface) w K := ⟨true, fun _ _ => by kernel_rfl, hK⟩
theorem ifFaultEq {w : World} {n fb : Nat} {K : Bool → Prop} (hK : K false) : RunRo .b Tryz.prog (binSem .eql 39 (.tmp n) (.const (.nilIface)) (.iface 86 (.pointer (some ⟨fb, 0, none⟩))) .nilIface) w K := ⟨false, fun _ _ => by kernel_rfl, hK⟩
theorem ifNilNe {w : World} {n : Nat} {K : Bool → Prop} (hK : K false) : RunRo .b Tryz.prog (binSem .neq 39 (.tmp n) (.const (.nilIface)) .nilIface .nilIface) w K := ⟨false, fun _ _ => by kernel_rfl, hK⟩
theorem ifNilEq {w : World} {n : Nat} {K : Bool → Prop} (hK : K true) : RunRo .b Tryz.prog (binSem .eql 39 (.tmp n) (.const (.nilIface)) .nilIface .nilIface) w K := ⟨true, fun _ _ => by kernel_rfl, hK⟩
theorem code_le {t : List RT} {r : RT} (hr : r ∈ t) : r.code.length ≤ codeSum t := by
 unfold codeSum
 induction t with
 | nil => cases hr
 | cons y t ih =>
  rw [List.map_cons, List.sum_cons]
  rcases List.mem_cons.1 hr with rfl | hr
  ·omega
  ·have := ih hr; omega
theorem putU_bytes {n : Int} (h : 0 ≤ n) : Bytes (putU n) := putF_byte 10 n h
theorem bytes_app {a b : List Int} (ha : Bytes a) (hb : Bytes b) : Bytes (a ++ b) := fun x hx => (List.mem_append.1 hx).elim (ha x) (hb x)
theorem bytes_flat {α : Type} {f : α → List Int} {l : List α} (h : ∀ x ∈ l, Bytes (f x)) : Bytes (l.flatMap f) := fun y hy => by
 obtain ⟨x, hx, hy⟩ := List.mem_flatMap.1 hy
 exact h x hx y hy
theorem ins_bytes {x : Ins} (h : GoodI x) : Bytes (encIns x) := by
 have h1 := (insOk_iff.1 h.1).1
 unfold isOpM at h1
 rw [decide_eq_true_iff] at h1
 unfold encIns
 refine bytes_app (putU_bytes (by omega)) ?_
 split
 ·exact putU_bytes (zig_range h.2.1 h.2.2).1
 ·intro x hx; cases hx
theorem rt_bytes {r : RT} (h : GoodR r) : Bytes (encRt r) := by
 obtain ⟨_, _, h3⟩ := rtOk_iff.1 h.1
 unfold encRt encT
 exact bytes_app (bytes_app (bytes_app (bytes_app (bytes_app (putU_bytes (by omega)) (strL_bytes _)) (putU_bytes h3.1)) (putU_bytes (by omega))) (putU_bytes (by omega))) (bytes_flat fun x hx => ins_bytes (h.ins x hx))
theorem set_bytes {l : List Int} (h : risesM l = true) : Bytes (encSet l) := by
 unfold encSet
 exact bytes_app (putU_bytes (by omega)) (bytes_flat fun x hx => putU_bytes (by have := risesF_rng (by decide) h x hx; omega))
theorem sy_bytes {s : SY} (h : GoodS s) : Bytes (encSy s) := by
 unfold encSy
 exact bytes_app (bytes_flat fun x hx => set_bytes (h.1 x hx)) (rt_bytes h.2)
theorem enc_bytes_len {p : PG} (hm : mayM p = true) (hok : p.Ok) : Bytes (encPg p) ∧ (encPg p).length ≤ 140737488355328 := by
 obtain ⟨m1, m2, m3, m4, m5⟩ := mayM_iff.1 hm
 unfold PG.rts at m5
 rw [sum_append] at m5
 have gs : ∀ x ∈ p.sys, GoodS x := fun x hx => ⟨(syOk_iff.1 (m3 x hx)).1, GoodR.of (syOk_iff.1 (m3 x hx)).2 (hok.sys x hx).run⟩
 have gr : ∀ x ∈ p.fns, GoodR x := fun x hx => GoodR.of (m4 x hx) (hok.fns x hx)
 unfold encPg
 refine ⟨bytes_app (bytes_app (bytes_app (putU_bytes (by omega)) (bytes_flat fun x hx => sy_bytes (gs x hx))) (putU_bytes (by omega))) (bytes_flat fun x hx => rt_bytes (gr x hx)), ?_⟩
 have l1 := flat_len (f := encSy) (B := 100000) (l := p.sys) fun x hx => by
  have e := code_le (List.mem_map.2 ⟨x, hx, rfl⟩ : x.run ∈ p.sys.map SY.run)
  have e2 := encRt_len (r := x.run) (rtOk_iff.1 (gs x hx).2.1).2.1.2
  have e3 := flat_len (f := encSet) (B := 130) (l := x.sets) fun y hy => by
   have := encSet_len y
   have := risesM_len ((gs x hx).1 y hy)
   omega
  have e4 : x.sets.length = 4 := rfl
  unfold encSy
  rw [List.length_append]
  omega
 have l2 := flat_len (f := encRt) (B := 100000) (l := p.fns) fun x hx => by
  have e := code_le hx
  have e2 := encRt_len (r := x) (rtOk_iff.1 (gr x hx).1).2.1.2
  omega
 have l3 := putU_len (p.sys.length : Int)
 have l4 := putU_len (p.fns.length : Int)
 simp only [List.length_append]
 omega
theorem Src.ro {s : Sl} {l : List Int} {ub : Thing} (h : Src ub s l) : Src ub.ro s l := ⟨⟨fun {w O} k => h.rd.rd (w := w) (O := O) k⟩, h.by_, h.len, h.sl, h.cap⟩
section
variable {S : List Nat} {w0 w : World} {its rest : List Thing}
theorem Encode_u {s1 s2 : Sl} {p : PG} (hs : RdS w s1 p.sys) (hr : RdR w s2 p.fns) (hok : p.Ok) {K : Sl → Int → World → Prop}
  (hK : ∀ r e w', mayM p = true ∧ e = 0 ∧ Hp [] w w' [tB r (encPg p)] ∨ mayM p = false ∧ e = 130 ∧ Hp [] w w' [] → K r e w') : c22 s1 s2 w K :=
 Encode_spec hs hr hok (fun hm r w' h => hK r 0 w' (.inl ⟨hm, rfl, h⟩)) (fun hm w' h => hK _ 130 w' (.inr ⟨hm, rfl, h⟩))
theorem Decode_u {b : Sl} {ub : Thing} {l : List Int} (h : Hp S w0 w (ub :: rest)) (hs : Src ub b l) {K : Sl → Sl → Value → World → Prop}
  (hK : ∀ s1 s2 v w', (∃ p, pgD l = .ok p ∧ v = .nilIface ∧ Hp S w0 w' (ub :: rest ++ [tSyN s1 p.sys, tFnN s2 p.fns])) ∨ (∃ e fb, pgD l = .error e ∧ v = .iface 86 (.pointer (some ⟨fb, 0, none⟩)) ∧ s1 = ⟨none, 0, 0⟩ ∧ s2 = ⟨none, 0, 0⟩ ∧ Hp S w0 w' (ub :: rest ++ [tFault fb e])) → K s1 s2 v w') : c15 b w K :=
 Decode_spec h hs (fun p hp s1 s2 w' h => hK s1 s2 _ w' (.inl ⟨p, hp, rfl, h⟩)) (fun e he fb w' h => hK _ _ _ w' (.inr ⟨e, fb, he, rfl, rfl, rfl, h⟩))
theorem Read_u (h : Hp [] w0 w its) (hG : Glob w0) {s : ByteArray} (hs : s.size < 4294967281) {K : ByteArray → Int → Int → Sl → Value → World → Prop}
  (hK : ∀ nm pa lo sl v w', (∃ code, readM s = .ok ⟨nm, pa, lo, code⟩ ∧ v = .nilIface ∧ Hp [] w0 w' (its ++ [tSl sl 23 2 insv code])) ∨ (∃ e fb, readM s = .error e ∧ v = .iface 86 (.pointer (some ⟨fb, 0, none⟩)) ∧ nm = ⟨#[]⟩ ∧ pa = 0 ∧ lo = 0 ∧ sl = ⟨none, 0, 0⟩ ∧ Hp [] w0 w' (its ++ [tFault fb e])) → K nm pa lo sl v w') : c27 s w K :=
 Read_spec h hG hs (fun r hr sl w' h => hK _ _ _ sl _ w' (.inl ⟨r.code, hr, rfl, h⟩)) (fun e he fb w' h => hK _ _ _ _ _ w' (.inr ⟨e, fb, he, rfl, rfl, rfl, rfl, rfl, h⟩))
end
set_option maxHeartbeats 4000000 in
theorem back_spec {w : World} (hG : Glob w) {s1 s2 : Sl} {p : PG} (hs : RdS w s1 p.sys) (hr : RdR w s2 p.fns) (hok : p.Ok) (hn1 : p.sys.length ≤ 140737488355328) (hn2 : p.fns.length ≤ 140737488355328)
  {nm : ByteArray} {pa lo : Int} {sl : Sl} {code : List Ins} (hrt : ∃ o, SlR w sl 2 insv code o) (hrok : RT.Ok ⟨nm, pa, lo, code⟩) (hnm : nm.size ≤ 140737488355328)
  {b : Sl} {l : List Int} (hb : ∃ o, SlR w b 1 u8v l o) (hbb : Bytes l) (hbl : l.length ≤ 140737488355328) (hbc : b.len ≤ b.cap) {s : ByteArray} (hss : s.size < 4294967281) {K : Bool → World → Prop} (hK : ∀ w', Hp [] w w' [] → K true w') : c7 s1 s2 nm pa lo sl b s w K := by
 refine c7_of ?_
 unfold f7
 obtain ⟨ss, fs⟩ := p
 obtain ⟨xs, O1, rfl, h1⟩ := hs
 obtain ⟨ys, O2, rfl, h2⟩ := hr.thing
 obtain ⟨o3, h3⟩ := hrt
 obtain ⟨o4, h4⟩ := hb
 have hsrc : Src (tRd b 1 u8v l) b l := ⟨Hp.rdRd, hbb, hbl, h4.len, hbc⟩
 have h : Hp [] w w [(tRd b 1 u8v l).ro, (tSys s1 xs).ro, (tRts s2 ys).ro, (tRd sl 2 insv code).ro] := ((((Hp.init w).addRo (t := tRd b 1 u8v l) h4 (by simp)).addRo h1 (by simp)).addRo h2 (by simp)).addRo (O := o3) (t := tRd sl 2 insv code) h3 (by simp)
 refine h.nw fun pb w1 h => ?_
 refine h.nw fun rb w1 h => ?_
 obtain ⟨its, hits⟩ : ∃ its, its = [(tSys s1 xs).ro, (tRts s2 ys).ro, (tRd sl 2 insv code).ro, tBlk pb 37 [.slice s1.a s1.len s1.cap, .slice s2.a s2.len s2.cap], tBlk rb 30 [.string nm, .int .i64 pa, .int .i64 lo, .slice sl.a sl.len sl.cap]] := ⟨_, rfl⟩
 have h : Hp [] w w1 ((tRd b 1 u8v l).ro :: its) := by rw [hits]; exact h
 obtain ⟨ib, hib⟩ : ∃ ib, ib = (tRd b 1 u8v l).ro :: its := ⟨_, rfl⟩
 rw [← hib] at h
 have bare : ∀ {w' : World} {B : List Thing}, Hp [] w w' (ib ++ B) → Hp [] w w' [] := fun {w' B} h => frNil h.fr
 have rdS : ∀ {w' : World} {B : List Thing}, Hp [] w w' (ib ++ B) → RdS w' s1 (xs.map SV.m) ∧ RdR w' s2 (ys.map RV.r) := fun {w' B} h => by
  rw [hib, hits] at h
  obtain ⟨O, hO⟩ := h.see (i := 1) rfl
  obtain ⟨O', hO'⟩ := h.see (i := 2) rfl
  exact ⟨⟨xs, O, rfl, hO⟩, RdR.of hO'⟩
 have lp : ∀ {w' : World} {B : List Thing} {G : Sl → Prop}, Hp [] w w' (ib ++ B) → G s1 → Ld .sl w' ⟨pb, 0, none⟩ G := fun {w' B G} h hG => by rw [hib, hits] at h; exact h.ld0 (k := .sl) (x := s1) 4 rfl rfl hG
 have lp1 : ∀ {w' : World} {B : List Thing} {G : Sl → Prop}, Hp [] w w' (ib ++ B) → G s2 → Ld .sl w' ((⟨pb, 0, none⟩ : Addr).add 1) G := fun {w' B G} h hG => by rw [hib, hits] at h; exact h.ld (n := 1) (k := .sl) (x := s2) 4 rfl rfl hG
 have lr : ∀ {w' : World} {B : List Thing} {G : ByteArray → Int → Int → Sl → Prop}, Hp [] w w' (ib ++ B) → G nm pa lo sl → Ld .s w' ⟨rb, 0, none⟩ fun a => Ld (.i .i64) w' ((⟨rb, 0, none⟩ : Addr).add 1) fun b => Ld (.i .i64) w' ((⟨rb, 0, none⟩ : Addr).add 2) fun c => Ld .sl w' ((⟨rb, 0, none⟩ : Addr).add 3) fun d => G a b c d := fun {w' B G} h hG => by
  rw [hib, hits] at h
  exact h.ld0 (k := .s) (x := nm) 5 rfl rfl (h.ld (n := 1) (k := .i .i64) (x := pa) 5 rfl rfl (h.ld (n := 2) (k := .i .i64) (x := lo) 5 rfl rfl (h.ld (n := 3) (k := .sl) (x := sl) 5 rfl rfl hG)))
 have a0 : ∀ {w' : World}, Hp [] w w' ib → Hp [] w w' (ib ++ []) := fun h => by rw [List.append_nil]; exact h
 refine shown_spec h hG fun w1 h => ?_
 refine ifF (by decide) ?_
 refine lp (a0 h) (lp1 (a0 h) ?_)
 refine Encode_u (p := ⟨xs.map SV.m, ys.map RV.r⟩) (rdS (a0 h)).1 (rdS (a0 h)).2 hok (fun x e w2 h2 => ?_)
 refine ⟨fun w' => Hp [] w w' ib, ?_, ?_⟩
 ·rcases h2 with ⟨hm, rfl, h2⟩ | ⟨hm, rfl, h2⟩
  ·refine ifT (by decide) ?_
   have h := h.r0 (rest := [tB x (encPg ⟨xs.map SV.m, ys.map RV.r⟩)]) rfl h2
   obtain ⟨eb, el⟩ := enc_bytes_len hm hok
   have hx := srcB h ib.length List.getElem?_concat_length eb el
   have h := h.comm
   refine Decode_u h hx fun q1 q2 f w3 hd => ?_
   rw [pg_to hm hok] at hd
   rcases hd with ⟨p', hp', rfl, h⟩ | ⟨_, _, hp', _⟩
   ·cases hp'
    refine pg_copy h (s1 := q1) (s2 := q2) fun qb w3 h => ?_
    have hD : Hp [] w w3 (ib ++ [tSyN q1 (xs.map SV.m), tFnN q2 (ys.map RV.r), tBlk qb 37 [.slice q1.a q1.len q1.cap, .slice q2.a q2.len q2.cap]]) := by
     have h : Hp [] w w3 ([tB x (encPg ⟨xs.map SV.m, ys.map RV.r⟩)] ++ (ib ++ [tSyN q1 (xs.map SV.m), tFnN q2 (ys.map RV.r), tBlk qb 37 [.slice q1.a q1.len q1.cap, .slice q2.a q2.len q2.cap]])) := by simpa using h
     exact h.comm.front
    have il : ∀ k t, [tSyN q1 (xs.map SV.m), tFnN q2 (ys.map RV.r), tBlk qb 37 [.slice q1.a q1.len q1.cap, .slice q2.a q2.len q2.cap]][k]? = some t → (ib ++ [tSyN q1 (xs.map SV.m), tFnN q2 (ys.map RV.r), tBlk qb 37 [.slice q1.a q1.len q1.cap, .slice q2.a q2.len q2.cap]])[ib.length + k]? = some t := fun k t ht => by
     rw [List.getElem?_append_right (by omega)]
     rw [show ib.length + k - ib.length = k by omega]; exact ht
    refine lp hD (lp1 hD ?_)
    refine hD.ld0 (k := .sl) (x := q1) (ib.length + 2) (by rw [il 2 _ rfl]; rfl) rfl ?_
    refine hD.ld (n := 1) (k := .sl) (x := q2) (ib.length + 2) (by rw [il 2 _ rfl]; rfl) rfl ?_
    obtain ⟨O, hO⟩ := hD.see (i := ib.length + 0) (il 0 _ rfl)
    obtain ⟨O', hO'⟩ := hD.see (i := ib.length + 1) (il 1 _ rfl)
    refine programs_spec (p := ⟨xs.map SV.m, ys.map RV.r⟩) (q := ⟨xs.map SV.m, ys.map RV.r⟩) (rdS hD).1 (rdS hD).2 (rdS_sy hO) (rdR_fn hO') hok hn1 hn2 fun ok w4 hk h4 => ?_
    obtain rfl := hk.2 rfl
    exact ifNilNe (ifF (by decide) (hD.keep h4.fr).front)
   ·cases hp'
  ·exact ifF (by decide) (h.keep h2.fr)
 clear h h2
 intro w3 h
 rw [hib] at h
 refine Decode_u h hsrc.ro fun q1 q2 f w4 hd => ?_
 have key : ∃ B : List Thing, Hp [] w w4 (ib ++ B) ∧ ((∃ p', pgD l = .ok p' ∧ f = .nilIface ∧ B = [tSyN q1 p'.sys, tFnN q2 p'.fns]) ∨ ∃ fb, f = .iface 86 (.pointer (some ⟨fb, 0, none⟩))) := by
  rcases hd with ⟨p', h1, h2, h⟩ | ⟨e, fb, _, h2, _, _, h⟩
  ·rw [hib]; exact ⟨_, h, .inl ⟨p', h1, h2, rfl⟩⟩
  ·rw [hib]; exact ⟨_, h, .inr ⟨fb, h2⟩⟩
 clear hd
 obtain ⟨B, h, hB⟩ := key
 refine pg_copy h (s1 := q1) (s2 := q2) fun qb w4 h => ?_
 have h : Hp [] w w4 (ib ++ (B ++ [tBlk qb 37 [.slice q1.a q1.len q1.cap, .slice q2.a q2.len q2.cap]])) := by simpa using h
 refine ⟨fun w' => Hp [] w w' ib, ?_, ?_⟩
 ·rcases hB with ⟨p', hp', rfl, rfl⟩ | ⟨fb, rfl⟩
  ·refine ifNilEq (ifT rfl ?_)
   obtain ⟨g1, g2, g3⟩ := pg_of hbb hp'
   have il : ∀ k t, [tSyN q1 p'.sys, tFnN q2 p'.fns, tBlk qb 37 [.slice q1.a q1.len q1.cap, .slice q2.a q2.len q2.cap]][k]? = some t → (ib ++ ([tSyN q1 p'.sys, tFnN q2 p'.fns] ++ [tBlk qb 37 [.slice q1.a q1.len q1.cap, .slice q2.a q2.len q2.cap]]))[ib.length + k]? = some t := fun k t ht => by
    rw [List.getElem?_append_right (by omega)]
    rw [show ib.length + k - ib.length = k by omega]; exact ht
   refine h.ld0 (k := .sl) (x := q1) (ib.length + 2) (by rw [il 2 _ rfl]; rfl) rfl ?_
   refine h.ld (n := 1) (k := .sl) (x := q2) (ib.length + 2) (by rw [il 2 _ rfl]; rfl) rfl ?_
   obtain ⟨O, hO⟩ := h.see (i := ib.length + 0) (il 0 _ rfl)
   obtain ⟨O', hO'⟩ := h.see (i := ib.length + 1) (il 1 _ rfl)
   refine Encode_spec (p := p') (rdS_sy hO) (rdR_fn hO') g3 (fun _ y w5 h5 => ?_) (fun hm => by rw [g1] at hm; cases hm)
   have h := h.front.r0 (rest := [tB y (encPg p')]) rfl h5
   rw [g2] at h
   refine ifF (by decide) ?_
   refine h.rdb (ib.length) (u := tB y l) (by rw [List.getElem?_concat_length]; rfl) Hp.rdSl (strOf l) (strL_of hbb) ?_
   refine h.rdb 0 (u := (tRd b 1 u8v l).ro) (by rw [hib]; rfl) ⟨fun {w O} k => ⟨O, k⟩⟩ (strOf l) (strL_of hbb) ?_
   exact ifF (by simp) h.front
  ·exact ifFaultEq (ifF (by decide) h.front)
 clear h hB
 intro w5 h
 refine lr (a0 h) ?_
 have hrd : ∀ {w' : World}, Hp [] w w' ib → ∃ o, SlR w' sl 2 insv code o := fun {w'} h => by
  rw [hib, hits] at h
  obtain ⟨O, hO⟩ := h.see (i := 3) rfl
  exact ⟨O, hO⟩
 refine List_spec (code := code) (hrd h) hrok hnm (hG.fr h.fr).tab fun w6 h6 => ?_
 have h := h.keep h6.fr
 have hlz := listS_size hrok
 refine ⟨fun w' => Hp [] w w' ib, ?_, ?_⟩
 ·by_cases hlm : listM ⟨nm, pa, lo, code⟩ = true
  ·by_cases ht : ((listS ⟨nm, pa, lo, code⟩).toList == (⟨#[]⟩ : ByteArray).toList) = true
   ·exact ifF (by rw [ht]; decide) h
   ·refine ifT (by simpa using ht) ?_
    refine Read_u h hG (by omega) fun znm zpa zlo zsl g w7 hd => ?_
    rw [read_list hrok hlm] at hd
    rcases hd with ⟨zc, hz, rfl, h⟩ | ⟨_, _, hz, _⟩
    ·cases hz
     refine rt_copy h fun zb w7 h => ?_
     have h : Hp [] w w7 (ib ++ ([tSl zsl 23 2 insv code] ++ [tR zb ⟨nm, pa, lo, code⟩ zsl])) := by simpa using h
     have il : ∀ k t, ([tSl zsl 23 2 insv code] ++ [tR zb ⟨nm, pa, lo, code⟩ zsl])[k]? = some t → (ib ++ ([tSl zsl 23 2 insv code] ++ [tR zb ⟨nm, pa, lo, code⟩ zsl]))[ib.length + k]? = some t := fun k t ht => by
      rw [List.getElem?_append_right (by omega)]
      rw [show ib.length + k - ib.length = k by omega]; exact ht
     refine lr h ?_
     refine h.ld0 (k := .s) (x := nm) (ib.length + 1) (by rw [il 1 _ rfl]; rfl) rfl ?_
     refine h.ld (n := 1) (k := .i .i64) (x := pa) (ib.length + 1) (by rw [il 1 _ rfl]; rfl) rfl ?_
     refine h.ld (n := 2) (k := .i .i64) (x := lo) (ib.length + 1) (by rw [il 1 _ rfl]; rfl) rfl ?_
     refine h.ld (n := 3) (k := .sl) (x := zsl) (ib.length + 1) (by rw [il 1 _ rfl]; rfl) rfl ?_
     refine routines_spec (x := ⟨nm, pa, lo, sl, code⟩) (y := ⟨nm, pa, lo, zsl, code⟩) h 3 (ib.length + 0) (u := (tRd sl 2 insv code).ro) (v := tSl zsl 23 2 insv code) (by rw [hib, hits]; rfl) rdRo (by rw [il 0 _ rfl]; rfl) Hp.rdSl hrok.len fun ok w8 hk h => ?_
     obtain rfl := hk.2 rfl
     exact ifNilNe (ifF (by decide) h.front)
    ·cases hz
  ·refine ifF ?_ h
   unfold listS
   rw [if_neg hlm]
   simp
 clear h h6
 intro w7 h
 refine Read_u h hG hss fun znm zpa zlo zsl g w8 hd => ?_
 rcases hd with ⟨zc, hz, rfl, h⟩ | ⟨e, fb, hz, rfl, rfl, rfl, rfl, rfl, h⟩
 ·refine rt_copy h fun zb w8 h => ?_
  refine ifNilNe (ifF (by decide) ?_)
  have h : Hp [] w w8 (ib ++ ([tSl zsl 23 2 insv zc] ++ [tR zb ⟨znm, zpa, zlo, zc⟩ zsl])) := by simpa using h
  have il : ∀ k t, ([tSl zsl 23 2 insv zc] ++ [tR zb ⟨znm, zpa, zlo, zc⟩ zsl])[k]? = some t → (ib ++ ([tSl zsl 23 2 insv zc] ++ [tR zb ⟨znm, zpa, zlo, zc⟩ zsl]))[ib.length + k]? = some t := fun k t ht => by
   rw [List.getElem?_append_right (by omega)]
   rw [show ib.length + k - ib.length = k by omega]; exact ht
  refine h.ld0 (k := .s) (x := znm) (ib.length + 1) (by rw [il 1 _ rfl]; rfl) rfl ?_
  refine h.ld (n := 1) (k := .i .i64) (x := zpa) (ib.length + 1) (by rw [il 1 _ rfl]; rfl) rfl ?_
  refine h.ld (n := 2) (k := .i .i64) (x := zlo) (ib.length + 1) (by rw [il 1 _ rfl]; rfl) rfl ?_
  refine h.ld (n := 3) (k := .sl) (x := zsl) (ib.length + 1) (by rw [il 1 _ rfl]; rfl) rfl ?_
  obtain ⟨z1, z2, z3⟩ := list_read hz
  obtain ⟨O, hO⟩ := h.see (i := ib.length + 0) (il 0 _ rfl)
  have hn16 : znm.size ≤ 16 := by
   unfold listM at z2
   rw [Bool.and_eq_true] at z2
   exact (listed_rng z2.1).2.2
  refine List_spec (code := zc) ⟨O, SlF.toR hO⟩ z3 (by omega) (hG.fr h.fr).tab fun w9 h9 => ?_
  rw [z1]
  have e : (s.toList == s.toList) = true := by simp
  rw [e]
  exact hK w9 (bare (h.keep h9.fr))
 ·refine rt_copy (sl := ⟨none, 0, 0⟩) h fun zb w8 h => ?_
  refine ifFaultNe (ifT rfl ?_)
  exact hK w8 (frNil h.fr)
end Go.Proofs.YtmfgofbcnlkolaaGreatDoor.F
end

section
namespace Go.Proofs.YtmfgofbcnlkolaaGreatDoor.FW
open F
open Go Go.Den Go.Proofs Go.RowKit
theorem und37s : Tryz.prog.underlying 37 = some (.struct (Tryz.prog.fieldsOf 37)) := by kernel_rfl
theorem und54s : Tryz.prog.underlying 54 = some (.struct (Tryz.prog.fieldsOf 54)) := by kernel_rfl
theorem undU8 : Tryz.prog.underlying 5 = some (.int .u8) := by kernel_rfl
theorem und34s : Tryz.prog.underlying 34 = some (.slice 5) := by kernel_rfl
theorem cel5 : Tryz.prog.cellsOf 5 = 1 := by kernel_rfl
theorem cel24 : Tryz.prog.cellsOf 24 = 1 := by kernel_rfl
theorem cel35 : Tryz.prog.cellsOf 35 = 1 := by kernel_rfl
theorem cel37 : Tryz.prog.cellsOf 37 = 2 := by kernel_rfl
theorem cel52 : Tryz.prog.cellsOf 52 = 1 := by kernel_rfl
theorem cel54 : Tryz.prog.cellsOf 54 = 8 := by kernel_rfl
theorem byt3 : Tryz.prog.bytesOf 3 = 8 := by kernel_rfl
theorem byt5 : Tryz.prog.bytesOf 5 = 1 := by kernel_rfl
theorem byt54 : Tryz.prog.bytesOf 54 = 152 := by kernel_rfl
theorem dec_int {w : World} {B m : Nat} {ci : List Value} (hl : ci.length = 1) (h : RdV Tryz.prog w B m 3 ci) : ∃ x : Int, ci = iv x ∧ True := by
 obtain ⟨m0, e0, h0⟩ := rd_int undI3 h
 exact ⟨m0, e0, trivial⟩
theorem dec_set {w : World} {B n : Nat} {cs : List Value} (h : RdV Tryz.prog w B n 52 cs) : ∃ (s : Sl) (l : List Int), cs = [.slice s.a s.len s.cap] ∧ (∃ o, SlR w s 1 iv l o) ∧ l.length ≤ 17592186044416 := by
 obtain ⟨s, l, o, h1, h2, h3, hb, h4, h5⟩ := rd_slice (f := iv) (G := fun _ => True) und52 cel3 (by omega) (fun m ci hl hr => dec_int hl hr) h
 rw [byt3] at hb
 unfold reachBytes at hb
 exact ⟨s, l, h1, ⟨o, h2⟩, by omega⟩
theorem dec_sy {w : World} {B m : Nat} {ci : List Value} (hl : ci.length = 8) (h : RdV Tryz.prog w B m 54 ci) : ∃ x : SV, ci = syv x ∧ (x.m.Ok ∧ x.run.code.length ≤ 8796093022208 ∧ (∀ y ∈ x.sls, y.2.length ≤ 17592186044416) ∧ SVrd w (List.range w.heap.size) x) := by
 obtain ⟨_, q, hf⟩ := rd_struct und54s h
 match ci, hl with
 | [c0, c1, c2, c3, c4, c5, c6, c7], _ =>
  obtain ⟨s0, l0, e0, ⟨o0, k0⟩, b0⟩ := dec_set (rd_field hf 0 (ft := 52) (off := 0) (sz := 1) (by kernel_rfl) cel52)
  obtain ⟨s1, l1, e1, ⟨o1, k1⟩, b1⟩ := dec_set (rd_field hf 1 (ft := 52) (off := 1) (sz := 1) (by kernel_rfl) cel52)
  obtain ⟨s2, l2, e2, ⟨o2, k2⟩, b2⟩ := dec_set (rd_field hf 2 (ft := 52) (off := 2) (sz := 1) (by kernel_rfl) cel52)
  obtain ⟨s3, l3, e3, ⟨o3, k3⟩, b3⟩ := dec_set (rd_field hf 3 (ft := 52) (off := 3) (sz := 1) (by kernel_rfl) cel52)
  obtain ⟨x, e4, q1, ⟨o4, k4⟩, q2, q3⟩ := dec_rt2 (by simp) (rd_field hf 4 (ft := 30) (off := 4) (sz := 4) (by kernel_rfl) cel30)
  simp only [List.drop_zero, List.drop_succ_cons, List.take_succ_cons, List.take_zero, List.cons.injEq, and_true] at e0 e1 e2 e3 e4
  obtain ⟨e4, e5, e6, e7⟩ := e4
  subst e0 e1 e2 e3 e4 e5 e6 e7
  have rg : ∀ {o : List Nat}, (∀ k ∈ o, k < w.heap.size) → ∀ k ∈ o, k ∈ List.range w.heap.size := fun h k hk => List.mem_range.2 (h k hk)
  refine ⟨⟨s0, s1, s2, s3, l0, l1, l2, l3, x⟩, rfl, ⟨q1, ?_⟩, q3, ?_, ⟨o0, k0, rg k0.lt⟩, ⟨o1, k1, rg k1.lt⟩, ⟨o2, k2, rg k2.lt⟩, ⟨o3, k3, rg k3.lt⟩, o4, k4, rg k4.lt⟩
  ·intro l hl
   simp only [SV.m, SY.sets, List.mem_cons, List.not_mem_nil, or_false] at hl
   rcases hl with rfl | rfl | rfl | rfl <;> omega
  ·intro y hy
   simp only [SV.sls, List.mem_cons, List.not_mem_nil, or_false] at hy
   rcases hy with rfl | rfl | rfl | rfl <;> assumption
theorem dec_pg {w : World} {B m : Nat} {ci : List Value} (hl : ci.length = 2) (h : RdV Tryz.prog w B m 37 ci) : ∃ (s1 s2 : Sl) (xs : List SV) (ys : List RV), ci = [.slice s1.a s1.len s1.cap, .slice s2.a s2.len s2.cap] ∧
  (xs.length ≤ 1000000000000 ∧ xs.length ≤ B) ∧ (ys.length ≤ 2600000000000 ∧ ys.length ≤ B) ∧ (∀ x ∈ xs, x.m.Ok ∧ x.run.code.length ≤ 8796093022208 ∧ (∀ y ∈ x.sls, y.2.length ≤ 17592186044416)) ∧ (∀ y ∈ ys, y.r.Ok ∧ y.code.length ≤ 8796093022208) ∧
  RdS w s1 (xs.map SV.m) ∧ RdR w s2 (ys.map RV.r) ∧ (tSys s1 xs).holds w (List.range w.heap.size) ∧ (tRts s2 ys).holds w (List.range w.heap.size) := by
 obtain ⟨_, q, hf⟩ := rd_struct und37s h
 match ci, hl with
 | [c0, c1], _ =>
  obtain ⟨s1, xs, o1, e1, k1, k2, kb, k3, k4⟩ := rd_slice (f := syv) (G := fun x : SV => x.m.Ok ∧ x.run.code.length ≤ 8796093022208 ∧ (∀ y ∈ x.sls, y.2.length ≤ 17592186044416) ∧ SVrd w (List.range w.heap.size) x) und35 cel54 (by omega) (fun m ci hl hr => dec_sy hl hr) (rd_field hf 0 (ft := 35) (off := 0) (sz := 1) (by kernel_rfl) cel35)
  obtain ⟨s2, ys, o2, e2, m1, m2, mb, m3, m4⟩ := rd_slice (f := rtv) (G := fun x : RV => x.r.Ok ∧ x.code.length ≤ 8796093022208 ∧ ∃ o, SlR w x.sl 2 insv x.code o) und24 cel30 (by omega) (fun m ci hl hr => by
   obtain ⟨x, g1, g2, g3, g4, g5⟩ := dec_rt2 hl hr
   exact ⟨x, g1, g2, g5, g3⟩) (rd_field hf 1 (ft := 24) (off := 1) (sz := 1) (by kernel_rfl) cel24)
  simp only [List.drop_zero, List.drop_succ_cons, List.take_succ_cons, List.take_zero, List.cons.injEq, and_true] at e1 e2
  subst e1 e2
  rw [byt54] at kb
  rw [byt30] at mb
  unfold reachBytes at kb mb
  have rg : ∀ {o : List Nat}, (∀ k ∈ o, k < w.heap.size) → ∀ k ∈ o, k ∈ List.range w.heap.size := fun h k hk => List.mem_range.2 (h k hk)
  have hS : (tSys s1 xs).holds w (List.range w.heap.size) := ⟨fun k hk => List.mem_range.1 hk, ⟨o1, k1, rg k1.lt⟩, fun x hx => (k2 x hx).2.2.2⟩
  have hR : (tRts s2 ys).holds w (List.range w.heap.size) := ⟨fun k hk => List.mem_range.1 hk, ⟨o2, m1, rg m1.lt⟩, fun x hx => by
   obtain ⟨o, ho⟩ := (m2 x hx).2.2
   exact ⟨o, ho, rg ho.lt⟩⟩
  exact ⟨s1, s2, xs, ys, rfl, ⟨by omega, k3⟩, ⟨by omega, m3⟩, fun x hx => ⟨(k2 x hx).1, (k2 x hx).2.1, (k2 x hx).2.2.1⟩, fun y hy => ⟨(m2 y hy).1, (m2 y hy).2.1⟩, ⟨xs, _, rfl, hS⟩, RdR.of hR, hS, hR⟩
theorem dec_byte {w : World} {B m : Nat} {ci : List Value} (hl : ci.length = 1) (h : RdV Tryz.prog w B m 5 ci) : ∃ x : Int, ci = u8v x ∧ (0 ≤ x ∧ x < 256) := by
 obtain ⟨m0, e0, h0⟩ := rd_int undU8 h
 have hm : IntKind.u8.min ≤ m0 ∧ m0 ≤ IntKind.u8.max := by simpa [Lit.wf] using h0
 have h1 : IntKind.u8.min = 0 := by decide
 have h2 : IntKind.u8.max = 255 := by decide
 exact ⟨m0, e0, by omega, by omega⟩
theorem dec_bytes {w : World} {B n : Nat} {cs : List Value} (h : RdV Tryz.prog w B n 34 cs) : ∃ (s : Sl) (l : List Int), cs = [.slice s.a s.len s.cap] ∧ (∃ o, SlR w s 1 u8v l o) ∧ Bytes l ∧ (l.length ≤ 140737488355328 ∧ l.length ≤ B) ∧ s.len ≤ s.cap := by
 obtain ⟨s, l, o, h1, h2, h3, hb, h4, h5⟩ := rd_slice (f := u8v) (G := fun x => 0 ≤ x ∧ x < 256) und34s cel5 (by omega) (fun m ci hl hr => dec_byte hl hr) h
 rw [byt5] at hb
 unfold reachBytes at hb
 exact ⟨s, l, h1, ⟨o, h2⟩, h3, ⟨by omega, h4⟩, h5⟩
theorem back_call {w : World} (hG : Glob w) {B n n' n'' : Nat} {cp cr : Array Value} {a : Option Addr} {len cap : Nat} {s : ByteArray} (hp : cp.toList.length = 2) (h : RdV Tryz.prog w B n 37 cp.toList) (hc : cr.toList.length = 4) (h' : RdV Tryz.prog w B n' 30 cr.toList) (h'' : RdV Tryz.prog w B n'' 34 [.slice a len cap]) (hs : s.size ≤ 1048576) :
  Calls Tryz.prog 7 #[.agg cp, .agg cr, .slice a len cap, .string s] w fun e w' => e = .returned (.bool true) ∧ Below w.heap.size w w' := by
 obtain ⟨s1, s2, xs, ys, e1, ⟨b1, _⟩, ⟨b2, _⟩, ok1, ok2, hS, hR, _, _⟩ := dec_pg hp h
 obtain ⟨x, hx, h1, h2, h3, h4⟩ := dec_rt2 hc h'
 obtain ⟨b, l, g1, g2, g3, ⟨g4, _⟩, g5⟩ := dec_bytes h''
 simp only [List.cons.injEq, Value.slice.injEq, and_true] at g1
 obtain ⟨rfl, rfl, rfl⟩ := g1
 have e : cr = #[.string x.nm, .int .i64 x.pa, .int .i64 x.lo, .slice x.sl.a x.sl.len x.sl.cap] := by
  apply Array.toList_inj.1
  exact hx
 have e' : cp = #[.slice s1.a s1.len s1.cap, .slice s2.a s2.len s2.cap] := by
  apply Array.toList_inj.1
  exact e1
 subst e e'
 exact calls_true (back_spec (p := ⟨xs.map SV.m, ys.map RV.r⟩) (nm := x.nm) (pa := x.pa) (lo := x.lo) (sl := x.sl) (code := x.code) (s := s) hG hS hR ⟨fun s hs => by
  obtain ⟨x, hx, rfl⟩ := List.mem_map.1 hs
  exact (ok1 x hx).1, fun r hr => by
  obtain ⟨y, hy, rfl⟩ := List.mem_map.1 hr
  exact (ok2 y hy).1⟩ (by simp; omega) (by simp; omega) h2 h1 h3 g2 g3 g4 g5 (by omega) fun w' hf => ⟨rfl, hf.fr⟩)
end Go.Proofs.YtmfgofbcnlkolaaGreatDoor.FW
end
