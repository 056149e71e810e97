/-
  The walk of RecordBounds.
-/
import Derived.Test.YtmbbfaigbhnhcaaC02h
set_option linter.unusedSimpArgs false
set_option linter.unusedVariables false
set_option maxRecDepth 100000
namespace Go.Proofs.Ytmbbfaigbhnhcaa.F
open Go Go.Den Go.Proofs

/-- The first k places written. -/
def mk1 {α : Type} (xs : List α) (v : α) (k : Nat) : List α := List.replicate k v ++ xs.drop k
theorem mk1_set {α : Type} (xs : List α) (v : α) {k : Nat} (h : k < xs.length) : (mk1 xs v k).set k v = mk1 xs v (k + 1) := by
  unfold mk1
  rw [List.set_append_right _ _ (by simp), List.length_replicate, Nat.sub_self, List.drop_eq_getElem_cons h, List.set_cons_zero, List.replicate_succ']
  simp
theorem mk1_len {α : Type} (xs : List α) (v : α) {k : Nat} (h : k ≤ xs.length) : (mk1 xs v k).length = xs.length := by
  simp [mk1]; omega
theorem mk1_all {α : Type} (xs : List α) (v : α) {k : Nat} (h : xs.length = k) : mk1 xs v k = List.replicate k v := by
  unfold mk1; rw [List.drop_of_length_le (by omega), List.append_nil]

section
variable {S : List Nat} {w0 w : World} {its : List Thing}

theorem pick_spec {c n : Int} (hn : 0 < n) (hn2 : n ≤ 9223372036854775807) (h1 : -9223372036854775808 ≤ c) (h2 : c ≤ 9223372036854775807) {K : Int → World → Prop} (hK : ∀ r : Int, 0 ≤ r → r < n → K r w) : c19 c n w K := by
  refine c19_of ?_
  unfold f19
  by_cases h0 : c < 0
  · refine ifT (by simpa using h0) ⟨by omega, ?_⟩
    rw [wr64 (n := c + 1) (by omega) (by omega), wr64 (n := 0 - (c + 1)) (by omega) (by omega), Int.tmod_eq_emod_of_nonneg (by omega)]
    exact hK _ (Int.emod_nonneg _ (by omega)) (Int.emod_lt_of_pos _ hn)
  · refine ifF (by simpa using h0) ⟨by omega, ?_⟩
    rw [Int.tmod_eq_emod_of_nonneg (by omega)]
    exact hK _ (Int.emod_nonneg _ (by omega)) (Int.emod_lt_of_pos _ hn)

theorem putU3 {n : Int} (h1 : 16384 ≤ n) (h2 : n < 2097152) : putU n = [n % 128 + 128, n / 128 % 128 + 128, n / 128 / 128] := by
  unfold putU
  rw [putF, if_neg (by omega), putF, if_neg (by omega), putF, if_pos (by omega)]
theorem sum_back {s : Int} (h0 : 0 ≤ s) (h1 : s < 4294967296) :
    IntKind.u32.wrap ((IntKind.u32.wrap ((IntKind.u32.wrap ((IntKind.u32.wrap (s % 256)) + (IntKind.u32.wrap ((IntKind.u32.wrap (s / 256 % 256)) * 256)))) + (IntKind.u32.wrap ((IntKind.u32.wrap (s / 65536 % 256)) * 65536)))) + (IntKind.u32.wrap ((IntKind.u32.wrap (s / 16777216 % 256)) * 16777216))) = s := by
  simp only [w32]; omega

set_option maxHeartbeats 4000000 in
theorem bounds_spec {n fill : Int} {K : Bool → World → Prop} (h1 : -9223372036854775808 ≤ n) (h2 : n ≤ 9223372036854775807) (f1 : 0 ≤ fill) (f2 : fill < 256) (hK : ∀ w', Fr [] w w' → K true w') : f7 n fill w K := by
  unfold f7
  obtain ⟨inf, q1, q2, q3, q4⟩ := inf5
  refine shown_spec fun w1 fr1 => ?_
  have h := (Hp.begin_ w).keep fr1
  refine pick_spec (by omega) (by omega) h1 h2 fun r hr0 hr4 => ?_
  rw [wr64 (by omega) (by omega)]
  obtain ⟨N, hN, hN1, hN2⟩ : ∃ N : Nat, 99998 + r = (N : Int) ∧ 99998 ≤ N ∧ N ≤ 100001 := ⟨(99998 + r).toNat, by omega, by omega, by omega⟩
  rw [hN]
  refine h.mks (f := u8v) (n := 1) (x0 := 0) u8v_len rfl (by omega) (Int.le_refl _) (by omega) (by omega) fun data w2 h hdl _ _ => ?_
  simp only [List.cons_append, List.nil_append, Int.toNat_natCast] at h hdl
  refine ⟨fun i mm w' => ∃ k : Nat, i = k ∧ k ≤ N ∧ mm + k = N ∧ Hp [] w w' [tB data (mk1 (List.replicate N 0) fill k)], ⟨N, 0, rfl, by omega, rfl, h⟩, ?_⟩
  clear h
  rintro i mm w3 ⟨k, rfl, hk, hmm, h⟩
  by_cases hlt : k < N
  · refine ifT (by simp; omega) ?_
    refine h.ixst 0 rfl (by omega) (by rw [mk1_len _ _ (by simp; omega), List.length_replicate]; omega) u8v_len (y := fill) rfl rfl fun w4 h => ?_
    rw [Int.toNat_natCast, mk1_set _ _ (by simp; omega)] at h
    exact ⟨mm - 1, by omega, k + 1, by rw [wr64 (by omega) (by omega)]; omega, by omega, by omega, h⟩
  refine ifF (by simp; omega) ?_
  obtain rfl : k = N := by omega
  rw [mk1_all _ _ (by simp)] at h
  generalize hd : List.replicate k fill = d at h
  have hdlen : d.length = k := by rw [← hd, List.length_replicate]
  have hdb : Bytes d := by
    intro x hx; rw [← hd] at hx; obtain ⟨_, rfl⟩ := List.mem_replicate.1 hx; exact ⟨f1, f2⟩
  have h := h.nil 5 1 u8v
  simp only [List.cons_append, List.nil_append] at h
  refine RecPut_spec h 1 0 (b := nilS) (bs := []) rfl rfl Hp.rdSl Hp.rdSl hdb (by simp) (by omega) (fun hok b w4 h => ?_) (fun hok => ?_)
  · simp only [List.cons_append, List.nil_append] at h
    refine RecPut_spec h 1 1 (b := nilS) (data := nilS) (bs := []) (d := []) rfl rfl Hp.rdSl Hp.rdSl bytes_nil (by simp) (by simp) (fun hok => absurd hok.1 (by simp)) (fun _ => ?_)
    have hk5 : k ≤ 100000 := by have := hok.2; omega
    refine ifF (by simp; omega) ?_
    refine ifF (by simp) ?_
    have hml := madeU_len d
    have hmb := madeU_bytes hdb
    have hbl := h.len (s := b) 2 rfl
    have hbc := h.cap (s := b) 2 rfl
    have hgr : getR (madeU d) = (d, ((madeU d).length : Int)) := by
      have := getR_made hok []
      rwa [List.append_nil] at this
    have hp3 : putU (d.length : Int) = [(k : Int) % 128 + 128, (k : Int) / 128 % 128 + 128, (k : Int) / 128 / 128] := by rw [hdlen]; exact putU3 (by omega) (by omega)
    have hp3l : (putU (d.length : Int)).length = 3 := by rw [hp3]; rfl
    refine RecGet_spec h 2 rfl Hp.rdSl hmb (by omega) hbc fun dd w5 h => ?_
    rw [hgr] at h ⊢
    simp only [List.cons_append, List.nil_append] at h
    refine h.nw (c := []) fun b2 w6 h => ?_
    have h := h.blkSl (i := 4) (m := 0) (l := ([] : List Int)) (f := u8v) (n := 1) rfl rfl rfl u8v_len
    simp only [List.cons_append, List.nil_append, List.set_cons_zero, List.set_cons_succ] at h
    refine Hp.cutv (s := b) (Hp.rdSl (e := 5) (s := b) (n := 1) (f := u8v) (l := madeU d)) hbl u8v_len (by omega) (by omega) (by omega) (Int.le_refl _) (by omega) fun s hs hsl hsc => ?_
    have ehead : ((madeU d).take (4 : Int).toNat).drop (0 : Int).toNat = headU d := by
      show (madeU d).take 4 = _
      unfold madeU
      rw [List.append_assoc, List.take_append_of_le_length (by rw [headU_len]; omega), List.take_of_length_le (by rw [headU_len]; omega)]
    rw [ehead] at hs
    refine h.appS 4 2 (s := ⟨some ⟨b2, 0, none⟩, 0, 0⟩) (s2 := s) rfl rfl hs u8v_len und22 q1 q3 q2 rfl (by simp [u8v, Value.oneCell']) (by rw [q4]; show (0 + s.len) * 1 ≤ _; omega) (by show 0 + s.len ≤ _; omega) fun s2 w7 h hs2l _ => ?_
    have hs2l : s2.len = s.len := by rw [hs2l]; show 0 + s.len = _; omega
    simp only [List.set_cons_zero, List.set_cons_succ, List.nil_append] at h
    have hdl0 := h.len (s := data) 0 rfl
    refine h.appS 4 0 (s := s2) (s2 := data) rfl rfl Hp.rdSl u8v_len und22 q1 q3 q2 rfl (by simp [u8v, Value.oneCell']) (by rw [q4]; show (s2.len + data.len) * 1 ≤ _; omega) (by show s2.len + data.len ≤ _; omega) fun s3 w8 h _ _ => ?_
    simp only [List.set_cons_zero, List.set_cons_succ] at h
    refine RSum_spec h 4 rfl Hp.rdSl (bytes_app (headU_bytes d) hdb) (by rw [List.length_append, headU_len]; omega) ?_
    refine h.dr fun w9 h => ?_
    have hsr := sumU_range (headU d ++ d)
    generalize hsg : sumU (headU d ++ d) = sm at hsr
    have emade : madeU d = headU d ++ ([sm % 256, sm / 256 % 256, sm / 65536 % 256, sm / 16777216 % 256] ++ d) := by
      unfold madeU sumB; rw [hsg, List.append_assoc]
    have hhl : (headU d).length = 4 := by rw [headU_len]; omega
    have g4 : ∀ (j : Nat) (y : Int), j < 4 → [sm % 256, sm / 256 % 256, sm / 65536 % 256, sm / 16777216 % 256][j]? = some y → (madeU d)[4 + j]? = some y := fun j y hj hy => by
      rw [emade, List.getElem?_append_right (by omega), hhl, Nat.add_sub_cancel_left, List.getElem?_append_left (by simpa using hj)]; exact hy
    refine h.ixld (k := .i .u8) (s := b) (x := sm % 256) 2 rfl (by omega) (g4 0 _ (by omega) rfl) u8v_len rfl ?_
    refine h.ixld (k := .i .u8) (s := b) (x := sm / 256 % 256) 2 rfl (by omega) (g4 1 _ (by omega) rfl) u8v_len rfl ?_
    refine h.ixld (k := .i .u8) (s := b) (x := sm / 65536 % 256) 2 rfl (by omega) (g4 2 _ (by omega) rfl) u8v_len rfl ?_
    refine h.ixld (k := .i .u8) (s := b) (x := sm / 16777216 % 256) 2 rfl (by omega) (g4 3 _ (by omega) rfl) u8v_len rfl ?_
    refine ifT (by simp; omega) ?_
    refine ifT (by rw [wr64 (by omega) (by omega)]; simp; omega) ?_
    refine h.rdb 3 rfl Hp.rdSl _ (strL_of hdb) ?_
    refine h.rdb 0 rfl Hp.rdSl _ (strL_of hdb) ?_
    refine ifT (by simp) ?_
    rw [sum_back hsr.1 hsr.2]
    have := hK _ h.fr
    simpa using this
  · refine RecPut_spec h 1 1 (b := nilS) (data := nilS) (bs := []) (d := []) rfl rfl Hp.rdSl Hp.rdSl bytes_nil (by simp) (by simp) (fun hok => absurd hok.1 (by simp)) (fun _ => ?_)
    have hk5 : 100000 < k := by
      rcases Nat.lt_or_ge 100000 k with h | h
      · exact h
      · exact absurd ⟨by omega, by omega⟩ hok
    refine ifF (by simp; omega) ?_
    refine ifT (by simp) ?_
    exact hK _ h.fr
end
end Go.Proofs.Ytmbbfaigbhnhcaa.F
