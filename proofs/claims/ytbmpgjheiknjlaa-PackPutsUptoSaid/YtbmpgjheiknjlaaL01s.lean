/-
  The walk of PackSums.
-/
import Derived.Test.YtbmpgjheiknjlaaC01h
set_option linter.unusedSimpArgs false
set_option linter.unusedVariables false
set_option maxRecDepth 100000
namespace Go.Proofs.Ytbmpgjheiknjlaa.F
open Go Go.Den Go.Proofs

def bump (l : List Int) : List Int := l.map fun v => (v + 1) % 256
theorem bump_len (l : List Int) : (bump l).length = l.length := by simp [bump]
theorem bump_bytes (l : List Int) : Bytes (bump l) := by
  intro x hx
  obtain ⟨y, _, rfl⟩ := List.mem_map.1 hx
  omega
/-- The lent bytes, the first k of them turned. -/
def turnL (l : List Int) (k : Nat) : List Int := (bump l).take k ++ (lentL l).drop k
theorem turn_len (l : List Int) {k : Nat} (h : k ≤ l.length) : (turnL l k).length = l.length + 80 := by
  simp only [turnL, List.length_append, List.length_take, List.length_drop, bump_len, lentL_len]; omega
theorem turn_get {l : List Int} {k : Nat} (h : k < l.length) : (turnL l k)[k]? = some l[k] := by
  have e : (List.take k (bump l)).length = k := by rw [List.length_take, bump_len]; omega
  unfold turnL
  rw [List.getElem?_append_right (by omega), e, Nat.sub_self, List.getElem?_drop, Nat.add_zero, lentL, List.getElem?_append_left h, List.getElem?_eq_getElem h]
theorem turn_set {l : List Int} {k : Nat} (h : k < l.length) : (turnL l k).set k ((l[k] + 1) % 256) = turnL l (k + 1) := by
  have e : (List.take k (bump l)).length = k := by rw [List.length_take, bump_len]; omega
  have hb : k < (bump l).length := by rw [bump_len]; exact h
  have hl : k < (lentL l).length := by rw [lentL_len]; omega
  unfold turnL
  rw [List.set_append_right _ _ (by omega), e, Nat.sub_self, List.drop_eq_getElem_cons hl, List.set_cons_zero, List.take_succ_eq_append_getElem hb, List.append_assoc]
  simp [bump]
theorem turn_all (l : List Int) : turnL l l.length = bump l ++ List.replicate 80 201 := by
  unfold turnL lentL
  rw [List.take_of_length_le (by rw [bump_len]; omega), List.drop_left]

theorem bump_succ {l : List Int} {k : Nat} (h : k < l.length) : (bump l).take (k + 1) = (bump l).take k ++ [(l[k] + 1) % 256] := by
  rw [List.take_succ_eq_append_getElem (by rw [bump_len]; exact h)]
  simp [bump]

set_option maxHeartbeats 1000000 in
theorem sums_spec {b : Sl} {l : List Int} {o : List Nat} {w : World} {K : Bool → World → Prop} (hs : SlR w b 1 u8v l o) (hb : Bytes l) (hl : l.length ≤ 140737488351232) (hK : ∀ w', Fr [] w w' → K true w') : f5 b w K := by
  unfold f5
  refine shown_spec fun w1 f1 => ?_
  have h := (Hp.begin_ w).keep f1
  have h := h.addRo (t := tRd b 1 u8v l) hs (by simp)
  have hu : Hp.Reads (tRd b 1 u8v l).ro b 1 u8v l := ⟨Hp.rdRd.rd⟩
  have hbl := h.lenU 0 rfl hu
  obtain ⟨inf, q1, q2, q3, q4⟩ := inf5
  simp only [List.nil_append] at h
  refine lent_spec h 0 rfl hu (by omega) fun x w2 h hxl hxc => ?_
  simp only [List.cons_append, List.nil_append] at h
  have hpre : ((lentL l).take ((b.len : Int)).toNat).drop (0 : Int).toNat = l := by
    show List.take _ _ = _
    rw [show ((b.len : Int)).toNat = l.length by omega, lentL, List.take_left]
  refine Hp.cutv (s := x) (Hp.rdSl (e := 5) (s := x) (n := 1) (f := u8v) (l := lentL l)) (by rw [lentL_len]; omega) u8v_len (Int.le_refl 0) (by omega) (by omega) (Int.le_refl _) (by omega) fun s hs1 _ _ => ?_
  rw [hpre] at hs1
  refine Sum_spec h 1 rfl hs1 hb (by omega) ?_
  refine still_spec h 1 0 rfl rfl Hp.rdSl hu (by omega) fun w3 h => ?_
  have h := h.nil 5 1 u8v
  simp only [List.cons_append, List.nil_append] at h
  have e0 : lentL l = turnL l 0 := by simp [turnL]
  rw [e0] at h
  refine ⟨fun t i m w' => ∃ k : Nat, i = k ∧ k ≤ l.length ∧ m = l.length - k ∧ Hp [] w w' [(tRd b 1 u8v l).ro, tB x (turnL l k), tB t ((bump l).take k)], ⟨l.length, 0, rfl, by omega, rfl, by simpa using h⟩, ?_⟩
  rintro t i m w4 ⟨k, rfl, hk, rfl, h⟩
  by_cases hlt : k < l.length
  · refine ifT (by simp; omega) ?_
    have hg := turn_get hlt
    have hst := turn_set hlt
    have hbs := bump_succ hlt
    have hc := hb l[k] (List.getElem_mem hlt)
    generalize l[k] = c at hg hst hbs hc
    refine h.ixld (k := .i .u8) (y := c) (x := c) 1 rfl (by omega) hg u8v_len rfl ?_
    have ew : IntKind.u8.wrap (c + 1) = (c + 1) % 256 := w8 _
    rw [ew]
    refine h.ixst 1 rfl (by omega) (by rw [turn_len l hk]; omega) u8v_len (y := (c + 1) % 256) rfl rfl fun w5 h => ?_
    rw [Int.toNat_natCast, hst] at h
    simp only [List.set_cons_zero, List.set_cons_succ] at h
    have hg2 : (turnL l (k + 1))[((k : Int)).toNat]? = some ((c + 1) % 256) := by
      rw [Int.toNat_natCast, ← hst, List.getElem?_set_self (by rw [turn_len l hk]; omega)]
    refine h.ixld (k := .i .u8) (y := (c + 1) % 256) (x := (c + 1) % 256) 1 rfl (by omega) hg2 u8v_len rfl ?_
    have htl := h.len (s := t) 2 rfl
    rw [List.length_take, bump_len] at htl
    refine h.nwapp (c := [_]) 2 ((c + 1) % 256) rfl u8v_len und22 q1 q3 q2 rfl rfl (by simp [Value.oneCell']) (by rw [q4]; omega) (by omega) fun t2 w5 h _ _ => ?_
    refine ⟨l.length - (k + 1), by omega, k + 1, by rw [wr64 (by omega) (by omega)]; omega, by omega, rfl, ?_⟩
    rw [hbs]
    exact h
  · refine ifF (by simp; omega) ?_
    obtain rfl : k = l.length := by omega
    refine ifT rfl ?_
    refine ifT rfl ?_
    refine RSum_spec h 0 rfl hu hb (by omega) ?_
    refine ifT (by simp) ?_
    rw [turn_all] at h
    have hpre2 : ((bump l ++ List.replicate 80 201).take ((b.len : Int)).toNat).drop (0 : Int).toNat = bump l := by
      show List.take _ _ = _
      rw [show ((b.len : Int)).toNat = (bump l).length by rw [bump_len]; omega, List.take_left]
    refine Hp.cutv (s := x) (Hp.rdSl (e := 5) (s := x) (n := 1) (f := u8v) (l := bump l ++ List.replicate 80 201)) (by simp [bump_len]; omega) u8v_len (Int.le_refl 0) (by omega) (by omega) (Int.le_refl _) (by omega) fun s3 hs3 _ _ => ?_
    rw [hpre2] at hs3
    refine Sum_spec h 1 rfl hs3 (bump_bytes l) (by rw [bump_len]; omega) ?_
    have e2 : (bump l).take l.length = bump l := List.take_of_length_le (by rw [bump_len]; omega)
    rw [e2] at h
    refine RSum_spec h 2 rfl Hp.rdSl (bump_bytes l) (by rw [bump_len]; omega) ?_
    have := hK _ h.fr
    simpa using this
end Go.Proofs.Ytbmpgjheiknjlaa.F
