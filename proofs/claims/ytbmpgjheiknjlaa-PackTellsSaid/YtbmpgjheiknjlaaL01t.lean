/-
  The walk of PackTells.
-/
import Derived.Test.YtbmpgjheiknjlaaC01h
import Derived.Test.YtbmpgjheiknjlaaM01t
set_option linter.unusedSimpArgs false
set_option linter.unusedVariables false
set_option maxRecDepth 100000
namespace Go.Proofs.Ytbmpgjheiknjlaa.F
open Go Go.Den Go.Proofs

/-- The i-th byte of the bits, and a byte turned by it. -/
def eb (bits : Int) (i : Nat) : Int := bits / 2 ^ (8 * i) % 256
def xb (c e : Int) : Int := ((BitVec.ofInt 8 c ^^^ BitVec.ofInt 8 e).toNat : Nat)
theorem xb_range (c e : Int) : 0 ≤ xb c e ∧ xb c e < 256 := by
  unfold xb
  have := (BitVec.ofInt 8 c ^^^ BitVec.ofInt 8 e).isLt
  omega
theorem xb_xb {c e : Int} (h : 0 ≤ c ∧ c < 256) : xb (xb c e) e = c := by
  unfold xb
  rw [of_nat, BitVec.xor_assoc, BitVec.xor_self, BitVec.xor_zero, ofInt_toNat]
  omega
theorem xb_same {c e : Int} (h : 0 ≤ c ∧ c < 256) (he : 0 ≤ e ∧ e < 256) (hx : c = xb c e) : e = 0 := by
  unfold xb at hx
  have h1 : BitVec.ofInt 8 c = BitVec.ofInt 8 c ^^^ BitVec.ofInt 8 e := by
    conv => lhs; rw [hx]
    rw [of_nat]
  have h2 : BitVec.ofInt 8 e = 0#8 := by
    have h3 := congrArg (fun q => BitVec.ofInt 8 c ^^^ q) h1
    simp only [← BitVec.xor_assoc, BitVec.xor_self, BitVec.zero_xor] at h3
    exact h3.symm
  have h4 := congrArg BitVec.toNat h2
  rw [ofInt_toNat] at h4
  have h4 : (e % 2 ^ 8).toNat = 0 := h4
  omega
theorem eb_range (bits : Int) (i : Nat) : 0 ≤ eb bits i ∧ eb bits i < 256 := by unfold eb; omega
theorem eb_zero {bits : Int} (h0 : 0 ≤ bits) (h1 : bits < 4294967296) (e0 : eb bits 0 = 0) (e1 : eb bits 1 = 0) (e2 : eb bits 2 = 0) (e3 : eb bits 3 = 0) : bits = 0 := by
  unfold eb at e0 e1 e2 e3
  simp only [Nat.reduceMul, Int.reducePow] at e0 e1 e2 e3
  omega
theorem eb_val {bits : Int} {i : Nat} (hi : i < 4) : IntKind.u8.wrap (Int.fdiv bits (2 ^ (min (Int.toNat (IntKind.i64.wrap (8 * (i : Int)))) 32))) = eb bits i := by
  have e : min (Int.toNat (IntKind.i64.wrap (8 * (i : Int)))) 32 = 8 * i := by rw [wr64 (by omega) (by omega)]; omega
  rw [e, w8]
  unfold eb
  rw [Int.fdiv_eq_ediv_of_nonneg _ (Int.le_of_lt (Int.pow_pos (by omega)))]
theorem xb_val {c e : Int} : IntKind.u8.wrap ((BitVec.ofInt 8 c ^^^ BitVec.ofInt 8 e).toNat : Nat) = xb c e := by
  have := xb_range c e
  rw [w8]
  unfold xb at *
  omega

/-- Four cells, the first k of them turned. -/
def cells4 (bits : Int) (k : Nat) (c0 c1 c2 c3 : Int) (R : List Int) : List Int :=
  (if 0 < k then xb c0 (eb bits 0) else c0) :: (if 1 < k then xb c1 (eb bits 1) else c1) :: (if 2 < k then xb c2 (eb bits 2) else c2) :: (if 3 < k then xb c3 (eb bits 3) else c3) :: R

theorem cells4_step {bits : Int} {k : Nat} (hk : k < 4) (c0 c1 c2 c3 : Int) (R : List Int) : ∃ c, (cells4 bits k c0 c1 c2 c3 R)[k]? = some c ∧ (cells4 bits k c0 c1 c2 c3 R).set k (xb c (eb bits k)) = cells4 bits (k + 1) c0 c1 c2 c3 R := by
  have : k = 0 ∨ k = 1 ∨ k = 2 ∨ k = 3 := by omega
  rcases this with rfl | rfl | rfl | rfl
  · exact ⟨c0, rfl, rfl⟩
  · exact ⟨c1, rfl, rfl⟩
  · exact ⟨c2, rfl, rfl⟩
  · exact ⟨c3, rfl, rfl⟩

theorem at_app {A B : List Int} (k : Nat) : (A ++ B)[A.length + k]? = B[k]? := by
  rw [List.getElem?_append_right (by omega), Nat.add_sub_cancel_left]
theorem set_app {A B : List Int} (k : Nat) (x : Int) : (A ++ B).set (A.length + k) x = A ++ B.set k x := by
  rw [List.set_append_right _ _ (by omega), Nat.add_sub_cancel_left]

set_option maxHeartbeats 1000000 in
theorem tells_spec {b : Sl} {l : List Int} {o : List Nat} {at_ bits : Int} {w : World} {K : Bool → World → Prop} (hs : SlR w b 1 u8v l o) (hb : Bytes l) (hl : l.length ≤ 140737488351232) (ha0 : -9223372036854775808 ≤ at_) (ha1 : at_ ≤ 9223372036854775807) (hb0 : 0 ≤ bits) (hb1 : bits < 4294967296) (hK : ∀ w', Fr [] w w' → K true w') : f7 b at_ bits w K := by
  unfold f7
  refine shown_spec fun w1 f1 => ?_
  have h := (Hp.begin_ w).keep f1
  have h := h.addRo (t := tRd b 1 u8v l) hs (by simp)
  have hu : Hp.Reads (tRd b 1 u8v l).ro b 1 u8v l := ⟨Hp.rdRd.rd⟩
  have hbl := h.lenU 0 rfl hu
  simp only [List.nil_append] at h
  by_cases hsmall : l.length < 4 ∨ bits = 0
  · refine ifT ?_ (hK _ h.fr)
    rcases hsmall with h4 | h4
    · have : (b.len : Int) < 4 := by omega
      simp [this]
    · simp [h4]
  simp only [not_or] at hsmall
  refine ifF ?_ ?_
  · have : ¬ (b.len : Int) < 4 := by omega
    simp [this, hsmall.2]
  have ew3 : IntKind.i64.wrap ((b.len : Int) - 3) = (l.length : Int) - 3 := by rw [wr64 (by omega) (by omega)]; omega
  rw [ew3]
  refine ⟨fun a2 w' => 0 ≤ a2 ∧ w' = w1, ?_, ?_⟩
  · by_cases hn : at_ < 0
    · refine ifT (by simpa using hn) ⟨?_, rfl⟩
      rw [wr64 (n := at_ + 1) (by omega) (by omega), wr64 (by omega) (by omega)]; omega
    · exact ifF (by simpa using hn) ⟨by omega, rfl⟩
  rintro a2 w2 ⟨ha2, rfl⟩
  refine ⟨by omega, ?_⟩
  have hmod0 : 0 ≤ Int.tmod a2 ((l.length : Int) - 3) := Int.tmod_nonneg _ ha2
  have hmod1 : Int.tmod a2 ((l.length : Int) - 3) < (l.length : Int) - 3 := Int.tmod_lt_of_pos _ (by omega)
  obtain ⟨p, hp⟩ := Int.eq_ofNat_of_zero_le hmod0
  rw [hp] at hmod1 ⊢
  have hpl : p + 4 ≤ l.length := by omega
  -- the bytes apart
  obtain ⟨A, c0, c1, c2, c3, R, hA, hsp⟩ : ∃ A c0 c1 c2 c3 R, A.length = p ∧ l = A ++ c0 :: c1 :: c2 :: c3 :: R := by
    have h0 : p < l.length := by omega
    have h1 : p + 1 < l.length := by omega
    have h2 : p + 1 + 1 < l.length := by omega
    have h3 : p + 1 + 1 + 1 < l.length := by omega
    refine ⟨l.take p, l[p], l[p + 1], l[p + 1 + 1], l[p + 1 + 1 + 1], l.drop (p + 1 + 1 + 1 + 1), by rw [List.length_take]; omega, ?_⟩
    rw [← List.drop_eq_getElem_cons h3, ← List.drop_eq_getElem_cons h2, ← List.drop_eq_getElem_cons h1, ← List.drop_eq_getElem_cons h0, List.take_append_drop]
  have hc0 := hb c0 (by rw [hsp]; simp)
  have hc1 := hb c1 (by rw [hsp]; simp)
  have hc2 := hb c2 (by rw [hsp]; simp)
  have hc3 := hb c3 (by rw [hsp]; simp)
  have hlent : lentL l = A ++ cells4 bits 0 c0 c1 c2 c3 (R ++ List.replicate 80 201) := by rw [lentL, hsp]; simp [cells4]
  have hlen4 : ∀ k d0 d1 d2 d3, (A ++ cells4 bits k d0 d1 d2 d3 (R ++ List.replicate 80 201)).length = l.length + 80 := fun k d0 d1 d2 d3 => by
    rw [hsp]; simp [cells4]; omega
  have hpre : ∀ k d0 d1 d2 d3, ((A ++ cells4 bits k d0 d1 d2 d3 (R ++ List.replicate 80 201)).take ((b.len : Int)).toNat).drop (0 : Int).toNat = A ++ cells4 bits k d0 d1 d2 d3 R := fun k d0 d1 d2 d3 => by
    show List.take _ _ = _
    have e1 : A ++ cells4 bits k d0 d1 d2 d3 (R ++ List.replicate 80 201) = (A ++ cells4 bits k d0 d1 d2 d3 R) ++ List.replicate 80 201 := by simp [cells4]
    have e2 : ((b.len : Int)).toNat = (A ++ cells4 bits k d0 d1 d2 d3 R).length := by
      have : l.length = (A ++ cells4 bits k d0 d1 d2 d3 R).length := by rw [hsp]; simp [cells4]
      omega
    rw [e1, e2, List.take_left]
  refine lent_spec h 0 rfl hu (by omega) fun x w3 h hxl hxc => ?_
  simp only [List.cons_append, List.nil_append] at h
  rw [hlent] at h
  refine Hp.cutv (s := x) (Hp.rdSl (e := 5) (s := x) (n := 1) (f := u8v) (l := A ++ cells4 bits 0 c0 c1 c2 c3 (R ++ List.replicate 80 201))) (by rw [hlen4]; omega) u8v_len (Int.le_refl 0) (by omega) (by omega) (Int.le_refl _) (by omega) fun s hs1 _ _ => ?_
  rw [hpre] at hs1
  have e0 : A ++ cells4 bits 0 c0 c1 c2 c3 R = l := by rw [hsp]; rfl
  rw [e0] at hs1
  refine Sum_spec h 1 rfl hs1 hb (by omega) ?_
  refine ⟨fun i m w' => ∃ k : Nat, i = k ∧ k ≤ 4 ∧ m = 4 - k ∧ Hp [] w w' [(tRd b 1 u8v l).ro, tB x (A ++ cells4 bits k c0 c1 c2 c3 (R ++ List.replicate 80 201))], ⟨4, 0, rfl, by omega, rfl, h⟩, ?_⟩
  rintro i m w4 ⟨k, rfl, hk, rfl, h⟩
  have hidx : ∀ k : Nat, k < 4 → IntKind.i64.wrap (((p : Nat) : Int) + (k : Int)) = ((A.length + k : Nat) : Int) := fun k hk => by rw [wr64 (by omega) (by omega)]; omega
  by_cases hk4 : k < 4
  · refine ifT (by simp; omega) ?_
    refine h.dr fun w5 h => ?_
    rw [hidx k hk4]
    obtain ⟨c, hg, hst⟩ := cells4_step (bits := bits) hk4 c0 c1 c2 c3 (R ++ List.replicate 80 201)
    refine h.ixld (k := .i .u8) (y := c) (x := c) 1 rfl (by omega) (by rw [Int.toNat_natCast, at_app]; exact hg) u8v_len rfl ?_
    refine ⟨by rw [wr64 (by omega) (by omega)]; omega, ?_⟩
    rw [eb_val hk4, xb_val]
    refine h.ixst 1 rfl (by omega) (by rw [hlen4]; omega) u8v_len (y := xb c (eb bits k)) rfl rfl fun w6 h => ?_
    rw [Int.toNat_natCast, set_app, hst] at h
    exact ⟨4 - (k + 1), by omega, k + 1, by rw [wr64 (by omega) (by omega)]; omega, by omega, rfl, h⟩
  refine ifF (by simp; omega) ?_
  obtain rfl : k = 4 := by omega
  refine Hp.cutv (s := x) (Hp.rdSl (e := 5) (s := x) (n := 1) (f := u8v) (l := A ++ cells4 bits 4 c0 c1 c2 c3 (R ++ List.replicate 80 201))) (by rw [hlen4]; omega) u8v_len (Int.le_refl 0) (by omega) (by omega) (Int.le_refl _) (by omega) fun s3 hs3 _ _ => ?_
  rw [hpre] at hs3
  have e4 : ∀ R, cells4 bits 4 c0 c1 c2 c3 R = xb c0 (eb bits 0) :: xb c1 (eb bits 1) :: xb c2 (eb bits 2) :: xb c3 (eb bits 3) :: R := fun R => rfl
  have hb3 : Bytes (A ++ cells4 bits 4 c0 c1 c2 c3 R) := by
    intro z hz
    rw [e4] at hz
    simp only [List.mem_append, List.mem_cons] at hz
    rcases hz with hz | rfl | rfl | rfl | rfl | hz
    · exact hb z (by rw [hsp]; simp [hz])
    · exact xb_range _ _
    · exact xb_range _ _
    · exact xb_range _ _
    · exact xb_range _ _
    · exact hb z (by rw [hsp]; simp [hz])
  have hl3 : (A ++ cells4 bits 4 c0 c1 c2 c3 R).length = l.length := by rw [hsp]; simp [cells4]
  refine Sum_spec h 1 rfl hs3 hb3 (by omega) ?_
  have hne : sumU l ≠ sumU (A ++ cells4 bits 4 c0 c1 c2 c3 R) := by
    intro he
    rw [hsp, e4] at he
    obtain ⟨g0, g1, g2, g3⟩ := tells hc0 hc1 hc2 hc3 (xb_range _ _) (xb_range _ _) (xb_range _ _) (xb_range _ _) he
    exact hsmall.2 (eb_zero hb0 hb1 (xb_same hc0 (eb_range _ _) g0) (xb_same hc1 (eb_range _ _) g1) (xb_same hc2 (eb_range _ _) g2) (xb_same hc3 (eb_range _ _) g3))
  rw [e4] at h
  refine ⟨fun i m w' => ∃ k : Nat, i = k ∧ k ≤ 4 ∧ m = 4 - k ∧ Hp [] w w' [(tRd b 1 u8v l).ro, tB x (A ++ cells4 bits k (xb c0 (eb bits 0)) (xb c1 (eb bits 1)) (xb c2 (eb bits 2)) (xb c3 (eb bits 3)) (R ++ List.replicate 80 201))], ⟨4, 0, rfl, by omega, rfl, h⟩, ?_⟩
  rintro i m w7 ⟨k, rfl, hk, rfl, h⟩
  by_cases hk4 : k < 4
  · refine ifT (by simp; omega) ?_
    refine h.dr fun w5 h => ?_
    rw [hidx k hk4]
    obtain ⟨c, hg, hst⟩ := cells4_step (bits := bits) hk4 (xb c0 (eb bits 0)) (xb c1 (eb bits 1)) (xb c2 (eb bits 2)) (xb c3 (eb bits 3)) (R ++ List.replicate 80 201)
    refine h.ixld (k := .i .u8) (y := c) (x := c) 1 rfl (by omega) (by rw [Int.toNat_natCast, at_app]; exact hg) u8v_len rfl ?_
    refine ⟨by rw [wr64 (by omega) (by omega)]; omega, ?_⟩
    rw [eb_val hk4, xb_val]
    refine h.ixst 1 rfl (by omega) (by rw [hlen4]; omega) u8v_len (y := xb c (eb bits k)) rfl rfl fun w6 h => ?_
    rw [Int.toNat_natCast, set_app, hst] at h
    exact ⟨4 - (k + 1), by omega, k + 1, by rw [wr64 (by omega) (by omega)]; omega, by omega, rfl, h⟩
  refine ifF (by simp; omega) ?_
  obtain rfl : k = 4 := by omega
  have e5 : cells4 bits 4 (xb c0 (eb bits 0)) (xb c1 (eb bits 1)) (xb c2 (eb bits 2)) (xb c3 (eb bits 3)) (R ++ List.replicate 80 201) = cells4 bits 0 c0 c1 c2 c3 (R ++ List.replicate 80 201) := by
    show xb _ _ :: xb _ _ :: xb _ _ :: xb _ _ :: _ = c0 :: c1 :: c2 :: c3 :: _
    rw [xb_xb hc0, xb_xb hc1, xb_xb hc2, xb_xb hc3]
  rw [e5, ← hlent] at h
  refine still_spec h 1 0 rfl rfl Hp.rdSl hu (by omega) fun w8 h => ?_
  have := hK w8 h.fr
  have e6 : (sumU l != sumU (A ++ cells4 bits 4 c0 c1 c2 c3 R)) = true := bne_iff_ne.2 hne
  rw [e6]
  exact this
end Go.Proofs.Ytbmpgjheiknjlaa.F
