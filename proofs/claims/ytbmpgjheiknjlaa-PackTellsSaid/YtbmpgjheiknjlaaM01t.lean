/-
  The sum tells up to 32 bits that stand together, turned.
-/
import Derived.Test.YtbmpgjheiknjlaaC01s
set_option linter.unusedSimpArgs false
set_option linter.unusedVariables false
namespace Go.Proofs.Ytbmpgjheiknjlaa.F
open Go Go.Den Go.Proofs

theorem xc {a b m : BitVec 32} (h : a ^^^ m = b ^^^ m) : a = b := by
  have h2 := congrArg (fun q => q ^^^ m) h
  simp only [BitVec.xor_assoc, BitVec.xor_self, BitVec.xor_zero] at h2
  exact h2

theorem crcR_inj {s t : BitVec 32} (h : crcR s = crcR t) : s = t := by
  have hs := s.isLt
  have ht := t.isLt
  have hx : s >>> 1 = t >>> 1 → s.toNat % 2 = t.toNat % 2 → s = t := by
    intro h1 h2
    apply BitVec.eq_of_toNat_eq
    have h3 := congrArg BitVec.toNat h1
    simp only [BitVec.toNat_ushiftRight, Nat.shiftRight_eq_div_pow] at h3
    omega
  have top : ∀ a b : BitVec 32, (a >>> 1) ^^^ poly ≠ (b >>> 1) ^^^ 0#32 := by
    intro a b he
    have e1 : poly = (a >>> 1) ^^^ (b >>> 1) := by
      rw [BitVec.xor_zero] at he
      rw [← he, ← BitVec.xor_assoc, BitVec.xor_self, BitVec.zero_xor]
    have h3 := congrArg BitVec.toNat e1
    rw [BitVec.toNat_xor] at h3
    have l1 : (a >>> 1).toNat < 2 ^ 31 := by rw [BitVec.toNat_ushiftRight, Nat.shiftRight_eq_div_pow]; have := a.isLt; omega
    have l2 : (b >>> 1).toNat < 2 ^ 31 := by rw [BitVec.toNat_ushiftRight, Nat.shiftRight_eq_div_pow]; have := b.isLt; omega
    have l3 := Nat.xor_lt_two_pow l1 l2
    rw [← h3] at l3
    revert l3
    decide
  unfold crcR at h
  by_cases h1 : s.toNat % 2 = 1 <;> by_cases h2 : t.toNat % 2 = 1
  · rw [if_pos h1, if_pos h2] at h
    exact hx (xc h) (by omega)
  · rw [if_pos h1, if_neg h2] at h
    exact absurd h (top s t)
  · rw [if_neg h1, if_pos h2] at h
    exact absurd h.symm (top t s)
  · rw [if_neg h1, if_neg h2, BitVec.xor_zero, BitVec.xor_zero] at h
    exact hx h (by omega)

theorem crcN_inj : ∀ (k : Nat) {s t : BitVec 32}, crcN k s = crcN k t → s = t
  | 0, s, t, h => h
  | k + 1, s, t, h => crcN_inj k (crcR_inj h)
theorem crcB_inj {s t : BitVec 32} {c : Int} (h : crcB s c = crcB t c) : s = t := by
  have := crcN_inj 8 h
  exact xc this
theorem crcL_inj : ∀ (l : List Int) {s t : BitVec 32}, crcL l s = crcL l t → s = t
  | [], s, t, h => h
  | c :: r, s, t, h => crcB_inj (crcL_inj r h)

/-- What stands above the low bit goes down as it is. -/
theorem crcR_up (x z : BitVec 32) (hz : z.toNat < 2 ^ 31) : crcR (x ^^^ (z <<< 1)) = crcR x ^^^ z := by
  have e1 : (z <<< 1).toNat = 2 * z.toNat := by
    rw [BitVec.toNat_shiftLeft, Nat.shiftLeft_eq]; omega
  have e2 : (z <<< 1) >>> 1 = z := by
    apply BitVec.eq_of_toNat_eq
    rw [BitVec.toNat_ushiftRight, e1, Nat.shiftRight_eq_div_pow]; omega
  have hl := xor_low x (z <<< 1)
  have e3 : (if (x ^^^ (z <<< 1)).toNat % 2 = 1 then poly else 0#32) = (if x.toNat % 2 = 1 then poly else 0#32) := by
    by_cases h : x.toNat % 2 = 1
    · rw [if_pos h, if_pos (hl.2 (by rw [e1]; omega))]
    · rw [if_neg h, if_neg (fun h2 => by have := hl.1 h2; rw [e1] at this; omega)]
  unfold crcR
  rw [e3, BitVec.ushiftRight_xor_distrib, e2]
  generalize (if x.toNat % 2 = 1 then poly else 0#32) = q
  rw [BitVec.xor_assoc, BitVec.xor_assoc, BitVec.xor_comm z]

theorem crcN_up : ∀ (k : Nat) (x z : BitVec 32), z.toNat < 2 ^ (32 - k) → k ≤ 32 → crcN k (x ^^^ (z <<< k)) = crcN k x ^^^ z
  | 0, x, z, hz, hk => by rw [BitVec.shiftLeft_zero]; rfl
  | k + 1, x, z, hz, hk => by
    have e : z <<< (k + 1) = (z <<< 1) <<< k := by rw [← BitVec.shiftLeft_add, Nat.add_comm]
    have hp : 2 ^ (32 - k) = 2 * 2 ^ (32 - (k + 1)) := by rw [show 32 - k = (32 - (k + 1)) + 1 by omega, Nat.pow_succ]; omega
    have hle : 2 ^ (32 - (k + 1)) ≤ 2 ^ 31 := Nat.pow_le_pow_right (by omega) (by omega)
    have hz1 : (z <<< 1).toNat < 2 ^ (32 - k) := by
      rw [BitVec.toNat_shiftLeft, Nat.shiftLeft_eq]
      have : z.toNat * 2 ^ 1 % 2 ^ 32 ≤ z.toNat * 2 ^ 1 := Nat.mod_le _ _
      omega
    show crcR (crcN k (x ^^^ (z <<< (k + 1)))) = crcR (crcN k x) ^^^ z
    rw [e, crcN_up k x (z <<< 1) hz1 (by omega), crcR_up _ _ (by omega)]

theorem crcN_add : ∀ (j k : Nat) (x : BitVec 32), crcN j (crcN k x) = crcN (j + k) x
  | 0, k, x => by rw [Nat.zero_add]; rfl
  | j + 1, k, x => by rw [show j + 1 + k = (j + k) + 1 by omega]; show crcR _ = crcR _; rw [crcN_add j k x]

theorem crc4 (s : BitVec 32) {c0 c1 c2 c3 : Int} (h0 : 0 ≤ c0 ∧ c0 < 256) (h1 : 0 ≤ c1 ∧ c1 < 256) (h2 : 0 ≤ c2 ∧ c2 < 256) (h3 : 0 ≤ c3 ∧ c3 < 256) :
    crcB (crcB (crcB (crcB s c0) c1) c2) c3 = crcN 32 (s ^^^ (BitVec.ofInt 32 c0 ^^^ (BitVec.ofInt 32 c1 <<< 8) ^^^ (BitVec.ofInt 32 c2 <<< 16) ^^^ (BitVec.ofInt 32 c3 <<< 24))) := by
  have hb : ∀ {c : Int}, 0 ≤ c ∧ c < 256 → ∀ k, k ≤ 24 → (BitVec.ofInt 32 c).toNat < 2 ^ (32 - k) := by
    intro c hc k hk
    rw [ofInt_toNat]
    have : 2 ^ 8 ≤ 2 ^ (32 - k) := Nat.pow_le_pow_right (by omega) (by omega)
    omega
  unfold crcB
  have e1 := crcN_up 8 (s ^^^ BitVec.ofInt 32 c0) (BitVec.ofInt 32 c1) (hb h1 8 (by omega)) (by omega)
  rw [← e1, crcN_add]
  have e2 := crcN_up 16 (s ^^^ BitVec.ofInt 32 c0 ^^^ BitVec.ofInt 32 c1 <<< 8) (BitVec.ofInt 32 c2) (hb h2 16 (by omega)) (by omega)
  rw [show (8 + 8) = 16 from rfl, ← e2, crcN_add]
  have e3 := crcN_up 24 (s ^^^ BitVec.ofInt 32 c0 ^^^ BitVec.ofInt 32 c1 <<< 8 ^^^ BitVec.ofInt 32 c2 <<< 16) (BitVec.ofInt 32 c3) (hb h3 24 (by omega)) (by omega)
  rw [show (8 + 16) = 24 from rfl, ← e3, crcN_add]
  simp only [BitVec.xor_assoc]

theorem shl8 {z : BitVec 32} (hz : z.toNat < 2 ^ 24) : (z <<< 8).toNat = 256 * z.toNat := by
  rw [BitVec.toNat_shiftLeft, Nat.shiftLeft_eq]; omega

theorem peel {a z : BitVec 32} (ha : a.toNat < 256) (hz : z.toNat < 2 ^ 24) (h : a ^^^ (z <<< 8) = 0#32) : a = 0#32 ∧ z = 0#32 := by
  have h2 : a = z <<< 8 := xc (m := z <<< 8) (by rw [h, BitVec.xor_self])
  have h3 := congrArg BitVec.toNat h2
  rw [shl8 hz] at h3
  constructor
  · apply BitVec.eq_of_toNat_eq
    show _ = 0
    omega
  · apply BitVec.eq_of_toNat_eq
    show _ = 0
    omega

/-- Four bytes that are turned by a word that is not 0 are other ones. -/
theorem word0 {e0 e1 e2 e3 : BitVec 32} (h0 : e0.toNat < 256) (h1 : e1.toNat < 256) (h2 : e2.toNat < 256) (h3 : e3.toNat < 256)
    (h : e0 ^^^ (e1 <<< 8) ^^^ (e2 <<< 16) ^^^ (e3 <<< 24) = 0#32) : e0 = 0#32 ∧ e1 = 0#32 ∧ e2 = 0#32 ∧ e3 = 0#32 := by
  have b2 : (e2 ^^^ (e3 <<< 8)).toNat < 2 ^ 16 := by
    rw [BitVec.toNat_xor, shl8 (by omega)]
    exact Nat.xor_lt_two_pow (by omega) (by omega)
  have b1 : (e1 ^^^ ((e2 ^^^ (e3 <<< 8)) <<< 8)).toNat < 2 ^ 24 := by
    rw [BitVec.toNat_xor, shl8 (by omega)]
    exact Nat.xor_lt_two_pow (by omega) (by omega)
  have e : e0 ^^^ ((e1 ^^^ ((e2 ^^^ (e3 <<< 8)) <<< 8)) <<< 8) = 0#32 := by
    rw [← h]
    simp only [BitVec.shiftLeft_xor_distrib, ← BitVec.shiftLeft_add, BitVec.xor_assoc]
  obtain ⟨g0, g⟩ := peel h0 b1 e
  obtain ⟨g1, g⟩ := peel h1 (by omega) g
  obtain ⟨g2, g3⟩ := peel h2 (by omega) g
  exact ⟨g0, g1, g2, g3⟩

theorem sum_inj {a b : List Int} (h : sumU a = sumU b) : crcL a (BitVec.allOnes 32) = crcL b (BitVec.allOnes 32) := by
  unfold sumU at h
  have h2 : (crcL a (BitVec.allOnes 32) ^^^ BitVec.allOnes 32).toNat = (crcL b (BitVec.allOnes 32) ^^^ BitVec.allOnes 32).toNat := Int.ofNat_inj.1 h
  exact xc (BitVec.eq_of_toNat_eq h2)

theorem mix (x0 x1 x2 x3 y0 y1 y2 y3 : BitVec 32) (h : x0 ^^^ (x1 <<< 8) ^^^ (x2 <<< 16) ^^^ (x3 <<< 24) = y0 ^^^ (y1 <<< 8) ^^^ (y2 <<< 16) ^^^ (y3 <<< 24)) :
    (x0 ^^^ y0) ^^^ ((x1 ^^^ y1) <<< 8) ^^^ ((x2 ^^^ y2) <<< 16) ^^^ ((x3 ^^^ y3) <<< 24) = 0#32 := by
  rw [BitVec.shiftLeft_xor_distrib, BitVec.shiftLeft_xor_distrib, BitVec.shiftLeft_xor_distrib]
  generalize x1 <<< 8 = a1 at *
  generalize x2 <<< 16 = a2 at *
  generalize x3 <<< 24 = a3 at *
  generalize y1 <<< 8 = b1 at *
  generalize y2 <<< 16 = b2 at *
  generalize y3 <<< 24 = b3 at *
  have e : (x0 ^^^ a1 ^^^ a2 ^^^ a3) ^^^ (y0 ^^^ b1 ^^^ b2 ^^^ b3) = 0#32 := by rw [h, BitVec.xor_self]
  rw [← e]
  ac_rfl

/-- Up to 32 bits that stand together are told. -/
theorem tells {A R : List Int} {c0 c1 c2 c3 d0 d1 d2 d3 : Int} (h0 : 0 ≤ c0 ∧ c0 < 256) (h1 : 0 ≤ c1 ∧ c1 < 256) (h2 : 0 ≤ c2 ∧ c2 < 256) (h3 : 0 ≤ c3 ∧ c3 < 256)
    (g0 : 0 ≤ d0 ∧ d0 < 256) (g1 : 0 ≤ d1 ∧ d1 < 256) (g2 : 0 ≤ d2 ∧ d2 < 256) (g3 : 0 ≤ d3 ∧ d3 < 256) (h : sumU (A ++ c0 :: c1 :: c2 :: c3 :: R) = sumU (A ++ d0 :: d1 :: d2 :: d3 :: R)) : c0 = d0 ∧ c1 = d1 ∧ c2 = d2 ∧ c3 = d3 := by
  have e := sum_inj h
  rw [crcL_append, crcL_append] at e
  generalize crcL A (BitVec.allOnes 32) = s at e
  simp only [crcL] at e
  have e := crcL_inj R e
  rw [crc4 s h0 h1 h2 h3, crc4 s g0 g1 g2 g3] at e
  have e := crcN_inj 32 e
  rw [BitVec.xor_comm s, BitVec.xor_comm s] at e
  have e := xc e
  have hb : ∀ {c d : Int}, 0 ≤ c ∧ c < 256 → 0 ≤ d ∧ d < 256 → (BitVec.ofInt 32 c ^^^ BitVec.ofInt 32 d).toNat < 256 := by
    intro c d hc hd
    rw [BitVec.toNat_xor, ofInt_toNat, ofInt_toNat]
    exact Nat.xor_lt_two_pow (n := 8) (by omega) (by omega)
  have hq : ∀ {c d : Int}, 0 ≤ c ∧ c < 256 → 0 ≤ d ∧ d < 256 → BitVec.ofInt 32 c ^^^ BitVec.ofInt 32 d = 0#32 → c = d := by
    intro c d hc hd he
    have h2 : BitVec.ofInt 32 c = BitVec.ofInt 32 d := xc (m := BitVec.ofInt 32 d) (by rw [he, BitVec.xor_self])
    have h3 := congrArg BitVec.toNat h2
    rw [ofInt_toNat, ofInt_toNat] at h3
    omega
  have hz := word0 (hb h0 g0) (hb h1 g1) (hb h2 g2) (hb h3 g3) (mix _ _ _ _ _ _ _ _ e)
  exact ⟨hq h0 g0 hz.1, hq h1 g1 hz.2.1, hq h2 g2 hz.2.2.1, hq h3 g3 hz.2.2.2⟩
end Go.Proofs.Ytbmpgjheiknjlaa.F
