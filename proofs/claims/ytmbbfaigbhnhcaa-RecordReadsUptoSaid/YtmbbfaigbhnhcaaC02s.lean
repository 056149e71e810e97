/-
  The sum: the code's and the document's are one; lent bytes.
-/
import Derived.Test.YtmbbfaigbhnhcaaC02b
set_option linter.unusedSimpArgs false
set_option linter.unusedVariables false
namespace Go.Proofs.Ytmbbfaigbhnhcaa.F
open Go Go.Den Go.Proofs

abbrev poly : BitVec 32 := 0x82F63B78#32
/-- One round. -/
def crcR (s : BitVec 32) : BitVec 32 := (s >>> 1) ^^^ (if s.toNat % 2 = 1 then poly else 0#32)
def crcN : Nat → BitVec 32 → BitVec 32
  | 0, s => s
  | k + 1, s => crcR (crcN k s)
/-- One byte. -/
def crcB (s : BitVec 32) (c : Int) : BitVec 32 := crcN 8 (s ^^^ BitVec.ofInt 32 c)
def crcL : List Int → BitVec 32 → BitVec 32
  | [], s => s
  | c :: r, s => crcL r (crcB s c)
def sumU (l : List Int) : Int := ((crcL l (BitVec.allOnes 32) ^^^ BitVec.allOnes 32).toNat : Nat)

theorem crcL_append : ∀ (a b : List Int) (s : BitVec 32), crcL (a ++ b) s = crcL b (crcL a s)
  | [], b, s => rfl
  | c :: a, b, s => by simp only [List.cons_append, crcL]; exact crcL_append a b _

theorem of_nat {k : Nat} (x : BitVec k) : BitVec.ofInt k (x.toNat : Int) = x := by
  apply BitVec.eq_of_toNat_eq
  rw [ofInt_toNat]
  have := x.isLt
  have e : ((x.toNat : Int) % 2 ^ k) = ((x.toNat % 2 ^ k : Nat) : Int) := by rw [Int.natCast_emod, Int.natCast_pow]; rfl
  rw [e, Nat.mod_eq_of_lt this]; rfl

theorem w32_nat (x : BitVec 32) : IntKind.u32.wrap (x.toNat : Int) = x.toNat := by
  have := x.isLt
  rw [w32]; omega

theorem shr1 (x : BitVec 32) : BitVec.ofInt 32 ((x.toNat : Int) / 2) = x >>> 1 := by
  apply BitVec.eq_of_toNat_eq
  have := x.isLt
  rw [ofInt_toNat, BitVec.toNat_ushiftRight, Nat.shiftRight_eq_div_pow]
  omega

theorem and1' (x : BitVec 32) : ((x &&& 1#32).toNat : Int) = (x.toNat % 2 : Nat) := by
  rw [BitVec.toNat_and]
  show ((_ &&& 1 : Nat) : Int) = _
  rw [Nat.and_one_is_mod]

/-- A round of the code's. -/
theorem sum_round (x : BitVec 32) : IntKind.u32.wrap ((BitVec.ofInt 32 (Int.fdiv (x.toNat : Int) (2 ^ (min (Int.toNat 1) 32))) ^^^ BitVec.ofInt 32 (IntKind.u32.wrap ((BitVec.ofInt 32 2197175160 &&& BitVec.ofInt 32 (IntKind.u32.wrap (0 - (IntKind.u32.wrap ((BitVec.ofInt 32 (x.toNat : Int) &&& BitVec.ofInt 32 1).toNat : Nat))))).toNat : Nat))).toNat : Nat) = ((crcR x).toNat : Nat) := by
  have e1 : Int.fdiv (x.toNat : Int) (2 ^ (min (Int.toNat 1) 32)) = (x.toNat : Int) / 2 := by
    show Int.fdiv _ 2 = _
    rw [Int.fdiv_eq_ediv_of_nonneg _ (by omega)]
  have e2 : BitVec.ofInt 32 1 = 1#32 := by decide
  have e3 : BitVec.ofInt 32 2197175160 = poly := by decide
  rw [e1, e2, e3, of_nat, shr1, and1', w32_nat, w32_nat, of_nat]
  congr 2
  unfold crcR
  congr 1
  rcases Nat.mod_two_eq_zero_or_one x.toNat with h | h
  · rw [h, if_neg (by omega)]
    decide
  · rw [h, if_pos rfl]
    decide

theorem xor_low (a b : BitVec 32) : ((a ^^^ b).toNat % 2 = 1) ↔ ¬ (a.toNat % 2 = 1 ↔ b.toNat % 2 = 1) := by
  rw [BitVec.toNat_xor]
  exact Nat.xor_mod_two_eq_one

/-- A round of the document's: the register is the code's, but for the bits that are not read yet. -/
theorem ref_round (s c : BitVec 32) : crcR (s ^^^ c) = ((s >>> 1) ^^^ (if c.toNat % 2 ≠ s.toNat % 2 then poly else 0#32)) ^^^ (c >>> 1) := by
  unfold crcR
  have h := xor_low s c
  have e : (if (s ^^^ c).toNat % 2 = 1 then poly else 0#32) = (if c.toNat % 2 ≠ s.toNat % 2 then poly else 0#32) := by
    by_cases h1 : (s ^^^ c).toNat % 2 = 1
    · rw [if_pos h1, if_pos (by have := h.1 h1; omega)]
    · rw [if_neg h1, if_neg (by
        intro h2
        exact h1 (h.2 (by omega)))]
  rw [e, BitVec.ushiftRight_xor_distrib]
  generalize (if c.toNat % 2 ≠ s.toNat % 2 then poly else 0#32) = q
  rw [BitVec.xor_assoc, BitVec.xor_assoc, BitVec.xor_comm (c >>> 1)]

section
variable {S : List Nat} {w0 w : World} {its : List Thing}

theorem crcL_snoc (l : List Int) (c : Int) (s : BitVec 32) : crcL (l ++ [c]) s = crcB (crcL l s) c := crcL_append l [c] s

theorem Sum_spec (h : Hp S w0 w its) (j : Nat) {u : Thing} {b : Sl} {l : List Int} (hj : (its[j]?).map Thing.holds = some u.holds) (hu : Hp.Reads u b 1 u8v l) (hb : Bytes l) (hl : l.length ≤ 9000000000000000) {K : Int → World → Prop}
    (hK : K (sumU l) w) : c37 b w K := by
  refine c37_of ?_
  unfold f37
  have hbl := h.lenU j hj hu
  refine ⟨fun n t m w' => ∃ i : Nat, t = i ∧ i ≤ l.length ∧ n = ((crcL (l.take i) (BitVec.allOnes 32)).toNat : Nat) ∧ m = l.length - i ∧ w' = w, ⟨l.length, 0, rfl, by omega, by show (4294967295 : Int) = ((BitVec.allOnes 32).toNat : Nat); decide, rfl, rfl⟩, ?_⟩
  rintro n t m w2 ⟨i, rfl, hi, rfl, rfl, rfl⟩
  by_cases hlt : i < l.length
  · refine ifT (by simp; omega) ?_
    have hc := hb l[i] (List.getElem_mem hlt)
    have htk : l.take (i + 1) = l.take i ++ [l[i]] := List.take_succ_eq_append_getElem hlt
    refine h.ixldU (k := .i .u8) (u := u) (y := l[i]) (x := l[i]) j hj hu (by omega) (by simp [hlt]) u8v_len rfl ?_
    generalize l[i] = c at hc htk
    generalize hx : crcL (l.take i) (BitVec.allOnes 32) = x
    have e1 : IntKind.u32.wrap c = c := by rw [w32]; omega
    refine ⟨fun n t m w' => ∃ k : Nat, t = k ∧ k ≤ 8 ∧ n = ((crcN k (x ^^^ BitVec.ofInt 32 c)).toNat : Nat) ∧ m = 8 - k ∧ w' = w2, ⟨8, 0, rfl, by omega, by rw [e1, of_nat, w32_nat]; rfl, rfl, rfl⟩, ?_⟩
    rintro n t m w3 ⟨k, rfl, hk, rfl, rfl, rfl⟩
    by_cases hk8 : k < 8
    · refine ifT (by simp; omega) ⟨by omega, ?_⟩
      exact ⟨8 - (k + 1), by omega, k + 1, by rw [wr64 (by omega) (by omega)]; omega, by omega, by rw [sum_round]; rfl, rfl, rfl⟩
    · refine ifF (by simp; omega) ?_
      obtain rfl : k = 8 := by omega
      exact ⟨l.length - (i + 1), by omega, i + 1, by rw [wr64 (by omega) (by omega)]; omega, by omega, by rw [htk, crcL_snoc, hx]; rfl, rfl, rfl⟩
  · refine ifF (by simp; omega) ?_
    rw [List.take_of_length_le (by omega)]
    have e : BitVec.ofInt 32 4294967295 = BitVec.allOnes 32 := by decide
    rw [e, of_nat, w32_nat, BitVec.xor_comm]
    exact hK

theorem tdiv2 (x : BitVec 32) : IntKind.u32.wrap (Int.tdiv (x.toNat : Int) 2) = ((x >>> 1).toNat : Nat) := by
  have := x.isLt
  rw [Int.tdiv_eq_ediv_of_nonneg (by omega), w32, BitVec.toNat_ushiftRight, Nat.shiftRight_eq_div_pow]
  omega

theorem RSum_spec (h : Hp S w0 w its) (j : Nat) {u : Thing} {b : Sl} {l : List Int} (hj : (its[j]?).map Thing.holds = some u.holds) (hu : Hp.Reads u b 1 u8v l) (hb : Bytes l) (hl : l.length ≤ 9000000000000000) {K : Int → World → Prop}
    (hK : K (sumU l) w) : c20 b w K := by
  refine c20_of ?_
  unfold f20
  have hbl := h.lenU j hj hu
  refine ⟨fun n t m w' => ∃ i : Nat, t = i ∧ i ≤ l.length ∧ n = ((crcL (l.take i) (BitVec.allOnes 32)).toNat : Nat) ∧ m = l.length - i ∧ w' = w, ⟨l.length, 0, rfl, by omega, by show (4294967295 : Int) = ((BitVec.allOnes 32).toNat : Nat); decide, rfl, rfl⟩, ?_⟩
  rintro n t m w2 ⟨i, rfl, hi, rfl, rfl, rfl⟩
  by_cases hlt : i < l.length
  · refine ifT (by simp; omega) ?_
    have hc := hb l[i] (List.getElem_mem hlt)
    have htk : l.take (i + 1) = l.take i ++ [l[i]] := List.take_succ_eq_append_getElem hlt
    have hget : l[((i : Int)).toNat]? = some l[i] := by simp [hlt]
    generalize l[i] = c at hc htk hget
    generalize hx : crcL (l.take i) (BitVec.allOnes 32) = x
    have e1 : IntKind.u32.wrap c = c := by rw [w32]; omega
    refine ⟨fun n t m w' => ∃ (k : Nat) (s : BitVec 32), t = k ∧ k ≤ 8 ∧ n = (s.toNat : Nat) ∧ crcN k (x ^^^ BitVec.ofInt 32 c) = s ^^^ (BitVec.ofInt 32 c >>> k) ∧ m = 8 - k ∧ w' = w2, ⟨8, 0, x, rfl, by omega, rfl, by rw [BitVec.ushiftRight_zero]; rfl, rfl, rfl⟩, ?_⟩
    rintro n t m w3 ⟨k, s, rfl, hk, rfl, hs, rfl, rfl⟩
    by_cases hk8 : k < 8
    · refine ifT (by simp; omega) ?_
      refine h.ixldU (k := .i .u8) (u := u) (y := c) (x := c) j hj hu (by omega) hget u8v_len rfl ?_
      refine ⟨by omega, by omega, by omega, by omega, ?_⟩
      rw [e1]
      have hk2 : min (Int.toNat (k : Int)) 32 = k := by omega
      rw [hk2]
      have hcn : (BitVec.ofInt 32 c >>> k).toNat = c.toNat / 2 ^ k := by
        rw [BitVec.toNat_ushiftRight, ofInt_toNat, Nat.shiftRight_eq_div_pow]
        congr 1
        omega
      have hb1 : Int.tmod (Int.fdiv c (2 ^ k)) 2 = ((BitVec.ofInt 32 c >>> k).toNat % 2 : Nat) := by
        rw [hcn]
        obtain ⟨q, rfl⟩ := Int.eq_ofNat_of_zero_le hc.1
        have e : (2 : Int) ^ k = ((2 ^ k : Nat) : Int) := by rw [Int.natCast_pow]; rfl
        rw [e, Int.fdiv_eq_ediv_of_nonneg _ (Int.natCast_nonneg _), ← Int.natCast_ediv, Int.tmod_eq_emod_of_nonneg (Int.natCast_nonneg _)]
        rfl
      have hb2 : Int.tmod (s.toNat : Int) 2 = (s.toNat % 2 : Nat) := by
        rw [Int.tmod_eq_emod_of_nonneg (by omega)]; rfl
      rw [hb1, hb2, tdiv2, of_nat]
      have hr := ref_round s (BitVec.ofInt 32 c >>> k)
      rw [← hs] at hr
      have hr' : crcN (k + 1) (x ^^^ BitVec.ofInt 32 c) = ((s >>> 1) ^^^ (if (BitVec.ofInt 32 c >>> k).toNat % 2 ≠ s.toNat % 2 then poly else 0#32)) ^^^ (BitVec.ofInt 32 c >>> (k + 1)) := by
        rw [BitVec.shiftRight_add]
        exact hr
      by_cases hne : (BitVec.ofInt 32 c >>> k).toNat % 2 ≠ s.toNat % 2
      · refine ifT (by simp only [bne_iff_ne, ne_eq]; intro h; exact hne (Int.ofNat_inj.1 h)) ?_
        rw [if_pos hne] at hr'
        have e3 : BitVec.ofInt 32 2197175160 = poly := by decide
        rw [e3, w32_nat]
        exact ⟨8 - (k + 1), by omega, k + 1, _, by rw [wr64 (by omega) (by omega)]; omega, by omega, rfl, hr', rfl, rfl⟩
      · refine ifF (by simp only [ne_eq, Decidable.not_not] at hne; rw [hne]; simp) ?_
        rw [if_neg hne, BitVec.xor_zero] at hr'
        exact ⟨8 - (k + 1), by omega, k + 1, _, by rw [wr64 (by omega) (by omega)]; omega, by omega, rfl, hr', rfl, rfl⟩
    · refine ifF (by simp; omega) ?_
      obtain rfl : k = 8 := by omega
      have hz : BitVec.ofInt 32 c >>> 8 = 0#32 := by
        apply BitVec.eq_of_toNat_eq
        rw [BitVec.toNat_ushiftRight, ofInt_toNat, Nat.shiftRight_eq_div_pow]
        show _ = 0
        omega
      rw [hz, BitVec.xor_zero] at hs
      exact ⟨l.length - (i + 1), by omega, i + 1, by rw [wr64 (by omega) (by omega)]; omega, by omega, by rw [htk, crcL_snoc, hx, ← hs]; rfl, rfl, rfl⟩
  · refine ifF (by simp; omega) ?_
    rw [List.take_of_length_le (by omega)]
    have e : BitVec.ofInt 32 4294967295 = BitVec.allOnes 32 := by decide
    rw [e, of_nat, w32_nat]
    exact hK

/-- What is lent: the bytes, and room behind them. -/
def lentL (l : List Int) : List Int := l ++ List.replicate 80 201

theorem lentL_len (l : List Int) : (lentL l).length = l.length + 80 := by simp [lentL]
theorem lentL_bytes {l : List Int} (h : Bytes l) : Bytes (lentL l) := by
  intro x hx
  rcases List.mem_append.1 hx with hx | hx
  · exact h x hx
  · have := List.eq_of_mem_replicate hx
    omega

/-- The room, written one by one. -/
def roomL (l : List Int) (k : Nat) : List Int := l ++ (List.replicate k 201 ++ List.replicate (80 - k) 0)
theorem room_set (l : List Int) {k : Nat} (h : k < 80) : (roomL l k).set (l.length + k) 201 = roomL l (k + 1) := by
  unfold roomL
  rw [List.set_append_right _ _ (by omega), Nat.add_sub_cancel_left, List.set_append_right _ _ (by simp), List.length_replicate, Nat.sub_self]
  have e : List.replicate (80 - k) (0 : Int) = 0 :: List.replicate (80 - (k + 1)) 0 := by
    rw [show 80 - k = (80 - (k + 1)) + 1 by omega, List.replicate_succ]
  rw [e, List.set_cons_zero, List.replicate_succ', List.append_assoc]
  rfl
end
end Go.Proofs.Ytmbbfaigbhnhcaa.F
