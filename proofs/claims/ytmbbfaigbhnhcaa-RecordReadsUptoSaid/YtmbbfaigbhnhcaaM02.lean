/-
  Numbers in few bytes, told in plain words; and what the code's own reckoning of them comes to.
-/
import Derived.Test.YtmbbfaigbhnhcaaF02
import Derived.Test.YtmbbfaigbhnhcaaDenY
set_option linter.unusedSimpArgs false
set_option linter.unusedVariables false
namespace Go.Proofs.Ytmbbfaigbhnhcaa.F
open Go Go.Den Go.Proofs

/-! ### What numbers wrap to -/

theorem w8 (n : Int) : IntKind.u8.wrap n = n % 256 := by simp only [IntKind.wrap, IntKind.bits, IntKind.signed, Bool.false_and]; simp
theorem w32 (n : Int) : IntKind.u32.wrap n = n % 4294967296 := by simp only [IntKind.wrap, IntKind.bits, IntKind.signed, Bool.false_and]; simp
theorem w64 (n : Int) : IntKind.u64.wrap n = n % 18446744073709551616 := by simp only [IntKind.wrap, IntKind.bits, IntKind.signed, Bool.false_and]; simp
theorem wi64 (n : Int) : IntKind.i64.wrap n = if n % 18446744073709551616 ≥ 9223372036854775808 then n % 18446744073709551616 - 18446744073709551616 else n % 18446744073709551616 := by
  simp only [IntKind.wrap, IntKind.bits, IntKind.signed, Bool.true_and, decide_eq_true_eq, ge_iff_le]; split <;> split <;> omega

theorem or128 : ∀ x : BitVec 8, (x ||| 128#8).toNat = x.toNat % 128 + 128 := by decide +kernel
theorem and127 : ∀ x : BitVec 8, (x &&& 127#8).toNat = x.toNat % 128 := by decide +kernel

theorem ofInt_toNat (k : Nat) (n : Int) : (BitVec.ofInt k n).toNat = (n % 2 ^ k).toNat := by
  rw [BitVec.toNat_ofInt]; norm_cast

theorem top8 {n : Int} : IntKind.u8.wrap ((BitVec.ofInt 8 (IntKind.u8.wrap n) ||| BitVec.ofInt 8 128).toNat : Nat) = n % 128 + 128 := by
  have e : BitVec.ofInt 8 128 = 128#8 := by decide
  rw [e, or128, ofInt_toNat, w8, w8]
  omega
theorem low8 {c : Int} (h0 : 0 ≤ c) (h1 : c < 256) : IntKind.u64.wrap (IntKind.u8.wrap ((BitVec.ofInt 8 c &&& BitVec.ofInt 8 127).toNat : Nat)) = c % 128 := by
  have e : BitVec.ofInt 8 127 = 127#8 := by decide
  rw [e, and127, ofInt_toNat, w8, w64]
  omega
theorem shr7 (n : Int) : Int.fdiv n (2 ^ (min (Int.toNat 7) 64)) = n / 128 := by
  show Int.fdiv n 128 = _
  rw [Int.fdiv_eq_ediv_of_nonneg _ (by omega)]

/-- A number's bytes. -/
def putF : Nat → Int → List Int
  | 0, _ => []
  | f + 1, n => if n < 128 then [n] else (n % 128 + 128) :: putF f (n / 128)
def putU (n : Int) : List Int := putF 10 n
theorem putF_more : ∀ (f : Nat) (n : Int), 0 ≤ n → n < 128 ^ (f + 1) → ∀ g, f ≤ g → putF (g + 1) n = putF (f + 1) n
  | 0, n, h0, h1, g, hg => by
    have h1 : n < 128 := by simpa using h1
    rw [putF, putF, if_pos h1, if_pos h1]
  | f + 1, n, h0, h1, 0, hg => by omega
  | f + 1, n, h0, h1, g + 1, hg => by
    have u1 : putF (g + 1 + 1) n = if n < 128 then [n] else (n % 128 + 128) :: putF (g + 1) (n / 128) := by rw [putF]
    have u2 : putF (f + 1 + 1) n = if n < 128 then [n] else (n % 128 + 128) :: putF (f + 1) (n / 128) := by rw [putF]
    rw [u1, u2]
    by_cases h : n < 128
    · rw [if_pos h, if_pos h]
    · rw [if_neg h, if_neg h]
      rw [Int.pow_succ] at h1
      have h3 : n / 128 < 128 ^ (f + 1) := by
        generalize (128 : Int) ^ (f + 1) = p at h1 ⊢
        omega
      rw [putF_more f (n / 128) (by omega) h3 g (by omega)]
theorem putU_lt {n : Int} (h : n < 128) : putU n = [n] := by unfold putU; rw [putF, if_pos h]
theorem putU_ge {n : Int} (h : 128 ≤ n) (h2 : n < 18446744073709551616) : putU n = (n % 128 + 128) :: putU (n / 128) := by
  unfold putU
  rw [putF, if_neg (by omega), putF_more 8 (n / 128) (by omega) (by omega) 9 (by omega)]
theorem putF_len : ∀ (f : Nat) (n : Int), (putF f n).length ≤ f
  | 0, n => by simp [putF]
  | f + 1, n => by
    rw [putF]; split
    · simp
    · have := putF_len f (n / 128); simp; omega
theorem putU_len (n : Int) : (putU n).length ≤ 10 := putF_len 10 n
theorem putF_pos (f : Nat) (n : Int) : 1 ≤ (putF (f + 1) n).length := by
  rw [putF]; split <;> simp
theorem putU_pos (n : Int) : 1 ≤ (putU n).length := putF_pos 9 n
theorem putF_byte : ∀ (f : Nat) (n : Int), 0 ≤ n → ∀ x ∈ putF f n, 0 ≤ x ∧ x < 256
  | 0, n, h, x, hx => by simp [putF] at hx
  | f + 1, n, h, x, hx => by
    rw [putF] at hx
    split at hx
    · simp only [List.mem_singleton] at hx; omega
    · rcases List.mem_cons.1 hx with rfl | hx
      · omega
      · exact putF_byte f (n / 128) (by omega) x hx

/-- A number with a sign, as one without. -/
def zig (n : Int) : Int := if n < 0 then -2 * n - 1 else 2 * n
def zag (n : Int) : Int := if n % 2 = 1 then -(n / 2) - 1 else n / 2
theorem zag_zig (n : Int) : zag (zig n) = n := by unfold zag zig; split <;> split <;> omega
theorem zig_zag {n : Int} (h : 0 ≤ n) : zig (zag n) = n := by unfold zag zig; split <;> split <;> omega
theorem zig_range {n : Int} (h1 : -9223372036854775808 ≤ n) (h2 : n ≤ 9223372036854775807) : 0 ≤ zig n ∧ zig n < 18446744073709551616 := by unfold zig; split <;> omega
theorem zag_range {n : Int} (h1 : 0 ≤ n) (h2 : n < 18446744073709551616) : -9223372036854775808 ≤ zag n ∧ zag n ≤ 9223372036854775807 := by unfold zag; split <;> omega

theorem xor_ones {k : Nat} (x : BitVec k) : (x ^^^ BitVec.allOnes k).toNat = 2 ^ k - 1 - x.toNat := by
  rw [BitVec.xor_allOnes, BitVec.toNat_not]

theorem signed_eq {n : Int} (h1 : -9223372036854775808 ≤ n) (h2 : n ≤ 9223372036854775807) :
    IntKind.u64.wrap ((BitVec.ofInt 64 (IntKind.u64.wrap (IntKind.i64.wrap (n * 2 ^ (min (Int.toNat 1) 64)))) ^^^ BitVec.ofInt 64 (IntKind.u64.wrap (Int.fdiv n (2 ^ (min (Int.toNat 63) 64))))).toNat : Nat) = zig n := by
  have e1 : n * 2 ^ (min (Int.toNat 1) 64) = n * 2 := rfl
  have e2 : Int.fdiv n (2 ^ (min (Int.toNat 63) 64)) = n / 9223372036854775808 := by
    show Int.fdiv n 9223372036854775808 = _
    rw [Int.fdiv_eq_ediv_of_nonneg _ (by omega)]
  rw [e1, e2]
  unfold zig
  by_cases h : n < 0
  · have e3 : n / 9223372036854775808 = -1 := by omega
    have e4 : BitVec.ofInt 64 (IntKind.u64.wrap (-1)) = BitVec.allOnes 64 := by decide
    rw [e3, e4, xor_ones, ofInt_toNat, if_pos h, w64, w64, wi64]
    split <;> omega
  · have e3 : n / 9223372036854775808 = 0 := by omega
    have e4 : BitVec.ofInt 64 (IntKind.u64.wrap 0) = 0#64 := by decide
    rw [e3, e4, BitVec.xor_zero, ofInt_toNat, if_neg h, w64, w64, wi64]
    split <;> omega

theorem and1 (n : Int) : ((BitVec.ofInt 64 n &&& BitVec.ofInt 64 1).toNat : Int) = n % 2 := by
  have e : BitVec.ofInt 64 1 = 1#64 := by decide
  rw [e, BitVec.toNat_and, ofInt_toNat]
  show ((_ &&& 1 : Nat) : Int) = _
  rw [Nat.and_one_is_mod]
  omega

theorem plain_eq {n : Int} (h1 : 0 ≤ n) (h2 : n < 18446744073709551616) :
    IntKind.i64.wrap ((BitVec.ofInt 64 (IntKind.i64.wrap (Int.fdiv n (2 ^ (min (Int.toNat 1) 64)))) ^^^ BitVec.ofInt 64 (IntKind.i64.wrap (0 - (IntKind.i64.wrap (IntKind.u64.wrap ((BitVec.ofInt 64 n &&& BitVec.ofInt 64 1).toNat : Nat)))))).toNat : Nat) = zag n := by
  have e2 : Int.fdiv n (2 ^ (min (Int.toNat 1) 64)) = n / 2 := by
    show Int.fdiv n 2 = _
    rw [Int.fdiv_eq_ediv_of_nonneg _ (by omega)]
  rw [e2, and1]
  have e3 : IntKind.u64.wrap (n % 2) = n % 2 := by rw [w64]; omega
  have e4 : IntKind.i64.wrap (n % 2) = n % 2 := wr64 (by omega) (by omega)
  have e5 : IntKind.i64.wrap (n / 2) = n / 2 := wr64 (by omega) (by omega)
  rw [e3, e4, e5]
  unfold zag
  rcases Int.emod_two_eq n with h | h
  · rw [h, if_neg (by omega)]
    have e6 : BitVec.ofInt 64 (IntKind.i64.wrap (0 - 0)) = 0#64 := by decide
    rw [e6, BitVec.xor_zero, ofInt_toNat, wi64]
    split <;> omega
  · rw [h, if_pos rfl]
    have e6 : BitVec.ofInt 64 (IntKind.i64.wrap (0 - 1)) = BitVec.allOnes 64 := by decide
    rw [e6, xor_ones, ofInt_toNat, wi64]
    split <;> omega

/-- The first number in bytes, and how many bytes it has. -/
def getF : List Int → Nat → Int → Int × Int
  | [], _, _ => (0, 0)
  | c :: r, i, n => if i = 9 ∧ 1 < c then (0, 0) else
    if 128 ≤ c then getF r (i + 1) (n + (c % 128) * 2 ^ (7 * i)) else
    if c = 0 ∧ 0 < i then (0, 0) else (n + (c % 128) * 2 ^ (7 * i), i + 1)
def getU (l : List Int) : Int × Int := getF l 0 0

theorem or_add {n : Int} {a k : Nat} (h0 : 0 ≤ n) (h1 : n < 2 ^ k) (h2 : n + a * 2 ^ k < 18446744073709551616) : ((BitVec.ofInt 64 n ||| BitVec.ofInt 64 ((a : Int) * 2 ^ k)).toNat : Int) = n + a * 2 ^ k := by
  obtain ⟨m, rfl⟩ := Int.eq_ofNat_of_zero_le h0
  have h1' : m < 2 ^ k := by exact_mod_cast h1
  have hc : ((a * 2 ^ k : Nat) : Int) = (a : Int) * 2 ^ k := by rw [Int.natCast_mul, Int.natCast_pow]; rfl
  rw [← hc] at h2 ⊢
  have h2' : m + a * 2 ^ k < 18446744073709551616 := by omega
  generalize hq : a * 2 ^ k = q at h2 h2' ⊢
  have e1 : (BitVec.ofInt 64 (m : Int)).toNat = m := by rw [ofInt_toNat]; omega
  have e2 : (BitVec.ofInt 64 (q : Int)).toNat = q := by rw [ofInt_toNat]; omega
  rw [BitVec.toNat_or, e1, e2, ← hq, Nat.or_comm, Nat.mul_comm a, ← Nat.two_pow_add_eq_or_of_lt h1', Nat.mul_comm]
  omega
end Go.Proofs.Ytmbbfaigbhnhcaa.F
