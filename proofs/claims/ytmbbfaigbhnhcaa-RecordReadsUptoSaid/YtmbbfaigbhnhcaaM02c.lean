/-
  What is written is read, and what is read was written so: numbers.
-/
import Derived.Test.YtmbbfaigbhnhcaaC02b
set_option linter.unusedSimpArgs false
set_option linter.unusedVariables false
namespace Go.Proofs.Ytmbbfaigbhnhcaa.F
open Go Go.Den Go.Proofs

theorem getF_put : ∀ (f i : Nat) (n acc : Int) (r : List Int), i + f = 9 → 0 ≤ n → n < 128 ^ (f + 1) → (i = 0 → n < 18446744073709551616) → (0 < i → 0 < n) → (n * 2 ^ (7 * i) < 18446744073709551616) →
    getF (putF (f + 1) n ++ r) i acc = (acc + n * 2 ^ (7 * i), (i : Int) + (putF (f + 1) n).length)
  | f, i, n, acc, r, hif, h0, h1, h2, hpos, h3 => by
    have u1 : putF (f + 1) n = if n < 128 then [n] else (n % 128 + 128) :: putF f (n / 128) := by rw [putF]
    rw [u1]
    by_cases hlt : n < 128
    · rw [if_pos hlt]
      simp only [List.cons_append, List.nil_append]
      rw [getF_cons, if_neg, if_neg (by omega), if_neg]
      · have e : n % 128 = n := by omega
        rw [e]; simp
      · rintro ⟨rfl, hi⟩; exact absurd (hpos hi) (by omega)
      · rintro ⟨rfl, hc⟩
        simp only [Nat.reduceMul, Int.reducePow] at h3
        omega
    · rw [if_neg hlt]
      simp only [List.cons_append]
      have hi9 : i ≠ 9 := by
        rintro rfl
        simp only [Nat.reduceMul, Int.reducePow] at h3
        omega
      rw [getF_cons, if_neg (by omega), if_pos (by omega)]
      match f, hif with
      | 0, hif => omega
      | f + 1, hif =>
        have hp : (2 : Int) ^ (7 * (i + 1)) = 128 * 2 ^ (7 * i) := by
          rw [show 7 * (i + 1) = 7 + 7 * i by omega, Int.pow_add]; rfl
        have hpp : (0 : Int) < 2 ^ (7 * i) := Int.pow_pos (by omega)
        have hn : n / 128 < 128 ^ (f + 1) := by
          rw [Int.pow_succ] at h1
          generalize (128 : Int) ^ (f + 1) = p at h1 ⊢
          omega
        have hdm : n = 128 * (n / 128) + n % 128 := by omega
        have hle : n / 128 * (128 * 2 ^ (7 * i)) ≤ n * 2 ^ (7 * i) := by
          rw [← Int.mul_assoc]
          exact Int.mul_le_mul_of_nonneg_right (by omega) (by omega)
        have ih := getF_put f (i + 1) (n / 128) (acc + (n % 128 + 128) % 128 * 2 ^ (7 * i)) r (by omega) (by omega) hn (by omega) (by omega) (by rw [hp]; omega)
        rw [ih]
        have e1 : (n % 128 + 128) % 128 = n % 128 := by omega
        rw [e1, hp]
        refine Prod.ext ?_ ?_
        · show acc + n % 128 * 2 ^ (7 * i) + n / 128 * (128 * 2 ^ (7 * i)) = acc + n * 2 ^ (7 * i)
          have : n * 2 ^ (7 * i) = n / 128 * (128 * 2 ^ (7 * i)) + n % 128 * 2 ^ (7 * i) := by
            rw [← Int.mul_assoc, ← Int.add_mul]
            congr 1; omega
          omega
        · show ((i + 1 : Nat) : Int) + _ = _
          simp only [List.length_cons]; omega

theorem getU_put {n : Int} (h0 : 0 ≤ n) (h1 : n < 18446744073709551616) (r : List Int) : getU (putU n ++ r) = (n, ((putU n).length : Int)) := by
  unfold getU putU
  have := getF_put 9 0 n 0 r rfl h0 (by simp only [Int.reducePow, Nat.reduceAdd]; omega) (fun _ => h1) (by omega) (by simpa using h1)
  rw [this]
  simp

/-- What is read was written so. -/
theorem getF_back : ∀ (f i : Nat) (l : List Int) (acc : Int), i + f = 9 → Bytes l → (getF l i acc).2 ≠ 0 → ∃ n : Int, 0 ≤ n ∧ n < 128 ^ (f + 1) ∧ (0 < i → 0 < n) ∧ (getF l i acc).1 = acc + n * 2 ^ (7 * i) ∧ ∃ r, l = putF (f + 1) n ++ r ∧ (getF l i acc).2 = i + (putF (f + 1) n).length
  | f, i, [], acc, hif, hb, hk => by rw [getF] at hk; exact absurd rfl hk
  | f, i, c :: r, acc, hif, hb, hk => by
    have hc := hb c (by simp)
    rw [getF_cons] at hk ⊢
    by_cases h9 : i = 9 ∧ 1 < c
    · rw [if_pos h9] at hk; exact absurd rfl hk
    rw [if_neg h9] at hk ⊢
    by_cases hge : 128 ≤ c
    · rw [if_pos hge] at hk ⊢
      match f, hif with
      | 0, hif => exact absurd ⟨by omega, by omega⟩ h9
      | f + 1, hif =>
        obtain ⟨n, n0, n1, n2, n3, r', n4, n5⟩ := getF_back f (i + 1) r (acc + c % 128 * 2 ^ (7 * i)) (by omega) (fun x hx => hb x (by simp [hx])) hk
        have hpos := n2 (by omega)
        have hp : (2 : Int) ^ (7 * (i + 1)) = 128 * 2 ^ (7 * i) := by
          rw [show 7 * (i + 1) = 7 + 7 * i by omega, Int.pow_add]; rfl
        have u1 : putF (f + 1 + 1) (128 * n + c % 128) = (c % 128 + 128) :: putF (f + 1) n := by
          have : putF (f + 1 + 1) (128 * n + c % 128) = if 128 * n + c % 128 < 128 then [128 * n + c % 128] else ((128 * n + c % 128) % 128 + 128) :: putF (f + 1) ((128 * n + c % 128) / 128) := by rw [putF]
          rw [this, if_neg (by omega)]
          have e1 : (128 * n + c % 128) % 128 = c % 128 := by omega
          have e2 : (128 * n + c % 128) / 128 = n := by omega
          rw [e1, e2]
        refine ⟨128 * n + c % 128, by omega, ?_, by omega, ?_, r', ?_, ?_⟩
        · rw [Int.pow_succ]
          generalize (128 : Int) ^ (f + 1) = p at n1 ⊢
          omega
        · rw [n3, hp, Int.add_mul, Int.mul_comm 128 n, Int.mul_assoc]
          omega
        · rw [u1, n4]
          have : c % 128 + 128 = c := by omega
          rw [this]; rfl
        · rw [n5, u1]
          simp only [List.length_cons]; omega
    · rw [if_neg hge] at hk ⊢
      by_cases hz : c = 0 ∧ 0 < i
      · rw [if_pos hz] at hk; exact absurd rfl hk
      rw [if_neg hz]
      have u1 : putF (f + 1) c = [c] := by rw [putF, if_pos (by omega)]
      refine ⟨c, hc.1, ?_, by intro h; omega, ?_, r, ?_, ?_⟩
      · rw [Int.pow_succ]
        have : (0 : Int) < 128 ^ f := Int.pow_pos (by omega)
        generalize (128 : Int) ^ f = p at this
        omega
      · have e : c % 128 = c := by omega
        rw [e]
      · rw [u1]; rfl
      · rw [u1]; rfl

theorem getU_back {l : List Int} (hb : Bytes l) (hk : (getU l).2 ≠ 0) : putU (getU l).1 = l.take (getU l).2.toNat := by
  obtain ⟨n, n0, n1, n2, n3, r, n4, n5⟩ := getF_back 9 0 l 0 rfl hb hk
  have e1 : (getU l).1 = n := by show (getF l 0 0).1 = n; rw [n3]; simp
  have e2 : (getU l).2 = (putU n).length := by show (getF l 0 0).2 = _; rw [n5]; simp [putU]
  rw [e1, e2, Int.toNat_natCast]
  conv => rhs; rw [n4]
  show putU n = List.take (putU n).length (putU n ++ r)
  simp
end Go.Proofs.Ytmbbfaigbhnhcaa.F
