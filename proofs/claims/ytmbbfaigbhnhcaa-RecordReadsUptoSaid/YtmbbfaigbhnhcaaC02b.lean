/-
  Contracts of package pack and of the document's own, second part: what is read.
-/
import Derived.Test.YtmbbfaigbhnhcaaC02
set_option linter.unusedSimpArgs false
set_option linter.unusedVariables false
namespace Go.Proofs.Ytmbbfaigbhnhcaa.F
open Go Go.Den Go.Proofs

theorem get_bound {n c : Int} {i : Nat} (hi : i ≤ 9) (c0 : 0 ≤ c) (c1 : c < 256) (h9 : i = 9 → c ≤ 1) (n0 : 0 ≤ n) (n1 : n < 2 ^ (7 * i)) :
    0 ≤ (c % 128) * 2 ^ (7 * i) ∧ n + (c % 128) * 2 ^ (7 * i) < 18446744073709551616 ∧ n + (c % 128) * 2 ^ (7 * i) < 2 ^ (7 * (i + 1)) := by
  have hc9 : i ≠ 9 ∨ c ≤ 1 := by
    by_cases h : i = 9
    · exact .inr (h9 h)
    · exact .inl h
  clear h9
  have : i = 0 ∨ i = 1 ∨ i = 2 ∨ i = 3 ∨ i = 4 ∨ i = 5 ∨ i = 6 ∨ i = 7 ∨ i = 8 ∨ i = 9 := by omega
  rcases this with rfl | rfl | rfl | rfl | rfl | rfl | rfl | rfl | rfl | rfl <;> simp only [Nat.reduceMul, Nat.reduceAdd, Int.reducePow] at * <;> omega

theorem get_shift {i : Nat} (hi : i ≤ 9) : min (Int.toNat (IntKind.i64.wrap (7 * (i : Int)))) 64 = 7 * i := by
  rw [wr64 (by omega) (by omega)]; omega

theorem get_val {n c : Int} {i : Nat} (hi : i ≤ 9) (c0 : 0 ≤ c) (c1 : c < 256) (h9 : i = 9 → c ≤ 1) (n0 : 0 ≤ n) (n1 : n < 2 ^ (7 * i)) :
    IntKind.u64.wrap ((BitVec.ofInt 64 n ||| BitVec.ofInt 64 (IntKind.u64.wrap ((IntKind.u64.wrap (IntKind.u8.wrap ((BitVec.ofInt 8 c &&& BitVec.ofInt 8 127).toNat : Nat))) * 2 ^ (min (Int.toNat (IntKind.i64.wrap (7 * (i : Int)))) 64)))).toNat : Nat) = n + (c % 128) * 2 ^ (7 * i) := by
  obtain ⟨b0, b1, b2⟩ := get_bound hi c0 c1 h9 n0 n1
  rw [low8 c0 c1, get_shift hi]
  have e : IntKind.u64.wrap (c % 128 * 2 ^ (7 * i)) = c % 128 * 2 ^ (7 * i) := by
    rw [w64]
    generalize c % 128 * 2 ^ (7 * i) = q at b0 b1
    omega
  rw [e]
  obtain ⟨a, ha⟩ := Int.eq_ofNat_of_zero_le (show 0 ≤ c % 128 by omega)
  rw [ha] at b0 b1 b2 ⊢
  have := or_add (a := a) (k := 7 * i) n0 n1 b1
  rw [this, w64]
  generalize (a : Int) * 2 ^ (7 * i) = q at b0 b1
  omega

theorem rget_val {n c : Int} {i : Nat} (hi : i ≤ 9) (c0 : 0 ≤ c) (c1 : c < 256) (h9 : i = 9 → c ≤ 1) (n0 : 0 ≤ n) (n1 : n < 2 ^ (7 * i)) :
    IntKind.u64.wrap (n + (IntKind.u64.wrap ((Int.tmod (IntKind.u64.wrap c) 128) * 2 ^ (min (Int.toNat (IntKind.i64.wrap (7 * (i : Int)))) 64)))) = n + (c % 128) * 2 ^ (7 * i) := by
  obtain ⟨b0, b1, b2⟩ := get_bound hi c0 c1 h9 n0 n1
  have e0 : IntKind.u64.wrap c = c := by rw [w64]; omega
  rw [e0, Int.tmod_eq_emod_of_nonneg c0, get_shift hi]
  generalize c % 128 * 2 ^ (7 * i) = q at b0 b1
  rw [w64, w64]
  omega

theorem getF_cons (c : Int) (r : List Int) (i : Nat) (n : Int) : getF (c :: r) i n = if i = 9 ∧ 1 < c then (0, 0) else
    if 128 ≤ c then getF r (i + 1) (n + (c % 128) * 2 ^ (7 * i)) else
    if c = 0 ∧ 0 < i then (0, 0) else (n + (c % 128) * 2 ^ (7 * i), (i : Int) + 1) := by rw [getF]

/-- What is read has a number's bounds, and its bytes are there. -/
theorem getF_range : ∀ (l : List Int) (i : Nat) (n : Int), i ≤ 9 → Bytes l → 0 ≤ n → n < 2 ^ (7 * i) → 0 ≤ (getF l i n).1 ∧ (getF l i n).1 < 18446744073709551616 ∧ 0 ≤ (getF l i n).2 ∧ (getF l i n).2 ≤ i + l.length ∧ (getF l i n).2 ≤ 10 ∧ ((getF l i n).2 = 0 → (getF l i n).1 = 0)
  | [], i, n, hi, hb, h0, h1 => by rw [getF]; simp
  | c :: r, i, n, hi, hb, h0, h1 => by
    have hc := hb c (by simp)
    rw [getF_cons]
    split
    · simp; omega
    · rename_i h9
      have h9' : i = 9 → c ≤ 1 := fun h => by omega
      obtain ⟨b0, b1, b2⟩ := get_bound hi hc.1 hc.2 h9' h0 h1
      split
      · have := getF_range r (i + 1) (n + (c % 128) * 2 ^ (7 * i)) (by omega) (fun x hx => hb x (by simp [hx])) (by omega) b2
        refine ⟨this.1, this.2.1, this.2.2.1, ?_, this.2.2.2.2.1, this.2.2.2.2.2⟩
        have := this.2.2.2.1
        simp only [List.length_cons]
        omega
      · split
        · simp; omega
        · refine ⟨by omega, b1, by omega, by simp only [List.length_cons]; omega, by omega, by omega⟩
theorem getU_range {l : List Int} (hb : Bytes l) : 0 ≤ (getU l).1 ∧ (getU l).1 < 18446744073709551616 ∧ 0 ≤ (getU l).2 ∧ (getU l).2 ≤ l.length ∧ (getU l).2 ≤ 10 ∧ ((getU l).2 = 0 → (getU l).1 = 0) := by
  have := getF_range l 0 0 (by omega) hb (by omega) (by simp)
  unfold getU
  simpa using this

section
variable {S : List Nat} {w0 w : World} {its : List Thing}

theorem Get_spec (h : Hp S w0 w its) (j : Nat) {u : Thing} {b : Sl} {l : List Int} (hj : (its[j]?).map Thing.holds = some u.holds) (hu : Hp.Reads u b 1 u8v l) (hb : Bytes l) (hl : l.length ≤ 9000000000000000) {K : Int → Int → World → Prop}
    (hK : K (getU l).1 (getU l).2 w) : c30 b w K := by
  refine c30_of ?_
  unfold f30
  have hbl := h.lenU j hj hu
  refine ⟨fun n t m w' => ∃ i : Nat, t = i ∧ i ≤ l.length ∧ i ≤ 9 ∧ 0 ≤ n ∧ n < 2 ^ (7 * i) ∧ getF (l.drop i) i n = getU l ∧ m = l.length - i ∧ w' = w, ⟨l.length, 0, rfl, by omega, by omega, by omega, by simp, rfl, rfl, rfl⟩, ?_⟩
  rintro n t m w2 ⟨i, rfl, hi, hi9, n0, n1, hg, rfl, rfl⟩
  by_cases hlt : i < l.length
  · refine ifT (by simp; omega) ?_
    have hc := hb l[i] (List.getElem_mem hlt)
    have hd : l.drop i = l[i] :: l.drop (i + 1) := List.drop_eq_getElem_cons hlt
    refine h.ixldU (k := .i .u8) (u := u) (y := l[i]) (x := l[i]) j hj hu (by omega) (by simp [hlt]) u8v_len rfl ?_
    rw [hd, getF_cons] at hg
    generalize l[i] = c at hc hg hd
    by_cases h9 : i = 9 ∧ 1 < c
    · refine ifT (by rw [h9.1]; simpa using h9.2) ?_
      rw [if_pos h9] at hg
      rw [← hg] at hK
      exact hK
    · rw [if_neg h9] at hg
      refine ifF ?_ ?_
      · by_cases hi' : (i : Int) = 9
        · have : ¬ c > 1 := fun h => h9 ⟨by omega, h⟩
          simp [hi', this]
        · simp [hi']
      have h9' : i = 9 → c ≤ 1 := fun h => by omega
      obtain ⟨b0, b1, b2⟩ := get_bound hi9 hc.1 hc.2 h9' n0 n1
      refine ⟨by rw [wr64 (by omega) (by omega)]; omega, ?_⟩
      rw [get_val hi9 hc.1 hc.2 h9' n0 n1]
      by_cases hge : 128 ≤ c
      · refine ifT (by simpa using hge) ?_
        rw [if_pos hge] at hg
        exact ⟨l.length - (i + 1), by omega, i + 1, by rw [wr64 (by omega) (by omega)]; omega, by omega, by omega, by omega, b2, hg, rfl, rfl⟩
      · refine ifF (by simpa using hge) ?_
        rw [if_neg hge] at hg
        by_cases hz : c = 0 ∧ 0 < i
        · refine ifT (by simp [hz]) ?_
          rw [if_pos hz] at hg
          rw [← hg] at hK
          exact hK
        · refine ifF ?_ ?_
          · by_cases hc0 : c = 0
            · have : ¬ 0 < i := fun h => hz ⟨hc0, h⟩
              simp [hc0]; omega
            · simp [hc0]
          rw [if_neg hz] at hg
          rw [← hg] at hK
          rw [wr64 (by omega) (by omega)]
          exact hK
  · refine ifF (by simp; omega) ?_
    rw [List.drop_of_length_le (by omega), getF] at hg
    rw [← hg] at hK
    exact hK

theorem RGet_spec (h : Hp S w0 w its) (j : Nat) {u : Thing} {b : Sl} {l : List Int} (hj : (its[j]?).map Thing.holds = some u.holds) (hu : Hp.Reads u b 1 u8v l) (hb : Bytes l) (hl : l.length ≤ 9000000000000000) {K : Int → Int → World → Prop}
    (hK : K (getU l).1 (getU l).2 w) : c39 b w K := by
  refine c39_of ?_
  unfold f39
  have hbl := h.lenU j hj hu
  refine ⟨fun n t m w' => ∃ i : Nat, t = i ∧ i ≤ l.length ∧ i ≤ 9 ∧ 0 ≤ n ∧ n < 2 ^ (7 * i) ∧ getF (l.drop i) i n = getU l ∧ m = l.length - i ∧ w' = w, ⟨l.length, 0, rfl, by omega, by omega, by omega, by simp, rfl, rfl, rfl⟩, ?_⟩
  rintro n t m w2 ⟨i, rfl, hi, hi9, n0, n1, hg, rfl, rfl⟩
  by_cases hlt : i < l.length
  · refine ifT (by simp; omega) ?_
    have hc := hb l[i] (List.getElem_mem hlt)
    have hd : l.drop i = l[i] :: l.drop (i + 1) := List.drop_eq_getElem_cons hlt
    refine h.ixldU (k := .i .u8) (u := u) (y := l[i]) (x := l[i]) j hj hu (by omega) (by simp [hlt]) u8v_len rfl ?_
    rw [hd, getF_cons] at hg
    generalize l[i] = c at hc hg hd
    have e0 : IntKind.u64.wrap c = c := by rw [w64]; omega
    by_cases h9 : i = 9 ∧ 1 < c
    · refine ifT (by rw [e0, h9.1]; simpa using h9.2) ?_
      rw [if_pos h9] at hg
      rw [← hg] at hK
      exact hK
    · rw [if_neg h9] at hg
      refine ifF ?_ ?_
      · rw [e0]
        by_cases hi' : (i : Int) = 9
        · have : ¬ c > 1 := fun h => h9 ⟨by omega, h⟩
          simp [hi', this]
        · simp [hi']
      have h9' : i = 9 → c ≤ 1 := fun h => by omega
      obtain ⟨b0, b1, b2⟩ := get_bound hi9 hc.1 hc.2 h9' n0 n1
      refine ⟨by omega, by rw [wr64 (by omega) (by omega)]; omega, ?_⟩
      rw [rget_val hi9 hc.1 hc.2 h9' n0 n1, e0]
      by_cases hge : 128 ≤ c
      · refine ifT (by simpa using hge) ?_
        rw [if_pos hge] at hg
        exact ⟨l.length - (i + 1), by omega, i + 1, by rw [wr64 (by omega) (by omega)]; omega, by omega, by omega, by omega, b2, hg, rfl, rfl⟩
      · refine ifF (by simpa using hge) ?_
        rw [if_neg hge] at hg
        by_cases hz : c = 0 ∧ 0 < i
        · refine ifT (by simp [hz]) ?_
          rw [if_pos hz] at hg
          rw [← hg] at hK
          exact hK
        · refine ifF ?_ ?_
          · by_cases hc0 : c = 0
            · have : ¬ 0 < i := fun h => hz ⟨hc0, h⟩
              simp [hc0]; omega
            · simp [hc0]
          rw [if_neg hz] at hg
          rw [← hg] at hK
          rw [wr64 (by omega) (by omega)]
          exact hK
  · refine ifF (by simp; omega) ?_
    rw [List.drop_of_length_le (by omega), getF] at hg
    rw [← hg] at hK
    exact hK

/-- A number with a sign, read. -/
def getI (l : List Int) : Int × Int := (zag (getU l).1, (getU l).2)

/-- A text, read: its bytes, and how many bytes in all. -/
def getT (l : List Int) : List Int × Int :=
  if (getU l).2 = 0 ∨ (l.length : Int) - (getU l).2 < (getU l).1 then ([], 0) else ((l.drop (getU l).2.toNat).take (getU l).1.toNat, (getU l).2 + (getU l).1)
end
end Go.Proofs.Ytmbbfaigbhnhcaa.F
