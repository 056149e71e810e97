/-
  Records, told in plain words.
-/
import Derived.Test.YtmbbfaigbhnhcaaC02s
import Derived.Test.YtmbbfaigbhnhcaaM02c
set_option linter.unusedSimpArgs false
set_option linter.unusedVariables false
set_option maxRecDepth 100000
namespace Go.Proofs.Ytmbbfaigbhnhcaa.F
open Go Go.Den Go.Proofs

/-- The head of a record, its sum's bytes, the record. -/
def headU (d : List Int) : List Int := 130 :: putU (d.length : Int)
def sumB (bs : List Int) : List Int := [sumU bs % 256, sumU bs / 256 % 256, sumU bs / 65536 % 256, sumU bs / 16777216 % 256]
def madeU (d : List Int) : List Int := headU d ++ sumB (headU d ++ d) ++ d
def okD (d : List Int) : Prop := 1 ≤ d.length ∧ d.length ≤ 100000

/-- The record that bytes begin with. -/
def getR : List Int → List Int × Int
  | 130 :: r =>
    if (getU r).2 = 0 ∨ (getU r).1 < 1 ∨ 100000 < (getU r).1 ∨ (r.length : Int) < (getU r).2 + 4 + (getU r).1 then ([], 0)
    else if madeU ((r.drop ((getU r).2 + 4).toNat).take (getU r).1.toNat) = (130 :: r).take (1 + (getU r).2 + 4 + (getU r).1).toNat then ((r.drop ((getU r).2 + 4).toNat).take (getU r).1.toNat, 1 + (getU r).2 + 4 + (getU r).1)
    else ([], 0)
  | _ => ([], 0)

theorem sumU_range (bs : List Int) : 0 ≤ sumU bs ∧ sumU bs < 4294967296 := by
  unfold sumU
  have := (crcL bs (BitVec.allOnes 32) ^^^ BitVec.allOnes 32).isLt
  omega
theorem sumB_len (bs : List Int) : (sumB bs).length = 4 := rfl
theorem sumB_bytes (bs : List Int) : Bytes (sumB bs) := by
  have := sumU_range bs
  intro x hx
  simp only [sumB, List.mem_cons, List.not_mem_nil, or_false] at hx
  rcases hx with rfl | rfl | rfl | rfl <;> omega
theorem putU_bytes {n : Int} (h : 0 ≤ n) : Bytes (putU n) := putF_byte 10 n h
theorem bytes_app {a b : List Int} (ha : Bytes a) (hb : Bytes b) : Bytes (a ++ b) := fun x hx => (List.mem_append.1 hx).elim (ha x) (hb x)
theorem bytes_cons {x : Int} {b : List Int} (hx : 0 ≤ x ∧ x < 256) (hb : Bytes b) : Bytes (x :: b) := fun y hy => (List.mem_cons.1 hy).elim (fun e => by rw [e]; exact hx) (hb y)
theorem bytes_nil : Bytes [] := fun x hx => by cases hx
theorem headU_bytes (d : List Int) : Bytes (headU d) := bytes_cons (by omega) (putU_bytes (by omega))
theorem headU_len (d : List Int) : (headU d).length = 1 + (putU (d.length : Int)).length := by simp [headU]; omega
theorem madeU_bytes {d : List Int} (h : Bytes d) : Bytes (madeU d) := bytes_app (bytes_app (headU_bytes d) (sumB_bytes _)) h
theorem madeU_len (d : List Int) : (madeU d).length = 5 + (putU (d.length : Int)).length + d.length := by
  simp only [madeU, List.length_append, sumB_len, headU_len]; omega
theorem madeU_le (d : List Int) : (madeU d).length ≤ 15 + d.length := by
  have := putU_len (d.length : Int)
  rw [madeU_len]; omega
theorem madeU_pos (d : List Int) : 6 ≤ (madeU d).length := by
  have := putU_pos (d.length : Int)
  rw [madeU_len]; omega

theorem getR_none (bs : List Int) (h : ∀ r, bs ≠ 130 :: r) : getR bs = ([], 0) := by
  unfold getR
  split
  · rename_i r; exact absurd rfl (h r)
  · rfl

theorem getR_made {d : List Int} (h : okD d) (rest : List Int) : getR (madeU d ++ rest) = (d, ((madeU d).length : Int)) := by
  obtain ⟨h1, h2⟩ := h
  have e : madeU d ++ rest = 130 :: (putU (d.length : Int) ++ (sumB (headU d ++ d) ++ (d ++ rest))) := by simp [madeU, headU]
  have hg := getU_put (n := (d.length : Int)) (by omega) (by omega) (sumB (headU d ++ d) ++ (d ++ rest))
  have hp := putU_pos (d.length : Int)
  have hml := madeU_len d
  have hdrop : ((putU (d.length : Int) ++ (sumB (headU d ++ d) ++ (d ++ rest))).drop ((((putU (d.length : Int)).length : Int) + 4)).toNat).take ((d.length : Int)).toNat = d := by
    have e1 : (((putU (d.length : Int)).length : Int) + 4).toNat = (putU (d.length : Int) ++ sumB (headU d ++ d)).length := by rw [List.length_append, sumB_len]; omega
    rw [e1, ← List.append_assoc, List.drop_left, Int.toNat_natCast, List.take_left]
  have htake : (madeU d ++ rest).take (1 + ((putU (d.length : Int)).length : Int) + 4 + (d.length : Int)).toNat = madeU d := by
    have e1 : (1 + ((putU (d.length : Int)).length : Int) + 4 + (d.length : Int)).toNat = (madeU d).length := by omega
    rw [e1, List.take_left]
  rw [e]
  rw [e] at htake
  unfold getR
  simp only [hg]
  rw [if_neg, hdrop, if_pos]
  · refine Prod.ext rfl ?_
    show 1 + ((putU (d.length : Int)).length : Int) + 4 + (d.length : Int) = _
    omega
  · exact htake.symm
  · simp only [List.length_append, sumB_len]
    omega

theorem getR_back {bs : List Int} (hb : Bytes bs) (h : (getR bs).2 ≠ 0) : okD (getR bs).1 ∧ (getR bs).2 = ((madeU (getR bs).1).length : Int) ∧ bs = madeU (getR bs).1 ++ bs.drop (getR bs).2.toNat := by
  unfold getR at h ⊢
  split
  · rename_i r
    simp only at h
    split at h
    · exact absurd rfl h
    rename_i hc
    rw [if_neg hc]
    split at h
    · rename_i hm
      rw [if_pos hm]
      simp only [not_or] at hc
      obtain ⟨c1, c2, c3, c4⟩ := hc
      obtain ⟨r0, r1, r2, r3, r4, r5⟩ := getU_range (fun x hx => hb x (by simp [hx]) : Bytes r)
      have hl : ((r.drop ((getU r).2 + 4).toNat).take (getU r).1.toNat).length = (getU r).1.toNat := by
        rw [List.length_take, List.length_drop]; omega
      dsimp only
      refine ⟨⟨by omega, by omega⟩, ?_, ?_⟩
      · rw [hm, List.length_take, List.length_cons]; omega
      · rw [hm, List.take_append_drop]
    · exact absurd rfl h
  · rename_i hne
    split at h
    · rename_i r; exact absurd rfl (hne r)
    · exact absurd rfl h

theorem getR_zero {bs : List Int} (h : (getR bs).2 = 0) (hb : Bytes bs) : getR bs = ([], 0) := by
  unfold getR at h ⊢
  split
  · rename_i r
    obtain ⟨r0, r1, r2, r3, r4, r5⟩ := getU_range (fun x hx => hb x (by simp [hx]) : Bytes r)
    simp only at h
    split
    · rfl
    · rename_i hc
      rw [if_neg hc] at h
      split
      · rename_i hm
        rw [if_pos hm] at h
        simp only at h
        omega
      · rfl
  · rfl

theorem getR_range {bs : List Int} (hb : Bytes bs) : 0 ≤ (getR bs).2 ∧ (getR bs).2 ≤ bs.length ∧ (getR bs).1.length ≤ 100000 ∧ Bytes (getR bs).1 := by
  by_cases h : (getR bs).2 = 0
  · rw [getR_zero h hb]; exact ⟨by simp, by simp, by simp, bytes_nil⟩
  · obtain ⟨⟨h1, h2⟩, h3, h4⟩ := getR_back hb h
    refine ⟨by omega, ?_, h2, ?_⟩
    · have := congrArg List.length h4
      rw [List.length_append] at this
      omega
    · intro x hx
      exact hb x (by rw [h4]; simp [madeU, hx])

/-- All records at the front, one behind the other. -/
def recsF : Nat → List Int → List (List Int)
  | 0, _ => []
  | f + 1, bs => if (getR bs).2 = 0 then [] else (getR bs).1 :: recsF f (bs.drop (getR bs).2.toNat)
def recs (bs : List Int) : List (List Int) := recsF (bs.length + 1) bs
def tot (ds : List (List Int)) : Nat := (ds.map fun d => (madeU d).length).sum
theorem tot_snoc (ds : List (List Int)) (d : List Int) : tot (ds ++ [d]) = tot ds + (madeU d).length := by simp [tot]
theorem tot_cons (ds : List (List Int)) (d : List Int) : tot (d :: ds) = (madeU d).length + tot ds := by simp [tot]

theorem recsF_more : ∀ (f : Nat) (bs : List Int), Bytes bs → bs.length < f → recsF f bs = recs bs
  | 0, bs, hb, h => by omega
  | f + 1, bs, hb, h => by
    unfold recs
    rw [recsF, recsF]
    by_cases hz : (getR bs).2 = 0
    · rw [if_pos hz, if_pos hz]
    · rw [if_neg hz, if_neg hz]
      obtain ⟨h1, h2, h3⟩ := getR_back hb hz
      have hp := madeU_pos (getR bs).1
      have hr := getR_range hb
      have hl : (bs.drop (getR bs).2.toNat).length = bs.length - (getR bs).2.toNat := List.length_drop
      have hbd : Bytes (bs.drop (getR bs).2.toNat) := fun x hx => hb x (List.mem_of_mem_drop hx)
      rw [recsF_more f _ hbd (by omega)]
      congr 1
      unfold recs
      by_cases hlt : (bs.drop (getR bs).2.toNat).length + 1 = bs.length
      · rw [hlt]
      · have : ∀ (g : Nat), (bs.drop (getR bs).2.toNat).length < g → g ≤ f → recsF g (bs.drop (getR bs).2.toNat) = recs (bs.drop (getR bs).2.toNat) := fun g h1 h2 => by
          by_cases hgf : g = f
          · rw [hgf]; exact recsF_more f _ hbd (by omega)
          · exact recsF_more g _ hbd h1
        rw [this bs.length (by omega) (by omega)]
        rfl
termination_by f _ _ _ => f

theorem recs_zero {bs : List Int} (h : (getR bs).2 = 0) : recs bs = [] := by unfold recs; rw [recsF, if_pos h]
theorem recs_step {bs : List Int} (hb : Bytes bs) (h : (getR bs).2 ≠ 0) : recs bs = (getR bs).1 :: recs (bs.drop (getR bs).2.toNat) := by
  conv => lhs; unfold recs; rw [recsF, if_neg h]
  obtain ⟨h1, h2, h3⟩ := getR_back hb h
  have hp := madeU_pos (getR bs).1
  have hr := getR_range hb
  rw [recsF_more _ _ (fun x hx => hb x (List.mem_of_mem_drop hx)) (by rw [List.length_drop]; omega)]

/-- How far a reader has come. -/
structure Far (bs : List Int) (ds : List (List Int)) : Prop where
  all : recs bs = ds ++ recs (bs.drop (tot ds))
  le : tot ds ≤ bs.length
  pre : bs.take (tot ds) = ds.flatMap madeU
  ok : ∀ d ∈ ds, okD d ∧ Bytes d

theorem Far.start (bs : List Int) : Far bs [] := ⟨by simp [tot], by simp [tot], by simp [tot], by simp⟩
theorem Far.step {bs : List Int} {ds : List (List Int)} (h : Far bs ds) (hb : Bytes bs) (hz : (getR (bs.drop (tot ds))).2 ≠ 0) : Far bs (ds ++ [(getR (bs.drop (tot ds))).1]) ∧ (tot (ds ++ [(getR (bs.drop (tot ds))).1]) : Int) = tot ds + (getR (bs.drop (tot ds))).2 := by
  have hbd : Bytes (bs.drop (tot ds)) := fun x hx => hb x (List.mem_of_mem_drop hx)
  obtain ⟨h1, h2, h3⟩ := getR_back hbd hz
  have hr := getR_range hbd
  have hle := h.le
  rw [List.length_drop] at hr
  have ht := tot_snoc ds (getR (bs.drop (tot ds))).1
  refine ⟨⟨?_, by omega, ?_, ?_⟩, by omega⟩
  · rw [h.all, recs_step hbd hz, List.drop_drop, List.append_assoc, ht]
    have : tot ds + (getR (bs.drop (tot ds))).2.toNat = tot ds + (madeU (getR (bs.drop (tot ds))).1).length := by omega
    rw [this]; rfl
  · rw [ht, List.flatMap_append, ← h.pre, List.take_add]
    congr 1
    simp only [List.flatMap_cons, List.flatMap_nil, List.append_nil]
    have h5 := congrArg (List.take (madeU (getR (bs.drop (tot ds))).1).length) h3
    rw [List.take_left] at h5
    exact h5
  · intro d hd
    rcases List.mem_append.1 hd with hd | hd
    · exact h.ok d hd
    · simp only [List.mem_singleton] at hd; subst hd; exact ⟨h1, hr.2.2.2⟩
theorem Far.done {bs : List Int} {ds : List (List Int)} (h : Far bs ds) (hz : (getR (bs.drop (tot ds))).2 = 0) : recs bs = ds := by
  rw [h.all, recs_zero hz, List.append_nil]
theorem recs_far (bs : List Int) (hb : Bytes bs) : Far bs (recs bs) ∧ (getR (bs.drop (tot (recs bs)))).2 = 0 := by
  have key : ∀ (k : Nat) (ds : List (List Int)), Far bs ds → bs.length - tot ds < k → Far bs (recs bs) ∧ (getR (bs.drop (tot (recs bs)))).2 = 0 := by
    intro k
    induction k with
    | zero => intro ds _ h; omega
    | succ k ih =>
      intro ds hf hk
      by_cases hz : (getR (bs.drop (tot ds))).2 = 0
      · rw [hf.done hz]; exact ⟨hf, hz⟩
      · obtain ⟨h1, h2⟩ := hf.step hb hz
        have := madeU_pos (getR (bs.drop (tot ds))).1
        have := tot_snoc ds (getR (bs.drop (tot ds))).1
        have := h1.le
        exact ih _ h1 (by omega)
  exact key (bs.length + 1) [] (Far.start bs) (by omega)
end Go.Proofs.Ytmbbfaigbhnhcaa.F
