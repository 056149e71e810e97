/-
  Contracts of the document's own: GetRow.
-/
import Derived.Test.YtbmpgjheiknjlaaC01u
set_option linter.unusedSimpArgs false
set_option linter.unusedVariables false
set_option maxRecDepth 100000
namespace Go.Proofs.Ytbmpgjheiknjlaa.F
open Go Go.Den Go.Proofs

theorem formU_pos {f : Int} {l : List Int} (h : l ≠ []) : 1 ≤ (formU f l).length := by
  cases l with
  | nil => exact absurd rfl h
  | cons x r =>
    unfold formU
    split
    · have := putU_pos (zig x)
      simp only [encZ, List.flatMap_cons, List.length_append]; omega
    · split
      · have := putU_pos (zig (IntKind.i64.wrap (x - 0)))
        simp only [encS, List.length_append]; omega
      · have := putU_pos ((runsL (x :: r)).length : Int)
        simp only [encR, List.length_append]; omega

section
variable {S : List Nat} {w0 w : World} {its : List Thing}

set_option maxHeartbeats 2000000 in
theorem RGetRow_spec (h : Hp S w0 w its) (j : Nat) {u : Thing} {b : Sl} {bs : List Int} {most : Int} (hj : (its[j]?).map Thing.holds = some u.holds) (hu : Hp.Reads u b 1 u8v bs) (hb : Bytes bs) (hl : bs.length ≤ 9000000000000000) (hcap : b.len ≤ b.cap) {K : Sl → Int → World → Prop}
    (hK : ∀ s X size w', RowOk bs most X size → Hp S w0 w' (its ++ [tSl s 2 1 iv X]) → K s size w') : c27 b most w K := by
  refine c27_of ?_
  unfold f27
  have hbl := h.lenU j hj hu
  have hu' : Hp.Reads u.ro b 1 u8v bs := ⟨hu.rd⟩
  obtain ⟨r0, r1, r2, r3, r4, r5⟩ := getU_range hb
  have none_ : (∀ l, ¬ Acc bs most l) → ∀ {w' : World}, Fr [] w w' → K ⟨none, 0, 0⟩ 0 w' := fun hn w' hf => hK _ _ _ _ (no_row hn) ((h.keep hf).nil 2 1 iv)
  refine ⟨fun m2 w' => w' = w ∧ m2 = (if 100000 < most then 100000 else most), ?_, ?_⟩
  · by_cases hm : 100000 < most
    · exact ifT (by simpa using hm) ⟨rfl, by rw [if_pos hm]⟩
    · exact ifF (by simpa using hm) ⟨rfl, by rw [if_neg hm]⟩
  rintro m2 w1 ⟨rfl, hm2⟩
  refine RGet_spec h j hj hu hb hl ?_
  by_cases hbad : (getU bs).2 = 0 ∨ most < 0 ∨ m2 < (getU bs).1
  · refine ifT ?_ (none_ ?_ (Fr.refl _ _))
    · by_cases g1 : (getU bs).2 = 0
      · simp [g1]
      · by_cases g2 : m2 < 0
        · simp [g2]
        · have g3 : ¬ most < 0 := by intro h; rw [if_neg (by omega)] at hm2; omega
          have g4 : m2 < (getU bs).1 := by
            rcases hbad with h | h | h
            · exact absurd h g1
            · exact absurd h g3
            · exact h
          have e : IntKind.u64.wrap m2 = m2 := by rw [w64]; split at hm2 <;> omega
          have g5 : decide ((getU bs).1 > IntKind.u64.wrap m2) = true := by rw [e]; simpa using g4
          rw [g5]; simp
    · intro l hl'
      have h2 := hl'.head.1
      obtain ⟨a0, a1, a2, _⟩ := hl'
      rcases hbad with h | h | h
      · rw [h2] at h
        have := putU_pos l.length
        dsimp only at h
        omega
      · omega
      · rw [h2] at h
        dsimp only at h
        split at hm2 <;> omega
  simp only [not_or] at hbad
  obtain ⟨hz, hm, hn⟩ := hbad
  have hm2n : 0 ≤ m2 := by split at hm2 <;> omega
  have hmm : (getU bs).1 ≤ most ∧ (getU bs).1 ≤ 100000 := by split at hm2 <;> omega
  have e1 : IntKind.u64.wrap m2 = m2 := by rw [w64]; split at hm2 <;> omega
  refine ifF ?_ ?_
  · have n1 : ¬ m2 < 0 := by omega
    have n2 : ¬ (getU bs).1 > m2 := by omega
    rw [e1, decide_eq_false n1, decide_eq_false n2]; simp [hz]
  have hback := getU_back hb hz
  by_cases hn0 : (getU bs).1 = 0
  · refine ifT (by simpa using hn0) ?_
    rw [hn0] at hback
    have e0 : putU 0 = [0] := by decide
    rw [e0] at hback
    have hk1 : (getU bs).2 = 1 := by
      have := congrArg List.length hback
      simp only [List.length_cons, List.length_nil, List.length_take] at this
      omega
    rw [hk1]
    refine hK _ [] 1 _ ⟨fun h => by omega, fun _ => ⟨⟨by omega, by simp; omega, by simp, (by intro x hx; cases hx), bs.drop (getU bs).2.toNat, ?_⟩, ?_⟩, ?_⟩ (h.nil 2 1 iv)
    · have e1 : rowU [] = [0] := by decide
      rw [e1, hback, List.take_append_drop]
    · decide
    · intro l hl'
      have h2 := hl'.head.1
      rw [h2] at hn0
      have : l = [] := List.eq_nil_of_length_eq_zero (by dsimp only at hn0; omega)
      subst this
      exact ⟨rfl, by decide⟩
  refine ifF (by simpa using hn0) ?_
  have hlen2 : (bs.drop (getU bs).2.toNat).length = bs.length - (getU bs).2.toNat := List.length_drop
  have accF : ∀ l, Acc bs most l → (l.length : Int) = (getU bs).1 ∧ l ≠ [] ∧ ∃ rest, bs = rowU l ++ rest ∧ bs.drop (getU bs).2.toNat = bestU l ++ rest := by
    intro l hl'
    obtain ⟨g1, rest, g2, g3⟩ := hl'.head
    have hl0 : l ≠ [] := by
      rintro rfl
      rw [g1] at hn0
      exact hn0 rfl
    rw [if_neg hl0] at g3
    refine ⟨by rw [g1], hl0, rest, g2, ?_⟩
    rw [g1]
    exact g3
  by_cases he : (getU bs).2 ≥ (b.len : Int)
  · refine ifT (by simpa using he) (none_ ?_ (Fr.refl _ _))
    intro l hl'
    obtain ⟨_, _, rest, _, g⟩ := accF l hl'
    have hp := bestU_pos l
    have := congrArg List.length g
    simp only [List.length_append] at this
    omega
  refine ifF (by simpa using he) ?_
  refine h.dr fun w2 h => ?_
  obtain ⟨form, cur, hcur⟩ : ∃ form cur, bs.drop (getU bs).2.toNat = form :: cur := by
    cases hc : bs.drop (getU bs).2.toNat with
    | nil => rw [hc] at hlen2; simp at hlen2; omega
    | cons x y => exact ⟨x, y, rfl⟩
  have hcurl := congrArg List.length hcur
  simp only [List.length_cons] at hcurl
  have hbc : Bytes (form :: cur) := by rw [← hcur]; exact bytes_drop hb _
  have hf := hbc form (by simp)
  have ewk : IntKind.i64.wrap ((getU bs).2 + 1) = (getU bs).2 + 1 := wr64 (by omega) (by omega)
  rw [ewk]
  refine Hp.cutv (s := b) hu (by omega) u8v_len (by omega) (by omega) (by omega) (Int.le_refl _) (by omega) fun s hs hsl hsc => ?_
  have e3 : (bs.take ((b.len : Int)).toNat).drop ((getU bs).2 + 1).toNat = cur := by
    rw [List.take_of_length_le (by omega), show ((getU bs).2 + 1).toNat = (getU bs).2.toNat + 1 by omega, ← List.drop_drop, hcur]; rfl
  rw [e3] at hs
  have hget : bs[(getU bs).2.toNat]? = some form := by
    have := congrArg (fun l => l[0]?) hcur
    simpa using this
  refine h.ixldU (k := .i .u8) (u := u) (y := form) (x := form) j hj hu (by omega) hget u8v_len rfl ?_
  have ewn : IntKind.i64.wrap (getU bs).1 = (getU bs).1 := wr64 (by omega) (by omega)
  rw [ewn]
  have none_2 : (∀ l, ¬ Acc bs most l) → ∀ {w' : World}, Fr [] w2 w' → K ⟨none, 0, 0⟩ 0 w' := fun hn w' hf => hK _ _ _ _ (no_row hn) ((h.keep hf).nil 2 1 iv)
  refine DocRow_spec (h.ro1 hj) 0 (u := u.ro) rfl ⟨hs.rd⟩ (fun x hx => hbc x (by simp [hx])) (by omega) (by omega) hf.1 (by omega) (by omega) fun o X size w3 hdoc h1 => ?_
  simp only [List.cons_append, List.nil_append] at h1
  obtain ⟨hd1, hd2⟩ := hdoc
  -- what a canonical text was read as
  have accS : ∀ l, Acc bs most l → X = l ∧ form :: cur = bestU l ++ cur.drop size.toNat ∧ size ≠ 0 := by
    intro l hl'
    obtain ⟨g0, g1, rest, g2, g3⟩ := accF l hl'
    obtain ⟨f, hf', hfe⟩ := bestU_form l
    rw [hcur, hfe] at g3
    injection g3 with g4 g5
    subst g4
    obtain ⟨e1, e2⟩ := hd2 l rest hf' g5 g0 hl'.2.2.2.1
    have hp := formU_pos (f := form) g1
    refine ⟨e1, ?_, by omega⟩
    rw [hfe, e2, Int.toNat_natCast, List.cons_append]
    congr 1
    rw [g5]
    show formU form l ++ rest = formU form l ++ List.drop (formU form l).length (formU form l ++ rest)
    rw [List.drop_left]
  by_cases hs0 : size = 0
  · refine ifT (by simpa using hs0) (none_2 ?_ h1.fr)
    intro l hl'
    exact (accS l hl').2.2 hs0
  refine ifF (by simpa using hs0) ?_
  have hd1' : 0 < size ∧ size ≤ cur.length ∧ (X.length : Int) = (getU bs).1 ∧ R64 X := hd1.elim (fun g => absurd g.1 hs0) id
  obtain ⟨p1, p2, p3, p4⟩ := hd1'
  refine shortest_spec h1 1 rfl Hp.rdSl p4 (by omega) fun o2 w4 h1 => ?_
  simp only [List.cons_append, List.nil_append] at h1
  refine h1.dr fun w5 h1 => ?_
  refine h1.rdb 2 rfl Hp.rdSl _ (strL_of (bestU_bytes X)) ?_
  have ewe : IntKind.i64.wrap ((getU bs).2 + 1 + size) = (getU bs).2 + 1 + size := wr64 (by omega) (by omega)
  rw [ewe]
  refine Hp.cutv (s := b) hu' (by omega) u8v_len (by omega) (by omega) (by omega) (by omega) (by omega) fun s4 hs4 _ _ => ?_
  have hpre : (bs.take ((getU bs).2 + 1 + size).toNat).drop (getU bs).2.toNat = form :: cur.take size.toNat := by
    rw [List.drop_take, hcur, show ((getU bs).2 + 1 + size).toNat - (getU bs).2.toNat = size.toNat + 1 by omega, List.take_succ_cons]
  rw [hpre] at hs4
  have hb4 : Bytes (form :: cur.take size.toNat) := by rw [← List.take_succ_cons]; exact bytes_take hbc _
  refine h1.rdb 0 (u := u.ro) rfl hs4 _ (strL_of hb4) ?_
  rw [str_beq, strL_of (bestU_bytes X), strL_of hb4]
  by_cases heq : bestU X = form :: cur.take size.toNat
  · refine ifF (by simpa using heq) ?_
    have hX0 : X ≠ [] := by rintro rfl; simp at p3; omega
    have hrow : rowU X = bs.take ((getU bs).2 + 1 + size).toNat := by
      unfold rowU
      rw [if_neg hX0, heq, p3, hback]
      conv => rhs; rw [← List.take_append_drop (getU bs).2.toNat (bs.take ((getU bs).2 + 1 + size).toNat), hpre, List.take_take, Nat.min_eq_left (by omega)]
    have hlen : (getU bs).2 + 1 + size = ((rowU X).length : Int) := by
      rw [hrow, List.length_take]; omega
    have hpos := rowU_pos X
    refine hK o X _ w5 ⟨fun h => by omega, fun _ => ⟨⟨by omega, by omega, by omega, p4, bs.drop ((getU bs).2 + 1 + size).toNat, ?_⟩, hlen⟩, ?_⟩ (h.r0 rfl (h1.sel1 1 rfl))
    · rw [hrow, List.take_append_drop]
    · intro l hl'
      obtain ⟨g, _, _⟩ := accS l hl'
      rw [← g]; exact ⟨rfl, hlen⟩
  · refine ifT (by simpa using heq) (none_2 ?_ h1.fr)
    intro l hl'
    obtain ⟨g, g2, _⟩ := accS l hl'
    apply heq
    rw [g]
    have e5 : (form :: cur.take size.toNat) ++ cur.drop size.toNat = bestU l ++ cur.drop size.toNat := by
      rw [← g2, List.cons_append, List.take_append_drop]
    exact (List.append_cancel_right e5).symm
end
end Go.Proofs.Ytbmpgjheiknjlaa.F
