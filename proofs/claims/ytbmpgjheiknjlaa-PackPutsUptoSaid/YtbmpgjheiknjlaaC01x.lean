/-
  Contracts of package pack, fifth part: PutRow.
-/
import Derived.Test.YtbmpgjheiknjlaaC01w
set_option linter.unusedSimpArgs false
set_option linter.unusedVariables false
namespace Go.Proofs.Ytbmpgjheiknjlaa.F
open Go Go.Den Go.Proofs

/-- The shortest of the first k forms. -/
def bk (l : List Int) (k : Nat) : List Int := if k = 1 then 0 :: formU 0 l else if k = 2 then shorter (0 :: formU 0 l) (1 :: formU 1 l) else bestU l

theorem bk_step (l : List Int) {k : Nat} (h1 : 1 ≤ k) (h2 : k < 3) : bk l (k + 1) = shorter (bk l k) ((k : Int) :: formU k l) := by
  have : k = 1 ∨ k = 2 := by omega
  rcases this with rfl | rfl <;> rfl

section
variable {S : List Nat} {w0 w : World} {its : List Thing}

theorem ne_none {α : Type} {f : α → List Value} {n : Nat} {e : TypeId} (h : Hp S w0 w its) (i : Nat) {s : Sl} {l : List α} (hi : (its[i]?).map Thing.holds = some (tSl s e n f l).holds) (hl : l ≠ []) : s.a ≠ none := by
  obtain ⟨O, hO⟩ := h.see' hi
  intro hn
  rcases hO.2 with ⟨_, h0, _⟩ | ⟨b, off, c, h1, _⟩
  · exact hl (List.eq_nil_of_length_eq_zero (by rw [hO.1, h0]))
  · rw [hn] at h1; cases h1

theorem row_spec (h : Hp S w0 w its) (j : Nat) {u : Thing} {v : Sl} {l : List Int} (hj : its[j]? = some u) (hu : Hp.Reads u v 1 iv l) (hr : R64 l) (hl : l.length ≤ 1000000000000) {K : Sl → World → Prop}
    (hK : ∀ s w', Hp S w0 w' (its ++ [tB s (rowU l)]) → K s w') : c37 v w K := by
  refine c37_of ?_
  unfold f37
  have hvl := h.lenU j (by rw [hj]; rfl) hu
  have h1 := h.ro1 (j := j) (u := u) (by rw [hj]; rfl)
  have hu' : Hp.Reads u.ro v 1 iv l := ⟨hu.rd⟩
  refine h1.nw (c := [_]) fun l2 w1 h1 => ?_
  refine h1.ld0 (k := .sl) (x := v) 1 rfl rfl ?_
  have h1 := h1.nil 5 1 u8v
  have ew : IntKind.u64.wrap (v.len : Int) = (l.length : Int) := by rw [w64]; omega
  rw [ew]
  refine add_spec h1 2 rfl (by omega) (by omega) (by simp) fun head w1 h1 => ?_
  rw [List.nil_append] at h1
  have hhl := putU_len l.length
  refine h1.nw (c := [_]) fun head2 w1 h1 => ?_
  refine h1.st0 3 rfl (by simp) rfl fun w1 h1 => ?_
  simp only [List.cons_append, List.nil_append, List.set_cons_zero, List.set_cons_succ] at h1
  refine h1.ld0 (k := .sl) (x := v) 1 rfl rfl ?_
  by_cases hz : l = []
  · refine ifT (by rw [hz] at hvl; simp at hvl ⊢; omega) ?_
    refine h1.ld0 (k := .sl) (x := head) 3 rfl rfl ?_
    have e : rowU l = putU l.length := by unfold rowU; rw [if_pos hz, List.append_nil]
    have := hK head w1
    rw [e] at this
    exact this (h.r0 rfl (h1.sel1 2 rfl))
  have hlp : 1 ≤ l.length := by cases l with | nil => exact absurd rfl hz | cons _ _ => simp
  refine ifF (by simp; omega) ?_
  have hrow : rowU l = putU l.length ++ bestU l := by unfold rowU; rw [if_neg hz]
  rw [hrow] at hK
  generalize putU l.length = hd at hhl h1 hK
  refine ⟨fun best t m w' => ∃ k : Nat, t = k ∧ k ≤ 3 ∧ m = 3 - k ∧ ((k = 0 ∧ best = ⟨none, 0, 0⟩ ∧ Hp [] w w' [u.ro, tBlk l2 24 [.slice v.a v.len v.cap], tB head hd, tBlk head2 22 [.slice head.a head.len head.cap]]) ∨
      (1 ≤ k ∧ best.a ≠ none ∧ Hp [] w w' [u.ro, tBlk l2 24 [.slice v.a v.len v.cap], tB head hd, tBlk head2 22 [.slice head.a head.len head.cap], tB best (hd ++ bk l k)])), ⟨3, 0, rfl, by omega, rfl, .inl ⟨rfl, rfl, h1⟩⟩, ?_⟩
  rintro best t m w2 ⟨k, rfl, hk, rfl, hh⟩
  have callv : ∀ {w' : World} {K' : Sl → World → Prop}, c45 (k : Int) (some ⟨head2, 0, none⟩) (some ⟨l2, 0, none⟩) w' K' → CallV Try.prog (.func (.func 45) #[] #[.pointer (some ⟨head2, 0, none⟩), .pointer (some ⟨l2, 0, none⟩)]) [.int .u8 (k : Int)] [.one .sl] w' K' :=
    fun hc => ⟨45, #[], #[.pointer (some ⟨head2, 0, none⟩), .pointer (some ⟨l2, 0, none⟩)], rfl, ⟨_, Try.func45, by kernel_rfl⟩, hc⟩
  have ew2 : k < 3 → IntKind.u8.wrap ((k : Int) + 1) = ((k + 1 : Nat) : Int) := fun h => by rw [w8]; omega
  by_cases hlt : k < 3
  · refine ifT (by simp; omega) ?_
    rw [ew2 hlt]
    refine callv ?_
    rcases hh with ⟨rfl, rfl, h1⟩ | ⟨hk1, hne, h1⟩
    · refine tried_spec h1 3 1 0 rfl rfl (ih := 2) rfl Hp.rdSl rfl hu' hr hl (by omega) (by omega) fun r w3 h1 => ?_
      refine ifT rfl ?_
      have hne := ne_none h1 4 rfl (by simp)
      exact ⟨2, by omega, 1, rfl, by omega, rfl, .inr ⟨by omega, hne, h1⟩⟩
    · refine tried_spec h1 3 1 0 rfl rfl (ih := 2) rfl Hp.rdSl rfl hu' hr hl (by omega) (by omega) fun r w3 h1 => ?_
      have hbl := h1.len (s := best) 4 rfl
      have hrl := h1.len (s := r) 5 rfl
      simp only [List.length_append] at hbl hrl
      have hs := bk_step l hk1 hlt
      have hbn : best.a.isNone = false := by cases hb : best.a with | none => exact absurd hb hne | some _ => rfl
      rw [hbn]
      by_cases hsh : ((k : Int) :: formU k l).length < (bk l k).length
      · refine ifT (by simp only [cond_false, decide_eq_true_eq]; omega) ?_
        have e : bk l (k + 1) = (k : Int) :: formU k l := by rw [hs]; unfold shorter; rw [if_pos hsh]
        have hne2 := ne_none h1 5 rfl (by simp)
        refine ⟨3 - (k + 1), by omega, k + 1, rfl, by omega, rfl, .inr ⟨by omega, hne2, ?_⟩⟩
        rw [e]
        exact h1.sel5 0 1 2 3 5 (by decide) rfl rfl rfl rfl rfl
      · refine ifF (by simp only [cond_false, decide_eq_true_eq]; omega) ?_
        have e : bk l (k + 1) = bk l k := by rw [hs]; unfold shorter; rw [if_neg hsh]
        refine ⟨3 - (k + 1), by omega, k + 1, rfl, by omega, rfl, .inr ⟨by omega, hne, ?_⟩⟩
        rw [e]
        exact h1.trim 5
  · refine ifF (by simp; omega) ?_
    obtain rfl : k = 3 := by omega
    rcases hh with ⟨h, _⟩ | ⟨_, _, h1⟩
    · omega
    · exact hK best _ (h.r0 rfl (h1.sel1 4 rfl))

theorem rowU_len (l : List Int) : (rowU l).length ≤ 21 + 10 * l.length := by
  have := putU_len l.length
  have := bestU_len l
  unfold rowU
  rw [List.length_append]
  split
  · simp; omega
  · omega

theorem PutRow_spec (h : Hp S w0 w its) (j j' : Nat) {u u' : Thing} {b v : Sl} {bs l : List Int} (hj : its[j]? = some u) (hu : Hp.Reads u b 1 u8v bs) (hj' : its[j']? = some u') (hu' : Hp.Reads u' v 1 iv l) (hr : R64 l) (hl : l.length ≤ 1000000000000) (hb : bs.length ≤ 10000000000000) {K : Sl → World → Prop}
    (hK : ∀ s w', Hp S w0 w' (its ++ [tB s (bs ++ rowU l)]) → K s w') : c13 b v w K := by
  refine c13_of ?_
  unfold f13
  have hjl := (List.getElem?_eq_some_iff.1 hj').1
  refine c35_of ?_
  unfold f35
  refine fresh_spec h j hj hu (by omega) fun r w1 h => ?_
  refine row_spec h j' (by rw [List.getElem?_append_left hjl]; exact hj') hu' hr hl fun r2 w1 h => ?_
  have hrl := h.len (s := r) its.length (by rw [List.append_assoc, List.getElem?_append_right (Nat.le_refl _), Nat.sub_self]; rfl)
  have hr2 := h.len (s := r2) (its.length + 1) (by rw [List.getElem?_append_right (by simp)]; simp; rfl)
  have hrw := rowU_len l
  obtain ⟨inf, q1, q2, q3, q4⟩ := inf5
  refine h.appS its.length (its.length + 1) (s := r) (by rw [List.append_assoc, List.getElem?_append_right (Nat.le_refl _), Nat.sub_self]; rfl) (by rw [List.getElem?_append_right (by simp)]; simp; rfl) Hp.rdSl u8v_len und22 q1 q3 q2 rfl (by simp [Value.oneCell']) (by rw [q4]; omega) (by omega) fun s w1 h _ _ => ?_
  have e : (its ++ [tB r bs] ++ [tB r2 (rowU l)]).set its.length (tB s (bs ++ rowU l)) = its ++ [tB s (bs ++ rowU l)] ++ [tB r2 (rowU l)] := by
    rw [List.append_assoc, List.set_append_right _ _ (Nat.le_refl _), Nat.sub_self]; simp
  rw [e] at h
  exact hK s w1 h.front
end
end Go.Proofs.Ytbmpgjheiknjlaa.F
