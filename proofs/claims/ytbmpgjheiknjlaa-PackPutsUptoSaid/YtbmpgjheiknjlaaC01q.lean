/-
  Contracts of the document's own: a row is read in a form.
-/
import Derived.Test.YtbmpgjheiknjlaaC01g
set_option linter.unusedSimpArgs false
set_option linter.unusedVariables false
set_option maxRecDepth 100000
namespace Go.Proofs.Ytbmpgjheiknjlaa.F
open Go Go.Den Go.Proofs

/-- What a text of n numbers in a form has told up to here: X is put, so many runs are left, the rest of the bytes is cur1. -/
def Told (form n : Int) (cur : List Int) (X : List Int) (last runs : Int) (cur1 : List Int) : Prop :=
  ∀ l rest, cur = formU form l ++ rest → (l.length : Int) = n → R64 l →
    ((form = 0 ∨ form = 1) → runs = 0 ∧ ∃ k, X = l.take k ∧ k ≤ l.length ∧ cur1 = (if form = 0 then encZ (l.drop k) else encS last (l.drop k)) ++ rest) ∧
    (form = 2 → ∃ D T, runsL l = D ++ T ∧ X = expand D ∧ cur1 = T.flatMap encP ++ rest ∧ runs = T.length)

theorem Told.start {form n : Int} {cur : List Int} (hf : form = 0 ∨ form = 1) : Told form n cur [] 0 0 cur := by
  intro l rest hc hln hr
  refine ⟨fun _ => ⟨rfl, 0, rfl, by omega, ?_⟩, fun h => by omega⟩
  rw [hc]
  rcases hf with rfl | rfl <;> rfl

theorem expand_len_pos {T : List (Int × Int)} (h : ∀ y ∈ T, 1 ≤ y.1) : T.length ≤ (expand T).length := by
  induction T with
  | nil => simp
  | cons y T ih =>
    have h1 := h y (by simp)
    have h2 := ih (fun z hz => h z (by simp [hz]))
    simp only [expand, List.flatMap_cons, List.length_append, List.length_replicate, List.length_cons] at h2 ⊢
    omega

/-- All is told: nothing is left. -/
theorem Told.done {form n : Int} {cur X cur1 : List Int} {last runs : Int} (h : Told form n cur X last runs cur1) (hf : form = 0 ∨ form = 1 ∨ form = 2) (hend : n ≤ X.length ∨ (form = 2 ∧ runs ≤ 0)) {l rest : List Int} (hc : cur = formU form l ++ rest) (hln : (l.length : Int) = n) (hr : R64 l) : X = l ∧ cur1 = rest ∧ runs = 0 := by
  obtain ⟨g1, g2⟩ := h l rest hc hln hr
  by_cases hf2 : form = 2
  · obtain ⟨D, T, e1, e2, e3, e4⟩ := g2 hf2
    have hexp := expand_runsL l
    rw [e1] at hexp
    have hT : T = [] := by
      rcases hend with h | h
      · have hp := expand_len_pos (T := T) (fun y hy => (runT_mem none l y (by show y ∈ runsL l; rw [e1]; simp [hy])).1)
        have hl2 := congrArg List.length hexp
        simp only [expand, List.flatMap_append, List.length_append] at hl2 hp
        rw [e2] at h
        simp only [expand] at h
        exact List.eq_nil_of_length_eq_zero (by omega)
      · exact List.eq_nil_of_length_eq_zero (by omega)
    subst hT
    rw [List.append_nil] at hexp
    exact ⟨by rw [e2, hexp], by rw [e3]; rfl, by rw [e4]; rfl⟩
  · have hf' : form = 0 ∨ form = 1 := by
      rcases hf with h | h | h
      · exact .inl h
      · exact .inr h
      · exact absurd h hf2
    obtain ⟨e0, k, e1, e2, e3⟩ := g1 hf'
    have hXl : X.length = k := by rw [e1, List.length_take]; omega
    have hk : k = l.length := by
      rcases hend with h | h
      · omega
      · omega
    subst hk
    rw [List.take_length] at e1
    rw [List.drop_length] at e3
    refine ⟨e1, ?_, e0⟩
    rw [e3]
    rcases hf' with rfl | rfl <;> simp [encZ, encS]
end Go.Proofs.Ytbmpgjheiknjlaa.F
