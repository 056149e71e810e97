/-
  Steps of a loop over a function, with things in memory.
-/
import Derived.Test.YtmbbfaigbhnhcaaDenK
set_option linter.unusedSimpArgs false
set_option linter.unusedVariables false
namespace Go.Den
open Go.RowKit

/-- Memory is this large, or larger. -/
def tMin (n : Nat) : Thing :=
  { holds := fun w O => O = [] ∧ n ≤ w.heap.size
    fr := fun h hf _ => ⟨h.1, Nat.le_trans h.2 hf.size⟩
    lt := fun h j hj => by rw [h.1] at hj; simp at hj }

namespace Hp
variable {S : List Nat} {w0 w : World} {its : List Thing}

/-- The two blocks that a loop makes. -/
theorem enter (h : Hp S w0 w its) {W : World} (hg : Grw w W) (hs : W.heap.size = w.heap.size + 2) : Hp S w0 W (its ++ [tAny w.heap.size, tAny (w.heap.size + 1)]) := by
  have h1 := h.grow (w' := W) (t := tStar (tAny w.heap.size) (tAny (w.heap.size + 1))) (O := [w.heap.size, w.heap.size + 1]) hg.fr
    (tStar_iff.2 ⟨[w.heap.size], [w.heap.size + 1], ⟨rfl, by omega⟩, ⟨rfl, by omega⟩, by simp, by simp⟩) (by simp) rfl
  have h2 := h1.split (i := its.length) (a := tAny w.heap.size) (b := tAny (w.heap.size + 1)) (by simp) rfl rfl
  have e : (its ++ [tStar (tAny w.heap.size) (tAny (w.heap.size + 1))]).set its.length (tAny w.heap.size) ++ [tAny (w.heap.size + 1)] = its ++ [tAny w.heap.size, tAny (w.heap.size + 1)] := by
    rw [List.set_append_right _ _ (Nat.le_refl _)]; simp
  rwa [e] at h2
theorem pinAs (h : Hp S w0 w its) {l : Nat} {o : Obj} (i : Nat) (hi : its[i]? = some (tAny l)) (ho : w.heap[l]? = some o) : Hp S w0 w (its.set i (tObj l o)) := by
  obtain ⟨o', h1, h2⟩ := h.pin i hi
  rw [ho] at h1
  injection h1 with h1
  rwa [h1]
theorem obj (h : Hp S w0 w its) {l : Nat} {o : Obj} (i : Nat) (hi : its[i]? = some (tObj l o)) : w.heap[l]? = some o := by
  obtain ⟨O, hO⟩ := h.see hi
  exact hO.2
theorem min (h : Hp S w0 w its) : Hp S w0 w (its ++ [tMin w.heap.size]) := h.grow (O := []) (Fr.refl _ _) ⟨rfl, Nat.le_refl _⟩ (by simp) rfl
theorem size (h : Hp S w0 w its) {n : Nat} (i : Nat) (hi : its[i]? = some (tMin n)) : n ≤ w.heap.size := by
  obtain ⟨O, hO⟩ := h.see hi
  exact hO.2
theorem endM (h : Hp S w0 w its) {D : Nat} (i : Nat) (hi : its[i]? = some (tObj D (.deferred (some [])))) {K : World → Prop} (hK : ∀ w', Hp S w0 w' (its.set i (tAny D)) → K w') : EndM [D] w K := by
  obtain ⟨h1, h2⟩ := h.unpin i hi
  have hlt : i < its.length := (List.getElem?_eq_some_iff.1 hi).1
  refine ⟨h1, hK _ (h2.anyStep (l := D) i (by rw [List.getElem?_set_self hlt]) (Trn.put D w _))⟩
end Hp
end Go.Den
