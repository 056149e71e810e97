/-
  Two or three blocks that may be made at any place.
-/
import Derived.Test.YtbmpgjheiknjlaaDenY
set_option linter.unusedSimpArgs false
set_option linter.unusedVariables false
namespace Go.Den
open Go.RowKit

theorem FlN_of {objs : List Obj} {K : List (Option Addr) → World → Prop} {P : List (Option Addr) → World → Prop} (hK : ∀ ys w, P ys w → K ys w)
    (hs : ∀ ys w q o, P ys w → objs[q]? = some o → ys[q]? = some none → P (ys.set q (some ⟨w.heap.size, 0, none⟩)) (w.alloc o)) : ∀ n ys w, P ys w → FlN objs K n ys w
  | 0, ys, w, h => hK ys w h
  | n + 1, ys, w, h => ⟨hK ys w h, fun q o ho hy => FlN_of hK hs n _ _ (hs ys w q o h ho hy)⟩

namespace Hp
variable {S : List Nat} {w0 w : World} {its : List Thing}

theorem mkOpt (h : Hp S w0 w its) {i : Nat} {e : TypeId} {c : List Value} (hi : its[i]? = some (tOpt none e c)) : Hp S w0 (w.alloc (.cells c.toArray e)) (its.set i (tOpt (some ⟨w.heap.size, 0, none⟩) e c)) := by
  obtain ⟨O, hO, back⟩ := h.step hi rfl
  rcases hO with ⟨_, rfl⟩ | ⟨b, hb, _⟩
  · exact back (t' := tOpt (some ⟨w.heap.size, 0, none⟩) e c) (O' := [w.heap.size]) (Fr.alloc w _) (.inr ⟨_, rfl, Blk.alloc w c e, rfl⟩) (by simp) rfl
  · cases hb

theorem fls2 (h : Hp S w0 w its) (i j : Nat) (hij : i ≠ j) {y1 y2 : Option Addr} {e1 e2 : TypeId} {c1 c2 : List Value} {K : Option Addr → Option Addr → World → Prop} (hi : its[i]? = some (tOpt y1 e1 c1)) (hj : its[j]? = some (tOpt y2 e2 c2))
    (hK : ∀ y1' y2' w', Hp S w0 w' ((its.set i (tOpt y1' e1 c1)).set j (tOpt y2' e2 c2)) → K y1' y2' w') : FlS [(.cells c1.toArray e1, y1), (.cells c2.toArray e2, y2)] w K := by
  have li := (List.getElem?_eq_some_iff.1 hi).1
  have lj := (List.getElem?_eq_some_iff.1 hj).1
  refine FlN_of (P := fun ys w' => ∃ y1 y2, ys = [y1, y2] ∧ Hp S w0 w' ((its.set i (tOpt y1 e1 c1)).set j (tOpt y2 e2 c2))) ?_ ?_ _ _ _ ⟨y1, y2, rfl, by rw [set_same hi, set_same hj]; exact h⟩
  · rintro ys w' ⟨y1, y2, rfl, h⟩
    exact hK y1 y2 w' h
  · rintro ys w' q o ⟨y1, y2, rfl, h⟩ ho hy
    match q, ho, hy with
    | 0, ho, hy =>
      simp only [List.map_cons, List.getElem?_cons_zero, Option.some.injEq] at ho hy
      subst ho; subst hy
      refine ⟨_, y2, rfl, ?_⟩
      have h2 := h.mkOpt (i := i) (e := e1) (c := c1) (by rw [List.getElem?_set_ne (Ne.symm hij)]; simp [li])
      rw [List.set_comm _ _ (Ne.symm hij), List.set_set] at h2
      exact h2
    | 1, ho, hy =>
      simp only [List.map_cons, List.getElem?_cons_zero, List.getElem?_cons_succ, Option.some.injEq] at ho hy
      subst ho; subst hy
      refine ⟨y1, _, rfl, ?_⟩
      have h2 := h.mkOpt (i := j) (e := e2) (c := c2) (by simp [lj])
      rw [List.set_set] at h2
      exact h2
    | q + 2, ho, hy => simp at hy

theorem fls3 (h : Hp S w0 w its) (i j k : Nat) (hij : i ≠ j) (hik : i ≠ k) (hjk : j ≠ k) {y1 y2 y3 : Option Addr} {e1 e2 e3 : TypeId} {c1 c2 c3 : List Value} {K : Option Addr → Option Addr → Option Addr → World → Prop} (hi : its[i]? = some (tOpt y1 e1 c1)) (hj : its[j]? = some (tOpt y2 e2 c2)) (hk : its[k]? = some (tOpt y3 e3 c3))
    (hK : ∀ y1' y2' y3' w', Hp S w0 w' (((its.set i (tOpt y1' e1 c1)).set j (tOpt y2' e2 c2)).set k (tOpt y3' e3 c3)) → K y1' y2' y3' w') : FlS [(.cells c1.toArray e1, y1), (.cells c2.toArray e2, y2), (.cells c3.toArray e3, y3)] w K := by
  have li := (List.getElem?_eq_some_iff.1 hi).1
  have lj := (List.getElem?_eq_some_iff.1 hj).1
  have lk := (List.getElem?_eq_some_iff.1 hk).1
  refine FlN_of (P := fun ys w' => ∃ y1 y2 y3, ys = [y1, y2, y3] ∧ Hp S w0 w' (((its.set i (tOpt y1 e1 c1)).set j (tOpt y2 e2 c2)).set k (tOpt y3 e3 c3))) ?_ ?_ _ _ _ ⟨y1, y2, y3, rfl, by rw [set_same hi, set_same hj, set_same hk]; exact h⟩
  · rintro ys w' ⟨y1, y2, y3, rfl, h⟩
    exact hK y1 y2 y3 w' h
  · rintro ys w' q o ⟨y1, y2, y3, rfl, h⟩ ho hy
    match q, ho, hy with
    | 0, ho, hy =>
      simp only [List.map_cons, List.getElem?_cons_zero, Option.some.injEq] at ho hy
      subst ho; subst hy
      refine ⟨_, y2, y3, rfl, ?_⟩
      have h2 := h.mkOpt (i := i) (e := e1) (c := c1) (by rw [List.getElem?_set_ne (Ne.symm hik), List.getElem?_set_ne (Ne.symm hij)]; simp [li])
      rw [List.set_comm _ _ (Ne.symm hik), List.set_comm _ _ (Ne.symm hij), List.set_set] at h2
      exact h2
    | 1, ho, hy =>
      simp only [List.map_cons, List.getElem?_cons_zero, List.getElem?_cons_succ, Option.some.injEq] at ho hy
      subst ho; subst hy
      refine ⟨y1, _, y3, rfl, ?_⟩
      have h2 := h.mkOpt (i := j) (e := e2) (c := c2) (by rw [List.getElem?_set_ne (Ne.symm hjk)]; simp [lj])
      rw [List.set_comm _ _ (Ne.symm hjk), List.set_set] at h2
      exact h2
    | 2, ho, hy =>
      simp only [List.map_cons, List.getElem?_cons_zero, List.getElem?_cons_succ, Option.some.injEq] at ho hy
      subst ho; subst hy
      refine ⟨y1, y2, _, rfl, ?_⟩
      have h2 := h.mkOpt (i := k) (e := e3) (c := c3) (by simp [lk])
      rw [List.set_set] at h2
      exact h2
    | q + 3, ho, hy => simp at hy
end Hp
end Go.Den
