/-
  Things for loops over functions: blocks of which nothing is said; and a slice of zeros that is appended to nil.
-/
import Derived.Test.YtmbbfaigbhnhcaaDenJ
import Derived.Test.YtmbbfaigbhnhcaaDenM
import Derived.Lib.AppendZeros
set_option linter.unusedSimpArgs false
set_option linter.unusedVariables false
namespace Go.Den
open Go.RowKit

theorem Grw.fr {w w' : World} (h : Grw w w') : Fr [] w w' := ⟨h.os, h.tape, h.output, h.size, fun k hk _ => h.block k hk⟩
theorem Grw.of {w w' : World} (h : Fr [] w w') : Grw w w' := ⟨h.os, h.tape, h.output, h.size, fun k hk => h.block k hk (by simp)⟩
theorem Trn.fr {l : Nat} {w w' : World} (h : Trn l w w') : Fr [l] w w' := ⟨h.os, h.tape, h.output, h.size, fun k hk hn => h.block k hk (by simpa using hn)⟩

/-- A block, whatever it holds. -/
def tAny (k : Nat) : Thing :=
  { holds := fun w O => O = [k] ∧ k < w.heap.size
    fr := fun h hf _ => ⟨h.1, Nat.lt_of_lt_of_le h.2 hf.size⟩
    lt := fun h j hj => by rw [h.1] at hj; simp only [List.mem_singleton] at hj; subst hj; exact h.2 }
/-- A block that holds this object. -/
def tObj (k : Nat) (o : Obj) : Thing :=
  { holds := fun w O => O = [k] ∧ w.heap[k]? = some o
    fr := fun {S w w' O} h hf hn => by
      have hlt := (Array.getElem?_eq_some_iff.1 h.2).1
      exact ⟨h.1, (hf.block k hlt (hn k (by rw [h.1]; simp))).trans h.2⟩
    lt := fun h j hj => by rw [h.1] at hj; simp only [List.mem_singleton] at hj; subst hj; exact (Array.getElem?_eq_some_iff.1 h.2).1 }

namespace Hp
variable {S : List Nat} {w0 w : World} {its : List Thing}

theorem anyStep (h : Hp S w0 w its) {w' : World} {l : Nat} (i : Nat) (hi : its[i]? = some (tAny l)) (ht : Trn l w w') : Hp S w0 w' its := by
  obtain ⟨O, ⟨rfl, hlt⟩, back⟩ := h.step hi rfl
  have := back (t' := tAny l) (O' := [l]) ht.fr ⟨rfl, Nat.lt_of_lt_of_le hlt ht.size⟩ (fun k hk => .inl hk) rfl
  rwa [set_same hi] at this
theorem pin (h : Hp S w0 w its) {l : Nat} (i : Nat) (hi : its[i]? = some (tAny l)) : ∃ o, w.heap[l]? = some o ∧ Hp S w0 w (its.set i (tObj l o)) := by
  obtain ⟨O, ⟨rfl, hlt⟩, back⟩ := h.step hi rfl
  refine ⟨w.heap[l], by simp [hlt], back (t' := tObj l w.heap[l]) (O' := [l]) (Fr.refl _ _) ⟨rfl, by simp [hlt]⟩ (fun k hk => .inl hk) rfl⟩
theorem unpin (h : Hp S w0 w its) {l : Nat} {o : Obj} (i : Nat) (hi : its[i]? = some (tObj l o)) : w.heap[l]? = some o ∧ Hp S w0 w (its.set i (tAny l)) := by
  obtain ⟨O, hO⟩ := h.see hi
  exact ⟨hO.2, h.weak hi rfl (fun w O hO => ⟨hO.1, (Array.getElem?_eq_some_iff.1 hO.2).1⟩) rfl⟩

theorem dropMid {mid : List Thing} {t : Thing} (h : Hp S w0 w (its ++ mid ++ [t])) : Hp S w0 w (its ++ [t]) := by
  refine h.sel (List.range its.length ++ [its.length + mid.length]) ?_ (by simp) (fun n j hn => ?_)
  · rw [List.nodup_append]
    refine ⟨List.nodup_range, by simp, fun a ha b hb => ?_⟩
    simp only [List.mem_range, List.mem_singleton] at ha hb
    omega
  · by_cases hlt : n < its.length
    · rw [List.getElem?_append_left (by simpa using hlt)] at hn
      rw [List.getElem?_range hlt] at hn
      simp only [Option.some.injEq] at hn
      subst hn
      rw [List.append_assoc, List.getElem?_append_left hlt, List.getElem?_append_left hlt]
    · rw [List.getElem?_append_right (by simpa using hlt)] at hn
      have hz : n - (List.range its.length).length = 0 := by
        rcases Nat.eq_zero_or_pos (n - (List.range its.length).length) with h | h
        · exact h
        · rw [List.getElem?_eq_none (by simp only [List.length_cons, List.length_nil]; omega)] at hn; cases hn
      rw [hz] at hn
      simp only [List.getElem?_cons_zero, Option.some.injEq] at hn
      subst hn
      simp only [List.length_range] at hz
      have hn : n = its.length := by omega
      subst hn
      rw [List.getElem?_append_right (by simp), List.getElem?_append_right (by omega)]
      simp

/-- append(nil, make([]T, n)...). -/
theorem mkz {α : Type} {f : α → List Value} {m : Nat} {e : TypeId} {P : Program} (h : Hp S w0 w its) {t tn ty : TypeId} {inf : TypeInfo} {z : Value} {kn : IntKind} {n : Nat} {x0 : α} {v : Value} {K : Sl → World → Prop} (hf : ∀ x, (f x).length = m)
    (ht : P.underlying t = some (.slice e)) (htn : P.underlying tn = some (.int kn)) (hinf : P.info? e = some inf) (hsz : inf.size = m) (hm : 0 < m) (hz : inf.zero = some z) (hzc : z.cells = #[v]) (hx : f x0 = [v]) (h0 : 0 < n) (hb : n * inf.bytes ≤ 140737488355328) (hn : n ≤ 140737488355328)
    (hK : ∀ s w', Hp S w0 w' (its ++ [tSl s e m f (List.replicate n x0)]) → s.len = n → s.a ≠ none → K s w') : Run .sl P (Builtin.append_ #[t, tn] ty #[.slice none 0 0, .int .i64 (n : Int)]) w K := by
  have hr := Go.Lib.run_append_nil_zeros (P := P) w t tn ty e inf z .i64 kn ht htn hinf hz n h0 (by omega) (by omega) (by omega)
  have hrow : ∀ q, (List.replicate q x0).flatMap f = (Builtin.zeroCells z.cells q).toList := by
    intro q
    have e0 : (List.replicate q x0).flatMap f = List.replicate q v := by
      induction q with
      | zero => rfl
      | succ q ih => rw [List.replicate_succ, List.flatMap_cons, ih, hx]; rfl
    rw [e0, hzc]
    unfold Builtin.zeroCells
    apply List.ext_getElem?
    intro i
    simp [List.getElem?_replicate]
    split <;> simp_all [Nat.mod_one]
  refine ⟨⟨some ⟨w.heap.size, 0, none⟩, n, grownCap w n 0 e⟩, _, hr, hK _ _ ?_ rfl (by simp)⟩
  have hge := grownCap_ge w n 0 e
  refine h.grow (w' := w.drew.alloc _) (t := tSl ⟨some ⟨w.heap.size, 0, none⟩, n, grownCap w n 0 e⟩ e m f (List.replicate n x0)) (O := [w.heap.size]) ⟨rfl, rfl, rfl, by simp, fun k hk _ => Below.heap_alloc w.drew _ k hk⟩ ?_ (by simp) rfl
  have e1 : Builtin.zeroCells z.cells n ++ Builtin.zeroCells z.cells (grownCap w n 0 e - n) = ((List.replicate (grownCap w n 0 e) x0).flatMap f).toArray := by
    apply Array.ext'
    rw [Array.toList_append, ← hrow, ← hrow, ← List.flatMap_append, List.replicate_append_replicate]
    simp only
    congr 2
    omega
  refine ⟨by simp, .inr ⟨w.heap.size, 0, (List.replicate (grownCap w n 0 e) x0).flatMap f, rfl, rfl, ?_, hge, ?_, ?_⟩⟩
  · rw [e1]; exact Blk.alloc w.drew _ e
  · rw [fm_len hf, List.length_replicate]; simp
  · rw [List.drop_zero, fm_take hf, List.take_replicate, Nat.min_eq_left hge]
end Hp
end Go.Den
