/-
  Things in memory, kept apart from one another: what a walk holds, as one list; each step names the thing that it is about, and all others stay.
-/
import Derived.Test.YtmbbfaigbhnhcaaDenV
set_option linter.unusedSimpArgs false
set_option linter.unusedVariables false
namespace Go.Den
open Go.RowKit

/-- A thing in memory: what is said of the blocks that it has. -/
structure Thing where
  holds : World → List Nat → Prop
  fr : ∀ {S : List Nat} {w w' : World} {O : List Nat}, holds w O → Fr S w w' → (∀ k ∈ O, k ∉ S) → holds w' O
  lt : ∀ {w : World} {O : List Nat}, holds w O → ∀ k ∈ O, k < w.heap.size
  own : Bool := true

/-- The same, to be read only. -/
def Thing.ro (t : Thing) : Thing := { t with own := false }

/-- These things are there, apart from one another; what else there was at the start is as it was, but for the blocks of S. -/
structure Hp (S : List Nat) (w0 w : World) (its : List Thing) : Prop where
  fr : Fr S w0 w
  ex : ∃ F : Nat → List Nat, (∀ i t, its[i]? = some t → t.holds w (F i) ∧ (t.own = true → ∀ k ∈ F i, k ∈ S ∨ w0.heap.size ≤ k) ∧ (t.own = false → ∀ k ∈ F i, k ∉ S ∧ k < w0.heap.size)) ∧
    ∀ i j t u, its[i]? = some t → its[j]? = some u → i ≠ j → t.own = true → u.own = true → ∀ k ∈ F i, k ∉ F j

namespace Hp
variable {S : List Nat} {w0 w : World} {its : List Thing}

theorem init (w : World) : Hp S w w [] := ⟨Fr.refl _ _, fun _ => [], by simp, by simp⟩

/-- One thing more. -/
theorem grow (h : Hp S w0 w its) {w' : World} {t : Thing} {O : List Nat} (hf : Fr [] w w') (ht : t.holds w' O) (hO : ∀ k ∈ O, w.heap.size ≤ k) (ho : t.own = true) : Hp S w0 w' (its ++ [t]) := by
  obtain ⟨hfr, F, h1, h2⟩ := h
  have hs := hfr.size
  have key : ∀ i u, (its ++ [t])[i]? = some u → (i < its.length ∧ its[i]? = some u) ∨ (i = its.length ∧ u = t) := by
    intro i u hi
    by_cases hlt : i < its.length
    · rw [List.getElem?_append_left hlt] at hi; exact .inl ⟨hlt, hi⟩
    · rw [List.getElem?_append_right (by omega)] at hi
      have : i - its.length = 0 := by
        rcases Nat.eq_zero_or_pos (i - its.length) with h | h
        · exact h
        · rw [List.getElem?_eq_none (by simp; omega)] at hi; cases hi
      rw [this] at hi
      simp only [List.getElem?_cons_zero, Option.some.injEq] at hi
      exact .inr ⟨by omega, hi.symm⟩
  refine ⟨hfr.trans hf (by simp), fun i => if i = its.length then O else F i, ?_, ?_⟩
  · intro i u hi
    rcases key i u hi with ⟨hlt, hi'⟩ | ⟨rfl, rfl⟩
    · dsimp only
      rw [if_neg (by omega)]
      obtain ⟨g1, g2, g3⟩ := h1 i u hi'
      exact ⟨u.fr g1 hf (by simp), g2, g3⟩
    · dsimp only
      rw [if_pos rfl]
      exact ⟨ht, fun _ k hk => .inr (Nat.le_trans hs (hO k hk)), fun h => by rw [ho] at h; cases h⟩
  · intro i j u v hi hj hne hu hv k hk
    rcases key i u hi with ⟨hlt, hi'⟩ | ⟨rfl, rfl⟩
    · rcases key j v hj with ⟨hlt', hj'⟩ | ⟨rfl, rfl⟩
      · simp only [if_neg (show ¬ i = its.length by omega), if_neg (show ¬ j = its.length by omega)] at hk ⊢
        exact h2 i j u v hi' hj' hne hu hv k hk
      · simp only [if_neg (show ¬ i = its.length by omega), if_true] at hk ⊢
        intro hk'
        have := u.lt (h1 i u hi').1 k hk
        have := hO k hk'
        omega
    · rcases key j v hj with ⟨hlt', hj'⟩ | ⟨rfl, rfl⟩
      · simp only [if_neg (show ¬ j = its.length by omega), if_true] at hk ⊢
        intro hk'
        have := v.lt (h1 j v hj').1 k hk'
        have := hO k hk
        omega
      · exact absurd rfl hne

/-- Nothing that is held is touched. -/
theorem keep (h : Hp S w0 w its) {w' : World} (hf : Fr [] w w') : Hp S w0 w' its := by
  obtain ⟨hfr, F, h1, h2⟩ := h
  exact ⟨hfr.trans hf (by simp), F, fun i t hi => ⟨t.fr (h1 i t hi).1 hf (by simp), (h1 i t hi).2⟩, h2⟩

/-- One thing is changed. -/
theorem step (h : Hp S w0 w its) {i : Nat} {t : Thing} (hi : its[i]? = some t) (ho : t.own = true) :
    ∃ O, t.holds w O ∧ ∀ {w' : World} {t' : Thing} {O' : List Nat}, Fr O w w' → t'.holds w' O' → (∀ k ∈ O', k ∈ O ∨ w.heap.size ≤ k) → t'.own = true → Hp S w0 w' (its.set i t') := by
  obtain ⟨hfr, F, h1, h2⟩ := h
  obtain ⟨g1, g2, g3⟩ := h1 i t hi
  refine ⟨F i, g1, fun {w' t' O'} hf ht' hO' ho' => ?_⟩
  have hlt := (List.getElem?_eq_some_iff.1 hi).1
  have key : ∀ j u, (its.set i t')[j]? = some u → (j ≠ i ∧ its[j]? = some u) ∨ (j = i ∧ u = t') := by
    intro j u hj
    rw [List.getElem?_set] at hj
    split at hj
    · rename_i e
      simp only [if_pos hlt, Option.some.injEq] at hj
      exact .inr ⟨e.symm, hj.symm⟩
    · rename_i e; exact .inl ⟨fun h => e h.symm, hj⟩
  have hs := hfr.size
  have apart : ∀ j u, j ≠ i → its[j]? = some u → ∀ k ∈ F j, k ∉ F i := by
    intro j u hne hj k hk hki
    cases huo : u.own with
    | true => exact h2 j i u t hj hi hne huo ho k hk hki
    | false =>
      obtain ⟨_, q2, q3⟩ := h1 j u hj
      have q := q3 huo k hk
      rcases g2 ho k hki with h | h
      · exact q.1 h
      · omega
  refine ⟨hfr.trans hf (g2 ho), fun j => if j = i then O' else F j, ?_, ?_⟩
  · intro j u hj
    rcases key j u hj with ⟨hne, hjj⟩ | ⟨rfl, rfl⟩
    · dsimp only
      rw [if_neg hne]
      obtain ⟨q1, q2⟩ := h1 j u hjj
      exact ⟨u.fr q1 hf (apart j u hne hjj), q2⟩
    · dsimp only
      rw [if_pos rfl]
      refine ⟨ht', fun _ k hk => ?_, fun h => by rw [ho'] at h; cases h⟩
      rcases hO' k hk with h | h
      · exact g2 ho k h
      · exact .inr (Nat.le_trans hs h)
  · intro j j' u v hj hj' hne hu hv k hk
    rcases key j u hj with ⟨hn, hjj⟩ | ⟨rfl, rfl⟩
    · rcases key j' v hj' with ⟨hn', hjj'⟩ | ⟨rfl, rfl⟩
      · simp only [if_neg hn, if_neg hn'] at hk ⊢
        exact h2 j j' u v hjj hjj' hne hu hv k hk
      · simp only [if_neg hn, if_true] at hk ⊢
        intro hk'
        rcases hO' k hk' with h | h
        · exact apart j u hn hjj k hk h
        · have := u.lt (h1 j u hjj).1 k hk; omega
    · rcases key j' v hj' with ⟨hn', hjj'⟩ | ⟨rfl, rfl⟩
      · simp only [if_neg hn', if_true] at hk ⊢
        intro hk'
        rcases hO' k hk with h | h
        · exact apart j' v hn' hjj' k hk' h
        · have := v.lt (h1 j' v hjj').1 k hk'; omega
      · exact absurd rfl hne

/-- A thing is looked at. -/
theorem see (h : Hp S w0 w its) {i : Nat} {t : Thing} (hi : its[i]? = some t) : ∃ O, t.holds w O := by
  obtain ⟨hfr, F, h1, h2⟩ := h
  exact ⟨_, (h1 i t hi).1⟩

/-- Another word for a thing. -/
theorem weak (h : Hp S w0 w its) {i : Nat} {t : Thing} (hi : its[i]? = some t) (ho : t.own = true) {t' : Thing} (himp : ∀ w O, t.holds w O → t'.holds w O) (ho' : t'.own = true) : Hp S w0 w (its.set i t') := by
  obtain ⟨O, hO, back⟩ := h.step hi ho
  exact back (Fr.refl _ _) (himp _ _ hO) (fun k hk => .inl hk) ho'

/-- Something that was there at the start, to be read only. -/
theorem addRo (h : Hp S w0 w its) {t : Thing} {O : List Nat} (ht : t.holds w0 O) (hO : ∀ k ∈ O, k ∉ S) : Hp S w0 w (its ++ [t.ro]) := by
  obtain ⟨hfr, F, h1, h2⟩ := h
  have key : ∀ i u, (its ++ [t.ro])[i]? = some u → (i < its.length ∧ its[i]? = some u) ∨ (i = its.length ∧ u = t.ro) := by
    intro i u hi
    by_cases hlt : i < its.length
    · rw [List.getElem?_append_left hlt] at hi; exact .inl ⟨hlt, hi⟩
    · rw [List.getElem?_append_right (by omega)] at hi
      have : i - its.length = 0 := by
        rcases Nat.eq_zero_or_pos (i - its.length) with h | h
        · exact h
        · rw [List.getElem?_eq_none (by simp; omega)] at hi; cases hi
      rw [this] at hi
      simp only [List.getElem?_cons_zero, Option.some.injEq] at hi
      exact .inr ⟨by omega, hi.symm⟩
  refine ⟨hfr, fun i => if i = its.length then O else F i, ?_, ?_⟩
  · intro i u hi
    rcases key i u hi with ⟨hlt, hi'⟩ | ⟨rfl, rfl⟩
    · dsimp only
      rw [if_neg (by omega)]; exact h1 i u hi'
    · dsimp only
      rw [if_pos rfl]
      exact ⟨t.fr ht hfr hO, fun h => (by cases h), fun _ k hk => ⟨hO k hk, t.lt ht k hk⟩⟩
  · intro i j u v hi hj hne hu hv k hk
    rcases key i u hi with ⟨hlt, hi'⟩ | ⟨rfl, rfl⟩
    · rcases key j v hj with ⟨hlt', hj'⟩ | ⟨rfl, rfl⟩
      · simp only [if_neg (show ¬ i = its.length by omega), if_neg (show ¬ j = its.length by omega)] at hk ⊢
        exact h2 i j u v hi' hj' hne hu hv k hk
      · cases hv
    · cases hu

/-- Some of the things. -/
theorem sel (h : Hp S w0 w its) (js : List Nat) (hnd : js.Nodup) {ts : List Thing} (hl : ts.length = js.length) (hts : ∀ n j : Nat, js[n]? = some j → its[j]? = ts[n]?) : Hp S w0 w ts := by
  obtain ⟨hfr, F, h1, h2⟩ := h
  have key : ∀ (n : Nat) (t : Thing), ts[n]? = some t → ∃ j, js[n]? = some j ∧ its[j]? = some t := by
    intro n t hn
    have hlt := (List.getElem?_eq_some_iff.1 hn).1
    refine ⟨js[n], by simp [show n < js.length by omega], ?_⟩
    rw [hts n js[n] (by simp [show n < js.length by omega]), hn]
  refine ⟨hfr, fun n => F (js.getD n 0), ?_, ?_⟩
  · intro n t hn
    obtain ⟨j, hj, ht⟩ := key n t hn
    have e : js.getD n 0 = j := by simp [hj]
    simp only [e]
    exact h1 j t ht
  · intro n m t u hn hm hne ht hu
    obtain ⟨j, hj, hjt⟩ := key n t hn
    obtain ⟨j', hj', hjt'⟩ := key m u hm
    have e : js.getD n 0 = j := by simp [hj]
    have e' : js.getD m 0 = j' := by simp [hj']
    simp only [e, e']
    refine h2 j j' t u hjt hjt' ?_ ht hu
    intro he
    subst he
    exact hne ((List.getElem?_inj (by obtain ⟨h, _⟩ := List.getElem?_eq_some_iff.1 hj; exact h) hnd).1 (hj.trans hj'.symm))

theorem sel1 (h : Hp S w0 w its) (i : Nat) {t : Thing} (hi : its[i]? = some t) : Hp S w0 w [t] :=
  h.sel [i] (by simp) rfl (fun n j hn => by
    match n, hn with
    | 0, hn => simp only [List.getElem?_cons_zero, Option.some.injEq] at hn; subst hn; simpa using hi)
theorem sel2 (h : Hp S w0 w its) (i j : Nat) (hne : i ≠ j) {t u : Thing} (hi : its[i]? = some t) (hj : its[j]? = some u) : Hp S w0 w [t, u] :=
  h.sel [i, j] (by simp [hne]) rfl (fun n m hn => by
    match n, hn with
    | 0, hn => simp only [List.getElem?_cons_zero, Option.some.injEq] at hn; subst hn; simpa using hi
    | 1, hn => simp only [List.getElem?_cons_succ, List.getElem?_cons_zero, Option.some.injEq] at hn; subst hn; simpa using hj)
theorem sel3 (h : Hp S w0 w its) (i j k : Nat) (hne : [i, j, k].Nodup) {t u v : Thing} (hi : its[i]? = some t) (hj : its[j]? = some u) (hk : its[k]? = some v) : Hp S w0 w [t, u, v] :=
  h.sel [i, j, k] hne rfl (fun n m hn => by
    match n, hn with
    | 0, hn => simp only [List.getElem?_cons_zero, Option.some.injEq] at hn; subst hn; simpa using hi
    | 1, hn => simp only [List.getElem?_cons_succ, List.getElem?_cons_zero, Option.some.injEq] at hn; subst hn; simpa using hj
    | 2, hn => simp only [List.getElem?_cons_succ, List.getElem?_cons_zero, Option.some.injEq] at hn; subst hn; simpa using hk)
theorem sel4 (h : Hp S w0 w its) (i j k l : Nat) (hne : [i, j, k, l].Nodup) {t u v x : Thing} (hi : its[i]? = some t) (hj : its[j]? = some u) (hk : its[k]? = some v) (hl : its[l]? = some x) : Hp S w0 w [t, u, v, x] :=
  h.sel [i, j, k, l] hne rfl (fun n m hn => by
    match n, hn with
    | 0, hn => simp only [List.getElem?_cons_zero, Option.some.injEq] at hn; subst hn; simpa using hi
    | 1, hn => simp only [List.getElem?_cons_succ, List.getElem?_cons_zero, Option.some.injEq] at hn; subst hn; simpa using hj
    | 2, hn => simp only [List.getElem?_cons_succ, List.getElem?_cons_zero, Option.some.injEq] at hn; subst hn; simpa using hk
    | 3, hn => simp only [List.getElem?_cons_succ, List.getElem?_cons_zero, Option.some.injEq] at hn; subst hn; simpa using hl)

theorem sel5 (h : Hp S w0 w its) (i j k l m : Nat) (hne : [i, j, k, l, m].Nodup) {t u v x y : Thing} (hi : its[i]? = some t) (hj : its[j]? = some u) (hk : its[k]? = some v) (hl : its[l]? = some x) (hm : its[m]? = some y) : Hp S w0 w [t, u, v, x, y] :=
  h.sel [i, j, k, l, m] hne rfl (fun n m hn => by
    match n, hn with
    | 0, hn => simp only [List.getElem?_cons_zero, Option.some.injEq] at hn; subst hn; simpa using hi
    | 1, hn => simp only [List.getElem?_cons_succ, List.getElem?_cons_zero, Option.some.injEq] at hn; subst hn; simpa using hj
    | 2, hn => simp only [List.getElem?_cons_succ, List.getElem?_cons_zero, Option.some.injEq] at hn; subst hn; simpa using hk
    | 3, hn => simp only [List.getElem?_cons_succ, List.getElem?_cons_zero, Option.some.injEq] at hn; subst hn; simpa using hl
    | 4, hn => simp only [List.getElem?_cons_succ, List.getElem?_cons_zero, Option.some.injEq] at hn; subst hn; simpa using hm)
theorem sel6 (h : Hp S w0 w its) (i j k l m o : Nat) (hne : [i, j, k, l, m, o].Nodup) {t u v x y z : Thing} (hi : its[i]? = some t) (hj : its[j]? = some u) (hk : its[k]? = some v) (hl : its[l]? = some x) (hm : its[m]? = some y) (ho : its[o]? = some z) : Hp S w0 w [t, u, v, x, y, z] :=
  h.sel [i, j, k, l, m, o] hne rfl (fun n m hn => by
    match n, hn with
    | 0, hn => simp only [List.getElem?_cons_zero, Option.some.injEq] at hn; subst hn; simpa using hi
    | 1, hn => simp only [List.getElem?_cons_succ, List.getElem?_cons_zero, Option.some.injEq] at hn; subst hn; simpa using hj
    | 2, hn => simp only [List.getElem?_cons_succ, List.getElem?_cons_zero, Option.some.injEq] at hn; subst hn; simpa using hk
    | 3, hn => simp only [List.getElem?_cons_succ, List.getElem?_cons_zero, Option.some.injEq] at hn; subst hn; simpa using hl
    | 4, hn => simp only [List.getElem?_cons_succ, List.getElem?_cons_zero, Option.some.injEq] at hn; subst hn; simpa using hm
    | 5, hn => simp only [List.getElem?_cons_succ, List.getElem?_cons_zero, Option.some.injEq] at hn; subst hn; simpa using ho)

/-- The first things. -/
theorem front {a b : List Thing} (h : Hp S w0 w (a ++ b)) : Hp S w0 w a := by
  obtain ⟨hfr, F, h1, h2⟩ := h
  have key : ∀ (i : Nat) (t : Thing), a[i]? = some t → (a ++ b)[i]? = some t := fun i t hi => by
    rw [List.getElem?_append_left (List.getElem?_eq_some_iff.1 hi).1]; exact hi
  exact ⟨hfr, F, fun i t hi => h1 i t (key i t hi), fun i j t u hi hj => h2 i j t u (key i t hi) (key j u hj)⟩

/-! ### Frames -/

def setL (its : List Thing) : List Nat → List Thing → List Thing
  | i :: is, t :: ts => setL (its.set i t) is ts
  | _, _ => its

theorem setL_length : ∀ (is : List Nat) (ts its : List Thing), (setL its is ts).length = its.length
  | [], _, _ => by simp [setL]
  | i :: is, [], _ => by simp [setL]
  | i :: is, t :: ts, its => by simp [setL, setL_length is ts]

theorem setL_other : ∀ (is : List Nat) (ts its : List Thing) (j : Nat), j ∉ is → (setL its is ts)[j]? = its[j]?
  | [], _, _, _, _ => by simp [setL]
  | i :: is, [], _, _, _ => by simp [setL]
  | i :: is, t :: ts, its, j, h => by
    simp only [List.mem_cons, not_or] at h
    rw [setL, setL_other is ts _ j h.2, List.getElem?_set_ne (fun e => h.1 e.symm)]

theorem setL_at : ∀ (is : List Nat) (ts its : List Thing) (n j : Nat), is.Nodup → is[n]? = some j → j < its.length → n < ts.length → (setL its is ts)[j]? = ts[n]?
  | [], _, _, _, _, _, h, _, _ => by simp at h
  | i :: is, [], _, n, _, _, _, _, h => by simp at h
  | i :: is, t :: ts, its, n, j, hnd, hn, hj, hl => by
    obtain ⟨h1, h2⟩ := List.nodup_cons.1 hnd
    cases n with
    | zero =>
      simp only [List.getElem?_cons_zero, Option.some.injEq] at hn
      subst hn
      rw [setL, setL_other is ts _ i h1]
      simp [hj]
    | succ n =>
      simp only [List.getElem?_cons_succ] at hn ⊢
      rw [setL]
      exact setL_at is ts _ n j h2 hn (by simpa using hj) (by simpa using hl)

/-- What is done with some of the things, and what is read of others, is done beside the rest. -/
theorem frame (h : Hp S w0 w its) (is js : List Nat) (hnd : is.Nodup) (hdis : ∀ i ∈ is, i ∉ js) {ts us : List Thing} (hl : ts.length = is.length) (hl' : us.length = js.length)
    (hts : ∀ n i : Nat, is[n]? = some i → its[i]? = ts[n]?) (hus : ∀ n i : Nat, js[n]? = some i → its[i]? = us[n]?) (hown : ∀ t ∈ ts, t.own = true) :
    ∃ O, Hp O w w (ts ++ us.map Thing.ro) ∧ ∀ {w' : World} {ts' rest : List Thing}, ts'.length = ts.length → (∀ t ∈ ts', t.own = true) → (∀ t ∈ rest, t.own = true) → Hp O w w' (ts' ++ rest) → Hp S w0 w' (setL its is ts' ++ rest) := by
  obtain ⟨hfr, F, h1, h2⟩ := h
  have hs := hfr.size
  have key : ∀ (n : Nat) (t : Thing), ts[n]? = some t → ∃ j, is[n]? = some j ∧ its[j]? = some t := by
    intro n t hn
    have hlt := (List.getElem?_eq_some_iff.1 hn).1
    refine ⟨is[n], by simp [show n < is.length by omega], ?_⟩
    rw [hts n is[n] (by simp [show n < is.length by omega]), hn]
  have key' : ∀ (n : Nat) (t : Thing), us[n]? = some t → ∃ j, js[n]? = some j ∧ its[j]? = some t := by
    intro n t hn
    have hlt := (List.getElem?_eq_some_iff.1 hn).1
    refine ⟨js[n], by simp [show n < js.length by omega], ?_⟩
    rw [hus n js[n] (by simp [show n < js.length by omega]), hn]
  have hisown : ∀ i ∈ is, ∃ t, its[i]? = some t ∧ t.own = true := by
    intro i hi
    obtain ⟨n, hn⟩ := List.getElem?_of_mem hi
    have hlt := (List.getElem?_eq_some_iff.1 hn).1
    have hnt : ts[n]? = some ts[n] := by simp [show n < ts.length by omega]
    exact ⟨ts[n], (hts n i hn).trans hnt, hown _ (by simp)⟩
  have hO : ∀ k, k ∈ is.flatMap F ↔ ∃ i ∈ is, k ∈ F i := fun k => List.mem_flatMap
  -- who is not among them has other blocks
  have apart : ∀ j u, its[j]? = some u → j ∉ is → ∀ k ∈ F j, k ∉ is.flatMap F := by
    intro j u hj hji k hk hkO
    obtain ⟨i, hi, hki⟩ := (hO k).1 hkO
    obtain ⟨t, ht, hto⟩ := hisown i hi
    have hne : j ≠ i := fun e => hji (e ▸ hi)
    cases huo : u.own with
    | true => exact h2 j i u t hj ht hne huo hto k hk hki
    | false =>
      have q := (h1 j u hj).2.2 huo k hk
      rcases (h1 i t ht).2.1 hto k hki with h | h
      · exact q.1 h
      · omega
  refine ⟨is.flatMap F, ⟨Fr.refl _ _, fun n => if n < ts.length then F (is.getD n 0) else F (js.getD (n - ts.length) 0), ?_, ?_⟩, ?_⟩
  · intro n t hn
    by_cases hlt : n < ts.length
    · rw [List.getElem?_append_left hlt] at hn
      obtain ⟨j, hj, ht⟩ := key n t hn
      have e : is.getD n 0 = j := by simp [hj]
      simp only [if_pos hlt, e]
      refine ⟨(h1 j t ht).1, fun _ k hk => .inl ((hO k).2 ⟨j, List.mem_of_getElem? hj, hk⟩), fun ho => ?_⟩
      rw [hown t (List.mem_of_getElem? hn)] at ho; cases ho
    · rw [List.getElem?_append_right (by omega), List.getElem?_map, Option.map_eq_some_iff] at hn
      obtain ⟨u, hu, rfl⟩ := hn
      obtain ⟨j, hj, ht⟩ := key' _ u hu
      have e : js.getD (n - ts.length) 0 = j := by simp [hj]
      simp only [if_neg hlt, e]
      refine ⟨(h1 j u ht).1, fun h => (by cases h), fun _ k hk => ⟨apart j u ht (fun hm => hdis j hm (List.mem_of_getElem? hj)) k hk, u.lt (h1 j u ht).1 k hk⟩⟩
  · intro n m t u hn hm hne ht hu k hk
    have low : ∀ n t, (ts ++ us.map Thing.ro)[n]? = some t → t.own = true → n < ts.length := by
      intro n t hn ht
      refine Nat.lt_of_not_le fun hge => ?_
      rw [List.getElem?_append_right hge, List.getElem?_map, Option.map_eq_some_iff] at hn
      obtain ⟨u, hu, rfl⟩ := hn
      cases ht
    have ln := low n t hn ht
    have lm := low m u hm hu
    rw [List.getElem?_append_left ln] at hn
    rw [List.getElem?_append_left lm] at hm
    obtain ⟨j, hj, hjt⟩ := key n t hn
    obtain ⟨j', hj', hjt'⟩ := key m u hm
    have e : is.getD n 0 = j := by simp [hj]
    have e' : is.getD m 0 = j' := by simp [hj']
    simp only [if_pos ln, if_pos lm, e, e'] at hk ⊢
    refine h2 j j' t u hjt hjt' ?_ ht hu k hk
    intro he
    subst he
    exact hne ((List.getElem?_inj (by obtain ⟨h, _⟩ := List.getElem?_eq_some_iff.1 hj; exact h) hnd).1 (hj.trans hj'.symm))
  · intro w' ts' rest hlen hown' hrest hp
    obtain ⟨pfr, G, p1, p2⟩ := hp
    -- the things of the rest of the world
    have hnl : ∀ n, n < ts.length → ∃ j t, is[n]? = some j ∧ ts'[n]? = some t := fun n hn =>
      ⟨is[n], ts'[n], by simp [show n < is.length by omega], by simp [show n < ts'.length by omega]⟩
    let idx : Nat → Nat := fun j => is.idxOf j
    have hidx : ∀ j ∈ is, is[is.idxOf j]? = some j := fun j hj => by
      have := List.idxOf_lt_length_iff.2 hj
      simp [this]
    have hlenL := setL_length is ts' its
    let G' : Nat → List Nat := fun j => if j < its.length then (if j ∈ is then G (is.idxOf j) else F j) else G (ts'.length + (j - its.length))
    have cls : ∀ j u, (setL its is ts' ++ rest)[j]? = some u → (j < its.length ∧ j ∈ is ∧ u.own = true ∧ u.holds w' (G (is.idxOf j)) ∧ (∀ k ∈ G (is.idxOf j), k ∈ is.flatMap F ∨ w.heap.size ≤ k) ∧ (ts' ++ rest)[is.idxOf j]? = some u) ∨
        (j < its.length ∧ j ∉ is ∧ its[j]? = some u) ∨ (its.length ≤ j ∧ u.own = true ∧ (ts' ++ rest)[ts'.length + (j - its.length)]? = some u) := by
      intro j u hj
      by_cases hlt : j < its.length
      · rw [List.getElem?_append_left (by omega)] at hj
        by_cases hm : j ∈ is
        · refine .inl ⟨hlt, hm, ?_⟩
          have hi := hidx j hm
          have hil : is.idxOf j < ts'.length := by have := List.idxOf_lt_length_iff.2 hm; omega
          rw [setL_at is ts' its _ j hnd hi hlt hil] at hj
          have hj2 : (ts' ++ rest)[is.idxOf j]? = some u := by
            rw [List.getElem?_append_left hil]; exact hj
          have hu := hown' u (List.mem_of_getElem? hj)
          obtain ⟨q1, q2, _⟩ := p1 _ u hj2
          exact ⟨hu, q1, q2 hu, hj2⟩
        · rw [setL_other is ts' its j hm] at hj
          exact .inr (.inl ⟨hlt, hm, hj⟩)
      · rw [List.getElem?_append_right (by omega), hlenL] at hj
        refine .inr (.inr ⟨by omega, hrest u (List.mem_of_getElem? hj), ?_⟩)
        rw [List.getElem?_append_right (by omega), Nat.add_sub_cancel_left]
        exact hj
    have hout : ∀ k, k ∈ is.flatMap F → k ∈ S ∨ w0.heap.size ≤ k := by
      intro k hk
      obtain ⟨i, hi, hki⟩ := (hO k).1 hk
      obtain ⟨t, ht, hto⟩ := hisown i hi
      exact (h1 i t ht).2.1 hto k hki
    refine ⟨hfr.trans pfr hout, G', ?_, ?_⟩
    · intro j u hj
      rcases cls j u hj with ⟨hlt, hm, hu, q1, q2, _⟩ | ⟨hlt, hm, hj'⟩ | ⟨hge, hu, hj'⟩
      · have e : G' j = G (is.idxOf j) := by simp only [G', if_pos hlt, if_pos hm]
        rw [e]
        refine ⟨q1, fun _ k hk => ?_, fun h => by rw [hu] at h; cases h⟩
        rcases q2 k hk with h | h
        · exact hout k h
        · exact .inr (Nat.le_trans hs h)
      · have e : G' j = F j := by simp only [G', if_pos hlt, if_neg hm]
        rw [e]
        obtain ⟨q1, q2⟩ := h1 j u hj'
        exact ⟨u.fr q1 pfr (apart j u hj' hm), q2⟩
      · have e : G' j = G (ts'.length + (j - its.length)) := by simp only [G', if_neg (show ¬ j < its.length by omega)]
        rw [e]
        obtain ⟨q1, q2, _⟩ := p1 _ u hj'
        refine ⟨q1, fun _ k hk => ?_, fun h => by rw [hu] at h; cases h⟩
        rcases q2 hu k hk with h | h
        · exact hout k h
        · exact .inr (Nat.le_trans hs h)
    · intro i j t u hi hj hne ht hu k hk hk'
      rcases cls i t hi with ⟨hlt, hm, hto, q1, q2, q3⟩ | ⟨hlt, hm, hi'⟩ | ⟨hge, hto, hi'⟩
      · have e : G' i = G (is.idxOf i) := by simp only [G', if_pos hlt, if_pos hm]
        rw [e] at hk
        rcases cls j u hj with ⟨hlt', hm', huo, r1, r2, r3⟩ | ⟨hlt', hm', hj'⟩ | ⟨hge', huo, hj'⟩
        · have e' : G' j = G (is.idxOf j) := by simp only [G', if_pos hlt', if_pos hm']
          rw [e'] at hk'
          refine p2 _ _ t u q3 r3 ?_ ht hu k hk hk'
          intro he
          have a1 := hidx i hm
          have a2 := hidx j hm'
          rw [he] at a1
          exact hne (Option.some.inj (a1.symm.trans a2))
        · have e' : G' j = F j := by simp only [G', if_pos hlt', if_neg hm']
          rw [e'] at hk'
          rcases q2 k hk with h | h
          · exact apart j u hj' hm' k hk' h
          · have := u.lt (h1 j u hj').1 k hk'; omega
        · have e' : G' j = G (ts'.length + (j - its.length)) := by simp only [G', if_neg (show ¬ j < its.length by omega)]
          rw [e'] at hk'
          have := List.idxOf_lt_length_iff.2 hm
          exact p2 _ _ t u q3 hj' (by omega) ht hu k hk hk'
      · have e : G' i = F i := by simp only [G', if_pos hlt, if_neg hm]
        rw [e] at hk
        rcases cls j u hj with ⟨hlt', hm', huo, r1, r2, r3⟩ | ⟨hlt', hm', hj'⟩ | ⟨hge', huo, hj'⟩
        · have e' : G' j = G (is.idxOf j) := by simp only [G', if_pos hlt', if_pos hm']
          rw [e'] at hk'
          rcases r2 k hk' with h | h
          · exact apart i t hi' hm k hk h
          · have := t.lt (h1 i t hi').1 k hk; omega
        · have e' : G' j = F j := by simp only [G', if_pos hlt', if_neg hm']
          rw [e'] at hk'
          exact h2 i j t u hi' hj' hne ht hu k hk hk'
        · have e' : G' j = G (ts'.length + (j - its.length)) := by simp only [G', if_neg (show ¬ j < its.length by omega)]
          rw [e'] at hk'
          rcases (p1 _ u hj').2.1 huo k hk' with h | h
          · exact apart i t hi' hm k hk h
          · have := t.lt (h1 i t hi').1 k hk; omega
      · have e : G' i = G (ts'.length + (i - its.length)) := by simp only [G', if_neg (show ¬ i < its.length by omega)]
        rw [e] at hk
        rcases cls j u hj with ⟨hlt', hm', huo, r1, r2, r3⟩ | ⟨hlt', hm', hj'⟩ | ⟨hge', huo, hj'⟩
        · have e' : G' j = G (is.idxOf j) := by simp only [G', if_pos hlt', if_pos hm']
          rw [e'] at hk'
          have := List.idxOf_lt_length_iff.2 hm'
          exact p2 _ _ t u hi' r3 (by omega) ht hu k hk hk'
        · have e' : G' j = F j := by simp only [G', if_pos hlt', if_neg hm']
          rw [e'] at hk'
          rcases (p1 _ t hi').2.1 hto k hk with h | h
          · exact apart j u hj' hm' k hk' h
          · have := u.lt (h1 j u hj').1 k hk'; omega
        · have e' : G' j = G (ts'.length + (j - its.length)) := by simp only [G', if_neg (show ¬ j < its.length by omega)]
          rw [e'] at hk'
          exact p2 _ _ t u hi' hj' (by omega) ht hu k hk hk'

end Hp
end Go.Den
