/-
  What is done with things in memory: blocks, slices, maps; one thing after another.
-/
import Derived.Test.YtmbbfaigbhnhcaaDenW
set_option linter.unusedSimpArgs false
set_option linter.unusedVariables false
namespace Go.Den
open Go.RowKit

/-! ### Things -/

def tBlk (b : Nat) (e : TypeId) (c : List Value) : Thing :=
  { holds := fun w O => Blk w b e c ∧ O = [b]
    fr := fun h hf hn => ⟨h.1.fr hf (hn b (by rw [h.2]; simp)), h.2⟩
    lt := fun h k hk => by rw [h.2] at hk; simp only [List.mem_singleton] at hk; subst hk; exact h.1.lt }

def tSl {α : Type} (s : Sl) (e : TypeId) (n : Nat) (f : α → List Value) (l : List α) : Thing :=
  { holds := fun w O => SlF w s e n f l O
    fr := fun h hf hn => h.fr hf hn
    lt := fun h => h.lt }

/-- A slice that is read only, wherever it lies. -/
def tRd {α : Type} (s : Sl) (n : Nat) (f : α → List Value) (l : List α) : Thing :=
  { holds := fun w O => SlR w s n f l O
    fr := fun h hf hn => h.fr hf hn
    lt := fun h => h.lt }

def tEmp : Thing :=
  { holds := fun w O => O = []
    fr := fun h _ _ => h
    lt := fun h k hk => by rw [h] at hk; cases hk }

def tStar (a b : Thing) : Thing :=
  { holds := fun w O => ∃ O1 O2, a.holds w O1 ∧ b.holds w O2 ∧ (∀ k ∈ O1, k ∉ O2) ∧ ∀ k, k ∈ O ↔ k ∈ O1 ∨ k ∈ O2
    fr := fun ⟨O1, O2, h1, h2, h3, h4⟩ hf hn => ⟨O1, O2, a.fr h1 hf (fun k hk => hn k ((h4 k).2 (.inl hk))), b.fr h2 hf (fun k hk => hn k ((h4 k).2 (.inr hk))), h3, h4⟩
    lt := fun ⟨O1, O2, h1, h2, h3, h4⟩ k hk => ((h4 k).1 hk).elim (a.lt h1 k) (b.lt h2 k) }

def tEx {α : Type} (f : α → Thing) : Thing :=
  { holds := fun w O => ∃ x, (f x).holds w O
    fr := fun ⟨x, h⟩ hf hn => ⟨x, (f x).fr h hf hn⟩
    lt := fun ⟨x, h⟩ => (f x).lt h }

def tAnd (p : Prop) (t : Thing) : Thing :=
  { holds := fun w O => p ∧ t.holds w O
    fr := fun ⟨x, h⟩ hf hn => ⟨x, t.fr h hf hn⟩
    lt := fun ⟨x, h⟩ => t.lt h }

def tAll : List Thing → Thing
  | [] => tEmp
  | t :: ts => tStar t (tAll ts)

theorem tAll_own : ∀ ts : List Thing, (tAll ts).own = true
  | [] => rfl
  | _ :: _ => rfl

/-- A map of these entries, in the order in which they came. -/
def MapAt (w : World) (b : Nat) (l : List (Value × Value)) : Prop :=
  ∃ es clock, w.heap[b]? = some (.map es clock) ∧ es.toList.map (fun e => (e.key, e.val)) = l

def tMap (b : Nat) (l : List (Value × Value)) : Thing :=
  { holds := fun w O => MapAt w b l ∧ O = [b]
    fr := fun {S w w' O} h hf hn => by
      obtain ⟨⟨es, clock, h1, h2⟩, rfl⟩ := h
      exact ⟨⟨es, clock, (hf.block b (Array.getElem?_eq_some_iff.1 h1).1 (hn b (by simp))).trans h1, h2⟩, rfl⟩
    lt := fun {w O} h k hk => by
      obtain ⟨⟨es, clock, h1, h2⟩, rfl⟩ := h
      simp only [List.mem_singleton] at hk
      subst hk
      exact (Array.getElem?_eq_some_iff.1 h1).1 }

theorem tStar_iff {a b : Thing} {w : World} {O : List Nat} : (tStar a b).holds w O ↔ ∃ O1 O2, a.holds w O1 ∧ b.holds w O2 ∧ (∀ k ∈ O1, k ∉ O2) ∧ ∀ k, k ∈ O ↔ k ∈ O1 ∨ k ∈ O2 := Iff.rfl

/-- One of many, taken out. -/
theorem tAll_pick : ∀ {ts : List Thing} {k : Nat} {t : Thing} {w : World} {O : List Nat}, ts[k]? = some t → (tAll ts).holds w O →
    ∃ O1 O2, t.holds w O1 ∧ (tAll (ts.set k tEmp)).holds w O2 ∧ (∀ k ∈ O1, k ∉ O2) ∧ ∀ k, k ∈ O ↔ k ∈ O1 ∨ k ∈ O2
  | [], k, t, w, O, hk, h => by simp at hk
  | u :: ts, 0, t, w, O, hk, h => by
    simp only [List.getElem?_cons_zero, Option.some.injEq] at hk
    subst hk
    obtain ⟨O1, O2, h1, h2, h3, h4⟩ := h
    refine ⟨O1, O2, h1, ⟨[], O2, rfl, h2, by simp, by simp⟩, h3, h4⟩
  | u :: ts, k + 1, t, w, O, hk, h => by
    obtain ⟨O1, O2, h1, h2, h3, h4⟩ := h
    obtain ⟨P1, P2, g1, g2, g3, g4⟩ := tAll_pick (k := k) (t := t) (by simpa using hk) h2
    refine ⟨P1, O1 ++ P2, g1, ⟨O1, P2, h1, g2, fun k hk hk' => h3 k hk ((g4 k).2 (.inr hk')), by simp⟩, ?_, ?_⟩
    · intro k hk hk'
      rcases List.mem_append.1 hk' with h | h
      · exact h3 k h ((g4 k).2 (.inl hk))
      · exact g3 k hk h
    · intro k
      rw [h4, g4, List.mem_append]
      constructor
      · rintro (h | h | h)
        · exact .inr (.inl h)
        · exact .inl h
        · exact .inr (.inr h)
      · rintro (h | h | h)
        · exact .inr (.inl h)
        · exact .inl h
        · exact .inr (.inr h)

/-- One put back among many. -/
theorem tAll_put : ∀ {ts : List Thing} {k : Nat} {t : Thing} {w : World} {O1 O2 : List Nat}, ts[k]? = some tEmp → t.holds w O1 → (tAll ts).holds w O2 → (∀ k ∈ O1, k ∉ O2) → (tAll (ts.set k t)).holds w (O1 ++ O2)
  | [], k, t, w, O1, O2, hk, _, _, _ => by simp at hk
  | u :: ts, 0, t, w, O1, O2, hk, h1, h2, h3 => by
    simp only [List.getElem?_cons_zero, Option.some.injEq] at hk
    subst hk
    obtain ⟨P1, P2, g1, g2, g3, g4⟩ := h2
    have g1' : P1 = [] := g1
    subst g1'
    exact ⟨O1, P2, h1, g2, fun k hk hk' => h3 k hk ((g4 k).2 (.inr hk')), fun k => by rw [List.mem_append, g4]; simp⟩
  | u :: ts, k + 1, t, w, O1, O2, hk, h1, h2, h3 => by
    obtain ⟨P1, P2, g1, g2, g3, g4⟩ := h2
    have ih := tAll_put (k := k) (t := t) (by simpa using hk) h1 g2 (fun k hk hk' => h3 k hk ((g4 k).2 (.inr hk')))
    refine ⟨P1, O1 ++ P2, g1, ih, ?_, ?_⟩
    · intro k hk hk'
      rcases List.mem_append.1 hk' with h | h
      · exact h3 k h ((g4 k).2 (.inl hk))
      · exact g3 k hk h
    · intro k
      rw [List.mem_append, g4, List.mem_append]
      constructor
      · rintro (h | h | h)
        · exact .inr (.inl h)
        · exact .inl h
        · exact .inr (.inr h)
      · rintro (h | h | h)
        · exact .inr (.inl h)
        · exact .inl h
        · exact .inr (.inr h)

theorem tAll_append : ∀ {ts us : List Thing} {w : World} {O1 O2 : List Nat}, (tAll ts).holds w O1 → (tAll us).holds w O2 → (∀ k ∈ O1, k ∉ O2) → (tAll (ts ++ us)).holds w (O1 ++ O2)
  | [], us, w, O1, O2, h1, h2, _ => by
    have : O1 = [] := h1
    subst this
    simpa using h2
  | t :: ts, us, w, O1, O2, h1, h2, h3 => by
    obtain ⟨P1, P2, g1, g2, g3, g4⟩ := h1
    refine ⟨P1, P2 ++ O2, g1, tAll_append g2 h2 (fun k hk => h3 k ((g4 k).2 (.inr hk))), ?_, ?_⟩
    · intro k hk hk'
      rcases List.mem_append.1 hk' with h | h
      · exact g3 k hk h
      · exact h3 k ((g4 k).2 (.inl hk)) h
    · intro k
      rw [List.mem_append, g4, List.mem_append]
      exact or_assoc

namespace Hp
variable {S : List Nat} {w0 w : World} {its : List Thing}

theorem at_ {t : Thing} {i : Nat} (hi : (its[i]?).map Thing.holds = some t.holds) : ∃ u, its[i]? = some u ∧ u.holds = t.holds := by
  rw [Option.map_eq_some_iff] at hi
  exact hi

theorem see' (h : Hp S w0 w its) {t : Thing} {i : Nat} (hi : (its[i]?).map Thing.holds = some t.holds) : ∃ O, t.holds w O := by
  obtain ⟨u, h1, h2⟩ := at_ hi
  obtain ⟨O, hO⟩ := h.see h1
  exact ⟨O, by rw [← h2]; exact hO⟩

/-! ### Taking apart, and putting together -/

theorem split (h : Hp S w0 w its) {i : Nat} {a b : Thing} (hi : its[i]? = some (tStar a b)) (ha : a.own = true) (hb : b.own = true) : Hp S w0 w (its.set i a ++ [b]) := by
  obtain ⟨hfr, F, h1, h2⟩ := h
  have hlt := (List.getElem?_eq_some_iff.1 hi).1
  obtain ⟨⟨O1, O2, g1, g2, g3, g4⟩, q1, _⟩ := h1 i _ hi
  have q2 : ∀ k ∈ F i, k ∈ S ∨ w0.heap.size ≤ k := q1 rfl
  clear q1
  have key : ∀ (j : Nat) (u : Thing), (its.set i a ++ [b])[j]? = some u → (j < its.length ∧ j ≠ i ∧ its[j]? = some u) ∨ (j = i ∧ u = a) ∨ (j = its.length ∧ u = b) := by
    intro j u hj
    by_cases hl : j < its.length
    · rw [List.getElem?_append_left (by simpa using hl), List.getElem?_set] at hj
      split at hj
      · rename_i e; simp only [if_pos hlt, Option.some.injEq] at hj; exact .inr (.inl ⟨e.symm, hj.symm⟩)
      · rename_i e; exact .inl ⟨hl, fun h => e h.symm, hj⟩
    · rw [List.getElem?_append_right (by simp; omega)] at hj
      have : j - (its.set i a).length = 0 := by
        rcases Nat.eq_zero_or_pos (j - (its.set i a).length) with h | h
        · exact h
        · rw [List.getElem?_eq_none (by simp only [List.length_singleton]; omega)] at hj; cases hj
      rw [this] at hj
      simp only [List.getElem?_cons_zero, Option.some.injEq] at hj
      simp only [List.length_set] at this
      exact .inr (.inr ⟨by omega, hj.symm⟩)
  let F' : Nat → List Nat := fun j => if j = its.length then O2 else if j = i then O1 else F j
  have e0 : ∀ j, j < its.length → j ≠ i → F' j = F j := fun j h1 h2 => by simp only [F', if_neg (show ¬ j = its.length by omega), if_neg h2]
  have e1 : F' i = O1 := by simp only [F', if_neg (show ¬ i = its.length by omega), if_true]
  have e2 : F' its.length = O2 := by simp only [F', if_true]
  have apart : ∀ j u, j ≠ i → its[j]? = some u → u.own = true → ∀ k ∈ F j, k ∉ F i := fun j u hne hj huo => h2 j i u _ hj hi hne huo rfl
  refine ⟨hfr, F', ?_, ?_⟩
  · intro j u hj
    rcases key j u hj with ⟨hl, hne, hj'⟩ | ⟨rfl, rfl⟩ | ⟨rfl, rfl⟩
    · rw [e0 j hl hne]; exact h1 j u hj'
    · rw [e1]; exact ⟨g1, fun _ k hk => q2 k ((g4 k).2 (.inl hk)), fun h => by rw [ha] at h; cases h⟩
    · rw [e2]; exact ⟨g2, fun _ k hk => q2 k ((g4 k).2 (.inr hk)), fun h => by rw [hb] at h; cases h⟩
  · intro j j' u v hj hj' hne hu hv k hk hk'
    rcases key j u hj with ⟨hl, hn, hjj⟩ | ⟨rfl, rfl⟩ | ⟨rfl, rfl⟩
    · rw [e0 j hl hn] at hk
      rcases key j' v hj' with ⟨hl', hn', hjj'⟩ | ⟨rfl, rfl⟩ | ⟨rfl, rfl⟩
      · rw [e0 j' hl' hn'] at hk'; exact h2 j j' u v hjj hjj' hne hu hv k hk hk'
      · rw [e1] at hk'; exact apart j u hn hjj hu k hk ((g4 k).2 (.inl hk'))
      · rw [e2] at hk'; exact apart j u hn hjj hu k hk ((g4 k).2 (.inr hk'))
    · rw [e1] at hk
      rcases key j' v hj' with ⟨hl', hn', hjj'⟩ | ⟨rfl, rfl⟩ | ⟨rfl, rfl⟩
      · rw [e0 j' hl' hn'] at hk'; exact apart j' v hn' hjj' hv k hk' ((g4 k).2 (.inl hk))
      · exact absurd rfl hne
      · rw [e2] at hk'; exact g3 k hk hk'
    · rw [e2] at hk
      rcases key j' v hj' with ⟨hl', hn', hjj'⟩ | ⟨rfl, rfl⟩ | ⟨rfl, rfl⟩
      · rw [e0 j' hl' hn'] at hk'; exact apart j' v hn' hjj' hv k hk' ((g4 k).2 (.inr hk))
      · rw [e1] at hk'; exact g3 k hk' hk
      · exact absurd rfl hne

/-- Two things as one; the second one's place is empty then. -/
theorem join (h : Hp S w0 w its) {i j : Nat} (hne : i ≠ j) {a b c : Thing} (hi : its[i]? = some a) (hj : its[j]? = some b) (ha : a.own = true) (hb : b.own = true) (hc : c.own = true)
    (himp : ∀ w O1 O2, a.holds w O1 → b.holds w O2 → (∀ k ∈ O1, k ∉ O2) → c.holds w (O1 ++ O2)) : Hp S w0 w ((its.set i c).set j tEmp) := by
  obtain ⟨hfr, F, h1, h2⟩ := h
  have hlt := (List.getElem?_eq_some_iff.1 hi).1
  have hlt' := (List.getElem?_eq_some_iff.1 hj).1
  have key : ∀ (n : Nat) (u : Thing), ((its.set i c).set j tEmp)[n]? = some u → (n ≠ i ∧ n ≠ j ∧ its[n]? = some u) ∨ (n = i ∧ u = c) ∨ (n = j ∧ u = tEmp) := by
    intro n u hn
    rw [List.getElem?_set] at hn
    split at hn
    · rename_i e
      simp only [List.length_set, if_pos hlt', Option.some.injEq] at hn
      exact .inr (.inr ⟨e.symm, hn.symm⟩)
    · rename_i e
      rw [List.getElem?_set] at hn
      split at hn
      · rename_i e'
        simp only [if_pos hlt, Option.some.injEq] at hn
        exact .inr (.inl ⟨e'.symm, hn.symm⟩)
      · rename_i e'
        exact .inl ⟨fun h => e' h.symm, fun h => e h.symm, hn⟩
  obtain ⟨a1, a2, _⟩ := h1 i a hi
  obtain ⟨b1, b2, _⟩ := h1 j b hj
  let F' : Nat → List Nat := fun n => if n = i then F i ++ F j else if n = j then [] else F n
  have e0 : ∀ n, n ≠ i → n ≠ j → F' n = F n := fun n h1 h2 => by simp only [F', if_neg h1, if_neg h2]
  have e1 : F' i = F i ++ F j := by simp only [F', if_true]
  have e2 : F' j = [] := by simp only [F', if_neg hne.symm, if_true]
  have dis : ∀ k ∈ F i, k ∉ F j := h2 i j a b hi hj hne ha hb
  refine ⟨hfr, F', ?_, ?_⟩
  · intro n u hn
    rcases key n u hn with ⟨q1, q2, hn'⟩ | ⟨rfl, rfl⟩ | ⟨rfl, rfl⟩
    · rw [e0 n q1 q2]; exact h1 n u hn'
    · rw [e1]
      refine ⟨himp w _ _ a1 b1 dis, fun _ k hk => ?_, fun h => by rw [hc] at h; cases h⟩
      rcases List.mem_append.1 hk with hk | hk
      · exact a2 ha k hk
      · exact b2 hb k hk
    · rw [e2]; exact ⟨rfl, by simp, by simp⟩
  · intro n m u v hn hm hnm hu hv k hk hk'
    rcases key n u hn with ⟨q1, q2, hn'⟩ | ⟨rfl, rfl⟩ | ⟨rfl, rfl⟩
    · rw [e0 n q1 q2] at hk
      rcases key m v hm with ⟨r1, r2, hm'⟩ | ⟨rfl, rfl⟩ | ⟨rfl, rfl⟩
      · rw [e0 m r1 r2] at hk'; exact h2 n m u v hn' hm' hnm hu hv k hk hk'
      · rw [e1] at hk'
        rcases List.mem_append.1 hk' with hk' | hk'
        · exact h2 n _ u a hn' hi q1 hu ha k hk hk'
        · exact h2 n _ u b hn' hj q2 hu hb k hk hk'
      · rw [e2] at hk'; cases hk'
    · rw [e1] at hk
      rcases key m v hm with ⟨r1, r2, hm'⟩ | ⟨rfl, rfl⟩ | ⟨rfl, rfl⟩
      · rw [e0 m r1 r2] at hk'
        rcases List.mem_append.1 hk with hk | hk
        · exact h2 m _ v a hm' hi r1 hv ha k hk' hk
        · exact h2 m _ v b hm' hj r2 hv hb k hk' hk
      · exact absurd rfl hnm
      · rw [e2] at hk'; cases hk'
    · rw [e2] at hk; cases hk

theorem joinStar (h : Hp S w0 w its) {i j : Nat} (hne : i ≠ j) {a b : Thing} (hi : its[i]? = some a) (hj : its[j]? = some b) (ha : a.own = true) (hb : b.own = true) : Hp S w0 w ((its.set i (tStar a b)).set j tEmp) :=
  h.join hne hi hj ha hb rfl fun w O1 O2 h1 h2 h3 => ⟨O1, O2, h1, h2, h3, by simp⟩

theorem openEx (h : Hp S w0 w its) {i : Nat} {α : Type} {f : α → Thing} (hi : its[i]? = some (tEx f)) (ho : ∀ x, (f x).own = true) : ∃ x, Hp S w0 w (its.set i (f x)) := by
  obtain ⟨O, ⟨x, hO⟩, back⟩ := h.step hi rfl
  exact ⟨x, back (Fr.refl _ _) hO (fun k hk => .inl hk) (ho x)⟩

theorem openAnd (h : Hp S w0 w its) {i : Nat} {p : Prop} {t : Thing} (hi : its[i]? = some (tAnd p t)) (ho : t.own = true) : p ∧ Hp S w0 w (its.set i t) := by
  obtain ⟨O, ⟨x, hO⟩, back⟩ := h.step hi rfl
  exact ⟨x, back (Fr.refl _ _) hO (fun k hk => .inl hk) ho⟩

theorem putEx (h : Hp S w0 w its) {i : Nat} {α : Type} {f : α → Thing} (x : α) (hi : its[i]? = some (f x)) (ho : (f x).own = true) : Hp S w0 w (its.set i (tEx f)) :=
  h.weak hi ho (fun w O h => ⟨x, h⟩) rfl

theorem putAnd (h : Hp S w0 w its) {i : Nat} {p : Prop} {t : Thing} (hp : p) (hi : its[i]? = some t) (ho : t.own = true) : Hp S w0 w (its.set i (tAnd p t)) :=
  h.weak hi ho (fun w O h => ⟨hp, h⟩) rfl

/-- One of many, as a thing of its own. -/
theorem pick (h : Hp S w0 w its) {i k : Nat} {ts : List Thing} {t : Thing} (hi : its[i]? = some (tAll ts)) (hk : ts[k]? = some t) (ho : t.own = true) : Hp S w0 w (its.set i (tAll (ts.set k tEmp)) ++ [t]) := by
  have h1 := h.weak (t' := tStar (tAll (ts.set k tEmp)) t) hi (tAll_own ts) (fun w O hO => by
    obtain ⟨O1, O2, g1, g2, g3, g4⟩ := tAll_pick hk hO
    exact ⟨O2, O1, g2, g1, fun k hk hk' => g3 k hk' hk, fun k => by rw [g4]; exact or_comm⟩) rfl
  have hlt := (List.getElem?_eq_some_iff.1 hi).1
  have h2 := h1.split (i := i) (a := tAll (ts.set k tEmp)) (b := t) (by simp [hlt]) (tAll_own _) ho
  simpa using h2

/-- .. and put back. -/
theorem unpick (h : Hp S w0 w its) {i j k : Nat} (hne : i ≠ j) {ts : List Thing} {t : Thing} (hi : its[i]? = some (tAll ts)) (hj : its[j]? = some t) (hk : ts[k]? = some tEmp) (ho : t.own = true) :
    Hp S w0 w ((its.set i (tAll (ts.set k t))).set j tEmp) :=
  h.join hne hi hj (tAll_own _) ho (tAll_own _) fun w O1 O2 h1 h2 h3 => by
    have := tAll_put hk h2 h1 (fun k hk hk' => h3 k hk' hk)
    refine (tAll_mem _ this ?_)
    intro k
    simp [or_comm]
where
  tAll_mem (ts : List Thing) {w : World} {O O' : List Nat} (h : (tAll ts).holds w O) (he : ∀ k, k ∈ O ↔ k ∈ O') : (tAll ts).holds w O' := by
    cases ts with
    | nil =>
      have : O = [] := h
      subst this
      show O' = []
      apply List.eq_nil_iff_forall_not_mem.2
      intro k hk
      exact absurd ((he k).2 hk) (by simp)
    | cons t ts =>
      obtain ⟨O1, O2, h1, h2, h3, h4⟩ := h
      exact ⟨O1, O2, h1, h2, h3, fun k => by rw [← he]; exact h4 k⟩

end Hp
end Go.Den
