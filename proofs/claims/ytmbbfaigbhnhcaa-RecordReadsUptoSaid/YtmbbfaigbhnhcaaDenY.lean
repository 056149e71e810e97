/-
  The steps of a walk over things in memory.
-/
import Derived.Test.YtmbbfaigbhnhcaaDenX
import Derived.Test.YtmbbfaigbhnhcaaDenS
set_option linter.unusedSimpArgs false
set_option linter.unusedVariables false
namespace Go.Den
open Go.RowKit

theorem nns {a : Addr} {K : Addr → Prop} (h : K a) : NN (some a) K := h

namespace Hp
variable {S : List Nat} {w0 w : World} {its : List Thing}

theorem begin_ (w : World) : Hp [] w w [] := init w

/-! ### Frames of one or two things -/

theorem getL1 {its : List Thing} {i : Nat} {t : Thing} (hi : its[i]? = some t) : ∀ n j : Nat, [i][n]? = some j → its[j]? = [t][n]? := by
  intro n j hn
  match n, hn with
  | 0, hn => simp only [List.getElem?_cons_zero, Option.some.injEq] at hn; subst hn; simpa using hi

theorem getL2 {its : List Thing} {i i' : Nat} {t t' : Thing} (hi : its[i]? = some t) (hi' : its[i']? = some t') : ∀ n j : Nat, [i, i'][n]? = some j → its[j]? = [t, t'][n]? := by
  intro n j hn
  match n, hn with
  | 0, hn => simp only [List.getElem?_cons_zero, Option.some.injEq] at hn; subst hn; simpa using hi
  | 1, hn => simp only [List.getElem?_cons_succ, List.getElem?_cons_zero, Option.some.injEq] at hn; subst hn; simpa using hi'

theorem getL0 {its : List Thing} : ∀ n j : Nat, ([] : List Nat)[n]? = some j → its[j]? = ([] : List Thing)[n]? := by
  intro n j hn; simp at hn

theorem len1 {ts : List Thing} (h : ts.length = 1) : ∃ t, ts = [t] := by
  match ts, h with
  | [t], _ => exact ⟨t, rfl⟩
theorem len2 {ts : List Thing} (h : ts.length = 2) : ∃ t u, ts = [t, u] := by
  match ts, h with
  | [t, u], _ => exact ⟨t, u, rfl⟩

def owns (ts : List Thing) : Bool := ts.all (·.own)
theorem of_owns {ts : List Thing} (h : owns ts = true) : ∀ t ∈ ts, t.own = true := List.all_eq_true.1 h

/-- Things of mine are handed on: the one at i. -/
theorem f1 (h : Hp S w0 w its) {i : Nat} {t : Thing} (hi : its[i]? = some t) (ho : t.own = true) :
    ∃ O, Hp O w w [t] ∧ ∀ {w' : World} {t' : Thing} {rest : List Thing}, t'.own = true → owns rest = true → Hp O w w' (t' :: rest) → Hp S w0 w' (its.set i t' ++ rest) := by
  obtain ⟨O, h1, h2⟩ := h.frame [i] [] (by simp) (by simp) (ts := [t]) (us := []) rfl rfl (getL1 hi) getL0 (by simpa using ho)
  exact ⟨O, by simpa using h1, fun {w' t' rest} ho' hr hp => h2 (ts' := [t']) rfl (by simpa using ho') (of_owns hr) (by simpa using hp)⟩

/-- .. and the one at j to be read. -/
theorem f1r (h : Hp S w0 w its) {i j : Nat} (hne : i ≠ j) {t u : Thing} (hi : its[i]? = some t) (hj : its[j]? = some u) (ho : t.own = true) :
    ∃ O, Hp O w w [t, u.ro] ∧ ∀ {w' : World} {t' : Thing} {rest : List Thing}, t'.own = true → owns rest = true → Hp O w w' (t' :: rest) → Hp S w0 w' (its.set i t' ++ rest) := by
  obtain ⟨O, h1, h2⟩ := h.frame [i] [j] (by simp) (by simpa using hne) (ts := [t]) (us := [u]) rfl rfl (getL1 hi) (getL1 hj) (by simpa using ho)
  exact ⟨O, by simpa using h1, fun {w' t' rest} ho' hr hp => h2 (ts' := [t']) rfl (by simpa using ho') (of_owns hr) (by simpa using hp)⟩

theorem f1r2 (h : Hp S w0 w its) {i j j' : Nat} (hne : i ≠ j) (hne' : i ≠ j') {t u v : Thing} (hi : its[i]? = some t) (hj : its[j]? = some u) (hj' : its[j']? = some v) (ho : t.own = true) :
    ∃ O, Hp O w w [t, u.ro, v.ro] ∧ ∀ {w' : World} {t' : Thing} {rest : List Thing}, t'.own = true → owns rest = true → Hp O w w' (t' :: rest) → Hp S w0 w' (its.set i t' ++ rest) := by
  obtain ⟨O, h1, h2⟩ := h.frame [i] [j, j'] (by simp) (by simp [hne, hne']) (ts := [t]) (us := [u, v]) rfl rfl (getL1 hi) (getL2 hj hj') (by simpa using ho)
  exact ⟨O, by simpa using h1, fun {w' t' rest} ho' hr hp => h2 (ts' := [t']) rfl (by simpa using ho') (of_owns hr) (by simpa using hp)⟩

/-- What is made beside all. -/
theorem r0 (h : Hp S w0 w its) {w' : World} {rest : List Thing} (hr : owns rest = true) (hp : Hp [] w w' rest) : Hp S w0 w' (its ++ rest) := by
  obtain ⟨hfr0, F0, q1, q2⟩ := h
  obtain ⟨pf, G, p1, p2⟩ := hp
  refine (⟨hfr0.trans pf (by simp), fun n => if n < its.length then F0 n else G (n - its.length), ?_, ?_⟩ : Hp S w0 w' (its ++ rest))
  · intro n v hn
    by_cases hl : n < its.length
    · rw [List.getElem?_append_left hl] at hn
      dsimp only
      rw [if_pos hl]
      exact ⟨v.fr (q1 n v hn).1 pf (by simp), (q1 n v hn).2⟩
    · rw [List.getElem?_append_right (by omega)] at hn
      dsimp only
      rw [if_neg hl]
      obtain ⟨a1, a2, a3⟩ := p1 (n - its.length) v hn
      have hv := of_owns hr v (List.mem_of_getElem? hn)
      refine ⟨a1, fun _ k hk => ?_, fun h => by rw [hv] at h; cases h⟩
      rcases a2 hv k hk with h | h
      · cases h
      · exact .inr (Nat.le_trans hfr0.size h)
  · intro n m v x hn hm hne hv hx k hk hk'
    by_cases hl : n < its.length
    · rw [List.getElem?_append_left hl] at hn
      simp only [if_pos hl] at hk
      by_cases hl' : m < its.length
      · rw [List.getElem?_append_left hl'] at hm
        simp only [if_pos hl'] at hk'
        exact q2 n m v x hn hm hne hv hx k hk hk'
      · rw [List.getElem?_append_right (by omega)] at hm
        simp only [if_neg hl'] at hk'
        rcases (p1 (m - its.length) x hm).2.1 hx k hk' with h | h
        · cases h
        · have := v.lt (q1 n v hn).1 k hk; omega
    · rw [List.getElem?_append_right (by omega)] at hn
      simp only [if_neg hl] at hk
      by_cases hl' : m < its.length
      · rw [List.getElem?_append_left hl'] at hm
        simp only [if_pos hl'] at hk'
        rcases (p1 (n - its.length) v hn).2.1 hv k hk with h | h
        · cases h
        · have := x.lt (q1 m x hm).1 k hk'; omega
      · rw [List.getElem?_append_right (by omega)] at hm
        simp only [if_neg hl'] at hk'
        exact p2 _ _ v x hn hm (by omega) hv hx k hk hk'

/-- Something of mine, to be read only, on its own. -/
theorem ro1 (h : Hp S w0 w its) {j : Nat} {u : Thing} (hj : (its[j]?).map Thing.holds = some u.holds) : Hp [] w w [u.ro] := by
  obtain ⟨O', hO'⟩ := h.see' hj
  exact Hp.addRo (Hp.init w) hO' (by simp)
theorem ro2 (h : Hp S w0 w its) {i j : Nat} {t u : Thing} (hi : (its[i]?).map Thing.holds = some t.holds) (hj : (its[j]?).map Thing.holds = some u.holds) : Hp [] w w [t.ro, u.ro] := by
  obtain ⟨O', hO'⟩ := h.see' hj
  exact Hp.addRo (h.ro1 hi) hO' (by simp)

theorem f2 (h : Hp S w0 w its) {i i' : Nat} (hne : i ≠ i') {t u : Thing} (hi : its[i]? = some t) (hi' : its[i']? = some u) (ho : t.own = true) (ho' : u.own = true) :
    ∃ O, Hp O w w [t, u] ∧ ∀ {w' : World} {t' u' : Thing} {rest : List Thing}, t'.own = true → u'.own = true → owns rest = true → Hp O w w' (t' :: u' :: rest) → Hp S w0 w' ((its.set i t').set i' u' ++ rest) := by
  obtain ⟨O, h1, h2⟩ := h.frame [i, i'] [] (by simpa using hne) (by simp) (ts := [t, u]) (us := []) rfl rfl (getL2 hi hi') getL0 (by simp [ho, ho'])
  exact ⟨O, by simpa using h1, fun {w' t' u' rest} q1 q2 hr hp => h2 (ts' := [t', u']) rfl (by simp [q1, q2]) (of_owns hr) (by simpa using hp)⟩

theorem f2r (h : Hp S w0 w its) {i i' j : Nat} (hne : i ≠ i') (hj1 : i ≠ j) (hj2 : i' ≠ j) {t u v : Thing} (hi : its[i]? = some t) (hi' : its[i']? = some u) (hj : its[j]? = some v) (ho : t.own = true) (ho' : u.own = true) :
    ∃ O, Hp O w w [t, u, v.ro] ∧ ∀ {w' : World} {t' u' : Thing} {rest : List Thing}, t'.own = true → u'.own = true → owns rest = true → Hp O w w' (t' :: u' :: rest) → Hp S w0 w' ((its.set i t').set i' u' ++ rest) := by
  obtain ⟨O, h1, h2⟩ := h.frame [i, i'] [j] (by simpa using hne) (by simp [hj1, hj2]) (ts := [t, u]) (us := [v]) rfl rfl (getL2 hi hi') (getL1 hj) (by simp [ho, ho'])
  exact ⟨O, by simpa using h1, fun {w' t' u' rest} q1 q2 hr hp => h2 (ts' := [t', u']) rfl (by simp [q1, q2]) (of_owns hr) (by simpa using hp)⟩

theorem getL3 {its : List Thing} {i i' i'' : Nat} {t t' t'' : Thing} (hi : its[i]? = some t) (hi' : its[i']? = some t') (hi'' : its[i'']? = some t'') : ∀ n j : Nat, [i, i', i''][n]? = some j → its[j]? = [t, t', t''][n]? := by
  intro n j hn
  match n, hn with
  | 0, hn => simp only [List.getElem?_cons_zero, Option.some.injEq] at hn; subst hn; simpa using hi
  | 1, hn => simp only [List.getElem?_cons_succ, List.getElem?_cons_zero, Option.some.injEq] at hn; subst hn; simpa using hi'
  | 2, hn => simp only [List.getElem?_cons_succ, List.getElem?_cons_zero, Option.some.injEq] at hn; subst hn; simpa using hi''

theorem f3 (h : Hp S w0 w its) {i i' i'' : Nat} (hne : [i, i', i''].Nodup) {t u v : Thing} (hi : its[i]? = some t) (hi' : its[i']? = some u) (hi'' : its[i'']? = some v) (ho : t.own = true) (ho' : u.own = true) (ho'' : v.own = true) :
    ∃ O, Hp O w w [t, u, v] ∧ ∀ {w' : World} {t' u' v' : Thing} {rest : List Thing}, t'.own = true → u'.own = true → v'.own = true → owns rest = true → Hp O w w' (t' :: u' :: v' :: rest) → Hp S w0 w' (((its.set i t').set i' u').set i'' v' ++ rest) := by
  obtain ⟨O, h1, h2⟩ := h.frame [i, i', i''] [] hne (by simp) (ts := [t, u, v]) (us := []) rfl rfl (getL3 hi hi' hi'') getL0 (by simp [ho, ho', ho''])
  exact ⟨O, by simpa using h1, fun {w' t' u' v' rest} q1 q2 q3 hr hp => h2 (ts' := [t', u', v']) rfl (by simp [q1, q2, q3]) (of_owns hr) (by simpa using hp)⟩

theorem set_same {i : Nat} {t : Thing} (hi : its[i]? = some t) : its.set i t = its := by
  obtain ⟨h, rfl⟩ := List.getElem?_eq_some_iff.1 hi
  exact List.set_getElem_self h

/-- The second thing let go. -/
theorem drop1 {x y : Thing} {rest : List Thing} (h : Hp S w0 w (x :: y :: rest)) : Hp S w0 w (x :: rest) := by
  obtain ⟨hfr, F, h1, h2⟩ := h
  have key : ∀ (n : Nat) (t : Thing), (x :: rest)[n]? = some t → (x :: y :: rest)[if n = 0 then 0 else n + 1]? = some t := by
    intro n t hn
    cases n with
    | zero => simpa using hn
    | succ n => simpa using hn
  refine ⟨hfr, fun n => F (if n = 0 then 0 else n + 1), fun n t hn => h1 _ t (key n t hn), fun n m t u hn hm hne => h2 _ _ t u (key n t hn) (key m u hm) ?_⟩
  split <;> split <;> omega

theorem trim (h : Hp S w0 w its) (n : Nat) : Hp S w0 w (its.take n) := by
  rw [← List.take_append_drop n its] at h
  exact h.front

/-- A part of what is read only. -/
theorem roSee (h : Hp S w0 w its) {i : Nat} {u : Thing} (hi : its[i]? = some u.ro) : ∃ O, u.holds w O ∧ ∀ {t : Thing} {O' : List Nat}, t.holds w O' → (∀ k ∈ O', k ∈ O) → Hp S w0 w (its ++ [t.ro]) := by
  obtain ⟨hfr, F, h1, h2⟩ := h
  obtain ⟨a1, _, a3⟩ := h1 i _ hi
  have a3 := a3 rfl
  refine ⟨F i, a1, fun {t O'} ht hO => ?_⟩
  have key : ∀ (j : Nat) (v : Thing), (its ++ [t.ro])[j]? = some v → (j < its.length ∧ its[j]? = some v) ∨ (j = its.length ∧ v = t.ro) := by
    intro j v hj
    by_cases hlt : j < its.length
    · rw [List.getElem?_append_left hlt] at hj; exact .inl ⟨hlt, hj⟩
    · rw [List.getElem?_append_right (by omega)] at hj
      have : j - its.length = 0 := by
        rcases Nat.eq_zero_or_pos (j - its.length) with h | h
        · exact h
        · rw [List.getElem?_eq_none (by simp only [List.length_singleton]; omega)] at hj; cases hj
      rw [this] at hj
      simp only [List.getElem?_cons_zero, Option.some.injEq] at hj
      exact .inr ⟨by omega, hj.symm⟩
  refine ⟨hfr, fun j => if j = its.length then O' else F j, ?_, ?_⟩
  · intro j v hj
    rcases key j v hj with ⟨hlt, hj'⟩ | ⟨rfl, rfl⟩
    · dsimp only; rw [if_neg (by omega)]; exact h1 j v hj'
    · dsimp only; rw [if_pos rfl]
      exact ⟨ht, fun h => (by cases h), fun _ k hk => a3 k (hO k hk)⟩
  · intro j j' v x hj hj' hne hv hx k hk hk'
    rcases key j v hj with ⟨hlt, hjj⟩ | ⟨rfl, rfl⟩
    · rcases key j' x hj' with ⟨hlt', hjj'⟩ | ⟨rfl, rfl⟩
      · simp only [if_neg (show ¬ j = its.length by omega), if_neg (show ¬ j' = its.length by omega)] at hk hk'
        exact h2 j j' v x hjj hjj' hne hv hx k hk hk'
      · cases hx
    · cases hv

/-- A thing let go. -/
theorem lose (h : Hp S w0 w its) {i : Nat} {t : Thing} (hi : its[i]? = some t) (ho : t.own = true) : Hp S w0 w (its.set i tEmp) := by
  obtain ⟨O, hO, back⟩ := h.step hi ho
  exact back (Fr.refl _ _) (O' := []) rfl (by simp) rfl

/-- Less of a thing. -/
theorem less (h : Hp S w0 w its) {i : Nat} {t t' : Thing} (hi : its[i]? = some t) (ho : t.own = true) (himp : ∀ w O, t.holds w O → ∃ O', t'.holds w O' ∧ ∀ k ∈ O', k ∈ O) (ho' : t'.own = true) : Hp S w0 w (its.set i t') := by
  obtain ⟨O, hO, back⟩ := h.step hi ho
  obtain ⟨O', h1, h2⟩ := himp _ _ hO
  exact back (Fr.refl _ _) h1 (fun k hk => .inl (h2 k hk)) ho'

/-- Some of many. -/
theorem tAll_sel {w : World} : ∀ (js : List Nat) (ts us : List Thing) (O : List Nat), js.Nodup → us.length = js.length → (∀ n j : Nat, js[n]? = some j → ∃ t, ts[j]? = some t ∧ us[n]? = some t) → (tAll ts).holds w O → ∃ O', (tAll us).holds w O' ∧ ∀ k ∈ O', k ∈ O
  | [], ts, us, O, _, hl, _, _ => by
    have : us = [] := List.eq_nil_of_length_eq_zero hl
    subst this
    exact ⟨[], rfl, by simp⟩
  | j :: js, ts, us, O, hnd, hl, hget, h => by
    obtain ⟨h1, h2⟩ := List.nodup_cons.1 hnd
    cases us with
    | nil => simp at hl
    | cons u us =>
      obtain ⟨t, ht, hu⟩ := hget 0 j rfl
      simp only [List.getElem?_cons_zero, Option.some.injEq] at hu
      subst hu
      obtain ⟨O1, O2, g1, g2, g3, g4⟩ := tAll_pick ht h
      obtain ⟨O3, k1, k2⟩ := tAll_sel js (ts.set j tEmp) us O2 h2 (by simpa using hl) (fun n i hn => by
        obtain ⟨t, q1, q2⟩ := hget (n + 1) i (by simpa using hn)
        refine ⟨t, ?_, by simpa using q2⟩
        rw [List.getElem?_set_ne]
        · exact q1
        · rintro rfl; exact h1 (List.mem_of_getElem? hn)) g2
      refine ⟨O1 ++ O3, ⟨O1, O3, g1, k1, fun k hk hk' => g3 k hk (k2 k hk'), by simp⟩, ?_⟩
      intro k hk
      rcases List.mem_append.1 hk with hk | hk
      · exact (g4 k).2 (.inl hk)
      · exact (g4 k).2 (.inr (k2 k hk))

/-! ### Blocks -/

theorem nw (h : Hp S w0 w its) {e : TypeId} {c : List Value} {K : Addr → World → Prop}
    (hK : ∀ b w', Hp S w0 w' (its ++ [tBlk b e c]) → K ⟨b, 0, none⟩ w') : Nw (.cells c.toArray e) w K :=
  hK _ _ (h.grow (Fr.alloc w _) (t := tBlk w.heap.size e c) (O := [w.heap.size]) ⟨Blk.alloc w c e, rfl⟩ (by simp) rfl)

theorem nwMap (h : Hp S w0 w its) {K : Addr → World → Prop}
    (hK : ∀ b w', Hp S w0 w' (its ++ [tMap b []]) → K ⟨b, 0, none⟩ w') : Nw (.map #[] 0) w K :=
  hK _ _ (h.grow (Fr.alloc w _) (t := tMap w.heap.size []) (O := [w.heap.size]) ⟨⟨#[], 0, by show (w.heap.push _)[w.heap.size]? = _; simp, rfl⟩, rfl⟩ (by simp) rfl)

theorem dr (h : Hp S w0 w its) {K : World → Prop} (hK : ∀ w', Hp S w0 w' its → K w') : Dr w K :=
  hK _ (h.keep (Fr.refl [] w).drew)

theorem ld (h : Hp S w0 w its) (i : Nat) {k : Kd} {b n : Nat} {e : TypeId} {c : List Value} {x : k.T} {K : k.T → Prop}
    (hi : (its[i]?).map Thing.holds = some (tBlk b e c).holds) (hx : c[n]? = some (k.inj x)) (hK : K x) : Ld k w ((⟨b, 0, none⟩ : Addr).add n) K := by
  obtain ⟨O, hO, _⟩ := h.see' hi
  exact ldf hO hx hK

theorem ld0 (h : Hp S w0 w its) (i : Nat) {k : Kd} {b : Nat} {e : TypeId} {c : List Value} {x : k.T} {K : k.T → Prop}
    (hi : (its[i]?).map Thing.holds = some (tBlk b e c).holds) (hx : c[0]? = some (k.inj x)) (hK : K x) : Ld k w ⟨b, 0, none⟩ K := by
  obtain ⟨O, hO, _⟩ := h.see' hi
  exact Go.Den.ld hO hx hK

theorem lda (h : Hp S w0 w its) (i : Nat) {k : Kd} {b n m : Nat} {e : TypeId} {c : List Value} {x : k.T} {K : k.T → Prop}
    (hi : (its[i]?).map Thing.holds = some (tBlk b e c).holds) (hx : c[n + m]? = some (k.inj x)) (hK : K x) : Ld k w (((⟨b, 0, none⟩ : Addr).add n).add m) K := by
  rw [Addr.add_add_any]
  exact h.ld i hi hx hK

/-- A cell that is as it was. -/
theorem cel (h : Hp S w0 w its) (i : Nat) {b n : Nat} {e : TypeId} {c : List Value} {v : Value} (hi : (its[i]?).map Thing.holds = some (tBlk b e c).holds) (hx : c[n]? = some v) :
    w.cell? ((⟨b, 0, none⟩ : Addr).add n) = some v := by
  obtain ⟨O, hO, _⟩ := h.see' hi
  rw [Addr.add_none, hO.cell, Nat.zero_add, hx]
theorem cela (h : Hp S w0 w its) (i : Nat) {b n m : Nat} {e : TypeId} {c : List Value} {v : Value} (hi : (its[i]?).map Thing.holds = some (tBlk b e c).holds) (hx : c[n + m]? = some v) :
    w.cell? (((⟨b, 0, none⟩ : Addr).add n).add m) = some v := by
  rw [Addr.add_add_any]
  exact h.cel i hi hx
theorem cel0 (h : Hp S w0 w its) (i : Nat) {b : Nat} {e : TypeId} {c : List Value} {v : Value} (hi : (its[i]?).map Thing.holds = some (tBlk b e c).holds) (hx : c[0]? = some v) :
    w.cell? (⟨b, 0, none⟩ : Addr) = some v := by
  obtain ⟨O, hO, _⟩ := h.see' hi
  rw [hO.cell, hx]

theorem stv (h : Hp S w0 w its) (i : Nat) {b o : Nat} {e : TypeId} {c : List Value} {v : Value} {K : World → Prop}
    (hi : its[i]? = some (tBlk b e c)) (ho : o < c.length) (hv : v.oneCell' = true) (hK : ∀ w', Hp S w0 w' (its.set i (tBlk b e (c.set o v))) → K w') : St ⟨b, o, none⟩ v w K := by
  obtain ⟨O, ⟨hO, rfl⟩, back⟩ := h.step hi rfl
  exact Go.Den.st hO ho hv fun w' hb hf _ => hK w' (back (t' := tBlk b e (c.set o v)) (O' := [b]) hf ⟨hb, rfl⟩ (fun k hk => .inl hk) rfl)

theorem st (h : Hp S w0 w its) (i : Nat) {b n : Nat} {e : TypeId} {c : List Value} {v : Value} {K : World → Prop}
    (hi : its[i]? = some (tBlk b e c)) (ho : n < c.length) (hv : v.oneCell' = true) (hK : ∀ w', Hp S w0 w' (its.set i (tBlk b e (c.set n v))) → K w') : St ((⟨b, 0, none⟩ : Addr).add n) v w K := by
  rw [Addr.add_none, Nat.zero_add]
  exact h.stv i hi ho hv hK

theorem st0 (h : Hp S w0 w its) (i : Nat) {b : Nat} {e : TypeId} {c : List Value} {v : Value} {K : World → Prop}
    (hi : its[i]? = some (tBlk b e c)) (ho : 0 < c.length) (hv : v.oneCell' = true) (hK : ∀ w', Hp S w0 w' (its.set i (tBlk b e (c.set 0 v))) → K w') : St ⟨b, 0, none⟩ v w K :=
  h.stv i hi ho hv hK

/-- An element of an array in a block. -/
theorem ixa (h : Hp S w0 w its) {b len sz : Nat} {i : Int} {K : Addr → Prop} (h0 : 0 ≤ i) (h1 : i < len) (hK : K ⟨b, i.toNat * sz, none⟩) : IxA ⟨b, 0, none⟩ len i sz K :=
  ⟨h0, h1, by rw [Addr.add_none, Nat.zero_add]; exact hK⟩

theorem ldv (h : Hp S w0 w its) (i : Nat) {k : Kd} {b o : Nat} {e : TypeId} {c : List Value} {x : k.T} {K : k.T → Prop}
    (hi : (its[i]?).map Thing.holds = some (tBlk b e c).holds) (hx : c[o]? = some (k.inj x)) (hK : K x) : Ld k w ⟨b, o, none⟩ K := by
  obtain ⟨O, hO, _⟩ := h.see' hi
  exact Go.Den.ld hO hx hK

/-! ### Blocks that may be made at any place -/

def tOpt (y : Option Addr) (e : TypeId) (c : List Value) : Thing :=
  { holds := fun w O => (y = none ∧ O = []) ∨ ∃ b, y = some ⟨b, 0, none⟩ ∧ Blk w b e c ∧ O = [b]
    fr := fun {S w w' O} h hf hn => by
      rcases h with h | ⟨b, h1, h2, rfl⟩
      · exact .inl h
      · exact .inr ⟨b, h1, h2.fr hf (hn b (by simp)), rfl⟩
    lt := fun {w O} h k hk => by
      rcases h with ⟨_, rfl⟩ | ⟨b, h1, h2, rfl⟩
      · cases hk
      · simp only [List.mem_singleton] at hk; subst hk; exact h2.lt }

theorem opt (h : Hp S w0 w its) (e : TypeId) (c : List Value) : Hp S w0 w (its ++ [tOpt none e c]) :=
  h.grow (Fr.refl _ _) (t := tOpt none e c) (O := []) (.inl ⟨rfl, rfl⟩) (by simp) rfl

theorem fls (h : Hp S w0 w its) (i : Nat) {y : Option Addr} {e : TypeId} {c : List Value} {K : Option Addr → World → Prop} (hi : its[i]? = some (tOpt y e c))
    (hK : ∀ y' w', Hp S w0 w' (its.set i (tOpt y' e c)) → K y' w') : FlS [(.cells c.toArray e, y)] w K := by
  refine ⟨hK y w (by rw [set_same hi]; exact h), fun q o ho hy => ?_⟩
  have hq : q = 0 := by
    rcases Nat.eq_zero_or_pos q with h | h
    · exact h
    · rw [List.getElem?_eq_none (by simp only [List.map_cons, List.map_nil, List.length_singleton]; omega)] at ho; cases ho
  subst hq
  simp only [List.map_cons, List.map_nil, List.getElem?_cons_zero, Option.some.injEq] at ho hy
  subst ho
  subst hy
  obtain ⟨O, hO, back⟩ := h.step hi rfl
  rcases hO with ⟨_, rfl⟩ | ⟨b, hb, _⟩
  · exact hK _ _ (back (t' := tOpt (some ⟨w.heap.size, 0, none⟩) e c) (O' := [w.heap.size]) (Fr.alloc w _) (.inr ⟨_, rfl, Blk.alloc w c e, rfl⟩) (by simp) rfl)
  · cases hb

theorem need (h : Hp S w0 w its) (i : Nat) {y : Option Addr} {e : TypeId} {c : List Value} {K : Addr → Prop} (hi : its[i]? = some (tOpt y e c))
    (hK : ∀ b, Hp S w0 w (its.set i (tBlk b e c)) → K ⟨b, 0, none⟩) : Need y K := by
  cases y with
  | none => trivial
  | some a =>
    obtain ⟨O, hO, back⟩ := h.step hi rfl
    rcases hO with ⟨h1, _⟩ | ⟨b, hb, h2, rfl⟩
    · cases h1
    · simp only [Option.some.injEq] at hb
      subst hb
      exact hK b (back (Fr.refl _ _) (t' := tBlk b e c) (O' := [b]) ⟨h2, rfl⟩ (fun k hk => .inl hk) rfl)

/-! ### Slices -/

section
variable {α : Type} {f : α → List Value} {n : Nat} {e : TypeId}

/-- What may be read as a list. -/
structure Reads (t : Thing) (s : Sl) (n : Nat) (f : α → List Value) (l : List α) : Prop where
  rd : ∀ {w O}, t.holds w O → ∃ o, SlR w s n f l o

theorem rdSl {s : Sl} {l : List α} : Reads (tSl s e n f l) s n f l := ⟨fun {w O} h => ⟨O, SlF.toR h⟩⟩
theorem rdRd {s : Sl} {l : List α} : Reads (tRd s n f l) s n f l := ⟨fun {w O} h => ⟨O, h⟩⟩

theorem len (h : Hp S w0 w its) (i : Nat) {s : Sl} {l : List α} (hi : (its[i]?).map Thing.holds = some (tSl s e n f l).holds) : l.length = s.len := by
  obtain ⟨O, hO⟩ := h.see' hi
  exact hO.len
theorem lenR (h : Hp S w0 w its) (i : Nat) {s : Sl} {l : List α} (hi : (its[i]?).map Thing.holds = some (tRd s n f l).holds) : l.length = s.len := by
  obtain ⟨O, hO⟩ := h.see' hi
  exact SlR.len (n := n) (w := w) (o := O) (f := f) hO
theorem cap (h : Hp S w0 w its) (i : Nat) {s : Sl} {l : List α} (hi : (its[i]?).map Thing.holds = some (tSl s e n f l).holds) : s.len ≤ s.cap := by
  obtain ⟨O, hO⟩ := h.see' hi
  rcases hO.2 with ⟨_, h1, h2, _⟩ | ⟨_, _, _, _, _, _, h, _⟩ <;> omega

/-- An owned slice as one to be read. -/
theorem toRd (h : Hp S w0 w its) {i : Nat} {s : Sl} {l : List α} (hi : its[i]? = some (tSl s e n f l)) : Hp S w0 w (its.set i (tRd s n f l)) :=
  h.weak hi rfl (fun w O h => SlF.toR h) rfl

theorem nil (h : Hp S w0 w its) (e : TypeId) (n : Nat) (f : α → List Value) : Hp S w0 w (its ++ [tSl ⟨none, 0, 0⟩ e n f ([] : List α)]) :=
  h.grow (Fr.refl _ _) (t := tSl ⟨none, 0, 0⟩ e n f []) (O := []) SlF.nil (by simp) rfl

/-- An element read, of one cell. -/
theorem ixld (h : Hp S w0 w its) (i : Nat) {k : Kd} {s : Sl} {l : List α} {j : Int} {y : α} {x : k.T} {K : k.T → Prop} (hi : (its[i]?).map Thing.holds = some (tSl s e 1 f l).holds) (h0 : 0 ≤ j) (hy : l[j.toNat]? = some y) (hf : ∀ x, (f x).length = 1) (hx : (f y)[0]? = some (k.inj x)) (hK : K x) :
    Ix s.a s.len j 1 fun a => Ld k w a K := by
  obtain ⟨O, hO⟩ := h.see' hi
  exact SlR.ix hf (SlF.toR hO) h0 hy fun a ha => ldR0 (ha 0 (by omega)) hx hK
theorem ixldR (h : Hp S w0 w its) (i : Nat) {k : Kd} {s : Sl} {l : List α} {j : Int} {y : α} {x : k.T} {K : k.T → Prop} (hi : (its[i]?).map Thing.holds = some (tRd s 1 f l).holds) (h0 : 0 ≤ j) (hy : l[j.toNat]? = some y) (hf : ∀ x, (f x).length = 1) (hx : (f y)[0]? = some (k.inj x)) (hK : K x) :
    Ix s.a s.len j 1 fun a => Ld k w a K := by
  obtain ⟨O, hO⟩ := h.see' hi
  exact SlR.ix hf hO h0 hy fun a ha => ldR0 (ha 0 (by omega)) hx hK

theorem ixldU (h : Hp S w0 w its) (i : Nat) {u : Thing} {k : Kd} {s : Sl} {l : List α} {j : Int} {y : α} {x : k.T} {K : k.T → Prop} (hi : (its[i]?).map Thing.holds = some u.holds) (hu : Reads u s 1 f l) (h0 : 0 ≤ j) (hy : l[j.toNat]? = some y) (hf : ∀ x, (f x).length = 1) (hx : (f y)[0]? = some (k.inj x)) (hK : K x) :
    Ix s.a s.len j 1 fun a => Ld k w a K := by
  obtain ⟨O, hO⟩ := h.see' hi
  obtain ⟨o, hO⟩ := hu.rd hO
  exact SlR.ix hf hO h0 hy fun a ha => ldR0 (ha 0 (by omega)) hx hK
theorem lenU (h : Hp S w0 w its) (i : Nat) {u : Thing} {s : Sl} {l : List α} (hi : (its[i]?).map Thing.holds = some u.holds) (hu : Reads u s n f l) : l.length = s.len := by
  obtain ⟨O, hO⟩ := h.see' hi
  obtain ⟨o, hO⟩ := hu.rd hO
  exact hO.len

/-- An element read, of two cells. -/
theorem ixld2 (h : Hp S w0 w its) (i : Nat) {k k' : Kd} {s : Sl} {l : List α} {j : Int} {y : α} {x : k.T} {x' : k'.T} {K : k.T → k'.T → Prop} (hi : (its[i]?).map Thing.holds = some (tSl s e 2 f l).holds) (h0 : 0 ≤ j) (hy : l[j.toNat]? = some y) (hf : ∀ x, (f x).length = 2) (hx : (f y)[0]? = some (k.inj x)) (hx' : (f y)[1]? = some (k'.inj x')) (hK : K x x') :
    Ix s.a s.len j 2 fun a => Ld k w a fun x => Ld k' w (a.add 1) fun x' => K x x' := by
  obtain ⟨O, hO⟩ := h.see' hi
  exact SlR.ix hf (SlF.toR hO) h0 hy fun a ha => ldR0 (ha 0 (by omega)) hx (ldR (ha 1 (by omega)) hx' hK)
theorem ixld2R (h : Hp S w0 w its) (i : Nat) {k k' : Kd} {s : Sl} {l : List α} {j : Int} {y : α} {x : k.T} {x' : k'.T} {K : k.T → k'.T → Prop} (hi : (its[i]?).map Thing.holds = some (tRd s 2 f l).holds) (h0 : 0 ≤ j) (hy : l[j.toNat]? = some y) (hf : ∀ x, (f x).length = 2) (hx : (f y)[0]? = some (k.inj x)) (hx' : (f y)[1]? = some (k'.inj x')) (hK : K x x') :
    Ix s.a s.len j 2 fun a => Ld k w a fun x => Ld k' w (a.add 1) fun x' => K x x' := by
  obtain ⟨O, hO⟩ := h.see' hi
  exact SlR.ix hf hO h0 hy fun a ha => ldR0 (ha 0 (by omega)) hx (ldR (ha 1 (by omega)) hx' hK)

/-- An element read, of any cells. -/
theorem ixr (h : Hp S w0 w its) (i : Nat) {s : Sl} {l : List α} {j : Int} {y : α} {K : Addr → Prop} (hi : (its[i]?).map Thing.holds = some (tSl s e n f l).holds) (h0 : 0 ≤ j) (hy : l[j.toNat]? = some y) (hf : ∀ x, (f x).length = n)
    (hK : ∀ a, (∀ m, m < n → w.cell? (a.add m) = (f y)[m]?) → K a) : Ix s.a s.len j n K := by
  obtain ⟨O, hO⟩ := h.see' hi
  exact SlR.ix hf (SlF.toR hO) h0 hy hK
theorem ixrR (h : Hp S w0 w its) (i : Nat) {s : Sl} {l : List α} {j : Int} {y : α} {K : Addr → Prop} (hi : (its[i]?).map Thing.holds = some (tRd s n f l).holds) (h0 : 0 ≤ j) (hy : l[j.toNat]? = some y) (hf : ∀ x, (f x).length = n)
    (hK : ∀ a, (∀ m, m < n → w.cell? (a.add m) = (f y)[m]?) → K a) : Ix s.a s.len j n K := by
  obtain ⟨O, hO⟩ := h.see' hi
  exact SlR.ix hf hO h0 hy hK

/-- An element written, of one cell. -/
theorem ixst (h : Hp S w0 w its) (i : Nat) {s : Sl} {l : List α} {j : Int} {y : α} {v : Value} {K : World → Prop} (hi : its[i]? = some (tSl s e 1 f l)) (h0 : 0 ≤ j) (hlt : j.toNat < l.length) (hf : ∀ x, (f x).length = 1) (hy : f y = [v]) (hv : v.oneCell' = true)
    (hK : ∀ w', Hp S w0 w' (its.set i (tSl s e 1 f (l.set j.toNat y))) → K w') : Ix s.a s.len j 1 fun a => St a v w K := by
  obtain ⟨O, hO, back⟩ := h.step hi rfl
  refine SlF.ix hf hO h0 (x := l[j.toNat]) (by simp [hlt]) fun b off c ho hb hoff hcs hput => ?_
  refine Go.Den.st hb (by omega) hv fun w' hb' hf' _ => hK w' (back (t' := tSl s e 1 f (l.set j.toNat y)) (O' := O) (by rw [ho]; exact hf') (hput w' y ?_) (fun k hk => .inl hk) rfl)
  have e1 : c.set off v = c.take off ++ f y ++ c.drop (off + 1) := by
    rw [List.set_eq_take_append_cons_drop, if_pos (by omega), hy]; simp
  rw [← e1]; exact hb'

/-- .. of two cells. -/
theorem ixst2 (h : Hp S w0 w its) (i : Nat) {s : Sl} {l : List α} {j : Int} {y : α} {v v' : Value} {K : World → Prop} (hi : its[i]? = some (tSl s e 2 f l)) (h0 : 0 ≤ j) (hlt : j.toNat < l.length) (hf : ∀ x, (f x).length = 2) (hy : f y = [v, v']) (hv : v.oneCell' = true) (hv' : v'.oneCell' = true)
    (hK : ∀ w', Hp S w0 w' (its.set i (tSl s e 2 f (l.set j.toNat y))) → K w') : Ix s.a s.len j 2 fun a => St a v w fun w => St (a.add 1) v' w K := by
  obtain ⟨O, hO, back⟩ := h.step hi rfl
  refine SlF.ix hf hO h0 (x := l[j.toNat]) (by simp [hlt]) fun b off c ho hb hoff hcs hput => ?_
  refine Go.Den.st hb (by omega) hv fun w1 hb1 hf1 _ => Go.Den.sto hb1 (by simp; omega) hv' fun w' hb' hf' _ => hK w' (back (t' := tSl s e 2 f (l.set j.toNat y)) (O' := O) (by rw [ho]; exact hf1.trans hf' (by simp)) (hput w' y ?_) (fun k hk => .inl hk) rfl)
  have e1 : (c.set off v).set (off + 1) v' = c.take off ++ f y ++ c.drop (off + 2) := by
    apply List.ext_getElem?
    intro m
    rw [hy]
    have l1 : (List.take off c).length = off := by rw [List.length_take]; omega
    simp only [List.getElem?_set, List.getElem?_append, List.length_append, l1, List.length_cons, List.length_nil, List.length_set, List.getElem?_take, List.getElem?_drop]
    by_cases h1 : m < off
    · rw [if_neg (by omega), if_neg (by omega), if_pos (by omega), if_pos h1, if_pos h1]
    · by_cases h2 : m = off
      · subst h2
        rw [if_neg (by omega), if_pos rfl, if_pos (by omega), if_pos (by omega), if_neg (by omega)]
        simp
      · by_cases h3 : m = off + 1
        · subst h3
          rw [if_pos rfl, if_pos (by omega), if_pos (by omega), if_neg (by omega)]
          simp
        · rw [if_neg (by omega), if_neg (by omega), if_neg (by omega)]
          congr 1; omega
  rw [← e1]; exact hb'

/-! Elements of any cells, at addresses that stay. -/

theorem ixk (h : Hp S w0 w its) (i : Nat) {u : Thing} {s : Sl} {l : List α} {j : Int} {K : Addr → Prop} (hi : (its[i]?).map Thing.holds = some u.holds) (hu : Reads u s n f l) (h0 : 0 ≤ j) (hlt : j.toNat < l.length) (hK : ∀ x, s.a = some x → K (x.add (j.toNat * n))) : Ix s.a s.len j n K := by
  obtain ⟨O, hO⟩ := h.see' hi
  obtain ⟨o, hR⟩ := hu.rd hO
  refine ⟨h0, by have := hR.1; omega, ?_⟩
  rcases hR.2 with ⟨h1, _⟩ | ⟨x, h1, _⟩
  · have := hR.1; omega
  · rw [h1]
    exact hK x h1

theorem celk (h : Hp S w0 w its) (i : Nat) {u : Thing} {s : Sl} {l : List α} {j m : Nat} {x : Addr} {y : α} {v : Value} (hi : (its[i]?).map Thing.holds = some u.holds) (hu : Reads u s n f l) (hx : s.a = some x) (hf : ∀ x, (f x).length = n) (hy : l[j]? = some y) (hm : (f y)[m]? = some v) :
    w.cell? ((x.add (j * n)).add m) = some v := by
  obtain ⟨O, hO⟩ := h.see' hi
  obtain ⟨o, hR⟩ := hu.rd hO
  have hlt := (List.getElem?_eq_some_iff.1 hy).1
  rcases hR.2 with ⟨h1, _⟩ | ⟨x', h1, _, _, h2⟩
  · have := hR.1; omega
  · obtain rfl : x' = x := Option.some.inj (h1.symm.trans hx)
    rw [Addr.add_add_any]
    have hmn : m < n := by have := (List.getElem?_eq_some_iff.1 hm).1; rw [hf] at this; exact this
    exact h2 _ _ ((fm_get hf hy hmn).trans hm)
theorem celk0 (h : Hp S w0 w its) (i : Nat) {u : Thing} {s : Sl} {l : List α} {j : Nat} {x : Addr} {y : α} {v : Value} (hi : (its[i]?).map Thing.holds = some u.holds) (hu : Reads u s n f l) (hx : s.a = some x) (hf : ∀ x, (f x).length = n) (hy : l[j]? = some y) (hm : (f y)[0]? = some v) :
    w.cell? (x.add (j * n)) = some v := Addr.add_zero_cell (h.celk i hi hu hx hf hy hm)
theorem ldk (h : Hp S w0 w its) (i : Nat) {u : Thing} {s : Sl} {l : List α} {j m : Nat} {x : Addr} {y : α} {k : Kd} {v : k.T} {K : k.T → Prop} (hi : (its[i]?).map Thing.holds = some u.holds) (hu : Reads u s n f l) (hx : s.a = some x) (hf : ∀ x, (f x).length = n) (hy : l[j]? = some y) (hm : (f y)[m]? = some (k.inj v)) (hK : K v) :
    Ld k w ((x.add (j * n)).add m) K := ⟨v, h.celk i hi hu hx hf hy hm, hK⟩
theorem ldk0 (h : Hp S w0 w its) (i : Nat) {u : Thing} {s : Sl} {l : List α} {j : Nat} {x : Addr} {y : α} {k : Kd} {v : k.T} {K : k.T → Prop} (hi : (its[i]?).map Thing.holds = some u.holds) (hu : Reads u s n f l) (hx : s.a = some x) (hf : ∀ x, (f x).length = n) (hy : l[j]? = some y) (hm : (f y)[0]? = some (k.inj v)) (hK : K v) :
    Ld k w (x.add (j * n)) K := ⟨v, h.celk0 i hi hu hx hf hy hm, hK⟩

/-- Cells written one behind the other. -/
def setsAt (c : List Value) (off : Nat) : List Value → List Value
  | [] => c
  | v :: vs => setsAt (c.set off v) (off + 1) vs

theorem setsAt_eq : ∀ (vs c : List Value) (off : Nat), off + vs.length ≤ c.length → setsAt c off vs = c.take off ++ vs ++ c.drop (off + vs.length)
  | [], c, off, _ => by simp [setsAt]
  | v :: vs, c, off, h => by
    simp only [List.length_cons] at h
    rw [setsAt, setsAt_eq vs _ _ (by simp; omega)]
    have e1 : (c.set off v).take (off + 1) = c.take off ++ [v] := by
      rw [List.take_set, List.take_succ_eq_append_getElem (by omega)]
      have : (List.take off c).length = off := by rw [List.length_take]; omega
      rw [List.set_append_right _ _ (by omega)]
      simp [this]
    have e2 : (c.set off v).drop (off + 1 + vs.length) = c.drop (off + (v :: vs).length) := by
      rw [List.drop_set_of_lt (by omega)]
      congr 1
      simp only [List.length_cons]; omega
    rw [e1, e2]
    simp

/-- An element of any cells, to be written. -/
theorem ixw (h : Hp S w0 w its) (i : Nat) {s : Sl} {l : List α} {j : Int} {K : Addr → Prop} (hi : its[i]? = some (tSl s e n f l)) (h0 : 0 ≤ j) (hlt : j.toNat < l.length) (hf : ∀ x, (f x).length = n)
    (hK : ∀ b off c, off + n ≤ c.length → Hp S w0 w (its.set i (tBlk b e c)) → (∀ {w' : World} {its' : List Thing} (y : α), Hp S w0 w' its' → its'[i]? = some (tBlk b e (setsAt c off (f y))) → Hp S w0 w' (its'.set i (tSl s e n f (l.set j.toNat y)))) → K ⟨b, off, none⟩) :
    Ix s.a s.len j n K := by
  obtain ⟨O, hO, back⟩ := h.step hi rfl
  refine SlF.ix hf hO h0 (x := l[j.toNat]) (by simp [hlt]) fun b off c ho hb hoff hcs hput => ?_
  refine hK b off c hoff (back (t' := tBlk b e c) (O' := [b]) (Fr.refl _ _) ⟨hb, rfl⟩ (by rw [ho]; exact fun k hk => .inl hk) rfl) fun {w' its'} y hp hi' => ?_
  refine hp.weak hi' rfl (fun w2 O2 h2 => ?_) rfl
  obtain ⟨hb2, rfl⟩ := h2
  have := hput w2 y (by rw [setsAt_eq _ _ _ (by rw [hf]; exact hoff), hf] at hb2; exact hb2)
  rw [ho] at this
  exact this

theorem stq (h : Hp S w0 w its) (i : Nat) {b o m : Nat} {e : TypeId} {c : List Value} {v : Value} {K : World → Prop}
    (hi : its[i]? = some (tBlk b e c)) (ho : o + m < c.length) (hv : v.oneCell' = true) (hK : ∀ w', Hp S w0 w' (its.set i (tBlk b e (c.set (o + m) v))) → K w') : St ((⟨b, o, none⟩ : Addr).add m) v w K := by
  rw [Addr.add_none]
  exact h.stv i hi ho hv hK

/-- A piece of a slice, in its stead. -/
theorem cut (h : Hp S w0 w its) (i : Nat) {s : Sl} {l : List α} {a b m : Int} {K : Sl → Prop} (hi : its[i]? = some (tSl s e n f l)) (hf : ∀ x, (f x).length = n) (h0 : 0 ≤ a) (h1 : a ≤ b) (h2 : b ≤ m) (h3 : m ≤ s.cap) (h4 : b ≤ s.len)
    (hK : ∀ s', Hp S w0 w (its.set i (tSl s' e n f ((l.take b.toNat).drop a.toNat))) → s'.len = b.toNat - a.toNat → s'.cap = m.toNat - a.toNat → (s'.a = none ↔ s.a = none) → K s') : Cut s a b m n K := by
  obtain ⟨O, hO, back⟩ := h.step hi rfl
  exact SlF.cut hf hO h0 h1 h2 h3 h4 fun s' hs hl hc hn => hK s' (back (Fr.refl _ _) (t' := tSl s' e n f _) hs (fun k hk => .inl hk) rfl) hl hc hn

/-- A piece of a slice, to be read beside it. -/
theorem cutv {u : Thing} {s : Sl} {l : List α} {a b m : Int} {K : Sl → Prop} (hu : Reads u s n f l) (hl : l.length = s.len) (hf : ∀ x, (f x).length = n) (h0 : 0 ≤ a) (h1 : a ≤ b) (h2 : b ≤ m) (h3 : m ≤ s.cap) (h4 : b ≤ s.len)
    (hK : ∀ s', Reads u s' n f ((l.take b.toNat).drop a.toNat) → s'.len = b.toNat - a.toNat → s'.cap = m.toNat - a.toNat → K s') : Cut s a b m n K := by
  refine ⟨h0, h1, h2, h3, hK _ ⟨fun {w O} hO => ?_⟩ rfl rfl⟩
  obtain ⟨o, hR⟩ := hu.rd hO
  by_cases hz : b.toNat - a.toNat = 0
  · refine ⟨[], ⟨?_, .inl ⟨hz, rfl⟩⟩⟩
    simp only [List.length_drop, List.length_take]; omega
  · rcases hR.2 with ⟨q1, _⟩ | ⟨x, q1, q2, q3, q4⟩
    · omega
    · refine ⟨[x.block], ⟨by simp only [List.length_drop, List.length_take]; omega, .inr ⟨x.add (a.toNat * n), ?_, ?_, ?_, ?_⟩⟩⟩
      · show (if m.toNat = a.toNat then s.a else _) = _
        rw [if_neg (by omega), q1]; rfl
      · rw [Addr.add_block]
      · rw [Addr.add_block]; exact q3
      · intro j v hj
        rw [Addr.add_add_any]
        refine q4 _ _ ?_
        rw [← fm_drop hf, ← fm_take hf, List.getElem?_drop, List.getElem?_take] at hj
        split at hj
        · exact hj
        · cases hj

/-- A new slice. -/
theorem mks (h : Hp S w0 w its) {z : List Value} {bytes : Nat} {k c : Int} {K : Sl → World → Prop} {x0 : α} (hf : ∀ x, (f x).length = n) (hz : f x0 = z) (h0 : 0 ≤ k) (h1 : k ≤ c) (h2 : c ≤ 281474976710656) (h3 : bytes * c ≤ 281474976710656)
    (hK : ∀ s w', Hp S w0 w' (its ++ [tSl s e n f (List.replicate k.toNat x0)]) → s.len = k.toNat → s.cap = c.toNat → s.a ≠ none → K s w') : Mk z e bytes k c w K := by
  refine ⟨h0, h1, h2, h3, ?_⟩
  have hrow : ∀ m, (List.replicate m x0).flatMap f = zrow z m := by
    intro m
    induction m with
    | zero => rfl
    | succ m ih => rw [List.replicate_succ, List.flatMap_cons, ih, hz]; rfl
  refine hK _ _ ?_ rfl rfl (by simp)
  refine h.grow (Fr.alloc w _) (t := tSl ⟨some ⟨w.heap.size, 0, none⟩, k.toNat, c.toNat⟩ e n f (List.replicate k.toNat x0)) (O := [w.heap.size]) ?_ (by simp) rfl
  refine ⟨by simp, .inr ⟨w.heap.size, 0, zrow z c.toNat, rfl, rfl, Blk.alloc w _ e, ?_, ?_, ?_⟩⟩
  · show k.toNat ≤ c.toNat; omega
  · show 0 + c.toNat * n ≤ _
    rw [← hrow, fm_len hf, List.length_replicate]; omega
  · show List.take (k.toNat * n) _ = _
    rw [List.drop_zero, ← hrow, fm_take hf, List.take_replicate, Nat.min_eq_left (by omega)]

/-- A new block as a slice of all of it. -/
theorem blkSl (h : Hp S w0 w its) {i b m : Nat} {c : List Value} {l : List α} (hi : its[i]? = some (tBlk b e c)) (hc : c = l.flatMap f) (hm : l.length = m) (hf : ∀ x, (f x).length = n) : Hp S w0 w (its.set i (tSl ⟨some ⟨b, 0, none⟩, m, m⟩ e n f l)) :=
  h.weak hi rfl (fun w O hO => by
    obtain ⟨hb, rfl⟩ := hO
    subst hc
    exact SlF.blk hb hm hf) rfl

section
variable {P : Program}

/-- append of one element, out of its block. -/
theorem app (h : Hp S w0 w its) (i j : Nat) {s : Sl} {t ty e' : TypeId} {inf : TypeInfo} {z : Value} {l : List α} {y : α} {b c' : Nat} {c : List Value} {K : Sl → World → Prop} (hi : its[i]? = some (tSl s e n f l)) (hj : (its[j]?).map Thing.holds = some (tBlk b e' c).holds) (hf : ∀ x, (f x).length = n)
    (ht : P.underlying t = some (.slice e)) (hinf : P.info? e = some inf) (hsz : inf.size = n) (hz : inf.zero = some z) (hz1 : z.cells.size = n) (hc : c = f y) (h1 : ∀ u ∈ f y, u.oneCell' = true)
    (hb : (s.len + 1) * inf.bytes ≤ 140737488355328) (hn : s.len + 1 ≤ 140737488355328)
    (hK : ∀ s' w', Hp S w0 w' (its.set i (tSl s' e n f (l ++ [y]))) → s'.len = s.len + 1 → s'.a ≠ none → K s' w') :
    Run .sl P (Builtin.append_ #[t, t] ty #[.slice s.a s.len s.cap, .slice (some ⟨b, 0, none⟩) 1 c']) w K := by
  obtain ⟨Ob, hO, _⟩ := h.see' hj
  obtain ⟨O, hs, back⟩ := h.step hi rfl
  refine SlF.app hf ht hinf hsz hz hz1 hs (news := [y]) rfl ?_ (by simpa using h1) hb hn ?_
  · intro m u hm
    rw [Addr.add_none, hO.cell, Nat.zero_add, hc]
    simpa using hm
  · intro s' w' o' hs' hl' ho' hg hf' _ hn'
    refine hK s' w' (back (t' := tSl s' e n f (l ++ [y])) hf' hs' ?_ rfl) hl' (hn' (.inr (by omega)))
    rcases ho' with rfl | ⟨k, h1, _, rfl⟩
    · exact fun k hk => .inl hk
    · intro k' hk'; simp only [List.mem_singleton] at hk'; subst hk'; exact .inr h1

/-- append of one new element. -/
theorem nwapp (h : Hp S w0 w its) (i : Nat) {s : Sl} {t ty e' : TypeId} {inf : TypeInfo} {z : Value} {l : List α} {c' : Nat} {c : List Value} {K : Sl → World → Prop} (y : α) (hi : its[i]? = some (tSl s e n f l)) (hf : ∀ x, (f x).length = n)
    (ht : P.underlying t = some (.slice e)) (hinf : P.info? e = some inf) (hsz : inf.size = n) (hz : inf.zero = some z) (hz1 : z.cells.size = n) (hc : c = f y) (h1 : ∀ u ∈ f y, u.oneCell' = true)
    (hb : (s.len + 1) * inf.bytes ≤ 140737488355328) (hn : s.len + 1 ≤ 140737488355328)
    (hK : ∀ s' w', Hp S w0 w' (its.set i (tSl s' e n f (l ++ [y]))) → s'.len = s.len + 1 → s'.a ≠ none → K s' w') :
    Nw (.cells c.toArray e') w fun b w => Run .sl P (Builtin.append_ #[t, t] ty #[.slice s.a s.len s.cap, .slice (some b) 1 c']) w K := by
  have hl := (List.getElem?_eq_some_iff.1 hi).1
  refine h.nw fun b w h => ?_
  refine h.app i its.length (e' := e') (c := c) (by rw [List.getElem?_append_left hl]; exact hi) (by simp) hf ht hinf hsz hz hz1 hc h1 hb hn fun s' w' h h1 h2 => hK s' w' ?_ h1 h2
  rw [List.set_append_left _ _ hl] at h
  exact h.front

/-- append of a slice. -/
theorem appS (h : Hp S w0 w its) (i j : Nat) {s s2 : Sl} {t ty : TypeId} {inf : TypeInfo} {z : Value} {l news : List α} {K : Sl → World → Prop} (hi : its[i]? = some (tSl s e n f l)) {u : Thing} (hj : its[j]? = some u) (hu : Reads u s2 n f news) (hf : ∀ x, (f x).length = n)
    (ht : P.underlying t = some (.slice e)) (hinf : P.info? e = some inf) (hsz : inf.size = n) (hz : inf.zero = some z) (hz1 : z.cells.size = n) (h1 : ∀ x, ∀ u ∈ f x, u.oneCell' = true)
    (hb : (s.len + s2.len) * inf.bytes ≤ 140737488355328) (hn : s.len + s2.len ≤ 140737488355328)
    (hK : ∀ s' w', Hp S w0 w' (its.set i (tSl s' e n f (l ++ news))) → s'.len = s.len + s2.len → (s.a ≠ none ∨ s2.len ≠ 0 → s'.a ≠ none) → K s' w') :
    Run .sl P (Builtin.append_ #[t, t] ty #[.slice s.a s.len s.cap, .slice s2.a s2.len s2.cap]) w K := by
  obtain ⟨Ou, hO⟩ := h.see hj
  obtain ⟨o2, h2⟩ := hu.rd hO
  obtain ⟨O, hs, back⟩ := h.step hi rfl
  refine SlF.appS hf ht hinf hsz hz hz1 hs h2 h1 hb hn ?_
  intro s' w' o' hs' hl' ho' hg hf' _ hn'
  refine hK s' w' (back (t' := tSl s' e n f (l ++ news)) hf' hs' ?_ rfl) hl' hn'
  rcases ho' with rfl | ⟨k, h1, _, rfl⟩
  · exact fun k hk => .inl hk
  · intro k' hk'; simp only [List.mem_singleton] at hk'; subst hk'; exact .inr h1

/-- copy of all of a slice to the front of another. -/
theorem copy (h : Hp S w0 w its) (i j : Nat) (hij : i ≠ j) {s s2 : Sl} {t t2 ty : TypeId} {inf : TypeInfo} {l news : List α} {K : Int → World → Prop} (hi : its[i]? = some (tSl s e n f l)) {u : Thing} (hj : its[j]? = some u) (hu : Reads u s2 n f news) (hf : ∀ x, (f x).length = n)
    (ht : P.underlying t = some (.slice e)) (hinf : P.info? e = some inf) (hsz : inf.size = n) (h1 : ∀ x, ∀ u ∈ f x, u.oneCell' = true) (hle : s2.len ≤ s.len)
    (hK : ∀ w', Hp S w0 w' (its.set i (tSl s e n f (news ++ l.drop s2.len))) → K s2.len w') :
    Run (.i .i64) P (Builtin.copy_ #[t, t2] ty #[.slice s.a s.len s.cap, .slice s2.a s2.len s2.cap]) w K := by
  obtain ⟨Ou, hO⟩ := h.see hj
  obtain ⟨o2, h2⟩ := hu.rd hO
  obtain ⟨O, hs, back⟩ := h.step hi rfl
  have hnl : (news.flatMap f).length = s2.len * n := by rw [fm_len hf, h2.1]
  have hmin : Nat.min s2.len s.len = s2.len := Nat.min_eq_left hle
  have hone : ∀ u ∈ news.flatMap f, u.oneCell' = true := fun u hu => by
    obtain ⟨x, _, hu⟩ := List.mem_flatMap.1 hu
    exact h1 x u hu
  have hcells : (Builtin.firstCells inf.size s2.len (.slice s2.a s2.len s2.cap)).run P w = .ok (news.flatMap f).toArray w := by
    rw [hsz]
    rcases h2.2 with ⟨hl0, ho⟩ | ⟨x, ha, ho, _, hcell⟩
    · have : news = [] := List.eq_nil_of_length_eq_zero (by rw [h2.1, hl0])
      subst this
      rw [hl0]
      cases s2.a <;> simp [Builtin.firstCells, loadCells, loadCellsFrom]
    · rw [ha]
      exact run_firstCells_some (P := P) w n s2.len x s2.len s2.cap (news.flatMap f) hnl hcell
  have hvl := hs.1
  rcases hs.2 with ⟨ha, hl0, hc0, ho⟩ | ⟨b, off, c, ha, ho, hbk, hcap, hoff, htk⟩
  · have hm : s2.len = 0 := by omega
    have hnn : news = [] := List.eq_nil_of_length_eq_zero (by rw [h2.1, hm])
    have hll : l = [] := List.eq_nil_of_length_eq_zero (by omega)
    subst hnn; subst hll
    refine ⟨(0 : Int), w, ?_, ?_⟩
    · rw [hm] at hcells
      rw [ha, hl0, hm]
      simp only [Builtin.copy_]
      have e0 : (#[t, t2] : Array TypeId)[0]? = some t := rfl
      simp [run_underlying ht, Builtin.lenOf, sizeOf, typeInfo, hinf, hcells, Kd.inj, goInt]
    · have := hK w (by
        have h3 := back (Fr.refl _ _) (t' := tSl s e n f ([] ++ List.drop s2.len [])) (O' := O) (by simpa using hs) (fun k hk => .inl hk) rfl
        exact h3)
      rw [hm] at this
      exact this
  · subst ho
    have hcap' : s.len * n ≤ s.cap * n := Nat.mul_le_mul_right _ hcap
    have hle' : s2.len * n ≤ s.len * n := Nat.mul_le_mul_right _ hle
    have hst := run_storeCells_at P b off e (news.flatMap f) 0 c.toArray w hbk (by simp only [List.size_toArray, hnl]; omega) hone
    refine ⟨(s2.len : Int), w.setRow b (c.take off ++ news.flatMap f ++ c.drop (off + (news.flatMap f).length)).toArray, ?_, hK _ ?_⟩
    · rw [ha]
      simp only [Nat.add_zero] at hst
      simp only [Builtin.copy_]
      simp [run_underlying ht, Builtin.lenOf, sizeOf, typeInfo, hinf, hcells, hmin, hst, Kd.inj, goInt]
    · refine back (t' := tSl s e n f (news ++ l.drop s2.len)) (O' := [b]) ⟨rfl, rfl, rfl, by simp, fun k _ hk => setRow_other w b k _ (fun e => hk (by simp [e]))⟩ ?_ (fun k hk => .inl hk) rfl
      refine ⟨by simp [h2.1]; omega, .inr ⟨b, off, _, ha, rfl, setRow_heap w b c.toArray _ e _ hbk, hcap, ?_, ?_⟩⟩
      · simp only [List.length_append, List.length_take, List.length_drop, hnl]; omega
      rw [List.flatMap_append, ← fm_drop hf, ← htk]
      apply List.ext_getElem?
      intro q
      simp only [List.getElem?_take, List.getElem?_drop, List.getElem?_append, List.length_append, List.length_take, List.length_drop, hnl]
      have e1 : min off c.length = off := by omega
      rw [e1]
      by_cases hq : q < s.len * n
      · rw [if_pos hq]
        by_cases hq2 : q < s2.len * n
        · rw [if_pos (by omega), if_neg (by omega), if_pos hq2]
          congr 1; omega
        · rw [if_neg (by omega), if_neg hq2, if_pos (by omega)]
          congr 1; omega
      · rw [if_neg hq, if_neg (by omega), if_neg (by omega)]

end
end
end Hp
end Go.Den
