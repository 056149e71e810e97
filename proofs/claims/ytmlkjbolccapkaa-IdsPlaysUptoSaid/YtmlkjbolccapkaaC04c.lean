/-
  Pools stay in order: plain laws of the pool's model.
-/
import Derived.Test.YtmlkjbolccapkaaC04b
set_option linter.unusedSimpArgs false
set_option linter.unusedVariables false
namespace Go.Proofs.Ytmlkjbolccapkaa.F
open Go Go.Den Go.Proofs

theorem getD_set {α : Type} (l : List α) (i j : Nat) (v d : α) : (l.set i v).getD j d = if i = j ∧ j < l.length then v else l.getD j d := by
  simp only [List.getD_eq_getElem?_getD, List.getElem?_set]
  by_cases h1 : i = j
  · subst h1
    by_cases h2 : i < l.length
    · simp [h2]
    · simp [h2]
  · simp [h1]
theorem getD_app {α : Type} (l : List α) (j : Nat) (v d : α) : (l ++ [v]).getD j d = if j = l.length then v else l.getD j d := by
  simp only [List.getD_eq_getElem?_getD, List.getElem?_append]
  by_cases h1 : j < l.length
  · rw [if_pos h1, if_neg (by omega)]
  · rw [if_neg h1]
    by_cases h2 : j = l.length
    · subst h2; simp
    · rw [if_neg h2, List.getElem?_eq_none (by simp; omega), List.getElem?_eq_none (by omega)]

theorem count_set {l : List Bool} {i : Nat} {v : Bool} (h : i < l.length) : (l.set i v).count true + (if l[i] = true then 1 else 0) = l.count true + (if v = true then 1 else 0) := by
  induction l generalizing i with
  | nil => simp at h
  | cons x l ih =>
    cases i with
    | zero => simp only [List.set_cons_zero, List.count_cons, List.getElem_cons_zero]; cases x <;> cases v <;> simp
    | succ i =>
      have := ih (i := i) (by simpa using h)
      simp only [List.set_cons_succ, List.count_cons, List.getElem_cons_succ]
      omega

namespace PoolM
theorem Ok.new {n : Int} (h1 : 1 ≤ n) (h2 : n ≤ 200) : Ok ⟨n, [], [], []⟩ :=
  ⟨h1, h2, rfl, by simp; omega, by simp, by simp, by simp, by simp⟩

theorem lives_takeNew (m : PoolM) (hl : m.alive.length = m.gens.length) (i : Int) : m.takeNew.lives i = if i = m.gens.length then true else m.lives i := by
  simp only [lives, takeNew, getD_app, hl]
  by_cases h : i = m.gens.length
  · subst h; simp
  · rw [if_neg h]
    by_cases h0 : 0 ≤ i
    · rw [if_neg (by omega)]
    · simp [h0]
theorem gen_takeNew (m : PoolM) {i : Int} (hi : 0 ≤ i) : m.takeNew.gen i = if i = m.gens.length then 1 else m.gen i := by
  simp only [gen, takeNew, getD_app]
  by_cases h : i = m.gens.length
  · subst h; simp
  · rw [if_neg h, if_neg (by omega)]
theorem lives_takeFree (m : PoolM) {i : Int} {rest : List Int} (hi : 0 ≤ i) (hl : i.toNat < m.alive.length) (j : Int) : (m.takeFree i rest).lives j = if j = i then true else m.lives j := by
  simp only [lives, takeFree, getD_set]
  by_cases h : j = i
  · subst h; simp [hi, hl]
  · rw [if_neg h]
    by_cases h0 : 0 ≤ j
    · rw [if_neg (by omega)]
    · simp [h0]
theorem gen_takeFree (m : PoolM) {i : Int} {rest : List Int} (hi : 0 ≤ i) (hl : i.toNat < m.gens.length) {j : Int} (hj : 0 ≤ j) : (m.takeFree i rest).gen j = if j = i then m.gen i + 1 else m.gen j := by
  simp only [gen, takeFree, getD_set]
  by_cases h : j = i
  · subst h; simp [hi, hl]
  · rw [if_neg h, if_neg (by omega)]
theorem lives_give (m : PoolM) {i g : Int} (hi : 0 ≤ i) (hl : i.toNat < m.alive.length) (j : Int) : (m.give i g).lives j = if j = i then false else m.lives j := by
  simp only [lives, give, getD_set]
  by_cases h : j = i
  · subst h; simp [hi, hl]
  · rw [if_neg h]
    by_cases h0 : 0 ≤ j
    · rw [if_neg (by omega)]
    · simp [h0]
theorem gen_give (m : PoolM) {i g : Int} (j : Int) : (m.give i g).gen j = m.gen j := rfl

theorem Ok.gen {m : PoolM} (h : m.Ok) {i : Int} (h0 : 0 ≤ i) (h1 : i < m.gens.length) : 1 ≤ m.gen i ∧ m.gen i ≤ 1000000 := by
  have hl : i.toNat < m.gens.length := by omega
  simp only [PoolM.gen, List.getD_eq_getElem?_getD, List.getElem?_eq_getElem hl, Option.getD_some]
  exact h.gens _ (List.getElem_mem hl)

theorem Ok.takeNew {m : PoolM} (h : m.Ok) (hf : m.free = []) (hl : (m.gens.length : Int) < m.most) : m.takeNew.Ok where
  most1 := h.most1
  most2 := h.most2
  len := by simp [PoolM.takeNew, h.len]
  le := by simp [PoolM.takeNew]; omega
  gens := by
    intro g hg
    simp only [PoolM.takeNew, List.mem_append, List.mem_singleton] at hg
    rcases hg with hg | rfl
    · exact h.gens g hg
    · omega
  free := by simp [PoolM.takeNew, hf]
  nodup := h.nodup
  cnt := by have := h.cnt; simp [PoolM.takeNew, hf, List.count_append] at this ⊢; omega

theorem Ok.takeFree {m : PoolM} (h : m.Ok) {i : Int} {rest : List Int} (hf : m.free = i :: rest) : (m.takeFree i rest).Ok := by
  have hi := h.free i (by simp [hf])
  have hnd := h.nodup
  rw [hf, List.nodup_cons] at hnd
  have hla : i.toNat < m.alive.length := by rw [h.len]; omega
  have hlg : i.toNat < m.gens.length := by omega
  refine ⟨h.most1, h.most2, by simp [PoolM.takeFree, h.len], by simpa [PoolM.takeFree] using h.le, ?_, ?_, hnd.2, ?_⟩
  · intro g hg
    rcases List.mem_or_eq_of_mem_set hg with hg | rfl
    · exact h.gens g hg
    · have := h.gen hi.1 hi.2.1
      omega
  · intro j hj
    have hj' : j ∈ m.free := by rw [hf]; exact List.mem_cons_of_mem _ hj
    have hne : j ≠ i := fun e => hnd.1 (e ▸ hj)
    obtain ⟨a1, a2, a3, a4⟩ := h.free j hj'
    refine ⟨a1, by simpa [PoolM.takeFree] using a2, ?_, ?_⟩
    · rw [lives_takeFree m hi.1 hla, if_neg hne]; exact a3
    · rw [gen_takeFree m hi.1 hlg a1, if_neg hne]; exact a4
  · have hc := h.cnt
    have h1 := count_set (l := m.alive) (v := true) hla
    have h2 : m.alive[i.toNat] = false := by
      have := hi.2.2.1
      simpa [PoolM.lives, hi.1, hla] using this
    rw [h2] at h1
    simp only [PoolM.takeFree, List.length_set]
    rw [hf] at hc
    simp at hc h1
    omega

theorem is_iff {m : PoolM} {i g : Int} : m.is i g = true ↔ m.lives i = true ∧ m.gen i = g := by simp [PoolM.is]

theorem Ok.give {m : PoolM} (h : m.Ok) {i g : Int} (hi : m.is i g = true) : (m.give i g).Ok := by
  obtain ⟨hlv, hg⟩ := is_iff.1 hi
  obtain ⟨h0, hla, hal⟩ := lives_lt hlv
  have hlg : i.toNat < m.gens.length := by rw [← h.len]; exact hla
  have hnf : i ∉ m.free := fun hm => by have := (h.free i hm).2.2.1; rw [hlv] at this; cases this
  refine ⟨h.most1, h.most2, by simp [PoolM.give, h.len], h.le, h.gens, ?_, ?_, ?_⟩
  · intro j hj
    have : j = i ∧ g < 1000000 ∨ j ∈ m.free := by
      simp only [PoolM.give] at hj
      split at hj
      · rename_i hlt
        rcases List.mem_append.1 hj with hj | hj
        · exact .inr hj
        · exact .inl ⟨by simpa using hj, hlt⟩
      · exact .inr hj
    rcases this with ⟨rfl, hlt⟩ | hj
    · exact ⟨h0, by show j < (m.gens.length : Int); omega, by rw [lives_give m h0 hla, if_pos rfl], by rw [gen_give, hg]; exact hlt⟩
    · obtain ⟨a1, a2, a3, a4⟩ := h.free j hj
      refine ⟨a1, a2, ?_, a4⟩
      rw [lives_give m h0 hla]; split
      · rfl
      · exact a3
  · simp only [PoolM.give]
    split
    · rw [List.nodup_append]
      exact ⟨h.nodup, by simp, by intro a ha b hb e; simp at hb; subst hb; exact hnf (e ▸ ha)⟩
    · exact h.nodup
  · have hc := h.cnt
    have h1 := count_set (l := m.alive) (v := false) hla
    have h2 : m.alive[i.toNat] = true := by
      have := List.getElem?_eq_getElem hla
      rw [hal] at this; simpa using this.symm
    rw [h2] at h1
    simp only [PoolM.give]
    simp at h1
    split <;> simp <;> omega
end PoolM
end Go.Proofs.Ytmlkjbolccapkaa.F
