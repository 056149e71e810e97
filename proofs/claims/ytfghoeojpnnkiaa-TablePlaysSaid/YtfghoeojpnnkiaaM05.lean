/-
  Plain facts of a table's rows and columns.
-/
import Derived.Test.YtfghoeojpnnkiaaC05
set_option linter.unusedSimpArgs false
set_option linter.unusedVariables false
namespace Go.Proofs.Ytfghoeojpnnkiaa.F
open Go Go.Den Go.Proofs

namespace TabM

theorem at_iff {m : TabM} (h : m.owners.Nodup) {e : Ent} {i : Nat} : m.at_ e = some i ↔ m.owners[i]? = some e := by
  unfold at_
  rw [List.findIdx?_eq_some_iff_getElem]
  constructor
  · rintro ⟨h1, h2, _⟩
    simp only [decide_eq_true_eq] at h2
    rw [List.getElem?_eq_getElem h1, h2]
  · intro hi
    obtain ⟨h1, h2⟩ := List.getElem?_eq_some_iff.1 hi
    refine ⟨h1, by simpa using h2, fun j hj => ?_⟩
    simp only [decide_eq_true_eq]
    intro e'
    have := (List.getElem_inj (h₀ := Nat.lt_trans hj h1) (h₁ := h1) h).1 (e'.trans h2.symm)
    omega

theorem at_none {m : TabM} {e : Ent} : m.at_ e = none ↔ e ∉ m.owners := by
  unfold at_
  rw [List.findIdx?_eq_none_iff]
  constructor
  · intro h hm
    have := h e hm
    simp at this
  · intro h x hx
    simp only [decide_eq_false_iff_not]
    rintro rfl
    exact h hx

theorem atI_iff {m : TabM} (h : m.owners.Nodup) {e : Ent} {i : Nat} : atI m e = some (i : Int) ↔ m.owners[i]? = some e := by
  unfold atI
  rw [← at_iff h, Option.map_eq_some_iff]
  constructor
  · rintro ⟨j, hj, he⟩
    rw [hj]; congr 1; omega
  · intro hi; exact ⟨i, hi, rfl⟩

theorem atI_none {m : TabM} {e : Ent} : atI m e = none ↔ e ∉ m.owners := by
  unfold atI
  rw [Option.map_eq_none_iff, at_none]

theorem atI_some {m : TabM} (h : m.owners.Nodup) {e : Ent} {x : Int} (hx : atI m e = some x) : ∃ i : Nat, x = i ∧ m.owners[i]? = some e := by
  unfold atI at hx
  rw [Option.map_eq_some_iff] at hx
  obtain ⟨i, hi, rfl⟩ := hx
  exact ⟨i, rfl, (at_iff h).1 hi⟩

/-- Two answers are one where they say the same of every place. -/
theorem atI_ext {m : TabM} (h : m.owners.Nodup) {g : Ent → Option Int} (h1 : ∀ e x, g e = some x → ∃ i : Nat, x = i ∧ m.owners[i]? = some e) (h2 : ∀ e (i : Nat), m.owners[i]? = some e → g e = some (i : Int)) : g = atI m := by
  funext e
  cases hg : g e with
  | some x =>
    obtain ⟨i, rfl, hi⟩ := h1 e x hg
    exact ((atI_iff h).2 hi).symm
  | none =>
    symm
    rw [atI_none]
    intro hm
    obtain ⟨i, hi⟩ := List.getElem?_of_mem hm
    rw [h2 e i hi] at hg
    cases hg

/-! ### Changes -/

def add (m : TabM) (e : Ent) (vs : List Int) : TabM := ⟨m.n, m.rows ++ [(e, vs)]⟩
def set (m : TabM) (row c : Nat) (x : Int) : TabM := ⟨m.n, m.rows.modify row fun r => (r.1, r.2.set c x)⟩
/-- The last row comes in the place of the one that goes. -/
def del (m : TabM) (row : Nat) : TabM := ⟨m.n, (m.rows.set row (m.rows.getLastD ((0, 0), []))).dropLast⟩

theorem add_owners (m : TabM) (e : Ent) (vs : List Int) : (m.add e vs).owners = m.owners ++ [e] := by simp [add, owners]
theorem add_col (m : TabM) (e : Ent) (vs : List Int) (c : Nat) : (m.add e vs).col c = m.col c ++ [vs.getD c 0] := by simp [add, col]

theorem Ok.add {m : TabM} (h : m.Ok) {e : Ent} {vs : List Int} (hl : vs.length = m.n) (h2 : m.rows.length < 200) (he : e ∉ m.owners) : (m.add e vs).Ok := by
  refine ⟨h.n48, by simp [TabM.add]; omega, ?_, ?_⟩
  · rw [add_owners, List.nodup_append]
    refine ⟨h.nd, by simp, ?_⟩
    intro a ha b hb e'
    simp only [List.mem_singleton] at hb
    exact he (by rw [← hb, ← e']; exact ha)
  · intro r hr
    simp only [TabM.add, List.mem_append, List.mem_singleton] at hr
    rcases hr with hr | rfl
    · exact h.len r hr
    · exact hl

theorem add_at {m : TabM} (h : m.owners.Nodup) {e : Ent} (he : e ∉ m.owners) (vs : List Int) : upd1 (atI m) e (some (m.rows.length : Int)) = atI (m.add e vs) := by
  have hn : (m.add e vs).owners.Nodup := by
    rw [add_owners, List.nodup_append]
    refine ⟨h, by simp, ?_⟩
    intro a ha b hb e'
    simp only [List.mem_singleton] at hb
    exact he (by rw [← hb, ← e']; exact ha)
  refine atI_ext hn ?_ ?_
  · intro e' x hx
    unfold upd1 at hx
    rw [add_owners]
    split at hx
    · rename_i he'
      simp only [Option.some.injEq] at hx
      refine ⟨m.rows.length, hx.symm, ?_⟩
      rw [List.getElem?_append_right (by rw [owners_len]; omega), owners_len, Nat.sub_self, he']; rfl
    · obtain ⟨i, hi, h2⟩ := atI_some h hx
      exact ⟨i, hi, by rw [List.getElem?_append_left (List.getElem?_eq_some_iff.1 h2).1]; exact h2⟩
  · intro e' i hi
    rw [add_owners] at hi
    unfold upd1
    by_cases hl : i < m.owners.length
    · rw [List.getElem?_append_left hl] at hi
      rw [if_neg]
      · exact (atI_iff h).2 hi
      · rintro rfl; exact he (List.mem_of_getElem? hi)
    · rw [List.getElem?_append_right (by omega)] at hi
      have hz : i - m.owners.length = 0 := by
        rcases Nat.eq_zero_or_pos (i - m.owners.length) with h | h
        · exact h
        · rw [List.getElem?_eq_none (by simp only [List.length_singleton]; omega)] at hi; cases hi
      rw [hz] at hi
      simp only [List.getElem?_cons_zero, Option.some.injEq] at hi
      rw [if_pos hi.symm]
      have := m.owners_len
      congr 1; omega

theorem set_owners (m : TabM) (row c : Nat) (x : Int) : (m.set row c x).owners = m.owners := by
  unfold set owners
  apply List.ext_getElem?
  intro i
  simp only [List.getElem?_map, List.getElem?_modify]
  cases m.rows[i]? with
  | none => rfl
  | some r =>
    simp only [Option.map_some]
    split <;> rfl

theorem set_col {m : TabM} (h : m.Ok) {row c : Nat} {x : Int} (hc : c < m.n) (k : Nat) : (m.set row c x).col k = if k = c then (m.col c).set row x else m.col k := by
  unfold set col
  apply List.ext_getElem?
  intro i
  simp only [List.getElem?_map, List.getElem?_modify]
  have hl : ∀ r, m.rows[i]? = some r → r.2.length = m.n := fun r hr => h.len r (List.mem_of_getElem? hr)
  by_cases hk : k = c
  · rw [if_pos hk, List.getElem?_set, List.getElem?_map]
    cases hr : m.rows[i]? with
    | none =>
      have := List.getElem?_eq_none_iff.1 hr
      by_cases e : row = i
      · rw [if_pos e]; simp; omega
      · rw [if_neg e]; rfl
    | some r =>
      have := hl r hr
      have hi := (List.getElem?_eq_some_iff.1 hr).1
      by_cases e : row = i
      · rw [if_pos e]
        simp [e, hi, hk, show c < r.2.length by omega]
      · rw [if_neg e]; simp [e, hk]
  · rw [if_neg hk, List.getElem?_map]
    cases hr : m.rows[i]? with
    | none => rfl
    | some r =>
      by_cases e : row = i
      · simp only [e, if_true, Option.map_some, List.getD_eq_getElem?_getD, Option.map_eq_map]
        rw [List.getElem?_set_ne (fun h => hk h.symm)]
      · simp [e]

theorem set_cols {m : TabM} (h : m.Ok) {row c : Nat} {x : Int} (hc : c < m.n) : (m.set row c x).cols = m.cols.set c ((m.col c).set row x) := by
  unfold cols
  show (List.range m.n).map _ = _
  apply List.ext_getElem?
  intro k
  simp only [List.getElem?_map, List.getElem?_set]
  by_cases hk : k < m.n
  · rw [List.getElem?_range hk]
    simp only [Option.map_some, set_col h hc]
    by_cases e : c = k
    · rw [if_pos e, if_pos e.symm, if_pos (by simpa using hc)]
    · rw [if_neg e, if_neg (fun h => e h.symm)]
  · rw [List.getElem?_eq_none (by simp; omega)]
    rw [if_neg (by omega)]
    rfl

theorem set_at {m : TabM} (row c : Nat) (x : Int) : atI (m.set row c x) = atI m := by
  funext e
  unfold atI at_
  rw [set_owners]

theorem Ok.set {m : TabM} (h : m.Ok) (row c : Nat) (x : Int) : (m.set row c x).Ok := by
  refine ⟨h.n48, by simp [TabM.set]; exact h.r200, by rw [set_owners]; exact h.nd, ?_⟩
  intro r hr
  simp only [TabM.set] at hr
  obtain ⟨i, hi⟩ := List.getElem?_of_mem hr
  rw [List.getElem?_modify, Option.map_eq_map, Option.map_eq_some_iff] at hi
  obtain ⟨r', hr', he⟩ := hi
  have := h.len r' (List.mem_of_getElem? hr')
  subst he
  split
  · simpa [TabM.set] using this
  · exact this

theorem last_get {m : TabM} (h : 0 < m.rows.length) : m.rows.getLastD ((0, 0), []) = m.rows[m.rows.length - 1] := by
  rw [List.getLastD_eq_getLast?, List.getLast?_eq_getElem?, List.getElem?_eq_getElem (by omega)]
  rfl

theorem del_rows (m : TabM) (row : Nat) (i : Nat) (h : 0 < m.rows.length) : (m.del row).rows[i]? = if i < m.rows.length - 1 then if i = row then m.rows[m.rows.length - 1]? else m.rows[i]? else none := by
  unfold del
  show ((m.rows.set row (m.rows.getLastD ((0, 0), []))).dropLast)[i]? = _
  rw [List.getElem?_dropLast, List.length_set]
  split
  · rw [List.getElem?_set]
    by_cases e : row = i
    · rw [if_pos e, if_pos e.symm, if_pos (by omega), last_get h]
      simp [show m.rows.length - 1 < m.rows.length by omega]
    · rw [if_neg e, if_neg (fun h => e h.symm)]
  · rfl

theorem del_len (m : TabM) (row : Nat) : (m.del row).rows.length = m.rows.length - 1 := by simp [del]

theorem del_owners (m : TabM) (row : Nat) (i : Nat) (h : 0 < m.rows.length) : (m.del row).owners[i]? = if i < m.rows.length - 1 then if i = row then m.owners[m.rows.length - 1]? else m.owners[i]? else none := by
  unfold owners
  rw [List.getElem?_map, del_rows m row i h]
  split
  · split <;> simp
  · rfl

theorem del_col (m : TabM) (row c : Nat) (h : 0 < m.rows.length) : (m.del row).col c = ((m.col c).set row ((m.col c).getD (m.rows.length - 1) 0)).take (m.rows.length - 1) := by
  apply List.ext_getElem?
  intro i
  unfold col
  rw [List.getElem?_map, del_rows m row i h, List.getElem?_take]
  split
  · rename_i hi
    rw [List.getElem?_set]
    by_cases e : row = i
    · rw [if_pos e.symm, if_pos e, if_pos (by simp; omega)]
      simp [show m.rows.length - 1 < m.rows.length by omega]
    · rw [if_neg (fun h => e h.symm), if_neg e]
      simp
  · rfl

theorem Ok.del {m : TabM} (h : m.Ok) {row : Nat} (hr : row < m.rows.length) : (m.del row).Ok := by
  have hpos : 0 < m.rows.length := by omega
  refine ⟨h.n48, by rw [del_len]; have := h.r200; omega, ?_, ?_⟩
  · refine List.pairwise_iff_getElem.2 ?_
    intro i j hi0 hj hij
    intro he0
    have he : (m.del row).owners[i]? = (m.del row).owners[j]? := by rw [List.getElem?_eq_getElem hi0, List.getElem?_eq_getElem hj, he0]
    revert he
    have hjl : j < m.rows.length - 1 := by have := owners_len (m.del row); rw [del_len] at this; omega
    rw [del_owners m row i hpos, del_owners m row j hpos, if_pos (by omega), if_pos hjl]
    have inj : ∀ a b : Nat, a < m.rows.length → b < m.rows.length → m.owners[a]? = m.owners[b]? → a = b := by
      intro a b ha hb he
      exact (List.getElem?_inj (by rw [owners_len]; exact ha) h.nd).1 he
    intro he
    split at he <;> split at he
    · omega
    · have := inj _ _ (by omega) (by omega) he; omega
    · have := inj _ _ (by omega) (by omega) he; omega
    · have := inj _ _ (by omega) (by omega) he; omega
  · intro r hr'
    obtain ⟨i, hi⟩ := List.getElem?_of_mem hr'
    rw [del_rows m row i hpos] at hi
    split at hi
    · split at hi
      · exact h.len r (List.mem_of_getElem? hi)
      · exact h.len r (List.mem_of_getElem? hi)
    · cases hi

/-- What the map says behind a Remove. -/
theorem del_at {m : TabM} (h : m.Ok) {row : Nat} {e l : Ent} (he : m.owners[row]? = some e) (hl : m.owners[m.rows.length - 1]? = some l) :
    (if row = m.rows.length - 1 then upd1 (atI m) e none else upd1 (upd1 (atI m) e none) l (some (row : Int))) = atI (m.del row) := by
  have hr : row < m.rows.length := by have := (List.getElem?_eq_some_iff.1 he).1; rw [owners_len] at this; exact this
  have hpos : 0 < m.rows.length := by omega
  have inj : ∀ (a b : Nat) (x : Ent), m.owners[a]? = some x → m.owners[b]? = some x → a = b := by
    intro a b x ha hb
    exact (List.getElem?_inj (List.getElem?_eq_some_iff.1 ha).1 h.nd).1 (ha.trans hb.symm)
  refine atI_ext (h.del hr).nd ?_ ?_
  · intro e' x hx
    by_cases hrl : row = m.rows.length - 1
    · rw [if_pos hrl] at hx
      unfold upd1 at hx
      split at hx
      · cases hx
      · rename_i hne
        obtain ⟨i, hi, h2⟩ := atI_some h.nd hx
        refine ⟨i, hi, ?_⟩
        have hil : i < m.rows.length := by have := (List.getElem?_eq_some_iff.1 h2).1; rw [owners_len] at this; exact this
        have : i ≠ row := by rintro rfl; exact hne (Option.some.inj (h2.symm.trans he))
        rw [del_owners m row i hpos, if_pos (by omega), if_neg this]; exact h2
    · rw [if_neg hrl] at hx
      unfold upd1 at hx
      split at hx
      · rename_i hel
        simp only [Option.some.injEq] at hx
        refine ⟨row, hx.symm, ?_⟩
        rw [del_owners m row row hpos, if_pos (by omega), if_pos rfl, hel]; exact hl
      · rename_i hnl
        split at hx
        · cases hx
        · rename_i hne
          obtain ⟨i, hi, h2⟩ := atI_some h.nd hx
          refine ⟨i, hi, ?_⟩
          have hil : i < m.rows.length := by have := (List.getElem?_eq_some_iff.1 h2).1; rw [owners_len] at this; exact this
          have h3 : i ≠ row := by rintro rfl; exact hne (Option.some.inj (h2.symm.trans he))
          have h4 : i ≠ m.rows.length - 1 := by rintro rfl; exact hnl (Option.some.inj (h2.symm.trans hl))
          rw [del_owners m row i hpos, if_pos (by omega), if_neg h3]; exact h2
  · intro e' i hi
    rw [del_owners m row i hpos] at hi
    split at hi
    · rename_i hil
      by_cases hrl : row = m.rows.length - 1
      · rw [if_pos hrl]
        rw [if_neg (by omega)] at hi
        unfold upd1
        rw [if_neg]
        · exact (atI_iff h.nd).2 hi
        · rintro rfl
          have := inj _ _ _ hi he; omega
      · rw [if_neg hrl]
        unfold upd1
        split at hi
        · rename_i hir
          have := Option.some.inj (hi.symm.trans hl)
          rw [if_pos this, hir]
        · rename_i hir
          rw [if_neg, if_neg]
          · exact (atI_iff h.nd).2 hi
          · rintro rfl
            exact hir (inj _ _ _ hi he)
          · rintro rfl
            have := inj _ _ _ hi hl; omega
    · cases hi

end TabM
end Go.Proofs.Ytfghoeojpnnkiaa.F
