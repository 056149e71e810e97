/-
  TableKeeps: the plain law, and pick.
-/
import Derived.Test.YtfghoeojpnnkiaaC05c
set_option linter.unusedSimpArgs false
set_option linter.unusedVariables false
namespace Go.Proofs.Ytfghoeojpnnkiaa.F
open Go Go.Den Go.Proofs

def pk (c n : Int) : Int := if c < 0 then Int.tmod (IntKind.i64.wrap (0 - IntKind.i64.wrap (c + 1))) n else Int.tmod c n

theorem pk_range {c n : Int} (hc : -9223372036854775808 ≤ c) (hn : 0 < n) : 0 ≤ pk c n ∧ pk c n < n := by
  unfold pk
  split
  · rw [wr64 (n := c + 1) (by omega) (by omega), wr64 (by omega) (by omega)]
    exact ⟨Int.tmod_nonneg n (by omega), Int.tmod_lt_of_pos _ hn⟩
  · exact ⟨Int.tmod_nonneg n (by omega), Int.tmod_lt_of_pos _ hn⟩

theorem pick_spec {c n : Int} {w : World} {K : Int → World → Prop} (hn : n ≠ 0) (hK : K (pk c n) w) : c7 c n w K := by
  refine c7_of ?_
  unfold f7
  unfold pk at hK
  by_cases h : c < 0
  · rw [if_pos h] at hK
    exact ifT (by simpa using h) ⟨hn, hK⟩
  · rw [if_neg h] at hK
    exact ifF (by simpa using h) ⟨hn, hK⟩

theorem nodup_len : ∀ (n : Nat) (l : List Nat), l.Nodup → (∀ x ∈ l, x < n) → l.length ≤ n
  | 0, l, _, h => by
    cases l with
    | nil => simp
    | cons x l => have := h x (by simp); omega
  | n + 1, l, hd, h => by
    by_cases hn : n ∈ l
    · have h1 : (l.erase n).length + 1 = l.length := by
        rw [List.length_erase_of_mem hn]
        have := List.length_pos_of_mem hn
        omega
      have := nodup_len n (l.erase n) (hd.erase n) (fun x hx => by
        have h2 := (hd.mem_erase_iff).1 hx
        have := h x h2.2
        have := h2.1
        omega)
      omega
    · have := nodup_len n l hd (fun x hx => by
        have := h x hx
        have : x ≠ n := fun e => hn (e ▸ hx)
        omega)
      omega

theorem getD_rep {α : Type} (n j : Nat) (a : α) : (List.replicate n a).getD j a = a := by
  rw [List.getD_eq_getElem?_getD, List.getElem?_replicate]
  split <;> rfl

namespace TabM

/-- What the law's own notes say of the table. -/
structure Note (n : Nat) (m : TabM) (thr : List Bool) (wth : List Int) : Prop where
  ok : m.Ok
  eq : m.n = n
  lt : thr.length = 40
  lw : wth.length = 40
  iff : ∀ j : Nat, j < 40 → (thr.getD j false = true ↔ ((j : Int), (5 : Int)) ∈ m.owners)
  row : ∀ r ∈ m.rows, ∃ j : Nat, j < 40 ∧ r.1 = ((j : Int), (5 : Int)) ∧ r.2 = (List.range n).map fun (c : Nat) => wth.getD j 0 + c
  rng : ∀ j : Nat, j < 40 → 0 ≤ wth.getD j 0 ∧ wth.getD j 0 ≤ 40000

theorem Note.new {n : Nat} (hn : n ≤ 48) : Note n ⟨n, []⟩ (List.replicate 40 false) (List.replicate 40 0) := by
  refine ⟨⟨hn, by simp, by simp [owners], by simp⟩, rfl, by simp, by simp, ?_, by simp, ?_⟩
  · intro j hj
    rw [getD_rep]
    simp [owners]
  · intro j hj
    rw [getD_rep]
    omega

theorem Note.rows40 {n : Nat} {m : TabM} {thr : List Bool} {wth : List Int} (h : Note n m thr wth) : m.rows.length ≤ 40 := by
  have h1 := nodup_len 40 (m.owners.map fun e => e.1.toNat) (by
    refine List.pairwise_map.2 (h.ok.nd.imp_of_mem ?_)
    intro a b ha hb hne e
    obtain ⟨r, hr, rfl⟩ := List.mem_map.1 ha
    obtain ⟨r', hr', rfl⟩ := List.mem_map.1 hb
    obtain ⟨j, hj, he, _⟩ := h.row r hr
    obtain ⟨j', hj', he', _⟩ := h.row r' hr'
    rw [he, he'] at e hne
    simp only [Int.toNat_natCast] at e
    exact hne (by rw [e])) (by
    intro x hx
    obtain ⟨e, he, rfl⟩ := List.mem_map.1 hx
    obtain ⟨r, hr, rfl⟩ := List.mem_map.1 he
    obtain ⟨j, hj, he, _⟩ := h.row r hr
    rw [he]; simpa using hj)
  simpa [owners] using h1

theorem Note.add {n : Nat} {m : TabM} {thr : List Bool} {wth : List Int} (h : Note n m thr wth) {k : Nat} (hk : k < 40) (hn : thr.getD k false = false) {a : Int} (ha : 0 ≤ a) (ha' : a ≤ 40000) :
    Note n (m.add ((k : Int), 5) ((List.range n).map fun (c : Nat) => a + c)) (thr.set k true) (wth.set k a) := by
  have hne : ((k : Int), (5 : Int)) ∉ m.owners := by
    intro hm
    have := (h.iff k hk).2 hm
    rw [hn] at this; cases this
  have h40 := h.rows40
  refine ⟨h.ok.add (by simp [h.eq]) (by omega) hne, h.eq, by simpa using h.lt, by simpa using h.lw, ?_, ?_, ?_⟩
  · intro j hj
    rw [add_owners, List.mem_append, ← h.iff j hj]
    simp only [List.getD_eq_getElem?_getD, List.getElem?_set]
    by_cases e : k = j
    · subst e
      simp [h.lt, hk]
    · have : ¬ ((j : Int) = k) := by omega
      simp [e, this]
  · intro r hr
    simp only [TabM.add, List.mem_append, List.mem_singleton] at hr
    rcases hr with hr | rfl
    · obtain ⟨j, hj, h1, h2⟩ := h.row r hr
      have hkj : k ≠ j := by
        rintro rfl
        exact hne (List.mem_map.2 ⟨r, hr, h1⟩)
      refine ⟨j, hj, h1, ?_⟩
      rw [h2]
      simp only [List.getD_eq_getElem?_getD, List.getElem?_set_ne hkj]
    · refine ⟨k, hk, rfl, ?_⟩
      simp [h.lw, hk]
  · intro j hj
    simp only [List.getD_eq_getElem?_getD, List.getElem?_set]
    by_cases e : k = j
    · subst e
      simp [h.lw, hk, ha, ha']
    · have := h.rng j hj
      rw [if_neg e]
      simpa [List.getD_eq_getElem?_getD] using this

theorem mem_del {m : TabM} (h : m.Ok) {row : Nat} (hr : row < m.rows.length) {r : Ent × List Int} (hm : r ∈ (m.del row).rows) : r ∈ m.rows := by
  obtain ⟨i, hi⟩ := List.getElem?_of_mem hm
  rw [del_rows m row i (by omega)] at hi
  split at hi
  · split at hi
    · exact List.mem_of_getElem? hi
    · exact List.mem_of_getElem? hi
  · cases hi

theorem mem_del_owners {m : TabM} (h : m.Ok) {row : Nat} {e : Ent} (he : m.owners[row]? = some e) (x : Ent) : x ∈ (m.del row).owners ↔ x ∈ m.owners ∧ x ≠ e := by
  have hr : row < m.rows.length := by have := (List.getElem?_eq_some_iff.1 he).1; rw [owners_len] at this; exact this
  have hpos : 0 < m.rows.length := by omega
  have inj : ∀ (a b : Nat) (x : Ent), m.owners[a]? = some x → m.owners[b]? = some x → a = b := by
    intro a b x ha hb
    exact (List.getElem?_inj (List.getElem?_eq_some_iff.1 ha).1 h.nd).1 (ha.trans hb.symm)
  constructor
  · intro hx
    obtain ⟨i, hi⟩ := List.getElem?_of_mem hx
    rw [del_owners m row i hpos] at hi
    split at hi
    · split at hi
      · refine ⟨List.mem_of_getElem? hi, ?_⟩
        rintro rfl
        have := inj _ _ _ hi he; omega
      · refine ⟨List.mem_of_getElem? hi, ?_⟩
        rintro rfl
        have := inj _ _ _ hi he; omega
    · cases hi
  · rintro ⟨hx, hne⟩
    obtain ⟨i, hi⟩ := List.getElem?_of_mem hx
    have hil : i < m.rows.length := by have := (List.getElem?_eq_some_iff.1 hi).1; rw [owners_len] at this; exact this
    have hir : i ≠ row := by rintro rfl; exact hne (Option.some.inj (hi.symm.trans he))
    by_cases hl : i = m.rows.length - 1
    · refine List.mem_of_getElem? (i := row) ?_
      rw [del_owners m row row hpos, if_pos (by omega), if_pos rfl, ← hl]; exact hi
    · refine List.mem_of_getElem? (i := i) ?_
      rw [del_owners m row i hpos, if_pos (by omega), if_neg hir]; exact hi

theorem Note.del {n : Nat} {m : TabM} {thr : List Bool} {wth : List Int} (h : Note n m thr wth) {k row : Nat} (hk : k < 40) (he : m.owners[row]? = some ((k : Int), (5 : Int))) :
    Note n (m.del row) (thr.set k false) wth := by
  have hr : row < m.rows.length := by have := (List.getElem?_eq_some_iff.1 he).1; rw [owners_len] at this; exact this
  refine ⟨h.ok.del hr, h.eq, by simpa using h.lt, h.lw, ?_, fun r hr' => h.row r (mem_del h.ok hr hr'), h.rng⟩
  intro j hj
  rw [mem_del_owners h.ok he, ← h.iff j hj]
  simp only [List.getD_eq_getElem?_getD, List.getElem?_set]
  by_cases e : k = j
  · subst e
    simp [h.lt, hk]
  · have : ¬ ((j : Int) = k) := by omega
    simp [e, this]

/-- Is the entity there? -/
theorem Note.at {n : Nat} {m : TabM} {thr : List Bool} {wth : List Int} (h : Note n m thr wth) {k : Nat} (hk : k < 40) :
    (thr.getD k false = true ∧ ∃ i : Nat, atI m ((k : Int), 5) = some (i : Int) ∧ m.owners[i]? = some ((k : Int), 5) ∧ i < m.rows.length) ∨ (thr.getD k false = false ∧ atI m ((k : Int), 5) = none) := by
  cases ht : thr.getD k false with
  | true =>
    refine .inl ⟨rfl, ?_⟩
    obtain ⟨i, hi⟩ := List.getElem?_of_mem ((h.iff k hk).1 ht)
    have hil : i < m.rows.length := by have := (List.getElem?_eq_some_iff.1 hi).1; rw [owners_len] at this; exact this
    exact ⟨i, (atI_iff h.ok.nd).2 hi, hi, hil⟩
  | false =>
    refine .inr ⟨rfl, atI_none.2 fun hm => ?_⟩
    have := (h.iff k hk).2 hm
    rw [ht] at this; cases this

end TabM
end Go.Proofs.Ytfghoeojpnnkiaa.F
