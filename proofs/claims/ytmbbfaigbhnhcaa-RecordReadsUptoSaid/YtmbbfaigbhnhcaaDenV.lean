/-
  Slices of elements of any number of cells, told as lists of what the elements are: reading, writing, cutting, appending.
-/
import Derived.Test.YtmbbfaigbhnhcaaDenU
set_option linter.unusedSimpArgs false
set_option linter.unusedVariables false
namespace Go.Den
open Go.RowKit

theorem ifT {c : Prop} [Decidable c] {t e : Prop} (h : c) (ht : t) : if c then t else e := by rw [if_pos h]; exact ht
theorem ifF {c : Prop} [Decidable c] {t e : Prop} (h : ¬ c) (he : e) : if c then t else e := by rw [if_neg h]; exact he

/-! ### Lists of rows of cells -/

section rows
variable {α : Type} {f : α → List Value} {n : Nat}

theorem fm_len (hf : ∀ x, (f x).length = n) (l : List α) : (l.flatMap f).length = l.length * n := by
  induction l with
  | nil => simp
  | cons x l ih => simp [List.flatMap_cons, hf, ih, Nat.add_mul, Nat.add_comm]

theorem fm_take (hf : ∀ x, (f x).length = n) (l : List α) (k : Nat) : (l.flatMap f).take (k * n) = (l.take k).flatMap f := by
  induction l generalizing k with
  | nil => simp
  | cons x l ih =>
    cases k with
    | zero => simp
    | succ k =>
      have e1 : (k + 1) * n = n + k * n := by rw [Nat.add_mul, Nat.one_mul, Nat.add_comm]
      rw [List.take_succ_cons, List.flatMap_cons, List.flatMap_cons, e1, ← ih, List.take_append, hf, Nat.add_sub_cancel_left]
      rw [List.take_of_length_le (by rw [hf]; omega)]

theorem fm_drop (hf : ∀ x, (f x).length = n) (l : List α) (k : Nat) : (l.flatMap f).drop (k * n) = (l.drop k).flatMap f := by
  induction l generalizing k with
  | nil => simp
  | cons x l ih =>
    cases k with
    | zero => simp
    | succ k =>
      have e1 : (k + 1) * n = n + k * n := by rw [Nat.add_mul, Nat.one_mul, Nat.add_comm]
      rw [List.drop_succ_cons, List.flatMap_cons, e1, ← ih, List.drop_append, hf, Nat.add_sub_cancel_left]
      rw [List.drop_of_length_le (by rw [hf]; omega), List.nil_append]

theorem fm_get (hf : ∀ x, (f x).length = n) {l : List α} {i j : Nat} {x : α} (hx : l[i]? = some x) (hj : j < n) : (l.flatMap f)[i * n + j]? = (f x)[j]? := by
  have e1 : l.drop i = x :: l.drop (i + 1) := by
    obtain ⟨hi, rfl⟩ := List.getElem?_eq_some_iff.1 hx
    exact List.drop_eq_getElem_cons hi
  rw [← List.getElem?_drop, fm_drop hf, e1, List.flatMap_cons, List.getElem?_append_left (by rw [hf]; exact hj)]

theorem fm_set (hf : ∀ x, (f x).length = n) (l : List α) (i : Nat) (x : α) (hi : i < l.length) : (l.set i x).flatMap f = (l.flatMap f).take (i * n) ++ f x ++ (l.flatMap f).drop ((i + 1) * n) := by
  rw [fm_take hf, fm_drop hf, List.set_eq_take_append_cons_drop, if_pos hi]
  simp [List.flatMap_append]

end rows

/-- The slice holds these elements, in the block that o names (none: it is nil). -/
def SlF {α : Type} (w : World) (s : Sl) (e : TypeId) (n : Nat) (f : α → List Value) (l : List α) (o : List Nat) : Prop :=
  l.length = s.len ∧
  ((s.a = none ∧ s.len = 0 ∧ s.cap = 0 ∧ o = []) ∨
   ∃ b off c, s.a = some ⟨b, off, none⟩ ∧ o = [b] ∧ Blk w b e c ∧ s.len ≤ s.cap ∧ off + s.cap * n ≤ c.length ∧ (c.drop off).take (s.len * n) = l.flatMap f)

section
variable {α : Type} {f : α → List Value} {n : Nat} {e : TypeId}

theorem SlF.nil {w : World} : SlF w ⟨none, 0, 0⟩ e n f [] [] := ⟨rfl, .inl ⟨rfl, rfl, rfl, rfl⟩⟩
theorem SlF.len {w : World} {s : Sl} {l : List α} {o : List Nat} (h : SlF w s e n f l o) : l.length = s.len := h.1
theorem SlF.lt {w : World} {s : Sl} {l : List α} {o : List Nat} (h : SlF w s e n f l o) : ∀ k ∈ o, k < w.heap.size := by
  rcases h.2 with ⟨_, _, _, rfl⟩ | ⟨b, off, c, _, rfl, hb, _⟩
  · simp
  · intro k hk; simp only [List.mem_singleton] at hk; subst hk; exact hb.lt
theorem SlF.fr {S : List Nat} {w w' : World} {s : Sl} {l : List α} {o : List Nat} (h : SlF w s e n f l o) (hf : Fr S w w') (hn : ∀ k ∈ o, k ∉ S) : SlF w' s e n f l o := by
  refine ⟨h.1, ?_⟩
  rcases h.2 with h1 | ⟨b, off, c, h1, rfl, hb, h2⟩
  · exact .inl h1
  · exact .inr ⟨b, off, c, h1, rfl, hb.fr hf (hn b (by simp)), h2⟩
theorem SlF.isNil {w : World} {s : Sl} {l : List α} {o : List Nat} (h : SlF w s e n f l o) (hs : s.a = none) : l = [] := by
  rcases h.2 with ⟨_, h1, _⟩ | ⟨b, off, c, h1, _⟩
  · exact List.eq_nil_of_length_eq_zero (by rw [h.1, h1])
  · rw [hs] at h1; cases h1

/-- A new block is a slice of it all. -/
theorem SlF.blk {w : World} {b : Nat} {l : List α} {m : Nat} (hb : Blk w b e (l.flatMap f)) (hm : l.length = m) (hf : ∀ x, (f x).length = n) : SlF w ⟨some ⟨b, 0, none⟩, m, m⟩ e n f l [b] := by
  refine ⟨hm, .inr ⟨b, 0, _, rfl, rfl, hb, Nat.le_refl _, ?_, ?_⟩⟩
  · rw [fm_len hf, hm]; simp
  · rw [List.drop_zero, List.take_of_length_le]; rw [fm_len hf, hm]; exact Nat.le_refl _


/-- An element, and how it may be written. -/
theorem SlF.ix (hf : ∀ x, (f x).length = n) {w : World} {s : Sl} {l : List α} {o : List Nat} (h : SlF w s e n f l o) {i : Int} {x : α} (hi : 0 ≤ i) (hx : l[i.toNat]? = some x) {K : Addr → Prop}
    (hK : ∀ b off c, o = [b] → Blk w b e c → off + n ≤ c.length → (∀ j, j < n → c[off + j]? = (f x)[j]?) →
      (∀ w' y, Blk w' b e (c.take off ++ f y ++ c.drop (off + n)) → SlF w' s e n f (l.set i.toNat y) o) → K ⟨b, off, none⟩) :
    Ix s.a s.len i n K := by
  have hlt := (List.getElem?_eq_some_iff.1 hx).1
  have hl := h.1
  refine ⟨hi, by omega, ?_⟩
  rcases h.2 with ⟨h1, h2, _⟩ | ⟨b, off, c, h1, ho, hb, h2, h3, h4⟩
  · omega
  rw [h1]
  simp only [NN_some, Addr.add_none]
  have e1 : (i.toNat + 1) * n ≤ s.len * n := Nat.mul_le_mul_right _ (by omega)
  have e2 : s.len * n ≤ s.cap * n := Nat.mul_le_mul_right _ h2
  rw [Nat.add_mul, Nat.one_mul] at e1
  refine hK b (off + i.toNat * n) c ho hb (by omega) ?_ ?_
  · intro j hj
    rw [← fm_get hf hx hj, ← h4, List.getElem?_take, if_pos (by omega), List.getElem?_drop, Nat.add_assoc]
  · intro w' y hb'
    refine ⟨by simpa using hl, .inr ⟨b, off, _, h1, ho, hb', h2, ?_, ?_⟩⟩
    · simp only [List.length_append, List.length_take, List.length_drop, hf]; omega
    · rw [fm_set hf _ _ _ hlt, ← h4]
      apply List.ext_getElem?
      intro j
      have l1 : (List.take (off + i.toNat * n) c).length = off + i.toNat * n := by rw [List.length_take]; omega
      have l2 : (List.take (i.toNat * n) (List.take (s.len * n) (List.drop off c))).length = i.toNat * n := by simp only [List.length_take, List.length_drop]; omega
      simp only [List.getElem?_take, List.getElem?_drop, List.getElem?_append, List.length_append, l1, l2, hf]
      have e4 : (i.toNat + 1) * n = i.toNat * n + n := by rw [Nat.add_mul, Nat.one_mul]
      rw [e4]
      by_cases hj : j < s.len * n
      · rw [if_pos hj]
        by_cases c1 : j < i.toNat * n
        · rw [if_pos (by omega), if_pos (by omega), if_pos (by omega), if_pos (by omega), if_pos (by omega), if_pos (by omega), if_pos (by omega)]
        · by_cases c2 : j < i.toNat * n + n
          · rw [if_pos (by omega), if_neg (by omega), if_pos (by omega), if_neg (by omega)]
            congr 1; omega
          · rw [if_neg (by omega), if_neg (by omega), if_pos (by omega)]
            congr 1; omega
      · rw [if_neg hj]
        rw [if_neg (by omega), if_neg (by omega)]

/-- A piece of a slice. -/
theorem SlF.cut (hf : ∀ x, (f x).length = n) {w : World} {s : Sl} {l : List α} {o : List Nat} (h : SlF w s e n f l o) {a b m : Int} (h0 : 0 ≤ a) (h1 : a ≤ b) (h2 : b ≤ m) (h3 : m ≤ s.cap) (h4 : b ≤ s.len) {K : Sl → Prop}
    (hK : ∀ s', SlF w s' e n f ((l.take b.toNat).drop a.toNat) o → s'.len = b.toNat - a.toNat → s'.cap = m.toNat - a.toNat → (s'.a = none ↔ s.a = none) → K s') :
    Cut s a b m n K := by
  refine ⟨h0, h1, h2, h3, hK _ ?_ rfl rfl ?_⟩
  · have hl := h.1
    refine ⟨by simp; omega, ?_⟩
    rcases h.2 with ⟨g1, g2, g3, rfl⟩ | ⟨k, off, c, g1, rfl, hb, g2, g3, g4⟩
    · refine .inl ⟨?_, by simp; omega, by simp; omega, rfl⟩
      simp [g1]
    · refine .inr ⟨k, if m.toNat = a.toNat then off else off + a.toNat * n, c, ?_, rfl, hb, by simp; omega, ?_, ?_⟩
      · simp only [g1, Option.map_some, Addr.add_none]
        split <;> rfl
      · have e1 : m.toNat * n ≤ s.cap * n := Nat.mul_le_mul_right _ (by omega)
        have e2 : a.toNat * n ≤ m.toNat * n := Nat.mul_le_mul_right _ (by omega)
        have e3 : (m.toNat - a.toNat) * n = m.toNat * n - a.toNat * n := Nat.sub_mul _ _ _
        split
        · rename_i hma; simp only [hma, Nat.sub_self, Nat.zero_mul]; omega
        · show off + a.toNat * n + (m.toNat - a.toNat) * n ≤ _; omega
      · show List.take ((b.toNat - a.toNat) * n) _ = _
        rw [← fm_drop hf, ← fm_take hf, ← g4, List.take_take]
        have e0 : b.toNat * n ≤ s.len * n := Nat.mul_le_mul_right _ (by omega)
        rw [Nat.min_eq_left e0]
        split
        · rename_i hma
          have e1 : b.toNat = a.toNat := by omega
          rw [e1, Nat.sub_self, Nat.zero_mul, List.take_zero, List.drop_of_length_le]
          rw [List.length_take]; omega
        · rw [List.drop_take, List.drop_drop, Nat.sub_mul]
  · by_cases hma : m.toNat = a.toNat
    · simp [hma]
    · simp [hma]

section append
variable {P : Program} {w : World}

/-- What append leaves, in room or in a new block. -/
theorem SlF.app (hf : ∀ x, (f x).length = n) {s : Sl} {t ty : TypeId} {i : TypeInfo} {z : Value} {l news : List α} {o : List Nat} {x : Addr} {m c' : Nat} {K : Sl → World → Prop}
    (ht : P.underlying t = some (.slice e)) (hi : P.info? e = some i) (hsz : i.size = n) (hz : i.zero = some z) (hz1 : z.cells.size = n)
    (h : SlF w s e n f l o) (hl : news.length = m) (hnews : ∀ j u, (news.flatMap f)[j]? = some u → w.cell? (x.add j) = some u) (h1 : ∀ u ∈ news.flatMap f, u.oneCell' = true)
    (hb : (s.len + m) * i.bytes ≤ 140737488355328) (hn : s.len + m ≤ 140737488355328)
    (hK : ∀ s' w' o', SlF w' s' e n f (l ++ news) o' → s'.len = s.len + m → (o' = o ∨ ∃ k, w.heap.size ≤ k ∧ k < w'.heap.size ∧ o' = [k]) → (s.cap < s.len + m → o' ≠ [] ∧ ∀ k ∈ o', w.heap.size ≤ k) → Fr o w w' → (s.cap < s.len + m → Fr [] w w') → (s.a ≠ none ∨ m ≠ 0 → s'.a ≠ none) → K s' w') :
    Run .sl P (Builtin.append_ #[t, t] ty #[.slice s.a s.len s.cap, .slice (some x) m c']) w K := by
  have hvl := h.1
  have hnl : (news.flatMap f).length = m * n := by rw [fm_len hf, hl]
  have hll : (l.flatMap f).length = s.len * n := by rw [fm_len hf, hvl]
  have hadd : ∀ a b : Nat, (a + b) * n = a * n + b * n := fun a b => Nat.add_mul a b n
  have hfit : ∀ cap, cap < s.len + m → Builtin.nextslicecap (s.len + m) cap * i.bytes ≤ 281474976710656 := fun cap hc => growslice_fits hc hb
  have grown : ∀ (cap : Nat) (w1 : World), w1 = w.drew.alloc (.cells ((l.flatMap f).toArray ++ (news.flatMap f).toArray ++ Builtin.zeroCells z.cells (grownCap w (s.len + m) cap e - (s.len + m))) e) →
      SlF w1 ⟨some ⟨w.heap.size, 0, none⟩, s.len + m, grownCap w (s.len + m) cap e⟩ e n f (l ++ news) [w.heap.size] ∧ Fr [] w w1 ∧ w.heap.size < w1.heap.size := by
    intro cap w1 hw1
    subst hw1
    have hge := grownCap_ge w (s.len + m) cap e
    have hge' : (s.len + m) * n ≤ grownCap w (s.len + m) cap e * n := Nat.mul_le_mul_right _ hge
    refine ⟨⟨by simp [hvl, hl], .inr ⟨w.heap.size, 0, (l.flatMap f ++ news.flatMap f ++ (Builtin.zeroCells z.cells (grownCap w (s.len + m) cap e - (s.len + m))).toList), rfl, rfl, ?_, hge, ?_, ?_⟩⟩, ?_, by simp⟩
    · have := Blk.alloc w.drew (l.flatMap f ++ news.flatMap f ++ (Builtin.zeroCells z.cells (grownCap w (s.len + m) cap e - (s.len + m))).toList) e
      have e1 : (l.flatMap f ++ news.flatMap f ++ (Builtin.zeroCells z.cells (grownCap w (s.len + m) cap e - (s.len + m))).toList).toArray = (l.flatMap f).toArray ++ (news.flatMap f).toArray ++ Builtin.zeroCells z.cells (grownCap w (s.len + m) cap e - (s.len + m)) := by
        apply Array.ext'; simp
      rw [e1] at this
      simp only [Blk] at this ⊢
      exact this.trans (by rw [e1])
    · have e2 : (grownCap w (s.len + m) cap e - (s.len + m)) * n = grownCap w (s.len + m) cap e * n - (s.len + m) * n := Nat.sub_mul _ _ _
      simp only [List.length_append, Array.length_toList, size_zeroCells, hz1, hnl, hll]
      rw [e2, hadd] at *
      show 0 + _ * n ≤ _
      omega
    · simp only [List.drop_zero, List.flatMap_append]
      rw [List.take_left' (by simp only [List.length_append, hnl, hll, hadd])]
    · exact ⟨rfl, rfl, rfl, by simp, fun k hk _ => Below.heap_alloc w.drew _ k hk⟩
  rcases h.2 with ⟨ha, hl0, hc0, ho⟩ | ⟨b, off, c, ha, ho, hbk, hcap, hoff, htk⟩
  · have hvs : l = [] := List.eq_nil_of_length_eq_zero (by omega)
    by_cases hm : m = 0
    · subst hm
      have hnn : news = [] := List.eq_nil_of_length_eq_zero hl
      subst hnn
      refine ⟨s, w, ?_, hK s w o (by simpa using h) (by simp) (.inl rfl) (by omega) (Fr.refl _ _) (by omega) (by simp [ha])⟩
      rw [ha, hl0, hc0]
      simp [Kd.inj, ha, hl0, hc0, Builtin.append_, run_underlying ht, sizeOf, typeInfo, hi, Builtin.lenOf, Builtin.firstCells, loadCells, loadCellsFrom]
    · have hr := run_append_nil (P := P) w t ty e i z ht hi hz x m c' (news.flatMap f) (by rw [hsz]; exact hnl) hnews (by omega) (by omega) (by
        have := hb; rw [hl0, Nat.zero_add] at this; omega)
      obtain ⟨g1, g2, g3⟩ := grown 0 _ rfl
      rw [hl0, Nat.zero_add] at g1 g2 g3
      refine ⟨⟨some ⟨w.heap.size, 0, none⟩, m, grownCap w m 0 e⟩, _, ?_, hK _ _ [w.heap.size] g1 (by simp [hl0]) (.inr ⟨_, Nat.le_refl _, g3, rfl⟩) (fun _ => ⟨by simp, by simp⟩) (g2.mono (by simp)) (fun _ => g2) (by simp)⟩
      rw [ha, hl0, hc0, hr]
      simp [Kd.inj, hvs]
  · subst ho
    have hcap' : s.len * n ≤ s.cap * n := Nat.mul_le_mul_right _ hcap
    by_cases hroom : s.len + m ≤ s.cap
    · have hroom' : s.len * n + m * n ≤ s.cap * n := by rw [← hadd]; exact Nat.mul_le_mul_right _ hroom
      have hf1 := run_firstCells_some (P := P) w n m x m c' (news.flatMap f) hnl hnews
      have hst := run_storeCells_at P b (off + s.len * n) e (news.flatMap f) 0 c.toArray w hbk (by simp only [List.size_toArray, hnl]; omega) h1
      refine ⟨⟨some ⟨b, off, none⟩, s.len + m, s.cap⟩, _, ?_, hK _ (w.setRow b (c.take (off + s.len * n) ++ news.flatMap f ++ c.drop (off + s.len * n + (news.flatMap f).length)).toArray) [b] ?_ rfl (.inl rfl) (by omega) ?_ (by omega) (by simp)⟩
      · rw [ha]
        simp only [Nat.add_zero] at hst
        simp [Builtin.append_, run_underlying ht, sizeOf, typeInfo, hi, Builtin.lenOf, hroom, hsz, hf1, Addr.add_none, hst, Kd.inj]
      · refine ⟨by simp [hvl, hl], .inr ⟨b, off, _, rfl, rfl, setRow_heap w b c.toArray _ e _ hbk, hroom, ?_, ?_⟩⟩
        · simp only [List.length_append, List.length_take, List.length_drop, hnl]; omega
        apply List.ext_getElem?
        intro j
        rw [List.flatMap_append, ← htk]
        simp only [List.getElem?_take, List.getElem?_drop, List.getElem?_append, List.length_append, List.length_take, List.length_drop, hnl, hadd]
        have e1 : min (off + s.len * n) c.length = off + s.len * n := by omega
        have e2 : min (s.len * n) (c.length - off) = s.len * n := by omega
        rw [e1, e2]
        by_cases hj : j < s.len * n + m * n
        · rw [if_pos hj, if_pos (by omega)]
          by_cases hj2 : j < s.len * n
          · rw [if_pos (by omega), if_pos (by omega), if_pos (by omega), if_pos (by omega)]
          · rw [if_neg (by omega), if_neg (by omega)]
            congr 1; omega
        · rw [if_neg hj, if_neg (by omega)]
          symm
          apply List.getElem?_eq_none
          rw [hnl]; omega
      · exact ⟨rfl, rfl, rfl, by simp, fun k _ hk => setRow_other w b k _ (fun e => hk (by simp [e]))⟩
    · have holds : ∀ j v, (l.flatMap f)[j]? = some v → w.cell? ((⟨b, off, none⟩ : Addr).add j) = some v := by
        intro j v hj
        rw [Addr.add_none, hbk.cell]
        rw [← htk, List.getElem?_take] at hj
        split at hj
        · rw [List.getElem?_drop] at hj; exact hj
        · cases hj
      have hr := run_append_grow (P := P) w t ty e i z ht hi hz ⟨b, off, none⟩ s.len s.cap (l.flatMap f) (by rw [hsz]; exact hll) holds x m c' (news.flatMap f) (by rw [hsz]; exact hnl) hnews (by omega) (by omega) (hfit _ (by omega))
      obtain ⟨g1, g2, g3⟩ := grown s.cap _ rfl
      refine ⟨⟨some ⟨w.heap.size, 0, none⟩, s.len + m, grownCap w (s.len + m) s.cap e⟩, _, ?_, hK _ _ [w.heap.size] g1 rfl (.inr ⟨_, Nat.le_refl _, g3, rfl⟩) (fun _ => ⟨by simp, by simp⟩) (g2.mono (by simp)) (fun _ => g2) (by simp)⟩
      rw [ha, hr]
      rfl

end append
end

/-! ### Slices that are read only -/

/-- The slice holds these elements, wherever they lie. -/
def SlR {α : Type} (w : World) (s : Sl) (n : Nat) (f : α → List Value) (l : List α) (o : List Nat) : Prop :=
  l.length = s.len ∧
  ((s.len = 0 ∧ o = []) ∨
   ∃ x, s.a = some x ∧ o = [x.block] ∧ x.block < w.heap.size ∧ ∀ j u, (l.flatMap f)[j]? = some u → w.cell? (x.add j) = some u)

section
variable {α : Type} {f : α → List Value} {n : Nat} {e : TypeId}

theorem SlR.nil {w : World} {s : Sl} (h : s.len = 0) : SlR w s n f [] [] := ⟨h.symm, .inl ⟨h, rfl⟩⟩
theorem SlR.len {w : World} {s : Sl} {l : List α} {o : List Nat} (h : SlR w s n f l o) : l.length = s.len := h.1
theorem SlR.lt {w : World} {s : Sl} {l : List α} {o : List Nat} (h : SlR w s n f l o) : ∀ k ∈ o, k < w.heap.size := by
  rcases h.2 with ⟨_, rfl⟩ | ⟨x, _, rfl, hx, _⟩
  · simp
  · intro k hk; simp only [List.mem_singleton] at hk; subst hk; exact hx
theorem Addr.add_block (x : Addr) (j : Nat) : (x.add j).block = x.block := by
  unfold Addr.add; split <;> rfl
theorem Fr.cell {S : List Nat} {w w' : World} (hf : Fr S w w') {a : Addr} (h1 : a.block < w.heap.size) (h2 : a.block ∉ S) : w'.cell? a = w.cell? a := by
  unfold World.cell?
  rw [hf.block _ h1 h2]
theorem SlR.fr {S : List Nat} {w w' : World} {s : Sl} {l : List α} {o : List Nat} (h : SlR w s n f l o) (hf : Fr S w w') (hn : ∀ k ∈ o, k ∉ S) : SlR w' s n f l o := by
  refine ⟨h.1, ?_⟩
  rcases h.2 with h1 | ⟨x, h1, rfl, hx, h2⟩
  · exact .inl h1
  · exact .inr ⟨x, h1, rfl, Nat.lt_of_lt_of_le hx hf.size, fun j u hj => by
      rw [hf.cell (by rw [Addr.add_block]; exact hx) (by rw [Addr.add_block]; exact hn _ (by simp))]; exact h2 j u hj⟩
theorem SlR.isNil {w : World} {s : Sl} {l : List α} {o : List Nat} (h : SlR w s n f l o) (hs : s.a = none) : l = [] := by
  rcases h.2 with ⟨h1, _⟩ | ⟨x, h1, _⟩
  · exact List.eq_nil_of_length_eq_zero (by rw [h.1, h1])
  · rw [hs] at h1; cases h1
theorem SlF.toR {w : World} {s : Sl} {l : List α} {o : List Nat} (h : SlF w s e n f l o) : SlR w s n f l o := by
  refine ⟨h.1, ?_⟩
  rcases h.2 with ⟨_, h1, _, h2⟩ | ⟨b, off, c, h1, ho, hb, h2, h3, h4⟩
  · exact .inl ⟨h1, h2⟩
  · refine .inr ⟨_, h1, ho, hb.lt, fun j u hj => ?_⟩
    rw [Addr.add_none, hb.cell]
    rw [← h4, List.getElem?_take] at hj
    split at hj
    · rw [List.getElem?_drop] at hj; exact hj
    · cases hj

theorem Addr.add_add_any (x : Addr) (i j : Nat) : (x.add i).add j = x.add (i + j) := by
  unfold Addr.add
  by_cases h1 : i = 0
  · simp [h1]
  · by_cases h2 : j = 0
    · simp [h2]
    · simp [h1, h2, Nat.add_assoc]


/-- An element read. -/
theorem SlR.ix (hf : ∀ x, (f x).length = n) {w : World} {s : Sl} {l : List α} {o : List Nat} (h : SlR w s n f l o) {i : Int} {x : α} (hi : 0 ≤ i) (hx : l[i.toNat]? = some x) {K : Addr → Prop}
    (hK : ∀ a, (∀ j, j < n → w.cell? (a.add j) = (f x)[j]?) → K a) : Ix s.a s.len i n K := by
  have hlt := (List.getElem?_eq_some_iff.1 hx).1
  have hl := h.1
  refine ⟨hi, by omega, ?_⟩
  rcases h.2 with ⟨h1, _⟩ | ⟨y, h1, ho, hy, h2⟩
  · omega
  rw [h1]
  simp only [NN_some]
  refine hK _ fun j hj => ?_
  have e1 := fm_get hf hx hj
  have e2 : (f x)[j]? = some ((f x)[j]'(by rw [hf]; exact hj)) := by simp
  rw [Addr.add_add_any, e2]
  exact h2 _ _ (e1.trans e2)

section append
variable {P : Program} {w : World}

/-- append of a slice. -/
theorem SlF.appS (hf : ∀ x, (f x).length = n) {s s2 : Sl} {t ty : TypeId} {i : TypeInfo} {z : Value} {l news : List α} {o o2 : List Nat} {K : Sl → World → Prop}
    (ht : P.underlying t = some (.slice e)) (hi : P.info? e = some i) (hsz : i.size = n) (hz : i.zero = some z) (hz1 : z.cells.size = n)
    (h : SlF w s e n f l o) (h2 : SlR w s2 n f news o2) (h1 : ∀ x, ∀ u ∈ f x, u.oneCell' = true)
    (hb : (s.len + s2.len) * i.bytes ≤ 140737488355328) (hn : s.len + s2.len ≤ 140737488355328)
    (hK : ∀ s' w' o', SlF w' s' e n f (l ++ news) o' → s'.len = s.len + s2.len → (o' = o ∨ ∃ k, w.heap.size ≤ k ∧ k < w'.heap.size ∧ o' = [k]) → (s.cap < s.len + s2.len → o' ≠ [] ∧ ∀ k ∈ o', w.heap.size ≤ k) → Fr o w w' → (s.cap < s.len + s2.len → Fr [] w w') → (s.a ≠ none ∨ s2.len ≠ 0 → s'.a ≠ none) → K s' w') :
    Run .sl P (Builtin.append_ #[t, t] ty #[.slice s.a s.len s.cap, .slice s2.a s2.len s2.cap]) w K := by
  rcases h2.2 with ⟨hl0, ho⟩ | ⟨x, ha, ho, _, hcell⟩
  · have hnn : news = [] := List.eq_nil_of_length_eq_zero (by rw [h2.1, hl0])
    subst hnn
    refine ⟨s, w, ?_, hK s w o (by simpa using h) (by omega) (.inl rfl) (fun hc => ?_) (Fr.refl _ _) (fun _ => Fr.refl _ _) (by simp [hl0])⟩
    · rcases h.2 with ⟨ga, gl0, gc0, go⟩ | ⟨b, off, c, ga, go, gbk, gcap, goff, gtk⟩
      · rw [hl0, ga, gl0, gc0]
        cases s2.a <;> simp [Kd.inj, ga, gl0, gc0, Builtin.append_, run_underlying ht, sizeOf, typeInfo, hi, Builtin.lenOf, Builtin.firstCells, loadCells, loadCellsFrom]
      · rw [hl0, ga]
        cases s2.a <;> simp [Kd.inj, ga, gcap, Builtin.append_, run_underlying ht, sizeOf, typeInfo, hi, Builtin.lenOf, Builtin.firstCells, storeCells, loadCells, loadCellsFrom]
    · rcases h.2 with ⟨ga, gl0, gc0, go⟩ | ⟨b, off, c, ga, go, gbk, gcap, goff, gtk⟩ <;> omega
  · rw [ha]
    exact SlF.app hf ht hi hsz hz hz1 h h2.1 hcell (fun u hu => by
      obtain ⟨x, _, hu⟩ := List.mem_flatMap.1 hu
      exact h1 x u hu) hb hn hK

end append
end

theorem Addr.add_zero_cell {w : World} {a : Addr} {v : Value} (h : w.cell? (a.add 0) = some v) : w.cell? a = some v := by
  obtain ⟨b, o, sp⟩ := a
  cases sp with
  | none => simpa [Addr.add] using h
  | some m => simpa [Addr.add] using h

theorem ldR {k : Kd} {w : World} {a : Addr} {x : k.T} {K : k.T → Prop} {j : Nat} {c : List Value} (h : w.cell? (a.add j) = c[j]?) (hx : c[j]? = some (k.inj x)) (hK : K x) : Ld k w (a.add j) K :=
  ⟨x, h.trans hx, hK⟩
theorem ldR0 {k : Kd} {w : World} {a : Addr} {x : k.T} {K : k.T → Prop} {c : List Value} (h : w.cell? (a.add 0) = c[0]?) (hx : c[0]? = some (k.inj x)) (hK : K x) : Ld k w a K :=
  ⟨x, Addr.add_zero_cell (h.trans hx), hK⟩

/-- A load of a cell of a block, at an offset. -/
theorem ldo {k : Kd} {w : World} {b o n : Nat} {e : TypeId} {c : List Value} {x : k.T} {K : k.T → Prop} (h : Blk w b e c) (hx : c[o + n]? = some (k.inj x)) (hK : K x) : Ld k w ((⟨b, o, none⟩ : Addr).add n) K := by
  rw [Addr.add_none]
  exact ld h hx hK
theorem sto {w : World} {b o n : Nat} {e : TypeId} {c : List Value} {v : Value} {K : World → Prop} (h : Blk w b e c) (ho : o + n < c.length) (hv : v.oneCell' = true)
    (hK : ∀ w', Blk w' b e (c.set (o + n) v) → Fr [b] w w' → w'.heap.size = w.heap.size → K w') : St ((⟨b, o, none⟩ : Addr).add n) v w K := by
  rw [Addr.add_none]
  exact st h ho hv hK

end Go.Den
