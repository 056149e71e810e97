/-
  What is said of memory in contracts over the formulas: blocks, frames, slices; and how a formula's atoms are met.
-/
import Derived.Test.YtmbbfaigbhnhcaaDenH
set_option linter.unusedSimpArgs false
set_option linter.unusedVariables false
namespace Go.Den
open Go.RowKit

/-- What was there is as it was, but for the blocks of S. -/
structure Fr (S : List Nat) (w w' : World) : Prop where
  os : w'.os = w.os
  tape : w'.tape = w.tape
  output : w'.output = w.output
  size : w.heap.size ≤ w'.heap.size
  block : ∀ k, k < w.heap.size → k ∉ S → w'.heap[k]? = w.heap[k]?

theorem Fr.refl (S : List Nat) (w : World) : Fr S w w := ⟨rfl, rfl, rfl, Nat.le_refl _, fun _ _ _ => rfl⟩
theorem Fr.trans {S S' : List Nat} {a b c : World} (h : Fr S a b) (h' : Fr S' b c) (hs : ∀ k ∈ S', k ∈ S ∨ a.heap.size ≤ k) : Fr S a c :=
  ⟨h'.os.trans h.os, h'.tape.trans h.tape, h'.output.trans h.output, Nat.le_trans h.size h'.size, fun k hk hn =>
    (h'.block k (Nat.lt_of_lt_of_le hk h.size) (fun hm => (hs k hm).elim hn (fun hl => by omega))).trans (h.block k hk hn)⟩
theorem Fr.mono {S S' : List Nat} {a b : World} (h : Fr S a b) (hs : ∀ k ∈ S, k ∈ S' ∨ a.heap.size ≤ k) : Fr S' a b :=
  ⟨h.os, h.tape, h.output, h.size, fun k hk hn => h.block k hk fun hm => (hs k hm).elim hn (fun hl => by omega)⟩
theorem Fr.below {w w' : World} (h : Fr [] w w') : Below w.heap.size w w' := ⟨h.os, h.tape, h.output, h.size, fun k hk => h.block k hk (by simp)⟩
theorem Fr.drew {S : List Nat} {a w : World} (h : Fr S a w) : Fr S a w.drew := ⟨h.os, h.tape, h.output, h.size, h.block⟩

/-- The block b holds these cells. -/
def Blk (w : World) (b : Nat) (e : TypeId) (c : List Value) : Prop := w.heap[b]? = some (.cells c.toArray e (0, 0))

theorem Blk.lt {w : World} {b : Nat} {e : TypeId} {c : List Value} (h : Blk w b e c) : b < w.heap.size := (Array.getElem?_eq_some_iff.1 h).1
theorem Blk.fr {S : List Nat} {w w' : World} {b : Nat} {e : TypeId} {c : List Value} (h : Blk w b e c) (hf : Fr S w w') (hn : b ∉ S) : Blk w' b e c :=
  (hf.block b h.lt hn).trans h
theorem Blk.drew {w : World} {b : Nat} {e : TypeId} {c : List Value} (h : Blk w b e c) : Blk w.drew b e c := h
theorem Blk.cell {w : World} {b : Nat} {e : TypeId} {c : List Value} (h : Blk w b e c) (o : Nat) : w.cell? ⟨b, o, none⟩ = c[o]? := by
  unfold Blk at h
  simp [World.cell?, h]
theorem Blk.frozen {w : World} {b : Nat} {e : TypeId} {c : List Value} (h : Blk w b e c) (o : Nat) : w.frozen? ⟨b, o, none⟩ = false := by
  unfold Blk at h
  simp [World.frozen?, h]
theorem Blk.set {w : World} {b : Nat} {e : TypeId} {c : List Value} (h : Blk w b e c) (o : Nat) (v : Value) : Blk (w.setCell ⟨b, o, none⟩ v) b e (c.set o v) := by
  unfold Blk at h ⊢
  simp only [World.setCell, Array.getElem?_modify, ↓reduceIte, h, Option.map_some, Option.isSome_none, Bool.false_eq_true, if_false]
  congr 2
  simp
theorem Fr.set {w : World} {b : Nat} (o : Nat) (v : Value) : Fr [b] w (w.setCell ⟨b, o, none⟩ v) :=
  ⟨rfl, rfl, rfl, by simp, fun k hk hn => Below.heap_setCell w ⟨b, o, none⟩ v k (by simpa using hn)⟩
theorem Fr.alloc (w : World) (o : Obj) : Fr [] w (w.alloc o) := ⟨rfl, rfl, rfl, by simp, fun k hk _ => Below.heap_alloc w o k hk⟩
theorem Blk.alloc (w : World) (c : List Value) (e : TypeId) : Blk (w.alloc (.cells c.toArray e)) w.heap.size e c := by
  show (w.heap.push _)[w.heap.size]? = _
  simp

theorem Addr.add_none (b o n : Nat) : (⟨b, o, none⟩ : Addr).add n = ⟨b, o + n, none⟩ := by
  unfold Addr.add; split <;> simp_all

@[simp] theorem NN_some (a : Addr) (K : Addr → Prop) : NN (some a) K = K a := rfl

theorem ld {k : Kd} {w : World} {b o : Nat} {e : TypeId} {c : List Value} {x : k.T} {K : k.T → Prop} (h : Blk w b e c) (hx : c[o]? = some (k.inj x)) (hK : K x) : Ld k w ⟨b, o, none⟩ K :=
  ⟨x, by rw [h.cell, hx], hK⟩

/-- A field of a block. -/
theorem ldf {k : Kd} {w : World} {b n : Nat} {e : TypeId} {c : List Value} {x : k.T} {K : k.T → Prop} (h : Blk w b e c) (hx : c[n]? = some (k.inj x)) (hK : K x) : Ld k w ((⟨b, 0, none⟩ : Addr).add n) K := by
  rw [Addr.add_none, Nat.zero_add]
  exact ld h hx hK

theorem st {w : World} {b o : Nat} {e : TypeId} {c : List Value} {v : Value} {K : World → Prop} (h : Blk w b e c) (ho : o < c.length) (hv : v.oneCell' = true)
    (hK : ∀ w', Blk w' b e (c.set o v) → Fr [b] w w' → w'.heap.size = w.heap.size → K w') : St ⟨b, o, none⟩ v w K :=
  ⟨hv, by rw [h.cell]; simp [ho], h.frozen o, hK _ (h.set o v) (Fr.set o v) (by simp)⟩

theorem stf {w : World} {b n : Nat} {e : TypeId} {c : List Value} {v : Value} {K : World → Prop} (h : Blk w b e c) (ho : n < c.length) (hv : v.oneCell' = true)
    (hK : ∀ w', Blk w' b e (c.set n v) → Fr [b] w w' → w'.heap.size = w.heap.size → K w') : St ((⟨b, 0, none⟩ : Addr).add n) v w K := by
  rw [Addr.add_none, Nat.zero_add]
  exact st h ho hv hK

theorem nw {w : World} {e : TypeId} {c : List Value} {K : Addr → World → Prop}
    (hK : ∀ b w', b = w.heap.size → Blk w' b e c → Fr [] w w' → w'.heap.size = w.heap.size + 1 → K ⟨b, 0, none⟩ w') : Nw (.cells c.toArray e) w K :=
  hK _ _ rfl (Blk.alloc w c e) (Fr.alloc w _) (by simp)

theorem dr {w : World} {K : World → Prop} (hK : ∀ w', Fr [] w w' → w'.heap.size = w.heap.size → (∀ b e c, Blk w b e c → Blk w' b e c) → K w') : Dr w K :=
  hK _ (Fr.refl [] w).drew rfl (fun _ _ _ h => h)

/-! ### Slices of elements of one cell -/

/-- The slice holds these cells, in the block that o names (none: it is nil). -/
def SlAt (w : World) (s : Sl) (e : TypeId) (vs : List Value) (o : List Nat) : Prop :=
  vs.length = s.len ∧
  ((s.a = none ∧ s.len = 0 ∧ s.cap = 0 ∧ o = []) ∨
   ∃ b off c, s.a = some ⟨b, off, none⟩ ∧ o = [b] ∧ Blk w b e c ∧ s.len ≤ s.cap ∧ off + s.cap ≤ c.length ∧ (c.drop off).take s.len = vs)

theorem SlAt.nil {w : World} {e : TypeId} : SlAt w ⟨none, 0, 0⟩ e [] [] := ⟨rfl, .inl ⟨rfl, rfl, rfl, rfl⟩⟩
theorem SlAt.len {w : World} {s : Sl} {e : TypeId} {vs : List Value} {o : List Nat} (h : SlAt w s e vs o) : vs.length = s.len := h.1
theorem SlAt.lt {w : World} {s : Sl} {e : TypeId} {vs : List Value} {o : List Nat} (h : SlAt w s e vs o) : ∀ k ∈ o, k < w.heap.size := by
  rcases h.2 with ⟨_, _, _, rfl⟩ | ⟨b, off, c, _, rfl, hb, _⟩
  · simp
  · intro k hk; simp only [List.mem_singleton] at hk; subst hk; exact hb.lt
theorem SlAt.fr {S : List Nat} {w w' : World} {s : Sl} {e : TypeId} {vs : List Value} {o : List Nat} (h : SlAt w s e vs o) (hf : Fr S w w') (hn : ∀ k ∈ o, k ∉ S) : SlAt w' s e vs o := by
  refine ⟨h.1, ?_⟩
  rcases h.2 with h1 | ⟨b, off, c, h1, rfl, hb, h2⟩
  · exact .inl h1
  · exact .inr ⟨b, off, c, h1, rfl, hb.fr hf (hn b (by simp)), h2⟩

theorem SlAt.at {w : World} {s : Sl} {e : TypeId} {vs : List Value} {o : List Nat} (h : SlAt w s e vs o) {i : Nat} (hi : i < vs.length) :
    ∃ b off c, s.a = some ⟨b, off, none⟩ ∧ o = [b] ∧ Blk w b e c ∧ off + i < c.length ∧ c[off + i]? = vs[i]? ∧ s.len ≤ s.cap ∧ off + s.cap ≤ c.length ∧ (c.drop off).take s.len = vs := by
  have hl := h.1
  rcases h.2 with ⟨_, h1, _⟩ | ⟨b, off, c, h1, ho, hb, h2, h3, h4⟩
  · omega
  · refine ⟨b, off, c, h1, ho, hb, by omega, ?_, h2, h3, h4⟩
    rw [← h4, List.getElem?_take, if_pos (by omega), List.getElem?_drop]

/-- An element read. -/
theorem ixld {k : Kd} {w : World} {s : Sl} {e : TypeId} {vs : List Value} {o : List Nat} {i : Int} {x : k.T} {K : k.T → Prop} (h : SlAt w s e vs o) (hi : 0 ≤ i) (hx : vs[i.toNat]? = some (k.inj x)) (hK : K x) :
    Ix s.a s.len i 1 fun a => Ld k w a K := by
  have hlt := (List.getElem?_eq_some_iff.1 hx).1
  obtain ⟨b, off, c, h1, ho, hb, h2, h3, _⟩ := h.at hlt
  refine ⟨hi, by have := h.1; omega, ?_⟩
  rw [h1]
  simp only [NN_some, Nat.mul_one, Addr.add_none]
  exact ld hb (h3.trans hx) hK

/-- An element written. -/
theorem ixst {w : World} {s : Sl} {e : TypeId} {vs : List Value} {o : List Nat} {i : Int} {v : Value} {K : World → Prop} (h : SlAt w s e vs o) (hi : 0 ≤ i) (hlt : i.toNat < vs.length) (hv : v.oneCell' = true)
    (hK : ∀ w', SlAt w' s e (vs.set i.toNat v) o → Fr o w w' → w'.heap.size = w.heap.size → K w') :
    Ix s.a s.len i 1 fun a => St a v w K := by
  obtain ⟨b, off, c, h1, ho, hb, h2, h3, h4, h5, h6⟩ := h.at hlt
  refine ⟨hi, by have := h.1; omega, ?_⟩
  rw [h1]
  simp only [NN_some, Nat.mul_one, Addr.add_none]
  refine st hb h2 hv fun w' hb' hf hs => hK w' ⟨by simpa using h.1, .inr ⟨b, off, _, h1, ho, hb', h4, by simpa using h5, ?_⟩⟩ (by rw [ho]; exact hf) hs
  rw [← h6]
  apply List.ext_getElem?
  intro j
  simp only [List.getElem?_take, List.getElem?_drop, List.getElem?_set]
  by_cases hj : j < s.len
  · simp only [hj, if_true]
    by_cases hji : i.toNat = j
    · subst hji
      have e1 : (List.take s.len (List.drop off c)).length = s.len := by rw [h6]; exact h.1
      simp [h2, e1, hj]
    · have : off + i.toNat ≠ off + j := by omega
      simp [this, hji, hj]
  · have e1 : (List.take s.len (List.drop off c)).length = s.len := by rw [h6]; exact h.1
    have : ¬ (i.toNat = j) := by have := h.1; omega
    simp [hj, this]

/-- The front of a slice cut away. -/
theorem SlAt.cut {w : World} {s : Sl} {e : TypeId} {vs : List Value} {o : List Nat} (h : SlAt w s e vs o) {n : Nat} (hn : n ≤ vs.length) {K : Sl → Prop}
    (hK : ∀ s', SlAt w s' e (vs.drop n) o → s'.len = s.len - n → K s') :
    Cut s (n : Int) (s.len : Int) (s.cap : Int) 1 K := by
  have hl := h.1
  rcases h.2 with ⟨h1, h2, h3, rfl⟩ | ⟨b, off, c, h1, rfl, hb, h2, h3, h4⟩
  · refine ⟨by omega, by omega, by omega, by omega, hK _ ⟨by simp; omega, .inl ⟨?_, by simp; omega, by simp; omega, rfl⟩⟩ (by simp)⟩
    simp [h1]
  · refine ⟨by omega, by omega, by omega, by omega, hK _ ⟨by simp; omega, .inr ⟨b, if s.cap = n then off else off + n, c, ?_, rfl, hb, by simp; omega, by simp; split <;> omega, ?_⟩⟩ (by simp)⟩
    · simp only [Int.toNat_natCast, h1, Option.map_some, Nat.mul_one, Addr.add_none]
      split <;> rfl
    · simp only [Int.toNat_natCast]
      rw [← h4]
      split
      · have e1 : s.len - n = 0 := by omega
        rw [e1, List.take_zero]
        rw [List.drop_eq_nil_of_le (by simp; omega)]
      · rw [List.drop_take, List.drop_drop]

section append
variable {P : Program} {w : World}

/-- What append leaves, in room or in a new block. -/
theorem app {s : Sl} {t ty e : TypeId} {i : TypeInfo} {z : Value} {vs news : List Value} {o : List Nat} {x : Addr} {m c' : Nat} {K : Sl → World → Prop}
    (ht : P.underlying t = some (.slice e)) (hi : P.info? e = some i) (hsz : i.size = 1) (hz : i.zero = some z) (hz1 : z.cells.size = 1)
    (h : SlAt w s e vs o) (hl : news.length = m) (hnews : ∀ j u, news[j]? = some u → w.cell? (x.add j) = some u) (h1 : ∀ u ∈ news, u.oneCell' = true)
    (hb : (s.len + m) * i.bytes ≤ 140737488355328) (hn : s.len + m ≤ 140737488355328)
    (hK : ∀ s' w' o', SlAt w' s' e (vs ++ news) o' → s'.len = s.len + m → (o' = o ∨ ∃ n, w.heap.size ≤ n ∧ n < w'.heap.size ∧ o' = [n]) → Fr o w w' → (s.a ≠ none ∨ m ≠ 0 → s'.a ≠ none) → K s' w') :
    Run .sl P (Builtin.append_ #[t, t] ty #[.slice s.a s.len s.cap, .slice (some x) m c']) w K := by
  have hvl := h.1
  have hfit : ∀ cap, cap < s.len + m → Builtin.nextslicecap (s.len + m) cap * i.bytes ≤ 281474976710656 := fun cap hc => growslice_fits hc hb
  have grown : ∀ (cap : Nat) (w1 : World), w1 = w.drew.alloc (.cells (vs.toArray ++ news.toArray ++ Builtin.zeroCells z.cells (grownCap w (s.len + m) cap e - (s.len + m))) e) →
      SlAt w1 ⟨some ⟨w.heap.size, 0, none⟩, s.len + m, grownCap w (s.len + m) cap e⟩ e (vs ++ news) [w.heap.size] ∧ Fr o w w1 ∧ w.heap.size < w1.heap.size := by
    intro cap w1 hw1
    subst hw1
    have hge := grownCap_ge w (s.len + m) cap e
    refine ⟨⟨by simp [hvl, hl], .inr ⟨w.heap.size, 0, (vs ++ news ++ (Builtin.zeroCells z.cells (grownCap w (s.len + m) cap e - (s.len + m))).toList), rfl, rfl, ?_, hge, ?_, ?_⟩⟩, ?_, by simp⟩
    · have := Blk.alloc w.drew (vs ++ news ++ (Builtin.zeroCells z.cells (grownCap w (s.len + m) cap e - (s.len + m))).toList) e
      have e1 : (vs ++ news ++ (Builtin.zeroCells z.cells (grownCap w (s.len + m) cap e - (s.len + m))).toList).toArray = vs.toArray ++ news.toArray ++ Builtin.zeroCells z.cells (grownCap w (s.len + m) cap e - (s.len + m)) := by
        apply Array.ext'; simp
      rw [e1] at this
      simp only [Blk] at this ⊢
      exact this.trans (by rw [e1])
    · simp [size_zeroCells, hz1, hvl, hl]; omega
    · simp only [List.drop_zero]
      rw [List.take_left' (by simp [hvl, hl])]
    · exact ⟨rfl, rfl, rfl, by simp, fun k hk _ => Below.heap_alloc w.drew _ k hk⟩
  rcases h.2 with ⟨ha, hl0, hc0, ho⟩ | ⟨b, off, c, ha, ho, hbk, hcap, hoff, htk⟩
  · have hvs : vs = [] := List.eq_nil_of_length_eq_zero (by omega)
    by_cases hm : m = 0
    · subst hm
      have hnn : news = [] := List.eq_nil_of_length_eq_zero hl
      subst hnn
      refine ⟨s, w, ?_, hK s w o (by simpa using h) (by simp) (.inl rfl) (Fr.refl _ _) (by simp [ha])⟩
      rw [ha, hl0, hc0]
      simp [Kd.inj, ha, hl0, hc0, Builtin.append_, run_underlying ht, sizeOf, typeInfo, hi, Builtin.lenOf, Builtin.firstCells, loadCells, loadCellsFrom]
    · have hr := run_append_nil (P := P) w t ty e i z ht hi hz x m c' news (by rw [hsz, Nat.mul_one]; exact hl) hnews (by omega) (by omega) (by
        have := hb; rw [hl0, Nat.zero_add] at this; omega)
      obtain ⟨g1, g2, g3⟩ := grown 0 _ rfl
      rw [hl0, Nat.zero_add] at g1 g2 g3
      refine ⟨⟨some ⟨w.heap.size, 0, none⟩, m, grownCap w m 0 e⟩, _, ?_, hK _ _ [w.heap.size] g1 (by simp [hl0]) (.inr ⟨_, Nat.le_refl _, g3, rfl⟩) g2 (by simp)⟩
      rw [ha, hl0, hc0, hr]
      simp [Kd.inj, hvs]
  · subst ho
    by_cases hroom : s.len + m ≤ s.cap
    · have hf := run_firstCells_some (P := P) w 1 m x m c' news (by rw [Nat.mul_one]; exact hl) hnews
      have hst := run_storeCells_at P b (off + s.len) e news 0 c.toArray w hbk (by simp; omega) h1
      refine ⟨⟨some ⟨b, off, none⟩, s.len + m, s.cap⟩, _, ?_, hK _ (w.setRow b (c.take (off + s.len) ++ news ++ c.drop (off + s.len + news.length)).toArray) [b] ?_ rfl (.inl rfl) ?_ (by simp)⟩
      · rw [ha]
        simp only [Nat.add_zero] at hst
        simp [Builtin.append_, run_underlying ht, sizeOf, typeInfo, hi, Builtin.lenOf, hroom, hsz, hf, Addr.add_none, hst, Kd.inj]
      · refine ⟨by simp [hvl, hl], .inr ⟨b, off, _, rfl, rfl, setRow_heap w b c.toArray _ e _ hbk, hroom, by simp; omega, ?_⟩⟩
        apply List.ext_getElem?
        intro j
        rw [← htk]
        simp only [List.getElem?_take, List.getElem?_drop, List.getElem?_append, List.length_append, List.length_take, List.length_drop]
        have e1 : min (off + s.len) c.length = off + s.len := by omega
        have e2 : min s.len (c.length - off) = s.len := by omega
        rw [e1, e2]
        by_cases hj : j < s.len + m
        · rw [if_pos hj, if_pos (by omega)]
          by_cases hj2 : j < s.len
          · rw [if_pos (by omega), if_pos (by omega), if_pos (by omega), if_pos (by omega)]
          · rw [if_neg (by omega), if_neg (by omega)]
            congr 1; omega
        · rw [if_neg hj, if_neg (by omega)]
          symm
          apply List.getElem?_eq_none
          omega
      · exact ⟨rfl, rfl, rfl, by simp, fun k _ hk => setRow_other w b k _ (fun e => hk (by simp [e]))⟩
    · have holds : ∀ j v, vs[j]? = some v → w.cell? ((⟨b, off, none⟩ : Addr).add j) = some v := by
        intro j v hj
        rw [Addr.add_none, hbk.cell]
        rw [← htk, List.getElem?_take] at hj
        split at hj
        · rw [List.getElem?_drop] at hj; exact hj
        · cases hj
      have hr := run_append_grow (P := P) w t ty e i z ht hi hz ⟨b, off, none⟩ s.len s.cap vs (by rw [hsz, Nat.mul_one]; exact hvl) holds x m c' news (by rw [hsz, Nat.mul_one]; exact hl) hnews (by omega) (by omega) (hfit _ (by omega))
      obtain ⟨g1, g2, g3⟩ := grown s.cap _ rfl
      refine ⟨⟨some ⟨w.heap.size, 0, none⟩, s.len + m, grownCap w (s.len + m) s.cap e⟩, _, ?_, hK _ _ [w.heap.size] g1 rfl (.inr ⟨_, Nat.le_refl _, g3, rfl⟩) g2 (by simp)⟩
      rw [ha, hr]
      rfl

end append

theorem infoP {P : Program} {t : TypeId} {z : Option Value} {n b : Nat} (h : (P.info? t).map (fun i => (i.zero, i.size, i.bytes)) = some (z, n, b)) :
    ∃ i, P.info? t = some i ∧ i.zero = z ∧ i.size = n ∧ i.bytes = b := by
  cases hi : P.info? t with
  | none => simp [hi] at h
  | some i => simp only [hi, Option.map_some, Option.some.injEq, Prod.mk.injEq] at h; exact ⟨i, rfl, h⟩

/-! ### Numbers, and '==' on structs -/

theorem wr64 {n : Int} (h1 : -9223372036854775808 ≤ n) (h2 : n ≤ 9223372036854775807) : IntKind.i64.wrap n = n := by
  simp only [IntKind.wrap, IntKind.bits, IntKind.signed, Bool.true_and, decide_eq_true_eq, ge_iff_le]; split <;> omega

theorem wr64lo (n : Int) : -9223372036854775808 ≤ IntKind.i64.wrap n := by
  simp only [IntKind.wrap, IntKind.bits, IntKind.signed, Bool.true_and, decide_eq_true_eq, ge_iff_le]; split <;> omega
theorem wr64hi (n : Int) : IntKind.i64.wrap n ≤ 9223372036854775807 := by
  simp only [IntKind.wrap, IntKind.bits, IntKind.signed, Bool.true_and, decide_eq_true_eq, ge_iff_le]; split <;> omega

def eqV (d : TypeDesc) (a b : Value) : Option Bool :=
  match d, a, b with
  | .int _, .int k a, .int k' b => cond (decide (k = k')) (some (a == b)) none
  | .bool, .bool a, .bool b => some (a == b)
  | .string, .string a, .string b => some (a == b)
  | _, _, _ => none

def eqFs (P : Program) (xs ys : Array Value) : List Field → Option Bool
  | [] => some true
  | f :: r => cond (f.name == "_") none (match P.underlying f.type with
    | some d => cond (isAggD d) none (match xs.toList[f.offset]?, ys.toList[f.offset]? with
      | some a, some b => match eqV d a b, eqFs P xs ys r with
        | some r1, some r2 => some (r1 && r2)
        | _, _ => none
      | _, _ => none)
    | none => none)

theorem of_eqV {P : Program} {w : World} {n : Nat} {t : TypeId} {d : TypeDesc} {a b : Value} {r : Bool} (hd : P.underlying t = some d) (h : eqV d a b = some r) : (Op.equalIn (n + 1) t a b).run P w = .ok r w := by
  unfold eqV at h
  split at h
  · rename_i k a k' b
    cases hk : decide (k = k') with
    | false => rw [hk] at h; cases h
    | true =>
      rw [hk] at h
      obtain rfl := of_decide_eq_true hk
      simp only [cond_true, Option.some.injEq] at h
      subst h
      simp [Op.equalIn, run_underlying hd]
  · simp only [Option.some.injEq] at h; subst h; simp [Op.equalIn, run_underlying hd]
  · simp only [Option.some.injEq] at h; subst h; simp [Op.equalIn, run_underlying hd]
  · cases h

theorem of_eqFs {P : Program} {w : World} {n : Nat} {xs ys : Array Value} : ∀ {fs : List Field} {r : Bool}, eqFs P xs ys fs = some r → (Op.eqFields (n + 1) xs ys fs).run P w = .ok r w
  | [], r, h => by simp only [eqFs, Option.some.injEq] at h; subst h; simp [Op.eqFields]
  | f :: fs, r, h => by
    simp only [eqFs] at h
    cases hn : f.name == "_" with
    | true => rw [hn] at h; cases h
    | false =>
      rw [hn] at h
      simp only [cond_false] at h
      split at h
      · rename_i d hd
        cases ha : isAggD d with
        | true => rw [ha] at h; cases h
        | false =>
          rw [ha] at h
          simp only [cond_false] at h
          split at h
          · rename_i a b hx hy
            split at h
            · rename_i r1 r2 h1 h2
              simp only [Option.some.injEq] at h
              subst h
              have e1 := of_eqV (P := P) (w := w) (n := n) hd h1
              have e2 := of_eqFs (w := w) (n := n) h2
              have p1 : (part f.type xs f.offset).run P w = .ok a w := by
                have : xs[f.offset]? = some a := by simpa using hx
                simp [part, isAggD_run hd, ha, this]
              have p2 : (part f.type ys f.offset).run P w = .ok b w := by
                have : ys[f.offset]? = some b := by simpa using hy
                simp [part, isAggD_run hd, ha, this]
              have hne : f.name ≠ "_" := by simpa using hn
              simp only [Op.eqFields, if_pos hne, hn, Sem.run_bind, p1, p2, Result.andThen_ok, e1]
              cases r1 <;> simp [e2]
            · cases h
          · cases h
      · cases h

theorem runEq {P : Program} {t : TypeId} {x y : Operand} {xs ys : Array Value} {r : Bool} {w : World} {K : Bool → Prop} (hg : P.eqGuardType P.depth t = false)
    (ht : P.underlying t = some (.struct (P.fieldsOf t))) (hp : P.stoodInHeld t = false) (h : eqFs P xs ys (P.fieldsOf t).toList = some r) (hK : K r) :
    RunRo .b P (binSem .eql t x y (.agg xs) (.agg ys)) w K := by
  refine ⟨r, fun w' _ => ?_, hK⟩
  have e : (Op.equal t (.agg xs) (.agg ys)).run P w' = .ok r w' := by
    show (Op.equalIn (9998 + 1 + 1) t (.agg xs) (.agg ys)).run P w' = _
    rw [run_equalIn_struct (P := P) w' (9998 + 1) t xs ys ht hp]
    exact of_eqFs h
  unfold binSem
  simp [eqGuard, hg, binOp, e, Kd.inj]

theorem runNe {P : Program} {t : TypeId} {x y : Operand} {xs ys : Array Value} {r : Bool} {w : World} {K : Bool → Prop} (hg : P.eqGuardType P.depth t = false)
    (ht : P.underlying t = some (.struct (P.fieldsOf t))) (hp : P.stoodInHeld t = false) (h : eqFs P xs ys (P.fieldsOf t).toList = some r) (hK : K (!r)) :
    RunRo .b P (binSem .neq t x y (.agg xs) (.agg ys)) w K := by
  refine ⟨!r, fun w' _ => ?_, hK⟩
  have e : (Op.equal t (.agg xs) (.agg ys)).run P w' = .ok r w' := by
    show (Op.equalIn (9998 + 1 + 1) t (.agg xs) (.agg ys)).run P w' = _
    rw [run_equalIn_struct (P := P) w' (9998 + 1) t xs ys ht hp]
    exact of_eqFs h
  unfold binSem
  simp [eqGuard, hg, binOp, e, Kd.inj]

end Go.Den
