/-
  Slices that their owner writes full with a mark, and grows: the slice and what it is grown to may share their memory.
-/
import Derived.Test.YtmbbfaigbhnhcaaDenY
set_option linter.unusedSimpArgs false
set_option linter.unusedVariables false
namespace Go.Den
open Go.RowKit

/-- Both, whether they lie apart or not. -/
def tShare (a b : Thing) : Thing :=
  { holds := fun w O => ∃ O1 O2, a.holds w O1 ∧ b.holds w O2 ∧ ∀ k, k ∈ O ↔ k ∈ O1 ∨ k ∈ O2
    fr := fun ⟨O1, O2, h1, h2, h4⟩ hf hn => ⟨O1, O2, a.fr h1 hf (fun k hk => hn k ((h4 k).2 (.inl hk))), b.fr h2 hf (fun k hk => hn k ((h4 k).2 (.inr hk))), h4⟩
    lt := fun ⟨O1, O2, h1, h2, h4⟩ k hk => ((h4 k).1 hk).elim (a.lt h1 k) (b.lt h2 k) }

section
variable {α : Type} {f : α → List Value} {n : Nat} {e : TypeId}

/-- A slice l of p elements, and what it is grown to: c, of m. -/
def tLC (e : TypeId) (n : Nat) (f : α → List Value) (l c : Sl) (y : α) (p m : Nat) : Thing :=
  { holds := fun w O => l.len = p ∧ p ≤ m ∧ ((c.a = l.a ∧ SlF w c e n f (List.replicate m y) O) ∨ ∃ O1 O2, SlR w l n f (List.replicate p y) O1 ∧ SlF w c e n f (List.replicate m y) O2 ∧ (∀ k ∈ O1, k ∉ O2) ∧ ∀ k, k ∈ O ↔ k ∈ O1 ∨ k ∈ O2)
    fr := fun {S w w' O} ⟨h1, h2, h3⟩ hf hn => ⟨h1, h2, by
      rcases h3 with ⟨q1, q2⟩ | ⟨O1, O2, q1, q2, q3, q4⟩
      · exact .inl ⟨q1, q2.fr hf hn⟩
      · exact .inr ⟨O1, O2, q1.fr hf (fun k hk => hn k ((q4 k).2 (.inl hk))), q2.fr hf (fun k hk => hn k ((q4 k).2 (.inr hk))), q3, q4⟩⟩
    lt := fun {w O} ⟨h1, h2, h3⟩ k hk => by
      rcases h3 with ⟨q1, q2⟩ | ⟨O1, O2, q1, q2, q3, q4⟩
      · exact q2.lt k hk
      · exact ((q4 k).1 hk).elim (q1.lt k) (q2.lt k) }

/-- What fits is written in place. -/
theorem SlF.app_in {P : Program} {w : World} (hf : ∀ x, (f x).length = n) {s : Sl} {t ty : TypeId} {i : TypeInfo} {l news : List α} {o : List Nat} {x : Addr} {m c' : Nat} {K : Sl → World → Prop}
    (ht : P.underlying t = some (.slice e)) (hi : P.info? e = some i) (hsz : i.size = n)
    (h : SlF w s e n f l o) (hl : news.length = m) (hnews : ∀ j u, (news.flatMap f)[j]? = some u → w.cell? (x.add j) = some u) (h1 : ∀ u ∈ news.flatMap f, u.oneCell' = true) (hne : s.a ≠ none) (hroom : s.len + m ≤ s.cap)
    (hK : ∀ w', SlF w' ⟨s.a, s.len + m, s.cap⟩ e n f (l ++ news) o → Fr o w w' → K ⟨s.a, s.len + m, s.cap⟩ w') :
    Run .sl P (Builtin.append_ #[t, t] ty #[.slice s.a s.len s.cap, .slice (some x) m c']) w K := by
  have hvl := h.1
  have hnl : (news.flatMap f).length = m * n := by rw [fm_len hf, hl]
  have hll : (l.flatMap f).length = s.len * n := by rw [fm_len hf, hvl]
  have hadd : ∀ a b : Nat, (a + b) * n = a * n + b * n := fun a b => Nat.add_mul a b n
  rcases h.2 with ⟨ha, _⟩ | ⟨b, off, c, ha, ho, hbk, hcap, hoff, htk⟩
  · exact absurd ha hne
  · subst ho
    have hcap' : s.len * n ≤ s.cap * n := Nat.mul_le_mul_right _ hcap
    have hroom' : s.len * n + m * n ≤ s.cap * n := by rw [← hadd]; exact Nat.mul_le_mul_right _ hroom
    have hf1 := run_firstCells_some (P := P) w n m x m c' (news.flatMap f) hnl hnews
    have hst := run_storeCells_at P b (off + s.len * n) e (news.flatMap f) 0 c.toArray w hbk (by simp only [List.size_toArray, hnl]; omega) h1
    refine ⟨⟨s.a, s.len + m, s.cap⟩, _, ?_, hK (w.setRow b (c.take (off + s.len * n) ++ news.flatMap f ++ c.drop (off + s.len * n + (news.flatMap f).length)).toArray) ?_ ?_⟩
    · rw [ha]
      simp only [Nat.add_zero] at hst
      simp [Builtin.append_, run_underlying ht, sizeOf, typeInfo, hi, Builtin.lenOf, hroom, hsz, hf1, Addr.add_none, hst, Kd.inj]
    · refine ⟨by simp [hvl, hl], .inr ⟨b, off, _, ha, rfl, setRow_heap w b c.toArray _ e _ hbk, hroom, ?_, ?_⟩⟩
      · simp only [List.length_append, List.length_take, List.length_drop, hnl]; omega
      apply List.ext_getElem?
      intro j
      rw [List.flatMap_append, ← htk]
      simp only [List.getElem?_take, List.getElem?_drop, List.getElem?_append, List.length_append, List.length_take, List.length_drop, hnl, hadd]
      have e1 : min (off + s.len * n) c.length = off + s.len * n := by omega
      have e2 : min (s.len * n) (c.length - off) = s.len * n := by omega
      rw [e1, e2]
      by_cases hj : j < s.len * n + m * n
      · rw [if_pos hj, if_pos (by omega)]
        by_cases hj2 : j < s.len * n
        · rw [if_pos (by omega), if_pos (by omega), if_pos (by omega), if_pos (by omega)]
        · rw [if_neg (by omega), if_neg (by omega)]
          congr 1; omega
      · rw [if_neg hj, if_neg (by omega)]
        symm
        apply List.getElem?_eq_none
        rw [hnl]; omega
    · exact ⟨rfl, rfl, rfl, by simp, fun k _ hk => setRow_other w b k _ (fun e => hk (by simp [e]))⟩

theorem rep_prefix {y : α} {p m : Nat} (hpm : p ≤ m) {j : Nat} {u : Value} (h : ((List.replicate p y).flatMap f)[j]? = some u) : ((List.replicate m y).flatMap f)[j]? = some u := by
  have e : List.replicate m y = List.replicate p y ++ List.replicate (m - p) y := by rw [List.replicate_append_replicate]; congr 1; omega
  rw [e, List.flatMap_append, List.getElem?_append_left (List.getElem?_eq_some_iff.1 h).1]
  exact h

/-- The shorter one of two that begin at one place. -/
theorem SlR.pre {w : World} {l c : Sl} {y : α} {p m : Nat} {O : List Nat} (hl : l.len = p) (hpm : p ≤ m) (ha : c.a = l.a) (h : SlR w c n f (List.replicate m y) O) : ∃ O', SlR w l n f (List.replicate p y) O' ∧ ∀ k ∈ O', k ∈ O := by
  by_cases hp : p = 0
  · subst hp
    exact ⟨[], SlR.nil hl, by simp⟩
  · have hm : m = c.len := by have := h.1; simpa using this
    rcases h.2 with ⟨h1, _⟩ | ⟨x, h1, h2, h3, h4⟩
    · omega
    · exact ⟨[x.block], ⟨by simpa using hl.symm, .inr ⟨x, by rw [← ha]; exact h1, rfl, h3, fun j u hj => h4 j u (rep_prefix hpm hj)⟩⟩, by rw [h2]; simp⟩

namespace Hp
variable {S : List Nat} {w0 w : World} {its : List Thing}

theorem lc_start (h : Hp S w0 w its) {j : Nat} {l : Sl} {y : α} {p : Nat} (hj : its[j]? = some (tSl l e n f (List.replicate p y))) : Hp S w0 w (its.set j (tLC e n f l l y p p)) :=
  h.weak hj rfl (fun w O hO => ⟨by have := SlF.len hO; simpa using this.symm, Nat.le_refl _, .inl ⟨rfl, hO⟩⟩) rfl

theorem lc_done (h : Hp S w0 w its) {j : Nat} {l c : Sl} {y : α} {p m : Nat} (hj : its[j]? = some (tLC e n f l c y p m)) : Hp S w0 w (its.set j (tShare (tRd l n f (List.replicate p y)) (tRd c n f (List.replicate m y)))) :=
  h.weak hj rfl (fun w O hO => by
    obtain ⟨h1, h2, h3⟩ := hO
    rcases h3 with ⟨q1, q2⟩ | ⟨O1, O2, q1, q2, q3, q4⟩
    · obtain ⟨O', k1, k2⟩ := SlR.pre h1 h2 q1 (SlF.toR q2)
      exact ⟨O', O, k1, SlF.toR q2, fun k => ⟨.inr, fun h => h.elim (k2 k) id⟩⟩
    · exact ⟨O1, O2, q1, SlF.toR q2, q4⟩) rfl

theorem lc_len (h : Hp S w0 w its) (j : Nat) {l c : Sl} {y : α} {p m : Nat} (hj : (its[j]?).map Thing.holds = some (tLC e n f l c y p m).holds) : c.len = m ∧ l.len = p := by
  obtain ⟨O, h1, h2, h3⟩ := h.see' hj
  refine ⟨?_, h1⟩
  rcases h3 with ⟨q1, q2⟩ | ⟨O1, O2, q1, q2, q3, q4⟩
  · have := q2.len; simpa using this.symm
  · have := q2.len; simpa using this.symm

/-- One element more. -/
theorem lc_app {P : Program} (h : Hp S w0 w its) (j : Nat) {l c : Sl} {t ty e' : TypeId} {inf : TypeInfo} {z : Value} {p m c' : Nat} {cs : List Value} {K : Sl → World → Prop} (y : α) (hj : its[j]? = some (tLC e n f l c y p m)) (hf : ∀ x, (f x).length = n)
    (ht : P.underlying t = some (.slice e)) (hinf : P.info? e = some inf) (hsz : inf.size = n) (hz : inf.zero = some z) (hz1 : z.cells.size = n) (hc : cs = f y) (h1 : ∀ u ∈ f y, u.oneCell' = true)
    (hb : (m + 1) * inf.bytes ≤ 140737488355328) (hn : m + 1 ≤ 140737488355328)
    (hK : ∀ s' w', Hp S w0 w' (its.set j (tLC e n f l s' y p (m + 1))) → K s' w') :
    Nw (.cells cs.toArray e') w fun b w => Run .sl P (Builtin.append_ #[t, t] ty #[.slice c.a c.len c.cap, .slice (some b) 1 c']) w K := by
  have hcl := (h.lc_len j (by rw [hj]; rfl)).1
  have hlt := (List.getElem?_eq_some_iff.1 hj).1
  refine h.nw fun b w h => ?_
  obtain ⟨Ob, hO, _⟩ := h.see' (i := its.length) (t := tBlk b e' cs) (by simp)
  have h2 := h.step (i := j) (t := tLC e n f l c y p m) (by rw [List.getElem?_append_left hlt]; exact hj) rfl
  obtain ⟨O, ⟨g1, g2, g3⟩, back⟩ := h2
  have fin : ∀ {w' : World} {s' : Sl} {O' : List Nat}, Fr O w w' → (tLC e n f l s' y p (m + 1)).holds w' O' → (∀ k ∈ O', k ∈ O ∨ w.heap.size ≤ k) → K s' w' := by
    intro w' s' O' hfr ht' hO'
    have := back hfr ht' hO' rfl
    rw [List.set_append_left _ _ hlt] at this
    exact hK s' w' this.front
  have hnews : ∀ q u, (List.flatMap f [y])[q]? = some u → w.cell? ((⟨b, 0, none⟩ : Addr).add q) = some u := by
    intro q u hq
    rw [Addr.add_none, hO.cell, Nat.zero_add, hc]
    simpa using hq
  have hone : ∀ u ∈ List.flatMap f [y], u.oneCell' = true := by simpa using h1
  have hrep : List.replicate m y ++ [y] = List.replicate (m + 1) y := by rw [← List.replicate_succ']
  rcases g3 with ⟨q1, q2⟩ | ⟨O1, O2, q1, q2, q3, q4⟩
  · by_cases hroom : c.len + 1 ≤ c.cap
    · have hne : c.a ≠ none := by
        intro hn'
        rcases q2.2 with ⟨_, _, h0, _⟩ | ⟨_, _, _, h0, _⟩
        · omega
        · rw [hn'] at h0; cases h0
      refine SlF.app_in hf ht hinf hsz q2 (news := [y]) rfl hnews hone hne hroom fun w' hs' hfr => ?_
      rw [hrep] at hs'
      exact fin hfr ⟨g1, by omega, .inl ⟨q1, hs'⟩⟩ (fun k hk => .inl hk)
    · refine SlF.app hf ht hinf hsz hz hz1 q2 (news := [y]) rfl hnews hone (by rw [hcl]; exact hb) (by omega) ?_
      intro s' w' o' hs' hl' ho' hg hfr hfr0 hn'
      have hfr0 := hfr0 (by omega)
      have hg := (hg (by omega)).2
      rw [hrep] at hs'
      obtain ⟨Ol, k1, k2⟩ := SlR.pre g1 g2 q1 (SlF.toR q2)
      refine fin (O' := Ol ++ o') hfr ⟨g1, by omega, .inr ⟨Ol, o', k1.fr hfr0 (by simp), hs', fun k hk hk' => ?_, by simp⟩⟩ ?_
      · have := k1.lt k hk
        have := hg k hk'
        omega
      · intro k hk
        rcases List.mem_append.1 hk with hk | hk
        · exact .inl (k2 k hk)
        · exact .inr (hg k hk)
  · refine SlF.app hf ht hinf hsz hz hz1 q2 (news := [y]) rfl hnews hone (by rw [hcl]; exact hb) (by omega) ?_
    intro s' w' o' hs' hl' ho' hg hfr hfr0 hn'
    rw [hrep] at hs'
    have ho2 : ∀ k ∈ o', k ∈ O2 ∨ w.heap.size ≤ k := by
      rcases ho' with rfl | ⟨k, h1, _, rfl⟩
      · exact fun k hk => .inl hk
      · intro k' hk'; simp only [List.mem_singleton] at hk'; subst hk'; exact .inr h1
    refine fin (O' := O1 ++ o') (hfr.mono (fun k hk => .inl ((q4 k).2 (.inr hk)))) ⟨g1, by omega, .inr ⟨O1, o', q1.fr hfr q3, hs', fun k hk hk' => ?_, by simp⟩⟩ ?_
    · rcases ho2 k hk' with h | h
      · exact q3 k hk h
      · have := q1.lt k hk; omega
    · intro k hk
      rcases List.mem_append.1 hk with hk | hk
      · exact .inl ((q4 k).2 (.inl hk))
      · rcases ho2 k hk with h | h
        · exact .inl ((q4 k).2 (.inr h))
        · exact .inr h

end Hp
end
end Go.Den
