/-
  The plain law of IdsNever: what lives, what was given out, and how pools made of their own State are the same.
-/
import Derived.Test.YtmlkjbolccapkaaC04c
set_option linter.unusedSimpArgs false
set_option linter.unusedVariables false
namespace Go.Proofs.Ytmlkjbolccapkaa.F
open Go Go.Den Go.Proofs

structure Good (m : PoolM) (L A : List (Int × Int)) (k : Nat) : Prop where
  nd : L.Nodup
  mem : ∀ x, x ∈ L ↔ m.is x.1 x.2 = true
  lenL : L.length = m.alive.count true
  out : ∀ x ∈ A, 0 ≤ x.1 ∧ x.1 < m.gens.length ∧ x.2 ≤ m.gen x.1
  lenA : A.length ≤ k
  gens : ∀ g ∈ m.gens, g ≤ k + 1
  dead : ∀ i : Int, 0 ≤ i → i < m.gens.length → m.lives i = false → i ∈ m.free
  cnt : m.free.length + m.alive.count true = m.gens.length

theorem lives_lt' {m : PoolM} (hm : m.Ok) {i : Int} (h : m.lives i = true) : 0 ≤ i ∧ i < m.gens.length := by
  obtain ⟨h0, h1, _⟩ := lives_lt h
  have := hm.len
  exact ⟨h0, by omega⟩

theorem Good.new {n : Int} : Good ⟨n, [], [], []⟩ [] [] 0 :=
  ⟨by simp, by simp [PoolM.is, PoolM.lives], by simp, by simp, by simp, by simp, by intro i h0 h1; simp at h1; omega, by simp⟩

theorem Good.step {m : PoolM} {L A : List (Int × Int)} {k : Nat} (h : Good m L A k) : Good m L A (k + 1) :=
  { h with lenA := by have := h.lenA; omega, gens := fun g hg => by have := h.gens g hg; push_cast; omega }

theorem mem_erase {L : List (Int × Int)} (hnd : L.Nodup) {kk : Nat} (hk : kk < L.length) (x : Int × Int) : x ∈ L.take kk ++ L.drop (kk + 1) ↔ x ∈ L ∧ x ≠ L[kk] := by
  have e : L = L.take kk ++ L[kk] :: L.drop (kk + 1) := by
    rw [← List.drop_eq_getElem_cons hk, List.take_append_drop]
  have hnd2 := hnd
  rw [e, List.nodup_append, List.nodup_cons] at hnd2
  have hm : x ∈ L ↔ x ∈ L.take kk ∨ x = L[kk] ∨ x ∈ L.drop (kk + 1) := by
    conv => lhs; rw [e]
    rw [List.mem_append, List.mem_cons]
  rw [hm, List.mem_append]
  constructor
  · rintro (h | h)
    · exact ⟨.inl h, fun he => hnd2.2.2 x h x (he ▸ List.mem_cons_self) rfl⟩
    · exact ⟨.inr (.inr h), fun he => hnd2.2.1.1 (he ▸ h)⟩
  · rintro ⟨h | h | h, hne⟩
    · exact .inl h
    · exact absurd h hne
    · exact .inr h

theorem Good.give {m : PoolM} {L A : List (Int × Int)} {k kk : Nat} (hm : m.Ok) (h : Good m L A k) (hk : kk < L.length) (hk4 : k ≤ 400) :
    m.is L[kk].1 L[kk].2 = true ∧ (m.give L[kk].1 L[kk].2).is L[kk].1 L[kk].2 = false ∧ Good (m.give L[kk].1 L[kk].2) (L.take kk ++ L.drop (kk + 1)) A (k + 1) := by
  have his : m.is L[kk].1 L[kk].2 = true := (h.mem _).1 (List.getElem_mem hk)
  obtain ⟨hlv, hg⟩ := PoolM.is_iff.1 his
  obtain ⟨h0, hla, hal⟩ := lives_lt hlv
  have hlt := lives_lt' hm hlv
  have hgen : L[kk].2 < 1000000 := by
    have : m.gen L[kk].1 ≤ k + 1 := by
      have hl : L[kk].1.toNat < m.gens.length := by omega
      simp only [PoolM.gen, List.getD_eq_getElem?_getD, List.getElem?_eq_getElem hl, Option.getD_some]
      exact h.gens _ (List.getElem_mem hl)
    omega
  have hc := count_set (l := m.alive) (v := false) hla
  have h2 : m.alive[L[kk].1.toNat] = true := by
    have := List.getElem?_eq_getElem hla
    rw [hal] at this; simpa using this.symm
  rw [h2] at hc
  simp at hc
  refine ⟨his, by simp [PoolM.is, PoolM.lives_give m h0 hla], ⟨?_, ?_, ?_, h.out, by have := h.lenA; omega, fun g hg => by have := h.gens g hg; push_cast; omega, ?_, ?_⟩⟩
  · rw [← List.eraseIdx_eq_take_drop_succ]; exact h.nd.eraseIdx kk
  · intro x
    rw [mem_erase h.nd hk, h.mem, PoolM.is_iff, PoolM.is_iff, PoolM.lives_give m h0 hla, PoolM.gen_give]
    constructor
    · rintro ⟨⟨a, b⟩, hne⟩
      refine ⟨?_, b⟩
      rw [if_neg]; exact a
      intro e
      apply hne
      apply Prod.ext e
      rw [← b, e, hg]
    · rintro ⟨a, b⟩
      split at a
      · cases a
      · rename_i hne
        exact ⟨⟨a, b⟩, fun e => hne (by rw [e])⟩
  · have := h.lenL
    simp only [List.length_append, List.length_take, List.length_drop, PoolM.give]
    omega
  · intro i i0 i1 hd
    have i1' : i < m.gens.length := i1
    rw [PoolM.lives_give m h0 hla] at hd
    simp only [PoolM.give, if_pos hgen]
    split at hd
    · rename_i e; simp [e]
    · exact List.mem_append.2 (.inl (h.dead i i0 i1' hd))
  · have := h.cnt
    simp only [PoolM.give, if_pos hgen, List.length_append, List.length_singleton]
    omega

theorem Good.takeFree {m : PoolM} {L A : List (Int × Int)} {k : Nat} {i : Int} {rest : List Int} (hm : m.Ok) (h : Good m L A k) (hf : m.free = i :: rest) :
    (i, m.gen i + 1) ∉ A ∧ Good (m.takeFree i rest) (L ++ [(i, m.gen i + 1)]) (A ++ [(i, m.gen i + 1)]) (k + 1) ∧ (L.length : Int) < m.most := by
  have hi := hm.free i (by simp [hf])
  have hla : i.toNat < m.alive.length := by rw [hm.len]; omega
  have hlg : i.toNat < m.gens.length := by omega
  have hc := count_set (l := m.alive) (v := true) hla
  have h2 : m.alive[i.toNat] = false := by
    have := hi.2.2.1
    simpa [PoolM.lives, hi.1, hla] using this
  rw [h2] at hc
  simp at hc
  have hgi : m.gen i ≤ k + 1 := by
    simp only [PoolM.gen, List.getD_eq_getElem?_getD, List.getElem?_eq_getElem hlg, Option.getD_some]
    exact h.gens _ (List.getElem_mem hlg)
  refine ⟨fun hm' => ?_, ⟨?_, ?_, ?_, ?_, ?_, ?_, ?_, ?_⟩, ?_⟩
  · have := (h.out _ hm').2.2
    simp only at this; omega
  · rw [List.nodup_append]
    refine ⟨h.nd, by simp, ?_⟩
    rintro x hx y hy rfl
    simp only [List.mem_singleton] at hy
    subst hy
    have := (PoolM.is_iff.1 ((h.mem _).1 hx)).1
    rw [hi.2.2.1] at this; cases this
  · intro x
    simp only [List.mem_append, List.mem_singleton]
    rw [h.mem, PoolM.is_iff, PoolM.is_iff, PoolM.lives_takeFree m hi.1 hla]
    constructor
    · rintro (⟨a, b⟩ | rfl)
      · have hne : x.1 ≠ i := fun e => by rw [e, hi.2.2.1] at a; cases a
        rw [if_neg hne, PoolM.gen_takeFree m hi.1 hlg (lives_lt a).1, if_neg hne]
        exact ⟨a, b⟩
      · simp [PoolM.gen_takeFree m hi.1 hlg hi.1]
    · rintro ⟨a, b⟩
      by_cases e : x.1 = i
      · right
        rw [e, PoolM.gen_takeFree m hi.1 hlg hi.1, if_pos rfl] at b
        exact Prod.ext e b.symm
      · rw [if_neg e] at a
        rw [PoolM.gen_takeFree m hi.1 hlg (lives_lt a).1, if_neg e] at b
        exact .inl ⟨a, b⟩
  · have := h.lenL
    simp only [List.length_append, List.length_singleton, PoolM.takeFree]
    omega
  · intro x hx
    have e1 : (m.takeFree i rest).gens.length = m.gens.length := by simp [PoolM.takeFree]
    rcases List.mem_append.1 hx with hx | hx
    · obtain ⟨a1, a2, a3⟩ := h.out x hx
      refine ⟨a1, by rw [e1]; exact a2, ?_⟩
      rw [PoolM.gen_takeFree m hi.1 hlg a1]
      split
      · rename_i e; rw [e] at a3; omega
      · exact a3
    · simp only [List.mem_singleton] at hx; subst hx
      refine ⟨hi.1, by rw [e1]; exact hi.2.1, ?_⟩
      rw [PoolM.gen_takeFree m hi.1 hlg hi.1, if_pos rfl]; exact Int.le_refl _
  · have := h.lenA; simp; omega
  · intro g hg
    rcases List.mem_or_eq_of_mem_set hg with hg | rfl
    · have := h.gens g hg; push_cast; omega
    · push_cast; omega
  · intro j j0 j1 hd
    have e1 : (m.takeFree i rest).gens.length = m.gens.length := by simp [PoolM.takeFree]
    rw [e1] at j1
    rw [PoolM.lives_takeFree m hi.1 hla] at hd
    split at hd
    · cases hd
    · rename_i hne
      have := h.dead j j0 j1 hd
      rw [hf] at this
      exact (List.mem_cons.1 this).resolve_left hne
  · have := h.cnt
    rw [hf] at this
    simp only [PoolM.takeFree, List.length_set]
    simp at this
    omega
  · have := h.cnt
    have := h.lenL
    have := hm.le
    rw [hf] at *
    simp at *
    omega

theorem Good.takeNew {m : PoolM} {L A : List (Int × Int)} {k : Nat} (hm : m.Ok) (h : Good m L A k) (hf : m.free = []) (hl : (m.gens.length : Int) < m.most) :
    ((m.gens.length : Int), (1 : Int)) ∉ A ∧ Good m.takeNew (L ++ [((m.gens.length : Int), 1)]) (A ++ [((m.gens.length : Int), 1)]) (k + 1) ∧ (L.length : Int) < m.most := by
  have hcnt := h.cnt
  have hlen := hm.len
  have hno : m.lives m.gens.length = false := by
    cases hx : m.lives m.gens.length with
    | false => rfl
    | true => have := lives_lt' hm hx; omega
  refine ⟨fun hm' => ?_, ⟨?_, ?_, ?_, ?_, ?_, ?_, ?_, ?_⟩, ?_⟩
  · have := (h.out _ hm').2.1
    simp only at this; omega
  · rw [List.nodup_append]
    refine ⟨h.nd, by simp, ?_⟩
    rintro x hx y hy rfl
    simp only [List.mem_singleton] at hy
    subst hy
    have := (PoolM.is_iff.1 ((h.mem _).1 hx)).1
    rw [hno] at this; cases this
  · intro x
    simp only [List.mem_append, List.mem_singleton]
    rw [h.mem, PoolM.is_iff, PoolM.is_iff, PoolM.lives_takeNew m hlen]
    constructor
    · rintro (⟨a, b⟩ | rfl)
      · have hne : x.1 ≠ m.gens.length := fun e => by rw [e, hno] at a; cases a
        rw [if_neg hne, PoolM.gen_takeNew m (lives_lt a).1, if_neg hne]
        exact ⟨a, b⟩
      · simp [PoolM.gen_takeNew m (Int.natCast_nonneg _)]
    · rintro ⟨a, b⟩
      by_cases e : x.1 = m.gens.length
      · right
        rw [e, PoolM.gen_takeNew m (Int.natCast_nonneg _), if_pos rfl] at b
        exact Prod.ext e b.symm
      · rw [if_neg e] at a
        rw [PoolM.gen_takeNew m (lives_lt a).1, if_neg e] at b
        exact .inl ⟨a, b⟩
  · have := h.lenL
    simp [PoolM.takeNew, List.count_append]
    omega
  · intro x hx
    have e1 : (m.takeNew).gens.length = m.gens.length + 1 := by simp [PoolM.takeNew]
    rcases List.mem_append.1 hx with hx | hx
    · obtain ⟨a1, a2, a3⟩ := h.out x hx
      refine ⟨a1, by rw [e1]; push_cast; omega, ?_⟩
      rw [PoolM.gen_takeNew m a1, if_neg (by omega)]
      exact a3
    · simp only [List.mem_singleton] at hx; subst hx
      refine ⟨Int.natCast_nonneg _, by rw [e1]; push_cast; omega, ?_⟩
      rw [PoolM.gen_takeNew m (Int.natCast_nonneg _), if_pos rfl]; exact Int.le_refl _
  · have := h.lenA; simp; omega
  · intro g hg
    simp only [PoolM.takeNew, List.mem_append, List.mem_singleton] at hg
    rcases hg with hg | rfl
    · have := h.gens g hg; push_cast; omega
    · push_cast; omega
  · intro j j0 j1 hd
    have e1 : (m.takeNew).gens.length = m.gens.length + 1 := by simp [PoolM.takeNew]
    rw [e1] at j1
    rw [PoolM.lives_takeNew m hlen] at hd
    split at hd
    · cases hd
    · rename_i hne
      exact h.dead j j0 (by push_cast at j1; omega) hd
  · simp [PoolM.takeNew, List.count_append]
    omega
  · have := h.lenL
    omega

theorem Good.full {m : PoolM} {L A : List (Int × Int)} {k : Nat} (h : Good m L A k) (hf : m.free = []) (hl : (m.gens.length : Int) = m.most) : (L.length : Int) = m.most := by
  have := h.cnt
  have := h.lenL
  rw [hf] at *
  simp at *
  omega

theorem allU_count (m : PoolM) : ∀ k, k ≤ m.alive.length → (m.allU k).length = (m.alive.take k).count true
  | 0, _ => by simp [PoolM.allU]
  | k + 1, h => by
    have hk : k < m.alive.length := by omega
    rw [List.take_succ_eq_append_getElem hk, List.count_append]
    have ih := allU_count m k (by omega)
    simp only [PoolM.allU]
    have : m.lives (k : Int) = m.alive[k] := by simp [PoolM.lives, hk]
    rw [this]
    cases m.alive[k] <;> simp [ih]

/-- What All tells: rising numbers, each with its generation, all alive. -/
theorem allU_get (m : PoolM) : ∀ k, (∀ x ∈ m.allU k, 0 ≤ x.1 ∧ x.1 < k ∧ m.lives x.1 = true ∧ m.gen x.1 = x.2) ∧ (m.allU k).Pairwise (fun x y => x.1 < y.1)
  | 0 => by simp [PoolM.allU]
  | k + 1 => by
    obtain ⟨h1, h2⟩ := allU_get m k
    simp only [PoolM.allU]
    split
    · rename_i hl
      constructor
      · intro x hx
        rcases List.mem_append.1 hx with hx | hx
        · obtain ⟨a, b, c⟩ := h1 x hx
          exact ⟨a, by push_cast; omega, c⟩
        · simp only [List.mem_singleton] at hx; subst hx
          exact ⟨Int.natCast_nonneg _, by push_cast; omega, hl, rfl⟩
      · rw [List.pairwise_append]
        refine ⟨h2, by simp, ?_⟩
        intro x hx y hy
        simp only [List.mem_singleton] at hy; subst hy
        exact (h1 x hx).2.1
    · exact ⟨fun x hx => by obtain ⟨a, b, c⟩ := h1 x hx; exact ⟨a, by push_cast; omega, c⟩, h2⟩

/-! ### A pool made of its own State -/

theorem frFree_ok (gens0 : List Int) : ∀ (fr : List Int) (m : PoolM), fr.Nodup → (∀ i ∈ fr, 0 ≤ i ∧ i < gens0.length ∧ m.alive.getD i.toNat false = true ∧ gens0.getD i.toNat 0 < 1000000) →
    frFree gens0 fr m = some { m with alive := fr.foldl (fun a i => a.set i.toNat false) m.alive, free := m.free ++ fr }
  | [], m, _, _ => by simp [frFree]
  | i :: fr, m, hnd, h => by
    obtain ⟨a, b, c, d⟩ := h i (by simp)
    rw [List.nodup_cons] at hnd
    rw [frFree, if_neg (by
      rintro (x | x | x | x)
      · omega
      · omega
      · rw [c] at x; cases x
      · omega)]
    rw [frFree_ok gens0 fr _ hnd.2]
    · simp
    · intro j hj
      obtain ⟨a', b', c', d'⟩ := h j (by simp [hj])
      refine ⟨a', b', ?_, d'⟩
      simp only [getD_set]
      rw [if_neg]
      · exact c'
      · rintro ⟨e, _⟩
        exact hnd.1 (by rw [show i = j by omega]; exact hj)

theorem foldl_set (fr : List Int) : ∀ (al : List Bool), (fr.foldl (fun a i => a.set i.toNat false) al).length = al.length ∧
    ∀ j, (fr.foldl (fun a i => a.set i.toNat false) al).getD j false = if (∃ i ∈ fr, i.toNat = j) then false else al.getD j false := by
  induction fr with
  | nil => simp
  | cons i fr ih =>
    intro al
    obtain ⟨h1, h2⟩ := ih (al.set i.toNat false)
    refine ⟨by rw [List.foldl_cons, h1]; simp, fun j => ?_⟩
    rw [List.foldl_cons, h2, getD_set]
    by_cases e : ∃ i ∈ fr, i.toNat = j
    · obtain ⟨x, hx, he⟩ := e
      rw [if_pos ⟨x, hx, he⟩, if_pos ⟨x, by simp [hx], he⟩]
    · rw [if_neg e]
      by_cases e2 : i.toNat = j
      · rw [if_pos (c := ∃ i_1, i_1 ∈ i :: fr ∧ i_1.toNat = j) ⟨i, by simp, e2⟩]
        split
        · rfl
        · rename_i hn
          rw [List.getD_eq_getElem?_getD, List.getElem?_eq_none (by have : ¬ j < al.length := fun h => hn ⟨e2, h⟩; omega)]; rfl
      · rw [if_neg (fun h => e2 h.1), if_neg]
        rintro ⟨x, hx, he⟩
        rcases List.mem_cons.1 hx with rfl | hx
        · exact e2 he
        · exact e ⟨x, hx, he⟩

theorem from_state {m : PoolM} {L A : List (Int × Int)} {k : Nat} (hm : m.Ok) (h : Good m L A k) (hk : k ≤ 400) : fromM m.most m.stGens m.free = some m := by
  have hlt : ∀ g ∈ m.gens, g < 1000000 := fun g hg => by have := h.gens g hg; omega
  have e1 : m.stGens = m.gens := by
    apply List.ext_getElem?
    intro i
    simp only [PoolM.stGens, List.getElem?_mapIdx]
    cases hi : m.gens[i]? with
    | none => rfl
    | some g =>
      have := hlt g (List.mem_of_getElem? hi)
      simp; omega
  have e2 : m.gens.map (fun g => if 1000000 < g then 1000000 else g) = m.gens := by
    conv => rhs; rw [← List.map_id m.gens]
    apply List.map_congr_left
    intro g hg
    have := hlt g hg
    rw [if_neg (by omega)]; rfl
  have e3 : m.gens.map (fun g => decide (g ≤ 1000000)) = List.replicate m.gens.length true := by
    rw [List.eq_replicate_iff]
    refine ⟨by simp, ?_⟩
    intro b hb
    obtain ⟨g, hg, rfl⟩ := List.mem_map.1 hb
    have := hlt g hg
    simp; omega
  have hg1 : ∀ g ∈ m.gens, 1 ≤ g ∧ g ≤ 1000001 := fun g hg => ⟨(hm.gens g hg).1, by have := (hm.gens g hg).2; omega⟩
  unfold fromM
  rw [e1, if_neg, e2, e3, frFree_ok _ _ _ hm.nodup]
  · have : m.free.foldl (fun a i => a.set i.toNat false) (List.replicate m.gens.length true) = m.alive := by
      obtain ⟨f1, f2⟩ := foldl_set m.free (List.replicate m.gens.length true)
      apply List.ext_getElem
      · rw [f1]; simp [hm.len]
      · intro j h1 h2
        have f3 := f2 j
        have hj : j < m.gens.length := by rw [← hm.len]; exact h2
        rw [List.getD_eq_getElem?_getD, List.getElem?_eq_getElem h1, Option.getD_some] at f3
        rw [f3]
        split
        · rename_i hex
          obtain ⟨i, hi, rfl⟩ := hex
          obtain ⟨i0, _, hd, _⟩ := hm.free i hi
          simpa [PoolM.lives, i0, h2] using hd.symm
        · rename_i hex
          cases hb : m.alive[j] with
          | true => simp [hj]
          | false =>
            have := h.dead (j : Int) (Int.natCast_nonneg j) (by omega) (by simp [PoolM.lives, h2, hb])
            exact absurd ⟨_, this, by simp⟩ hex
    simp only [List.nil_append]
    rw [this]
  · intro i hi
    obtain ⟨i0, i1, hd, hgn⟩ := hm.free i hi
    have hl : i.toNat < m.gens.length := by omega
    refine ⟨i0, i1, by simp [hl], ?_⟩
    simp only [List.getD_eq_getElem?_getD, List.getElem?_eq_getElem hl, Option.getD_some]
    exact hlt _ (List.getElem_mem hl)
  · have := hm.most1
    have := hm.most2
    have := hm.le
    rintro (h | h | h | h)
    · omega
    · omega
    · omega
    · exact h hg1

/-! ### Which of n things -/

def pk (c n : Int) : Int := if c < 0 then Int.tmod (IntKind.i64.wrap (0 - IntKind.i64.wrap (c + 1))) n else Int.tmod c n

theorem pk_range {c n : Int} (hc : -9223372036854775808 ≤ c) (hn : 0 < n) : 0 ≤ pk c n ∧ pk c n < n := by
  unfold pk
  split
  · rw [wr64 (n := c + 1) (by omega) (by omega), wr64 (by omega) (by omega)]
    exact ⟨Int.tmod_nonneg n (by omega), Int.tmod_lt_of_pos _ hn⟩
  · exact ⟨Int.tmod_nonneg n (by omega), Int.tmod_lt_of_pos _ hn⟩

theorem pick_spec {c n : Int} {w : World} {K : Int → World → Prop} (hn : n ≠ 0) (hK : K (pk c n) w) : c6 c n w K := by
  refine c6_of ?_
  unfold f6
  unfold pk at hK
  by_cases h : c < 0
  · rw [if_pos (by simpa using h)]
    rw [if_pos h] at hK
    exact ⟨hn, hK⟩
  · rw [if_neg (by simpa using h)]
    rw [if_neg h] at hK
    exact ⟨hn, hK⟩

end Go.Proofs.Ytmlkjbolccapkaa.F
