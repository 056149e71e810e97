/-
  Contracts of the document's own pool: the same answers.
-/
import Derived.Test.YtmlkjbolccapkaaC04d
set_option linter.unusedSimpArgs false
set_option linter.unusedVariables false
namespace Go.Proofs.Ytmlkjbolccapkaa.F
open Go Go.Den Go.Proofs

section
variable {S : List Nat} {w0 w : World} {its : List Thing}

theorem RNew_h (h : Hp S w0 w its) {n : Int} (h1 : 1 ≤ n) (h2 : n ≤ 200) {K : Option Addr → Int → World → Prop} (hK : ∀ b w', Hp S w0 w' (its ++ [tPool 63 b ⟨n, [], [], []⟩]) → K (some ⟨b, 0, none⟩) 0 w') : c15 n w K := by
  refine c15_of ?_
  unfold f15
  have n1 : ¬ n < 1 := by omega
  have n2 : ¬ n > 200 := by omega
  refine ifF (by simp [n1, n2]) ?_
  refine (Hp.begin_ w).nw (c := [_, _, _, _]) fun b w1 h1 => ?_
  have h1 := h1.nil 3 1 iv
  have h1 := h1.nil 4 1 bv
  have h1 := h1.nil 3 1 iv
  exact hK b w1 (h.r0 rfl (pool_close (m := ⟨n, [], [], []⟩) (sg := ⟨none, 0, 0⟩) (sa := ⟨none, 0, 0⟩) (sf := ⟨none, 0, 0⟩) (rest := []) h1))

theorem RNew_bad {n : Int} (hn : n < 1 ∨ 200 < n) {K : Option Addr → Int → World → Prop} (hK : K none 1 w) : c15 n w K := by
  refine c15_of ?_
  unfold f15
  refine ifT ?_ hK
  by_cases h : n < 1
  · simp [h]
  · simp [h]; omega

theorem alive_get {m : PoolM} (hm : m.Ok) {i : Int} (h0 : 0 ≤ i) (h1 : i < m.gens.length) : m.alive[i.toNat]? = some (m.lives i) := by
  have hl : i.toNat < m.alive.length := by rw [hm.len]; omega
  simp [PoolM.lives, h0, hl]
theorem gens_get {m : PoolM} {i : Int} (h0 : 0 ≤ i) (h1 : i < m.gens.length) : m.gens[i.toNat]? = some (m.gen i) := by
  have hl : i.toNat < m.gens.length := by omega
  simp [PoolM.gen, hl]
theorem lives_out {m : PoolM} (hm : m.Ok) {i : Int} (h : ¬ (0 ≤ i ∧ i < m.gens.length)) : m.lives i = false := by
  cases hl : m.lives i with
  | false => rfl
  | true => exact absurd (lives_lt' hm hl) h

theorem RLives_h (h : Hp S w0 w its) (i : Nat) {b : Nat} {m : PoolM} (hm : m.Ok) (hi : (its[i]?).map Thing.holds = some (tPool 63 b m).holds) {x g : Int} {K : Bool → World → Prop}
    (hK : ∀ w', Hp S w0 w' its → K (m.is x g) w') : c30 (some ⟨b, 0, none⟩) x g w K := by
  refine c30_of ?_
  unfold f30
  obtain ⟨sg, sa, sf, h1⟩ := pool_see h i hi
  have hl := h1.len 1 rfl
  have fin : ∀ {w' : World} {q : Bool}, Hp [] w w' [] → q = m.is x g → K q w' := fun hf hq => by
    rw [hq]; exact hK _ (h.keep hf.fr)
  refine h1.nw (c := [_, _]) fun e w1 h1 => ?_
  refine h1.dr fun w1 h1 => ?_
  refine h1.ld0 (x := x) 4 rfl rfl ?_
  by_cases c0 : 0 ≤ x
  · refine ifT (by simpa using c0) ?_
    refine h1.ld0 (x := x) 4 rfl rfl ?_
    refine nns ?_
    refine h1.ld (x := sg) 0 rfl rfl ?_
    by_cases c1 : x < (m.gens.length : Int)
    · refine ifT (by simp; omega) ?_
      refine nns ?_
      refine h1.ld (x := sa) 0 rfl rfl ?_
      refine h1.ld0 (x := x) 4 rfl rfl ?_
      refine h1.ixld (k := .b) (x := m.lives x) 2 rfl c0 (alive_get hm c0 c1) bv_len rfl ?_
      cases hlv : m.lives x with
      | true =>
        refine ifT rfl ?_
        refine nns ?_
        refine h1.ld (x := sg) 0 rfl rfl ?_
        refine h1.ld0 (x := x) 4 rfl rfl ?_
        refine h1.ixld (k := .i .i64) (x := m.gen x) 1 rfl c0 (gens_get c0 c1) iv_len rfl ?_
        refine h1.ld (x := g) 4 rfl rfl ?_
        exact fin (h1.trim 0) (by simp [PoolM.is, hlv])
      | false => exact ifF (by simp) (fin (h1.trim 0) (by simp [PoolM.is, hlv]))
    · exact ifF (by simp; omega) (fin (h1.trim 0) (by simp [PoolM.is, lives_out hm (i := x) (by omega)]))
  · exact ifF (by simpa using c0) (fin (h1.trim 0) (by simp [PoolM.is, lives_out hm (i := x) (by omega)]))

theorem RAt_h (h : Hp S w0 w its) (i : Nat) {b : Nat} {m : PoolM} (hm : m.Ok) (hi : (its[i]?).map Thing.holds = some (tPool 63 b m).holds) {x : Int} {K : Int → Int → Int → World → Prop}
    (hK : ∀ w', Hp S w0 w' its → K (m.atM x).1.1 (m.atM x).1.2 (m.atM x).2 w') : c31 (some ⟨b, 0, none⟩) x w K := by
  refine c31_of ?_
  unfold f31
  obtain ⟨sg, sa, sf, h1⟩ := pool_see h i hi
  have hl := h1.len 1 rfl
  refine h1.nw (c := [_, _]) fun a w1 h1 => ?_
  refine ⟨fun t w' => w' = w1 ∧ t = !m.lives x, ?_, ?_⟩
  · by_cases c0 : x < 0
    · exact ifT (by simpa using c0) ⟨rfl, by rw [lives_out hm (by omega)]; rfl⟩
    refine ifF (by simpa using c0) ?_
    refine nns ?_
    refine h1.ld (x := sg) 0 rfl rfl ?_
    by_cases c1 : x ≥ (m.gens.length : Int)
    · exact ifT (by simp; omega) ⟨rfl, by rw [lives_out hm (by omega)]; rfl⟩
    refine ifF (by simp; omega) ?_
    refine nns ?_
    refine h1.ld (x := sa) 0 rfl rfl ?_
    refine h1.ixld (k := .b) (x := m.lives x) 2 rfl (by omega) (alive_get hm (by omega) (by omega)) bv_len rfl ?_
    exact ⟨rfl, rfl⟩
  · rintro t w' ⟨rfl, rfl⟩
    unfold PoolM.atM at hK
    cases hlv : m.lives x with
    | true =>
      simp only [hlv, if_true] at hK
      obtain ⟨c0, c1⟩ := lives_lt' hm hlv
      refine ifF (by simp) ?_
      refine nns ?_
      refine h1.ld (x := sg) 0 rfl rfl ?_
      refine h1.ixld (k := .i .i64) (x := m.gen x) 1 rfl c0 (gens_get c0 c1) iv_len rfl ?_
      refine h1.st0 4 rfl (by simp) rfl fun w2 h1 => ?_
      refine h1.st 4 rfl (by simp) rfl fun w2 h1 => ?_
      refine h1.ld0 (x := x) 4 rfl rfl ?_
      refine h1.ld (x := m.gen x) 4 rfl rfl ?_
      exact hK _ (h.keep (h1.trim 0).fr)
    | false =>
      simp only [hlv, Bool.false_eq_true, if_false] at hK
      refine ifT (by simp) ?_
      refine h1.st0 4 rfl (by simp) rfl fun w2 h1 => ?_
      refine h1.st 4 rfl (by simp) rfl fun w2 h1 => ?_
      refine h1.ld0 (x := (0 : Int)) 4 rfl rfl ?_
      refine h1.ld (x := (0 : Int)) 4 rfl rfl ?_
      exact hK _ (h.keep (h1.trim 0).fr)

theorem allU_succ {m : PoolM} (hm : m.Ok) {k : Nat} (hk : k < m.gens.length) : m.allU (k + 1) = m.allU k ++ (if m.lives k = true then [((k : Int), m.gen k)] else []) := by
  rw [PoolM.allU]
  split <;> simp

theorem RAll_h (h : Hp S w0 w its) (i : Nat) {b : Nat} {m : PoolM} (hm : m.Ok) (hi : (its[i]?).map Thing.holds = some (tPool 63 b m).holds) {K : Sl → World → Prop}
    (hK : ∀ s w', Hp S w0 w' (its ++ [tSl s 31 2 ent (m.allU m.gens.length)]) → K s w') : c22 (some ⟨b, 0, none⟩) w K := by
  refine c22_of ?_
  unfold f22
  obtain ⟨sg, sa, sf, h1⟩ := pool_see h i hi
  have hl := h1.len 1 rfl
  have h2 := hm.len200
  have h1 := h1.nil 31 2 ent
  obtain ⟨inf, q1, q2, q3, q4⟩ := bytes31
  refine ⟨fun s t mm w' => ∃ k : Nat, t = k ∧ k ≤ m.gens.length ∧ mm = m.gens.length - k ∧ Hp [] w w' [(tBlk b 63 [.int .i64 m.most, .slice sg.a sg.len sg.cap, .slice sa.a sa.len sa.cap, .slice sf.a sf.len sf.cap]).ro, (tSl sg 3 1 iv m.gens).ro, (tSl sa 4 1 bv m.alive).ro, (tSl sf 3 1 iv m.free).ro, tSl s 31 2 ent (m.allU k)], ⟨m.gens.length, 0, rfl, by omega, rfl, h1⟩, ?_⟩
  rintro s t mm w2 ⟨k, rfl, hk, rfl, h1⟩
  refine nns ?_
  refine h1.ld (x := sg) 0 rfl rfl ?_
  by_cases hlt : k < m.gens.length
  · refine ifT (by simp; omega) ?_
    refine nns ?_
    refine h1.ld (x := sa) 0 rfl rfl ?_
    refine h1.ixld (k := .b) (x := m.lives k) 2 rfl (by omega) (alive_get hm (by omega) (by omega)) bv_len rfl ?_
    have hu := PoolM.allU_len m k
    cases hlv : m.lives k with
    | true =>
      refine ifT rfl ?_
      refine nns ?_
      refine h1.ld (x := sg) 0 rfl rfl ?_
      refine h1.ixld (k := .i .i64) (x := m.gen k) 1 rfl (by omega) (gens_get (by omega) (by omega)) iv_len rfl ?_
      have hsl := h1.len 4 rfl
      refine h1.nwapp (c := [_, _]) 4 ((k : Int), m.gen k) rfl ent_len und29 q1 q3 q2 rfl rfl (by simp [ent, Value.oneCell']) (by rw [q4]; omega) (by omega) fun s2 w1 h1 hs2 _ => ?_
      refine ⟨m.gens.length - (k + 1), by omega, k + 1, by rw [wr64 (by omega) (by omega)]; omega, by omega, rfl, ?_⟩
      have e := allU_succ hm hlt
      rw [if_pos hlv] at e
      rw [e]
      exact h1
    | false =>
      refine ifF (by simp) ?_
      refine ⟨m.gens.length - (k + 1), by omega, k + 1, by rw [wr64 (by omega) (by omega)]; omega, by omega, rfl, ?_⟩
      have e := allU_succ hm hlt
      rw [hlv, if_neg (by simp), List.append_nil] at e
      rw [e]
      exact h1
  · refine ifF (by simp; omega) ?_
    obtain rfl : k = m.gens.length := by omega
    exact hK _ _ (h.r0 rfl (h1.sel1 4 rfl))

/-- free: does a number stand in the free row? -/
theorem rfree_h (h : Hp S w0 w its) (i : Nat) {b : Nat} {m : PoolM} (hl : m.free.length ≤ 1000000000) (hi : (its[i]?).map Thing.holds = some (tPool 63 b m).holds) {x : Int} {K : Bool → World → Prop}
    (hK : K (decide (x ∈ m.free)) w) : c34 (some ⟨b, 0, none⟩) x w K := by
  refine c34_of ?_
  unfold f34
  obtain ⟨sg, sa, sf, h1⟩ := pool_see h i hi
  have hl' := h1.len 3 rfl
  refine ⟨fun t mm w' => ∃ k : Nat, t = k ∧ k ≤ m.free.length ∧ mm = m.free.length - k ∧ x ∉ m.free.take k ∧ w' = w, ⟨m.free.length, 0, rfl, by omega, rfl, by simp, rfl⟩, ?_⟩
  rintro t mm w2 ⟨k, rfl, hk, rfl, hno, rfl⟩
  refine nns ?_
  refine h1.ld (x := sf) 0 rfl rfl ?_
  by_cases hlt : k < m.free.length
  · refine ifT (by simp; omega) ?_
    refine nns ?_
    refine h1.ld (x := sf) 0 rfl rfl ?_
    refine h1.ixld (k := .i .i64) (y := m.free[k]) (x := m.free[k]) 3 rfl (by omega) (by simp [hlt]) iv_len rfl ?_
    by_cases he : m.free[k] = x
    · refine ifT (by simpa using he) ?_
      have : x ∈ m.free := he ▸ List.getElem_mem hlt
      rw [decide_eq_true this] at hK
      exact hK
    · refine ifF (by simpa using he) ?_
      refine ⟨m.free.length - (k + 1), by omega, k + 1, by rw [wr64 (by omega) (by omega)]; omega, by omega, rfl, ?_, rfl⟩
      rw [List.take_add_one, List.getElem?_eq_getElem hlt]
      simp only [Option.toList_some, List.mem_append, List.mem_singleton, not_or]
      exact ⟨hno, fun h => he h.symm⟩
  · refine ifF (by simp; omega) ?_
    rw [List.take_of_length_le (by omega)] at hno
    rw [decide_eq_false hno] at hK
    exact hK
end
end Go.Proofs.Ytmlkjbolccapkaa.F
