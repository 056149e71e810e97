/-
  Contracts of the document's own pool, third part: From; and pools stay in order.
-/
import Derived.Test.YtmlkjbolccapkaaC04f
set_option linter.unusedSimpArgs false
set_option linter.unusedVariables false
namespace Go.Proofs.Ytmlkjbolccapkaa.F
open Go Go.Den Go.Proofs

def capG (g : Int) : Int := if 1000000 < g then 1000000 else g
def onG (g : Int) : Bool := decide (g ≤ 1000000)

/-- What From keeps of a pool while it marks the free ones. -/
structure FrI (most : Int) (gens : List Int) (m : PoolM) : Prop where
  most_ : m.most = most
  gens_ : m.gens = gens.map capG
  len : m.alive.length = gens.length
  nodup : m.free.Nodup
  free : ∀ i ∈ m.free, 0 ≤ i ∧ i < gens.length ∧ m.alive.getD i.toNat false = false ∧ gens.getD i.toNat 0 < 1000000
  dead : ∀ i : Int, 0 ≤ i → i < gens.length → m.alive.getD i.toNat false = false → gens.getD i.toNat 0 < 1000000 → i ∈ m.free
  cnt : m.free.length + m.alive.count true ≤ gens.length

theorem FrI.step {most : Int} {gens : List Int} {m : PoolM} (h : FrI most gens m) {i : Int} (hi : ¬ (i < 0 ∨ i ≥ gens.length ∨ m.alive.getD i.toNat false = false ∨ gens.getD i.toNat 0 ≥ 1000000)) :
    FrI most gens { m with alive := m.alive.set i.toNat false, free := m.free ++ [i] } := by
  simp only [not_or, Bool.not_eq_false] at hi
  obtain ⟨i0, i1, i2, i3⟩ := hi
  have hl : i.toNat < m.alive.length := by have := h.len; omega
  refine ⟨h.most_, h.gens_, by simpa using h.len, ?_, ?_, ?_, ?_⟩
  · show (m.free ++ [i]).Nodup
    rw [List.nodup_append]
    refine ⟨h.nodup, by simp, ?_⟩
    rintro a ha b hb rfl
    simp only [List.mem_singleton] at hb
    subst hb
    have := (h.free _ ha).2.2.1
    rw [i2] at this; cases this
  · intro j hj
    show _ ∧ _ ∧ (m.alive.set _ _).getD _ _ = _ ∧ _
    rw [getD_set]
    rcases List.mem_append.1 hj with hj | hj
    · obtain ⟨a, b, c, d⟩ := h.free j hj
      refine ⟨a, b, ?_, d⟩
      split
      · rfl
      · exact c
    · simp only [List.mem_singleton] at hj
      subst hj
      exact ⟨by omega, by omega, by rw [if_pos ⟨rfl, hl⟩], by omega⟩
  · intro j h0 h1 h2 h3
    show j ∈ m.free ++ [i]
    have h2 : (m.alive.set i.toNat false).getD j.toNat false = false := h2
    rw [getD_set] at h2
    by_cases hij : i.toNat = j.toNat ∧ j.toNat < m.alive.length
    · exact List.mem_append.2 (.inr (by simp; omega))
    · rw [if_neg hij] at h2
      exact List.mem_append.2 (.inl (h.dead j h0 h1 h2 h3))
  · have hc := h.cnt
    have h1 := count_set (l := m.alive) (v := false) hl
    have h2 : m.alive[i.toNat] = true := by
      simp only [List.getD_eq_getElem?_getD, List.getElem?_eq_getElem hl, Option.getD_some] at i2
      exact i2
    rw [h2] at h1
    show (m.free ++ [i]).length + (m.alive.set _ _).count true ≤ _
    simp at h1 ⊢
    omega

theorem FrI.init (most : Int) (gens : List Int) : FrI most gens ⟨most, gens.map capG, gens.map onG, []⟩ := by
  refine ⟨rfl, rfl, by simp, by simp, by simp, ?_, ?_⟩
  · intro i h0 h1 h2 h3
    have hl : i.toNat < gens.length := by omega
    exfalso
    simp only [List.getD_eq_getElem?_getD, List.getElem?_map, List.getElem?_eq_getElem hl, Option.map_some, Option.getD_some, onG, decide_eq_false_iff_not] at h2 h3
    omega
  · have := List.count_le_length (a := true) (l := gens.map onG)
    simpa using this

theorem frFree_I {most : Int} {gens : List Int} : ∀ {free : List Int} {m m' : PoolM}, FrI most gens m → frFree gens free m = some m' → FrI most gens m'
  | [], m, m', h, he => by rw [frFree] at he; cases he; exact h
  | i :: r, m, m', h, he => by
    rw [frFree] at he
    split at he
    · cases he
    · rename_i hc
      exact frFree_I (h.step hc) he

theorem fromM_ok {most : Int} {gens free : List Int} {m : PoolM} (h : fromM most gens free = some m) : m.Ok2 ∧ m.most = most := by
  unfold fromM at h
  split at h
  · cases h
  rename_i hc
  simp only [not_or, Decidable.not_not] at hc
  obtain ⟨c1, c2, c3, c4⟩ := hc
  have hI := frFree_I (FrI.init most gens) h
  have hgl : m.gens.length = gens.length := by rw [hI.gens_]; simp
  have hget : ∀ i : Int, m.gen i = if i.toNat < gens.length then capG (gens.getD i.toNat 0) else 0 := by
    intro i
    unfold PoolM.gen
    rw [hI.gens_]
    simp only [List.getD_eq_getElem?_getD, List.getElem?_map]
    by_cases hl : i.toNat < gens.length
    · rw [if_pos hl, List.getElem?_eq_getElem hl]; rfl
    · rw [if_neg hl, List.getElem?_eq_none (by omega)]; rfl
  refine ⟨⟨⟨by rw [hI.most_]; omega, by rw [hI.most_]; omega, by rw [hI.len, hgl], by rw [hI.most_, hgl]; omega, ?_, ?_, hI.nodup, by rw [hgl]; exact hI.cnt⟩, ?_⟩, hI.most_⟩
  · intro g hg
    rw [hI.gens_] at hg
    obtain ⟨x, hx, rfl⟩ := List.mem_map.1 hg
    have := c4 x hx
    unfold capG
    split <;> omega
  · intro i hi
    obtain ⟨a, b, c, d⟩ := hI.free i hi
    refine ⟨a, by rw [hgl]; exact b, ?_, ?_⟩
    · unfold PoolM.lives; rw [c]; simp
    · rw [hget, if_pos (by omega)]
      unfold capG
      rw [if_neg (by omega)]
      exact d
  · intro i h0 h1 h2 h3
    rw [hgl] at h1
    have h2' : m.alive.getD i.toNat false = false := by
      unfold PoolM.lives at h2
      simpa [h0] using h2
    refine hI.dead i h0 h1 h2' ?_
    rw [hget, if_pos (by omega)] at h3
    unfold capG at h3
    split at h3 <;> omega

theorem ok2_new {n : Int} (h1 : 1 ≤ n) (h2 : n ≤ 200) : PoolM.Ok2 ⟨n, [], [], []⟩ :=
  ⟨PoolM.Ok.new h1 h2, by intro i h0 h1; simp at h1; omega⟩

theorem takeM_ok {m : PoolM} (h : m.Ok2) : m.takeM.1.Ok2 ∧ m.takeM.1.most = m.most := by
  unfold PoolM.takeM
  cases hf : m.free with
  | cons i rest =>
    refine ⟨⟨h.toOk.takeFree hf, ?_⟩, rfl⟩
    have hi := h.free i (by simp [hf])
    intro j h0 h1 h2 h3
    have h1 : j < (m.gens.set i.toNat (m.gen i + 1)).length := h1
    rw [List.length_set] at h1
    rw [PoolM.lives_takeFree m hi.1 (by rw [h.len]; omega)] at h2
    split at h2
    · cases h2
    · rename_i hne
      rw [PoolM.gen_takeFree m hi.1 (by omega) h0, if_neg hne] at h3
      have := h.dead j h0 h1 h2 h3
      rw [hf] at this
      rcases List.mem_cons.1 this with e | e
      · exact absurd e hne
      · exact e
  | nil =>
    simp only []
    split
    · rename_i hl
      refine ⟨⟨h.toOk.takeNew hf hl, ?_⟩, rfl⟩
      intro j h0 h1 h2 h3
      have h1 : j < (m.gens ++ [1]).length := h1
      rw [List.length_append, List.length_singleton] at h1
      rw [PoolM.lives_takeNew m h.len] at h2
      split at h2
      · cases h2
      · rename_i hne
        rw [PoolM.gen_takeNew m h0, if_neg hne] at h3
        exact h.dead j h0 (by omega) h2 h3
    · exact ⟨h, rfl⟩

theorem giveM_ok {m : PoolM} (h : m.Ok2) (i g : Int) : (m.giveM i g).1.Ok2 ∧ (m.giveM i g).1.most = m.most := by
  unfold PoolM.giveM
  split
  · rename_i hi
    refine ⟨⟨h.toOk.give hi, ?_⟩, rfl⟩
    obtain ⟨hlv, hg⟩ := PoolM.is_iff.1 hi
    obtain ⟨i0, hla, _⟩ := lives_lt hlv
    intro j h0 h1 h2 h3
    show j ∈ if g < 1000000 then m.free ++ [i] else m.free
    rw [PoolM.gen_give] at h3
    rw [PoolM.lives_give m i0 hla] at h2
    by_cases hj : j = i
    · subst hj
      rw [if_pos (by omega)]
      simp
    · rw [if_neg hj] at h2
      have := h.dead j h0 h1 h2 h3
      split
      · simp [this]
      · exact this
  · exact ⟨h, rfl⟩

section
variable {S : List Nat} {w0 w : World} {its : List Thing}

set_option maxHeartbeats 1000000 in
theorem RFrom_h (h : Hp S w0 w its) (i j : Nat) {most : Int} {g f : Sl} {u v : Thing} {gens free : List Int} (hi : (its[i]?).map Thing.holds = some u.holds) (hj : (its[j]?).map Thing.holds = some v.holds) (hu : Hp.Reads u g 1 iv gens) (hv : Hp.Reads v f 1 iv free) (hfl : free.length ≤ 1000000000) {K : Option Addr → Int → World → Prop}
    (hN : ∀ w', fromM most gens free = none → Hp S w0 w' its → K none 1 w')
    (hK : ∀ m b w', fromM most gens free = some m → Hp S w0 w' (its ++ [tPool 63 b m]) → K (some ⟨b, 0, none⟩) 0 w') : c32 most g f w K := by
  refine c32_of ?_
  unfold f32
  have hgl := h.lenU i hi hu
  have hfl' := h.lenU j hj hv
  by_cases hmost : most < 1 ∨ 200 < most
  · refine RNew_bad hmost ?_
    refine ifT (by simp) ?_
    refine hN w ?_ h
    unfold fromM
    rw [if_pos (by omega)]
  have h1 := h.ro2 hi hj
  have hu' : Hp.Reads u.ro g 1 iv gens := ⟨hu.rd⟩
  have hv' : Hp.Reads v.ro f 1 iv free := ⟨hv.rd⟩
  refine RNew_h h1 (by omega) (by omega) fun b w1 h1 => ?_
  have bad : ∀ {w' : World}, fromM most gens free = none → Fr [] w w' → K none 1 w' := fun hn hf => hN _ hn (h.keep hf)
  by_cases hlm : (gens.length : Int) > most
  · refine ifT (by simp; omega) ?_
    refine bad ?_ h1.fr
    unfold fromM
    rw [if_pos (by omega)]
  refine ifF (by simp; omega) ?_
  obtain ⟨inf, q1, q2, q3, q4⟩ := inf3
  obtain ⟨inf', r1, r2, r3, r4⟩ := bytes4
  refine ⟨fun t mm w' => ∃ k : Nat, t = k ∧ k ≤ gens.length ∧ mm = gens.length - k ∧ (∀ x ∈ gens.take k, 1 ≤ x ∧ x ≤ 1000001) ∧ Hp [] w w' [u.ro, v.ro, tPool 63 b ⟨most, (gens.take k).map capG, (gens.take k).map onG, []⟩], ⟨gens.length, 0, rfl, by omega, rfl, by simp, h1⟩, ?_⟩
  rintro t mm w2 ⟨k, rfl, hk, rfl, hall, h1⟩
  by_cases hlt : k < gens.length
  · refine ifT (by simp; omega) ?_
    have ga : gens[((k : Int)).toNat]? = some gens[k] := by simp [hlt]
    have hbad : (gens[k] < 1 ∨ gens[k] > 1000001) → fromM most gens free = none := by
      intro hb
      unfold fromM
      rw [if_pos]
      refine .inr (.inr (.inr fun h => ?_))
      have := h gens[k] (List.getElem_mem hlt)
      omega
    refine ⟨fun w' => w' = w2 ∧ 1 ≤ gens[k] ∧ gens[k] ≤ 1000001, ?_, ?_⟩
    · refine h1.ixldU (k := .i .i64) (u := u.ro) (x := gens[k]) 0 rfl hu' (by omega) ga iv_len rfl ?_
      by_cases c1 : gens[k] < 1
      · exact ifT (by simpa using c1) (bad (hbad (.inl c1)) h1.fr)
      refine ifF (by simpa using c1) ?_
      refine h1.ixldU (k := .i .i64) (u := u.ro) (x := gens[k]) 0 rfl hu' (by omega) ga iv_len rfl ?_
      by_cases c2 : gens[k] > 1000001
      · exact ifT (by simpa using c2) (bad (hbad (.inr c2)) h1.fr)
      exact ifF (by simpa using c2) ⟨rfl, by omega, by omega⟩
    · rintro w3 ⟨rfl, c1, c2⟩
      refine h1.ixldU (k := .i .i64) (u := u.ro) (x := gens[k]) 0 rfl hu' (by omega) ga iv_len rfl ?_
      refine ⟨fun g2 w' => w' = w3 ∧ g2 = capG gens[k], ?_, ?_⟩
      · unfold capG
        split <;> rename_i hc
        · rw [if_pos (by simpa using hc)]; exact ⟨rfl, rfl⟩
        · rw [if_neg (by simpa using hc)]; exact ⟨rfl, rfl⟩
      · rintro g2 w4 ⟨rfl, rfl⟩
        obtain ⟨sg, sa, sf, h1⟩ := pool_open h1 (i := 2) rfl
        simp only [List.cons_append, List.nil_append, List.set_cons_zero, List.set_cons_succ] at h1
        have hsg := h1.len 3 rfl
        have hsa := h1.len 4 rfl
        simp only [List.length_map, List.length_take] at hsg hsa
        refine nns ?_
        refine h1.ld (x := sg) 2 rfl rfl ?_
        refine h1.nwapp (c := [_]) 3 (capG gens[k]) rfl iv_len und22 q1 q3 q2 rfl rfl (by simp [iv, Value.oneCell']) (by rw [q4]; omega) (by omega) fun s2 w1 h1 hs2 _ => ?_
        refine nns ?_
        refine h1.st 2 rfl (by simp) rfl fun w1 h1 => ?_
        refine h1.dr fun w1 h1 => ?_
        refine nns ?_
        refine h1.ld (x := sa) 2 rfl rfl ?_
        refine h1.ixldU (k := .i .i64) (u := u.ro) (x := gens[k]) 0 rfl hu' (by omega) ga iv_len rfl ?_
        refine h1.nwapp (c := [_]) 4 (onG gens[k]) rfl bv_len und58 r1 r3 r2 rfl rfl (by simp [bv, Value.oneCell']) (by rw [r4]; omega) (by omega) fun s3 w1 h1 hs3 _ => ?_
        refine nns ?_
        refine h1.st 2 rfl (by simp) rfl fun w1 h1 => ?_
        simp only [List.cons_append, List.nil_append, List.set_cons_zero, List.set_cons_succ] at h1
        have htk : gens.take (k + 1) = gens.take k ++ [gens[k]] := by rw [List.take_succ_eq_append_getElem hlt]
        refine ⟨gens.length - (k + 1), by omega, k + 1, by rw [wr64 (by omega) (by omega)]; omega, by omega, rfl, ?_, ?_⟩
        · intro x hx
          rw [htk] at hx
          rcases List.mem_append.1 hx with hx | hx
          · exact hall x hx
          · simp only [List.mem_singleton] at hx; subst hx; omega
        · rw [htk, List.map_append, List.map_append]
          have h2 := pool_close (m := ⟨most, (gens.take k).map capG ++ [gens[k]].map capG, (gens.take k).map onG ++ [gens[k]].map onG, []⟩) (rest := [u.ro, v.ro]) (h1.sel6 2 3 4 5 0 1 (by decide) rfl rfl rfl rfl rfl rfl)
          exact h2.sel3 1 2 0 (by decide) rfl rfl rfl
  refine ifF (by simp; omega) ?_
  obtain rfl : k = gens.length := by omega
  rw [List.take_length] at hall h1
  have hfm : fromM most gens free = frFree gens free ⟨most, gens.map capG, gens.map onG, []⟩ := by
    unfold fromM
    rw [if_neg]
    · rfl
    rintro (h | h | h | h)
    · omega
    · omega
    · omega
    · exact h hall
  rw [hfm] at hK bad
  refine ⟨fun t mm w' => ∃ (k : Nat) (m : PoolM), t = k ∧ k ≤ free.length ∧ mm = free.length - k ∧ FrI most gens m ∧ m.free.length = k ∧
      frFree gens free ⟨most, gens.map capG, gens.map onG, []⟩ = frFree gens (free.drop k) m ∧ Hp [] w w' [u.ro, v.ro, tPool 63 b m], ⟨free.length, 0, _, rfl, by omega, rfl, FrI.init most gens, rfl, rfl, h1⟩, ?_⟩
  rintro t mm w3 ⟨k, m, rfl, hk, rfl, hI, hmf, hfrom, h1⟩
  by_cases hlt : k < free.length
  · refine ifT (by simp; omega) ?_
    have hdr : free.drop k = free[k] :: free.drop (k + 1) := List.drop_eq_getElem_cons hlt
    refine h1.ixldU (k := .i .i64) (u := v.ro) (x := free[k]) 1 rfl hv' (by omega) (by simp [hlt]) iv_len rfl ?_
    generalize free[k] = x at hdr ⊢
    have none_ : (x < 0 ∨ x ≥ gens.length ∨ m.alive.getD x.toNat false = false ∨ gens.getD x.toNat 0 ≥ 1000000) → ∀ {w' : World}, Fr [] w w' → K none 1 w' := by
      intro h w' hf
      refine bad ?_ hf
      rw [hfrom, hdr, frFree, if_pos h]
    refine ⟨fun w' => w' = w3 ∧ 0 ≤ x ∧ x < gens.length ∧ gens.getD x.toNat 0 < 1000000, ?_, ?_⟩
    · by_cases c1 : x < 0
      · exact ifT (by simpa using c1) (none_ (.inl c1) h1.fr)
      refine ifF (by simpa using c1) ?_
      by_cases c2 : x ≥ gens.length
      · exact ifT (by simp; omega) (none_ (.inr (.inl c2)) h1.fr)
      refine ifF (by simp; omega) ?_
      have c5 : x.toNat < gens.length := by omega
      refine h1.ixldU (k := .i .i64) (u := u.ro) (y := gens.getD x.toNat 0) (x := gens.getD x.toNat 0) 0 rfl hu' (by omega) (by simp [c5]) iv_len rfl ?_
      by_cases c6 : gens.getD x.toNat 0 ≥ 1000000
      · exact ifT (by simpa using c6) (none_ (.inr (.inr (.inr c6))) h1.fr)
      · exact ifF (by simpa using c6) ⟨rfl, by omega, by omega, by omega⟩
    · rintro w4 ⟨rfl, x0, x1, x2⟩
      refine rfree_h h1 2 (by omega) rfl ?_
      by_cases hin : x ∈ m.free
      · refine ifT (by simpa using hin) ?_
        exact none_ (.inr (.inr (.inl (hI.free x hin).2.2.1))) h1.fr
      · refine ifF (by simpa using hin) ?_
        have hgood : ¬ (x < 0 ∨ x ≥ gens.length ∨ m.alive.getD x.toNat false = false ∨ gens.getD x.toNat 0 ≥ 1000000) := by
          rintro (h | h | h | h)
          · omega
          · omega
          · exact hin (hI.dead x x0 x1 h x2)
          · omega
        have hml := hI.len
        obtain ⟨sg, sa, sf, h1⟩ := pool_open h1 (i := 2) rfl
        simp only [List.cons_append, List.nil_append, List.set_cons_zero, List.set_cons_succ] at h1
        have hsf := h1.len 5 rfl
        refine nns ?_
        refine h1.ld (x := sa) 2 rfl rfl ?_
        refine h1.ixst 4 rfl x0 (by omega) bv_len (y := false) rfl rfl fun w1 h1 => ?_
        refine nns ?_
        refine h1.ld (x := sf) 2 rfl rfl ?_
        refine h1.nwapp (c := [_]) 5 x rfl iv_len und22 q1 q3 q2 rfl rfl (by simp [iv, Value.oneCell']) (by rw [q4]; omega) (by omega) fun s2 w1 h1 hs2 _ => ?_
        refine nns ?_
        refine h1.st 2 rfl (by simp) rfl fun w1 h1 => ?_
        simp only [List.cons_append, List.nil_append, List.set_cons_zero, List.set_cons_succ] at h1
        have h2 := pool_close (m := { m with alive := m.alive.set x.toNat false, free := m.free ++ [x] }) (rest := [u.ro, v.ro]) (h1.sel6 2 3 4 5 0 1 (by decide) rfl rfl rfl rfl rfl rfl)
        refine ⟨free.length - (k + 1), by omega, k + 1, _, by rw [wr64 (by omega) (by omega)]; omega, by omega, rfl, hI.step hgood, ?_, ?_, h2.sel3 1 2 0 (by decide) rfl rfl rfl⟩
        · show (m.free ++ [x]).length = _
          simp [hmf]
        · rw [hfrom, hdr, frFree, if_neg hgood]
  · refine ifF (by simp; omega) ?_
    obtain rfl : k = free.length := by omega
    rw [List.drop_length, frFree] at hfrom
    exact hK m b _ hfrom (h.r0 rfl (h1.sel1 2 rfl))
end
end Go.Proofs.Ytmlkjbolccapkaa.F
