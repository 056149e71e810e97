/-
  The walk of IdsNever: what the law's own text computes is true.
-/
import Derived.Test.YtmlkjbolccapkaaP04
set_option linter.unusedSimpArgs false
set_option linter.unusedVariables false
namespace Go.Proofs.Ytmlkjbolccapkaa.F
open Go Go.Den Go.Proofs

/-- The document's example. -/
theorem shown_spec {w : World} {K : Bool → World → Prop} (hK : ∀ w', Fr [] w w' → K true w') : c5 w K := by
  refine c5_of ?_
  unfold f5
  refine New_ok (by omega) (by omega) fun b w1 hb1 hb2 hp1 f1 => ?_
  rw [if_neg (by simp)]
  have k1 : PoolM.Ok ⟨2, [], [], []⟩ := PoolM.Ok.new (by omega) (by omega)
  refine Take_new hp1 k1 rfl (by simp) fun w2 O2 hp2 hO2 f2 => ?_
  have k2 := k1.takeNew rfl (by simp)
  have g2 : Fr [] w w2 := f1.trans f2 (by simpa using hb1)
  have l2 : ∀ k ∈ O2, w.heap.size ≤ k := fun k hk => (hO2 k hk).elim (by simp; omega) (fun h => by have := f1.size; omega)
  refine nwE fun ba w3 ha3 hba3 f3 => ?_
  refine Take_new (hp2.fr f3 (by simp)) k2 rfl (by simp [PoolM.takeNew]) fun w4 O4 hp4 hO4 f4 => ?_
  have k4 := k2.takeNew rfl (by simp [PoolM.takeNew])
  have hba4 := hba3.fr f4 (fun h => by have := hp2.lt _ h; omega)
  have g4 : Fr [] w w4 := (g2.trans f3 (by simp)).trans f4 (fun k hk => .inr (l2 k hk))
  have l4 : ∀ k ∈ O4, w.heap.size ≤ k := fun k hk => (hO4 k hk).elim (l2 k) (fun h => by have := g2.size; have := f3.size; omega)
  have n4 : ba ∉ O4 := fun h => (hO4 _ h).elim (fun h => by have := hp2.lt _ h; omega) (fun h => by have := hba3.lt; omega)
  refine nwE fun bb w5 hb5 hbb5 f5 => ?_
  have hba5 := hba4.fr f5 (by simp)
  refine Take_full (hp4.fr f5 (by simp)) rfl (by simp [PoolM.takeNew]) fun w6 f6 => ?_
  refine nwE fun bx w7 hx7 hbx7 f7 => ?_
  have hba7 := (hba5.fr f6 (by simp)).fr f7 (by simp)
  have hbb7 := (hbb5.fr f6 (by simp)).fr f7 (by simp)
  have hp7 := ((hp4.fr f5 (by simp)).fr f6 (by simp)).fr f7 (by simp)
  have g7 : Fr [] w w7 := ((g4.trans f5 (by simp)).trans f6 (by simp)).trans f7 (by simp)
  refine ldE hba7 ?_
  have lt4 := hp4.lt
  have n7b : bb ∉ O4 := fun h => by have := lt4 _ h; omega
  refine Give_spec hp7 k4 fun w8 O8 hp8 hO8 f8 => ?_
  have his : (PoolM.takeNew (PoolM.takeNew ⟨2, [], [], []⟩)).is 0 1 = true := rfl
  simp only [PoolM.takeNew, List.nil_append, List.length_nil, Int.cast_ofNat_Int] at hp8 ⊢
  change PoolAt w8 b (PoolM.give ⟨2, [1, 1], [true, true], []⟩ 0 1) O8 at hp8
  have hba8 := hba7.fr f8 n4
  have hbb8 := hbb7.fr f8 n7b
  have g8 : Fr [] w w8 := g7.trans f8 (fun k hk => .inr (l4 k hk))
  have l8 : ∀ k ∈ O8, w.heap.size ≤ k := fun k hk => (hO8 k hk).elim (l4 k) (fun h => by have := g7.size; omega)
  have n8 : ba ∉ O8 ∧ bb ∉ O8 := ⟨fun h => (hO8 _ h).elim n4 (fun h => by have := hba7.lt; omega), fun h => (hO8 _ h).elim n7b (fun h => by have := hbb7.lt; omega)⟩
  have k8 : (PoolM.give ⟨2, [1, 1], [true, true], []⟩ 0 1).Ok := PoolM.Ok.give k4 (i := 0) (g := 1) rfl
  refine ldE hba8 ?_
  refine Give_spec hp8 k8 fun w9 O9 hp9 hO9 f9 => ?_
  change PoolAt w9 b ⟨2, [1, 1], [false, true], [0]⟩ O9 at hp9
  have hba9 := hba8.fr f9 n8.1
  have hbb9 := hbb8.fr f9 n8.2
  have g9 : Fr [] w w9 := g8.trans f9 (fun k hk => .inr (l8 k hk))
  have l9 : ∀ k ∈ O9, w.heap.size ≤ k := fun k hk => (hO9 k hk).elim (l8 k) (fun h => by have := g8.size; omega)
  have n9 : ba ∉ O9 ∧ bb ∉ O9 := ⟨fun h => (hO9 _ h).elim n8.1 (fun h => by have := hba8.lt; omega), fun h => (hO9 _ h).elim n8.2 (fun h => by have := hbb8.lt; omega)⟩
  refine Take_free hp9 k8 rfl fun w10 hp10 f10 => ?_
  change PoolAt w10 b ⟨2, [2, 1], [true, true], []⟩ O9 at hp10
  have k10 : PoolM.Ok ⟨2, [2, 1], [true, true], []⟩ := PoolM.Ok.takeFree (m := ⟨2, [1, 1], [false, true], [0]⟩) k8 rfl
  have hba10 := hba9.fr f10 n9.1
  have hbb10 := hbb9.fr f10 n9.2
  have g10 : Fr [] w w10 := g9.trans f10 (fun k hk => .inr (l9 k hk))
  refine nwE fun bc w11 hc11 hbc11 f11 => ?_
  refine State_spec (hp10.fr f11 (by simp)) k10 fun w12 gs fs og of_ hgs hfs _ _ f12 => ?_
  have hbc12 := hbc11.fr f12 (by simp)
  refine ldE hbc12 ?_
  refine Lives_spec ((hp10.fr f11 (by simp)).fr f12 (by simp)) rfl fun w13 f13 => ?_
  have hba13 := ((hba10.fr f11 (by simp)).fr f12 (by simp)).fr f13 (by simp)
  refine ldE hba13 ?_
  refine Lives_spec (((hp10.fr f11 (by simp)).fr f12 (by simp)).fr f13 (by simp)) rfl fun w14 f14 => ?_
  have f1014 : Fr [] w10 w14 := ((f11.trans f12 (by simp)).trans f13 (by simp)).trans f14 (by simp)
  have f1214 : Fr [] w12 w14 := f13.trans f14 (by simp)
  refine ldE (hba13.fr f14 (by simp)) ?_
  refine eqEnt ?_
  refine ifT (by rfl) ?_
  refine ifT (by rfl) ?_
  refine ldE (hbb10.fr f1014 (by simp)) ?_
  refine eqEnt ?_
  refine ifT (by rfl) ?_
  refine ifT (by rfl) ?_
  refine ifT (by rfl) ?_
  refine ifT (by rfl) ?_
  refine ifT (by rfl) ?_
  refine ldE (hbc12.fr f1214 (by simp)) ?_
  refine eqEnt ?_
  refine ifT (by rfl) ?_
  refine ifT (by rfl) ?_
  have hgl := hgs.len
  refine ifT (by rw [← hgl]; rfl) ?_
  refine SlF.ix iv_len (hgs.fr f1214 (by simp)) (Int.le_refl 0) (x := (2 : Int)) rfl fun c off cs hc hbc hoff hcs hput => ?_
  refine ld (k := .i .i64) (x := (2 : Int)) hbc (by simpa [Kd.inj] using hcs 0 (by omega)) ?_
  refine ifT (by rfl) ?_
  have hfl := hfs.len
  refine ifT (by rw [← hfl]; rfl) ?_
  refine ifT (by rfl) ?_
  exact hK w14 (g10.trans f1014 (by simp))

/-- Take, as the law sees it. -/
theorem Take_law {b : Nat} {w : World} {m : PoolM} {O : List Nat} {L A : List (Int × Int)} {k : Nat} {K : Int → Int → Int → World → Prop} (hp : PoolAt w b m O) (hok : m.Ok) (hgood : Good m L A k)
    (hK : ∀ i g e w', ((e = 0 ∧ ∃ m' O', (i, g) ∉ A ∧ Good m' (L ++ [(i, g)]) (A ++ [(i, g)]) (k + 1) ∧ (L.length : Int) < m.most ∧ m'.Ok ∧ m'.most = m.most ∧ PoolAt w' b m' O' ∧ (∀ x ∈ O', x ∈ O ∨ w.heap.size ≤ x) ∧ Fr O w w') ∨
      (e = 40 ∧ (L.length : Int) = m.most ∧ Fr [] w w')) → K i g e w') : c9 (some ⟨b, 0, none⟩) w K := by
  cases hf : m.free with
  | cons i rest =>
    obtain ⟨h1, h2, h3⟩ := hgood.takeFree hok hf
    refine Take_free hp hok hf fun w5 hp5 f5 => ?_
    exact hK _ _ _ _ (.inl ⟨rfl, _, O, h1, h2, h3, hok.takeFree hf, rfl, hp5, fun x hx => .inl hx, f5⟩)
  | nil =>
    by_cases hfull : (m.gens.length : Int) < m.most
    · obtain ⟨h1, h2, h3⟩ := hgood.takeNew hok hf hfull
      refine Take_new hp hok hf hfull fun w5 O5 hp5 hO5 f5 => ?_
      exact hK _ _ _ _ (.inl ⟨rfl, _, O5, h1, h2, h3, hok.takeNew hf hfull, rfl, hp5, hO5, f5⟩)
    · have hle := hok.le
      have hfull' : (m.gens.length : Int) = m.most := by omega
      refine Take_full hp hf hfull' fun w5 f5 => ?_
      exact hK _ _ _ _ (.inr ⟨rfl, hgood.full hf hfull', f5⟩)

/-- What the loop holds. -/
def LS (w0 w' : World) (N : Int) (p : Option Addr) (alive all : Sl) (k : Nat) : Prop :=
  ∃ b m O L A oL oA, p = some ⟨b, 0, none⟩ ∧ m.Ok ∧ m.most = N ∧ PoolAt w' b m O ∧ SlF w' alive 31 2 ent L oL ∧ SlF w' all 31 2 ent A oA ∧ Good m L A k ∧
    (∀ x ∈ O, w0.heap.size ≤ x ∧ x ∉ oL ∧ x ∉ oA) ∧ (∀ x ∈ oL, w0.heap.size ≤ x ∧ x ∉ oA) ∧ (∀ x ∈ oA, w0.heap.size ≤ x) ∧ Fr [] w0 w'

theorem never_spec {most : Int} {acts : Sl} {xs : List Int} {oa : List Nat} {w : World} {K : Bool → World → Prop} (hmost : -9223372036854775808 ≤ most) (has : SlR w acts 1 iv xs oa)
    (hrange : ∀ a ∈ xs, -9223372036854775808 ≤ a ∧ a ≤ 9223372036854775807)
    (hK : ∀ w', Fr [] w w' → K true w') : f3 most acts w K := by
  unfold f3
  refine shown_spec fun w1 f1 => ?_
  refine pick_spec (by omega) ?_
  obtain ⟨hr0, hr1⟩ := pk_range (n := 12) hmost (by omega)
  generalize pk most 12 = r at hr0 hr1 ⊢
  rw [wr64 (n := 1 + r) (by omega) (by omega)]
  refine New_ok (by omega) (by omega) fun b w2 hb2 hb2' hp2 f2 => ?_
  rw [if_neg (by simp)]
  have g2 : Fr [] w w2 := f1.trans f2 (by simp)
  refine ⟨fun p alive all i n w' => ∃ k : Nat, i = k ∧ k ≤ acts.len ∧ k ≤ 400 ∧ n = acts.len - k ∧ LS w w' (1 + r) p alive all k,
    ⟨acts.len, 0, rfl, by omega, by omega, by omega, b, ⟨1 + r, [], [], []⟩, [b], [], [], [], [], rfl, PoolM.Ok.new (by omega) (by omega), rfl, hp2, SlF.nil, SlF.nil, Good.new, by have := f1.size; simp; omega, by simp, by simp, g2⟩, ?_⟩
  rintro p alive all i n w3 ⟨k, rfl, hk1, hk2, rfl, b, m, O, L, A, oL, oA, rfl, hok, hmm, hp, hL, hA, hgood, hO, hoL, hoA, g3⟩
  have hLl := hL.len
  have hAl := hA.len
  by_cases hlt : k < acts.len ∧ k < 400
  · rw [if_pos (by simp; omega)]
    have hac := (has.fr g3 (by simp))
    have hkl : k < xs.length := by have := has.len; omega
    refine ⟨fun alive all w' => LS w w' (1 + r) (some ⟨b, 0, none⟩) alive all (k + 1), ?_, ?_⟩
    · refine ⟨fun t w' => w' = w3 ∧ (t = true → 0 < alive.len), ?_, ?_⟩
      · by_cases h0 : 0 < alive.len
        · rw [if_pos (by simpa using h0)]
          refine SlR.ix iv_len hac (Int.natCast_nonneg k) (x := xs[k]) (by simp [hkl]) fun a ha => ?_
          refine ldR0 (k := .i .i64) (x := xs[k]) (ha 0 (by omega)) rfl ?_
          exact ⟨rfl, fun _ => h0⟩
        · rw [if_neg (by simpa using h0)]
          exact ⟨rfl, by simp⟩
      · rintro t w4 ⟨rfl, ht⟩
        cases t with
        | true =>
          have h0 := ht rfl
          rw [if_pos rfl]
          refine SlR.ix iv_len hac (Int.natCast_nonneg k) (x := xs[k]) (by simp [hkl]) fun a ha => ?_
          refine ldR0 (k := .i .i64) (x := xs[k]) (ha 0 (by omega)) rfl ?_
          refine ⟨by omega, ?_⟩
          refine pick_spec (by omega) ?_
          have hwr : -9223372036854775808 ≤ IntKind.i64.wrap (Int.tdiv xs[k] 2) := wr64lo _
          obtain ⟨hj0, hj1⟩ := pk_range (n := (alive.len : Int)) hwr (by omega)
          generalize pk (IntKind.i64.wrap (Int.tdiv xs[k] 2)) (alive.len : Int) = j at hj0 hj1 ⊢
          have hjl : j.toNat < L.length := by omega
          refine SlF.ix ent_len hL hj0 (x := L[j.toNat]) (by simp [hjl]) fun c off cs hc hbc hoff hcs hput => ?_
          refine ld (k := .i .i64) (x := L[j.toNat].1) hbc (by simpa [Kd.inj] using hcs 0 (by omega)) ?_
          refine ldo (k := .i .i64) (x := L[j.toNat].2) hbc (by simpa [Kd.inj] using hcs 1 (by omega)) ?_
          obtain ⟨hi1, hi2, hgood2⟩ := hgood.give hok hjl hk2
          generalize hx : L[j.toNat] = x at hi1 hi2 hgood2 ⊢
          refine nwE fun bx w5 hx5 hbx5 f5 => ?_
          refine ldE hbx5 ?_
          refine Give_spec (hp.fr f5 (by simp)) hok fun w6 O6 hp6 hO6 f6 => ?_
          rw [if_pos hi1] at hp6 ⊢
          have hlt3 := hp.lt
          have n5 : bx ∉ O := fun h => by have := hlt3 _ h; omega
          have hbx6 := hbx5.fr f6 n5
          have n6 : bx ∉ O6 := fun h => (hO6 _ h).elim n5 (fun h => by have := hbx5.lt; omega)
          have g6 : Fr [] w w6 := (g3.trans f5 (by simp)).trans f6 (fun k hk => .inr (hO k hk).1)
          have hL6 := (hL.fr f5 (by simp)).fr f6 (fun k hk h => (hO k h).2.1 hk)
          have hA6 := (hA.fr f5 (by simp)).fr f6 (fun k hk h => (hO k h).2.2 hk)
          have s36 : w4.heap.size ≤ w5.heap.size := f5.size
          have hltL := hL.lt
          have hltA := hA.lt
          have hO6' : ∀ x ∈ O6, w.heap.size ≤ x ∧ x ∉ oL ∧ x ∉ oA := fun y hy => (hO6 y hy).elim (hO y) (fun h => ⟨by have := g3.size; omega, fun h' => by have := hltL y h'; omega, fun h' => by have := hltA y h'; omega⟩)
          have hok6 := hok.give hi1
          refine ldE hbx6 ?_
          refine Give_spec hp6 hok6 fun w7 O7 hp7 hO7 f7 => ?_
          rw [if_neg (by rw [hi2]; simp)] at hp7
          refine ifF (by rw [hi2]; simp) ?_
          have g7 : Fr [] w w7 := g6.trans f7 (fun k hk => .inr (hO6' k hk).1)
          have hL7 := hL6.fr f7 (fun k hk h => (hO6' k h).2.1 hk)
          have hA7 := hA6.fr f7 (fun k hk h => (hO6' k h).2.2 hk)
          have s67 : w4.heap.size ≤ w6.heap.size := by have := f6.size; omega
          have hO7' : ∀ x ∈ O7, w.heap.size ≤ x ∧ x ∉ oL ∧ x ∉ oA := fun y hy => (hO7 y hy).elim (hO6' y) (fun h => ⟨by have := g3.size; omega, fun h' => by have := hltL y h'; omega, fun h' => by have := hltA y h'; omega⟩)
          refine dr fun w8 f8 s8 kp8 => ?_
          have hL8 := hL7.fr f8 (by simp)
          have hA8 := hA7.fr f8 (by simp)
          have hp8 := hp7.fr f8 (by simp)
          have hcap : alive.len ≤ alive.cap := by
            rcases hL.2 with ⟨_, h1, h2, _⟩ | ⟨_, _, _, _, _, _, h, _⟩ <;> omega
          have hL400 : L.length ≤ 1000 := by
            have := hgood.lenL
            have := List.count_le_length (a := true) (l := m.alive)
            have := hok.len
            have := hok.len200
            omega
          refine SlF.cut ent_len hL8 (Int.le_refl 0) hj0 (Int.le_refl j) (by omega) (by omega) fun s1 hs1 hl1 hc1 hn1 => ?_
          rw [wr64 (n := j + 1) (by omega) (by omega)]
          refine SlF.cut ent_len hL8 (by omega) (by omega) (by omega) (by omega) (by omega) fun s2 hs2 hl2 hc2 hn2 => ?_
          obtain ⟨inf, q1, q4, q2, q3⟩ := bytes31
          refine SlF.appS ent_len und29 q1 q2 q4 rfl hs1 hs2.toR (by simp [ent, Value.oneCell']) (by rw [q3]; omega) (by omega) ?_
          intro s' w9 o9 hs9 hl9 ho9 hfr9 f9 _ _
          have hjt : ((alive.len : Int)).toNat = alive.len := by omega
          have hj1' : (j + 1).toNat = j.toNat + 1 := by omega
          have h1l : (0 : Int).toNat = 0 := rfl
          rw [hjt, hj1', h1l, List.drop_zero, ← hLl, List.take_length] at hs9
          have hA9 := hA8.fr f9 (fun k hk h => (hoL k h).2 hk)
          have hp9 := hp8.fr f9 (fun k hk h => (hO7' k hk).2.1 h)
          have g9 : Fr [] w w9 := (g7.trans f8 (by simp)).trans f9 (fun k hk => .inr (hoL k hk).1)
          have e9 : ∀ y ∈ o9, y ∈ oL ∨ w8.heap.size ≤ y := by
            rcases ho9 with rfl | ⟨n, h1, _, rfl⟩
            · exact fun y hy => .inl hy
            · simp; omega
          have s48 : w4.heap.size ≤ w8.heap.size := by have := f7.size; omega
          refine ⟨b, _, O7, _, A, o9, oA, rfl, hok6, hmm, hp9, hs9, hA9, hgood2, ?_, ?_, hoA, g9⟩
          · intro y hy
            refine ⟨(hO7' y hy).1, fun h => (e9 y h).elim (hO7' y hy).2.1 (fun h => ?_), (hO7' y hy).2.2⟩
            have := hp8.lt y hy
            omega
          · intro y hy
            rcases e9 y hy with h | h
            · exact hoL y h
            · exact ⟨by have := g3.size; omega, fun h' => by have := hltA y h'; omega⟩
        | false =>
          rw [if_neg (by simp)]
          have hmost1 := hok.most1
          have hmost2 := hok.most2
          refine Take_law hp hok hgood fun i g e w5 hres => ?_
          refine nwE fun bx w6 hx6 hbx6 f6 => ?_
          rcases hres with ⟨rfl, m', O', hnA, hgood', hLm, hok', hmm', hp5, hO5, f5⟩ | ⟨rfl, hLm, f5⟩
          · refine ifF (by
              have : ¬ ((alive.len : Int) = 1 + r) := by omega
              simp [this]) ?_
            refine ifT (by rfl) ?_
            have hltO := hp.lt
            have hltL := hL.lt
            have hltA := hA.lt
            have g6 : Fr [] w w6 := (g3.trans f5 (fun y hy => .inr (hO y hy).1)).trans f6 (by simp)
            have hL6 := (hL.fr f5 (fun y hy h => (hO y h).2.1 hy)).fr f6 (by simp)
            have hA6 := (hA.fr f5 (fun y hy h => (hO y h).2.2 hy)).fr f6 (by simp)
            have hp6 := hp5.fr f6 (by simp)
            have hO' : ∀ x ∈ O', w.heap.size ≤ x ∧ x ∉ oL ∧ x ∉ oA := fun y hy => (hO5 y hy).elim (hO y) (fun h => ⟨by have := g3.size; omega, fun h' => by have := hltL y h'; omega, fun h' => by have := hltA y h'; omega⟩)
            refine ⟨fun k2 n w' => ∃ j : Nat, k2 = j ∧ j ≤ all.len ∧ n = all.len - j ∧ Fr [] w6 w', ⟨all.len, 0, rfl, by omega, by omega, Fr.refl _ _⟩, ?_⟩
            rintro k2 n w7 ⟨j, rfl, hj, rfl, f7⟩
            have hA400 : A.length ≤ 400 := by have := hgood.lenA; omega
            by_cases hjl : j < all.len
            · rw [if_pos (by simpa using hjl)]
              refine dr fun w8 f8 s8 kp8 => ?_
              have f68 := f7.trans f8 (by simp)
              have hjA : j < A.length := by omega
              refine SlF.ix ent_len (hA6.fr f68 (by simp)) (Int.natCast_nonneg j) (x := A[j]) (by simp [hjA]) fun c off cs hc hbc hoff hcs hput => ?_
              refine ld (k := .i .i64) (x := A[j].1) hbc (by simpa [Kd.inj] using hcs 0 (by omega)) ?_
              refine ldo (k := .i .i64) (x := A[j].2) hbc (by simpa [Kd.inj] using hcs 1 (by omega)) ?_
              refine ldE (hbx6.fr f68 (by simp)) ?_
              refine eqEnt ?_
              rw [if_neg]
              · exact ⟨all.len - (j + 1), by omega, j + 1, wr64 (by omega) (by omega), by omega, rfl, f68⟩
              · intro he
                simp only [Bool.and_eq_true, beq_iff_eq] at he
                exact hnA (by rw [← he.1, ← he.2]; exact List.getElem_mem hjA)
            · rw [if_neg (by simpa using hjl)]
              refine ldE (hbx6.fr f7 (by simp)) ?_
              refine nw fun c1 w8 hc1 hbc1 f8 s8 => ?_
              have f68 := f7.trans f8 (by simp)
              refine appE (v := (i, g)) (hA6.fr f68 (by simp)) hbc1 (by omega) fun sA w9 oA9 hsA hoA9 f9 => ?_
              have hxA : bx ∉ oA := fun h => by have := hltA _ h; have := f5.size; omega
              refine ldE ((hbx6.fr f68 (by simp)).fr f9 hxA) ?_
              refine nw fun c2 w10 hc2 hbc2 f10 s10 => ?_
              have hL10 := ((hL6.fr f68 (by simp)).fr f9 (fun y hy h => (hoL y hy).2 h)).fr f10 (by simp)
              have hL200 : L.length ≤ 200 := by have := hok.most2; omega
              refine appE (v := (i, g)) hL10 hbc2 (by omega) fun sL w11 oL11 hsL hoL11 f11 => ?_
              have g11 : Fr [] w w11 := (((g6.trans f68 (by simp)).trans f9 (fun y hy => .inr (hoA y hy))).trans f10 (by simp)).trans f11 (fun y hy => .inr (hoL y hy).1)
              have hp11 := (((hp6.fr f68 (by simp)).fr f9 (fun y hy h => (hO' y hy).2.2 h)).fr f10 (by simp)).fr f11 (fun y hy h => (hO' y hy).2.1 h)
              have s48 : w4.heap.size ≤ w8.heap.size := by have := f5.size; have := f6.size; have := f68.size; omega
              have eA : ∀ y ∈ oA9, y ∈ oA ∨ w8.heap.size ≤ y := by
                rcases hoA9 with rfl | ⟨n, h1, _, rfl⟩
                · exact fun y hy => .inl hy
                · simp; omega
              have eL : ∀ y ∈ oL11, y ∈ oL ∨ w10.heap.size ≤ y := by
                rcases hoL11 with rfl | ⟨n, h1, _, rfl⟩
                · exact fun y hy => .inl hy
                · simp; omega
              have s810 : w8.heap.size ≤ w10.heap.size := by have := f9.size; omega
              have lA9 := hsA.lt
              have hltO6 := hp6.lt
              have s68 := f68.size
              have noLA : ∀ y ∈ oL, y ∉ oA9 := fun y hy h => (eA y h).elim (hoL y hy).2 (fun h => by have := hltL y hy; omega)
              have hsA11 := (hsA.fr f10 (by simp)).fr f11 (fun y hy h => noLA y h hy)
              refine ⟨b, m', O', _, _, oL11, oA9, rfl, hok', by rw [hmm', hmm], hp11, hsL, hsA11, hgood', ?_, ?_, ?_, g11⟩
              · intro y hy
                refine ⟨(hO' y hy).1, fun h => (eL y h).elim (hO' y hy).2.1 (fun h => ?_), fun h => (eA y h).elim (hO' y hy).2.2 (fun h => ?_)⟩
                · have := hltO6 y hy; omega
                · have := hltO6 y hy; omega
              · intro y hy
                rcases eL y hy with h | h
                · exact ⟨(hoL y h).1, noLA y h⟩
                · exact ⟨by have := g3.size; omega, fun h' => by have := lA9 y h'; omega⟩
              · intro y hy
                rcases eA y hy with h | h
                · exact hoA y h
                · have := g3.size; omega
          · refine ifF (by
              have : ((alive.len : Int) = 1 + r) := by omega
              simp [this]) ?_
            refine ifF (by simp) ?_
            have f46 := f5.trans f6 (by simp)
            exact ⟨b, m, O, L, A, oL, oA, rfl, hok, hmm, hp.fr f46 (by simp), hL.fr f46 (by simp), hA.fr f46 (by simp), hgood.step, hO, hoL, hoA, g3.trans f46 (by simp)⟩
    · rintro alive4 all3 w4 ⟨b', m4, O4, L4, A4, oL4, oA4, hbb, hok4, hmm4, hp4, hL4, hA4, hgood4, hO4, hoL4, hoA4, g4⟩
      simp only [Option.some.injEq, Addr.mk.injEq, and_true] at hbb
      subst hbb
      refine All_spec hp4 hok4 fun w5 l o hl ho f5 => ?_
      have hll := hl.len
      have hlc := allU_count m4 m4.gens.length (by rw [hok4.len]; exact Nat.le_refl _)
      rw [List.take_of_length_le (by rw [hok4.len]; exact Nat.le_refl _)] at hlc
      have hL4l := hL4.len
      have hlenL := hgood4.lenL
      rw [if_neg (by simp; omega)]
      obtain ⟨hget, hpw⟩ := allU_get m4 m4.gens.length
      have h200 := hok4.len200
      have hul := m4.allU_len m4.gens.length
      refine ⟨fun last k3 n w' => ∃ j : Nat, k3 = j ∧ j ≤ l.len ∧ n = l.len - j ∧ last = (if h : 0 < j ∧ j ≤ (m4.allU m4.gens.length).length then (m4.allU m4.gens.length)[j - 1].1 else -1) ∧ Fr [] w5 w', ⟨l.len, 0, rfl, by omega, by omega, by simp, Fr.refl _ _⟩, ?_⟩
      rintro last k3 n w6 ⟨j, rfl, hj, rfl, rfl, f6⟩
      by_cases hjl : j < l.len
      · rw [if_pos (by simpa using hjl)]
        have hjA : j < (m4.allU m4.gens.length).length := by omega
        obtain ⟨x0, x1, xl, xg⟩ := hget _ (List.getElem_mem hjA)
        have ix : ∀ (w' : World) (K : Addr → Prop), Fr [] w5 w' → (∀ c off cs, Blk w' c 31 cs → cs[off]? = some (.int .i64 (m4.allU m4.gens.length)[j].1) → cs[off + 1]? = some (.int .i64 (m4.allU m4.gens.length)[j].2) → K ⟨c, off, none⟩) → Ix l.a l.len (j : Int) 2 K := by
          intro w' K f h
          refine SlF.ix ent_len (hl.fr f (by simp)) (Int.natCast_nonneg j) (x := (m4.allU m4.gens.length)[j]) (by simp [hjA]) fun c off cs hc hbc hoff hcs hput => ?_
          exact h c off cs hbc (by simpa using hcs 0 (by omega)) (by simpa using hcs 1 (by omega))
        have hlast : (if h : 0 < j ∧ j ≤ (m4.allU m4.gens.length).length then (m4.allU m4.gens.length)[j - 1].1 else -1) < (m4.allU m4.gens.length)[j].1 := by
          split
          · exact List.pairwise_iff_getElem.1 hpw (j - 1) j (by omega) hjA (by omega)
          · omega
        generalize (if h : 0 < j ∧ j ≤ (m4.allU m4.gens.length).length then (m4.allU m4.gens.length)[j - 1].1 else -1) = last at hlast ⊢
        refine ix w6 _ f6 fun c off cs hbc e0 e1 => ?_
        refine ld (k := .i .i64) hbc e0 ?_
        have hp6 : ∀ w', Fr [] w5 w' → PoolAt w' b m4 O4 := fun w' f => (hp4.fr f5 (by simp)).fr f (by simp)
        refine At_spec (hp6 w6 f6) hok4.len fun w7 f7 => ?_
        rw [if_pos xl]
        refine nwE fun by_ w8 hy8 hby8 f8 => ?_
        have f58 := (f6.trans f7 (by simp)).trans f8 (by simp)
        refine ix w8 _ f58 fun c off cs hbc e0 e1 => ?_
        refine ld (k := .i .i64) hbc e0 ?_
        refine ldo (k := .i .i64) hbc e1 ?_
        refine Lives_spec (hp6 w8 f58) hok4.len fun w9 f9 => ?_
        have f59 := f58.trans f9 (by simp)
        have hby9 := hby8.fr f9 (by simp)
        refine ⟨fun w' => Fr [] w5 w', ?_, ?_⟩
        · refine dr fun w10 f10 s10 kp10 => ?_
          have f510 := f59.trans f10 (by simp)
          refine ix w10 _ f510 fun c off cs hbc e0 e1 => ?_
          refine ld (k := .i .i64) hbc e0 ?_
          rw [if_neg (by simp; omega)]
          refine ix w10 _ f510 fun c off cs hbc e0 e1 => ?_
          refine ld (k := .i .i64) hbc e0 ?_
          have := hok4.le
          rw [if_neg (by simp; omega), if_neg (by simp)]
          refine ldE (hby9.fr f10 (by simp)) ?_
          refine ix w10 _ f510 fun c off cs hbc e0 e1 => ?_
          refine ld (k := .i .i64) hbc e0 ?_
          refine ldo (k := .i .i64) hbc e1 ?_
          refine neEnt ?_
          rw [if_neg (by simp [xg]), if_neg (by simp [PoolM.is, xl, xg])]
          exact f510
        · intro w10 f10
          refine ix w10 _ f10 fun c off cs hbc e0 e1 => ?_
          refine ld (k := .i .i64) hbc e0 ?_
          refine ⟨l.len - (j + 1), by omega, j + 1, wr64 (by omega) (by omega), by omega, rfl, ?_, f10⟩
          rw [dif_pos ⟨by omega, by omega⟩]; rfl
      · rw [if_neg (by simpa using hjl)]
        refine ⟨by omega, ?_⟩
        have f46 := f5.trans f6 (by simp)
        have g6 := g4.trans f46 (by simp)
        have hw1 : IntKind.i64.wrap ((k : Int) + 1) = ((k + 1 : Nat) : Int) := wr64 (by omega) (by omega)
        split
        · refine State_spec (hp4.fr f46 (by simp)) hok4 fun w7 gs fs og of_ hgs hfs hog hof f7 => ?_
          have g7 := g6.trans f7 (by simp)
          refine From_spec hgs.toR hfs.toR (by have := hok4.cnt; omega) fun w8 q e f8 hq => ?_
          have hfs4 := from_state hok4 hgood4 (by omega)
          rw [hmm4] at hfs4
          rw [hfs4] at hq
          obtain ⟨rfl, bq, Oq, rfl, hpq, hOq⟩ := hq
          rw [if_neg (by simp)]
          have f48 := (f46.trans f7 (by simp)).trans f8 (by simp)
          have s47 := (f46.trans f7 (by simp)).size
          refine ⟨acts.len - (k + 1), by omega, k + 1, hw1, by omega, by omega, rfl, ?_⟩
          refine ⟨bq, m4, Oq, L4, A4, oL4, oA4, rfl, hok4, hmm4, hpq, hL4.fr f48 (by simp), hA4.fr f48 (by simp), hgood4, ?_, hoL4, hoA4, g4.trans f48 (by simp)⟩
          intro y hy
          have h1 := hOq y hy
          exact ⟨by have := g7.size; omega, fun h => by have := hL4.lt y h; omega, fun h => by have := hA4.lt y h; omega⟩
        · refine ⟨acts.len - (k + 1), by omega, k + 1, hw1, by omega, by omega, rfl, ?_⟩
          exact ⟨b, m4, O4, L4, A4, oL4, oA4, rfl, hok4, hmm4, hp4.fr f46 (by simp), hL4.fr f46 (by simp), hA4.fr f46 (by simp), hgood4, hO4, hoL4, hoA4, g6⟩
  · rw [if_neg (by simp; omega)]
    refine ⟨fun k4 n w' => ∃ j : Nat, k4 = j ∧ j ≤ all.len ∧ n = all.len - j ∧ Fr [] w3 w', ⟨all.len, 0, rfl, by omega, by omega, Fr.refl _ _⟩, ?_⟩
    rintro k4 n w4 ⟨j, rfl, hj, rfl, f4⟩
    have hA400 : A.length ≤ 400 := by have := hgood.lenA; omega
    have hL200 : L.length ≤ 200 := by
      have := hgood.lenL
      have := hgood.cnt
      have := hok.len200
      omega
    by_cases hjl : j < all.len
    · rw [if_pos (by simpa using hjl)]
      have hjA : j < A.length := by omega
      refine ⟨fun there i2 n w' => ∃ u : Nat, i2 = u ∧ u ≤ alive.len ∧ n = alive.len - u ∧ (there = true ↔ A[j] ∈ L.take u) ∧ Fr [] w3 w', ⟨alive.len, 0, rfl, by omega, by omega, by simp, f4⟩, ?_⟩
      rintro there i2 n w5 ⟨u, rfl, hu, rfl, hthere, f5⟩
      by_cases hul : u < alive.len
      · rw [if_pos (by simpa using hul)]
        have huL : u < L.length := by omega
        have htk : L.take (u + 1) = L.take u ++ [L[u]] := List.take_succ_eq_append_getElem huL
        refine dr fun w6 f6 s6 kp6 => ?_
        have f36 := f5.trans f6 (by simp)
        cases there with
        | true =>
          rw [if_pos rfl]
          refine ⟨alive.len - (u + 1), by omega, u + 1, wr64 (by omega) (by omega), by omega, rfl, ?_, f36⟩
          rw [htk]
          exact ⟨fun _ => List.mem_append.2 (.inl (hthere.1 rfl)), fun _ => rfl⟩
        | false =>
          rw [if_neg (by simp)]
          refine SlF.ix ent_len (hL.fr f36 (by simp)) (Int.natCast_nonneg u) (x := L[u]) (by simp [huL]) fun c off cs hc hbc hoff hcs hput => ?_
          refine ld (k := .i .i64) (x := L[u].1) hbc (by simpa [Kd.inj] using hcs 0 (by omega)) ?_
          refine ldo (k := .i .i64) (x := L[u].2) hbc (by simpa [Kd.inj] using hcs 1 (by omega)) ?_
          refine SlF.ix ent_len (hA.fr f36 (by simp)) (Int.natCast_nonneg j) (x := A[j]) (by simp [hjA]) fun c off cs hc hbc hoff hcs hput => ?_
          refine ld (k := .i .i64) (x := A[j].1) hbc (by simpa [Kd.inj] using hcs 0 (by omega)) ?_
          refine ldo (k := .i .i64) (x := A[j].2) hbc (by simpa [Kd.inj] using hcs 1 (by omega)) ?_
          refine eqEnt ?_
          refine ⟨alive.len - (u + 1), by omega, u + 1, wr64 (by omega) (by omega), by omega, rfl, ?_, f36⟩
          rw [htk]
          have hno : A[j] ∉ L.take u := fun h => by have := hthere.2 h; cases this
          simp only [List.mem_append, hno, false_or, List.mem_singleton, Bool.and_eq_true, beq_iff_eq]
          constructor
          · rintro ⟨a, b⟩; exact Prod.ext a.symm b.symm
          · intro e; rw [e]; exact ⟨rfl, rfl⟩
      · rw [if_neg (by simpa using hul)]
        have huL : L.take u = L := List.take_of_length_le (by omega)
        rw [huL] at hthere
        refine SlF.ix ent_len (hA.fr f5 (by simp)) (Int.natCast_nonneg j) (x := A[j]) (by simp [hjA]) fun c off cs hc hbc hoff hcs hput => ?_
        refine ld (k := .i .i64) (x := A[j].1) hbc (by simpa [Kd.inj] using hcs 0 (by omega)) ?_
        refine ldo (k := .i .i64) (x := A[j].2) hbc (by simpa [Kd.inj] using hcs 1 (by omega)) ?_
        refine Lives_spec (hp.fr f5 (by simp)) hok.len fun w6 f6 => ?_
        rw [if_neg]
        · exact ⟨all.len - (j + 1), by omega, j + 1, wr64 (by omega) (by omega), by omega, rfl, f5.trans f6 (by simp)⟩
        · have := hgood.mem A[j]
          rw [← hthere] at this
          have : m.is A[j].1 A[j].2 = there := by
            cases h1 : m.is A[j].1 A[j].2 <;> cases there <;> simp_all
          simp [this]
    · rw [if_neg (by simpa using hjl)]
      exact hK w4 (g3.trans f4 (by simp))

end Go.Proofs.Ytmlkjbolccapkaa.F
