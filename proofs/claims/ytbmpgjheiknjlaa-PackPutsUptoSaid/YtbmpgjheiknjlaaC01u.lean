/-
  Contracts of the document's own: a row is read in a form (second part: the walk).
-/
import Derived.Test.YtbmpgjheiknjlaaC01q
set_option linter.unusedSimpArgs false
set_option linter.unusedVariables false
set_option maxRecDepth 100000
namespace Go.Proofs.Ytbmpgjheiknjlaa.F
open Go Go.Den Go.Proofs

/-- One number more, of the first two forms. -/
theorem Told.one {form n : Int} {cur X cur1 : List Int} {last : Int} (h : Told form n cur X last 0 cur1) (hf : form = 0 ∨ form = 1) (hlt : (X.length : Int) < n) {y last2 : Int} (hye : y = (if form = 1 then IntKind.i64.wrap (zag (getU cur1).1 + last) else zag (getU cur1).1)) (hlast : form = 1 → last2 = y) :
    Told form n cur (X ++ [y]) last2 0 (cur1.drop (getU cur1).2.toNat) ∧ ∀ l rest, cur = formU form l ++ rest → (l.length : Int) = n → R64 l → (getU cur1).2 ≠ 0 := by
  have key : ∀ l rest, cur = formU form l ++ rest → (l.length : Int) = n → R64 l → (getU cur1).2 ≠ 0 ∧ ∃ k, X ++ [y] = l.take k ∧ k ≤ l.length ∧ cur1.drop (getU cur1).2.toNat = (if form = 0 then encZ (l.drop k) else encS last2 (l.drop k)) ++ rest := by
    intro l rest hc hln hr
    obtain ⟨_, k, g2, g3, g4⟩ := (h l rest hc hln hr).1 hf
    have hXl : X.length = k := by rw [g2, List.length_take]; omega
    have hkl : k < l.length := by omega
    have hd : l.drop k = l[k] :: l.drop (k + 1) := List.drop_eq_getElem_cons hkl
    have htk : l.take (k + 1) = l.take k ++ [l[k]] := List.take_succ_eq_append_getElem hkl
    have hxr := hr l[k] (List.getElem_mem hkl)
    rw [hd] at g4
    generalize l[k] = x at hd htk hxr g4
    rcases hf with rfl | rfl
    · have e : cur1 = putU (zig x) ++ (encZ (l.drop (k + 1)) ++ rest) := by
        rw [g4, if_pos rfl]; simp [encZ]
      have hg := getI_put hxr.1 hxr.2 (encZ (l.drop (k + 1)) ++ rest)
      rw [← e] at hg
      have hp := putU_pos (zig x)
      rw [if_neg (by omega)] at hye
      rw [hg, zag_zig] at hye
      refine ⟨by rw [hg]; simp; intro h0; rw [h0] at hp; simp at hp, k + 1, by rw [htk, ← g2, hye], by omega, ?_⟩
      rw [hg, if_pos rfl, e]
      exact drop_num _ _ rfl
    · have e : cur1 = putU (zig (IntKind.i64.wrap (x - last))) ++ (encS x (l.drop (k + 1)) ++ rest) := by
        rw [g4, if_neg (by omega), encS]; simp
      have hg := getI_put (wr64lo (x - last)) (wr64hi (x - last)) (encS x (l.drop (k + 1)) ++ rest)
      rw [← e] at hg
      have hp := putU_pos (zig (IntKind.i64.wrap (x - last)))
      rw [if_pos rfl, hg, zag_zig] at hye
      have hyx : y = x := by
        rw [hye, wi64, wi64]
        split <;> split <;> omega
      have hl2 := hlast rfl
      refine ⟨by rw [hg]; simp; intro h0; rw [h0] at hp; simp at hp, k + 1, by rw [htk, ← g2, hyx], by omega, ?_⟩
      rw [hg, if_neg (by omega), hl2, hyx, e]
      exact drop_num _ _ rfl
  refine ⟨fun l rest hc hln hr => ⟨fun _ => ?_, fun h2 => by omega⟩, fun l rest hc hln hr => (key l rest hc hln hr).1⟩
  exact ⟨rfl, (key l rest hc hln hr).2⟩

/-- The head of the third form. -/
theorem Told.head {n : Int} {cur : List Int} (hn1 : n ≤ 100000) :
    Told 2 n cur [] 0 (getU cur).1 (cur.drop (getU cur).2.toNat) ∧ ∀ l rest, cur = formU 2 l ++ rest → (l.length : Int) = n → R64 l → (getU cur).2 ≠ 0 ∧ (getU cur).1 ≤ n := by
  have key : ∀ l rest, cur = formU 2 l ++ rest → (l.length : Int) = n → R64 l → (getU cur).2 ≠ 0 ∧ cur.drop (getU cur).2.toNat = (runsL l).flatMap encP ++ rest ∧ (getU cur).1 = (runsL l).length := by
    intro l rest hc hln hr
    have hrl := runsL_len l
    have e : cur = putU ((runsL l).length : Int) ++ ((runsL l).flatMap encP ++ rest) := by
      rw [hc]; show encR l ++ rest = _; simp [encR]
    have hg := getU_put (n := ((runsL l).length : Int)) (by omega) (by omega) ((runsL l).flatMap encP ++ rest)
    rw [← e] at hg
    have hp := putU_pos ((runsL l).length : Int)
    refine ⟨by rw [hg]; simp; intro h0; rw [h0] at hp; simp at hp, ?_, by rw [hg]⟩
    rw [hg, e]
    exact drop_num _ _ rfl
  refine ⟨fun l rest hc hln hr => ⟨fun h => by omega, fun _ => ?_⟩, fun l rest hc hln hr => ?_⟩
  · obtain ⟨_, g2, g3⟩ := key l rest hc hln hr
    exact ⟨[], runsL l, rfl, rfl, g2, g3⟩
  · obtain ⟨g1, _, g3⟩ := key l rest hc hln hr
    have := runsL_len l
    exact ⟨g1, by omega⟩

/-- One run more. -/
theorem Told.run {n : Int} {cur X cur1 : List Int} {last runs : Int} (h : Told 2 n cur X last runs cur1) (hr0 : 0 < runs) (hn1 : n ≤ 100000) (last2 : Int) :
    Told 2 n cur (X ++ List.replicate (getU cur1).1.toNat (zag (getU (cur1.drop (getU cur1).2.toNat)).1)) last2 (runs - 1) ((cur1.drop (getU cur1).2.toNat).drop (getU (cur1.drop (getU cur1).2.toNat)).2.toNat) ∧
    ∀ l rest, cur = formU 2 l ++ rest → (l.length : Int) = n → R64 l → (getU cur1).2 ≠ 0 ∧ 1 ≤ (getU cur1).1 ∧ X.length + (getU cur1).1 ≤ n ∧ (getU (cur1.drop (getU cur1).2.toNat)).2 ≠ 0 := by
  generalize hcur2 : cur1.drop (getU cur1).2.toNat = cur2
  have canon : ∀ l rest, cur = formU 2 l ++ rest → (l.length : Int) = n → R64 l → ((getU cur1).2 ≠ 0 ∧ 1 ≤ (getU cur1).1 ∧ X.length + (getU cur1).1 ≤ n ∧ (getU cur2).2 ≠ 0) ∧ ∃ D T, runsL l = D ++ T ∧ X ++ List.replicate (getU cur1).1.toNat (zag (getU cur2).1) = expand D ∧ cur2.drop (getU cur2).2.toNat = T.flatMap encP ++ rest ∧ runs - 1 = T.length := by
    intro l rest hc hln hr
    obtain ⟨D, T, g2, g3, g4, g5⟩ := (h l rest hc hln hr).2 rfl
    match T, g2, g4, g5 with
    | [], g2, g4, g5 => simp at g5; omega
    | (q, y) :: T, g2, g4, g5 =>
      have hmem := runT_mem none l (q, y) (by show (q, y) ∈ runsL l; rw [g2]; simp)
      have hyr := hr y hmem.2.2
      obtain ⟨m1, m2, _⟩ := hmem
      dsimp only at m1 m2
      have e1 : cur1 = putU q ++ (putU (zig y) ++ (T.flatMap encP ++ rest)) := by rw [g4]; simp [encP]
      have hg1 := getU_put (n := q) (by omega) (by omega) (putU (zig y) ++ (T.flatMap encP ++ rest))
      rw [← e1] at hg1
      have e2 : cur2 = putU (zig y) ++ (T.flatMap encP ++ rest) := by
        rw [← hcur2, hg1, e1]; exact drop_num _ _ rfl
      have hg2 := getI_put hyr.1 hyr.2 (T.flatMap encP ++ rest)
      rw [← e2] at hg2
      have hp1 := putU_pos q
      have hp2 := putU_pos (zig y)
      have hexp := expand_runsL l
      rw [g2] at hexp
      have hlen : X.length + q.toNat ≤ l.length := by
        rw [← hexp, g3]
        simp only [expand, List.flatMap_append, List.flatMap_cons, List.length_append, List.length_replicate]
        omega
      refine ⟨⟨?_, by rw [hg1]; exact m1, by rw [hg1]; dsimp only; omega, ?_⟩, D ++ [(q, y)], T, by rw [g2]; simp, ?_, ?_, ?_⟩
      · rw [hg1]; simp; intro h0; rw [h0] at hp1; simp at hp1
      · rw [hg2]; simp; intro h0; rw [h0] at hp2; simp at hp2
      · rw [hg1, hg2, zag_zig, g3]
        simp [expand]
      · rw [hg2, e2]; exact drop_num _ _ rfl
      · simp only [List.length_cons] at g5; omega
  exact ⟨fun l rest hc hln hr => ⟨fun h => by omega, fun _ => (canon l rest hc hln hr).2⟩, fun l rest hc hln hr => (canon l rest hc hln hr).1⟩

/-- What the document's reading of a form answers. -/
def DocOk (form n : Int) (cur X : List Int) (size : Int) : Prop :=
  (size = 0 ∧ X = [] ∨ 0 < size ∧ size ≤ cur.length ∧ (X.length : Int) = n ∧ R64 X) ∧
  ∀ l rest, (form = 0 ∨ form = 1 ∨ form = 2) → cur = formU form l ++ rest → (l.length : Int) = n → R64 l → X = l ∧ size = ((formU form l).length : Int)

theorem DocOk.none {form n : Int} {cur : List Int} (h : ∀ l rest, (form = 0 ∨ form = 1 ∨ form = 2) → cur = formU form l ++ rest → (l.length : Int) = n → R64 l → False) : DocOk form n cur [] 0 :=
  ⟨.inl ⟨rfl, rfl⟩, fun l rest hf hc hln hr => (h l rest hf hc hln hr).elim⟩

section
variable {S : List Nat} {w0 w : World} {its : List Thing}

set_option maxHeartbeats 4000000 in
theorem DocRow_spec (h : Hp S w0 w its) (j : Nat) {u : Thing} {b : Sl} {cur : List Int} {form n : Int} (hj : (its[j]?).map Thing.holds = some u.holds) (hu : Hp.Reads u b 1 u8v cur) (hb : Bytes cur) (hl : cur.length ≤ 9000000000000000) (hcap : b.len ≤ b.cap)
    (hf0 : 0 ≤ form) (hn0 : 0 < n) (hn1 : n ≤ 100000) {K : Sl → Int → World → Prop}
    (hK : ∀ s X size w', DocOk form n cur X size → Hp S w0 w' (its ++ [tSl s 2 1 iv X]) → K s size w') : c42 b n form w K := by
  refine c42_of ?_
  unfold f42
  obtain ⟨inf, q1, q2, q3, q4⟩ := inf2
  have hbl := h.lenU j hj hu
  have hu' : Hp.Reads u.ro b 1 u8v cur := ⟨hu.rd⟩
  have none_ : (∀ l rest, (form = 0 ∨ form = 1 ∨ form = 2) → cur = formU form l ++ rest → (l.length : Int) = n → R64 l → False) → ∀ {w' : World}, Fr [] w w' → K ⟨none, 0, 0⟩ 0 w' := fun hn w' hf => hK _ _ _ _ (DocOk.none hn) ((h.keep hf).nil 2 1 iv)
  have ewn : IntKind.u64.wrap n = n := by rw [w64]; omega
  rw [ewn]
  refine ⟨fun at_ runs w' => w' = w ∧ 0 ≤ at_ ∧ at_ ≤ cur.length ∧ 0 ≤ runs ∧ runs ≤ n ∧ (form ≠ 2 → runs = 0) ∧ Told form n cur [] 0 runs (cur.drop at_.toNat), ?_, ?_⟩
  · by_cases hf2 : form = 2
    · subst hf2
      refine ifT (by simp) ?_
      obtain ⟨r0, r1, r2, r3, r4, r5⟩ := getU_range hb
      obtain ⟨t1, t2⟩ := Told.head (cur := cur) hn1
      refine RGet_spec h j hj hu hb hl ?_
      by_cases hbad : (getU cur).2 = 0 ∨ n < (getU cur).1
      · refine ifT (by rcases hbad with g | g <;> simp [g]) (none_ ?_ (Fr.refl _ _))
        intro l rest _ hc hln hr
        have := t2 l rest hc hln hr
        omega
      · simp only [not_or] at hbad
        refine ifF (by simp [hbad.1]; omega) ⟨rfl, by omega, by omega, by omega, by omega, by omega, t1⟩
    · refine ifF (by simpa using hf2) ⟨rfl, by omega, by omega, by omega, by omega, fun _ => rfl, ?_⟩
      by_cases hf : form = 0 ∨ form = 1
      · exact Told.start hf
      · exact fun l rest _ _ _ => ⟨fun h => absurd h hf, fun h => absurd h hf2⟩
  rintro at0 runs0 w1 ⟨rfl, a0, a1, b0, b1, c0, t0⟩
  have h1 := (h.ro1 hj).nil 2 1 iv
  simp only [List.cons_append, List.nil_append] at h1
  refine ⟨fun l at_ last runs m w' => ∃ X, 0 ≤ at_ ∧ at_ ≤ cur.length ∧ (X ≠ [] → 0 < at_) ∧ R64 X ∧ (X.length : Int) ≤ n ∧ 0 ≤ runs ∧ runs ≤ n ∧ (form ≠ 2 → runs = 0) ∧ Told form n cur X last runs (cur.drop at_.toNat) ∧ m = n.toNat - X.length ∧ Hp [] w1 w' [u.ro, tSl l 2 1 iv X],
    ⟨n.toNat, [], a0, a1, fun h => absurd rfl h, (by intro x hx; cases hx), by simp; omega, b0, b1, c0, t0, rfl, h1⟩, ?_⟩
  clear a0 a1 b0 b1 c0 t0 h1
  rintro l at_ last runs m w2 ⟨X, a0, a1, a2, hX, hXn, b0, b1, c0, t0, rfl, h1⟩
  have hll := h1.len (s := l) 1 rfl
  have hb1 : Bytes (cur.drop at_.toNat) := bytes_drop hb _
  have hlen1 : (cur.drop at_.toNat).length = cur.length - at_.toNat := List.length_drop
  by_cases hgo : (X.length : Int) < n ∧ (form < 2 ∨ 0 < runs)
  · obtain ⟨g1, g2⟩ := hgo
    refine ifT ?_ ?_
    · have : decide ((l.len : Int) < n) = true := by simp; omega
      rw [this]
      rcases g2 with g | g <;> simp [g]
    have hfr : form = 0 ∨ form = 1 ∨ form = 2 := by
      by_cases hf2 : form = 2
      · exact .inr (.inr hf2)
      · have := c0 hf2; omega
    refine ⟨fun at3 runs3 many w' => w' = w2 ∧ at_ ≤ at3 ∧ at3 ≤ cur.length ∧ 0 ≤ runs3 ∧ runs3 ≤ n ∧ (form ≠ 2 → runs3 = 0 ∧ many = 1 ∧ at3 = at_) ∧ 1 ≤ many ∧ X.length + many ≤ n ∧ (form = 2 → many = (getU (cur.drop at_.toNat)).1 ∧ runs3 = runs - 1 ∧ cur.drop at3.toNat = (cur.drop at_.toNat).drop (getU (cur.drop at_.toNat)).2.toNat), ?_, ?_⟩
    · by_cases hf2 : form = 2
      · subst hf2
        refine ifT (by simp) ?_
        refine Hp.cutv (s := b) hu' (by omega) u8v_len a0 (by omega) (by omega) (Int.le_refl _) (by omega) fun s hs hsl hsc => ?_
        have e1 : (cur.take ((b.len : Int)).toNat).drop at_.toNat = cur.drop at_.toNat := by rw [List.take_of_length_le (by omega)]
        rw [e1] at hs
        obtain ⟨r0, r1, r2, r3, r4, r5⟩ := getU_range hb1
        obtain ⟨t1, t2⟩ := t0.run (by omega) hn1 0
        refine RGet_spec h1 0 rfl hs hb1 (by omega) ?_
        have ew : IntKind.u64.wrap (IntKind.i64.wrap (n - (l.len : Int))) = n - X.length := by
          rw [wr64 (by omega) (by omega), w64]; omega
        rw [ew]
        by_cases hbad : (getU (cur.drop at_.toNat)).2 = 0 ∨ (getU (cur.drop at_.toNat)).1 < 1 ∨ n - X.length < (getU (cur.drop at_.toNat)).1
        · refine ifT (by rcases hbad with g | g | g <;> simp [g]) (none_ ?_ h1.fr)
          intro l rest _ hc hln hr
          have := t2 l rest hc hln hr
          omega
        · simp only [not_or] at hbad
          have n1 : ¬ (getU (cur.drop at_.toNat)).1 < 1 := hbad.2.1
          have n2 : ¬ (getU (cur.drop at_.toNat)).1 > n - X.length := by omega
          refine ifF (by simp only [decide_eq_false n1, decide_eq_false n2]; simp [hbad.1]) ?_
          have e2 : IntKind.i64.wrap (at_ + (getU (cur.drop at_.toNat)).2) = at_ + (getU (cur.drop at_.toNat)).2 := wr64 (by omega) (by omega)
          have e3 : IntKind.u64.wrap (runs - 1) = runs - 1 := by rw [w64]; omega
          rw [e2, e3]
          refine ⟨rfl, by omega, by omega, by omega, by omega, by omega, by omega, by omega, fun _ => ⟨rfl, rfl, ?_⟩⟩
          rw [List.drop_drop]
          congr 1; omega
      · exact ifF (by simpa using hf2) ⟨rfl, by omega, by omega, by omega, by omega, fun _ => ⟨c0 hf2, rfl, rfl⟩, by omega, by omega, fun h => absurd h hf2⟩
    rintro at3 runs3 many w3 ⟨rfl, d0, d1, e0, e1, f0, m0, m1, k0⟩
    have hb2 : Bytes (cur.drop at3.toNat) := bytes_drop hb _
    have hlen2 : (cur.drop at3.toNat).length = cur.length - at3.toNat := List.length_drop
    refine Hp.cutv (s := b) hu' (by omega) u8v_len (by omega) (by omega) (by omega) (Int.le_refl _) (by omega) fun s2 hs2 hsl2 hsc2 => ?_
    have e4 : (cur.take ((b.len : Int)).toNat).drop at3.toNat = cur.drop at3.toNat := by rw [List.take_of_length_le (by omega)]
    rw [e4] at hs2
    obtain ⟨r0, r1, r2, r3, r4, r5⟩ := getU_range hb2
    refine RGetInt_spec h1 0 rfl hs2 hb2 (by omega) ?_
    have hz := zag_range r0 r1
    unfold getI
    -- what comes next
    obtain ⟨y, last2, hy, hye, hlast⟩ : ∃ y last2 : Int, (-9223372036854775808 ≤ y ∧ y ≤ 9223372036854775807) ∧ y = (if form = 1 then IntKind.i64.wrap (zag (getU (cur.drop at3.toNat)).1 + last) else zag (getU (cur.drop at3.toNat)).1) ∧ last2 = (if form = 1 then y else last) := by
      by_cases c : form = 1
      · exact ⟨_, _, ⟨wr64lo _, wr64hi _⟩, by rw [if_pos c], rfl⟩
      · exact ⟨_, _, hz, by rw [if_neg c], rfl⟩
    have next : Told form n cur (X ++ List.replicate many.toNat y) last2 runs3 ((cur.drop at3.toNat).drop (getU (cur.drop at3.toNat)).2.toNat) ∧ ∀ l rest, cur = formU form l ++ rest → (l.length : Int) = n → R64 l → (getU (cur.drop at3.toNat)).2 ≠ 0 := by
      by_cases hf2 : form = 2
      · subst hf2
        obtain ⟨k1, k2, k3⟩ := k0 rfl
        obtain ⟨t1, t2⟩ := t0.run (by omega) hn1 last2
        rw [← k3] at t1 t2
        rw [← k1] at t1
        rw [if_neg (by omega)] at hye
        rw [hye, k2]
        exact ⟨t1, fun l rest hc hln hr => (t2 l rest hc hln hr).2.2.2⟩
      · obtain ⟨k1, k2, k3⟩ := f0 hf2
        have hf : form = 0 ∨ form = 1 := by omega
        subst k2 k3
        rw [c0 hf2] at t0
        rw [k1]
        exact t0.one hf g1 hye (fun h => by rw [hlast, if_pos h])
    obtain ⟨t1, t2⟩ := next
    by_cases hk3 : (getU (cur.drop at3.toNat)).2 = 0
    · refine ifT (by simp [hk3]) (none_ ?_ h1.fr)
      intro l rest _ hc hln hr
      exact t2 l rest hc hln hr hk3
    have hf3 : ¬ form > 2 := by omega
    refine ifF (by simp [hk3, hf3]) ?_
    refine ⟨fun last' x' w' => last' = last2 ∧ x' = y ∧ w' = w3, ?_, ?_⟩
    · by_cases c : form = 1
      · refine ifT (by simpa using c) ⟨?_, ?_, rfl⟩
        · rw [hlast, if_pos c, hye, if_pos c]
        · rw [hye, if_pos c]
      · refine ifF (by simpa using c) ⟨?_, ?_, rfl⟩
        · rw [hlast, if_neg c]
        · rw [hye, if_neg c]
    rintro last' x' w4 ⟨rfl, rfl, rfl⟩
    refine ⟨fun l2 many2 m w' => ∃ k : Nat, many2 = many - k ∧ (k : Int) ≤ many ∧ m = many.toNat - k ∧ Hp [] w1 w' [u.ro, tSl l2 2 1 iv (X ++ List.replicate k x')], ⟨many.toNat, 0, by omega, by omega, rfl, by simpa using h1⟩, ?_⟩
    rintro l2 many2 m w5 ⟨k, rfl, hk, rfl, h1⟩
    have hl2 := h1.len (s := l2) 1 rfl
    simp only [List.length_append, List.length_replicate] at hl2
    by_cases hlt : (k : Int) < many
    · refine ifT (by simp; omega) ?_
      refine h1.nwapp (c := [_]) 1 x' rfl iv_len und24 q1 q3 q2 rfl rfl (by simp [Value.oneCell']) (by rw [q4]; omega) (by omega) fun s3 w6 h1 _ _ => ?_
      have e3 : IntKind.u64.wrap (many - (k : Int) - 1) = many - ((k + 1 : Nat) : Int) := by rw [w64]; omega
      refine ⟨many.toNat - (k + 1), by omega, k + 1, e3, by omega, rfl, ?_⟩
      simp only [List.set_cons_zero, List.set_cons_succ] at h1
      rw [List.replicate_succ', ← List.append_assoc]
      exact h1
    refine ifF (by simp; omega) ?_
    have hkm : k = many.toNat := by omega
    subst hkm
    have e5 : IntKind.i64.wrap (at3 + (getU (cur.drop at3.toNat)).2) = at3 + (getU (cur.drop at3.toNat)).2 := wr64 (by omega) (by omega)
    rw [e5]
    refine ⟨n.toNat - (X.length + many.toNat), by omega, X ++ List.replicate many.toNat x', by omega, by omega, fun _ => by omega, ?_, by simp; omega, by omega, by omega, fun h => (f0 h).1, ?_, by simp, h1⟩
    · intro z hz'
      rcases List.mem_append.1 hz' with hz' | hz'
      · exact hX z hz'
      · rw [(List.mem_replicate.1 hz').2]; exact hy
    · rw [List.drop_drop] at t1
      have : at3.toNat + (getU (cur.drop at3.toNat)).2.toNat = (at3 + (getU (cur.drop at3.toNat)).2).toNat := by omega
      rw [this] at t1
      exact t1
  · refine ifF ?_ ?_
    · by_cases g1 : (X.length : Int) < n
      · have : ¬ (form < 2 ∨ 0 < runs) := fun h => hgo ⟨g1, h⟩
        simp only [not_or] at this
        have n1 : ¬ runs > 0 := this.2
        rw [decide_eq_false this.1, decide_eq_false n1]
        cases decide ((l.len : Int) < n) <;> simp
      · have n1 : ¬ ((l.len : Int) < n) := by omega
        rw [decide_eq_false n1]; simp
    have fin : ∀ l' rest, (form = 0 ∨ form = 1 ∨ form = 2) → cur = formU form l' ++ rest → (l'.length : Int) = n → R64 l' → X = l' ∧ cur.drop at_.toNat = rest ∧ runs = 0 := by
      intro l' rest hf hc hln hr
      refine t0.done hf ?_ hc hln hr
      by_cases g1 : (X.length : Int) < n
      · have : ¬ (form < 2 ∨ 0 < runs) := fun h => hgo ⟨g1, h⟩
        exact .inr ⟨by omega, by omega⟩
      · exact .inl (by omega)
    by_cases hend : (X.length : Int) = n ∧ runs = 0
    · refine ifF (by simp [hend.2]; omega) ?_
      have hX0 : X ≠ [] := by rintro rfl; simp at hend; omega
      refine hK l X at_ w2 ⟨.inr ⟨a2 hX0, a1, hend.1, hX⟩, ?_⟩ (h.r0 rfl (h1.sel1 1 rfl))
      intro l' rest hf hc hln hr
      obtain ⟨p1, p2, _⟩ := fin l' rest hf hc hln hr
      refine ⟨p1, ?_⟩
      have e6 := congrArg List.length p2
      have e7 := congrArg List.length hc
      rw [List.length_append] at e7
      omega
    · refine ifT ?_ (none_ ?_ h1.fr)
      · by_cases g1 : (X.length : Int) = n
        · have : runs ≠ 0 := fun h => hend ⟨g1, h⟩
          simp [this]
        · have n1 : ((l.len : Int) != n) = true := by simp; omega
          rw [n1]; rfl
      · intro l' rest hf hc hln hr
        obtain ⟨p1, p2, p3⟩ := fin l' rest hf hc hln hr
        exact hend ⟨by rw [p1]; exact hln, p3⟩
end
end Go.Proofs.Ytbmpgjheiknjlaa.F
