/-
  The law's own functions of IdsPlays: fill.
-/
import Derived.Test.YtmlkjbolccapkaaL04b
set_option linter.unusedSimpArgs false
set_option linter.unusedVariables false
namespace Go.Proofs.Ytmlkjbolccapkaa.F
open Go Go.Den Go.Proofs

/-- Written full with a mark. -/
def mk1 {α : Type} (xs : List α) (v : α) (k : Nat) : List α := List.replicate k v ++ xs.drop k
theorem mk1_set {α : Type} (xs : List α) (v : α) {k : Nat} (h : k < xs.length) : (mk1 xs v k).set k v = mk1 xs v (k + 1) := by
  unfold mk1
  rw [List.set_append_right _ _ (by simp), List.length_replicate, Nat.sub_self, List.drop_eq_getElem_cons h, List.set_cons_zero, List.replicate_succ', List.append_assoc]
  rfl
theorem mk1_len {α : Type} (xs : List α) (v : α) {k : Nat} (h : k ≤ xs.length) : (mk1 xs v k).length = xs.length := by
  simp [mk1]; omega
theorem mk1_all {α : Type} (xs : List α) (v : α) {k : Nat} (h : xs.length = k) : mk1 xs v k = List.replicate k v := by
  unfold mk1
  rw [List.drop_of_length_le (by omega), List.append_nil]

def thA (y : Ls) : Thing := tSl y.a 3 1 iv (List.replicate y.a.len y.mark)
def thE (y : Ls) : Thing := tSl y.e 31 2 ent (List.replicate y.e.len (y.mark, y.mark))
def inA (x : Sl × List Int) : Thing := tSl x.1 3 1 iv x.2
def inE (x : Sl × List (Int × Int)) : Thing := tSl x.1 31 2 ent x.2

theorem set4 {ps : List Value} (h4 : ps.length = 4) (a b : Value) : (ps ++ [a]).set 4 b = ps ++ [b] := by
  rw [List.set_append_right _ _ (by omega), h4]; rfl
theorem get4 {ps : List Value} (h4 : ps.length = 4) (a : Value) : (ps ++ [a])[4]? = some a := by
  rw [List.getElem?_append_right (by omega), h4]; rfl

theorem slR_nil {α : Type} {f : α → List Value} {n : Nat} {w : World} {v : α} : SlR w nilS n f (List.replicate nilS.len v) [] := SlR.nil rfl

section
variable {S : List Nat} {w0 w : World} {its : List Thing}

theorem sel5' (h : Hp S w0 w its) (i j k l m : Nat) (hne : [i, j, k, l, m].Nodup) {t u v x y : Thing} (hi : its[i]? = some t) (hj : its[j]? = some u) (hk : its[k]? = some v) (hl : its[l]? = some x) (hm : its[m]? = some y) : Hp S w0 w [t, u, v, x, y] :=
  h.sel5 i j k l m hne hi hj hk hl hm

theorem sel8 (h : Hp S w0 w its) (i0 i1 i2 i3 i4 i5 i6 i7 : Nat) (hne : [i0, i1, i2, i3, i4, i5, i6, i7].Nodup) {t0 t1 t2 t3 t4 t5 t6 t7 : Thing} (h0 : its[i0]? = some t0) (h1 : its[i1]? = some t1) (h2 : its[i2]? = some t2) (h3 : its[i3]? = some t3) (h4 : its[i4]? = some t4) (h5 : its[i5]? = some t5) (h6 : its[i6]? = some t6) (h7 : its[i7]? = some t7) : Hp S w0 w [t0, t1, t2, t3, t4, t5, t6, t7] :=
  h.sel [i0, i1, i2, i3, i4, i5, i6, i7] hne rfl fun n j hj => by
    match n, hj with
    | 0, hj => simp only [List.getElem?_cons_zero, Option.some.injEq] at hj; subst hj; exact h0
    | 1, hj => simp only [List.getElem?_cons_succ, List.getElem?_cons_zero, Option.some.injEq] at hj; subst hj; exact h1
    | 2, hj => simp only [List.getElem?_cons_succ, List.getElem?_cons_zero, Option.some.injEq] at hj; subst hj; exact h2
    | 3, hj => simp only [List.getElem?_cons_succ, List.getElem?_cons_zero, Option.some.injEq] at hj; subst hj; exact h3
    | 4, hj => simp only [List.getElem?_cons_succ, List.getElem?_cons_zero, Option.some.injEq] at hj; subst hj; exact h4
    | 5, hj => simp only [List.getElem?_cons_succ, List.getElem?_cons_zero, Option.some.injEq] at hj; subst hj; exact h5
    | 6, hj => simp only [List.getElem?_cons_succ, List.getElem?_cons_zero, Option.some.injEq] at hj; subst hj; exact h6
    | 7, hj => simp only [List.getElem?_cons_succ, List.getElem?_cons_zero, Option.some.injEq] at hj; subst hj; exact h7
    | n + 8, hj => simp at hj

/-- A list and what it was grown to go to the others. -/
theorem bag_a {w : World} {es es2 : List Ls} {y : Ls} {c : Sl} {O1 O2 : List Nat} (hy : y.e = nilS) (hl : y.a.len ≤ 4000000) (hc : c.len ≤ 4000000) (h1 : (tBag es).holds w O1) (h2 : (tShare (tRd y.a 1 iv (List.replicate y.a.len y.mark)) (tRd c 1 iv (List.replicate c.len y.mark))).holds w O2) (hsub : ∀ x ∈ es2, x ∈ es ∨ x = y ∨ x = ⟨c, nilS, y.mark⟩) : (tBag es2).holds w (O1 ++ O2) := by
  obtain ⟨P1, P2, q1, q2, q3⟩ := h2
  refine ⟨?_, fun x hx => ?_⟩
  · intro k hk
    rcases List.mem_append.1 hk with hk | hk
    · exact h1.1 k hk
    · exact ((q3 k).1 hk).elim (SlR.lt (n := 1) q1 k) (SlR.lt (n := 1) q2 k)
  · rcases hsub x hx with h | rfl | rfl
    · exact (h1.2 x h).mono (by simp; exact fun k hk => .inl hk)
    · refine ⟨hl, by rw [hy]; exact Nat.zero_le _, ⟨P1, q1, fun k hk => List.mem_append.2 (.inr ((q3 k).2 (.inl hk)))⟩, [], by rw [hy]; exact slR_nil, by simp⟩
    · exact ⟨hc, Nat.zero_le _, ⟨P2, q2, fun k hk => List.mem_append.2 (.inr ((q3 k).2 (.inr hk)))⟩, [], slR_nil, by simp⟩

theorem bag_e {w : World} {es es2 : List Ls} {y : Ls} {c : Sl} {O1 O2 : List Nat} (hy : y.a = nilS) (hl : y.e.len ≤ 4000000) (hc : c.len ≤ 4000000) (h1 : (tBag es).holds w O1) (h2 : (tShare (tRd y.e 2 ent (List.replicate y.e.len (y.mark, y.mark))) (tRd c 2 ent (List.replicate c.len (y.mark, y.mark)))).holds w O2) (hsub : ∀ x ∈ es2, x ∈ es ∨ x = y ∨ x = ⟨nilS, c, y.mark⟩) : (tBag es2).holds w (O1 ++ O2) := by
  obtain ⟨P1, P2, q1, q2, q3⟩ := h2
  refine ⟨?_, fun x hx => ?_⟩
  · intro k hk
    rcases List.mem_append.1 hk with hk | hk
    · exact h1.1 k hk
    · exact ((q3 k).1 hk).elim (SlR.lt (n := 2) q1 k) (SlR.lt (n := 2) q2 k)
  · rcases hsub x hx with h | rfl | rfl
    · exact (h1.2 x h).mono (by simp; exact fun k hk => .inl hk)
    · refine ⟨by rw [hy]; exact Nat.zero_le _, hl, ⟨[], by rw [hy]; exact slR_nil, by simp⟩, P1, q1, fun k hk => List.mem_append.2 (.inr ((q3 k).2 (.inl hk)))⟩
    · exact ⟨Nat.zero_le _, hc, ⟨[], slR_nil, by simp⟩, P2, q2, fun k hk => List.mem_append.2 (.inr ((q3 k).2 (.inr hk)))⟩

set_option maxHeartbeats 4000000 in
/-- fill. -/
theorem fill_spec {bw : Nat} {ps : List Value} {es : List Ls} {aL : List (Sl × List Int)} {eL : List (Sl × List (Int × Int))} {ua ue : Thing} {a e : Sl} (h4 : ps.length = 4)
    (h1 : Hp S w0 w [tWorld bw ps es, tAll (aL.map inA), tAll (eL.map inE), ua, ue]) (hua : Hp.Reads ua a 1 slv (aL.map (·.1))) (hue : Hp.Reads ue e 1 slv (eL.map (·.1)))
    (hn : es.length ≤ 100000) (hna : aL.length ≤ 4) (hne : eL.length ≤ 4) (hla : ∀ x ∈ aL, x.2.length ≤ 1000000) (hle : ∀ x ∈ eL, x.2.length ≤ 1000000) {K : World → Prop}
    (hK : ∀ es2 w', es2.length ≤ es.length + 2 * (aL.length + eL.length) → Hp S w0 w' [tWorld bw ps es2] → K w') : c29 (some ⟨bw, 0, none⟩) a e w K := by
  refine c29_of ?_
  unfold f29
  obtain ⟨i1, p1, p2, p3, p4⟩ := inf3
  obtain ⟨i2, q1, q2, q3, q4⟩ := bytes31
  obtain ⟨i3, r1, r2, r3, r4⟩ := inf70
  have hal := h1.lenU 3 rfl hua
  have hel := h1.lenU 4 rfl hue
  simp only [List.length_map] at hal hel
  obtain ⟨l, h1⟩ := world_open h1 (i := 0) rfl
  have hll := h1.len 5 rfl
  simp only [List.cons_append, List.nil_append, List.set_cons_zero, List.set_cons_succ] at h1
  refine nns ?_
  refine h1.ld (k := .sl) (x := l) 0 rfl (get4 h4 _) ?_
  -- the first: lists of numbers
  have h1 := h1.grow (Fr.refl _ _) (t := tAll []) (O := []) rfl (by simp) rfl
  have h1 := sel8 h1 0 5 6 1 2 3 4 7 (by decide) rfl rfl rfl rfl rfl rfl rfl rfl
  refine ⟨fun t mm w' => ∃ (k : Nat) (l1 : Sl) (N1 : List Ls), t = k ∧ k ≤ aL.length ∧ mm = aL.length - k ∧ N1.length = k ∧ (∀ y ∈ N1, y.e = nilS ∧ y.a.len ≤ 1000000) ∧
    Hp S w0 w' [tBlk bw 50 (ps ++ [.slice l1.a l1.len l1.cap]), tSl l1 70 3 lsv (es ++ N1), tBag es, tAll ((aL.drop k).map inA), tAll (eL.map inE), ua, ue, tAll (N1.map thA)],
    ⟨aL.length, 0, l, [], rfl, by omega, rfl, rfl, by simp, by simpa using h1⟩, ?_⟩
  rintro t mm w2 ⟨k, l1, N1, rfl, hk, rfl, hN1l, hN1, h1⟩
  have hl1 := h1.len 1 rfl
  simp only [List.length_append] at hl1
  by_cases hlt : k < aL.length
  · refine ifT (by simp; omega) ?_
    refine nns ?_
    refine h1.ld (k := .sl) (x := l1) 0 rfl (get4 h4 _) ?_
    generalize IntKind.i64.wrap (-1 - (l1.len : Int)) = v
    have ed : aL.drop k = aL[k] :: aL.drop (k + 1) := List.drop_eq_getElem_cons hlt
    have hget : (aL.map (·.1))[((k : Int)).toNat]? = some aL[k].1 := by simp [hlt]
    have hxl := hla aL[k] (List.getElem_mem hlt)
    generalize aL[k] = x at ed hget hxl
    rw [ed, List.map_cons] at h1
    have h1 := h1.split (i := 3) (a := inA x) (b := tAll ((aL.drop (k + 1)).map inA)) rfl rfl (tAll_own _)
    simp only [List.cons_append, List.nil_append, List.set_cons_zero, List.set_cons_succ] at h1
    have hxs := h1.len (s := x.1) 3 rfl
    refine ⟨fun t mm w' => ∃ q : Nat, t = q ∧ q ≤ x.2.length ∧ mm = x.2.length - q ∧ Hp S w0 w' [tBlk bw 50 (ps ++ [.slice l1.a l1.len l1.cap]), tSl l1 70 3 lsv (es ++ N1), tBag es, tSl x.1 3 1 iv (mk1 x.2 v q), tAll (eL.map inE), ua, ue, tAll (N1.map thA), tAll ((aL.drop (k + 1)).map inA)], ⟨x.2.length, 0, rfl, by omega, rfl, h1⟩, ?_⟩
    rintro t mm w3 ⟨q, rfl, hq, rfl, h1⟩
    refine h1.ixldU (k := .sl) (u := ua) (y := x.1) (x := x.1) 5 rfl hua (by omega) hget slv_len rfl ?_
    by_cases hqx : q < x.2.length
    · refine ifT (by simp; omega) ?_
      refine h1.ixldU (k := .sl) (u := ua) (y := x.1) (x := x.1) 5 rfl hua (by omega) hget slv_len rfl ?_
      refine h1.ixst 3 rfl (by omega) (by rw [mk1_len _ _ hq]; exact hqx) iv_len (y := v) rfl rfl fun w1 h1 => ?_
      refine ⟨x.2.length - (q + 1), by omega, q + 1, by rw [wr64 (by omega) (by omega)]; omega, by omega, rfl, ?_⟩
      rw [← mk1_set _ _ hqx]
      exact h1
    refine ifF (by simp; omega) ?_
    have hqe : q = x.1.len := by omega
    rw [hqe, mk1_all x.2 v hxs] at h1
    refine h1.dr fun w1 h1 => ?_
    refine nns ?_
    refine h1.ld (k := .sl) (x := l1) 0 rfl (get4 h4 _) ?_
    refine h1.ixldU (k := .sl) (u := ua) (y := x.1) (x := x.1) 5 rfl hua (by omega) hget slv_len rfl ?_
    refine h1.nwapp (c := [_, _, _]) 1 ⟨x.1, nilS, v⟩ rfl lsv_len und48 r1 r3 r2 rfl rfl (by simp [lsv, Value.oneCell']) (by rw [r4]; omega) (by omega) fun l2 w1 h1 hl2 _ => ?_
    refine nns ?_
    refine h1.st 0 rfl (by simp; omega) rfl fun w1 h1 => ?_
    simp only [List.cons_append, List.nil_append, List.set_cons_zero, List.set_cons_succ] at h1
    rw [set4 h4] at h1
    have h1 := h1.join (i := 7) (j := 3) (c := tAll ((N1 ++ [(⟨x.1, nilS, v⟩ : Ls)]).map thA)) (by omega) rfl rfl (tAll_own _) rfl (tAll_own _) (fun w O1 O2 g1 g2 g3 => by
      rw [List.map_append]
      refine tAll_append g1 (us := [thA ⟨x.1, nilS, v⟩]) (O2 := O2) ⟨O2, [], ?_, rfl, by simp, by simp⟩ g3
      exact g2)
    have h1 := sel8 h1 0 1 2 8 4 5 6 7 (by decide) rfl rfl rfl rfl rfl rfl rfl rfl
    refine ⟨aL.length - (k + 1), by omega, k + 1, l2, N1 ++ [⟨x.1, nilS, v⟩], by rw [wr64 (by omega) (by omega)]; omega, by omega, rfl, by simp [hN1l], ?_, ?_⟩
    · intro y hy
      rcases List.mem_append.1 hy with hy | hy
      · exact hN1 y hy
      · simp only [List.mem_singleton] at hy; subst hy; exact ⟨rfl, by show x.1.len ≤ _; omega⟩
    · rw [← List.append_assoc]; exact h1
  refine ifF (by simp; omega) ?_
  obtain rfl : k = aL.length := by omega
  -- the second: lists of entities
  have h1 := h1.grow (Fr.refl _ _) (t := tAll []) (O := []) rfl (by simp) rfl
  have h1 := sel8 h1 0 1 2 4 7 5 6 8 (by decide) rfl rfl rfl rfl rfl rfl rfl rfl
  refine ⟨fun t mm w' => ∃ (k : Nat) (l1 : Sl) (N2 : List Ls), t = k ∧ k ≤ eL.length ∧ mm = eL.length - k ∧ N2.length = k ∧ (∀ y ∈ N2, y.a = nilS ∧ y.e.len ≤ 1000000) ∧
    Hp S w0 w' [tBlk bw 50 (ps ++ [.slice l1.a l1.len l1.cap]), tSl l1 70 3 lsv (es ++ N1 ++ N2), tBag es, tAll ((eL.drop k).map inE), tAll (N1.map thA), ua, ue, tAll (N2.map thE)],
    ⟨eL.length, 0, l1, [], rfl, by omega, rfl, rfl, by simp, by simpa using h1⟩, ?_⟩
  rintro t mm w2 ⟨k, l1, N2, rfl, hk, rfl, hN2l, hN2, h1⟩
  have hl1 := h1.len 1 rfl
  simp only [List.length_append] at hl1
  by_cases hlt : k < eL.length
  · refine ifT (by simp; omega) ?_
    refine nns ?_
    refine h1.ld (k := .sl) (x := l1) 0 rfl (get4 h4 _) ?_
    generalize IntKind.i64.wrap (-1 - (l1.len : Int)) = v
    have ed : eL.drop k = eL[k] :: eL.drop (k + 1) := List.drop_eq_getElem_cons hlt
    have hget : (eL.map (·.1))[((k : Int)).toNat]? = some eL[k].1 := by simp [hlt]
    have hxl := hle eL[k] (List.getElem_mem hlt)
    generalize eL[k] = x at ed hget hxl
    rw [ed, List.map_cons] at h1
    have h1 := h1.split (i := 3) (a := inE x) (b := tAll ((eL.drop (k + 1)).map inE)) rfl rfl (tAll_own _)
    simp only [List.cons_append, List.nil_append, List.set_cons_zero, List.set_cons_succ] at h1
    have hxs := h1.len (s := x.1) 3 rfl
    refine ⟨fun t mm w' => ∃ q : Nat, t = q ∧ q ≤ x.2.length ∧ mm = x.2.length - q ∧ Hp S w0 w' [tBlk bw 50 (ps ++ [.slice l1.a l1.len l1.cap]), tSl l1 70 3 lsv (es ++ N1 ++ N2), tBag es, tSl x.1 31 2 ent (mk1 x.2 (v, v) q), tAll (N1.map thA), ua, ue, tAll (N2.map thE), tAll ((eL.drop (k + 1)).map inE)], ⟨x.2.length, 0, rfl, by omega, rfl, h1⟩, ?_⟩
    rintro t mm w3 ⟨q, rfl, hq, rfl, h1⟩
    refine h1.ixldU (k := .sl) (u := ue) (y := x.1) (x := x.1) 6 rfl hue (by omega) hget slv_len rfl ?_
    by_cases hqx : q < x.2.length
    · refine ifT (by simp; omega) ?_
      refine h1.ixldU (k := .sl) (u := ue) (y := x.1) (x := x.1) 6 rfl hue (by omega) hget slv_len rfl ?_
      refine h1.ixst2 3 rfl (by omega) (by rw [mk1_len _ _ hq]; exact hqx) ent_len (y := (v, v)) rfl rfl rfl fun w1 h1 => ?_
      refine ⟨x.2.length - (q + 1), by omega, q + 1, by rw [wr64 (by omega) (by omega)]; omega, by omega, rfl, ?_⟩
      rw [← mk1_set _ _ hqx]
      exact h1
    refine ifF (by simp; omega) ?_
    have hqe : q = x.1.len := by omega
    rw [hqe, mk1_all x.2 (v, v) hxs] at h1
    refine h1.dr fun w1 h1 => ?_
    refine nns ?_
    refine h1.ld (k := .sl) (x := l1) 0 rfl (get4 h4 _) ?_
    refine h1.ixldU (k := .sl) (u := ue) (y := x.1) (x := x.1) 6 rfl hue (by omega) hget slv_len rfl ?_
    refine h1.nwapp (c := [_, _, _]) 1 ⟨nilS, x.1, v⟩ rfl lsv_len und48 r1 r3 r2 rfl rfl (by simp [lsv, Value.oneCell']) (by rw [r4]; omega) (by omega) fun l2 w1 h1 hl2 _ => ?_
    refine nns ?_
    refine h1.st 0 rfl (by simp; omega) rfl fun w1 h1 => ?_
    simp only [List.cons_append, List.nil_append, List.set_cons_zero, List.set_cons_succ] at h1
    rw [set4 h4] at h1
    have h1 := h1.join (i := 7) (j := 3) (c := tAll ((N2 ++ [(⟨nilS, x.1, v⟩ : Ls)]).map thE)) (by omega) rfl rfl (tAll_own _) rfl (tAll_own _) (fun w O1 O2 g1 g2 g3 => by
      rw [List.map_append]
      refine tAll_append g1 (us := [thE ⟨nilS, x.1, v⟩]) (O2 := O2) ⟨O2, [], ?_, rfl, by simp, by simp⟩ g3
      exact g2)
    have h1 := sel8 h1 0 1 2 8 4 5 6 7 (by decide) rfl rfl rfl rfl rfl rfl rfl rfl
    refine ⟨eL.length - (k + 1), by omega, k + 1, l2, N2 ++ [⟨nilS, x.1, v⟩], by rw [wr64 (by omega) (by omega)]; omega, by omega, rfl, by simp [hN2l], ?_, ?_⟩
    · intro y hy
      rcases List.mem_append.1 hy with hy | hy
      · exact hN2 y hy
      · simp only [List.mem_singleton] at hy; subst hy; exact ⟨rfl, by show x.1.len ≤ _; omega⟩
    · rw [← List.append_assoc (es ++ N1)]; exact h1
  refine ifF (by simp; omega) ?_
  obtain rfl : k = eL.length := by omega
  refine nns ?_
  refine h1.ld (k := .sl) (x := l1) 0 rfl (get4 h4 _) ?_
  -- all are grown
  have h1 := sel5' h1 0 1 2 4 7 (by decide) rfl rfl rfl rfl rfl
  have hl1' : l1.len = l.len + (N1.length + N2.length) := by omega
  refine ⟨fun t mm w' => ∃ (k : Nat) (l3 : Sl) (G : List Ls), t = (l.len + k : Nat) ∧ k ≤ N1.length + N2.length ∧ mm = N1.length + N2.length - k ∧ G.length = k ∧
    Hp S w0 w' [tBlk bw 50 (ps ++ [.slice l3.a l3.len l3.cap]), tSl l3 70 3 lsv (es ++ N1 ++ N2 ++ G), tBag (es ++ (N1 ++ N2).take k ++ G), tAll ((N1.drop k).map thA), tAll ((N2.drop (k - N1.length)).map thE)],
    ⟨N1.length + N2.length, 0, l1, [], rfl, by omega, rfl, rfl, by simpa using h1⟩, ?_⟩
  rintro t mm w4 ⟨k, l3, G, rfl, hk, rfl, hGl, h1⟩
  have hl3 := h1.len 1 rfl
  simp only [List.length_append] at hl3
  by_cases hlt : k < N1.length + N2.length
  · refine ifT (by simp; omega) ?_
    refine nns ?_
    refine h1.ld (k := .sl) (x := l3) 0 rfl (get4 h4 _) ?_
    have hwk : IntKind.i64.wrap (((l.len + k : Nat) : Int) - (l.len : Int)) = (k : Int) := by rw [wr64 (by omega) (by omega)]; omega
    rw [hwk]
    by_cases hka : k < N1.length
    · have hlst : (es ++ N1 ++ N2 ++ G)[(((l.len + k : Nat) : Int)).toNat]? = some N1[k] := by
        rw [Int.toNat_natCast, List.getElem?_append_left (by simp; omega), List.getElem?_append_left (by simp; omega), List.getElem?_append_right (by omega), show l.len + k - es.length = k by omega, List.getElem?_eq_getElem hka]
      have htk : (N1 ++ N2).take (k + 1) = (N1 ++ N2).take k ++ [N1[k]] := by
        rw [List.take_add_one, List.getElem?_append_left hka, List.getElem?_eq_getElem hka]; rfl
      have ed : N1.drop k = N1[k] :: N1.drop (k + 1) := List.drop_eq_getElem_cons hka
      obtain ⟨hye, hyl⟩ := hN1 N1[k] (List.getElem_mem hka)
      generalize N1[k] = y at hlst htk ed hye hyl
      refine h1.ixr 1 rfl (by omega) hlst lsv_len fun x hc => ?_
      refine ldR0 (k := .sl) (x := y.a) (hc 0 (by omega)) rfl ?_
      refine ldR (k := .sl) (x := y.e) (hc 1 (by omega)) rfl ?_
      refine ldR (k := .i .i64) (x := y.mark) (hc 2 (by omega)) rfl ?_
      refine h1.nw (c := [_, _, _]) fun x w1 h1 => ?_
      refine h1.st0 5 rfl (by simp) rfl fun w1 h1 => ?_
      refine h1.st 5 rfl (by simp) rfl fun w1 h1 => ?_
      refine h1.st 5 rfl (by simp) rfl fun w1 h1 => ?_
      rw [ed, List.map_cons] at h1
      simp only [List.cons_append, List.nil_append, List.set_cons_zero, List.set_cons_succ] at h1
      have h1 := h1.split (i := 3) (a := thA y) (b := tAll ((N1.drop (k + 1)).map thA)) rfl rfl (tAll_own _)
      have h1 := h1.lc_start (j := 3) (e := 3) (n := 1) (f := iv) (l := y.a) (y := y.mark) (p := y.a.len) rfl
      simp only [List.cons_append, List.nil_append, List.set_cons_zero, List.set_cons_succ] at h1
      refine ⟨fun t mm w' => ∃ (q : Nat) (c : Sl), t = q ∧ q ≤ 64 ∧ mm = 64 - q ∧ Hp S w0 w' [tBlk bw 50 (ps ++ [.slice l3.a l3.len l3.cap]), tSl l3 70 3 lsv (es ++ N1 ++ N2 ++ G), tBag (es ++ (N1 ++ N2).take k ++ G), tLC 3 1 iv y.a c y.mark y.a.len (y.a.len + q), tAll ((N2.drop (k - N1.length)).map thE), tBlk x 70 [.slice c.a c.len c.cap, .slice y.e.a y.e.len y.e.cap, .int .i64 y.mark], tAll ((N1.drop (k + 1)).map thA)], ⟨64, 0, y.a, rfl, by omega, rfl, h1⟩, ?_⟩
      rintro t mm w5 ⟨q, c, rfl, hq, rfl, h1⟩
      by_cases hq64 : q < 64
      · refine ifT (by simp; omega) ?_
        refine ifT (by simp; omega) ?_
        refine h1.ld0 (x := c) 5 rfl rfl ?_
        refine h1.ld (x := y.mark) 5 rfl rfl ?_
        refine h1.lc_app (cs := [_]) 3 y.mark rfl iv_len und22 p1 p3 p2 rfl rfl (by simp [iv, Value.oneCell']) (by rw [p4]; omega) (by omega) fun c2 w1 h1 => ?_
        refine h1.st0 5 rfl (by simp) rfl fun w1 h1 => ?_
        exact ⟨64 - (q + 1), by omega, q + 1, c2, by rw [wr64 (by omega) (by omega)]; omega, by omega, rfl, h1⟩
      refine ifF (by simp; omega) ?_
      have hcl := (h1.lc_len 3 rfl).1
      have h1 := h1.lc_done (j := 3) rfl
      rw [← hcl] at h1
      refine h1.dr fun w1 h1 => ?_
      refine nns ?_
      refine h1.ld (k := .sl) (x := l3) 0 rfl (get4 h4 _) ?_
      refine h1.ld0 (x := c) 5 rfl rfl ?_
      refine h1.ld (x := y.e) 5 rfl rfl ?_
      refine h1.ld (x := y.mark) 5 rfl rfl ?_
      rw [hye]
      refine h1.nwapp (c := [_, _, _]) 1 ⟨c, nilS, y.mark⟩ rfl lsv_len und48 r1 r3 r2 rfl rfl (by simp [lsv, Value.oneCell']) (by rw [r4]; omega) (by omega) fun l5 w1 h1 hl5 _ => ?_
      refine nns ?_
      refine h1.st 0 rfl (by simp; omega) rfl fun w1 h1 => ?_
      simp only [List.cons_append, List.nil_append, List.set_cons_zero, List.set_cons_succ] at h1
      rw [set4 h4] at h1
      have h1 := h1.join (i := 2) (j := 3) (c := tBag (es ++ (N1 ++ N2).take (k + 1) ++ (G ++ [⟨c, nilS, y.mark⟩]))) (by omega) rfl rfl rfl rfl rfl (fun w O1 O2 g1 g2 g3 =>
        bag_a hye (by omega) (by omega) g1 g2 (by
          intro z hz
          rw [htk] at hz
          simp only [List.mem_append, List.mem_singleton] at hz ⊢
          rcases hz with (hz | hz | hz) | hz | hz
          · exact .inl (.inl (.inl hz))
          · exact .inl (.inl (.inr hz))
          · exact .inr (.inl hz)
          · exact .inl (.inr hz)
          · exact .inr (.inr hz)))
      have h1 := sel5' h1 0 1 2 6 4 (by decide) rfl rfl rfl rfl rfl
      refine ⟨N1.length + N2.length - (k + 1), by omega, k + 1, l5, G ++ [⟨c, nilS, y.mark⟩], by rw [wr64 (by omega) (by omega)]; omega, by omega, rfl, by simp [hGl], ?_⟩
      have e0 : k - N1.length = k + 1 - N1.length := by omega
      rw [← List.append_assoc (es ++ N1 ++ N2), ← e0]
      exact h1
    · have hkb : k - N1.length < N2.length := by omega
      have hlst : (es ++ N1 ++ N2 ++ G)[(((l.len + k : Nat) : Int)).toNat]? = some N2[k - N1.length] := by
        rw [Int.toNat_natCast, List.getElem?_append_left (by simp; omega), List.getElem?_append_right (by simp; omega), List.length_append, show l.len + k - (es.length + N1.length) = k - N1.length by omega, List.getElem?_eq_getElem hkb]
      have htk : (N1 ++ N2).take (k + 1) = (N1 ++ N2).take k ++ [N2[k - N1.length]] := by
        rw [List.take_add_one, List.getElem?_append_right (by omega), List.getElem?_eq_getElem hkb]; rfl
      have ed : N2.drop (k - N1.length) = N2[k - N1.length] :: N2.drop (k - N1.length + 1) := List.drop_eq_getElem_cons hkb
      obtain ⟨hye, hyl⟩ := hN2 N2[k - N1.length] (List.getElem_mem hkb)
      generalize N2[k - N1.length] = y at hlst htk ed hye hyl
      refine h1.ixr 1 rfl (by omega) hlst lsv_len fun x hc => ?_
      refine ldR0 (k := .sl) (x := y.a) (hc 0 (by omega)) rfl ?_
      refine ldR (k := .sl) (x := y.e) (hc 1 (by omega)) rfl ?_
      refine ldR (k := .i .i64) (x := y.mark) (hc 2 (by omega)) rfl ?_
      refine h1.nw (c := [_, _, _]) fun x w1 h1 => ?_
      refine h1.st0 5 rfl (by simp) rfl fun w1 h1 => ?_
      refine h1.st 5 rfl (by simp) rfl fun w1 h1 => ?_
      refine h1.st 5 rfl (by simp) rfl fun w1 h1 => ?_
      rw [ed, List.map_cons] at h1
      simp only [List.cons_append, List.nil_append, List.set_cons_zero, List.set_cons_succ] at h1
      have h1 := h1.split (i := 4) (a := thE y) (b := tAll ((N2.drop (k - N1.length + 1)).map thE)) rfl rfl (tAll_own _)
      have h1 := h1.lc_start (j := 4) (e := 31) (n := 2) (f := ent) (l := y.e) (y := (y.mark, y.mark)) (p := y.e.len) rfl
      simp only [List.cons_append, List.nil_append, List.set_cons_zero, List.set_cons_succ] at h1
      refine ⟨fun t mm w' => ∃ (q : Nat) (c : Sl), t = q ∧ q ≤ 64 ∧ mm = 64 - q ∧ Hp S w0 w' [tBlk bw 50 (ps ++ [.slice l3.a l3.len l3.cap]), tSl l3 70 3 lsv (es ++ N1 ++ N2 ++ G), tBag (es ++ (N1 ++ N2).take k ++ G), tAll ((N1.drop k).map thA), tLC 31 2 ent y.e c (y.mark, y.mark) y.e.len (y.e.len + q), tBlk x 70 [.slice y.a.a y.a.len y.a.cap, .slice c.a c.len c.cap, .int .i64 y.mark], tAll ((N2.drop (k - N1.length + 1)).map thE)], ⟨64, 0, y.e, rfl, by omega, rfl, h1⟩, ?_⟩
      rintro t mm w5 ⟨q, c, rfl, hq, rfl, h1⟩
      by_cases hq64 : q < 64
      · refine ifT (by simp; omega) ?_
        refine ifF (by simp; omega) ?_
        refine h1.ld (x := c) 5 rfl rfl ?_
        refine h1.ld (x := y.mark) 5 rfl rfl ?_
        refine h1.ld (x := y.mark) 5 rfl rfl ?_
        refine h1.lc_app (cs := [_, _]) 4 (y.mark, y.mark) rfl ent_len und29 q1 q3 q2 rfl rfl (by simp [ent, Value.oneCell']) (by rw [q4]; omega) (by omega) fun c2 w1 h1 => ?_
        refine h1.st 5 rfl (by simp) rfl fun w1 h1 => ?_
        exact ⟨64 - (q + 1), by omega, q + 1, c2, by rw [wr64 (by omega) (by omega)]; omega, by omega, rfl, h1⟩
      refine ifF (by simp; omega) ?_
      have hcl := (h1.lc_len 4 rfl).1
      have h1 := h1.lc_done (j := 4) rfl
      rw [← hcl] at h1
      refine h1.dr fun w1 h1 => ?_
      refine nns ?_
      refine h1.ld (k := .sl) (x := l3) 0 rfl (get4 h4 _) ?_
      refine h1.ld0 (x := y.a) 5 rfl rfl ?_
      refine h1.ld (x := c) 5 rfl rfl ?_
      refine h1.ld (x := y.mark) 5 rfl rfl ?_
      rw [hye]
      refine h1.nwapp (c := [_, _, _]) 1 ⟨nilS, c, y.mark⟩ rfl lsv_len und48 r1 r3 r2 rfl rfl (by simp [lsv, Value.oneCell']) (by rw [r4]; omega) (by omega) fun l5 w1 h1 hl5 _ => ?_
      refine nns ?_
      refine h1.st 0 rfl (by simp; omega) rfl fun w1 h1 => ?_
      simp only [List.cons_append, List.nil_append, List.set_cons_zero, List.set_cons_succ] at h1
      rw [set4 h4] at h1
      have h1 := h1.join (i := 2) (j := 4) (c := tBag (es ++ (N1 ++ N2).take (k + 1) ++ (G ++ [⟨nilS, c, y.mark⟩]))) (by omega) rfl rfl rfl rfl rfl (fun w O1 O2 g1 g2 g3 =>
        bag_e hye (by omega) (by omega) g1 g2 (by
          intro z hz
          rw [htk] at hz
          simp only [List.mem_append, List.mem_singleton] at hz ⊢
          rcases hz with (hz | hz | hz) | hz | hz
          · exact .inl (.inl (.inl hz))
          · exact .inl (.inl (.inr hz))
          · exact .inr (.inl hz)
          · exact .inl (.inr hz)
          · exact .inr (.inr hz)))
      have h1 := sel5' h1 0 1 2 3 6 (by decide) rfl rfl rfl rfl rfl
      refine ⟨N1.length + N2.length - (k + 1), by omega, k + 1, l5, G ++ [⟨nilS, c, y.mark⟩], by rw [wr64 (by omega) (by omega)]; omega, by omega, rfl, by simp [hGl], ?_⟩
      have e0 : k - N1.length + 1 = k + 1 - N1.length := by omega
      have e1 : N1.drop (k + 1) = N1.drop k := by rw [List.drop_of_length_le (by omega), List.drop_of_length_le (by omega)]
      rw [← List.append_assoc (es ++ N1 ++ N2), ← e0, e1]
      exact h1
  refine ifF (by simp; omega) ?_
  obtain rfl : k = N1.length + N2.length := by omega
  have e0 : (N1 ++ N2).take (N1.length + N2.length) = N1 ++ N2 := List.take_of_length_le (by simp)
  rw [e0] at h1
  have h1 := h1.sel3 0 1 2 (by decide) rfl rfl rfl
  rw [← List.append_assoc es N1 N2] at h1
  refine hK _ _ ?_ (world_close (rest := []) h1)
  simp only [List.length_append]
  omega
end
end Go.Proofs.Ytmlkjbolccapkaa.F
