/-
  The law's own functions of PackPuts: fill, looks: what came out reads as its owner wrote it.
-/
import Derived.Test.YtbmpgjheiknjlaaL01g
set_option linter.unusedSimpArgs false
set_option linter.unusedVariables false
set_option maxRecDepth 100000
namespace Go.Proofs.Ytbmpgjheiknjlaa.F
open Go Go.Den Go.Proofs

abbrev slv (s : Sl) : List Value := [.slice s.a s.len s.cap]
theorem slv_len (s : Sl) : (slv s).length = 1 := rfl
abbrev nilS : Sl := ⟨none, 0, 0⟩
structure Ow where
  b : Sl
  mark : Int
abbrev owv (x : Ow) : List Value := [.slice x.b.a x.b.len x.b.cap, .int .u8 x.mark]
theorem owv_len (x : Ow) : (owv x).length = 2 := rfl
theorem inf60 : ∃ inf : TypeInfo, Try.prog.info? 60 = some inf ∧ inf.zero = some (.agg #[.slice none 0 0, .int .u8 0]) ∧ inf.size = 2 ∧ inf.bytes = 32 := infoP (by kernel_rfl)
theorem und27 : Try.prog.underlying 27 = some (.slice 60) := by kernel_rfl

/-- The mark of the list that came as number i. -/
def mkm (i : Nat) : Int := IntKind.u8.wrap (IntKind.i64.wrap ((i : Int) + 1))

/-- One reads as its owner wrote it. -/
def OwAt (w : World) (O : List Nat) (x : Ow) : Prop :=
  x.b.len ≤ 100000000 ∧ ∃ O1, SlR w x.b 1 u8v (List.replicate x.b.len x.mark) O1 ∧ ∀ k ∈ O1, k ∈ O
theorem OwAt.fr {S : List Nat} {w w' : World} {O : List Nat} {x : Ow} (h : OwAt w O x) (hf : Fr S w w') (hn : ∀ k ∈ O, k ∉ S) : OwAt w' O x := by
  obtain ⟨h1, O1, h3, h4⟩ := h
  exact ⟨h1, O1, h3.fr hf (fun k hk => hn k (h4 k hk)), h4⟩
theorem OwAt.mono {w : World} {O O' : List Nat} {x : Ow} (h : OwAt w O x) (ho : ∀ k ∈ O, k ∈ O') : OwAt w O' x := by
  obtain ⟨h1, O1, h3, h4⟩ := h
  exact ⟨h1, O1, h3, fun k hk => ho k (h4 k hk)⟩
def tBag (es : List Ow) : Thing :=
  { holds := fun w O => (∀ k ∈ O, k < w.heap.size) ∧ ∀ x ∈ es, OwAt w O x
    fr := fun {S w w' O} h hf hn => ⟨fun k hk => by have := h.1 k hk; have := hf.size; omega, fun x hx => (h.2 x hx).fr hf hn⟩
    lt := fun h => h.1 }
def thA (y : Ow) : Thing := tSl y.b 5 1 u8v (List.replicate y.b.len y.mark)
def inA (x : Sl × List Int) : Thing := tSl x.1 5 1 u8v x.2

theorem bag_a {w : World} {es es2 : List Ow} {y : Ow} {c : Sl} {O1 O2 : List Nat} (hl : y.b.len ≤ 100000000) (hc : c.len ≤ 100000000) (h1 : (tBag es).holds w O1) (h2 : (tShare (tRd y.b 1 u8v (List.replicate y.b.len y.mark)) (tRd c 1 u8v (List.replicate c.len y.mark))).holds w O2) (hsub : ∀ x ∈ es2, x ∈ es ∨ x = y ∨ x = ⟨c, y.mark⟩) : (tBag es2).holds w (O1 ++ O2) := by
  obtain ⟨P1, P2, q1, q2, q3⟩ := h2
  refine ⟨?_, fun x hx => ?_⟩
  · intro k hk
    rcases List.mem_append.1 hk with hk | hk
    · exact h1.1 k hk
    · exact ((q3 k).1 hk).elim (SlR.lt (n := 1) q1 k) (SlR.lt (n := 1) q2 k)
  · rcases hsub x hx with h | rfl | rfl
    · exact (h1.2 x h).mono (by simp; exact fun k hk => .inl hk)
    · exact ⟨hl, P1, q1, fun k hk => List.mem_append.2 (.inr ((q3 k).2 (.inl hk)))⟩
    · exact ⟨hc, P2, q2, fun k hk => List.mem_append.2 (.inr ((q3 k).2 (.inr hk)))⟩

theorem bag_reads {es : List Ow} {y : Ow} (h : y ∈ es) : Hp.Reads (tBag es) y.b 1 u8v (List.replicate y.b.len y.mark) :=
  ⟨fun {w O} hO => by obtain ⟨_, O1, g, _⟩ := hO.2 y h; exact ⟨O1, g⟩⟩

section
variable {S : List Nat} {w0 w : World} {its : List Thing}

theorem sel6' (h : Hp S w0 w its) (i0 i1 i2 i3 i4 i5 : Nat) (hne : [i0, i1, i2, i3, i4, i5].Nodup) {t0 t1 t2 t3 t4 t5 : Thing} (h0 : its[i0]? = some t0) (h1 : its[i1]? = some t1) (h2 : its[i2]? = some t2) (h3 : its[i3]? = some t3) (h4 : its[i4]? = some t4) (h5 : its[i5]? = some t5) : Hp S w0 w [t0, t1, t2, t3, t4, t5] :=
  h.sel [i0, i1, i2, i3, i4, i5] hne rfl fun n j hj => by
    match n, hj with
    | 0, hj => simp only [List.getElem?_cons_zero, Option.some.injEq] at hj; subst hj; exact h0
    | 1, hj => simp only [List.getElem?_cons_succ, List.getElem?_cons_zero, Option.some.injEq] at hj; subst hj; exact h1
    | 2, hj => simp only [List.getElem?_cons_succ, List.getElem?_cons_zero, Option.some.injEq] at hj; subst hj; exact h2
    | 3, hj => simp only [List.getElem?_cons_succ, List.getElem?_cons_zero, Option.some.injEq] at hj; subst hj; exact h3
    | 4, hj => simp only [List.getElem?_cons_succ, List.getElem?_cons_zero, Option.some.injEq] at hj; subst hj; exact h4
    | 5, hj => simp only [List.getElem?_cons_succ, List.getElem?_cons_zero, Option.some.injEq] at hj; subst hj; exact h5
    | n + 6, hj => simp at hj

set_option maxHeartbeats 4000000 in
/-- fill. -/
theorem fill_spec {bw : Nat} {aL : List (Sl × List Int)} {ua : Thing} {a : Sl}
    (h1 : Hp S w0 w [tBlk bw 29 (slv nilS), tAll (aL.map inA), ua]) (hua : Hp.Reads ua a 1 slv (aL.map (·.1)))
    (hna : aL.length ≤ 1000) (hla : ∀ x ∈ aL, x.2.length ≤ 90000000) {K : World → Prop}
    (hK : ∀ (es : List Ow) (ls : Sl) w', es.length = 2 * aL.length → (∀ (i : Nat) (x : Sl × List Int), aL[i]? = some x → es[i]? = some (⟨x.1, mkm i⟩ : Ow)) → Hp S w0 w' [tBlk bw 29 (slv ls), tSl ls 60 2 owv es, tBag es, ua] → K w') : c19 (some ⟨bw, 0, none⟩) a w K := by
  refine c19_of ?_
  unfold f19
  obtain ⟨i1, p1, p2, p3, p4⟩ := inf5
  obtain ⟨i3, r1, r2, r3, r4⟩ := inf60
  have hal := h1.lenU 2 rfl hua
  simp only [List.length_map] at hal
  refine nns ?_
  refine h1.ld0 (k := .sl) (x := nilS) 0 rfl rfl ?_
  have h1 := h1.nil 60 2 owv
  have h1 := h1.grow (Fr.refl _ _) (t := tAll []) (O := []) rfl (by simp) rfl
  simp only [List.cons_append, List.nil_append] at h1
  -- written full
  refine ⟨fun t mm w' => ∃ (k : Nat) (l1 : Sl) (N1 : List Ow), t = k ∧ k ≤ aL.length ∧ mm = aL.length - k ∧ N1.length = k ∧ (∀ y ∈ N1, y.b.len ≤ 90000000) ∧ (∀ i x, aL[i]? = some x → i < k → N1[i]? = some ⟨x.1, mkm i⟩) ∧
    Hp S w0 w' [tBlk bw 29 (slv l1), tAll ((aL.drop k).map inA), ua, tSl l1 60 2 owv N1, tAll (N1.map thA)],
    ⟨aL.length, 0, nilS, [], rfl, by omega, rfl, rfl, by simp, by intro i x _ h; omega, by simpa using h1⟩, ?_⟩
  rintro t mm w2 ⟨k, l1, N1, rfl, hk, rfl, hN1l, hN1, hNi, h1⟩
  have hl1 := h1.len 3 rfl
  by_cases hlt : k < aL.length
  · refine ifT (by simp; omega) ?_
    refine nns ?_
    refine h1.ld0 (k := .sl) (x := l1) 0 rfl rfl ?_
    have ev : IntKind.u8.wrap (IntKind.i64.wrap ((l1.len : Int) + 1)) = mkm k := by unfold mkm; rw [show l1.len = k by omega]
    rw [ev]
    have ed : aL.drop k = aL[k] :: aL.drop (k + 1) := List.drop_eq_getElem_cons hlt
    have hget : (aL.map (·.1))[((k : Int)).toNat]? = some aL[k].1 := by simp [hlt]
    have hgk : aL[k]? = some aL[k] := by simp [hlt]
    have hxl := hla aL[k] (List.getElem_mem hlt)
    generalize aL[k] = x at ed hget hxl hgk
    generalize hv : mkm k = v
    rw [ed, List.map_cons] at h1
    have h1 := h1.split (i := 1) (a := inA x) (b := tAll ((aL.drop (k + 1)).map inA)) rfl rfl (tAll_own _)
    simp only [List.cons_append, List.nil_append, List.set_cons_zero, List.set_cons_succ] at h1
    have hxs := h1.len (s := x.1) 1 rfl
    refine ⟨fun t mm w' => ∃ q : Nat, t = q ∧ q ≤ x.2.length ∧ mm = x.2.length - q ∧ Hp S w0 w' [tBlk bw 29 (slv l1), tSl x.1 5 1 u8v (mk1 x.2 v q), ua, tSl l1 60 2 owv N1, tAll (N1.map thA), tAll ((aL.drop (k + 1)).map inA)], ⟨x.2.length, 0, rfl, by omega, rfl, h1⟩, ?_⟩
    rintro t mm w3 ⟨q, rfl, hq, rfl, h1⟩
    refine h1.ixldU (k := .sl) (u := ua) (y := x.1) (x := x.1) 2 rfl hua (by omega) hget slv_len rfl ?_
    by_cases hqx : q < x.2.length
    · refine ifT (by simp; omega) ?_
      refine h1.ixldU (k := .sl) (u := ua) (y := x.1) (x := x.1) 2 rfl hua (by omega) hget slv_len rfl ?_
      refine h1.ixst 1 rfl (by omega) (by rw [mk1_len _ _ hq]; exact hqx) u8v_len (y := v) rfl rfl fun w1 h1 => ?_
      refine ⟨x.2.length - (q + 1), by omega, q + 1, by rw [wr64 (by omega) (by omega)]; omega, by omega, rfl, ?_⟩
      rw [← mk1_set _ _ hqx]
      exact h1
    refine ifF (by simp; omega) ?_
    have hqe : q = x.1.len := by omega
    rw [hqe, mk1_all x.2 v hxs] at h1
    refine h1.dr fun w1 h1 => ?_
    refine nns ?_
    refine h1.ld0 (k := .sl) (x := l1) 0 rfl rfl ?_
    refine h1.ixldU (k := .sl) (u := ua) (y := x.1) (x := x.1) 2 rfl hua (by omega) hget slv_len rfl ?_
    refine h1.nwapp (c := [_, _]) 3 ⟨x.1, v⟩ rfl owv_len und27 r1 r3 r2 rfl rfl (by simp [owv, Value.oneCell']) (by rw [r4]; omega) (by omega) fun l2 w1 h1 hl2 _ => ?_
    refine nns ?_
    refine h1.st0 0 rfl (by simp) rfl fun w1 h1 => ?_
    simp only [List.cons_append, List.nil_append, List.set_cons_zero, List.set_cons_succ] at h1
    have h1 := h1.join (i := 4) (j := 1) (c := tAll ((N1 ++ [(⟨x.1, v⟩ : Ow)]).map thA)) (by omega) rfl rfl (tAll_own _) rfl (tAll_own _) (fun w O1 O2 g1 g2 g3 => by
      rw [List.map_append]
      refine tAll_append g1 (us := [thA ⟨x.1, v⟩]) (O2 := O2) ⟨O2, [], ?_, rfl, by simp, by simp⟩ g3
      exact g2)
    have h1 := h1.sel5 0 5 2 3 4 (by decide) rfl rfl rfl rfl rfl
    refine ⟨aL.length - (k + 1), by omega, k + 1, l2, N1 ++ [⟨x.1, v⟩], by rw [wr64 (by omega) (by omega)]; omega, by omega, rfl, by simp [hN1l], ?_, ?_, h1⟩
    · intro y hy
      rcases List.mem_append.1 hy with hy | hy
      · exact hN1 y hy
      · simp only [List.mem_singleton] at hy; subst hy; show x.1.len ≤ _; omega
    · intro i z hz hi
      by_cases hik : i < k
      · rw [List.getElem?_append_left (by omega)]; exact hNi i z hz hik
      · obtain rfl : i = k := by omega
        rw [hgk] at hz
        simp only [Option.some.injEq] at hz
        subst hz
        rw [List.getElem?_append_right (by omega), hN1l, Nat.sub_self, hv]; rfl
  refine ifF (by simp; omega) ?_
  obtain rfl : k = aL.length := by omega
  refine nns ?_
  refine h1.ld0 (k := .sl) (x := l1) 0 rfl rfl ?_
  -- all are grown
  have h1 := h1.grow (Fr.refl _ _) (t := tBag []) (O := []) ⟨by simp, by simp⟩ (by simp) rfl
  have h1 := h1.sel5 0 3 5 4 2 (by decide) rfl rfl rfl rfl rfl
  refine ⟨fun t mm w' => ∃ (k : Nat) (l3 : Sl) (G : List Ow), t = k ∧ k ≤ N1.length ∧ mm = N1.length - k ∧ G.length = k ∧
    Hp S w0 w' [tBlk bw 29 (slv l3), tSl l3 60 2 owv (N1 ++ G), tBag (N1.take k ++ G), tAll ((N1.drop k).map thA), ua],
    ⟨N1.length, 0, l1, [], rfl, by omega, rfl, rfl, by simpa using h1⟩, ?_⟩
  rintro t mm w4 ⟨k, l3, G, rfl, hk, rfl, hGl, h1⟩
  have hl3 := h1.len 1 rfl
  simp only [List.length_append] at hl3
  by_cases hlt : k < N1.length
  · refine ifT (by simp; omega) ?_
    refine nns ?_
    refine h1.ld0 (k := .sl) (x := l3) 0 rfl rfl ?_
    have hlst : (N1 ++ G)[((k : Int)).toNat]? = some N1[k] := by
      rw [Int.toNat_natCast, List.getElem?_append_left (by omega), List.getElem?_eq_getElem hlt]
    have htk : N1.take (k + 1) = N1.take k ++ [N1[k]] := List.take_succ_eq_append_getElem hlt
    have ed : N1.drop k = N1[k] :: N1.drop (k + 1) := List.drop_eq_getElem_cons hlt
    have hyl := hN1 N1[k] (List.getElem_mem hlt)
    generalize N1[k] = y at hlst htk ed hyl
    refine h1.ixr 1 rfl (by omega) hlst owv_len fun x hc => ?_
    refine ldR0 (k := .sl) (x := y.b) (hc 0 (by omega)) rfl ?_
    refine ldR (k := .i .u8) (x := y.mark) (hc 1 (by omega)) rfl ?_
    refine h1.nw (c := [_, _]) fun x w1 h1 => ?_
    refine h1.st0 5 rfl (by simp) rfl fun w1 h1 => ?_
    refine h1.st 5 rfl (by simp) rfl fun w1 h1 => ?_
    rw [ed, List.map_cons] at h1
    simp only [List.cons_append, List.nil_append, List.set_cons_zero, List.set_cons_succ] at h1
    have h1 := h1.split (i := 3) (a := thA y) (b := tAll ((N1.drop (k + 1)).map thA)) rfl rfl (tAll_own _)
    have h1 := h1.lc_start (j := 3) (e := 5) (n := 1) (f := u8v) (l := y.b) (y := y.mark) (p := y.b.len) rfl
    simp only [List.cons_append, List.nil_append, List.set_cons_zero, List.set_cons_succ] at h1
    refine ⟨fun t mm w' => ∃ (q : Nat) (c : Sl), t = q ∧ q ≤ 70 ∧ mm = 70 - q ∧ Hp S w0 w' [tBlk bw 29 (slv l3), tSl l3 60 2 owv (N1 ++ G), tBag (N1.take k ++ G), tLC 5 1 u8v y.b c y.mark y.b.len (y.b.len + q), ua, tBlk x 60 [.slice c.a c.len c.cap, .int .u8 y.mark], tAll ((N1.drop (k + 1)).map thA)], ⟨70, 0, y.b, rfl, by omega, rfl, h1⟩, ?_⟩
    rintro t mm w5 ⟨q, c, rfl, hq, rfl, h1⟩
    by_cases hq64 : q < 70
    · refine ifT (by simp; omega) ?_
      refine h1.ld0 (x := c) 5 rfl rfl ?_
      refine h1.ld (x := y.mark) 5 rfl rfl ?_
      refine h1.lc_app (cs := [_]) 3 y.mark rfl u8v_len und22 p1 p3 p2 rfl rfl (by simp [u8v, Value.oneCell']) (by rw [p4]; omega) (by omega) fun c2 w1 h1 => ?_
      refine h1.st0 5 rfl (by simp) rfl fun w1 h1 => ?_
      exact ⟨70 - (q + 1), by omega, q + 1, c2, by rw [wr64 (by omega) (by omega)]; omega, by omega, rfl, h1⟩
    refine ifF (by simp; omega) ?_
    have hcl := (h1.lc_len 3 rfl).1
    have h1 := h1.lc_done (j := 3) rfl
    rw [← hcl] at h1
    refine h1.dr fun w1 h1 => ?_
    refine nns ?_
    refine h1.ld0 (k := .sl) (x := l3) 0 rfl rfl ?_
    refine h1.ld0 (x := c) 5 rfl rfl ?_
    refine h1.ld (x := y.mark) 5 rfl rfl ?_
    refine h1.nwapp (c := [_, _]) 1 ⟨c, y.mark⟩ rfl owv_len und27 r1 r3 r2 rfl rfl (by simp [owv, Value.oneCell']) (by rw [r4]; omega) (by omega) fun l5 w1 h1 hl5 _ => ?_
    refine nns ?_
    refine h1.st0 0 rfl (by simp) rfl fun w1 h1 => ?_
    simp only [List.cons_append, List.nil_append, List.set_cons_zero, List.set_cons_succ] at h1
    have h1 := h1.join (i := 2) (j := 3) (c := tBag (N1.take (k + 1) ++ (G ++ [⟨c, y.mark⟩]))) (by omega) rfl rfl rfl rfl rfl (fun w O1 O2 g1 g2 g3 =>
      bag_a (by omega) (by omega) g1 g2 (by
        intro z hz
        rw [htk] at hz
        simp only [List.mem_append, List.mem_singleton] at hz ⊢
        rcases hz with (hz | hz) | hz | hz
        · exact .inl (.inl hz)
        · exact .inr (.inl hz)
        · exact .inl (.inr hz)
        · exact .inr (.inr hz)))
    have h1 := h1.sel5 0 1 2 6 4 (by decide) rfl rfl rfl rfl rfl
    refine ⟨N1.length - (k + 1), by omega, k + 1, l5, G ++ [⟨c, y.mark⟩], by rw [wr64 (by omega) (by omega)]; omega, by omega, rfl, by simp [hGl], ?_⟩
    rw [← List.append_assoc]
    exact h1
  refine ifF (by simp; omega) ?_
  obtain rfl : k = N1.length := by omega
  rw [List.take_of_length_le (Nat.le_refl _)] at h1
  refine hK (N1 ++ G) l3 _ (by simp; omega) ?_ (h1.sel4 0 1 2 4 (by decide) rfl rfl rfl rfl)
  intro i x hx
  have hil := (List.getElem?_eq_some_iff.1 hx).1
  rw [List.getElem?_append_left (by omega)]
  exact hNi i x hx hil

/-- looks. -/
theorem looks_spec {bw : Nat} {ls : Sl} {es : List Ow} {ua : Thing} (h : Hp S w0 w [tBlk bw 29 (slv ls), tSl ls 60 2 owv es, tBag es, ua]) (hn : es.length ≤ 100000) {K : Bool → World → Prop} (hK : ∀ w', Hp S w0 w' [tBlk bw 29 (slv ls), tSl ls 60 2 owv es, tBag es, ua] → K true w') : c20 (some ⟨bw, 0, none⟩) w K := by
  refine c20_of ?_
  unfold f20
  have hll := h.len 1 rfl
  refine ⟨fun t mm w' => ∃ k : Nat, t = k ∧ k ≤ ls.len ∧ mm = ls.len - k ∧ Hp S w0 w' [tBlk bw 29 (slv ls), tSl ls 60 2 owv es, tBag es, ua], ⟨ls.len, 0, rfl, by omega, rfl, h⟩, ?_⟩
  rintro t mm w2 ⟨k, rfl, hk, rfl, h⟩
  refine nns ?_
  refine h.ld0 (k := .sl) (x := ls) 0 rfl rfl ?_
  by_cases hlt : k < ls.len
  · refine ifT (by simp; omega) ?_
    have hkl : k < es.length := by omega
    have hy : es[((k : Int)).toNat]? = some es[k] := by simp [hkl]
    have hm : es[k] ∈ es := List.getElem_mem hkl
    generalize es[k] = y at hy hm
    have hrd := bag_reads hm
    have hyb : y.b.len ≤ 100000000 := by
      obtain ⟨O, hO⟩ := h.see (i := 2) rfl
      exact (hO.2 y hm).1
    refine ⟨fun t mm w' => ∃ q : Nat, t = q ∧ q ≤ y.b.len ∧ mm = y.b.len - q ∧ Hp S w0 w' [tBlk bw 29 (slv ls), tSl ls 60 2 owv es, tBag es, ua], ⟨y.b.len, 0, rfl, by omega, rfl, h⟩, ?_⟩
    rintro t mm w3 ⟨q, rfl, hq, rfl, h⟩
    refine nns ?_
    refine h.ld0 (k := .sl) (x := ls) 0 rfl rfl ?_
    refine h.ixr 1 rfl (by omega) hy owv_len fun a hc => ?_
    refine ldR0 (k := .sl) (x := y.b) (hc 0 (by omega)) rfl ?_
    by_cases hqs : q < y.b.len
    · refine ifT (by simp; omega) ?_
      refine h.dr fun w1 h => ?_
      refine nns ?_
      refine h.ld0 (k := .sl) (x := ls) 0 rfl rfl ?_
      refine h.ixr 1 rfl (by omega) hy owv_len fun a hc => ?_
      refine ldR0 (k := .sl) (x := y.b) (hc 0 (by omega)) rfl ?_
      refine h.ixldU (k := .i .u8) (u := tBag es) (y := y.mark) (x := y.mark) 2 rfl hrd (by omega) (by rw [List.getElem?_replicate]; simp; omega) u8v_len rfl ?_
      refine nns ?_
      refine h.ld0 (k := .sl) (x := ls) 0 rfl rfl ?_
      refine h.ixr 1 rfl (by omega) hy owv_len fun a hc => ?_
      refine ldR (k := .i .u8) (x := y.mark) (hc 1 (by omega)) rfl ?_
      refine ifF (by simp) ?_
      exact ⟨y.b.len - (q + 1), by omega, q + 1, by rw [wr64 (by omega) (by omega)]; omega, by omega, rfl, h⟩
    refine ifF (by simp; omega) ?_
    exact ⟨ls.len - (k + 1), by omega, k + 1, by rw [wr64 (by omega) (by omega)]; omega, by omega, rfl, h⟩
  · exact ifF (by simp; omega) (hK _ h)
end
end Go.Proofs.Ytbmpgjheiknjlaa.F
