/-
  The walk of RecordBack.
-/
import Derived.Test.YtmbbfaigbhnhcaaL02t
set_option linter.unusedSimpArgs false
set_option linter.unusedVariables false
set_option maxRecDepth 100000
namespace Go.Proofs.Ytmbbfaigbhnhcaa.F
open Go Go.Den Go.Proofs

/-- Those that can be records. -/
def goodB (d : List Int) : Bool := decide (1 ≤ d.length ∧ d.length ≤ 100000)
theorem goodB_iff {d : List Int} : goodB d = true ↔ okD d := by unfold goodB okD; simp
def goods (L : List (List Int)) : List (List Int) := L.filter goodB
theorem goods_snoc_ok (L : List (List Int)) {d : List Int} (h : okD d) : goods (L ++ [d]) = goods L ++ [d] := by
  simp [goods, goodB_iff.2 h]
theorem goods_snoc_no (L : List (List Int)) {d : List Int} (h : ¬ okD d) : goods (L ++ [d]) = goods L := by
  have : goodB d = false := by rw [Bool.eq_false_iff]; exact fun e => h (goodB_iff.1 e)
  simp [goods, this]
theorem goods_ok {L : List (List Int)} {d : List Int} (h : d ∈ goods L) : okD d := goodB_iff.1 (List.mem_filter.1 h).2
theorem goods_mem {L : List (List Int)} {d : List Int} (h : d ∈ goods L) : d ∈ L := (List.mem_filter.1 h).1
theorem goods_len (L : List (List Int)) : (goods L).length ≤ L.length := List.length_filter_le _ _

theorem flat_bytes {ds : List (List Int)} (h : ∀ d ∈ ds, Bytes d) : Bytes (ds.flatMap madeU) := by
  intro x hx
  obtain ⟨d, hd, hx⟩ := List.mem_flatMap.1 hx
  exact madeU_bytes (h d hd) x hx
theorem flat_len (ds : List (List Int)) : (ds.flatMap madeU).length = tot ds := by
  induction ds with
  | nil => rfl
  | cons d ds ih => rw [List.flatMap_cons, List.length_append, ih, tot_cons]
theorem tot_le {ds : List (List Int)} (h : ∀ d ∈ ds, okD d) : tot ds ≤ 100015 * ds.length := by
  induction ds with
  | nil => simp [tot]
  | cons d ds ih =>
    rw [tot_cons]
    have h1 := ih (fun x hx => h x (List.mem_cons_of_mem _ hx))
    have h2 := madeU_le d
    have h3 := (h d (by simp)).2
    simp only [List.length_cons]; omega
theorem recs_flat (J : List Int) (hJ : Bytes J) : ∀ {ds : List (List Int)}, (∀ d ∈ ds, okD d ∧ Bytes d) → recs (ds.flatMap madeU ++ J) = ds ++ recs J
  | [], _ => rfl
  | d :: ds, h => by
    rw [List.flatMap_cons, List.append_assoc, recs_made (h d (by simp)).1 (h d (by simp)).2 _ (bytes_app (flat_bytes fun x hx => (h x (List.mem_cons_of_mem _ hx)).2) hJ), recs_flat J hJ (fun x hx => h x (List.mem_cons_of_mem _ hx))]
    rfl
theorem tot_app (a b : List (List Int)) : tot (a ++ b) = tot a + tot b := by simp [tot]

theorem sub_nodup {L : List (List Int)} {k : Nat} (hk : k < L.length) (hok : okD L[k]) : (goods L)[(goods (L.take k)).length]? = some L[k] := by
  have e : L = L.take k ++ (L[k] :: L.drop (k + 1)) := by rw [← List.drop_eq_getElem_cons hk, List.take_append_drop]
  have e2 : goods L = goods (L.take k) ++ (L[k] :: goods (L.drop (k + 1))) := by
    conv => lhs; rw [e]
    unfold goods
    rw [List.filter_append, List.filter_cons_of_pos (goodB_iff.2 hok)]
  rw [e2, List.getElem?_append_right (Nat.le_refl _), Nat.sub_self]; rfl
theorem goods_take {L : List (List Int)} {k : Nat} (hk : k < L.length) : (okD L[k] → goods (L.take (k + 1)) = goods (L.take k) ++ [L[k]]) ∧ (¬ okD L[k] → goods (L.take (k + 1)) = goods (L.take k)) := by
  rw [List.take_succ_eq_append_getElem hk]
  exact ⟨goods_snoc_ok _, goods_snoc_no _⟩

section
variable {S : List Nat} {w0 w : World} {its : List Thing}

theorem RecPut_two (h : Hp S w0 w its) (i j : Nat) {u v : Thing} {b data : Sl} {bs d : List Int} (hi : its[i]? = some u) (hj : its[j]? = some v) (hu : Hp.Reads u b 1 u8v bs) (hv : Hp.Reads v data 1 u8v d) (hd : Bytes d) (hlb : bs.length ≤ 70000000000000) (hld : d.length ≤ 70000000000000) {K : Sl → Int → World → Prop}
    (hK : ∀ s e w', (okD d ∧ e = 0 ∧ Hp S w0 w' (its ++ [tB s (bs ++ madeU d)])) ∨ (¬ okD d ∧ e = 1 ∧ s = nilS ∧ Hp S w0 w' its) → K s e w') : c10 b data w K :=
  RecPut_spec h i j hi hj hu hv hd hlb hld (fun ok s w' h => hK _ _ _ (.inl ⟨ok, rfl, h⟩)) (fun no => hK _ _ _ (.inr ⟨no, rfl, rfl, h⟩))

set_option maxHeartbeats 8000000 in
theorem back_spec {l junk : Sl} {ls : List Sl} {Ls : List (List Int)} {J : List Int} {o1 o2 : List Nat} {K : Bool → World → Prop} (hs1 : SlR w l 1 slv ls o1) (hs2 : SlR w junk 1 u8v J o2) (hbJ : Bytes J) (hJl : J.length ≤ 1048576) (hjc : junk.len ≤ junk.cap)
    (hLl : ls.length = Ls.length) (hrow : ∀ (i : Nat) (hi : i < Ls.length), ∃ x o, ls[i]? = some x ∧ SlR w x 1 u8v Ls[i] o ∧ Bytes Ls[i] ∧ Ls[i].length ≤ 1048576) (hK : ∀ w', Fr [] w w' → K true w') : f5 l junk w K := by
  unfold f5
  obtain ⟨inf, q1, q2, q3, q4⟩ := inf5
  refine shown_spec fun w1 fr1 => ?_
  have h := (Hp.begin_ w).keep fr1
  have h := h.addRo (t := tRd l 1 slv ls) hs1 (by simp)
  have h := h.addRo (t := tRd junk 1 u8v J) hs2 (by simp)
  have h := h.nil 5 1 u8v
  simp only [List.cons_append, List.nil_append] at h
  have hll := hs1.len
  have hjl := hs2.len
  -- how many
  obtain ⟨M, hM⟩ : ∃ M, M = min l.len 30 := ⟨_, rfl⟩
  have hcond : ∀ k : Nat, (cond (decide ((k : Int) < (l.len : Int))) (decide ((k : Int) < 30)) false) = decide (k < M) := fun k => by
    by_cases h1 : (k : Int) < (l.len : Int)
    · by_cases h2 : (k : Int) < 30
      · simp [h1, h2]; omega
      · simp [h1, h2]; omega
    · simp [h1]; omega
  have hgok : ∀ k, ∀ d ∈ goods (Ls.take k), okD d ∧ Bytes d := fun k d hd => by
    refine ⟨goods_ok hd, ?_⟩
    obtain ⟨i, hi, rfl⟩ := List.mem_iff_getElem.1 (List.mem_of_mem_take (goods_mem hd))
    obtain ⟨_, _, _, _, hb, _⟩ := hrow i hi
    exact hb
  have hglen : ∀ k, k ≤ M → (goods (Ls.take k)).length ≤ 30 ∧ tot (goods (Ls.take k)) ≤ 3000450 := fun k hk => by
    have h1 := goods_len (Ls.take k)
    rw [List.length_take] at h1
    have h2 := tot_le (fun d hd => (hgok k d hd).1)
    omega
  refine ⟨fun b n i mm w' => ∃ k : Nat, i = k ∧ k ≤ M ∧ mm = M - k ∧ n = ((goods (Ls.take k)).length : Nat) ∧ Hp [] w w' [(tRd l 1 slv ls).ro, (tRd junk 1 u8v J).ro, tB b ((goods (Ls.take k)).flatMap madeU)], ⟨M, 0, rfl, by omega, rfl, rfl, h⟩, ?_⟩
  clear h
  rintro b n i mm w2 ⟨k, rfl, hk, rfl, rfl, h⟩
  rw [hcond]
  have hu : Hp.Reads (tRd l 1 slv ls).ro l 1 slv ls := ⟨Hp.rdRd.rd⟩
  have hv : Hp.Reads (tRd junk 1 u8v J).ro junk 1 u8v J := ⟨Hp.rdRd.rd⟩
  obtain ⟨hg1, hg2⟩ := hglen k hk
  by_cases hkM : k < M
  · refine ifT (by simpa using hkM) ?_
    have hkL : k < Ls.length := by omega
    obtain ⟨x, ox, hx, hsx, hbx, hlx⟩ := hrow k hkL
    have hxl := hsx.len
    generalize hd : Ls[k] = d at hsx hbx hlx hxl
    have hgt := goods_take hkL
    rw [hd] at hgt
    have hx' : ls[((k : Int)).toNat]? = some x := by rw [Int.toNat_natCast]; exact hx
    refine h.ixldU (k := .sl) (u := (tRd l 1 slv ls).ro) (y := x) (x := x) 0 rfl hu (by omega) hx' (fun _ => rfl) rfl ?_
    have h := h.addRo (t := tRd x 1 u8v d) hsx (by simp)
    simp only [List.cons_append, List.nil_append] at h
    have hvx : Hp.Reads (tRd x 1 u8v d).ro x 1 u8v d := ⟨Hp.rdRd.rd⟩
    refine RecPut_two h 2 3 rfl rfl Hp.rdSl hvx hbx (by rw [flat_len]; omega) (by omega) fun c e w3 hce => ?_
    have h0 : ∃ its, Hp [] w w3 ([(tRd l 1 slv ls).ro] ++ its) := by
      rcases hce with ⟨_, _, h⟩ | ⟨_, _, _, h⟩
      · exact ⟨_, h⟩
      · exact ⟨_, h⟩
    obtain ⟨its', h0⟩ := h0
    simp only [List.cons_append, List.nil_append] at h0
    refine ⟨fun good w' => w' = w3 ∧ good = goodB d, ?_, ?_⟩
    · refine h0.ixldU (k := .sl) (u := (tRd l 1 slv ls).ro) (y := x) (x := x) 0 rfl hu (by omega) hx' (fun _ => rfl) rfl ?_
      by_cases hpos : 0 < x.len
      · refine ifT (by simp; omega) ?_
        refine h0.ixldU (k := .sl) (u := (tRd l 1 slv ls).ro) (y := x) (x := x) 0 rfl hu (by omega) hx' (fun _ => rfl) rfl ?_
        refine ⟨rfl, ?_⟩
        unfold goodB
        have : (1 ≤ d.length ∧ d.length ≤ 100000) ↔ (x.len : Int) ≤ 100000 := by omega
        simp [this]
      · refine ifF (by simp; omega) ⟨rfl, ?_⟩
        unfold goodB
        have : ¬ (1 ≤ d.length ∧ d.length ≤ 100000) := by omega
        simp [this]
    rintro good w4 ⟨rfl, rfl⟩
    rcases hce with ⟨hok, rfl, h⟩ | ⟨hno, rfl, rfl, h⟩
    · rw [goodB_iff.2 hok]
      refine ifF (by simp) ?_
      refine ifT rfl ?_
      refine ⟨M - (k + 1), by omega, k + 1, by rw [wr64 (by omega) (by omega)]; omega, by omega, rfl, by rw [hgt.1 hok, List.length_append, wr64 (by omega) (by omega)]; simp, ?_⟩
      have h := h.sel3 0 1 4 (by decide) rfl rfl rfl
      rw [hgt.1 hok, List.flatMap_append]
      simpa using h
    · have : goodB d = false := by rw [Bool.eq_false_iff]; exact fun e => hno (goodB_iff.1 e)
      rw [this]
      refine ifF (by simp) ?_
      refine ifF (by simp) ?_
      refine ⟨M - (k + 1), by omega, k + 1, by rw [wr64 (by omega) (by omega)]; omega, by omega, rfl, by rw [hgt.2 hno], ?_⟩
      have h := h.sel3 0 1 2 (by decide) rfl rfl rfl
      rw [hgt.2 hno]
      exact h
  refine ifF (by simpa using hkM) ?_
  obtain rfl : k = M := by omega
  generalize hG : goods (Ls.take k) = G at h hg1 hg2
  have hGok : ∀ d ∈ G, okD d ∧ Bytes d := fun d hd => hgok k d (by rw [hG]; exact hd)
  have hbl := h.len (s := b) 2 rfl
  have hfl := flat_len G
  have hfb : Bytes (G.flatMap madeU) := flat_bytes fun d hd => (hGok d hd).2
  refine copy0 h 2 rfl Hp.rdSl (by omega) fun s w3 h => ?_
  simp only [List.cons_append, List.nil_append] at h
  have hsl := h.len (s := s) 3 rfl
  refine h.appS 3 1 (s := s) (s2 := junk) rfl rfl hv u8v_len und22 q1 q3 q2 rfl (by simp [u8v, Value.oneCell']) (by rw [q4]; show (s.len + junk.len) * 1 ≤ _; omega) (by show s.len + junk.len ≤ _; omega) fun b3 w4 h _ _ => ?_
  simp only [List.set_cons_zero, List.set_cons_succ] at h
  have hb3l := h.len (s := b3) 3 rfl
  have hb3c := h.cap (s := b3) 3 rfl
  have hb3b : Bytes (G.flatMap madeU ++ J) := bytes_app hfb hbJ
  have hb3l' := hb3l
  rw [List.length_append] at hb3l
  refine Scan_spec h 3 (b := b3) rfl Hp.rdSl hb3b (by rw [List.length_append]; omega) hb3c fun out kL w5 hkl h => ?_
  have hfar := (recs_far _ hb3b).1
  rw [recs_flat J hbJ hGok] at hkl hfar ⊢
  simp only [List.cons_append, List.nil_append] at h
  refine RecGet_spec h 1 rfl hv hbJ (by omega) hjc fun x_ w6 h => ?_
  simp only [List.cons_append, List.nil_append] at h
  have hol := h.len (s := out) 4 rfl
  rw [List.length_map, ← List.length_map (f := fun x => x.2), hkl, List.length_append] at hol
  have hfle := hfar.le
  rw [List.length_append, tot_app] at hfle
  have hmore : 0 < tot (recs J) ↔ 0 < (getR J).2 := by
    by_cases hz : (getR J).2 = 0
    · rw [recs_zero hz]; simp [tot, hz]
    · have := (getR_range hbJ).1
      rw [recs_step hbJ hz, tot_cons]
      have := madeU_pos (getR J).1
      omega
  have hrl6 : 6 * (recs J).length ≤ tot (recs J) := by
    generalize recs J = R
    induction R with
    | nil => simp
    | cons d R ih => rw [tot_cons, List.length_cons]; have := madeU_pos d; omega
  refine ifF ?_ ?_
  · have t1 : ¬ ((tot (G ++ recs J) : Int) < (b.len : Int)) := by rw [tot_app]; omega
    have t2 : ¬ ((out.len : Int) < ((G.length : Nat) : Int)) := by omega
    have t3 : decide ((tot (G ++ recs J) : Int) > (b.len : Int)) = decide ((getR J).2 > 0) := by
      rw [tot_app]
      have : ((tot G + tot (recs J) : Nat) : Int) > (b.len : Int) ↔ (getR J).2 > 0 := by omega
      simpa using this
    rw [t3]
    simp [t1, t2]
  have h := h.sel5 0 1 3 4 5 (by decide) rfl rfl rfl rfl rfl
  have hrc : ∀ d ∈ G ++ recs J, okD d ∧ Bytes d := hfar.ok
  have hpre := hfar.pre
  have htotl : tot (G ++ recs J) = tot G + tot (recs J) := tot_app _ _
  have hRl : (G ++ recs J).length = G.length + (recs J).length := List.length_append
  generalize hR : G ++ recs J = R at hkl hrc hpre hRl htotl
  refine ⟨fun at_ i2 mm w' => ∃ q : Nat, i2 = q ∧ q ≤ k ∧ mm = k - q ∧ at_ = ((goods (Ls.take q)).length : Nat) ∧ Hp [] w w' [(tRd l 1 slv ls).ro, (tRd junk 1 u8v J).ro, tB b3 (G.flatMap madeU ++ J), tSl out 22 1 slv (kL.map (·.1)), tAll (kL.map inA)], ⟨k, 0, rfl, by omega, rfl, rfl, h⟩, ?_⟩
  clear h
  rintro at_ i2 mm w7 ⟨q, rfl, hq, rfl, rfl, h⟩
  rw [hcond]
  by_cases hqk : q < k
  · refine ifT (by simpa using hqk) ?_
    have hqL : q < Ls.length := by omega
    obtain ⟨x, ox, hx, hsx, hbx, hlx⟩ := hrow q hqL
    have hxl := hsx.len
    have hgt := goods_take hqL
    have hg3 : okD Ls[q] → R[(goods (Ls.take q)).length]? = some Ls[q] := fun hok => by
      have hql : q < (Ls.take k).length := by rw [List.length_take]; omega
      have := sub_nodup (L := Ls.take k) (k := q) hql (by rw [List.getElem_take]; exact hok)
      rw [List.take_take, Nat.min_eq_left (by omega), List.getElem_take, hG] at this
      rw [← hR, List.getElem?_append_left (List.getElem?_eq_some_iff.1 this).1]
      exact this
    have hgq := hglen q (by omega)
    generalize hd : Ls[q] = d at hsx hbx hlx hxl hgt hg3
    have hx' : ls[((q : Int)).toNat]? = some x := by rw [Int.toNat_natCast]; exact hx
    have skip : ¬ okD d → ∃ m5 : Nat, m5 < k - q ∧ ∃ q' : Nat, IntKind.i64.wrap ((q : Int) + 1) = q' ∧ q' ≤ k ∧ m5 = k - q' ∧ (((goods (Ls.take q)).length : Nat) : Int) = ((goods (Ls.take q')).length : Nat) ∧ Hp [] w w7 [(tRd l 1 slv ls).ro, (tRd junk 1 u8v J).ro, tB b3 (G.flatMap madeU ++ J), tSl out 22 1 slv (kL.map (·.1)), tAll (kL.map inA)] := fun hno =>
      ⟨k - (q + 1), by omega, q + 1, by rw [wr64 (by omega) (by omega)]; omega, by omega, rfl, by rw [hgt.2 hno], h⟩
    refine ⟨fun w' => w' = w7 ∧ okD d, ?_, ?_⟩
    · refine h.ixldU (k := .sl) (u := (tRd l 1 slv ls).ro) (y := x) (x := x) 0 rfl hu (by omega) hx' (fun _ => rfl) rfl ?_
      by_cases h0 : x.len = 0
      · exact ifT (by simp [h0]) (skip fun hok => by have := hok.1; omega)
      refine ifF (by simp; omega) ?_
      refine h.ixldU (k := .sl) (u := (tRd l 1 slv ls).ro) (y := x) (x := x) 0 rfl hu (by omega) hx' (fun _ => rfl) rfl ?_
      by_cases h1 : 100000 < x.len
      · exact ifT (by simp; omega) (skip fun hok => by have := hok.2; omega)
      exact ifF (by simp; omega) ⟨rfl, by omega, by omega⟩
    rintro _ ⟨rfl, hok⟩
    refine h.dr fun w8 h => ?_
    have hg4 := hg3 hok
    rw [← hkl, List.getElem?_map] at hg4
    obtain ⟨⟨y, yd⟩, hy, rfl⟩ := Option.map_eq_some_iff.1 hg4
    refine h.ixld (k := .sl) (s := out) (y := y) (x := y) 3 rfl (by omega) (by rw [Int.toNat_natCast, List.getElem?_map, hy]; rfl) (fun _ => rfl) rfl ?_
    refine h.rdb 4 (u := tAll (List.map inA kL)) rfl (all_reads (kL := kL) hy) _ (strL_of hbx) ?_
    refine h.ixldU (k := .sl) (u := (tRd l 1 slv ls).ro) (y := x) (x := x) 0 rfl hu (by omega) hx' (fun _ => rfl) rfl ?_
    have h' := h.addRo (t := tRd x 1 u8v yd) hsx (by simp)
    refine h'.rdb 5 (u := (tRd x 1 u8v yd).ro) rfl ⟨Hp.rdRd.rd⟩ _ (strL_of hbx) ?_
    refine ifF (by simp) ?_
    exact ⟨k - (q + 1), by omega, q + 1, by rw [wr64 (by omega) (by omega)]; omega, by omega, rfl, by rw [hgt.1 hok, List.length_append, wr64 (by omega) (by omega)]; simp, h⟩
  refine ifF (by simpa using hqk) ?_
  have h := (h.nil 5 1 u8v)
  simp only [List.cons_append, List.nil_append] at h
  have hkR : kL.length = R.length := by rw [← hkl, List.length_map]
  have htk : ∀ q, tot (R.take q) ≤ tot R := fun q => by
    conv => rhs; rw [← List.take_append_drop q R]
    rw [tot_app]; omega
  refine ⟨fun again i3 mm w' => ∃ q : Nat, i3 = q ∧ q ≤ R.length ∧ mm = R.length - q ∧ Hp [] w w' [(tRd l 1 slv ls).ro, (tRd junk 1 u8v J).ro, tB b3 (G.flatMap madeU ++ J), tSl out 22 1 slv (kL.map (·.1)), tAll (kL.map inA), tB again ((R.take q).flatMap madeU)], ⟨R.length, 0, rfl, by omega, rfl, h⟩, ?_⟩
  clear h
  rintro again i3 mm w8 ⟨q, rfl, hqR, rfl, h⟩
  by_cases hqr : q < R.length
  · refine ifT (by simp; omega) ?_
    have hg : R[q]? = some R[q] := by simp [hqr]
    have hokq := hrc _ (List.getElem_mem hqr)
    have hlq := hokq.1.2
    have htq := htk q
    have etk : (R.take (q + 1)).flatMap madeU = (R.take q).flatMap madeU ++ madeU R[q] := by
      rw [List.take_succ_eq_append_getElem hqr, List.flatMap_append]; simp
    generalize hd : R[q] = d at hg hokq hlq etk
    have hg' := hg
    rw [← hkl, List.getElem?_map] at hg'
    obtain ⟨⟨y, yd⟩, hy, rfl⟩ := Option.map_eq_some_iff.1 hg'
    refine h.ixld (k := .sl) (s := out) (y := y) (x := y) 3 rfl (by omega) (by rw [Int.toNat_natCast, List.getElem?_map, hy]; rfl) (fun _ => rfl) rfl ?_
    refine RecPut_spec h 5 4 rfl rfl Hp.rdSl (all_reads (kL := kL) hy) hokq.2 (by rw [flat_len]; omega) (by omega) (fun _ c w9 h => ?_) (fun hno => absurd hokq.1 hno)
    refine ifF (by simp) ?_
    simp only [List.cons_append, List.nil_append] at h
    have h := h.sel6 0 1 2 3 4 6 (by decide) rfl rfl rfl rfl rfl rfl
    rw [← etk] at h
    exact ⟨R.length - (q + 1), by omega, q + 1, by rw [wr64 (by omega) (by omega)]; omega, by omega, rfl, h⟩
  refine ifF (by simp; omega) ?_
  obtain rfl : q = R.length := by omega
  rw [List.take_length] at h
  have hRb : Bytes (R.flatMap madeU) := flat_bytes fun d hd => (hrc d hd).2
  refine h.dr fun w9 h => ?_
  refine h.rdb 5 rfl Hp.rdSl _ (strL_of hRb) ?_
  refine Hp.cutv (s := b3) (Hp.rdSl (e := 5) (s := b3) (n := 1) (f := u8v) (l := G.flatMap madeU ++ J)) hb3l' u8v_len (by omega) (by omega) (by omega) (Int.le_refl _) (by omega) fun s2 hs2' _ _ => ?_
  have ecut : ((G.flatMap madeU ++ J).take ((tot R : Nat) : Int).toNat).drop (0 : Int).toNat = R.flatMap madeU := by
    show List.take _ _ = _
    rw [Int.toNat_natCast]; exact hpre
  rw [ecut] at hs2'
  refine h.rdb 2 rfl hs2' _ (strL_of hRb) ?_
  have e : ((strOf (R.flatMap madeU)).toList == (strOf (R.flatMap madeU)).toList) = true := by simp
  rw [e]
  exact hK _ h.fr
end
end Go.Proofs.Ytmbbfaigbhnhcaa.F
