/-
  The walk of RecordReads.
-/
import Derived.Test.YtmbbfaigbhnhcaaL02q
set_option linter.unusedSimpArgs false
set_option linter.unusedVariables false
set_option maxRecDepth 100000
namespace Go.Proofs.Ytmbbfaigbhnhcaa.F
open Go Go.Den Go.Proofs

theorem getR_sevens (n : Nat) : getR (List.replicate n 77) = ([], 0) := by
  refine getR_none _ fun r e => ?_
  cases n with
  | zero => simp at e
  | succ n => rw [List.replicate_succ] at e; injection e with e _; revert e; decide
theorem recs_sevens (n : Nat) : recs (List.replicate n 77) = [] := recs_zero (by rw [getR_sevens])

section
variable {S : List Nat} {w0 w : World} {its : List Thing}

/-- append([]T{}, l...) of lists of lists. -/
theorem copyS (h : Hp S w0 w its) (j : Nat) {s : Sl} {xs : List Sl} (hj : its[j]? = some (tSl s 22 1 slv xs)) (hl : xs.length ≤ 1000000000) {K : Sl → World → Prop} (hK : ∀ r w', Hp S w0 w' (its ++ [tSl r 22 1 slv xs]) → K r w') :
    Nw (.cells #[] 22) w fun b w => Run .sl Try.prog (Builtin.append_ #[34, 34] 34 #[.slice (some b) 0 0, .slice s.a s.len s.cap]) w K := by
  obtain ⟨inf, q1, q2, q3, q4⟩ := inf22
  have hlt := (List.getElem?_eq_some_iff.1 hj).1
  have hsl := h.len (s := s) j (by rw [hj]; rfl)
  refine h.nw (c := []) fun b w1 h => ?_
  have h := h.blkSl (i := its.length) (m := 0) (l := ([] : List Sl)) (f := slv) (n := 1) List.getElem?_concat_length rfl rfl slv_len
  rw [set_last] at h
  refine h.appS its.length j (s := ⟨some ⟨b, 0, none⟩, 0, 0⟩) (s2 := s) List.getElem?_concat_length (by rw [List.getElem?_append_left hlt]; exact hj) Hp.rdSl slv_len und34 q1 q3 q2 rfl (by simp [slv, Value.oneCell']) (by rw [q4]; show (0 + s.len) * 24 ≤ _; omega) (by show 0 + s.len ≤ _; omega) fun r w2 h _ _ => ?_
  rw [set_last] at h
  exact hK r w2 h

set_option maxHeartbeats 8000000 in
theorem scanned_spec {b : Sl} {bs : List Int} {o1 : List Nat} {stop : Int} {K : Bool → World → Prop} (hs1 : SlR w b 1 u8v bs o1) (hb : Bytes bs) (hbl : bs.length ≤ 1048576) (hcap : b.len ≤ b.cap) (hK : ∀ w', Fr [] w w' → K true w') : f16 b stop w K := by
  unfold f16
  have h := Hp.begin_ w
  have h := h.addRo (t := tRd b 1 u8v bs) hs1 (by simp)
  have hbl' := hs1.len
  have hu : Hp.Reads (tRd b 1 u8v bs).ro b 1 u8v bs := ⟨Hp.rdRd.rd⟩
  have hrg := getR_range hb
  have hfar := (recs_far bs hb).1
  have hfle := hfar.le
  have hn6 : 6 * (recs bs).length ≤ tot (recs bs) := by
    generalize recs bs = R
    induction R with
    | nil => simp
    | cons d R ih => rw [tot_cons, List.length_cons]; have := madeU_pos d; omega
  have hrok := hfar.ok
  refine h.nw (c := [_]) fun stop2 w1 h => ?_
  refine h.nw (c := [_]) fun a w1 h => ?_
  simp only [List.cons_append, List.nil_append] at h
  refine lent_spec h 0 rfl hu (by omega) fun x w2 h hxl hxc => ?_
  simp only [List.cons_append, List.nil_append] at h
  have cutx : ∀ {x : Sl}, x.len = b.len + 8 → x.cap = b.len + 8 → ∀ {K : Sl → Prop}, (∀ s', Hp.Reads (tB x (lent8 bs)) s' 1 u8v bs → s'.len ≤ s'.cap → K s') → Cut x 0 (b.len : Int) (x.cap : Int) 1 K := fun {x} hxl hxc {K} hk =>
    Hp.cutv (s := x) (Hp.rdSl (e := 5) (s := x) (n := 1) (f := u8v) (l := lent8 bs)) (by rw [lent8_len]; omega) u8v_len (Int.le_refl 0) (by omega) (by omega) (Int.le_refl _) (by omega) fun s' hs' h1 h2 => hk s' (by rw [pre8 bs (by omega)] at hs'; exact hs') (by omega)
  have cut7 : ∀ {x : Sl}, x.len = b.len + 8 → x.cap = b.len + 8 → ∀ {K : Sl → Prop}, (∀ s', Hp.Reads (tB x (List.replicate (bs.length + 8) 77)) s' 1 u8v (List.replicate bs.length 77) → s'.len ≤ s'.cap → K s') → Cut x 0 (b.len : Int) (x.cap : Int) 1 K := fun {x} hxl hxc {K} hk =>
    Hp.cutv (s := x) (Hp.rdSl (e := 5) (s := x) (n := 1) (f := u8v) (l := List.replicate (bs.length + 8) 77)) (by simp; omega) u8v_len (Int.le_refl 0) (by omega) (by omega) (Int.le_refl _) (by omega) fun s' hs' h1 h2 => hk s' (by rw [pre77 (n := b.len) (m := bs.length) (by omega)] at hs'; exact hs') (by omega)
  have b77 : ∀ n, Bytes (List.replicate n 77) := fun n z hz => by obtain ⟨_, rfl⟩ := List.mem_replicate.1 hz; omega
  refine cutx hxl hxc fun s hs hsc => ?_
  refine RecGet_spec h 3 rfl hs hb (by omega) hsc fun d w3 h => ?_
  simp only [List.cons_append, List.nil_append] at h
  refine cutx hxl hxc fun s2 hs2 hsc2 => ?_
  refine RecGet_spec h 3 rfl hs2 hb (by omega) hsc2 fun d2 w3 h => ?_
  simp only [List.cons_append, List.nil_append] at h
  refine still_spec h 3 0 (by decide) rfl rfl hu (by omega) fun w4 h => ?_
  simp only [List.set_cons_zero, List.set_cons_succ] at h
  refine cut7 hxl hxc fun s3 hs3 hsc3 => ?_
  refine RecGet_spec h 3 rfl hs3 (b77 _) (by simp; omega) hsc3 fun d3 w5 h => ?_
  rw [getR_sevens] at h ⊢
  simp only [List.cons_append, List.nil_append] at h
  have hd3 := h.len (s := d3) 6 rfl
  simp only [List.length_nil] at hd3
  refine RRecGet_spec h 0 rfl hu hb (by omega) hcap fun want w6 h => ?_
  simp only [List.cons_append, List.nil_append] at h
  generalize hg : getR bs = g at h hrg
  obtain ⟨dd, nn⟩ := g
  dsimp only at h hrg ⊢
  have hdb : Bytes dd := hrg.2.2.2
  refine ⟨fun w' => w' = w6, ?_, ?_⟩
  · refine ifF (by simp) ?_
    refine ifF (by simp) ?_
    refine ifF (by simp) ?_
    refine h.rdb 4 rfl Hp.rdSl _ (strL_of hdb) ?_
    refine h.rdb 7 rfl Hp.rdSl _ (strL_of hdb) ?_
    refine ifF (by simp) ?_
    refine h.rdb 5 rfl Hp.rdSl _ (strL_of hdb) ?_
    refine h.rdb 7 rfl Hp.rdSl _ (strL_of hdb) ?_
    refine ifF (by simp) ?_
    refine ifF (by simp) ?_
    exact ifF (by simp; omega) rfl
  rintro _ rfl
  have h := h.nil 52 2 owv
  have h := h.grow (Fr.refl _ _) (t := tBag []) (O := []) ⟨by simp, by simp⟩ (by simp) rfl
  simp only [List.cons_append, List.nil_append] at h
  refine keep_spec h (i := 8) (j := 9) (k := 4) (l := nilS) (b := d) (es := []) (by decide) rfl rfl rfl (by simp) (by omega) fun l1 es1 w7 he1 h => ?_
  simp only [List.set_cons_zero, List.set_cons_succ, List.length_nil] at h he1
  refine h.rdb 5 rfl Hp.rdSl _ (strL_of hdb) ?_
  refine h.rdb 7 rfl Hp.rdSl _ (strL_of hdb) ?_
  refine ifF (by simp) ?_
  refine keep_spec h (i := 8) (j := 9) (k := 5) (by decide) rfl rfl rfl (by omega) (by omega) fun kept2 es2 w8 he2 h => ?_
  simp only [List.set_cons_zero, List.set_cons_succ] at h
  have h := h.sel5 0 1 2 8 9 (by decide) rfl rfl rfl rfl rfl
  clear hs hs2 hs3 hsc hsc2 hsc3
  -- Scan
  refine lent_spec h 0 rfl hu (by omega) fun y w9 h hyl hyc => ?_
  simp only [List.cons_append, List.nil_append] at h
  refine cutx hyl hyc fun s4 hs hsc => ?_
  refine Scan_spec h 5 rfl hs hb (by omega) hsc fun l kL w10 hkL h => ?_
  simp only [List.cons_append, List.nil_append] at h
  refine cutx hyl hyc fun s5 hs5 hsc5 => ?_
  refine Scan_spec h 5 rfl hs5 hb (by omega) hsc5 fun l2 kL2 w11 hkL2 h => ?_
  simp only [List.cons_append, List.nil_append] at h
  refine still_spec h 5 0 (by decide) rfl rfl hu (by omega) fun w12 h => ?_
  simp only [List.set_cons_zero, List.set_cons_succ] at h
  refine cut7 hyl hyc fun s6 hs6 hsc6 => ?_
  refine Scan_spec h 5 rfl hs6 (b77 _) (by simp; omega) hsc6 fun l3 kL3 w13 hkL3 h => ?_
  rw [recs_sevens] at hkL3 ⊢
  simp only [List.cons_append, List.nil_append] at h
  have hl3 := h.len (s := l3) 10 rfl
  rw [List.length_map, ← List.length_map (f := fun x => x.2), hkL3, List.length_nil] at hl3
  refine RScan_spec h 0 rfl hu hb (by omega) hcap fun all kA w14 hkA h => ?_
  simp only [List.cons_append, List.nil_append] at h
  refine h.nw (c := [_]) fun all2 w15 h => ?_
  simp only [List.cons_append, List.nil_append] at h
  refine h.st0 14 rfl (by simp) rfl fun w16 h => ?_
  simp only [List.set_cons_zero, List.set_cons_succ] at h
  have h : Hp [] w w16 [(tRd b 1 u8v bs).ro, tBlk stop2 3 [.int .i64 stop], tBlk a 4 [.bool false], tSl kept2 52 2 owv es2, tBag es2, tSl l 22 1 slv (kL.map (·.1)), tAll (kL.map inA), tSl l2 22 1 slv (kL2.map (·.1)), tAll (kL2.map inA), tSl all 22 1 slv (kA.map (·.1)), tAll (kA.map inA), tBlk all2 34 (slv all)] :=
    h.selL [0, 1, 2, 3, 4, 6, 7, 8, 9, 12, 13, 14] (by decide) rfl
  have hll := h.len (s := l) 5 rfl
  have hl2l := h.len (s := l2) 7 rfl
  have hal := h.len (s := all) 9 rfl
  have lenk : ∀ {k : List (Sl × List Int)}, k.map (·.2) = recs bs → k.length = (recs bs).length := fun e => by rw [← e, List.length_map]
  rw [List.length_map, lenk hkL] at hll
  rw [List.length_map, lenk hkL2] at hl2l
  rw [List.length_map, lenk hkA] at hal
  generalize hR : recs bs = R at *
  refine ⟨fun w' => w' = w16, ?_, ?_⟩
  · refine ifF (by simp) ?_
    refine ifF (by simp) ?_
    refine ifF (by simp) ?_
    refine h.ld0 11 (k := .sl) (x := all) rfl rfl ?_
    refine ifF (by simp; omega) ?_
    refine h.ld0 11 (k := .sl) (x := all) rfl rfl ?_
    refine ifF (by simp; omega) ?_
    refine ifF (by simp [tot]) ?_
    exact ifF (by simp; omega) rfl
  rintro _ rfl
  have hRb : ∀ {q : Nat} (hq : q < R.length), Bytes R[q] ∧ okD R[q] := fun hq => ⟨(hrok _ (List.getElem_mem hq)).2, (hrok _ (List.getElem_mem hq)).1⟩
  have hRn : R.length ≤ 174763 := by omega
  refine ⟨fun i mm w' => ∃ q : Nat, i = q ∧ q ≤ R.length ∧ mm = R.length - q ∧ Hp [] w w' [(tRd b 1 u8v bs).ro, tBlk stop2 3 [.int .i64 stop], tBlk a 4 [.bool false], tSl kept2 52 2 owv es2, tBag es2, tSl l 22 1 slv (kL.map (·.1)), tAll (kL.map inA), tSl l2 22 1 slv (kL2.map (·.1)), tAll (kL2.map inA), tSl all 22 1 slv (kA.map (·.1)), tAll (kA.map inA), tBlk all2 34 (slv all)], ⟨R.length, 0, rfl, by omega, rfl, h⟩, ?_⟩
  clear h
  rintro i mm w17 ⟨q, rfl, hq, rfl, h⟩
  by_cases hqr : q < R.length
  · refine ifT (by simp; omega) ?_
    obtain ⟨y1, hy1, hy1'⟩ := at_of hkL hqr
    obtain ⟨y2, hy2, hy2'⟩ := at_of hkL2 hqr
    obtain ⟨y3, hy3, hy3'⟩ := at_of hkA hqr
    obtain ⟨hrb, _⟩ := hRb hqr
    refine h.dr fun w18 h => ?_
    refine h.ixld (k := .sl) (s := l) (y := y1) (x := y1) 5 rfl (by omega) hy1' (fun _ => rfl) rfl ?_
    refine h.rdb 6 (u := tAll (kL.map inA)) rfl (all_reads hy1) _ (strL_of hrb) ?_
    refine h.ld0 11 (k := .sl) (x := all) rfl rfl ?_
    refine h.ixld (k := .sl) (s := all) (y := y3) (x := y3) 9 rfl (by omega) hy3' (fun _ => rfl) rfl ?_
    refine h.rdb 10 (u := tAll (kA.map inA)) rfl (all_reads hy3) _ (strL_of hrb) ?_
    refine ifF (by simp) ?_
    refine h.ixld (k := .sl) (s := l2) (y := y2) (x := y2) 7 rfl (by omega) hy2' (fun _ => rfl) rfl ?_
    refine h.rdb 8 (u := tAll (kL2.map inA)) rfl (all_reads hy2) _ (strL_of hrb) ?_
    refine h.ld0 11 (k := .sl) (x := all) rfl rfl ?_
    refine h.ixld (k := .sl) (s := all) (y := y3) (x := y3) 9 rfl (by omega) hy3' (fun _ => rfl) rfl ?_
    refine h.rdb 10 (u := tAll (kA.map inA)) rfl (all_reads hy3) _ (strL_of hrb) ?_
    refine ifF (by simp) ?_
    exact ⟨R.length - (q + 1), by omega, q + 1, by rw [wr64 (by omega) (by omega)]; omega, by omega, rfl, h⟩
  refine ifF (by simp; omega) ?_
  have hkLl : kL.length = R.length := lenk hkL
  have hkL2l : kL2.length = R.length := lenk hkL2
  have hkAl : kA.length = R.length := lenk hkA
  refine copyS h 5 rfl (by simp; omega) fun one2 w18 h => ?_
  simp only [List.cons_append, List.nil_append] at h
  refine copyS h 7 rfl (by simp; omega) fun two2 w19 h => ?_
  simp only [List.cons_append, List.nil_append] at h
  have hone := h.len (s := one2) 12 rfl
  have htwo := h.len (s := two2) 13 rfl
  rw [List.length_map] at hone htwo
  refine outer_spec h 5 rfl (by simp; omega) fun grown gL w20 hgl hgn h => ?_
  simp only [List.set_cons_zero, List.set_cons_succ, List.cons_append, List.nil_append] at h
  have h : Hp [] w w20 [(tRd b 1 u8v bs).ro, tBlk stop2 3 [.int .i64 stop], tBlk a 4 [.bool false], tSl kept2 52 2 owv es2, tBag es2, tSl one2 22 1 slv (kL.map (·.1)), tAll (kL.map inA), tSl l2 22 1 slv (kL2.map (·.1)), tAll (kL2.map inA), tSl all 22 1 slv (kA.map (·.1)), tAll (kA.map inA), tBlk all2 34 (slv all), tSl two2 22 1 slv (kL2.map (·.1)), tSl grown 22 1 slv (gL.map (·.1)), tAll (gL.map inR)] :=
    h.selL [0, 1, 2, 3, 4, 12, 6, 7, 8, 9, 10, 11, 13, 14, 15] (by decide) rfl
  -- each of the first ones is kept
  refine ⟨fun kept3 i mm w' => ∃ (q : Nat) (es : List Ow), i = q ∧ q ≤ R.length ∧ mm = R.length - q ∧ es.length = 4 + 2 * q ∧ Hp [] w w' [(tRd b 1 u8v bs).ro, tBlk stop2 3 [.int .i64 stop], tBlk a 4 [.bool false], tSl kept3 52 2 owv es, tBag es, tSl one2 22 1 slv (kL.map (·.1)), tAll ((kL.drop q).map inA), tSl l2 22 1 slv (kL2.map (·.1)), tAll (kL2.map inA), tSl all 22 1 slv (kA.map (·.1)), tAll (kA.map inA), tBlk all2 34 (slv all), tSl two2 22 1 slv (kL2.map (·.1)), tSl grown 22 1 slv (gL.map (·.1)), tAll (gL.map inR)], ⟨R.length, 0, es2, rfl, by omega, rfl, by omega, h⟩, ?_⟩
  clear h
  rintro kept3 i mm w21 ⟨q, es, rfl, hq, rfl, hes, h⟩
  by_cases hqr : q < R.length
  · refine ifT (by simp; omega) ?_
    obtain ⟨y1, hy1, hy1'⟩ := at_of hkL hqr
    obtain ⟨hrb, hrok⟩ := hRb hqr
    have hrl := hrok.2
    have hqk : q < kL.length := by omega
    have ed : kL.drop q = (y1, R[q]) :: kL.drop (q + 1) := by
      rw [List.drop_eq_getElem_cons hqk]; rw [List.getElem?_eq_getElem hqk] at hy1; rw [Option.some.inj hy1]
    refine h.ixld (k := .sl) (s := one2) (y := y1) (x := y1) 5 rfl (by omega) hy1' (fun _ => rfl) rfl ?_
    rw [ed, List.map_cons] at h
    have h := h.split (i := 6) (a := inA (y1, R[q])) (b := tAll ((kL.drop (q + 1)).map inA)) rfl rfl (tAll_own _)
    simp only [List.set_cons_zero, List.set_cons_succ, List.cons_append, List.nil_append] at h
    refine keep_spec h (i := 3) (j := 4) (k := 6) (b := y1) (lst := R[q]) (by decide) rfl rfl rfl (by omega) (by omega) fun l' es' w22 he' h => ?_
    simp only [List.set_cons_zero, List.set_cons_succ] at h
    exact ⟨R.length - (q + 1), by omega, q + 1, es', by rw [wr64 (by omega) (by omega)]; omega, by omega, rfl, by omega, h.selL [0, 1, 2, 3, 4, 5, 15, 7, 8, 9, 10, 11, 12, 13, 14] (by decide) rfl⟩
  refine ifF (by simp; omega) ?_
  have hesl : es.length ≤ 4 + 2 * R.length := by omega
  have h : Hp [] w w21 [(tRd b 1 u8v bs).ro, tBlk stop2 3 [.int .i64 stop], tBlk a 4 [.bool false], tSl kept3 52 2 owv es, tBag es, tSl l2 22 1 slv (kL2.map (·.1)), tAll (kL2.map inA), tSl all 22 1 slv (kA.map (·.1)), tAll (kA.map inA), tBlk all2 34 (slv all), tSl two2 22 1 slv (kL2.map (·.1)), tSl grown 22 1 slv (gL.map (·.1)), tAll (gL.map inR)] :=
    h.selL [0, 1, 2, 3, 4, 7, 8, 9, 10, 11, 12, 13, 14] (by decide) rfl
  clear hq hqr hes
  -- the second ones are as they were
  refine ⟨fun i mm w' => ∃ q : Nat, i = q ∧ q ≤ R.length ∧ mm = R.length - q ∧ Hp [] w w' [(tRd b 1 u8v bs).ro, tBlk stop2 3 [.int .i64 stop], tBlk a 4 [.bool false], tSl kept3 52 2 owv es, tBag es, tSl l2 22 1 slv (kL2.map (·.1)), tAll (kL2.map inA), tSl all 22 1 slv (kA.map (·.1)), tAll (kA.map inA), tBlk all2 34 (slv all), tSl two2 22 1 slv (kL2.map (·.1)), tSl grown 22 1 slv (gL.map (·.1)), tAll (gL.map inR)], ⟨R.length, 0, rfl, by omega, rfl, h⟩, ?_⟩
  clear h
  rintro i mm w22 ⟨q, rfl, hq, rfl, h⟩
  refine h.ld0 9 (k := .sl) (x := all) rfl rfl ?_
  by_cases hqr : q < R.length
  · refine ifT (by simp; omega) ?_
    obtain ⟨y2, hy2, hy2'⟩ := at_of hkL2 hqr
    obtain ⟨y3, hy3, hy3'⟩ := at_of hkA hqr
    obtain ⟨hrb, _⟩ := hRb hqr
    refine h.dr fun w18 h => ?_
    refine h.ixld (k := .sl) (s := l2) (y := y2) (x := y2) 5 rfl (by omega) hy2' (fun _ => rfl) rfl ?_
    refine h.rdb 6 (u := tAll (kL2.map inA)) rfl (all_reads hy2) _ (strL_of hrb) ?_
    refine h.ld0 9 (k := .sl) (x := all) rfl rfl ?_
    refine h.ixld (k := .sl) (s := all) (y := y3) (x := y3) 7 rfl (by omega) hy3' (fun _ => rfl) rfl ?_
    refine h.rdb 8 (u := tAll (kA.map inA)) rfl (all_reads hy3) _ (strL_of hrb) ?_
    refine ifF (by simp) ?_
    exact ⟨R.length - (q + 1), by omega, q + 1, by rw [wr64 (by omega) (by omega)]; omega, by omega, rfl, h⟩
  refine ifF (by simp; omega) ?_
  clear hq hqr
  refine outer_spec h 5 rfl (by simp; omega) fun behind bL w23 hbl2 hbn h => ?_
  simp only [List.set_cons_zero, List.set_cons_succ, List.cons_append, List.nil_append] at h
  have h : Hp [] w w23 [(tRd b 1 u8v bs).ro, tBlk stop2 3 [.int .i64 stop], tBlk a 4 [.bool false], tSl kept3 52 2 owv es, tBag es, tSl two2 22 1 slv (kL2.map (·.1)), tAll (kL2.map inA), tSl all 22 1 slv (kA.map (·.1)), tAll (kA.map inA), tBlk all2 34 (slv all), tSl grown 22 1 slv (gL.map (·.1)), tAll (gL.map inR), tSl behind 22 1 slv (bL.map (·.1)), tAll (bL.map inR)] :=
    h.selL [0, 1, 2, 3, 4, 10, 6, 7, 8, 9, 11, 12, 13, 14] (by decide) rfl
  refine ⟨fun i mm w' => ∃ q : Nat, i = q ∧ q ≤ R.length ∧ mm = R.length - q ∧ Hp [] w w' [(tRd b 1 u8v bs).ro, tBlk stop2 3 [.int .i64 stop], tBlk a 4 [.bool false], tSl kept3 52 2 owv es, tBag es, tSl two2 22 1 slv (kL2.map (·.1)), tAll (kL2.map inA), tSl all 22 1 slv (kA.map (·.1)), tAll (kA.map inA), tBlk all2 34 (slv all), tSl grown 22 1 slv (gL.map (·.1)), tAll (gL.map inR), tSl behind 22 1 slv (bL.map (·.1)), tAll (bL.map inR)], ⟨R.length, 0, rfl, by omega, rfl, h⟩, ?_⟩
  clear h
  rintro i mm w24 ⟨q, rfl, hq, rfl, h⟩
  by_cases hqr : q < R.length
  · refine ifT (by simp; omega) ?_
    obtain ⟨y2, hy2, hy2'⟩ := at_of hkL2 hqr
    obtain ⟨y3, hy3, hy3'⟩ := at_of hkA hqr
    obtain ⟨hrb, _⟩ := hRb hqr
    refine h.dr fun w18 h => ?_
    refine h.ixld (k := .sl) (s := two2) (y := y2) (x := y2) 5 rfl (by omega) hy2' (fun _ => rfl) rfl ?_
    refine h.rdb 6 (u := tAll (kL2.map inA)) rfl (all_reads hy2) _ (strL_of hrb) ?_
    refine h.ld0 9 (k := .sl) (x := all) rfl rfl ?_
    refine h.ixld (k := .sl) (s := all) (y := y3) (x := y3) 7 rfl (by omega) hy3' (fun _ => rfl) rfl ?_
    refine h.rdb 8 (u := tAll (kA.map inA)) rfl (all_reads hy3) _ (strL_of hrb) ?_
    refine ifF (by simp) ?_
    exact ⟨R.length - (q + 1), by omega, q + 1, by rw [wr64 (by omega) (by omega)]; omega, by omega, rfl, h⟩
  refine ifF (by simp; omega) ?_
  clear hq hqr
  -- and kept
  refine ⟨fun kept5 i mm w' => ∃ (q : Nat) (es' : List Ow), i = q ∧ q ≤ R.length ∧ mm = R.length - q ∧ es'.length = es.length + 2 * q ∧ Hp [] w w' [(tRd b 1 u8v bs).ro, tBlk stop2 3 [.int .i64 stop], tBlk a 4 [.bool false], tSl kept5 52 2 owv es', tBag es', tSl two2 22 1 slv (kL2.map (·.1)), tAll ((kL2.drop q).map inA), tSl all 22 1 slv (kA.map (·.1)), tAll (kA.map inA), tBlk all2 34 (slv all), tSl grown 22 1 slv (gL.map (·.1)), tAll (gL.map inR), tSl behind 22 1 slv (bL.map (·.1)), tAll (bL.map inR)], ⟨R.length, 0, es, rfl, by omega, rfl, by omega, h⟩, ?_⟩
  clear h
  rintro kept5 i mm w25 ⟨q, es', rfl, hq, rfl, hes', h⟩
  by_cases hqr : q < R.length
  · refine ifT (by simp; omega) ?_
    obtain ⟨y1, hy1, hy1'⟩ := at_of hkL2 hqr
    obtain ⟨hrb, hrok⟩ := hRb hqr
    have hrl := hrok.2
    have hqk : q < kL2.length := by omega
    have ed : kL2.drop q = (y1, R[q]) :: kL2.drop (q + 1) := by
      rw [List.drop_eq_getElem_cons hqk]; rw [List.getElem?_eq_getElem hqk] at hy1; rw [Option.some.inj hy1]
    refine h.ixld (k := .sl) (s := two2) (y := y1) (x := y1) 5 rfl (by omega) hy1' (fun _ => rfl) rfl ?_
    rw [ed, List.map_cons] at h
    have h := h.split (i := 6) (a := inA (y1, R[q])) (b := tAll ((kL2.drop (q + 1)).map inA)) rfl rfl (tAll_own _)
    simp only [List.set_cons_zero, List.set_cons_succ, List.cons_append, List.nil_append] at h
    refine keep_spec h (i := 3) (j := 4) (k := 6) (b := y1) (lst := R[q]) (by decide) rfl rfl rfl (by omega) (by omega) fun l' es2' w22 he' h => ?_
    simp only [List.set_cons_zero, List.set_cons_succ] at h
    exact ⟨R.length - (q + 1), by omega, q + 1, es2', by rw [wr64 (by omega) (by omega)]; omega, by omega, rfl, by omega, h.selL [0, 1, 2, 3, 4, 5, 14, 7, 8, 9, 10, 11, 12, 13] (by decide) rfl⟩
  refine ifF (by simp; omega) ?_
  have hesl' : es'.length ≤ 4 + 4 * R.length := by omega
  refine written_spec h 10 11 rfl rfl (by omega) hgn ?_
  refine written_spec h 12 13 rfl rfl (by omega) hbn ?_
  refine ifF (by simp) ?_
  have h : Hp [] w w25 [(tRd b 1 u8v bs).ro, tBlk stop2 3 [.int .i64 stop], tBlk a 4 [.bool false], tSl kept5 52 2 owv es', tBag es', tSl all 22 1 slv (kA.map (·.1)), tAll (kA.map inA), tBlk all2 34 (slv all)] :=
    h.selL [0, 1, 2, 3, 4, 7, 8, 9] (by decide) rfl
  clear hq hqr hes'
  refine lent_spec h 0 rfl hu (by omega) fun z w26 h hzl hzc => ?_
  simp only [List.cons_append, List.nil_append] at h
  refine cutx hzl hzc fun s7 hs7 hsc7 => ?_
  refine Walk_spec h 8 rfl hs7 (by omega) fun bo wall O w27 hwc h => ?_
  simp only [List.cons_append, List.nil_append] at h
  refine h.nw (c := [_]) fun walk2 w28 h => ?_
  simp only [List.cons_append, List.nil_append] at h
  refine ⟨rfl, ?_⟩
  refine h.st0 10 rfl (by simp) rfl fun w29 h => ?_
  simp only [List.set_cons_zero, List.set_cons_succ] at h
  refine still_spec h 8 0 (by decide) rfl rfl hu (by omega) fun w30 h => ?_
  simp only [List.set_cons_zero, List.set_cons_succ] at h
  refine looks_spec h 3 4 rfl rfl (by omega) fun w31 h => ?_
  have h : Hp [] w w31 [tBlk stop2 3 [.int .i64 stop], tBlk a 4 [.bool false], tSl kept5 52 2 owv es', tBag es', tSl all 22 1 slv (kA.map (·.1)), tAll (kA.map inA), tBlk all2 34 (slv all), tWalk bo wall bs O, tBlk walk2 45 [.func (.func 33) #[] #[.pointer (some ⟨bo, 0, none⟩)]]] :=
    h.selL [1, 2, 3, 4, 5, 6, 7, 9, 10] (by decide) rfl
  refine ⟨fun w' => w' = w31, ?_, ?_⟩
  · refine ifF (by simp) ?_
    refine ifF (by simp) ?_
    refine h.ld0 8 (k := .v) (x := .func (.func 33) #[] #[.pointer (some ⟨bo, 0, none⟩)]) rfl rfl ?_
    refine ne_nil2 ?_
    exact ifF (by simp) rfl
  rintro _ rfl
  exact tail_spec ⟨stop, stop2, a, all2, bo, walk2, kept5, all, wall, es', kA, bs, O⟩ h hb hbl (hkA.trans hR.symm) hwc (by show es'.length ≤ _; omega) hK

theorem reads_spec {b : Sl} {bs : List Int} {o1 : List Nat} {stop : Int} {K : Bool → World → Prop} (hs1 : SlR w b 1 u8v bs o1) (hb : Bytes bs) (hbl : bs.length ≤ 1048576) (hcap : b.len ≤ b.cap) (hK : ∀ w', Fr [] w w' → K true w') : f4 b stop w K := by
  unfold f4
  refine shown_spec fun w1 f1 => ?_
  refine c16_of ?_
  refine scanned_spec (hs1.fr f1 (by simp)) hb hbl hcap fun w2 f2 => ?_
  exact hK _ (f1.trans f2 (by simp))
end
end Go.Proofs.Ytmbbfaigbhnhcaa.F
