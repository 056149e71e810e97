/-
  The walk of RecordTorn.
-/
import Derived.Test.YtmbbfaigbhnhcaaL02b
set_option linter.unusedSimpArgs false
set_option linter.unusedVariables false
set_option maxRecDepth 100000
namespace Go.Proofs.Ytmbbfaigbhnhcaa.F
open Go Go.Den Go.Proofs

/-- A record that is cut short is none. -/
theorem getR_cut {D : List Int} (hD : okD D) (hb : Bytes D) {r : Nat} (hr : r < (madeU D).length) : (getR ((madeU D).take r)).2 = 0 := by
  by_cases hz : (getR ((madeU D).take r)).2 = 0
  · exact hz
  · exfalso
    have hbt : Bytes ((madeU D).take r) := fun x hx => madeU_bytes hb x (List.mem_of_mem_take hx)
    obtain ⟨h1, h2, h3⟩ := getR_back hbt hz
    have e : madeU D ++ [] = madeU (getR ((madeU D).take r)).1 ++ (((madeU D).take r).drop (getR ((madeU D).take r)).2.toNat ++ (madeU D).drop r) := by
      rw [← List.append_assoc, ← h3, List.take_append_drop, List.append_nil]
    have g1 := getR_made hD []
    rw [e, getR_made h1] at g1
    have g2 := congrArg Prod.snd g1
    simp only at g2
    have g3 := congrArg List.length h3
    rw [List.length_append, List.length_take] at g3
    omega
/-- A record with one byte turned is not the record. -/
theorem getR_turned {D : List Int} (hD : okD D) (hb : Bytes D) {M : List Int} (hM : Bytes M) (hl : M.length = (madeU D).length) (hne : M ≠ madeU D) (hz : (getR M).2 ≠ 0) : (getR M).1 ≠ D := by
  intro e
  obtain ⟨h1, h2, h3⟩ := getR_back hM hz
  rw [e] at h3 h2
  have g3 := congrArg List.length h3
  rw [List.length_append] at g3
  have : M.drop (getR M).2.toNat = [] := List.eq_nil_of_length_eq_zero (by omega)
  rw [this, List.append_nil] at h3
  exact hne h3

section
variable {S : List Nat} {w0 w : World} {its : List Thing}

theorem str_ne {a b : List Int} (ha : Bytes a) (hb : Bytes b) (h : a ≠ b) : ((strOf a).toList == (strOf b).toList) = false := by
  rw [str_beq, strL_of ha, strL_of hb]; simpa using h

set_option maxHeartbeats 4000000 in
theorem torn_spec {ahead data : Sl} {l1 l2 : List Int} {o1 o2 : List Nat} {at_ turn : Int} {K : Bool → World → Prop} (hs1 : SlR w ahead 1 u8v l1 o1) (hs2 : SlR w data 1 u8v l2 o2) (hb1 : Bytes l1) (hb2 : Bytes l2)
    (a1 : -9223372036854775808 ≤ at_) (a2 : at_ ≤ 9223372036854775807) (t1 : -9223372036854775808 ≤ turn) (t2 : turn ≤ 9223372036854775807) (hK : ∀ w', Fr [] w w' → K true w') : f6 ahead data at_ turn w K := by
  unfold f6
  obtain ⟨inf, q1, q2, q3, q4⟩ := inf5
  refine shown_spec fun w1 fr1 => ?_
  have h := (Hp.begin_ w).keep fr1
  have h := h.addRo (t := tRd ahead 1 u8v l1) hs1 (by simp)
  have h := h.addRo (t := tRd data 1 u8v l2) hs2 (by simp)
  simp only [List.cons_append, List.nil_append] at h
  have hl1 := hs1.len
  have hl2 := hs2.len
  refine ⟨fun a3 w' => ∃ (A : List Int) (u : Thing), okD A ∧ Bytes A ∧ Hp.Reads u a3 1 u8v A ∧ Hp [] w w' [(tRd data 1 u8v l2).ro, u], ?_, ?_⟩
  · by_cases hc : ahead.len = 0 ∨ 100000 < ahead.len
    · refine ifT (by rcases hc with hc | hc <;> simp [hc] <;> omega) ?_
      refine conv_const h (C := [97, 104, 101, 97, 100]) (n := 5) (cs := [_, _, _, _, _]) rfl rfl fun b w2 h => ?_
      simp only [List.cons_append, List.nil_append] at h
      exact ⟨[97, 104, 101, 97, 100], tRd ⟨some ⟨b, 0, none⟩, 5, 5⟩ 1 u8v [97, 104, 101, 97, 100], ⟨by decide, by decide⟩, byte_list (by decide), Hp.rdRd, h.sel2 1 2 (by decide) rfl rfl⟩
    · refine ifF ?_ ⟨l1, (tRd ahead 1 u8v l1).ro, ⟨by omega, by omega⟩, hb1, ⟨Hp.rdRd.rd⟩, h.sel2 1 0 (by decide) rfl rfl⟩
      have : ¬ ((ahead.len : Int) > 100000) := by omega
      simp [this]; omega
  clear h
  rintro a3 w2 ⟨A, u, hokA, hbA, hu, h⟩
  refine ⟨fun d3 w' => ∃ (D : List Int) (v : Thing), okD D ∧ Bytes D ∧ Hp.Reads v d3 1 u8v D ∧ Hp [] w w' [u, v], ?_, ?_⟩
  · by_cases hc : data.len = 0 ∨ 100000 < data.len
    · refine ifT (by rcases hc with hc | hc <;> simp [hc] <;> omega) ?_
      refine conv_const h (C := [100, 97, 116, 97]) (n := 4) (cs := [_, _, _, _]) rfl rfl fun b w2 h => ?_
      simp only [List.cons_append, List.nil_append] at h
      exact ⟨[100, 97, 116, 97], tRd ⟨some ⟨b, 0, none⟩, 4, 4⟩ 1 u8v [100, 97, 116, 97], ⟨by decide, by decide⟩, byte_list (by decide), Hp.rdRd, h.sel2 1 2 (by decide) rfl rfl⟩
    · refine ifF ?_ ⟨l2, (tRd data 1 u8v l2).ro, ⟨by omega, by omega⟩, hb2, ⟨Hp.rdRd.rd⟩, h.sel2 1 0 (by decide) rfl rfl⟩
      have : ¬ ((data.len : Int) > 100000) := by omega
      simp [this]; omega
  clear h
  rintro d3 w3 ⟨D, v, hokD, hbD, hv, h⟩
  have h := h.nil 5 1 u8v
  simp only [List.cons_append, List.nil_append] at h
  have hA1 := hokA.1; have hA2 := hokA.2; have hD1 := hokD.1; have hD2 := hokD.2
  have hmA := madeU_le A; have hmD := madeU_le D; have hpA := madeU_pos A; have hpD := madeU_pos D
  refine RecPut_spec h 2 0 (b := nilS) (bs := []) rfl rfl Hp.rdSl hu hbA (by simp) (by omega) (fun _ a w4 h => ?_) (fun h => absurd hokA h)
  simp only [List.cons_append, List.nil_append] at h
  refine RecPut_spec h 3 1 (b := a) (bs := madeU A) rfl rfl Hp.rdSl hv hbD (by omega) (by omega) (fun _ b3 w5 h => ?_) (fun h => absurd hokD h)
  simp only [List.cons_append, List.nil_append] at h
  refine ifF (by simp) ?_
  have hal := h.len (s := a) 3 rfl
  have hbl := h.len (s := b3) 4 rfl
  have hbc := h.cap (s := b3) 4 rfl
  have hbl' := hbl
  rw [List.length_append] at hbl
  rw [wr64 (n := (b3.len : Int) - (a.len : Int)) (by omega) (by omega)]
  refine pick_spec (by omega) (by omega) a1 a2 fun r hr0 hr1 => ?_
  obtain ⟨r, rfl⟩ : ∃ r' : Nat, r = r' := ⟨r.toNat, by omega⟩
  rw [wr64 (n := (a.len : Int) + (r : Int)) (by omega) (by omega)]
  refine Hp.cutv (s := b3) (Hp.rdSl (e := 5) (s := b3) (n := 1) (f := u8v) (l := madeU A ++ madeU D)) hbl' u8v_len (by omega) (by omega) (by omega) (Int.le_refl _) (by omega) fun s hs hsl hsc => ?_
  have ecut : ((madeU A ++ madeU D).take ((a.len : Int) + (r : Int)).toNat).drop (0 : Int).toNat = madeU A ++ (madeU D).take r := by
    show List.take _ _ = _
    rw [show ((a.len : Int) + (r : Int)).toNat = (madeU A).length + r by omega, List.take_length_add_append]
  rw [ecut] at hs
  have hbt : Bytes ((madeU D).take r) := fun x hx => madeU_bytes hbD x (List.mem_of_mem_take hx)
  refine Scan_spec h 4 rfl hs (bytes_app (madeU_bytes hbA) hbt) (by rw [List.length_append, List.length_take]; omega) (by omega) fun l kL w6 hkl h => ?_
  rw [recs_made hokA hbA _ hbt, recs_zero (getR_cut hokD hbD (by omega))] at hkl ⊢
  simp only [List.cons_append, List.nil_append] at h
  obtain ⟨kx, hkx, hkx2⟩ : ∃ kx : Sl, kL = [(kx, A)] ∧ True := by
    match kL, hkl with
    | [(x, y)], hkl => simp at hkl; subst hkl; exact ⟨x, rfl, trivial⟩
  subst hkx
  have hll := h.len (s := l) 5 rfl
  have htot : tot [A] = (madeU A).length := by simp [tot]
  rw [htot]
  refine ⟨fun w' => Hp [] w w' [u, v, tEmp, tB a (madeU A), tB b3 (madeU A ++ madeU D)], ?_, ?_⟩
  · refine h.dr fun w7 h => ?_
    refine ifF (by simp at hll; simp; omega) ?_
    refine ifF (by simp; omega) ?_
    refine h.ixld (k := .sl) (s := l) (y := kx) (x := kx) 5 rfl (by omega) rfl (fun _ => rfl) rfl ?_
    refine h.rdb 6 (u := tAll (List.map inA [(kx, A)])) rfl (all_reads (i := 0) (kL := [(kx, A)]) rfl) _ (strL_of hbA) ?_
    refine h.rdb 0 rfl hu _ (strL_of hbA) ?_
    refine ifF (by simp) ?_
    have h := h.lose (i := 2) rfl rfl
    exact h.trim 5
  clear h
  intro w7 h
  refine copy0 h 4 rfl Hp.rdSl (by rw [List.length_append]; omega) fun c w8 h => ?_
  simp only [List.cons_append, List.nil_append] at h
  refine h.dr fun w9 h => ?_
  have hcl := h.len (s := c) 5 rfl
  have hcc := h.cap (s := c) 5 rfl
  rw [List.length_append] at hcl
  have hge : (a.len + r) < (madeU A ++ madeU D).length := by rw [List.length_append]; omega
  have hrl : r < (madeU D).length := by omega
  have hgx : (madeU A ++ madeU D)[a.len + r]? = some (madeU D)[r] := by
    rw [List.getElem?_append_right (by omega), show a.len + r - (madeU A).length = r by omega]; simp [hrl]
  have hxr := madeU_bytes hbD _ (List.getElem_mem hrl)
  have hset : (madeU A ++ madeU D).set (a.len + r) (((madeU D)[r] + 1 + 0) % 256) = (madeU A ++ madeU D).set (a.len + r) (((madeU D)[r] + 1 + 0) % 256) := rfl
  generalize hy : (madeU D)[r] = y at hgx hxr
  have eix : ((a.len : Int) + (r : Int)).toNat = a.len + r := by omega
  have rdc : Hp.Reads (tB c (madeU A ++ madeU D)) c 1 u8v (madeU A ++ madeU D) := Hp.rdSl
  refine h.ixk 5 rfl rdc (by omega) (by rw [eix]; exact hge) fun x hx => ?_
  rw [eix]
  refine h.ldk0 5 (k := .i .u8) (v := y) rfl rdc hx u8v_len hgx rfl ?_
  refine pick_spec (by omega) (by omega) t1 t2 fun r2 hr20 hr21 => ?_
  refine ⟨h.celk0 5 rfl rdc hx u8v_len hgx rfl, ?_⟩
  have e8 : IntKind.u8.wrap (IntKind.i64.wrap ((IntKind.i64.wrap ((IntKind.i64.wrap y) + 1)) + r2)) = (y + 1 + r2) % 256 := by
    rw [wr64 (n := y) (by omega) (by omega), wr64 (n := y + 1) (by omega) (by omega), wr64 (n := y + 1 + r2) (by omega) (by omega)]
    simp only [IntKind.wrap, IntKind.bits, IntKind.signed, Bool.false_and]; simp
  rw [e8]
  generalize hy2 : (y + 1 + r2) % 256 = y2
  have hy2r : 0 ≤ y2 ∧ y2 < 256 := by omega
  have hyy : y2 ≠ y := by omega
  refine h.ixst 5 rfl (by omega) (by rw [eix]; exact hge) u8v_len (y := y2) rfl rfl fun w10 h => ?_
  simp only [List.set_cons_zero, List.set_cons_succ] at h
  have eset : (madeU A ++ madeU D).set ((a.len : Int) + (r : Int)).toNat y2 = madeU A ++ (madeU D).set r y2 := by
    rw [eix, List.set_append_right _ _ (by omega), show a.len + r - (madeU A).length = r by omega]
  rw [eset] at h
  have hMl : ((madeU D).set r y2).length = (madeU D).length := List.length_set
  have hMb : Bytes ((madeU D).set r y2) := by
    intro z hz
    rcases List.mem_or_eq_of_mem_set hz with hz | rfl
    · exact madeU_bytes hbD z hz
    · exact hy2r
  have hMne : (madeU D).set r y2 ≠ madeU D := by
    intro e
    have : ((madeU D).set r y2)[r]? = (madeU D)[r]? := by rw [e]
    rw [List.getElem?_set_self hrl, List.getElem?_eq_getElem hrl, hy] at this
    exact hyy (Option.some.inj this)
  have hMt := getR_turned hokD hbD hMb hMl hMne
  generalize (madeU D).set r y2 = M at h hMl hMb hMt
  refine Scan_spec h 5 rfl Hp.rdSl (bytes_app (madeU_bytes hbA) hMb) (by rw [List.length_append]; omega) (by omega) fun m mL w11 hml h => ?_
  rw [recs_made hokA hbA _ hMb] at hml ⊢
  simp only [List.cons_append, List.nil_append] at h
  have hmll := h.len (s := m) 6 rfl
  rw [List.length_map] at hmll
  obtain ⟨mx, mT, rfl, hmT⟩ : ∃ mx mT, mL = (mx, A) :: mT ∧ mT.map (·.2) = recs M := by
    match mL, hml with
    | (x, y) :: T, hml => simp at hml; obtain ⟨rfl, h2⟩ := hml; exact ⟨x, T, rfl, by simpa using h2⟩
  simp only [List.length_cons] at hmll
  have hsize : (tot (A :: recs M) : Int) ≥ a.len := by
    rw [tot_cons]; omega
  refine ⟨fun w' => Hp [] w w' [u, v, tEmp, tB a (madeU A), tB b3 (madeU A ++ madeU D), tB c (madeU A ++ M), tSl m 22 1 slv (List.map (·.1) ((mx, A) :: mT)), tAll (List.map inA ((mx, A) :: mT))], ?_, ?_⟩
  · refine h.dr fun w12 h => ?_
    refine ifF (by simp; omega) ?_
    refine h.ixld (k := .sl) (s := m) (y := mx) (x := mx) 6 rfl (by omega) rfl (fun _ => rfl) rfl ?_
    refine h.rdb 7 (u := tAll (List.map inA ((mx, A) :: mT))) rfl (all_reads (i := 0) (kL := (mx, A) :: mT) rfl) _ (strL_of hbA) ?_
    refine h.rdb 0 rfl hu _ (strL_of hbA) ?_
    refine ifF (by simp) ?_
    exact ifF (by simp; omega) h
  clear h
  intro w12 h
  refine h.dr fun w13 h => ?_
  by_cases hT : mT.length = 0
  · refine ifT (by simp; omega) ?_
    exact hK _ h.fr
  refine ifF (by simp; omega) ?_
  obtain ⟨⟨nx, N⟩, mT', rfl⟩ : ∃ z mT', mT = z :: mT' := by
    cases mT with
    | nil => exact absurd rfl hT
    | cons z T => exact ⟨z, T, rfl⟩
  have hzM : (getR M).2 ≠ 0 := fun hz => by rw [recs_zero hz] at hmT; simp at hmT
  rw [recs_step hMb hzM] at hmT
  simp only [List.map_cons, List.cons.injEq] at hmT
  obtain ⟨rfl, hmT⟩ := hmT
  have hNb := (getR_range hMb).2.2.2
  refine h.ixld (k := .sl) (s := m) (y := nx) (x := nx) 6 rfl (by omega) rfl (fun _ => rfl) rfl ?_
  refine h.rdb 7 (u := tAll (List.map inA ((mx, A) :: (nx, (getR M).1) :: mT'))) rfl (all_reads (i := 1) (kL := (mx, A) :: (nx, (getR M).1) :: mT') rfl) _ (strL_of hNb) ?_
  refine h.rdb 1 rfl hv _ (strL_of hbD) ?_
  rw [str_ne hNb hbD (hMt hzM)]
  exact hK _ h.fr
end
end Go.Proofs.Ytmbbfaigbhnhcaa.F
