/-
  The walk of PackPuts.
-/
import Derived.Test.YtbmpgjheiknjlaaL01o
set_option linter.unusedSimpArgs false
set_option linter.unusedVariables false
set_option maxRecDepth 100000
namespace Go.Proofs.Ytbmpgjheiknjlaa.F
open Go Go.Den Go.Proofs

theorem inf22 : ∃ inf : TypeInfo, Try.prog.info? 22 = some inf ∧ inf.zero = some (.slice none 0 0) ∧ inf.size = 1 ∧ inf.bytes = 24 := infoP (by kernel_rfl)
theorem und30 : Try.prog.underlying 30 = some (.slice 22) := by kernel_rfl
abbrev sv (x : ByteArray) : List Value := [.string x]
theorem sv_len (x : ByteArray) : (sv x).length = 1 := rfl

/-- What each of a turn holds. -/
def cont (bs : List Int) (n m : Int) (s : ByteArray) (l : List Int) : List (List Int) := [bs ++ putU n, bs ++ putU (zig m), bs ++ putU s.size ++ strL s, bs ++ rowU l, lentL bs]

/-- The owner writes his row over. -/
def tv (i : Nat) : Int := -7 - ((i % 2 : Nat) : Int)
def trn (L : List Int) (k : Nat) : List Int := (List.range k).map tv ++ L.drop k
theorem trn_len {L : List Int} {k : Nat} (h : k ≤ L.length) : (trn L k).length = L.length := by simp [trn]; omega
theorem trn_get {L : List Int} {k : Nat} (h : k < L.length) : (trn L k)[k]? = some L[k] := by
  unfold trn
  rw [List.getElem?_append_right (by simp), List.length_map, List.length_range, Nat.sub_self, List.getElem?_drop, Nat.add_zero, List.getElem?_eq_getElem h]
theorem trn_set {L : List Int} {k : Nat} (h : k < L.length) : (trn L k).set k (tv k) = trn L (k + 1) := by
  unfold trn
  rw [List.set_append_right _ _ (by simp), List.length_map, List.length_range, Nat.sub_self, List.drop_eq_getElem_cons h, List.set_cons_zero, List.range_succ, List.map_append, List.append_assoc]
  rfl
theorem tv_val {k : Nat} (h : k < 1000000000) : IntKind.i64.wrap ((-7) - (Int.tmod (k : Int) 2)) = tv k := by
  have e : Int.tmod (k : Int) 2 = ((k % 2 : Nat) : Int) := by rw [Int.tmod_eq_emod_of_nonneg (by omega)]; omega
  rw [e, tv, wr64 (by omega) (by omega)]
theorem tv_range (k : Nat) : -9223372036854775808 ≤ tv k ∧ tv k ≤ 9223372036854775807 := by unfold tv; omega

/-- Zeros behind. -/
def zro (L : List Int) (n k : Nat) : List Int := L.take n ++ List.replicate k 0 ++ L.drop (n + k)
theorem zro_len {L : List Int} {n k : Nat} (h : n + k ≤ L.length) : (zro L n k).length = L.length := by simp [zro]; omega
theorem zro_set {L : List Int} {n k : Nat} (h : n + k < L.length) : (zro L n k).set (n + k) 0 = zro L n (k + 1) := by
  unfold zro
  have e : (L.take n ++ List.replicate k (0 : Int)).length = n + k := by simp; omega
  rw [List.set_append_right _ _ (by omega), e, Nat.sub_self, List.drop_eq_getElem_cons h, List.set_cons_zero, List.replicate_succ']
  simp [Nat.add_assoc]

section
variable {S : List Nat} {w0 w : World} {its : List Thing}

theorem same_str {l : List Int} (h : Bytes l) : ((strOf l).toList == (strOf l).toList) = true := by simp

theorem all_in {w : World} {kL : List (Sl × List Int)} {O : List Nat} {i : Nat} {x : Sl × List Int} (hx : kL[i]? = some x) (h : (tAll (kL.map inA)).holds w O) : ∃ o, SlR w x.1 1 u8v x.2 o := by
  obtain ⟨O1, O2, g, _⟩ := tAll_pick (k := i) (t := inA x) (by rw [List.getElem?_map, hx]; rfl) h
  exact ⟨O1, SlF.toR g⟩

theorem all_reads {kL : List (Sl × List Int)} {i : Nat} {x : Sl × List Int} (hx : kL[i]? = some x) : Hp.Reads (tAll (kL.map inA)) x.1 1 u8v x.2 := ⟨fun hO => all_in hx hO⟩

/-- One more to all. -/
theorem all_more (h : Hp S w0 w its) {i j : Nat} (hne : i ≠ j) {kL : List (Sl × List Int)} {x : Sl} {l : List Int} (hi : its[i]? = some (tAll (kL.map inA))) (hj : its[j]? = some (tB x l)) : Hp S w0 w ((its.set i (tAll ((kL ++ [(x, l)]).map inA))).set j tEmp) :=
  h.join (c := tAll ((kL ++ [(x, l)]).map inA)) hne hi hj (tAll_own _) rfl (tAll_own _) (fun w O1 O2 g1 g2 g3 => by
    rw [List.map_append]
    exact tAll_append g1 (us := [inA (x, l)]) (O2 := O2) ⟨O2, [], g2, rfl, by simp, by simp⟩ g3)

set_option maxHeartbeats 8000000 in
theorem puts_spec {b lS : Sl} {bs lx : List Int} {n m : Int} {s : ByteArray} {o1 o2 : List Nat} {w : World} {K : Bool → World → Prop} (hs : SlR w b 1 u8v bs o1) (hb : Bytes bs) (hbl : bs.length ≤ 1048576) (hl : SlR w lS 1 iv lx o2) (hr : R64 lx) (hll : lx.length ≤ 1048576) (hss : s.size ≤ 1048576)
    (n0 : 0 ≤ n) (n1 : n < 18446744073709551616) (m0 : -9223372036854775808 ≤ m) (m1 : m ≤ 9223372036854775807) (hK : ∀ w', Fr [] w w' → K true w') : f3 b n m s lS w K := by
  unfold f3
  refine shown_spec fun w1 f1 => ?_
  have h := (Hp.begin_ w).keep f1
  have h := h.addRo (t := tRd b 1 u8v bs) hs (by simp)
  have h := h.addRo (t := tRd lS 1 iv lx) hl (by simp)
  have hu : Hp.Reads (tRd b 1 u8v bs).ro b 1 u8v bs := ⟨Hp.rdRd.rd⟩
  have hv : Hp.Reads (tRd lS 1 iv lx).ro lS 1 iv lx := ⟨Hp.rdRd.rd⟩
  simp only [List.cons_append, List.nil_append] at h
  have hbl' := h.lenU 0 rfl hu
  have hll' := h.lenU 1 rfl hv
  obtain ⟨inf, q1, q2, q3, q4⟩ := inf5
  obtain ⟨inf', p1, p2, p3, p4⟩ := inf2
  obtain ⟨inf'', r1, r2, r3, r4⟩ := inf22
  have hpn := putU_len n
  have hpm := putU_len (zig m)
  have hps := putU_len (s.size : Int)
  have hzm := zig_range m0 m1
  have hsl := strL_len s
  have hrw := rowU_len lx
  have hcon : cont bs n m s lx = [bs ++ putU n, bs ++ putU (zig m), bs ++ putU s.size ++ strL s, bs ++ rowU lx, lentL bs] := rfl
  have c0 : Bytes (bs ++ putU n) := bytes_app hb (putU_bytes n0)
  have c1 : Bytes (bs ++ putU (zig m)) := bytes_app hb (putU_bytes hzm.1)
  have c2 : Bytes (bs ++ putU s.size ++ strL s) := bytes_app (bytes_app hb (putU_bytes (by omega))) (strL_bytes s)
  have c3 : Bytes (bs ++ rowU lx) := bytes_app hb (rowU_bytes lx)
  refine h.nw (c := [_]) fun bo w2 h => ?_
  have h := (h.nil 2 1 iv).nil 22 1 slv
  have h := h.grow (Fr.refl _ _) (t := tAll []) (O := []) rfl (by simp) rfl
  simp only [List.cons_append, List.nil_append] at h
  refine ⟨fun kept row turn mm w' => ∃ (k : Nat) (rowL : List Int) (kL : List (Sl × List Int)), turn = k ∧ k ≤ 3 ∧ mm = 3 - k ∧ (k ≠ 0 → rowL.length = lx.length + 80) ∧ kL.length = 5 * k ∧ (∀ (i : Nat) (x : Sl × List Int), kL[i]? = some x → (cont bs n m s lx)[i % 5]? = some x.2) ∧
    Hp [] w w' [(tRd b 1 u8v bs).ro, (tRd lS 1 iv lx).ro, tBlk bo 29 (slv nilS), tSl row 2 1 iv rowL, tSl kept 22 1 slv (kL.map (·.1)), tAll (kL.map inA)],
    ⟨3, 0, [], [], rfl, by omega, rfl, fun h => absurd rfl h, rfl, by intro i x hx; simp at hx, h⟩, ?_⟩
  clear h
  rintro kept row turn mm w3 ⟨k, rowL, kL, rfl, hk, rfl, hrowl, hkL, hkc, h⟩
  have hkl := h.len (s := kept) 4 rfl
  rw [List.length_map] at hkl
  by_cases hk3 : k < 3
  · refine ifT (by simp; omega) ?_
    refine lent_spec h 0 rfl hu (by omega) fun x w4 h hxl hxc => ?_
    simp only [List.cons_append, List.nil_append] at h
    have hpre : ((lentL bs).take ((b.len : Int)).toNat).drop (0 : Int).toNat = bs := by
      show List.take _ _ = _
      rw [show ((b.len : Int)).toNat = bs.length by omega, lentL, List.take_left]
    refine Hp.cutv (s := x) (Hp.rdSl (e := 5) (s := x) (n := 1) (f := u8v) (l := lentL bs)) (by rw [lentL_len]; omega) u8v_len (Int.le_refl 0) (by omega) (by omega) (Int.le_refl _) (by omega) fun in_ hin hil hic => ?_
    rw [hpre] at hin
    refine ⟨fun row3 w' => ∃ rowL : List Int, rowL.length = lx.length + 80 ∧ Hp [] w w' [(tRd b 1 u8v bs).ro, (tRd lS 1 iv lx).ro, tBlk bo 29 (slv nilS), tSl row3 2 1 iv rowL, tSl kept 22 1 slv (kL.map (·.1)), tAll (kL.map inA), tB x (lentL bs)], ?_, ?_⟩
    · by_cases hk0 : k = 0
      · refine ifT (by simp [hk0]) ?_
        have ew : IntKind.i64.wrap ((lS.len : Int) + 80) = ((lx.length + 80 : Nat) : Int) := by rw [wr64 (by omega) (by omega)]; omega
        rw [ew]
        refine h.mks (e := 2) (n := 1) (f := iv) (x0 := 0) iv_len rfl (by omega) (Int.le_refl _) (by omega) (by omega) fun row2 w5 h _ _ _ => ?_
        simp only [List.cons_append, List.nil_append] at h
        have h := h.sel [0, 1, 2, 7, 4, 5, 6] (by decide) (ts := [_, _, _, _, _, _, _]) rfl (fun q j hj => by
          match q, hj with
          | 0, hj => simp only [List.getElem?_cons_zero, Option.some.injEq] at hj; subst hj; rfl
          | 1, hj => simp only [List.getElem?_cons_succ, List.getElem?_cons_zero, Option.some.injEq] at hj; subst hj; rfl
          | 2, hj => simp only [List.getElem?_cons_succ, List.getElem?_cons_zero, Option.some.injEq] at hj; subst hj; rfl
          | 3, hj => simp only [List.getElem?_cons_succ, List.getElem?_cons_zero, Option.some.injEq] at hj; subst hj; rfl
          | 4, hj => simp only [List.getElem?_cons_succ, List.getElem?_cons_zero, Option.some.injEq] at hj; subst hj; rfl
          | 5, hj => simp only [List.getElem?_cons_succ, List.getElem?_cons_zero, Option.some.injEq] at hj; subst hj; rfl
          | 6, hj => simp only [List.getElem?_cons_succ, List.getElem?_cons_zero, Option.some.injEq] at hj; subst hj; rfl
          | q + 7, hj => simp at hj)
        exact ⟨_, by rw [List.length_replicate]; omega, h⟩
      · refine ifF (by simp; omega) ⟨rowL, hrowl hk0, h⟩
    clear h hrowl
    rintro row3 w5 ⟨rowL, hrowl, h⟩
    have hr3 := h.len (s := row3) 3 rfl
    have hr3c := h.cap (s := row3) 3 rfl
    -- zeros
    refine ⟨fun i mm w' => ∃ q : Nat, i = ((lx.length + q : Nat) : Int) ∧ q ≤ 80 ∧ mm = 80 - q ∧ Hp [] w w' [(tRd b 1 u8v bs).ro, (tRd lS 1 iv lx).ro, tBlk bo 29 (slv nilS), tSl row3 2 1 iv (zro rowL lx.length q), tSl kept 22 1 slv (kL.map (·.1)), tAll (kL.map inA), tB x (lentL bs)], ⟨80, 0, by omega, by omega, rfl, by simpa [zro] using h⟩, ?_⟩
    clear h
    rintro i mm w6 ⟨q, rfl, hq, rfl, h⟩
    by_cases hq80 : q < 80
    · refine ifT (by simp; omega) ?_
      refine h.ixst 3 rfl (by omega) (by rw [zro_len (by omega), Int.toNat_natCast]; omega) iv_len (y := 0) rfl rfl fun w7 h => ?_
      rw [Int.toNat_natCast, zro_set (by omega)] at h
      exact ⟨80 - (q + 1), by omega, q + 1, by rw [wr64 (by omega) (by omega)]; omega, by omega, rfl, h⟩
    refine ifF (by simp; omega) ?_
    obtain rfl : q = 80 := by omega
    refine h.copy 3 1 (by omega) rfl rfl hv iv_len und24 p1 p3 (by simp [iv, Value.oneCell']) (by omega) fun w7 h => ?_
    have ez : lx ++ (zro rowL lx.length 80).drop lS.len = lx ++ List.replicate 80 0 := by
      unfold zro
      have e1 : (rowL.take lx.length).length = lS.len := by rw [List.length_take]; omega
      rw [List.drop_of_length_le (l := rowL) (by omega), List.append_nil, ← e1, List.drop_left]
    rw [ez] at h
    simp only [List.set_cons_zero, List.set_cons_succ] at h
    have hLl : (lx ++ List.replicate 80 (0 : Int)).length = lx.length + 80 := by simp
    have hLpre : ((lx ++ List.replicate 80 (0 : Int)).take ((lS.len : Int)).toNat).drop (0 : Int).toNat = lx := by
      show List.take _ _ = _
      rw [show ((lS.len : Int)).toNat = lx.length by omega, List.take_left]
    refine Put_spec h 6 rfl hin n0 n1 (by omega) fun p w8 h => ?_
    simp only [List.cons_append, List.nil_append] at h
    refine PutInt_spec h 6 rfl hin m0 m1 (by omega) fun q w8 h => ?_
    simp only [List.cons_append, List.nil_append] at h
    refine PutText_spec h 6 rfl hin (by omega) fun r w8 h => ?_
    simp only [List.cons_append, List.nil_append] at h
    refine Hp.cutv (s := row3) (Hp.rdSl (e := 2) (s := row3) (n := 1) (f := iv) (l := lx ++ List.replicate 80 0)) (by omega) iv_len (Int.le_refl 0) (by omega) (by omega) (Int.le_refl _) (by omega) fun s2 hs2 _ _ => ?_
    rw [hLpre] at hs2
    refine PutRow_spec h 6 3 rfl hin rfl hs2 hr (by omega) (by omega) fun u w8 h => ?_
    simp only [List.cons_append, List.nil_append] at h
    -- the four questions
    refine ⟨fun one w' => one = true ∧ Hp [] w w' [(tRd b 1 u8v bs).ro, (tRd lS 1 iv lx).ro, tBlk bo 29 (slv nilS), tSl row3 2 1 iv (lx ++ List.replicate 80 0), tSl kept 22 1 slv (kL.map (·.1)), tAll (kL.map inA), tB x (lentL bs), tB p (bs ++ putU n), tB q (bs ++ putU (zig m)), tB r (bs ++ putU s.size ++ strL s), tB u (bs ++ rowU lx)], ?_, ?_⟩
    · refine h.dr fun w9 h => ?_
      refine h.rdb 7 rfl Hp.rdSl _ (strL_of c0) ?_
      refine RPut_spec h 0 rfl hu n0 n1 (by omega) fun r2 w9 h => ⟨h.bat 7 rfl Hp.rdSl _ (strL_of c0), ?_⟩
      simp only [List.cons_append, List.nil_append] at h
      refine h.rdb 11 rfl Hp.rdSl _ (strL_of c0) ?_
      refine ifT (by simp) ?_
      refine h.rdb 8 rfl Hp.rdSl _ (strL_of c1) ?_
      refine RPutInt_spec h 0 rfl hu m0 m1 (by omega) fun r3 w9 h => ⟨h.bat 8 rfl Hp.rdSl _ (strL_of c1), ?_⟩
      simp only [List.cons_append, List.nil_append] at h
      refine h.rdb 12 rfl Hp.rdSl _ (strL_of c1) ?_
      refine ifT (by simp) ?_
      refine h.rdb 9 rfl Hp.rdSl _ (strL_of c2) ?_
      refine RPutText_spec h 0 rfl hu (by omega) fun r4 w9 h => ⟨h.bat 9 rfl Hp.rdSl _ (strL_of c2), ?_⟩
      simp only [List.cons_append, List.nil_append] at h
      refine h.rdb 13 rfl Hp.rdSl _ (strL_of c2) ?_
      refine ifT (by simp) ?_
      refine h.rdb 10 rfl Hp.rdSl _ (strL_of c3) ?_
      refine RPutRow_spec h 0 1 rfl hu rfl hv hr (by omega) (by omega) fun r5 w9 h => ⟨h.bat 10 rfl Hp.rdSl _ (strL_of c3), ?_⟩
      simp only [List.cons_append, List.nil_append] at h
      refine h.rdb 14 rfl Hp.rdSl _ (strL_of c3) ?_
      exact ⟨by simp, h.trim 11⟩
    clear h
    rintro one w9 ⟨rfl, h⟩
    refine still_spec h 6 0 rfl rfl Hp.rdSl hu (by omega) fun w10 h => ?_
    generalize hLdef : lx ++ List.replicate 80 (0 : Int) = L at h hLl
    refine ⟨fun k2 i mm w' => ∃ j : Nat, k2 = true ∧ i = j ∧ j ≤ L.length ∧ mm = L.length - j ∧ Hp [] w w' [(tRd b 1 u8v bs).ro, (tRd lS 1 iv lx).ro, tBlk bo 29 (slv nilS), tSl row3 2 1 iv (trn L j), tSl kept 22 1 slv (kL.map (·.1)), tAll (kL.map inA), tB x (lentL bs), tB p (bs ++ putU n), tB q (bs ++ putU (zig m)), tB r (bs ++ putU s.size ++ strL s), tB u (bs ++ rowU lx)],
      ⟨L.length, 0, rfl, rfl, by omega, rfl, by simpa [trn] using h⟩, ?_⟩
    clear h
    rintro k2 i mm w11 ⟨j, rfl, rfl, hj, rfl, h⟩
    by_cases hjl : j < L.length
    · refine ifT (by simp; omega) ?_
      have hg : (trn L j)[((j : Int)).toNat]? = some L[j] := by rw [Int.toNat_natCast]; exact trn_get hjl
      have hLj : L[j]? = some L[j] := by simp [hjl]
      refine ⟨fun k3 w' => k3 = true ∧ Hp [] w w' [(tRd b 1 u8v bs).ro, (tRd lS 1 iv lx).ro, tBlk bo 29 (slv nilS), tSl row3 2 1 iv (trn L j), tSl kept 22 1 slv (kL.map (·.1)), tAll (kL.map inA), tB x (lentL bs), tB p (bs ++ putU n), tB q (bs ++ putU (zig m)), tB r (bs ++ putU s.size ++ strL s), tB u (bs ++ rowU lx)], ?_, ?_⟩
      · refine h.dr fun w12 h => ?_
        refine ifT rfl ?_
        by_cases hjx : j < lx.length
        · refine ifT (by simp; omega) ?_
          refine h.ixld (k := .i .i64) (y := L[j]) (x := L[j]) 3 rfl (by omega) hg iv_len rfl ?_
          have e : lx[j]? = some L[j] := by rw [← hLj, ← hLdef, List.getElem?_append_left hjx]
          refine h.ixldU (k := .i .i64) (u := (tRd lS 1 iv lx).ro) (y := L[j]) (x := L[j]) 1 rfl hv (by omega) (by rw [Int.toNat_natCast]; exact e) iv_len rfl ?_
          exact ifT (by simp) ⟨rfl, h⟩
        · refine ifF (by simp; omega) ?_
          refine ifT (by simp; omega) ?_
          have e : L[j] = 0 := by
            have : L[j]? = some 0 := by
              rw [← hLdef, List.getElem?_append_right (by omega), List.getElem?_replicate, if_pos (by omega)]
            rw [hLj] at this
            simpa using this
          refine h.ixld (k := .i .i64) (y := L[j]) (x := L[j]) 3 rfl (by omega) hg iv_len rfl ?_
          exact ⟨by rw [e]; rfl, h⟩
      rintro k3 w12 ⟨rfl, h⟩
      refine ⟨by omega, ?_⟩
      rw [tv_val (by omega)]
      refine h.ixst 3 rfl (by omega) (by rw [trn_len hj, Int.toNat_natCast]; exact hjl) iv_len (y := tv j) rfl rfl fun w13 h => ?_
      rw [Int.toNat_natCast, trn_set hjl] at h
      exact ⟨L.length - (j + 1), by omega, j + 1, rfl, by rw [wr64 (by omega) (by omega)]; omega, by omega, rfl, h⟩
    refine ifF (by simp; omega) ?_
    obtain rfl : j = L.length := by omega
    have etr : trn L L.length = (List.range L.length).map tv := by unfold trn; rw [List.drop_of_length_le (Nat.le_refl _), List.append_nil]
    rw [etr] at h
    have hTl : ((List.range L.length).map tv).length = lx.length + 80 := by simp; omega
    have hT64 : R64 ((((List.range L.length).map tv).take ((lS.len : Int)).toNat).drop (0 : Int).toNat) := by
      intro z hz
      have hz := List.mem_of_mem_take (List.mem_of_mem_drop hz)
      obtain ⟨y, _, rfl⟩ := List.mem_map.1 hz
      exact tv_range y
    have hTll : ((((List.range L.length).map tv).take ((lS.len : Int)).toNat).drop (0 : Int).toNat).length ≤ 2000000 := by
      rw [List.length_drop, List.length_take]; omega
    refine Hp.cutv (s := row3) (Hp.rdSl (e := 2) (s := row3) (n := 1) (f := iv) (l := (List.range L.length).map tv)) (by omega) iv_len (Int.le_refl 0) (by omega) (by omega) (Int.le_refl _) (by omega) fun s3 hs3 _ _ => ?_
    have c4 : Bytes (bs ++ rowU ((((List.range L.length).map tv).take ((lS.len : Int)).toNat).drop (0 : Int).toNat)) := bytes_app hb (rowU_bytes _)
    refine PutRow_spec h 0 3 rfl hu rfl hs3 hT64 (by omega) (by omega) fun again w12 h => ?_
    simp only [List.cons_append, List.nil_append] at h
    refine ⟨fun k4 w' => k4 = true ∧ Hp [] w w' [(tRd b 1 u8v bs).ro, (tRd lS 1 iv lx).ro, tBlk bo 29 (slv nilS), tSl row3 2 1 iv ((List.range L.length).map tv), tSl kept 22 1 slv (kL.map (·.1)), tAll (kL.map inA), tB x (lentL bs), tB p (bs ++ putU n), tB q (bs ++ putU (zig m)), tB r (bs ++ putU s.size ++ strL s), tB u (bs ++ rowU lx)], ?_, ?_⟩
    · refine h.dr fun w13 h => ?_
      refine ifT rfl ?_
      refine h.rdb 11 rfl Hp.rdSl _ (strL_of c4) ?_
      refine Hp.cutv (s := row3) (Hp.rdSl (e := 2) (s := row3) (n := 1) (f := iv) (l := (List.range L.length).map tv)) (by omega) iv_len (Int.le_refl 0) (by omega) (by omega) (Int.le_refl _) (by omega) fun s4 hs4 _ _ => ?_
      refine RPutRow_spec h 0 3 rfl hu rfl hs4 hT64 (by omega) (by omega) fun r6 w13 h => ⟨h.bat 11 rfl Hp.rdSl _ (strL_of c4), ?_⟩
      simp only [List.cons_append, List.nil_append] at h
      refine h.rdb 12 rfl Hp.rdSl _ (strL_of c4) ?_
      exact ⟨by simp, h.trim 11⟩
    clear h
    rintro k4 w13 ⟨rfl, h⟩
    refine h.nw (c := [_, _, _, _, _]) fun b2 w14 h => ?_
    have h := h.blkSl (i := 11) (e := 22) (m := 5) (l := [p, q, r, u, x]) (f := slv) (n := 1) rfl rfl rfl slv_len
    simp only [List.cons_append, List.nil_append, List.set_cons_zero, List.set_cons_succ] at h
    refine h.appS 4 11 (s := kept) (s2 := ⟨some ⟨b2, 0, none⟩, 5, 5⟩) rfl rfl Hp.rdSl slv_len und30 r1 r3 r2 rfl (by simp [slv, Value.oneCell']) (by rw [r4]; show (kept.len + 5) * 24 ≤ _; omega) (by show kept.len + 5 ≤ _; omega) fun kept2 w15 h _ _ => ?_
    simp only [List.set_cons_zero, List.set_cons_succ] at h
    refine ifF (by simp) ?_
    have h := h.trim 11
    simp only [List.take_succ_cons, List.take_zero] at h
    have h := all_more h (i := 5) (j := 7) (by omega) rfl rfl
    have h := all_more h (i := 5) (j := 8) (by omega) rfl rfl
    simp only [List.set_cons_zero, List.set_cons_succ] at h
    have h := all_more h (i := 5) (j := 9) (by omega) rfl rfl
    have h := all_more h (i := 5) (j := 10) (by omega) rfl rfl
    have h := all_more h (i := 5) (j := 6) (by omega) rfl rfl
    simp only [List.set_cons_zero, List.set_cons_succ] at h
    have h := h.trim 6
    simp only [List.take_succ_cons, List.take_zero] at h
    refine ⟨3 - (k + 1), by omega, k + 1, (List.range L.length).map tv, kL ++ [(p, bs ++ putU n)] ++ [(q, bs ++ putU (zig m))] ++ [(r, bs ++ putU s.size ++ strL s)] ++ [(u, bs ++ rowU lx)] ++ [(x, lentL bs)], by rw [wr64 (by omega) (by omega)]; omega, by omega, rfl, fun _ => hTl, by simp; omega, ?_, ?_⟩
    · intro i z hz
      have hlen : (kL ++ [(p, bs ++ putU n)] ++ [(q, bs ++ putU (zig m))] ++ [(r, bs ++ putU s.size ++ strL s)] ++ [(u, bs ++ rowU lx)] ++ [(x, lentL bs)]) = kL ++ [(p, bs ++ putU n), (q, bs ++ putU (zig m)), (r, bs ++ putU s.size ++ strL s), (u, bs ++ rowU lx), (x, lentL bs)] := by simp
      rw [hlen] at hz
      by_cases hik : i < kL.length
      · rw [List.getElem?_append_left hik] at hz
        exact hkc i z hz
      · rw [List.getElem?_append_right (by omega)] at hz
        have hi5 : i - kL.length < 5 := (List.getElem?_eq_some_iff.1 hz).1
        have him : i % 5 = i - kL.length := by omega
        rw [him, hcon]
        generalize i - kL.length = d at hz hi5
        match d, hz with
        | 0, hz => simp at hz; subst hz; rfl
        | 1, hz => simp at hz; subst hz; rfl
        | 2, hz => simp at hz; subst hz; simp
        | 3, hz => simp at hz; subst hz; rfl
        | 4, hz => simp at hz; subst hz; rfl
        | d + 5, hz => omega
    · have em : List.map (fun x => x.1) (kL ++ [(p, bs ++ putU n)] ++ [(q, bs ++ putU (zig m))] ++ [(r, bs ++ putU s.size ++ strL s)] ++ [(u, bs ++ rowU lx)] ++ [(x, lentL bs)]) = List.map (·.1) kL ++ [p, q, r, u, x] := by simp
      rw [em]
      exact h
  refine ifF (by simp; omega) ?_
  obtain rfl : k = 3 := by omega
  refine h.dr fun w4 h => ?_
  refine RPut_spec h 0 rfl hu n0 n1 (by omega) fun r7 w5 h => ?_
  simp only [List.cons_append, List.nil_append] at h
  refine h.rdb 6 rfl Hp.rdSl _ (strL_of c0) ?_
  refine RPutInt_spec h 0 rfl hu m0 m1 (by omega) fun r8 w5 h => ⟨h.bat 6 rfl Hp.rdSl _ (strL_of c0), ?_⟩
  simp only [List.cons_append, List.nil_append] at h
  refine h.rdb 7 rfl Hp.rdSl _ (strL_of c1) ?_
  refine RPutText_spec h 0 rfl hu (by omega) fun r9 w5 h => ⟨h.bat 7 rfl Hp.rdSl _ (strL_of c1), h.bat 6 rfl Hp.rdSl _ (strL_of c0), ?_⟩
  simp only [List.cons_append, List.nil_append] at h
  refine h.rdb 8 rfl Hp.rdSl _ (strL_of c2) ?_
  refine RPutRow_spec h 0 1 rfl hu rfl hv hr (by omega) (by omega) fun r10 w5 h => ⟨h.bat 8 rfl Hp.rdSl _ (strL_of c2), h.bat 7 rfl Hp.rdSl _ (strL_of c1), h.bat 6 rfl Hp.rdSl _ (strL_of c0), ?_⟩
  simp only [List.cons_append, List.nil_append] at h
  refine h.rdb 9 rfl Hp.rdSl _ (strL_of c3) ?_
  refine h.nw (c := [_, _, _, _]) fun b3 w5 h => ?_
  have h := h.blkSl (i := 10) (e := 9) (m := 4) (l := [strOf (bs ++ putU n), strOf (bs ++ putU (zig m)), strOf (bs ++ putU s.size ++ strL s), strOf (bs ++ rowU lx)]) (f := sv) (n := 1) rfl rfl rfl sv_len
  have h := h.sel [0, 1, 2, 3, 4, 5, 10] (by decide) (ts := [_, _, _, _, _, _, _]) rfl (fun q j hj => by
    match q, hj with
    | 0, hj => simp only [List.getElem?_cons_zero, Option.some.injEq] at hj; subst hj; rfl
    | 1, hj => simp only [List.getElem?_cons_succ, List.getElem?_cons_zero, Option.some.injEq] at hj; subst hj; rfl
    | 2, hj => simp only [List.getElem?_cons_succ, List.getElem?_cons_zero, Option.some.injEq] at hj; subst hj; rfl
    | 3, hj => simp only [List.getElem?_cons_succ, List.getElem?_cons_zero, Option.some.injEq] at hj; subst hj; rfl
    | 4, hj => simp only [List.getElem?_cons_succ, List.getElem?_cons_zero, Option.some.injEq] at hj; subst hj; rfl
    | 5, hj => simp only [List.getElem?_cons_succ, List.getElem?_cons_zero, Option.some.injEq] at hj; subst hj; rfl
    | 6, hj => simp only [List.getElem?_cons_succ, List.getElem?_cons_zero, Option.some.injEq] at hj; subst hj; rfl
    | q + 7, hj => simp at hj)
  refine ⟨fun i mm w' => ∃ j : Nat, i = j ∧ j ≤ kL.length ∧ mm = kL.length - j ∧ Hp [] w w' [(tRd b 1 u8v bs).ro, (tRd lS 1 iv lx).ro, tBlk bo 29 (slv nilS), tSl row 2 1 iv rowL, tSl kept 22 1 slv (kL.map (·.1)), tAll (kL.map inA), tSl ⟨some ⟨b3, 0, none⟩, 4, 4⟩ 9 1 sv [strOf (bs ++ putU n), strOf (bs ++ putU (zig m)), strOf (bs ++ putU s.size ++ strL s), strOf (bs ++ rowU lx)]], ⟨kL.length, 0, rfl, by omega, rfl, h⟩, ?_⟩
  clear h
  rintro i mm w6 ⟨j, rfl, hj, rfl, h⟩
  by_cases hjl : j < kL.length
  · refine ifT (by simp; omega) ?_
    refine h.dr fun w7 h => ?_
    refine ⟨by omega, ?_⟩
    have e5 : Int.tmod (j : Int) 5 = ((j % 5 : Nat) : Int) := by rw [Int.tmod_eq_emod_of_nonneg (by omega)]; omega
    rw [e5]
    have stp : ∃ m2 : Nat, m2 < kL.length - j ∧ ∃ j' : Nat, IntKind.i64.wrap ((j : Int) + 1) = j' ∧ j' ≤ kL.length ∧ m2 = kL.length - j' ∧ Hp [] w w7 [(tRd b 1 u8v bs).ro, (tRd lS 1 iv lx).ro, tBlk bo 29 (slv nilS), tSl row 2 1 iv rowL, tSl kept 22 1 slv (kL.map (·.1)), tAll (kL.map inA), tSl ⟨some ⟨b3, 0, none⟩, 4, 4⟩ 9 1 sv [strOf (bs ++ putU n), strOf (bs ++ putU (zig m)), strOf (bs ++ putU s.size ++ strL s), strOf (bs ++ rowU lx)]] := ⟨kL.length - (j + 1), by omega, j + 1, by rw [wr64 (by omega) (by omega)]; omega, by omega, rfl, h⟩
    by_cases h4 : j % 5 < 4
    · refine ifT (by simp; omega) ?_
      have hget : (kL.map (·.1))[((j : Int)).toNat]? = some kL[j].1 := by simp [hjl]
      have hgk : kL[j]? = some kL[j] := by simp [hjl]
      generalize kL[j] = x at hget hgk
      have hcx := hkc j x hgk
      refine h.ixld (k := .sl) (y := x.1) (x := x.1) 4 rfl (by omega) hget slv_len rfl ?_
      obtain ⟨hbx, hsx⟩ : Bytes x.2 ∧ [strOf (bs ++ putU n), strOf (bs ++ putU (zig m)), strOf (bs ++ putU s.size ++ strL s), strOf (bs ++ rowU lx)][(((j % 5 : Nat) : Int)).toNat]? = some (strOf x.2) := by
        rw [Int.toNat_natCast]
        rw [hcon] at hcx
        generalize j % 5 = d at h4 hcx
        match d, h4, hcx with
        | 0, _, hcx => simp at hcx; rw [← hcx]; exact ⟨c0, rfl⟩
        | 1, _, hcx => simp at hcx; rw [← hcx]; exact ⟨c1, rfl⟩
        | 2, _, hcx => simp at hcx; rw [← hcx]; rw [List.append_assoc] at c2 ⊢; exact ⟨c2, rfl⟩
        | 3, _, hcx => simp at hcx; rw [← hcx]; exact ⟨c3, rfl⟩
        | d + 4, h4, _ => omega
      refine h.rdb 5 rfl (all_reads hgk) _ (strL_of hbx) ?_
      refine ⟨by omega, ?_⟩
      refine h.ixld (k := .s) (y := strOf x.2) (x := strOf x.2) (s := ⟨some ⟨b3, 0, none⟩, 4, 4⟩) 6 rfl (by omega) hsx sv_len rfl ?_
      exact ifF (by simp) stp
    · exact ifF (by simp; omega) stp
  refine ifF (by simp; omega) ?_
  have hlens : ∀ x ∈ kL, x.2.length ≤ 90000000 := by
    intro x hx
    obtain ⟨j, hj⟩ := List.getElem?_of_mem hx
    have hc := hkc j x hj
    rw [hcon] at hc
    have hd : j % 5 < 5 := by omega
    generalize j % 5 = d at hc hd
    match d, hc with
    | 0, hc => simp at hc; rw [← hc, List.length_append]; omega
    | 1, hc => simp at hc; rw [← hc, List.length_append]; omega
    | 2, hc => simp at hc; rw [← hc]; simp only [List.length_append]; omega
    | 3, hc => simp at hc; rw [← hc, List.length_append]; omega
    | 4, hc => simp at hc; rw [← hc, lentL_len]; omega
    | d + 5, hc => omega
  have h := h.trim 6
  simp only [List.take_succ_cons, List.take_zero] at h
  obtain ⟨x14, hx14⟩ : ∃ x, kL[14]? = some x := ⟨kL[14], by simp [show 14 < kL.length by omega]⟩
  have hx14c : x14.2 = lentL bs := by
    have := hkc 14 x14 hx14
    rw [hcon] at this
    simpa using this.symm
  have hx14l : x14.1.len = bs.length + 80 := by
    have := h.lenU 5 rfl (all_reads hx14)
    rw [hx14c, lentL_len] at this
    omega
  have hx14k : b.len ≤ x14.1.cap := by
    obtain ⟨O, hO⟩ := h.see (i := 5) rfl
    obtain ⟨O1, O2, g, _⟩ := tAll_pick (k := 14) (t := inA x14) (by rw [List.getElem?_map, hx14]; rfl) hO
    have hg : SlF _ x14.1 5 1 u8v x14.2 O1 := g
    rcases hg.2 with ⟨_, g1, g2, _⟩ | ⟨_, _, _, _, _, _, g1, _⟩ <;> omega
  obtain ⟨O, h1, back⟩ := h.f2r (i := 2) (i' := 5) (j := 4) (by omega) (by omega) (by omega) rfl rfl rfl rfl (tAll_own _)
  refine fill_spec h1 (ua := (tSl kept 22 1 slv (kL.map (fun x : Sl × List Int => x.1))).ro) (⟨fun hO => ⟨_, SlF.toR hO⟩⟩ : Hp.Reads (tSl kept 22 1 slv (kL.map (fun x : Sl × List Int => x.1))).ro kept 1 slv (kL.map (fun x : Sl × List Int => x.1))) (by omega) hlens fun es ls w7 hel hes h1 => ?_
  refine looks_spec h1 (by omega) fun w8 h1 => ?_
  have h := back (rest := [tBag es]) rfl rfl rfl (h1.sel3 0 1 2 (by decide) rfl rfl rfl)
  simp only [List.cons_append, List.nil_append, List.set_cons_zero, List.set_cons_succ] at h
  refine h.ixld (k := .sl) (y := x14.1) (x := x14.1) 4 rfl (by omega) (by simp [hx14]) slv_len rfl ?_
  have he14 := hes 14 x14 hx14
  have hm14 : (⟨x14.1, mkm 14⟩ : Ow) ∈ es := List.mem_of_getElem? he14
  have hrd14 := bag_reads hm14
  dsimp only at hrd14
  have e15 : mkm 14 = 15 := by decide
  rw [e15] at hrd14
  refine Hp.cutv (s := x14.1) hrd14 (by simp) u8v_len (Int.le_refl 0) (by omega) (by omega) (Int.le_refl _) (by omega) fun y hy _ _ => ?_
  have eY : ((List.replicate x14.1.len (15 : Int)).take ((b.len : Int)).toNat).drop (0 : Int).toNat = List.replicate bs.length 15 := by
    show List.take _ _ = _
    rw [List.take_replicate]; congr 1; omega
  rw [eY] at hy
  have hyl := h.lenU 6 rfl hy
  rw [List.length_replicate] at hyl
  have hYl : (List.replicate bs.length (15 : Int)).length = bs.length := List.length_replicate
  have hYb : Bytes (List.replicate bs.length (15 : Int)) := by
    intro z hz; rw [(List.mem_replicate.1 hz).2]; omega
  refine h.nw (c := []) fun b4 w9 h => ?_
  have h := h.blkSl (i := 7) (m := 0) (l := ([] : List Int)) (f := u8v) (n := 1) rfl rfl rfl u8v_len
  simp only [List.cons_append, List.nil_append, List.set_cons_zero, List.set_cons_succ] at h
  refine h.appS 7 6 (s := ⟨some ⟨b4, 0, none⟩, 0, 0⟩) rfl rfl hy u8v_len und22 q1 q3 q2 rfl (by simp [Value.oneCell']) (by rw [q4]; show (0 + y.len) * 1 ≤ _; omega) (by show 0 + y.len ≤ _; omega) fun z w10 h _ _ => ?_
  simp only [List.nil_append, List.set_cons_zero, List.set_cons_succ] at h
  generalize List.replicate bs.length (15 : Int) = Y at h hy hYl hYb
  have d0 : Bytes (Y ++ putU n) := bytes_app hYb (putU_bytes n0)
  have d1 : Bytes (Y ++ putU (zig m)) := bytes_app hYb (putU_bytes hzm.1)
  have d2 : Bytes (Y ++ putU s.size ++ strL s) := bytes_app (bytes_app hYb (putU_bytes (by omega))) (strL_bytes s)
  have d3 : Bytes (Y ++ rowU lx) := bytes_app hYb (rowU_bytes lx)
  refine h.dr fun w11 h => ?_
  refine ifT rfl ?_
  refine Put_spec h 6 rfl hy n0 n1 (by omega) fun r11 w12 h => ?_
  simp only [List.cons_append, List.nil_append] at h
  refine h.rdb 8 rfl Hp.rdSl _ (strL_of d0) ?_
  refine RPut_spec h 7 rfl Hp.rdSl n0 n1 (by omega) fun r12 w12 h => ⟨h.bat 8 rfl Hp.rdSl _ (strL_of d0), ?_⟩
  simp only [List.cons_append, List.nil_append] at h
  refine h.rdb 9 rfl Hp.rdSl _ (strL_of d0) ?_
  refine ifT (by simp) ?_
  refine PutInt_spec h 6 rfl hy m0 m1 (by omega) fun r13 w12 h => ?_
  simp only [List.cons_append, List.nil_append] at h
  refine h.rdb 10 rfl Hp.rdSl _ (strL_of d1) ?_
  refine RPutInt_spec h 7 rfl Hp.rdSl m0 m1 (by omega) fun r14 w12 h => ⟨h.bat 10 rfl Hp.rdSl _ (strL_of d1), ?_⟩
  simp only [List.cons_append, List.nil_append] at h
  refine h.rdb 11 rfl Hp.rdSl _ (strL_of d1) ?_
  refine ifT (by simp) ?_
  refine PutText_spec h 6 rfl hy (by omega) fun r15 w12 h => ?_
  simp only [List.cons_append, List.nil_append] at h
  refine h.rdb 12 rfl Hp.rdSl _ (strL_of d2) ?_
  refine RPutText_spec h 7 rfl Hp.rdSl (by omega) fun r16 w12 h => ⟨h.bat 12 rfl Hp.rdSl _ (strL_of d2), ?_⟩
  simp only [List.cons_append, List.nil_append] at h
  refine h.rdb 13 rfl Hp.rdSl _ (strL_of d2) ?_
  refine ifT (by simp) ?_
  refine PutRow_spec h 6 1 rfl hy rfl hv hr (by omega) (by omega) fun r17 w12 h => ?_
  simp only [List.cons_append, List.nil_append] at h
  refine h.rdb 14 rfl Hp.rdSl _ (strL_of d3) ?_
  refine RPutRow_spec h 7 1 rfl Hp.rdSl rfl hv hr (by omega) (by omega) fun r18 w12 h => ⟨h.bat 14 rfl Hp.rdSl _ (strL_of d3), ?_⟩
  simp only [List.cons_append, List.nil_append] at h
  refine h.rdb 15 rfl Hp.rdSl _ (strL_of d3) ?_
  have := hK _ h.fr
  simpa using this
end
end Go.Proofs.Ytbmpgjheiknjlaa.F
