/-
  The walk of TableKeeps: what the law's own text computes is true.
-/
import Derived.Test.YtfghoeojpnnkiaaP05
set_option linter.unusedSimpArgs false
set_option linter.unusedVariables false
namespace Go.Proofs.Ytfghoeojpnnkiaa.F
open Go Go.Den Go.Proofs

section
variable {S : List Nat} {w0 w : World} {its : List Thing}

/-- The document's example. -/
theorem shown_spec {K : Bool → World → Prop} (hK : ∀ w', Fr [] w w' → K true w') : c6 w K := by
  refine c6_of ?_
  unfold f6
  refine New_spec (Hp.begin_ w) (n := 2) (by omega) (by omega) fun b w1 h1 => ?_
  refine ifF (by simp) ?_
  refine h1.nw (c := [_, _]) fun b1 w1 h1 => ?_
  have h1 := h1.blkSl (i := 1) (m := 2) (l := [10, 11]) (f := iv) (n := 1) rfl rfl rfl iv_len
  have k0 : (⟨2, []⟩ : TabM).Ok := ⟨by simp, by simp, by simp [TabM.owners], by simp⟩
  have a1 : (⟨2, []⟩ : TabM).addM (7, 1) [10, 11] = (⟨2, [((7, 1), [10, 11])]⟩, 0, 0) := rfl
  have k1 : (⟨2, [((7, 1), [10, 11])]⟩ : TabM).Ok := ⟨by simp, by simp, by simp [TabM.owners], by simp⟩
  refine Add_spec h1 0 1 (by omega) k0 rfl (e := (7, 1)) (vs := ⟨some ⟨b1, 0, none⟩, 2, 2⟩) rfl Hp.rdSl fun w1 h1 => ?_
  rw [a1] at h1 ⊢
  refine h1.nw (c := [_, _]) fun b2 w1 h1 => ?_
  have h1 := h1.blkSl (i := 2) (m := 2) (l := [30, 31]) (f := iv) (n := 1) rfl rfl rfl iv_len
  have a2 : (⟨2, [((7, 1), [10, 11])]⟩ : TabM).addM (9, 3) [30, 31] = (⟨2, [((7, 1), [10, 11]), ((9, 3), [30, 31])]⟩, 1, 0) := rfl
  have k2 : (⟨2, [((7, 1), [10, 11]), ((9, 3), [30, 31])]⟩ : TabM).Ok := ⟨by simp, by simp, by simp [TabM.owners], by simp⟩
  refine Add_spec h1 0 2 (by omega) k1 rfl (e := (9, 3)) (vs := ⟨some ⟨b2, 0, none⟩, 2, 2⟩) rfl Hp.rdSl fun w1 h1 => ?_
  rw [a2] at h1 ⊢
  have a3 : (⟨2, [((7, 1), [10, 11]), ((9, 3), [30, 31])]⟩ : TabM).delM 0 = (⟨2, [((9, 3), [30, 31])]⟩, (9, 3), true, 0) := rfl
  refine Remove_spec h1 0 k2 rfl fun w1 h1 => ?_
  rw [a3] at h1 ⊢
  refine h1.nw (c := [_, _]) fun bx w1 h1 => ?_
  refine h1.st0 3 rfl (by simp) rfl fun w1 h1 => ?_
  refine h1.st 3 rfl (by simp) rfl fun w1 h1 => ?_
  refine Get_spec h1 0 rfl ?_
  have a4 : (⟨2, [((9, 3), [30, 31])]⟩ : TabM).cellE 0 1 = 0 := rfl
  refine ifT a4 ?_
  refine ifT (by rfl) ?_
  refine ifT (by rfl) ?_
  refine ifT (by rfl) ?_
  refine ifT (by rfl) ?_
  refine h1.ld0 (k := .i .i64) 3 rfl rfl ?_
  refine h1.ld (k := .i .i64) 3 rfl rfl ?_
  refine eqEnt ?_
  refine ifT (by rfl) ?_
  refine ifT (by rfl) ?_
  refine ifT (by rfl) ?_
  refine ifT (by rfl) ?_
  exact hK _ h1.fr

def bools (l : List Bool) : List Value := l.map Value.bool
def ints (l : List Int) : List Value := l.map (Value.int .i64)

theorem bools_get {l : List Bool} {i : Nat} (h : i < l.length) : (bools l)[i * 1]? = some (Kd.inj .b (l.getD i false)) := by
  simp [bools, h, Kd.inj]
theorem ints_get {l : List Int} {i : Nat} (h : i < l.length) : (ints l)[i * 1]? = some (Kd.inj (.i .i64) (l.getD i 0)) := by
  simp [ints, h, Kd.inj]
theorem bools_set (l : List Bool) (i : Nat) (v : Bool) : (bools l).set (i * 1) (.bool v) = bools (l.set i v) := by simp [bools]
theorem ints_set (l : List Int) (i : Nat) (v : Int) : (ints l).set (i * 1) (.int .i64 v) = ints (l.set i v) := by simp [ints]

/-- A list that is being filled. -/
def fillL (n : Nat) (F : Nat → Int) (j : Nat) : List Int := (List.range n).map fun c => if c < j then F c else 0
theorem fill_zero (n : Nat) (F : Nat → Int) : fillL n F 0 = List.replicate n 0 := by
  unfold fillL
  apply List.ext_getElem?
  intro i
  simp only [Nat.not_lt_zero, if_false, List.getElem?_map, List.getElem?_replicate]
  by_cases h : i < n
  · rw [List.getElem?_range h, if_pos h]; rfl
  · rw [List.getElem?_eq_none (by simp; omega), if_neg h]; rfl
theorem fill_all (n : Nat) (F : Nat → Int) : fillL n F n = (List.range n).map F := by
  refine List.map_congr_left fun c hc => ?_
  rw [if_pos (List.mem_range.1 hc)]
theorem fill_set (n : Nat) (F : Nat → Int) {j : Nat} (h : j < n) : (fillL n F j).set j (F j) = fillL n F (j + 1) := by
  unfold fillL
  apply List.ext_getElem?
  intro c
  rw [List.getElem?_set]
  simp only [List.getElem?_map, List.length_map, List.length_range]
  by_cases hc : c < n
  · rw [List.getElem?_range hc]
    by_cases e : j = c
    · subst e; simp [h]
    · simp only [if_neg e, Option.map_some]
      congr 1
      by_cases h1 : c < j
      · rw [if_pos h1, if_pos (by omega)]
      · rw [if_neg h1, if_neg (by omega)]
  · rw [List.getElem?_eq_none (by simp; omega), if_neg (by omega)]
    rfl
theorem fill_len (n : Nat) (F : Nat → Int) (j : Nat) : (fillL n F j).length = n := by simp [fillL]

set_option maxHeartbeats 1000000 in
theorem keeps_spec {columns : Int} {raw : Sl} {xs : List Int} {oa : List Nat} {K : Bool → World → Prop} (hcol : -9223372036854775808 ≤ columns) (has : SlR w raw 1 iv xs oa)
    (hrange : ∀ a ∈ xs, -9223372036854775808 ≤ a ∧ a ≤ 9223372036854775807)
    (hK : ∀ w', Fr [] w w' → K true w') : f3 columns raw w K := by
  unfold f3
  refine shown_spec fun w1 f1 => ?_
  have h := (Hp.begin_ w).keep f1
  have h := h.addRo (t := tRd raw 1 iv xs) has (by simp)
  have hxl := h.lenR (n := 1) (f := iv) (l := xs) (s := raw) 0 rfl
  refine pick_spec (by omega) ?_
  obtain ⟨hn0, hn1⟩ := pk_range (n := 49) hcol (by omega)
  generalize pk columns 49 = n at hn0 hn1 ⊢
  refine New_spec h hn0 (by omega) fun b w1 h => ?_
  refine ifF (by simp) ?_
  refine h.nw (c := bools (List.replicate 40 false)) fun bt w1 h => ?_
  refine h.nw (c := ints (List.replicate 40 0)) fun bw w1 h => ?_
  refine ⟨fun count i mm w' => ∃ (k : Nat) (m : TabM) (thr : List Bool) (wth : List Int), i = k ∧ k ≤ raw.len ∧ k ≤ 400 ∧ mm = raw.len - k ∧ count = m.rows.length ∧ m.Note n.toNat thr wth ∧ Hp [] w w' [(tRd raw 1 iv xs).ro, tTab b m, tBlk bt 29 (bools thr), tBlk bw 30 (ints wth)],
    ⟨raw.len, 0, _, _, _, rfl, by omega, by omega, rfl, rfl, TabM.Note.new (by omega), h⟩, ?_⟩
  rintro count i mm w2 ⟨k, m, thr, wth, rfl, hk1, hk2, rfl, rfl, hN, h⟩
  by_cases hlt : k < raw.len ∧ k < 400
  · refine ifT (by simp; omega) ?_
    have hkl : k < xs.length := by omega
    refine h.ixldR (k := .i .i64) (y := xs[k]) (x := xs[k]) 0 rfl (by omega) (by simp [hkl]) iv_len rfl ?_
    refine pick_spec (by omega) ?_
    have hxk := hrange xs[k] (by simp)
    obtain ⟨hq0, hq1⟩ := pk_range (n := 40) hxk.1 (by omega)
    generalize pk xs[k] 40 = q at hq0 hq1 ⊢
    obtain ⟨q, rfl⟩ : ∃ j : Nat, q = j := ⟨q.toNat, by omega⟩
    have hq : q < 40 := by omega
    refine h.nw (c := [_, _]) fun bx w1 h => ?_
    refine h.st0 4 rfl (by simp) rfl fun w1 h => ?_
    refine h.st 4 rfl (by simp) rfl fun w1 h => ?_
    refine h.ld0 (x := (q : Int)) 4 rfl rfl ?_
    refine h.ld (x := (5 : Int)) 4 rfl rfl ?_
    refine Find_spec h 1 rfl (e := ((q : Int), 5)) fun w1 h => ?_
    have hcond : decide ((atI m ((q : Int), 5)).getD (-1) ≥ 0) = thr.getD q false := by
      rcases hN.at hq with ⟨ht, i, ha, _⟩ | ⟨ht, ha⟩ <;> rw [ht, ha] <;> simp
    refine h.ixa (by omega) (by omega) ?_
    refine h.ldv (k := .b) 2 rfl (bools_get (i := q) (by rw [hN.lt]; exact hq)) ?_
    refine ifF (by rw [hcond]; simp) ?_
    have h40 := hN.rows40
    refine ⟨fun count w' => ∃ (m : TabM) (thr : List Bool) (wth : List Int), count = m.rows.length ∧ m.Note n.toNat thr wth ∧ Hp [] w w' [(tRd raw 1 iv xs).ro, tTab b m, tBlk bt 29 (bools thr), tBlk bw 30 (ints wth), tBlk bx 32 [.int .i64 q, .int .i64 5]], ?_, ?_⟩
    · refine h.ixa (by omega) (by omega) ?_
      refine h.ldv (k := .b) 2 rfl (bools_get (i := q) (by rw [hN.lt]; exact hq)) ?_
      rcases hN.at hq with ⟨ht, i, ha, hoi, hil⟩ | ⟨ht, ha⟩
      · refine ifF (by rw [ht]; simp) ?_
        refine h.ixldR (k := .i .i64) (y := xs[k]) (x := xs[k]) 0 rfl (by omega) (by simp [hkl]) iv_len rfl ?_
        refine ⟨by omega, ?_⟩
        refine pick_spec (by omega) ?_
        generalize pk (IntKind.i64.wrap (Int.tdiv xs[k] 40)) 3 = r
        by_cases hr : r = 0
        · refine ifT (by simpa using hr) ?_
          rw [ha]
          show c11 _ (i : Int) _ _
          refine Remove_spec h 1 hN.ok rfl fun w1 h => ?_
          have hd : m.delM (i : Int) = (m.del i, if (i : Int) = m.rows.length - 1 then ((0, 0), false, 0) else (m.owners.getD (m.rows.length - 1) (0, 0), true, 0)) := by
            unfold TabM.delM
            rw [if_pos (by omega)]; rfl
          rw [hd] at h ⊢
          refine h.nw (c := [_, _]) fun by_ w1 h => ?_
          refine h.st0 5 rfl (by simp) rfl fun w1 h => ?_
          refine h.st 5 rfl (by simp) rfl fun w1 h => ?_
          have hwr : IntKind.i64.wrap ((m.rows.length : Int) - 1) = (m.rows.length : Int) - 1 := wr64 (by omega) (by omega)
          refine ⟨fun w' => Hp [] w w' [(tRd raw 1 iv xs).ro, tTab b (m.del i), tBlk bt 29 (bools thr), tBlk bw 30 (ints wth), tBlk bx 32 [.int .i64 q, .int .i64 5]], ?_, ?_⟩
          · by_cases hlast : (i : Int) = m.rows.length - 1
            · rw [if_pos hlast] at h ⊢
              refine ifF (by simp) ?_
              refine ifF (by rw [hwr, ← hlast]; simp) ?_
              refine ifF (by simp) ?_
              exact h.trim 5
            · rw [if_neg hlast] at h ⊢
              refine ifF (by simp) ?_
              refine ifF (by rw [hwr]; simp [hlast]) ?_
              refine ifT rfl ?_
              refine h.ld0 (k := .i .i64) 5 rfl rfl ?_
              refine h.ld (k := .i .i64) 5 rfl rfl ?_
              refine Find_spec h 1 rfl (e := m.owners.getD (m.rows.length - 1) (0, 0)) fun w1 h => ?_
              have hol := m.owners_len
              have hf : atI (m.del i) (m.owners.getD (m.rows.length - 1) (0, 0)) = some (i : Int) := by
                rw [TabM.atI_iff (hN.ok.del hil).nd, TabM.del_owners m i i (by omega), if_pos (by omega), if_pos rfl]
                simp [show m.rows.length - 1 < m.owners.length by omega]
              refine ifF (by rw [hf]; simp) ?_
              exact h.trim 5
          · rintro w1 h
            refine h.ixa (by omega) (by omega) ?_
            refine h.stv 2 rfl (by simp [bools, hN.lt]; omega) rfl fun w1 h => ?_
            refine ⟨m.del i, thr.set q false, wth, by rw [hwr, TabM.del_len]; omega, hN.del hq hoi, ?_⟩
            rw [bools_set] at h
            exact h
        · refine ifF (by simpa using hr) ?_
          exact ⟨m, thr, wth, rfl, hN, h⟩
      · refine ifT (by rw [ht]; simp) ?_
        refine h.mks (f := iv) (n := 1) (x0 := 0) iv_len rfl hn0 (Int.le_refl _) (by omega) (by omega) fun v w1 h hvl _ _ => ?_
        have hwk : IntKind.i64.wrap ((k : Int) * 100) = (k : Int) * 100 := wr64 (by omega) (by omega)
        refine ⟨fun j mm w' => ∃ l : Nat, j = l ∧ l ≤ n.toNat ∧ mm = n.toNat - l ∧ Hp [] w w' [(tRd raw 1 iv xs).ro, tTab b m, tBlk bt 29 (bools thr), tBlk bw 30 (ints wth), tBlk bx 32 [.int .i64 q, .int .i64 5], tSl v 2 1 iv (fillL n.toNat (fun c => (k : Int) * 100 + c) l)],
          ⟨n.toNat, 0, rfl, by omega, rfl, by rw [fill_zero]; exact h⟩, ?_⟩
        rintro j mm w3 ⟨l, rfl, hl, rfl, h⟩
        by_cases hln : l < n.toNat
        · refine ifT (by simp; omega) ?_
          rw [hwk, wr64 (n := (k : Int) * 100 + (l : Int)) (by omega) (by omega)]
          refine h.ixst 5 rfl (by omega) (by rw [fill_len]; exact hln) iv_len (y := (k : Int) * 100 + l) rfl rfl fun w1 h => ?_
          refine ⟨n.toNat - (l + 1), by omega, l + 1, by rw [wr64 (by omega) (by omega)]; omega, by omega, rfl, ?_⟩
          rw [← fill_set _ _ hln]
          exact h
        · refine ifF (by simp; omega) ?_
          have e : l = n.toNat := by omega
          subst e
          rw [fill_all] at h
          refine h.ld0 (x := (q : Int)) 4 rfl rfl ?_
          refine h.ld (x := (5 : Int)) 4 rfl rfl ?_
          have hne : ((q : Int), (5 : Int)) ∉ m.owners := TabM.atI_none.1 ha
          have had : m.addM ((q : Int), 5) ((List.range n.toNat).map fun (c : Nat) => (k : Int) * 100 + c) = (m.add ((q : Int), 5) ((List.range n.toNat).map fun (c : Nat) => (k : Int) * 100 + c), (m.rows.length : Int), 0) := by
            unfold TabM.addM
            rw [if_neg (by simp [hN.eq]), if_neg hne, if_neg (by omega)]
          refine Add_spec h 1 5 (by omega) hN.ok rfl (e := ((q : Int), 5)) (vs := v) rfl Hp.rdSl fun w1 h => ?_
          rw [had] at h ⊢
          refine ifF (by simp) ?_
          refine h.ixa (by omega) (by omega) ?_
          refine h.stv 3 rfl (by simp [ints, hN.lw]; omega) rfl fun w1 h => ?_
          refine h.ixa (by omega) (by omega) ?_
          refine h.stv 2 rfl (by simp [bools, hN.lt]; omega) rfl fun w1 h => ?_
          refine ⟨_, thr.set q true, wth.set q ((k : Int) * 100), ?_, hN.add hq ht (a := (k : Int) * 100) (by omega) (by omega), ?_⟩
          · rw [wr64 (by omega) (by omega)]; simp [TabM.add]
          · rw [bools_set, hwk, ints_set] at h
            exact h.trim 5
    · rintro count w1 ⟨m, thr, wth, rfl, hN, h⟩
      refine h.dr fun w1 h => ?_
      refine Len_spec h 1 rfl ?_
      refine ifF (by simp) ?_
      refine h.ld0 (x := (q : Int)) 4 rfl rfl ?_
      refine h.ld (x := (5 : Int)) 4 rfl rfl ?_
      refine h.ixa (by omega) (by omega) ?_
      refine h.ldv (k := .b) 2 rfl (bools_get (i := q) (by rw [hN.lt]; exact hq)) ?_
      refine Find_spec h 1 rfl (e := ((q : Int), 5)) fun w1 h => ?_
      have hcond : decide ((atI m ((q : Int), 5)).getD (-1) ≥ 0) = thr.getD q false := by
        rcases hN.at hq with ⟨ht, i, ha, _⟩ | ⟨ht, ha⟩ <;> rw [ht, ha] <;> simp
      refine ⟨?_, ?_⟩
      · have := h.see' (i := 2) (t := tBlk bt 29 (bools thr)) rfl
        obtain ⟨O, hO, _⟩ := this
        rw [hO.cell]
        exact bools_get (i := q) (by rw [hN.lt]; exact hq)
      refine ifF (by rw [hcond]; simp) ?_
      exact ⟨raw.len - (k + 1), by omega, k + 1, m, thr, wth, by rw [wr64 (by omega) (by omega)]; omega, by omega, by omega, rfl, rfl, hN, h.trim 4⟩
  · refine ifF (by simp; omega) ?_
    have h40 := hN.rows40
    refine ⟨fun k2 mm w' => ∃ k : Nat, k2 = k ∧ k ≤ 40 ∧ mm = 40 - k ∧ Hp [] w w' [(tRd raw 1 iv xs).ro, tTab b m, tBlk bt 29 (bools thr), tBlk bw 30 (ints wth)], ⟨40, 0, rfl, by omega, rfl, h⟩, ?_⟩
    rintro k2 mm w3 ⟨k, rfl, hk, rfl, h⟩
    by_cases hlt : k < 40
    · refine ifT (by simp; omega) ?_
      refine h.nw (c := [_, _]) fun bx w1 h => ?_
      refine h.st0 4 rfl (by simp) rfl fun w1 h => ?_
      refine h.st 4 rfl (by simp) rfl fun w1 h => ?_
      refine h.ld0 (x := (k : Int)) 4 rfl rfl ?_
      refine h.ld (x := (5 : Int)) 4 rfl rfl ?_
      refine Find_spec h 1 rfl (e := ((k : Int), 5)) fun w1 h => ?_
      have hcond : decide ((atI m ((k : Int), 5)).getD (-1) ≥ 0) = thr.getD k false := by
        rcases hN.at hlt with ⟨ht, i, ha, _⟩ | ⟨ht, ha⟩ <;> rw [ht, ha] <;> simp
      refine ⟨fun w' => Hp [] w w' [(tRd raw 1 iv xs).ro, tTab b m, tBlk bt 29 (bools thr), tBlk bw 30 (ints wth), tBlk bx 32 [.int .i64 k, .int .i64 5]], ?_, ?_⟩
      · refine h.ixa (by omega) (by omega) ?_
        refine h.ldv (k := .b) 2 rfl (bools_get (i := k) (by rw [hN.lt]; exact hlt)) ?_
        refine ifF (by rw [hcond]; simp) ?_
        refine Find_spec h 1 rfl (e := ((k : Int), 4)) fun w1 h => ?_
        have hno : atI m ((k : Int), 4) = none := by
          refine TabM.atI_none.2 fun hm => ?_
          obtain ⟨r, hr, he⟩ := List.mem_map.1 hm
          obtain ⟨j, _, h1, _⟩ := hN.row r hr
          rw [h1] at he
          simp only [Prod.mk.injEq] at he
          omega
        refine ifF (by rw [hno]; simp) ?_
        exact h
      · rintro w1 h
        rcases hN.at hlt with ⟨ht, i, ha, hoi, hil⟩ | ⟨ht, ha⟩
        · refine ifF (by rw [ha]; simp) ?_
          have hg : (atI m ((k : Int), 5)).getD (-1) = (i : Int) := by rw [ha]; rfl
          rw [hg]
          refine Row_spec h 1 hN.ok rfl fun s w1 => ⟨fun r _ hr h => ?_, fun hno => absurd (by omega) hno⟩
          have hr1 : r.1 = ((k : Int), (5 : Int)) := by
            have hr' : m.rows[i]? = some r := hr
            simp only [TabM.owners, List.getElem?_map, hr', Option.map_some, Option.some.injEq] at hoi
            exact hoi
          have hr2 : r.2 = (List.range n.toNat).map fun (c : Nat) => wth.getD k 0 + c := by
            obtain ⟨j, hj, h1, h2⟩ := hN.row r (List.mem_of_getElem? hr)
            rw [hr1] at h1
            simp only [Prod.mk.injEq] at h1
            obtain rfl : k = j := by omega
            exact h2
          have hrl : r.2.length = n.toNat := by rw [hr2]; simp
          have hsl := h.len 5 rfl
          rw [hr1]
          refine h.nw (c := [_, _]) fun by_ w1 h => ?_
          refine h.st0 6 rfl (by simp) rfl fun w1 h => ?_
          refine h.st 6 rfl (by simp) rfl fun w1 h => ?_
          refine ⟨fun w' => Hp [] w w' [(tRd raw 1 iv xs).ro, tTab b m, tBlk bt 29 (bools thr), tBlk bw 30 (ints wth), tBlk bx 32 [.int .i64 k, .int .i64 5], tSl s 2 1 iv r.2], ?_, ?_⟩
          · refine ifF (by simp) ?_
            refine h.ld0 (k := .i .i64) 6 rfl rfl ?_
            refine h.ld (k := .i .i64) 6 rfl rfl ?_
            refine h.ld0 (k := .i .i64) 4 rfl rfl ?_
            refine h.ld (k := .i .i64) 4 rfl rfl ?_
            refine neEnt ?_
            refine ifF (by simp) ?_
            refine ifF (by simp; omega) ?_
            exact h.trim 6
          · rintro w1 h
            refine ⟨fun j2 mm w' => ∃ j : Nat, j2 = j ∧ j ≤ n.toNat ∧ mm = n.toNat - j ∧ Hp [] w w' [(tRd raw 1 iv xs).ro, tTab b m, tBlk bt 29 (bools thr), tBlk bw 30 (ints wth), tBlk bx 32 [.int .i64 k, .int .i64 5], tSl s 2 1 iv r.2], ⟨n.toNat, 0, rfl, by omega, rfl, h⟩, ?_⟩
            rintro j2 mm w4 ⟨j, rfl, hj, rfl, h⟩
            by_cases hjn : j < n.toNat
            · refine ifT (by simp; omega) ?_
              refine Column_spec h 1 hN.ok rfl fun c w1 => ⟨fun hc h => ?_, fun hno => absurd (by have := hN.eq; omega) hno⟩
              refine h.dr fun w1 h => ?_
              have hcl := h.len 6 rfl
              rw [TabM.col_len] at hcl
              refine ifF (by simp) ?_
              refine ifF (by simp; omega) ?_
              have hil' : i < (m.col j).length := by rw [TabM.col_len]; exact hil
              refine h.ixld (k := .i .i64) (y := (m.col j)[i]) (x := (m.col j)[i]) 6 rfl (by omega) (by simp) iv_len rfl ?_
              refine h.ixld (k := .i .i64) (y := r.2[j]) (x := r.2[j]) 5 rfl (by omega) (by simp [hrl, hjn]) iv_len rfl ?_
              have hcol : (m.col j)[i] = r.2[j] := by
                have hr' : m.rows[i]? = some r := hr
                have hri : m.rows[i] = r := by rw [List.getElem?_eq_getElem hil] at hr'; exact Option.some.inj hr'
                simp [TabM.col, hri, hrl, hjn]
              refine ifF (by rw [hcol]; simp) ?_
              refine h.ixld (k := .i .i64) (y := r.2[j]) (x := r.2[j]) 5 rfl (by omega) (by simp [hrl, hjn]) iv_len rfl ?_
              refine h.ixa (by omega) (by omega) ?_
              refine h.ldv (k := .i .i64) 3 rfl (ints_get (i := k) (by rw [hN.lw]; exact hlt)) ?_
              have hrng := hN.rng k hlt
              have hv : r.2[j] = wth.getD k 0 + j := by simp [hr2]
              refine ifF (by rw [hv, wr64 (by omega) (by omega)]; simp) ?_
              exact ⟨n.toNat - (j + 1), by omega, j + 1, by rw [wr64 (by omega) (by omega)]; omega, by omega, rfl, h.trim 6⟩
            · refine ifF (by simp; omega) ?_
              exact ⟨40 - (k + 1), by omega, k + 1, by rw [wr64 (by omega) (by omega)]; omega, by omega, rfl, h.trim 4⟩
        · refine ifT (by rw [ha]; simp) ?_
          exact ⟨40 - (k + 1), by omega, k + 1, by rw [wr64 (by omega) (by omega)]; omega, by omega, rfl, h.trim 4⟩
    · refine ifF (by simp; omega) ?_
      exact hK _ h.fr

end
end Go.Proofs.Ytfghoeojpnnkiaa.F
