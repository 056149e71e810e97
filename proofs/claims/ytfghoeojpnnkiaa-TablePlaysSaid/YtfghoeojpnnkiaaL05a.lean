/-
  The walk of TableApart: what the law's own text computes is true.
-/
import Derived.Test.YtfghoeojpnnkiaaL05k
set_option linter.unusedSimpArgs false
set_option linter.unusedVariables false
namespace Go.Proofs.Ytfghoeojpnnkiaa.F
open Go Go.Den Go.Proofs

theorem addM_ok {m : TabM} (h : m.Ok) (e : Ent) (xs : List Int) : (m.addM e xs).1.Ok ∧ (m.addM e xs).1.n = m.n := by
  unfold TabM.addM
  split
  · exact ⟨h, rfl⟩
  · split
    · exact ⟨h, rfl⟩
    · split
      · exact ⟨h, rfl⟩
      · exact ⟨h.add (by omega) (by omega) (by assumption), rfl⟩

theorem delM_ok {m : TabM} (h : m.Ok) (row : Int) : (m.delM row).1.Ok ∧ (m.delM row).1.n = m.n := by
  unfold TabM.delM
  split
  · exact ⟨h.del (by omega), rfl⟩
  · exact ⟨h, rfl⟩

theorem setM_ok {m : TabM} (h : m.Ok) (row c x : Int) : (m.setM row c x).Ok ∧ (m.setM row c x).n = m.n := by
  unfold TabM.setM
  split
  · exact ⟨h.set _ _ _, rfl⟩
  · exact ⟨h, rfl⟩

set_option maxHeartbeats 1000000 in
theorem apart_spec {raw more : Sl} {xs ys : List Int} {oa ob : List Nat} {w : World} {K : Bool → World → Prop} (has : SlR w raw 1 iv xs oa) (hbs : SlR w more 1 iv ys ob)
    (hrange : ∀ a ∈ xs, -9223372036854775808 ≤ a ∧ a ≤ 9223372036854775807) (hrange2 : ∀ a ∈ ys, -9223372036854775808 ≤ a ∧ a ≤ 9223372036854775807)
    (hK : ∀ w', Fr [] w w' → K true w') : f4 raw more w K := by
  unfold f4
  refine shown_spec fun w1 f1 => ?_
  have h := (Hp.begin_ w).keep f1
  have h := h.addRo (t := tRd raw 1 iv xs) has (by simp)
  have h := h.addRo (t := tRd more 1 iv ys) hbs (by simp)
  have hxl := h.lenR (n := 1) (f := iv) (l := xs) (s := raw) 0 rfl
  have hyl := h.lenR (n := 1) (f := iv) (l := ys) (s := more) 1 rfl
  refine New_spec h (n := 1) (by omega) (by omega) fun b w1 h => ?_
  refine ifF (by simp) ?_
  refine ⟨fun i mm w' => ∃ (k : Nat) (m : TabM), i = k ∧ k ≤ raw.len ∧ k ≤ 100 ∧ mm = raw.len - k ∧ m.Ok ∧ m.n = 1 ∧ Hp [] w w' [(tRd raw 1 iv xs).ro, (tRd more 1 iv ys).ro, tTab b m],
    ⟨raw.len, 0, _, rfl, by omega, by omega, rfl, ⟨by simp, by simp, by simp [TabM.owners], by simp⟩, rfl, h⟩, ?_⟩
  rintro i mm w2 ⟨k, m, rfl, hk1, hk2, rfl, hok, hn, h⟩
  by_cases hlt : k < raw.len ∧ k < 100
  · refine ifT (by simp; omega) ?_
    have hkl : k < xs.length := by omega
    refine h.ixldR (k := .i .i64) (y := xs[k]) (x := xs[k]) 0 rfl (by omega) (by simp [hkl]) iv_len rfl ?_
    refine pick_spec (by omega) ?_
    generalize pk xs[k] 50 = r
    refine h.nw (c := [_]) fun bb w1 h => ?_
    have h := h.blkSl (i := 3) (m := 1) (l := [(k : Int)]) (f := iv) (n := 1) rfl rfl rfl iv_len
    refine Add_spec h 2 3 (by omega) hok rfl (e := (r, 1)) (vs := ⟨some ⟨bb, 0, none⟩, 1, 1⟩) rfl Hp.rdSl fun w1 h => ?_
    obtain ⟨q1, q2⟩ := addM_ok hok (r, 1) [(k : Int)]
    exact ⟨raw.len - (k + 1), by omega, k + 1, _, by rw [wr64 (by omega) (by omega)]; omega, by omega, by omega, rfl, q1, by rw [q2]; exact hn, h.trim 3⟩
  · refine ifF (by simp; omega) ?_
    refine Column_spec h 2 hok rfl fun was w1 => ⟨fun _ h => ?_, fun hno => absurd (by omega) hno⟩
    refine Clone_spec h 2 hok rfl fun bc w1 h => ?_
    refine ifF (by simp) ?_
    refine Column_spec h 4 hok rfl fun same w1 => ⟨fun _ h => ?_, fun hno => absurd (by omega) hno⟩
    have hr200 := hok.r200
    have hcl : (m.col (0 : Int).toNat).length = m.rows.length := TabM.col_len _ _
    generalize m.col (0 : Int).toNat = l0 at h hcl
    refine ⟨fun i mm w' => ∃ (k : Nat) (mt mc : TabM), i = k ∧ k ≤ more.len ∧ k ≤ 60 ∧ mm = more.len - k ∧ (mt.Ok ∧ mc.Ok ∧ mt.n = 1 ∧ mc.n = 1) ∧ Hp [] w w' [(tRd raw 1 iv xs).ro, (tRd more 1 iv ys).ro, tTab b mt, tSl was 2 1 iv l0, tTab bc mc, tSl same 2 1 iv l0],
      ⟨more.len, 0, m, m, rfl, by omega, by omega, rfl, ⟨hok, hok, hn, hn⟩, h⟩, ?_⟩
    rintro i mm w2 ⟨k, mt, mc, rfl, hk1, hk2, rfl, ⟨hokt, hokc, hnt, hnc⟩, h⟩
    by_cases hlt : k < more.len ∧ k < 60
    · refine ifT (by simp; omega) ?_
      have hkl : k < ys.length := by omega
      have hyk := hrange2 ys[k] (by simp)
      refine ⟨fun x2 w' => w' = w2 ∧ x2 = if (Int.tmod (k : Int) 2 == 1) = true then some ⟨b, 0, none⟩ else some ⟨bc, 0, none⟩, ⟨by omega, ?_⟩, ?_⟩
      · by_cases ho : (Int.tmod (k : Int) 2 == 1) = true
        · exact ifT ho ⟨rfl, by rw [if_pos ho]⟩
        · exact ifF ho ⟨rfl, by rw [if_neg ho]⟩
      rintro x2 w1 ⟨rfl, hx2⟩
      refine ⟨fun x2 w' => w' = w1 ∧ x2 = if (Int.tmod (k : Int) 2 == 1) = true then some ⟨bc, 0, none⟩ else some ⟨b, 0, none⟩, ⟨by omega, ?_⟩, ?_⟩
      · by_cases ho : (Int.tmod (k : Int) 2 == 1) = true
        · exact ifT ho ⟨rfl, by rw [if_pos ho]⟩
        · exact ifF ho ⟨rfl, by rw [if_neg ho]⟩
      rintro other w1' ⟨rfl, hoth⟩
      obtain ⟨bo, mo, bx, mx, rfl, rfl, hoko, hokx, hno, hnx, h, back⟩ : ∃ (bo : Nat) (mo : TabM) (bx : Nat) (mx : TabM), x2 = some ⟨bx, 0, none⟩ ∧ other = some ⟨bo, 0, none⟩ ∧ mo.Ok ∧ mx.Ok ∧ mo.n = 1 ∧ mx.n = 1 ∧
          Hp [] w w1' [(tRd raw 1 iv xs).ro, (tRd more 1 iv ys).ro, tTab bo mo, tSl was 2 1 iv l0, tTab bx mx, tSl same 2 1 iv l0] ∧
          ∀ w' mx', mx'.Ok → mx'.n = 1 → Hp [] w w' [(tRd raw 1 iv xs).ro, (tRd more 1 iv ys).ro, tTab bo mo, tSl was 2 1 iv l0, tTab bx mx', tSl same 2 1 iv l0] →
            ∃ mt mc : TabM, (mt.Ok ∧ mc.Ok ∧ mt.n = 1 ∧ mc.n = 1) ∧ Hp [] w w' [(tRd raw 1 iv xs).ro, (tRd more 1 iv ys).ro, tTab b mt, tSl was 2 1 iv l0, tTab bc mc, tSl same 2 1 iv l0] := by
        by_cases ho : (Int.tmod (k : Int) 2 == 1) = true
        · rw [if_pos ho] at hx2 hoth
          exact ⟨bc, mc, b, mt, hx2, hoth, hokc, hokt, hnc, hnt, h.sel6 0 1 4 3 2 5 (by decide) rfl rfl rfl rfl rfl rfl, fun w' mx' q1 q2 h => ⟨mx', mc, ⟨q1, hokc, q2, hnc⟩, h.sel6 0 1 4 3 2 5 (by decide) rfl rfl rfl rfl rfl rfl⟩⟩
        · rw [if_neg ho] at hx2 hoth
          exact ⟨b, mt, bc, mc, hx2, hoth, hokt, hokc, hnt, hnc, h, fun w' mx' q1 q2 h => ⟨mt, mx', ⟨hokt, q1, hnt, q2⟩, h⟩⟩
      refine Column_spec h 2 hoko rfl fun ahead w1 => ⟨fun _ h => ?_, fun hno' => absurd (by omega) hno'⟩
      refine Len_spec h 2 rfl ?_
      refine ⟨fun w' => ∃ mx' : TabM, mx'.Ok ∧ mx'.n = 1 ∧ Hp [] w w' [(tRd raw 1 iv xs).ro, (tRd more 1 iv ys).ro, tTab bo mo, tSl was 2 1 iv l0, tTab bx mx', tSl same 2 1 iv l0, tSl ahead 2 1 iv (mo.col (0 : Int).toNat)], ?_, ?_⟩
      · refine ⟨fun t w' => w' = w1 ∧ (t = true → 0 < mx.rows.length), ?_, ?_⟩
        · refine h.ixldR (k := .i .i64) (y := ys[k]) (x := ys[k]) 1 rfl (by omega) (by simp [hkl]) iv_len rfl ?_
          refine pick_spec (by omega) ?_
          generalize pk ys[k] 2 = r
          by_cases hr : r = 0
          · refine ifT (by simpa using hr) ?_
            refine Len_spec h 4 rfl ?_
            exact ⟨rfl, by simp⟩
          · refine ifF (by simpa using hr) ?_
            exact ⟨rfl, by simp⟩
        rintro t w1' ⟨rfl, ht⟩
        cases t with
        | true =>
          have hpos := ht rfl
          refine ifT rfl ?_
          refine h.dr fun w1 h => ?_
          refine h.ixrR 1 (n := 1) (f := iv) (y := ys[k]) rfl (by omega) (by simp [hkl]) iv_len fun a ha => ?_
          refine ldR0 (k := .i .i64) (x := ys[k]) (ha 0 (by omega)) rfl ?_
          refine ⟨by omega, ?_⟩
          refine Len_spec h 4 rfl ?_
          refine ⟨Addr.add_zero_cell ((ha 0 (by omega)).trans rfl), ?_⟩
          refine pick_spec (by omega) ?_
          generalize pk (IntKind.i64.wrap (Int.tdiv ys[k] 2)) (mx.rows.length : Int) = r
          refine Remove_spec h 4 hokx rfl fun w1 h => ?_
          obtain ⟨q1, q2⟩ := delM_ok hokx r
          exact ⟨_, q1, by rw [q2]; exact hnx, h⟩
        | false =>
          refine ifF (by simp) ?_
          refine h.ixldR (k := .i .i64) (y := ys[k]) (x := ys[k]) 1 rfl (by omega) (by simp [hkl]) iv_len rfl ?_
          refine pick_spec (by omega) ?_
          generalize pk ys[k] 90 = r
          refine h.nw (c := [_]) fun bb w1 h => ?_
          have h := h.blkSl (i := 7) (m := 1) (l := [IntKind.i64.wrap (0 - (k : Int))]) (f := iv) (n := 1) rfl rfl rfl iv_len
          refine Add_spec h 4 7 (by omega) hokx rfl (e := (r, 2)) (vs := ⟨some ⟨bb, 0, none⟩, 1, 1⟩) rfl Hp.rdSl fun w1 h => ?_
          obtain ⟨q1, q2⟩ := addM_ok hokx (r, 2) [IntKind.i64.wrap (0 - (k : Int))]
          refine Set_spec h 4 q1 rfl fun w1 h => ?_
          obtain ⟨q3, q4⟩ := setM_ok q1 0 0 12345
          exact ⟨_, q3, by rw [q4, q2]; exact hnx, h.trim 7⟩
      · rintro w1 ⟨mx', hokx', hnx', h⟩
        refine Column_spec h 2 hoko rfl fun behind w1 => ⟨fun _ h => ?_, fun hno' => absurd (by omega) hno'⟩
        refine Len_spec h 2 rfl ?_
        have hla := h.len 6 rfl
        have hlb := h.len 7 rfl
        have hcl' : (mo.col (0 : Int).toNat).length = mo.rows.length := TabM.col_len _ _
        have hr200' := hoko.r200
        refine ifF (by simp; omega) ?_
        refine ⟨fun j mm w' => ∃ l : Nat, j = l ∧ l ≤ mo.rows.length ∧ mm = mo.rows.length - l ∧ Hp [] w w' [(tRd raw 1 iv xs).ro, (tRd more 1 iv ys).ro, tTab bo mo, tSl was 2 1 iv l0, tTab bx mx', tSl same 2 1 iv l0, tSl ahead 2 1 iv (mo.col (0 : Int).toNat), tSl behind 2 1 iv (mo.col (0 : Int).toNat)], ⟨mo.rows.length, 0, rfl, by omega, rfl, h⟩, ?_⟩
        rintro j mm w3 ⟨l, rfl, hl, rfl, h⟩
        by_cases hln : l < mo.rows.length
        · refine ifT (by simp; omega) ?_
          refine h.dr fun w1 h => ?_
          have hlc : l < (mo.col (0 : Int).toNat).length := by omega
          refine h.ixld (k := .i .i64) (y := (mo.col (0 : Int).toNat)[l]) (x := (mo.col (0 : Int).toNat)[l]) 6 rfl (by omega) (by simp) iv_len rfl ?_
          refine h.ixld (k := .i .i64) (y := (mo.col (0 : Int).toNat)[l]) (x := (mo.col (0 : Int).toNat)[l]) 7 rfl (by omega) (by simp) iv_len rfl ?_
          refine ifF (by simp) ?_
          exact ⟨mo.rows.length - (l + 1), by omega, l + 1, by rw [wr64 (by omega) (by omega)]; omega, by omega, rfl, h⟩
        · refine ifF (by simp; omega) ?_
          obtain ⟨mt, mc, q, h⟩ := back _ mx' hokx' hnx' (h.trim 6)
          exact ⟨more.len - (k + 1), by omega, k + 1, mt, mc, by rw [wr64 (by omega) (by omega)]; omega, by omega, by omega, rfl, q, h⟩
    · refine ifF (by simp; omega) ?_
      have hla := h.len 3 rfl
      have hlb := h.len 5 rfl
      refine ifF (by simp; omega) ?_
      refine ⟨fun j mm w' => ∃ l : Nat, j = l ∧ l ≤ was.len ∧ mm = was.len - l ∧ Hp [] w w' [(tRd raw 1 iv xs).ro, (tRd more 1 iv ys).ro, tTab b mt, tSl was 2 1 iv l0, tTab bc mc, tSl same 2 1 iv l0], ⟨was.len, 0, rfl, by omega, rfl, h⟩, ?_⟩
      rintro j mm w3 ⟨l, rfl, hl, rfl, h⟩
      by_cases hln : l < was.len
      · refine ifT (by simp; omega) ?_
        refine h.dr fun w1 h => ?_
        have hlc : l < l0.length := by omega
        refine h.ixld (k := .i .i64) (y := l0[l]) (x := l0[l]) 3 rfl (by omega) (by simp) iv_len rfl ?_
        refine h.ixld (k := .i .i64) (y := l0[l]) (x := l0[l]) 5 rfl (by omega) (by simp) iv_len rfl ?_
        refine ifF (by simp) ?_
        exact ⟨was.len - (l + 1), by omega, l + 1, by rw [wr64 (by omega) (by omega)]; omega, by omega, rfl, h⟩
      · refine ifF (by simp; omega) ?_
        exact hK _ h.fr

end Go.Proofs.Ytfghoeojpnnkiaa.F
