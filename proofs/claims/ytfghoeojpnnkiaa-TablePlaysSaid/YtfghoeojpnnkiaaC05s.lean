/-
  Contracts of the reference of table: Remove, Clone.
-/
import Derived.Test.YtfghoeojpnnkiaaC05r
set_option linter.unusedSimpArgs false
set_option linter.unusedVariables false
namespace Go.Proofs.Ytfghoeojpnnkiaa.F
open Go Go.Den Go.Proofs

def lastIn {α : Type} (l : List α) (row n : Nat) : List α := match l[n - 1]? with
  | some x => (l.set row x).take (n - 1)
  | none => []

theorem lastIn_get {α : Type} {l : List α} {row n : Nat} (hl : l.length = n) (hn : 0 < n) {i : Nat} (hi : i < n - 1) : (lastIn l row n)[i]? = if i = row then l[n - 1]? else l[i]? := by
  unfold lastIn
  have h1 : l[n - 1]? = some l[n - 1] := List.getElem?_eq_getElem (by omega)
  rw [h1]
  dsimp only
  rw [List.getElem?_take, if_pos hi, List.getElem?_set]
  by_cases e : row = i
  · rw [if_pos e, if_pos e.symm, if_pos (by omega)]
  · rw [if_neg e, if_neg (fun h => e h.symm)]
theorem lastIn_len {α : Type} {l : List α} {row n : Nat} (hl : l.length = n) (hn : 0 < n) : (lastIn l row n).length = n - 1 := by
  unfold lastIn
  have h1 : l[n - 1]? = some l[n - 1] := List.getElem?_eq_getElem (by omega)
  rw [h1]
  simp; omega

theorem lastIn_ext {α : Type} {l a : List α} {row n : Nat} (hl : l.length = n) (hn : 0 < n) (ha : a.length = n - 1) (h : ∀ i, i < n - 1 → a[i]? = if i = row then l[n - 1]? else l[i]?) : a = lastIn l row n := by
  apply List.ext_getElem?
  intro i
  by_cases hi : i < n - 1
  · rw [lastIn_get hl hn hi, h i hi]
  · rw [List.getElem?_eq_none (by omega), List.getElem?_eq_none (by rw [lastIn_len hl hn]; omega)]

theorem zipWith_last {α β γ : Type} (f : α → β → γ) {a : List α} {b : List β} {row n : Nat} (ha : a.length = n) (hb : b.length = n) (hn : 0 < n) : List.zipWith f (lastIn a row n) (lastIn b row n) = lastIn (List.zipWith f a b) row n := by
  refine lastIn_ext (by simp [ha, hb]) hn (by simp [lastIn_len ha hn, lastIn_len hb hn]) fun i hi => ?_
  rw [List.getElem?_zipWith, lastIn_get ha hn hi, lastIn_get hb hn hi]
  by_cases e : i = row
  · simp only [if_pos e, List.getElem?_zipWith]
  · simp only [if_neg e, List.getElem?_zipWith]

theorem owners_del {m : TabM} (hpos : 0 < m.rows.length) (row : Nat) : (m.del row).owners = lastIn m.owners row m.rows.length :=
  lastIn_ext m.owners_len hpos (by rw [TabM.owners_len, TabM.del_len]) fun i hi => by rw [TabM.del_owners m row i hpos, if_pos hi]
theorem vals_del {m : TabM} (hpos : 0 < m.rows.length) (row : Nat) : vals (m.del row) = lastIn (vals m) row m.rows.length :=
  lastIn_ext (by simp [vals]) hpos (by simp [vals, TabM.del_len]) fun i hi => by
    unfold vals
    rw [List.getElem?_map, TabM.del_rows m row i hpos, if_pos hi]
    split <;> simp
theorem zipR_del {m : TabM} {vs : List Sl} (hv : vs.length = m.rows.length) (hpos : 0 < m.rows.length) (row : Nat) : zipR (m.del row) (lastIn vs row m.rows.length) = lastIn (zipR m vs) row m.rows.length := by
  unfold zipR
  rw [owners_del hpos, List.zip_eq_zipWith, zipWith_last _ m.owners_len hv hpos, List.zip_eq_zipWith]

theorem cols_del {vs : List Sl} {ls : List (List Int)} {row n : Nat} (hv : vs.length = n) (hl : ls.length = n) (hrow : row < n) {w : World} {O : List Nat} (h : (tCols vs ls).holds w O) : ∃ O', (tCols (lastIn vs row n) (lastIn ls row n)).holds w O' ∧ ∀ k ∈ O', k ∈ O := by
  have hn : 0 < n := by omega
  have hz : (List.zipWith tCol vs ls).length = n := by simp [hv, hl]
  unfold tCols at h ⊢
  rw [zipWith_last tCol hv hl hn]
  refine Hp.tAll_sel ((List.range (n - 1)).map fun i => if i = row then n - 1 else i) _ _ O ?_ ?_ ?_ h
  · refine List.pairwise_map.2 (List.nodup_range.imp_of_mem ?_)
    intro a b ha hb hne
    have h1 := List.mem_range.1 ha
    have h2 := List.mem_range.1 hb
    split <;> split <;> omega
  · rw [lastIn_len hz hn]; simp
  · intro k j hk
    rw [List.getElem?_map, Option.map_eq_some_iff] at hk
    obtain ⟨a, ha, rfl⟩ := hk
    obtain ⟨h1, h2⟩ := List.getElem?_eq_some_iff.1 ha
    simp only [List.length_range] at h1
    simp only [List.getElem_range] at h2
    subst h2
    rw [lastIn_get hz hn h1]
    by_cases e : k = row
    · rw [if_pos e, if_pos e]
      exact ⟨_, List.getElem?_eq_getElem (by omega), List.getElem?_eq_getElem (by omega)⟩
    · rw [if_neg e, if_neg e]
      exact ⟨_, List.getElem?_eq_getElem (by omega), List.getElem?_eq_getElem (by omega)⟩

section
variable {S : List Nat} {w0 w : World} {its : List Thing}

set_option maxHeartbeats 2000000 in
theorem RRemove_spec (h : Hp S w0 w its) (i : Nat) {b : Nat} {m : TabM} (hok : m.Ok) (hi : its[i]? = some (tRef b m)) {row : Int} {K : Int → Int → Bool → Int → World → Prop}
    (hK : ∀ w', Hp S w0 w' (its.set i (tRef b (m.delM row).1)) → K (m.delM row).2.1.1 (m.delM row).2.1.2 (m.delM row).2.2.1 (m.delM row).2.2.2 w') : c27 (some ⟨b, 0, none⟩) row w K := by
  refine c27_of ?_
  unfold f27
  obtain ⟨O, h1, back⟩ := h.f1 hi rfl
  refine h1.nw (c := [_, _]) fun ba w1 h1 => ?_
  have hr200 := hok.r200
  unfold TabM.delM at hK
  refine ⟨fun t w' => w' = w1 ∧ t = decide (¬ (0 ≤ row ∧ row < m.rows.length)), ?_, ?_⟩
  · obtain ⟨sl, vs, hn, h2⟩ := ref_see h1 0 rfl
    have hl := h2.len 1 rfl
    rw [zipR_len hn] at hl
    by_cases h0 : row < 0
    · exact ifT (by simpa using h0) ⟨rfl, by symm; simp; omega⟩
    · refine ifF (by simpa using h0) ?_
      refine nns ?_
      refine h2.ld (x := sl) 0 rfl rfl ?_
      refine ⟨rfl, ?_⟩
      by_cases h2 : row ≥ (sl.len : Int)
      · rw [decide_eq_true h2]; symm; simp; omega
      · rw [decide_eq_false h2]; symm; simp; omega
  rintro t w2 ⟨rfl, rfl⟩
  by_cases hr : 0 ≤ row ∧ row < m.rows.length
  · rw [if_pos hr] at hK
    refine ifF (by simp [hr]) ?_
    obtain ⟨sl, vs, hn, h1⟩ := ref_open h1 (i := 0) rfl
    have hl := h1.len 2 rfl
    rw [zipR_len hn] at hl
    have hpos : 0 < m.rows.length := by omega
    have hlast : IntKind.i64.wrap ((sl.len : Int) - 1) = (m.rows.length : Int) - 1 := by rw [wr64 (by omega) (by omega)]; omega
    rw [← hlast] at hK
    generalize hL : IntKind.i64.wrap ((sl.len : Int) - 1) = L at hlast hK
    have hLn : L.toNat = m.rows.length - 1 := by omega
    have hll : m.rows.length - 1 < m.rows.length := by omega
    have hvl : m.rows.length - 1 < vs.length := by omega
    have hzl : (zipR m vs)[L.toNat]? = some ((m.rows[m.rows.length - 1]).1, vs[m.rows.length - 1]) := by rw [hLn]; exact zipR_get hn hll
    refine nns ?_
    refine h1.ld (x := sl) 0 rfl rfl ?_
    rw [hL]
    refine nns ?_
    refine h1.ld (x := sl) 0 rfl rfl ?_
    refine h1.ixk 2 (u := tSl sl 83 3 rowc (zipR m vs)) rfl Hp.rdSl (by omega) (by rw [zipR_len hn]; omega) fun x hx => ?_
    refine h1.ldk0 2 (u := tSl sl 83 3 rowc (zipR m vs)) (k := .i .i64) (v := (m.rows[m.rows.length - 1]).1.1) rfl Hp.rdSl hx rowc_len hzl rfl ?_
    refine h1.ldk 2 (u := tSl sl 83 3 rowc (zipR m vs)) (k := .i .i64) (v := (m.rows[m.rows.length - 1]).1.2) rfl Hp.rdSl hx rowc_len hzl rfl ?_
    refine h1.ldk 2 (u := tSl sl 83 3 rowc (zipR m vs)) (v := vs[m.rows.length - 1]) rfl Hp.rdSl hx rowc_len hzl rfl ?_
    refine h1.nw (c := [_, _, _]) fun bx w1 h1 => ?_
    refine h1.st0 4 rfl (by simp) rfl fun w1 h1 => ?_
    refine h1.st 4 rfl (by simp) rfl fun w1 h1 => ?_
    refine h1.st 4 rfl (by simp) rfl fun w1 h1 => ?_
    simp only [List.cons_append, List.nil_append, List.set_cons_zero, List.set_cons_succ] at h1
    refine h1.nw (c := []) fun bb w1 h1 => ?_
    have h1 := h1.blkSl (i := 5) (m := 0) (l := ([] : List (Ent × Sl))) (f := rowc) (n := 3) rfl rfl rfl rowc_len
    refine nns ?_
    refine h1.ld (x := sl) 0 rfl rfl ?_
    have hcap := h1.cap 2 rfl
    refine Hp.cutv (s := sl) (Hp.rdSl (e := 83) (s := sl) (n := 3) (f := rowc) (l := zipR m vs)) (by rw [zipR_len hn]; omega) rowc_len (Int.le_refl 0) (by omega) (by omega) (by omega) (by omega) fun s' hs' hsl _ => ?_
    obtain ⟨inf, q1, q2, q3, q4⟩ := inf83
    refine h1.appS 5 2 (s := ⟨some ⟨bb, 0, none⟩, 0, 0⟩) rfl (u := tSl sl 83 3 rowc (zipR m vs)) rfl hs' rowc_len und77 q1 q3 q2 rfl (by simp [rowc, Value.oneCell']) (by rw [q4]; show (0 + s'.len) * 40 ≤ _; omega) (by show 0 + s'.len ≤ _; omega) fun s2 w1 h1 hs2 hs2n => ?_
    refine nns ?_
    refine h1.st 0 rfl (by simp) rfl fun w1 h1 => ?_
    have et : ([] : List (Ent × Sl)) ++ List.drop (0 : Int).toNat (List.take L.toNat (zipR m vs)) = List.take (m.rows.length - 1) (zipR m vs) := by rw [hLn]; rfl
    rw [et] at h1
    simp only [List.cons_append, List.nil_append, List.set_cons_zero, List.set_cons_succ] at h1
    have hcd : ∀ w O, (tCols vs (vals m)).holds w O → ∃ O', (tCols (lastIn vs row.toNat m.rows.length) (vals (m.del row.toNat))).holds w O' ∧ ∀ k ∈ O', k ∈ O := fun w O hO => by
      rw [vals_del hpos]
      exact cols_del hn (by simp [vals]) (by omega) hO
    have hvl' : (lastIn vs row.toNat m.rows.length).length = (m.del row.toNat).rows.length := by rw [lastIn_len hn hpos, TabM.del_len]
    have hge : (m.owners.getD (m.rows.length - 1) (0, 0)) = (m.rows[m.rows.length - 1]).1 := by simp [TabM.owners, hll]
    have hzlast : (zipR m vs)[m.rows.length - 1]? = some ((m.rows[m.rows.length - 1]).1, vs[m.rows.length - 1]) := zipR_get hn hll
    by_cases hrow : row = L
    · rw [if_pos hrow] at hK
      refine ifT (by simpa using hrow) ?_
      refine h1.st0 1 rfl (by simp) rfl fun w1 h1 => ?_
      refine h1.st 1 rfl (by simp) rfl fun w1 h1 => ?_
      refine h1.ld0 (k := .i .i64) 1 rfl rfl ?_
      refine h1.ld (k := .i .i64) 1 rfl rfl ?_
      simp only [List.cons_append, List.nil_append, List.set_cons_zero, List.set_cons_succ] at h1
      have h1 := h1.less (i := 3) rfl (tAll_own _) hcd (tAll_own _)
      have ez : List.take (m.rows.length - 1) (zipR m vs) = zipR (m.del row.toNat) (lastIn vs row.toNat m.rows.length) := by
        rw [zipR_del hn hpos]
        refine lastIn_ext (zipR_len hn) hpos (by rw [List.length_take, zipR_len hn]; omega) fun i hi => ?_
        rw [List.getElem?_take, if_pos hi, if_neg (by omega)]
      rw [ez] at h1
      simp only [List.cons_append, List.nil_append, List.set_cons_zero, List.set_cons_succ] at h1
      have h3 := back (rest := []) rfl rfl (ref_close (m := m.del row.toNat) (rest := []) hvl' (h1.sel3 0 5 3 (by decide) rfl rfl rfl))
      rw [List.append_nil] at h3
      exact hK w1 h3
    · rw [if_neg hrow, hge] at hK
      refine ifF (by simpa using hrow) ?_
      refine h1.dr fun w1 h1 => ?_
      refine nns ?_
      refine h1.ld (x := s2) 0 rfl rfl ?_
      refine h1.ld0 (k := .i .i64) 4 rfl rfl ?_
      refine h1.ld (k := .i .i64) 4 rfl rfl ?_
      refine h1.ld (x := vs[m.rows.length - 1]) 4 rfl rfl ?_
      refine h1.ixw 5 rfl hr.1 (by rw [List.length_take, zipR_len hn]; omega) rowc_len fun bq off c hoff h1 put => ?_
      refine h1.stv 5 rfl (by omega) rfl fun w1 h1 => ?_
      refine h1.stq 5 rfl (by simp; omega) rfl fun w1 h1 => ?_
      refine h1.stq 5 rfl (by simp; omega) rfl fun w1 h1 => ?_
      simp only [List.cons_append, List.nil_append, List.set_cons_zero, List.set_cons_succ] at h1
      have h1 := put ((m.rows[m.rows.length - 1]).1, vs[m.rows.length - 1]) h1 rfl
      refine h1.ld0 (k := .i .i64) 4 rfl rfl ?_
      refine h1.ld (k := .i .i64) 4 rfl rfl ?_
      refine h1.st0 1 rfl (by simp) rfl fun w1 h1 => ?_
      refine h1.st 1 rfl (by simp) rfl fun w1 h1 => ?_
      refine h1.ld0 (k := .i .i64) 1 rfl rfl ?_
      refine h1.ld (k := .i .i64) 1 rfl rfl ?_
      simp only [List.cons_append, List.nil_append, List.set_cons_zero, List.set_cons_succ] at h1
      have h1 := h1.less (i := 3) rfl (tAll_own _) hcd (tAll_own _)
      have ez : (List.take (m.rows.length - 1) (zipR m vs)).set row.toNat ((m.rows[m.rows.length - 1]).1, vs[m.rows.length - 1]) = zipR (m.del row.toNat) (lastIn vs row.toNat m.rows.length) := by
        rw [zipR_del hn hpos]
        refine lastIn_ext (zipR_len hn) hpos (by rw [List.length_set, List.length_take, zipR_len hn]; omega) fun i hi => ?_
        rw [List.getElem?_set]
        by_cases e : row.toNat = i
        · rw [if_pos e, if_pos e.symm, hzlast, if_pos (by rw [List.length_take, zipR_len hn]; omega)]
        · rw [if_neg e, if_neg (fun h => e h.symm), List.getElem?_take, if_pos hi]
      rw [ez] at h1
      simp only [List.cons_append, List.nil_append, List.set_cons_zero, List.set_cons_succ] at h1
      have h3 := back (rest := []) rfl rfl (ref_close (m := m.del row.toNat) (rest := []) hvl' (h1.sel3 0 5 3 (by decide) rfl rfl rfl))
      rw [List.append_nil] at h3
      exact hK w1 h3
  · rw [if_neg hr] at hK
    refine ifT (by simp; omega) ?_
    refine h1.st0 1 rfl (by simp) rfl fun w1 h1 => ?_
    refine h1.st 1 rfl (by simp) rfl fun w1 h1 => ?_
    refine h1.ld0 (k := .i .i64) 1 rfl rfl ?_
    refine h1.ld (k := .i .i64) 1 rfl rfl ?_
    have h3 := back (rest := []) rfl rfl (h1.sel1 0 rfl)
    rw [List.append_nil] at h3
    exact hK w1 h3

theorem RClone_spec (h : Hp S w0 w its) (i : Nat) {b : Nat} {m : TabM} (hok : m.Ok) (hi : (its[i]?).map Thing.holds = some (tRef b m).holds) {K : Option Addr → World → Prop}
    (hK : ∀ b' w', Hp S w0 w' (its ++ [tRef b' m]) → K (some ⟨b', 0, none⟩) w') : c28 (some ⟨b, 0, none⟩) w K := by
  refine c28_of ?_
  unfold f28
  obtain ⟨sl, vs, hn, h1⟩ := ref_see h i hi
  have hl := h1.len 1 rfl
  rw [zipR_len hn] at hl
  have hr200 := hok.r200
  have hn48 := hok.n48
  refine nns ?_
  refine h1.ld0 (x := (m.n : Int)) 0 rfl rfl ?_
  refine h1.nw (c := [_, _]) fun c w1 h1 => ?_
  have h1 := h1.nil 83 3 rowc
  have h1 := h1.grow (Fr.refl _ _) (t := tCols [] []) (O := []) rfl (by simp) rfl
  refine ⟨fun t mm w' => ∃ (k : Nat) (sn : Sl) (vn : List Sl), t = k ∧ k ≤ m.rows.length ∧ mm = m.rows.length - k ∧ vn.length = k ∧ Hp [] w w' [(tBlk b 79 [.int .i64 m.n, .slice sl.a sl.len sl.cap]).ro, (tSl sl 83 3 rowc (zipR m vs)).ro, (tCols vs (vals m)).ro,
      tBlk c 79 [.int .i64 m.n, .slice sn.a sn.len sn.cap], tSl sn 83 3 rowc (List.zip (m.owners.take k) vn), tCols vn ((vals m).take k)],
    ⟨m.rows.length, 0, ⟨none, 0, 0⟩, [], rfl, by omega, rfl, rfl, h1⟩, ?_⟩
  rintro t mm w2 ⟨k, sn, vn, rfl, hk, rfl, hvn, h1⟩
  refine nns ?_
  refine h1.ld (x := sl) 0 rfl rfl ?_
  by_cases hlt : k < m.rows.length
  · refine ifT (by simp; omega) ?_
    have hvl : k < vs.length := by omega
    refine h1.dr fun w1 h1 => ?_
    refine h1.ld (x := sn) 3 rfl rfl ?_
    refine nns ?_
    refine h1.ld (x := sl) 0 rfl rfl ?_
    refine h1.ixk 1 (u := tSl sl 83 3 rowc (zipR m vs)) rfl Hp.rdSl (by omega) (by rw [zipR_len hn]; exact hlt) fun x hx => ?_
    refine h1.ldk0 1 (u := tSl sl 83 3 rowc (zipR m vs)) (k := .i .i64) (v := (m.rows[k]).1.1) rfl Hp.rdSl hx rowc_len (zipR_get hn hlt) rfl ?_
    refine h1.ldk 1 (u := tSl sl 83 3 rowc (zipR m vs)) (k := .i .i64) (v := (m.rows[k]).1.2) rfl Hp.rdSl hx rowc_len (zipR_get hn hlt) rfl ?_
    refine nns ?_
    refine h1.ld (x := sl) 0 rfl rfl ?_
    refine h1.ixk 1 (u := tSl sl 83 3 rowc (zipR m vs)) rfl Hp.rdSl (by omega) (by rw [zipR_len hn]; exact hlt) fun x' hx' => ?_
    refine h1.ldk 1 (u := tSl sl 83 3 rowc (zipR m vs)) (v := vs[k]) rfl Hp.rdSl hx' rowc_len (zipR_get hn hlt) rfl ?_
    have h1 := col_see h1 2 rfl (List.getElem?_eq_getElem hvl) (vals_get hlt)
    have hlen := hok.len _ (List.getElem_mem hlt)
    refine copy_int h1 6 rfl (u := (tSl vs[k] 2 1 iv (m.rows[k]).2).ro) ⟨fun {w O} h => ⟨O, SlF.toR h⟩⟩ (by omega) fun s w1 h1 => ?_
    refine ⟨h1.celk0 1 (u := tSl sl 83 3 rowc (zipR m vs)) rfl Hp.rdSl hx rowc_len (zipR_get hn hlt) rfl, h1.celk 1 (u := tSl sl 83 3 rowc (zipR m vs)) rfl Hp.rdSl hx rowc_len (zipR_get hn hlt) rfl, h1.cel 0 rfl rfl, h1.cel 3 rfl rfl, ?_⟩
    have hsn := h1.len 4 rfl
    rw [List.length_zip, List.length_take, TabM.owners_len] at hsn
    obtain ⟨inf, q1, q2, q3, q4⟩ := inf83
    refine h1.nwapp (c := [_, _, _]) 4 ((m.rows[k]).1, s) rfl rowc_len und77 q1 q3 q2 rfl rfl (by simp [rowc, Value.oneCell']) (by rw [q4]; omega) (by omega) fun s2 w1 h1 hs2 _ => ?_
    refine h1.st 3 rfl (by simp) rfl fun w1 h1 => ?_
    have h1 := h1.join (i := 5) (j := 7) (c := tCols (vn ++ [s]) ((vals m).take (k + 1))) (by omega) rfl rfl (tAll_own _) rfl (tAll_own _) (fun w O1 O2 g1 g2 g3 => by
      have e : (vals m).take (k + 1) = (vals m).take k ++ [(m.rows[k]).2] := by
        rw [List.take_add_one, vals_get hlt]; rfl
      unfold tCols
      rw [e, tCols_push (by rw [List.length_take]; simp [vals]; omega)]
      exact tAll_append g1 (us := [tCol s (m.rows[k]).2]) ⟨O2, [], g2, rfl, by simp, by simp⟩ g3)
    have h1 := h1.trim 6
    have e2 : List.zip (m.owners.take k) vn ++ [((m.rows[k]).1, s)] = List.zip (m.owners.take (k + 1)) (vn ++ [s]) := by
      have e3 : m.owners.take (k + 1) = m.owners.take k ++ [(m.rows[k]).1] := by
        rw [List.take_add_one]
        congr 1
        simp [TabM.owners, hlt]
      rw [e3, List.zip_append (by rw [List.length_take, TabM.owners_len]; omega)]; rfl
    refine ⟨m.rows.length - (k + 1), by omega, k + 1, s2, vn ++ [s], by rw [wr64 (by omega) (by omega)]; omega, by omega, rfl, by simpa using hvn, ?_⟩
    rw [← e2]; exact h1
  · refine ifF (by simp; omega) ?_
    have hkn : k = m.rows.length := by omega
    have h2 := h1.sel3 3 4 5 (by decide) rfl rfl rfl
    rw [List.take_of_length_le (by rw [TabM.owners_len]; omega), List.take_of_length_le (by simp [vals]; omega)] at h2
    exact hK c _ (h.r0 rfl (ref_close (rest := []) (by omega) h2))

end
end Go.Proofs.Ytfghoeojpnnkiaa.F
