/-
  Contracts of package table: what changes a table, and what comes out of it.
-/
import Derived.Test.YtfghoeojpnnkiaaM05
set_option linter.unusedSimpArgs false
set_option linter.unusedVariables false
namespace Go.Proofs.Ytfghoeojpnnkiaa.F
open Go Go.Den Go.Proofs

section
variable {S : List Nat} {w0 w : World} {its : List Thing}

/-- New. -/
theorem New_spec (h : Hp S w0 w its) {n : Int} (h0 : 0 ≤ n) (h48 : n ≤ 48) {K : Option Addr → Int → World → Prop} (hK : ∀ b w', Hp S w0 w' (its ++ [tTab b ⟨n.toNat, []⟩]) → K (some ⟨b, 0, none⟩) 0 w') : c8 n w K := by
  refine c8_of ?_
  unfold f8
  refine ifF (by simp; omega) ?_
  refine (Hp.begin_ w).mks (f := slv) (n := 1) (x0 := ⟨none, 0, 0⟩) slv_len rfl h0 (Int.le_refl _) (by omega) (by omega) fun s w h1 hl hc hn => ?_
  refine h1.nwMap fun bm w h1 => ?_
  refine h1.nw (c := [_, _, _]) fun b w h1 => ?_
  have h1 := h1.newMp (i := 1) entV (Value.int .i64) rfl
  have h1 := h1.nil 32 2 ent
  have h1 := h1.grow (Fr.refl _ _) (t := tCols (List.replicate n.toNat ⟨none, 0, 0⟩) (TabM.cols ⟨n.toNat, []⟩)) (O := []) (by
    unfold tCols TabM.cols
    have e : ∀ k : List Nat, (List.zipWith tCol (List.replicate k.length ⟨none, 0, 0⟩) (k.map (TabM.col ⟨n.toNat, []⟩))) = List.replicate k.length (tCol ⟨none, 0, 0⟩ []) := by
      intro k
      induction k with
      | nil => rfl
      | cons a k ih => simp [List.replicate_succ, ih, TabM.col]
    have := e (List.range n.toNat)
    simp only [List.length_range] at this
    show (tAll (List.zipWith tCol (List.replicate n.toNat ⟨none, 0, 0⟩) ((List.range n.toNat).map (TabM.col ⟨n.toNat, []⟩)))).holds _ _
    rw [this]
    generalize n.toNat = k
    induction k with
    | zero => rfl
    | succ k ih =>
      rw [List.replicate_succ]
      exact ⟨[], [], SlF.nil, ih, by simp, by simp⟩) (by simp) (tAll_own _)
  have h2 := h1.sel5 2 3 0 4 1 (by decide) rfl rfl rfl rfl rfl
  exact hK b w (h.r0 rfl (tab_close (m := ⟨n.toNat, []⟩) (so := ⟨none, 0, 0⟩) (sc := s) (bm := bm) (rest := []) (by simp) h2))

theorem New_bad {n : Int} (hn : n < 0 ∨ 48 < n) {K : Option Addr → Int → World → Prop} (hK : K none 1 w) : c8 n w K := by
  refine c8_of ?_
  unfold f8
  refine ifT ?_ hK
  by_cases h : n < 0
  · simp [h]
  · simp [h]; omega

/-- Set. -/
def TabM.setM (m : TabM) (row c x : Int) : TabM := if m.cellE row c = 0 then m.set row.toNat c.toNat x else m

theorem cellE_iff {m : TabM} {row c : Int} : m.cellE row c = 0 ↔ (0 ≤ row ∧ row < m.rows.length) ∧ 0 ≤ c ∧ c < m.n := by
  unfold TabM.cellE
  constructor
  · intro h
    split at h
    · split at h
      · exact ⟨‹_›, ‹_›⟩
      · cases h
    · cases h
  · rintro ⟨h1, h2⟩
    rw [if_pos h1, if_pos h2]

theorem Set_spec (h : Hp S w0 w its) (i : Nat) {b : Nat} {m : TabM} (hok : m.Ok) (hi : its[i]? = some (tTab b m)) {row c x : Int} {K : Int → World → Prop}
    (hK : ∀ w', Hp S w0 w' (its.set i (tTab b (m.setM row c x))) → K (m.cellE row c) w') : c16 (some ⟨b, 0, none⟩) row c x w K := by
  refine c16_of ?_
  unfold f16
  obtain ⟨O, h1, back⟩ := h.f1 hi rfl
  refine cell_spec h1 0 rfl ?_
  unfold TabM.setM at hK
  by_cases he : m.cellE row c = 0
  · rw [if_pos he] at hK
    refine ifT (by simp [he]) ?_
    obtain ⟨hr, hc⟩ := cellE_iff.1 he
    obtain ⟨so, sc, ss, bm, hn, h1⟩ := tab_open h1 (i := 0) rfl
    have hl := h1.len 2 rfl
    refine nns ?_
    refine h1.ld (x := sc) 0 rfl rfl ?_
    have hcs : c.toNat < ss.length := by omega
    refine h1.ixld (y := ss[c.toNat]) (x := ss[c.toNat]) 2 rfl hc.1 (by simp) slv_len rfl ?_
    have h1 := h1.pick (i := 3) rfl (tCols_get (List.getElem?_eq_getElem hcs) (m.cols_get (by omega))) rfl
    refine h1.ixst 5 rfl hr.1 (by rw [TabM.col_len]; omega) iv_len (y := x) rfl rfl fun w h1 => ?_
    have h1 := h1.unpick (i := 3) (j := 5) (k := c.toNat) (by omega) rfl rfl (by
      rw [List.getElem?_set_self]; exact (List.getElem?_eq_some_iff.1 (tCols_get (List.getElem?_eq_getElem hcs) (m.cols_get (by omega)))).1) rfl
    have h2 := h1.sel5 0 1 2 3 4 (by decide) rfl rfl rfl rfl rfl
    rw [List.set_set] at h2
    change Hp O _ _ [_, _, _, tAll ((List.zipWith tCol ss m.cols).set c.toNat (tCol ss[c.toNat] _)), _] at h2
    rw [tCols_set, List.set_getElem_self, ← TabM.set_cols hok (by omega), ← TabM.set_owners m row.toNat c.toNat x, ← TabM.set_at (m := m) row.toNat c.toNat x] at h2
    have h3 := back (rest := []) rfl rfl (tab_close (m := m.set row.toNat c.toNat x) (rest := []) hn h2)
    rw [List.append_nil] at h3
    have := hK w h3
    rw [he] at this ⊢
    exact this
  · rw [if_neg he] at hK
    refine ifF (by simpa using he) ?_
    have := hK w
    rw [Hp.set_same hi] at this
    exact this h

/-- slices.Clone. -/
theorem Clone21_spec (h : Hp S w0 w its) (i : Nat) {s : Sl} {l : List Int} (hi : (its[i]?).map Thing.holds = some (tSl s 2 1 iv l).holds) (hlen : l.length ≤ 1000000) {K : Sl → World → Prop} (hK : ∀ r w', Hp S w0 w' (its ++ [tSl r 2 1 iv l]) → K r w') : c21 s w K := by
  refine c21_of ?_
  unfold f21
  have hl := h.len i hi
  by_cases ha : s.a.isNone = true
  · refine ifT ha ?_
    obtain ⟨O, hO⟩ := h.see' hi
    have : l = [] := SlF.isNil hO (by simpa using ha)
    subst this
    exact hK _ _ (h.nil 2 1 iv)
  · refine ifF ha ?_
    have h1 := h.ro1 hi
    refine h1.nw (c := []) fun b w h1 => ?_
    have h1 := h1.blkSl (i := 1) (m := 0) (l := ([] : List Int)) (f := iv) (n := 1) rfl rfl rfl iv_len
    obtain ⟨inf, q1, q2, q3, q4⟩ := inf2
    refine h1.appS 1 0 (s := ⟨some ⟨b, 0, none⟩, 0, 0⟩) rfl rfl (u := (tSl s 2 1 iv l).ro) ⟨fun {w O} h => ⟨O, SlF.toR h⟩⟩ iv_len und34 q1 q3 q2 rfl (by simp [iv, Value.oneCell']) (by rw [q4]; show (0 + s.len) * 8 ≤ _; omega) (by show 0 + s.len ≤ _; omega) fun r w h1 hl' _ => ?_
    exact hK r w (h.r0 rfl (h1.sel1 1 rfl))

theorem Clone22_spec (h : Hp S w0 w its) (i : Nat) {s : Sl} {l : List Ent} (hi : (its[i]?).map Thing.holds = some (tSl s 32 2 ent l).holds) (hlen : l.length ≤ 1000000) {K : Sl → World → Prop} (hK : ∀ r w', Hp S w0 w' (its ++ [tSl r 32 2 ent l]) → K r w') : c22 s w K := by
  refine c22_of ?_
  unfold f22
  have hl := h.len i hi
  by_cases ha : s.a.isNone = true
  · refine ifT ha ?_
    obtain ⟨O, hO⟩ := h.see' hi
    have : l = [] := SlF.isNil hO (by simpa using ha)
    subst this
    exact hK _ _ (h.nil 32 2 ent)
  · refine ifF ha ?_
    have h1 := h.ro1 hi
    refine h1.nw (c := []) fun b w h1 => ?_
    have h1 := h1.blkSl (i := 1) (m := 0) (l := ([] : List Ent)) (f := ent) (n := 2) rfl rfl rfl ent_len
    obtain ⟨inf, q1, q2, q3, q4⟩ := inf32
    refine h1.appS 1 0 (s := ⟨some ⟨b, 0, none⟩, 0, 0⟩) rfl rfl (u := (tSl s 32 2 ent l).ro) ⟨fun {w O} h => ⟨O, SlF.toR h⟩⟩ ent_len und61 q1 q3 q2 rfl (by simp [ent, Value.oneCell']) (by rw [q4]; show (0 + s.len) * 16 ≤ _; omega) (by show 0 + s.len ≤ _; omega) fun r w h1 hl' _ => ?_
    exact hK r w (h.r0 rfl (h1.sel1 1 rfl))

/-- Column. -/
theorem Column_spec (h : Hp S w0 w its) (i : Nat) {b : Nat} {m : TabM} (hok : m.Ok) (hi : (its[i]?).map Thing.holds = some (tTab b m).holds) {c : Int} {K : Sl → Int → World → Prop}
    (hK : ∀ s w', (0 ≤ c ∧ c < m.n → Hp S w0 w' (its ++ [tSl s 2 1 iv (m.col c.toNat)]) → K s 0 w') ∧ (¬ (0 ≤ c ∧ c < m.n) → s = ⟨none, 0, 0⟩ → Hp S w0 w' its → K s 63 w')) : c14 (some ⟨b, 0, none⟩) c w K := by
  refine c14_of ?_
  unfold f14
  obtain ⟨so, sc, ss, bm, hn, h1⟩ := tab_see h i hi
  have hl := h1.len 2 rfl
  refine ⟨fun w' => w' = w ∧ 0 ≤ c ∧ c < m.n, ?_, ?_⟩
  · by_cases h0 : c < 0
    · exact ifT (by simpa using h0) ((hK _ _).2 (by omega) rfl h)
    · refine ifF (by simpa using h0) ?_
      refine nns ?_
      refine h1.ld (x := sc) 0 rfl rfl ?_
      by_cases hc : c ≥ (sc.len : Int)
      · exact ifT (by simpa using hc) ((hK _ _).2 (by omega) rfl h)
      · exact ifF (by simpa using hc) ⟨rfl, by omega, by omega⟩
  · rintro w' ⟨rfl, hc⟩
    refine nns ?_
    refine h1.ld (x := sc) 0 rfl rfl ?_
    have hcs : c.toNat < ss.length := by omega
    refine h1.ixld (y := ss[c.toNat]) (x := ss[c.toNat]) 2 rfl hc.1 (by simp) slv_len rfl ?_
    have h1 := col_see h1 3 rfl (List.getElem?_eq_getElem hcs) (m.cols_get (by omega))
    refine Clone21_spec h1 5 rfl (by rw [TabM.col_len]; have := hok.r200; omega) fun r w h1 => ?_
    exact (hK r w).1 hc (h.r0 rfl (h1.sel1 6 rfl))

/-- Row. -/
def TabM.rowV (m : TabM) (row k : Nat) : List Int := (List.range k).map fun c => (m.col c).getD row 0

theorem rowV_eq {m : TabM} (hok : m.Ok) {row : Nat} {r : Ent × List Int} (hr : m.rows[row]? = some r) : m.rowV row m.n = r.2 := by
  have hl := hok.len r (List.mem_of_getElem? hr)
  unfold TabM.rowV
  apply List.ext_getElem?
  intro c
  rw [List.getElem?_map]
  by_cases hc : c < m.n
  · rw [List.getElem?_range hc]
    simp only [TabM.col, Option.map_some, List.getD_eq_getElem?_getD, List.getElem?_map, hr, Option.getD_some]
    rw [List.getElem?_eq_getElem (by omega)]; rfl
  · rw [List.getElem?_eq_none (by simp; omega), List.getElem?_eq_none (by omega)]; rfl

theorem Row_spec (h : Hp S w0 w its) (i : Nat) {b : Nat} {m : TabM} (hok : m.Ok) (hi : (its[i]?).map Thing.holds = some (tTab b m).holds) {row : Int} {K : Int → Int → Sl → Int → World → Prop}
    (hK : ∀ s w', (∀ r, 0 ≤ row → m.rows[row.toNat]? = some r → Hp S w0 w' (its ++ [tSl s 2 1 iv r.2]) → K r.1.1 r.1.2 s 0 w') ∧ (¬ (0 ≤ row ∧ row < m.rows.length) → s = ⟨none, 0, 0⟩ → Hp S w0 w' its → K 0 0 s 50 w')) : c13 (some ⟨b, 0, none⟩) row w K := by
  refine c13_of ?_
  unfold f13
  obtain ⟨so, sc, ss, bm, hn, h1⟩ := tab_see h i hi
  have hl := h1.len 2 rfl
  have hlo := h1.len 1 rfl
  rw [TabM.owners_len] at hlo
  have hr200 := hok.r200
  have hn48 := hok.n48
  refine h1.nw (c := [_, _]) fun ba w1 h1 => ?_
  refine there_spec (h.keep h1.fr) i hi ?_
  by_cases hr : 0 ≤ row ∧ row < m.rows.length
  · refine ifF (by simp [hr]) ?_
    refine nns ?_
    refine h1.ld (x := sc) 0 rfl rfl ?_
    have h1 := h1.nil 2 1 iv
    refine ⟨fun out t mm w' => ∃ k : Nat, t = k ∧ k ≤ m.n ∧ mm = m.n - k ∧ Hp [] w w' [(tBlk b 63 [.slice so.a so.len so.cap, .slice sc.a sc.len sc.cap, .map (some bm)]).ro, (tSl so 32 2 ent m.owners).ro, (tSl sc 34 1 slv ss).ro, (tCols ss m.cols).ro, (tMp bm entV (Value.int .i64) (atI m)).ro, tBlk ba 32 [.int .i64 0, .int .i64 0], tSl out 2 1 iv (m.rowV row.toNat k)], ⟨m.n, 0, rfl, by omega, by omega, h1⟩, ?_⟩
    rintro out t mm w2 ⟨k, rfl, hk, rfl, h1⟩
    by_cases hlt : k < m.n
    · refine ifT (by simp; omega) ?_
      have hcs : k < ss.length := by omega
      refine h1.ixld (y := ss[k]) (x := ss[k]) 2 rfl (by omega) (by simp [hcs]) slv_len rfl ?_
      have h2 := col_see h1 3 rfl (List.getElem?_eq_getElem hcs) (m.cols_get hlt)
      have hrl : row.toNat < (m.col k).length := by rw [TabM.col_len]; omega
      refine h2.ixld (k := .i .i64) (y := (m.col k)[row.toNat]) (x := (m.col k)[row.toNat]) 7 rfl hr.1 (by simp) iv_len rfl ?_
      obtain ⟨inf, q1, q2, q3, q4⟩ := inf2
      have hol := h1.len 6 rfl
      have hol2 : (m.rowV row.toNat k).length = k := by simp [TabM.rowV]
      refine h1.nwapp (c := [_]) 6 (m.col k)[row.toNat] rfl iv_len und34 q1 q3 q2 rfl rfl (by simp [iv, Value.oneCell']) (by rw [q4]; omega) (by omega) fun out2 w h1 _ _ => ?_
      refine ⟨m.n - (k + 1), by omega, k + 1, by rw [wr64 (by omega) (by omega)]; omega, by omega, rfl, ?_⟩
      have e : m.rowV row.toNat (k + 1) = m.rowV row.toNat k ++ [(m.col k)[row.toNat]] := by
        unfold TabM.rowV
        rw [List.range_succ, List.map_append]
        simp [hrl]
      rw [e]; exact h1
    · refine ifF (by simp; omega) ?_
      have hkn : k = m.n := by omega
      subst hkn
      refine nns ?_
      refine h1.ld0 (x := so) 0 rfl rfl ?_
      have hlr : row.toNat < m.rows.length := by omega
      have ho : m.owners[row.toNat]? = some (m.rows[row.toNat]).1 := by simp [TabM.owners, hlr]
      refine h1.ixld2 (k := .i .i64) (k' := .i .i64) (y := (m.rows[row.toNat]).1) 1 rfl hr.1 ho ent_len rfl rfl ?_
      refine h1.st0 5 rfl (by simp) rfl fun w h1 => ?_
      refine h1.st 5 rfl (by simp) rfl fun w h1 => ?_
      refine h1.ld0 (k := .i .i64) 5 rfl rfl ?_
      refine h1.ld (k := .i .i64) 5 rfl rfl ?_
      refine (hK out w).1 _ hr.1 (List.getElem?_eq_getElem hlr) ?_
      rw [← rowV_eq hok (List.getElem?_eq_getElem hlr)]
      exact h.r0 rfl (h1.sel1 6 rfl)
  · refine ifT (by simp only [decide_eq_false hr]; rfl) ?_
    refine h1.st0 5 rfl (by simp) rfl fun w h1 => ?_
    refine h1.st 5 rfl (by simp) rfl fun w h1 => ?_
    refine h1.ld0 (k := .i .i64) 5 rfl rfl ?_
    refine h1.ld (k := .i .i64) 5 rfl rfl ?_
    exact (hK _ w).2 hr rfl (h.keep h1.fr)

/-- Add. -/
def TabM.addM (m : TabM) (e : Ent) (xs : List Int) : TabM × Int × Int :=
  if xs.length ≠ m.n then (m, 0, 63) else if e ∈ m.owners then (m, 0, 61) else if 200 ≤ m.rows.length then (m, 0, 40) else (m.add e xs, m.rows.length, 0)

/-- The columns when the first k of them have got their number. -/
def TabM.colsK (m : TabM) (xs : List Int) (k : Nat) : List (List Int) := (List.range m.n).map fun c => if c < k then m.col c ++ [xs.getD c 0] else m.col c

theorem colsK_get (m : TabM) (xs : List Int) {k : Nat} (h : k < m.n) : (m.colsK xs k)[k]? = some (m.col k) := by
  simp [TabM.colsK, h]
theorem colsK_zero (m : TabM) (xs : List Int) : m.colsK xs 0 = m.cols := by simp [TabM.colsK, TabM.cols]
theorem colsK_all (m : TabM) (e : Ent) (xs : List Int) : m.colsK xs m.n = (m.add e xs).cols := by
  unfold TabM.colsK TabM.cols
  refine List.map_congr_left fun c hc => ?_
  rw [if_pos (List.mem_range.1 hc), TabM.add_col]
theorem colsK_succ (m : TabM) (xs : List Int) {k : Nat} (h : k < m.n) : (m.colsK xs k).set k (m.col k ++ [xs.getD k 0]) = m.colsK xs (k + 1) := by
  unfold TabM.colsK
  apply List.ext_getElem?
  intro c
  rw [List.getElem?_set]
  simp only [List.getElem?_map, List.length_map, List.length_range]
  by_cases hc : c < m.n
  · rw [List.getElem?_range hc]
    by_cases e : k = c
    · subst e; simp [h]
    · simp only [if_neg e, Option.map_some]
      congr 1
      by_cases h1 : c < k
      · rw [if_pos h1, if_pos (by omega)]
      · rw [if_neg h1, if_neg (by omega)]
  · rw [List.getElem?_eq_none (by simp; omega), if_neg (by omega)]
    rfl

theorem Add_spec (h : Hp S w0 w its) (i j : Nat) (hij : i ≠ j) {b : Nat} {m : TabM} (hok : m.Ok) (hi : its[i]? = some (tTab b m)) {e : Ent} {u : Thing} {vs : Sl} {xs : List Int} (hj : its[j]? = some u) (hu : Hp.Reads u vs 1 iv xs) {K : Int → Int → World → Prop}
    (hK : ∀ w', Hp S w0 w' (its.set i (tTab b (m.addM e xs).1)) → K (m.addM e xs).2.1 (m.addM e xs).2.2 w') : c10 (some ⟨b, 0, none⟩) e.1 e.2 vs w K := by
  refine c10_of ?_
  unfold f10
  obtain ⟨Ou, hOu⟩ := h.see hj
  obtain ⟨o, hR⟩ := hu.rd hOu
  have hxl : xs.length = vs.len := hR.len
  obtain ⟨O, h1, back⟩ := h.f1r hij hi hj rfl
  obtain ⟨so, sc, ss, bm, hn, h1⟩ := tab_open h1 (i := 0) rfl
  have hlo := h1.len 2 rfl
  rw [TabM.owners_len] at hlo
  have hlc := h1.len 3 rfl
  have hr200 := hok.r200
  have hn48 := hok.n48
  refine h1.nw (c := [_, _]) fun be w1 h1 => ?_
  refine h1.dr fun w1 h1 => ?_
  refine nns ?_
  refine h1.ld (x := some bm) 0 rfl rfl ?_
  refine h1.ld0 (x := e.1) 6 rfl rfl ?_
  refine h1.ld (x := e.2) 6 rfl rfl ?_
  obtain ⟨inf, q1, q2, _⟩ := inf3
  refine Hp.lookup (kd := .i .i64) (vk := id) (z := (0 : Int)) (ek := entV) (g := atI m) (k := e) h1 5 rfl rfl und60 keyEnt q1 q2 (fun _ => rfl) ?_
  refine nns ?_
  refine h1.ld0 (x := so) 0 rfl rfl ?_
  refine nns ?_
  refine h1.ld (x := sc) 0 rfl rfl ?_
  have old : Hp S w0 w1 (its.set i (tTab b m)) := by
    have := back (rest := []) rfl rfl (tab_close (rest := []) hn (h1.sel5 0 2 3 4 5 (by decide) rfl rfl rfl rfl rfl))
    rwa [List.append_nil] at this
  unfold TabM.addM at hK
  by_cases c1 : xs.length ≠ m.n
  · rw [if_pos c1] at hK
    exact ifT (by simp; omega) (hK _ old)
  rw [if_neg c1] at hK
  refine ifF (by simp; omega) ?_
  by_cases c2 : e ∈ m.owners
  · rw [if_pos c2] at hK
    refine ifT ?_ (hK _ old)
    cases hg : atI m e with
    | none => exact absurd c2 (TabM.atI_none.1 hg)
    | some v => rfl
  rw [if_neg c2] at hK
  refine ifF (by rw [TabM.atI_none.2 c2]; simp) ?_
  by_cases c3 : 200 ≤ m.rows.length
  · rw [if_pos c3] at hK
    exact ifT (by simp; omega) (hK _ old)
  rw [if_neg c3] at hK
  refine ifF (by simp; omega) ?_
  have hxn : xs.length = m.n := by omega
  refine ⟨fun t mm w' => ∃ (k : Nat) (ss : List Sl), t = k ∧ k ≤ m.n ∧ mm = m.n - k ∧ ss.length = m.n ∧ Hp O w w' [tBlk b 63 [.slice so.a so.len so.cap, .slice sc.a sc.len sc.cap, .map (some bm)], u.ro, tSl so 32 2 ent m.owners, tSl sc 34 1 slv ss, tCols ss (m.colsK xs k), tMp bm entV (Value.int .i64) (atI m), tBlk be 32 [.int .i64 e.1, .int .i64 e.2]],
    ⟨m.n, 0, ss, rfl, by omega, rfl, hn, by rw [colsK_zero]; exact h1⟩, ?_⟩
  rintro t mm w ⟨k, ss, rfl, hk, rfl, hn, h1⟩
  by_cases hlt : k < m.n
  · refine ifT (by simp; omega) ?_
    refine h1.ixldU (k := .i .i64) (u := u) (y := xs[k]) (x := xs[k]) 1 rfl hu (by omega) (by simp [show k < xs.length by omega]) iv_len rfl ?_
    refine h1.dr fun w h1 => ?_
    refine nns ?_
    refine h1.ld (x := sc) 0 rfl rfl ?_
    refine nns ?_
    refine h1.ld (x := sc) 0 rfl rfl ?_
    refine h1.ixld (y := ss[k]) (x := ss[k]) 3 rfl (by omega) (by simp [hn, hlt]) slv_len rfl ?_
    have hcs : k < ss.length := by omega
    have hget := tCols_get (List.getElem?_eq_getElem hcs) (colsK_get m xs hlt)
    have h1 := h1.pick (i := 4) rfl hget rfl
    have hcl := h1.len 7 rfl
    rw [TabM.col_len] at hcl
    obtain ⟨inf, q1, q2, q3, q4⟩ := inf2
    refine h1.nwapp (c := [_]) 7 (xs[k]) rfl iv_len und34 q1 q3 q2 rfl rfl (by simp [iv, Value.oneCell']) (by rw [q4]; omega) (by omega) fun s w h1 _ _ => ?_
    refine ⟨h1.cel 0 rfl rfl, ?_⟩
    refine h1.ixst 3 rfl (by omega) (by simp; omega) slv_len (y := s) rfl rfl fun w h1 => ?_
    have h1 := h1.unpick (i := 4) (j := 7) (k := k) (by omega) rfl rfl (by
      rw [List.getElem?_set_self]; exact (List.getElem?_eq_some_iff.1 hget).1) rfl
    have h1 := h1.trim 7
    refine ⟨m.n - (k + 1), by omega, k + 1, ss.set k s, by rw [wr64 (by omega) (by omega)]; omega, by omega, rfl, by simpa using hn, ?_⟩
    have e : tCols (ss.set k s) (m.colsK xs (k + 1)) = tAll (((List.zipWith tCol ss (m.colsK xs k)).set k tEmp).set k (tCol s (m.col k ++ [xs[k]]))) := by
      rw [List.set_set, tCols_set]
      unfold tCols
      rw [← colsK_succ m xs hlt]
      have : xs.getD k 0 = xs[k] := by simp [show k < xs.length by omega]
      rw [this]
    rw [e]
    exact h1
  · refine ifF (by simp; omega) ?_
    have hkn : k = m.n := by omega
    subst hkn
    refine h1.dr fun w h1 => ?_
    refine nns ?_
    refine h1.ld0 (x := so) 0 rfl rfl ?_
    refine h1.ld0 (x := e.1) 6 rfl rfl ?_
    refine h1.ld (x := e.2) 6 rfl rfl ?_
    obtain ⟨inf, q1, q2, q3, q4⟩ := inf32
    refine h1.nwapp (c := [_, _]) 2 e rfl ent_len und61 q1 q3 q2 rfl rfl (by simp [ent, Value.oneCell']) (by rw [q4]; omega) (by omega) fun s w h1 _ _ => ?_
    refine nns ?_
    refine h1.st0 0 rfl (by simp) rfl fun w h1 => ?_
    refine h1.dr fun w h1 => ?_
    refine nns ?_
    refine h1.ld (x := some bm) 0 rfl rfl ?_
    refine h1.ld0 (x := e.1) 6 rfl rfl ?_
    refine h1.ld (x := e.2) 6 rfl rfl ?_
    refine Hp.update (ek := entV) (ev := Value.int .i64) (v := (m.rows.length : Int)) (k := e) h1 5 rfl rfl und60 keyEnt (by rw [hlo]) fun w h1 => ?_
    have h2 := h1.sel5 0 2 3 4 5 (by decide) rfl rfl rfl rfl rfl
    rw [TabM.add_at hok.nd c2 xs, colsK_all m e xs, ← TabM.add_owners m e xs] at h2
    have h3 := back (rest := []) rfl rfl (tab_close (m := m.add e xs) (rest := []) hn h2)
    rw [List.append_nil] at h3
    have := hK w h3
    rw [← hlo]
    exact this

end
end Go.Proofs.Ytfghoeojpnnkiaa.F
