/-
  Contracts of the reference of table: each answers as the same words on rows say.
-/
import Derived.Test.YtfghoeojpnnkiaaC05c
set_option linter.unusedSimpArgs false
set_option linter.unusedVariables false
namespace Go.Proofs.Ytfghoeojpnnkiaa.F
open Go Go.Den Go.Proofs

/-- A row's cells. -/
def rowc (x : Ent × Sl) : List Value := [.int .i64 x.1.1, .int .i64 x.1.2, .slice x.2.a x.2.len x.2.cap]
theorem rowc_len (x : Ent × Sl) : (rowc x).length = 3 := rfl
def zipR (m : TabM) (vs : List Sl) : List (Ent × Sl) := List.zip m.owners vs
def vals (m : TabM) : List (List Int) := m.rows.map (·.2)

def refI (b : Nat) (m : TabM) (sl : Sl) (vs : List Sl) : Thing :=
  tStar (tBlk b 79 [.int .i64 m.n, .slice sl.a sl.len sl.cap]) (tStar (tSl sl 83 3 rowc (zipR m vs)) (tCols vs (vals m)))
def tRef (b : Nat) (m : TabM) : Thing := tEx fun x : Sl × List Sl => tAnd (x.2.length = m.rows.length) (refI b m x.1 x.2)

theorem inf83 : ∃ inf : TypeInfo, Try.prog.info? 83 = some inf ∧ inf.zero = some (.agg #[.int .i64 0, .int .i64 0, .slice none 0 0]) ∧ inf.size = 3 ∧ inf.bytes = 40 := infoP (by kernel_rfl)
theorem und77 : Try.prog.underlying 77 = some (.slice 83) := by kernel_rfl

theorem zipR_len {m : TabM} {vs : List Sl} (h : vs.length = m.rows.length) : (zipR m vs).length = m.rows.length := by
  simp [zipR, TabM.owners_len, h]
theorem zipR_get {m : TabM} {vs : List Sl} (h : vs.length = m.rows.length) {i : Nat} (hi : i < m.rows.length) : (zipR m vs)[i]? = some ((m.rows[i]).1, vs[i]) := by
  simp [zipR, List.getElem?_zip_eq_some, TabM.owners, hi]
theorem vals_get {m : TabM} {i : Nat} (hi : i < m.rows.length) : (vals m)[i]? = some (m.rows[i]).2 := by simp [vals, hi]

section
variable {S : List Nat} {w0 w : World} {its : List Thing}

theorem ref_open (h : Hp S w0 w its) {i b : Nat} {m : TabM} (hi : its[i]? = some (tRef b m)) :
    ∃ sl vs, vs.length = m.rows.length ∧ Hp S w0 w (its.set i (tBlk b 79 [.int .i64 m.n, .slice sl.a sl.len sl.cap]) ++ [tSl sl 83 3 rowc (zipR m vs), tCols vs (vals m)]) := by
  have hl := (List.getElem?_eq_some_iff.1 hi).1
  obtain ⟨⟨sl, vs⟩, h⟩ := h.openEx hi (fun _ => rfl)
  obtain ⟨hn, h⟩ := h.openAnd (i := i) (by simp [hl]; rfl) rfl
  have h := h.split (i := i) (by simp [hl]; rfl) rfl rfl
  have e1 : ∀ (l : List Thing) (t : Thing), (l ++ [t])[l.length]? = some t := fun l t => by simp
  have h := h.split (e1 _ _) rfl (tAll_own _)
  simp only [List.set_append_right _ _ (Nat.le_refl _), Nat.sub_self, List.set_cons_zero] at h
  exact ⟨sl, vs, hn, by simpa using h⟩

theorem ref_close {b : Nat} {m : TabM} {sl : Sl} {vs : List Sl} {rest : List Thing} (hn : vs.length = m.rows.length)
    (h : Hp S w0 w (tBlk b 79 [.int .i64 m.n, .slice sl.a sl.len sl.cap] :: tSl sl 83 3 rowc (zipR m vs) :: tCols vs (vals m) :: rest)) : Hp S w0 w (tRef b m :: rest) := by
  have h := h.joinStar (i := 1) (j := 2) (by omega) rfl rfl rfl (tAll_own _)
  have h := h.joinStar (i := 0) (j := 1) (by omega) rfl rfl rfl rfl
  have h := h.putAnd (i := 0) hn rfl rfl
  have h := h.putEx (f := fun x : Sl × List Sl => tAnd (x.2.length = m.rows.length) (refI b m x.1 x.2)) (i := 0) (sl, vs) rfl rfl
  have h : Hp S w0 w (tRef b m :: tEmp :: tEmp :: rest) := h
  exact h.drop1.drop1

theorem ref_see (h : Hp S w0 w its) (i : Nat) {b : Nat} {m : TabM} (hi : (its[i]?).map Thing.holds = some (tRef b m).holds) :
    ∃ sl vs, vs.length = m.rows.length ∧ Hp [] w w [(tBlk b 79 [.int .i64 m.n, .slice sl.a sl.len sl.cap]).ro, (tSl sl 83 3 rowc (zipR m vs)).ro, (tCols vs (vals m)).ro] := by
  obtain ⟨O, ⟨sl, vs⟩, hn, O1, O2, h1, ⟨O3, O4, h2, h3, _⟩, _⟩ := h.see' hi
  exact ⟨sl, vs, hn, (((Hp.init w).addRo h1 (by simp)).addRo h2 (by simp)).addRo h3 (by simp)⟩

/-- append([]int64{}, v...): a copy. -/
theorem copy_int (h : Hp S w0 w its) (j : Nat) {u : Thing} {v : Sl} {xs : List Int} (hj : its[j]? = some u) (hu : Hp.Reads u v 1 iv xs) (hlen : xs.length ≤ 1000000) {K : Sl → World → Prop} (hK : ∀ s w', Hp S w0 w' (its ++ [tSl s 2 1 iv xs]) → K s w') :
    Nw (.cells #[] 2) w fun b w => Run .sl Try.prog (Builtin.append_ #[34, 34] 34 #[.slice (some b) 0 0, .slice v.a v.len v.cap]) w K := by
  have hl := h.lenU j (by rw [hj]; rfl) hu
  have hlt := (List.getElem?_eq_some_iff.1 hj).1
  refine h.nw (c := []) fun b w h => ?_
  have h := h.blkSl (i := its.length) (m := 0) (l := ([] : List Int)) (f := iv) (n := 1) List.getElem?_concat_length rfl rfl iv_len
  rw [List.set_append_right _ _ (Nat.le_refl _), Nat.sub_self, List.set_cons_zero] at h
  obtain ⟨inf, q1, q2, q3, q4⟩ := inf2
  refine h.appS its.length j (s := ⟨some ⟨b, 0, none⟩, 0, 0⟩) List.getElem?_concat_length (u := u) (by rw [List.getElem?_append_left hlt]; exact hj) hu iv_len und34 q1 q3 q2 rfl (by simp [iv, Value.oneCell']) (by rw [q4]; show (0 + v.len) * 8 ≤ _; omega) (by show 0 + v.len ≤ _; omega) fun r w h hl' _ => ?_
  rw [List.set_append_right _ _ (Nat.le_refl _), Nat.sub_self, List.set_cons_zero] at h
  exact hK r w h

theorem RNew_spec (h : Hp S w0 w its) {n : Int} (h0 : 0 ≤ n) (h48 : n ≤ 48) {K : Option Addr → Int → World → Prop} (hK : ∀ b w', Hp S w0 w' (its ++ [tRef b ⟨n.toNat, []⟩]) → K (some ⟨b, 0, none⟩) 0 w') : c25 n w K := by
  refine c25_of ?_
  unfold f25
  refine ifF (by simp; omega) ?_
  refine (Hp.begin_ w).nw (c := [_, _]) fun b w1 h1 => ?_
  have h1 := h1.nil 83 3 rowc
  have h1 := h1.grow (Fr.refl _ _) (t := tCols [] []) (O := []) rfl (by simp) rfl
  have e : (n : Int) = ((n.toNat : Nat) : Int) := by omega
  refine hK b w1 (h.r0 rfl (ref_close (m := ⟨n.toNat, []⟩) (sl := ⟨none, 0, 0⟩) (vs := []) (rest := []) rfl ?_))
  show Hp [] w w1 [tBlk b 79 [.int .i64 ((n.toNat : Nat) : Int), .slice none 0 0], _, _]
  rw [← e]
  exact h1

theorem RNew_bad {n : Int} (hn : n < 0 ∨ 48 < n) {K : Option Addr → Int → World → Prop} (hK : K none 1 w) : c25 n w K := by
  refine c25_of ?_
  unfold f25
  refine ifT ?_ hK
  by_cases h : n < 0
  · simp [h]
  · simp [h]; omega

theorem RLen_spec (h : Hp S w0 w its) (i : Nat) {b : Nat} {m : TabM} (hi : (its[i]?).map Thing.holds = some (tRef b m).holds) {K : Int → World → Prop} (hK : K m.rows.length w) : c38 (some ⟨b, 0, none⟩) w K := by
  refine c38_of ?_
  unfold f38
  obtain ⟨sl, vs, hn, h⟩ := ref_see h i hi
  have hl := h.len 1 rfl
  rw [zipR_len hn] at hl
  refine nns ?_
  refine h.ld (x := sl) 0 rfl rfl ?_
  rw [← hl]; exact hK

/-- at. -/
theorem rat_spec (h : Hp S w0 w its) (i : Nat) {b : Nat} {m : TabM} (hi : (its[i]?).map Thing.holds = some (tRef b m).holds) {row c : Int} {K : Int → World → Prop} (hK : K (m.cellE row c) w) : c39 (some ⟨b, 0, none⟩) row c w K := by
  refine c39_of ?_
  unfold f39
  obtain ⟨sl, vs, hn, h⟩ := ref_see h i hi
  have hl := h.len 1 rfl
  rw [zipR_len hn] at hl
  unfold TabM.cellE at hK
  refine ⟨fun w' => w' = w ∧ 0 ≤ row ∧ row < m.rows.length, ?_, ?_⟩
  · by_cases h0 : row < 0
    · rw [if_neg (by omega)] at hK
      exact ifT (by simpa using h0) hK
    · refine ifF (by simpa using h0) ?_
      refine nns ?_
      refine h.ld (x := sl) 0 rfl rfl ?_
      by_cases h1 : row ≥ (sl.len : Int)
      · rw [if_neg (by omega)] at hK
        exact ifT (by simpa using h1) hK
      · exact ifF (by simpa using h1) ⟨rfl, by omega, by omega⟩
  · rintro w' ⟨rfl, hr⟩
    rw [if_pos hr] at hK
    by_cases h0 : c < 0
    · rw [if_neg (by omega)] at hK
      exact ifT (by simpa using h0) hK
    · refine ifF (by simpa using h0) ?_
      refine nns ?_
      refine h.ld0 (x := (m.n : Int)) 0 rfl rfl ?_
      by_cases h1 : c ≥ (m.n : Int)
      · rw [if_neg (by omega)] at hK
        exact ifT (by simpa using h1) hK
      · rw [if_pos (by omega)] at hK
        exact ifF (by simpa using h1) hK

theorem col_getD {m : TabM} {i c : Nat} (hi : i < m.rows.length) : (m.col c).getD i 0 = (m.rows[i]).2.getD c 0 := by
  simp [TabM.col, hi]

theorem RGet_spec (h : Hp S w0 w its) (i : Nat) {b : Nat} {m : TabM} (hok : m.Ok) (hi : (its[i]?).map Thing.holds = some (tRef b m).holds) {row c : Int} {K : Int → Int → World → Prop}
    (hK : if m.cellE row c = 0 then K ((m.col c.toNat).getD row.toNat 0) 0 w else K 0 (m.cellE row c) w) : c32 (some ⟨b, 0, none⟩) row c w K := by
  refine c32_of ?_
  unfold f32
  refine rat_spec h i hi ?_
  obtain ⟨sl, vs, hn, h⟩ := ref_see h i hi
  by_cases he : m.cellE row c = 0
  · rw [if_pos he] at hK
    refine ifF (by simp [he]) ?_
    obtain ⟨hr, hc⟩ := cellE_iff.1 he
    have hrl : row.toNat < m.rows.length := by omega
    have hvl : row.toNat < vs.length := by omega
    refine nns ?_
    refine h.ld (x := sl) 0 rfl rfl ?_
    refine h.ixk 1 (u := tSl sl 83 3 rowc (zipR m vs)) rfl Hp.rdSl hr.1 (by rw [zipR_len hn]; exact hrl) fun x hx => ?_
    refine h.ldk 1 (u := tSl sl 83 3 rowc (zipR m vs)) (v := vs[row.toNat]) rfl Hp.rdSl hx rowc_len (zipR_get hn hrl) rfl ?_
    have h := col_see h 2 rfl (List.getElem?_eq_getElem hvl) (vals_get hrl)
    have hlen := hok.len _ (List.getElem_mem hrl)
    have hcl : c.toNat < (m.rows[row.toNat]).2.length := by omega
    refine h.ixld (k := .i .i64) (y := (m.rows[row.toNat]).2[c.toNat]) (x := (m.rows[row.toNat]).2[c.toNat]) 3 rfl hc.1 (by simp) iv_len rfl ?_
    rw [col_getD hrl] at hK
    have e : (m.rows[row.toNat]).2.getD c.toNat 0 = (m.rows[row.toNat]).2[c.toNat] := by simp [hcl]
    rw [← e]; exact hK
  · rw [if_neg he] at hK
    exact ifT (by simpa using he) hK

/-- Find. -/
theorem RFind_spec (h : Hp S w0 w its) (i : Nat) {b : Nat} {m : TabM} (hok : m.Ok) (hi : (its[i]?).map Thing.holds = some (tRef b m).holds) {e : Ent} {K : Int → World → Prop} (hK : ∀ w', Hp S w0 w' its → K ((atI m e).getD (-1)) w') : c37 (some ⟨b, 0, none⟩) e.1 e.2 w K := by
  refine c37_of ?_
  unfold f37
  obtain ⟨sl, vs, hn, h1⟩ := ref_see h i hi
  have hl := h1.len 1 rfl
  rw [zipR_len hn] at hl
  have hr200 := hok.r200
  refine h1.nw (c := [_, _]) fun be w1 h1 => ?_
  refine ⟨fun t mm w' => ∃ k : Nat, t = k ∧ k ≤ m.rows.length ∧ mm = m.rows.length - k ∧ (∀ j, j < k → m.owners[j]? ≠ some e) ∧ Hp [] w w' [(tBlk b 79 [.int .i64 m.n, .slice sl.a sl.len sl.cap]).ro, (tSl sl 83 3 rowc (zipR m vs)).ro, (tCols vs (vals m)).ro, tBlk be 32 [.int .i64 e.1, .int .i64 e.2]],
    ⟨m.rows.length, 0, rfl, by omega, rfl, by omega, h1⟩, ?_⟩
  rintro t mm w2 ⟨k, rfl, hk, rfl, hno, h1⟩
  refine nns ?_
  refine h1.ld (x := sl) 0 rfl rfl ?_
  by_cases hlt : k < m.rows.length
  · refine ifT (by simp; omega) ?_
    refine h1.dr fun w1 h1 => ?_
    refine nns ?_
    refine h1.ld (x := sl) 0 rfl rfl ?_
    refine h1.ixk 1 (u := tSl sl 83 3 rowc (zipR m vs)) rfl Hp.rdSl (by omega) (by rw [zipR_len hn]; exact hlt) fun x hx => ?_
    refine h1.ldk0 1 (u := tSl sl 83 3 rowc (zipR m vs)) (k := .i .i64) (v := (m.rows[k]).1.1) rfl Hp.rdSl hx rowc_len (zipR_get hn hlt) rfl ?_
    refine h1.ldk 1 (u := tSl sl 83 3 rowc (zipR m vs)) (k := .i .i64) (v := (m.rows[k]).1.2) rfl Hp.rdSl hx rowc_len (zipR_get hn hlt) rfl ?_
    refine h1.ld0 (x := e.1) 3 rfl rfl ?_
    refine h1.ld (x := e.2) 3 rfl rfl ?_
    refine eqEnt ?_
    have hok' : m.owners[k]? = some (m.rows[k]).1 := by simp [TabM.owners, hlt]
    by_cases he : (m.rows[k]).1 = e
    · refine ifT (by rw [he]; simp) ?_
      have : atI m e = some (k : Int) := (TabM.atI_iff hok.nd).2 (by rw [← he]; exact hok')
      have h2 := hK w1 (h.keep h1.fr)
      rw [this] at h2
      exact h2
    · refine ifF ?_ ?_
      · intro hb
        simp only [Bool.and_eq_true, beq_iff_eq] at hb
        exact he (Prod.ext hb.1 hb.2)
      · refine ⟨m.rows.length - (k + 1), by omega, k + 1, by rw [wr64 (by omega) (by omega)]; omega, by omega, rfl, ?_, h1⟩
        intro j hj
        by_cases hjk : j = k
        · subst hjk
          rw [hok']
          intro h; exact he (Option.some.inj h)
        · exact hno j (by omega)
  · refine ifF (by simp; omega) ?_
    have : atI m e = none := by
      refine TabM.atI_none.2 fun hm => ?_
      obtain ⟨j, hj⟩ := List.getElem?_of_mem hm
      have hjl := (List.getElem?_eq_some_iff.1 hj).1
      rw [TabM.owners_len] at hjl
      exact hno j (by omega) hj
    have h2 := hK w2 (h.keep h1.fr)
    rw [this] at h2
    exact h2

theorem zipR_add (m : TabM) {vs : List Sl} (h : vs.length = m.rows.length) (e : Ent) (xs : List Int) (s : Sl) : zipR (m.add e xs) (vs ++ [s]) = zipR m vs ++ [(e, s)] := by
  unfold zipR
  rw [TabM.add_owners, List.zip_append (by rw [TabM.owners_len, h])]
  rfl
theorem vals_add (m : TabM) (e : Ent) (xs : List Int) : vals (m.add e xs) = vals m ++ [xs] := by simp [vals, TabM.add]

theorem zipR_set (m : TabM) (vs : List Sl) (row c : Nat) (x : Int) : zipR (m.set row c x) vs = zipR m vs := by
  unfold zipR
  rw [TabM.set_owners]
theorem vals_set (m : TabM) {row c : Nat} (hr : row < m.rows.length) (x : Int) : vals (m.set row c x) = (vals m).set row ((m.rows[row]).2.set c x) := by
  unfold vals TabM.set
  apply List.ext_getElem?
  intro i
  rw [List.getElem?_map, List.getElem?_modify, List.getElem?_set, List.getElem?_map]
  by_cases e : row = i
  · subst e; simp [hr]
  · simp [e]

theorem RSet_spec (h : Hp S w0 w its) (i : Nat) {b : Nat} {m : TabM} (hok : m.Ok) (hi : its[i]? = some (tRef b m)) {row c x : Int} {K : Int → World → Prop}
    (hK : ∀ w', Hp S w0 w' (its.set i (tRef b (m.setM row c x))) → K (m.cellE row c) w') : c33 (some ⟨b, 0, none⟩) row c x w K := by
  refine c33_of ?_
  unfold f33
  obtain ⟨O, h1, back⟩ := h.f1 hi rfl
  refine rat_spec h1 0 rfl ?_
  unfold TabM.setM at hK
  by_cases he : m.cellE row c = 0
  · rw [if_pos he] at hK
    refine ifT (by simp [he]) ?_
    obtain ⟨hr, hc⟩ := cellE_iff.1 he
    obtain ⟨sl, vs, hn, h1⟩ := ref_open h1 (i := 0) rfl
    have hrl : row.toNat < m.rows.length := by omega
    have hvl : row.toNat < vs.length := by omega
    refine nns ?_
    refine h1.ld (x := sl) 0 rfl rfl ?_
    refine h1.ixk 1 (u := tSl sl 83 3 rowc (zipR m vs)) rfl Hp.rdSl hr.1 (by rw [zipR_len hn]; exact hrl) fun x' hx => ?_
    refine h1.ldk 1 (u := tSl sl 83 3 rowc (zipR m vs)) (v := vs[row.toNat]) rfl Hp.rdSl hx rowc_len (zipR_get hn hrl) rfl ?_
    have hget := tCols_get (List.getElem?_eq_getElem hvl) (vals_get hrl)
    have h1 := h1.pick (i := 2) rfl hget rfl
    have hlen := hok.len _ (List.getElem_mem hrl)
    refine h1.ixst 3 rfl hc.1 (by omega) iv_len (y := x) rfl rfl fun w h1 => ?_
    have h1 := h1.unpick (i := 2) (j := 3) (k := row.toNat) (by omega) rfl rfl (by
      rw [List.getElem?_set_self]; exact (List.getElem?_eq_some_iff.1 hget).1) rfl
    have h2 := h1.trim 3
    change Hp O _ _ [tBlk b 79 [.int .i64 m.n, .slice sl.a sl.len sl.cap], tSl sl 83 3 rowc (zipR m vs), tAll (((List.zipWith tCol vs (vals m)).set row.toNat tEmp).set row.toNat (tCol vs[row.toNat] ((m.rows[row.toNat]).2.set c.toNat x)))] at h2
    rw [List.set_set, tCols_set, List.set_getElem_self, ← vals_set m hrl x, ← zipR_set m vs row.toNat c.toNat x] at h2
    have h3 := back (rest := []) rfl rfl (ref_close (m := m.set row.toNat c.toNat x) (rest := []) (by rw [hn]; simp [TabM.set]) h2)
    rw [List.append_nil] at h3
    have := hK w h3
    rw [he] at this ⊢
    exact this
  · rw [if_neg he] at hK
    refine ifF (by simpa using he) ?_
    have := hK w
    rw [Hp.set_same hi] at this
    exact this h

theorem RRow_spec (h : Hp S w0 w its) (i : Nat) {b : Nat} {m : TabM} (hok : m.Ok) (hi : (its[i]?).map Thing.holds = some (tRef b m).holds) {row : Int} {K : Int → Int → Sl → Int → World → Prop}
    (hK : ∀ s w', (∀ r, 0 ≤ row → m.rows[row.toNat]? = some r → Hp S w0 w' (its ++ [tSl s 2 1 iv r.2]) → K r.1.1 r.1.2 s 0 w') ∧ (¬ (0 ≤ row ∧ row < m.rows.length) → s = ⟨none, 0, 0⟩ → Hp S w0 w' its → K 0 0 s 50 w')) : c34 (some ⟨b, 0, none⟩) row w K := by
  refine c34_of ?_
  unfold f34
  obtain ⟨sl, vs, hn, h1⟩ := ref_see h i hi
  have hl := h1.len 1 rfl
  rw [zipR_len hn] at hl
  have hn48 := hok.n48
  refine h1.nw (c := [_, _]) fun ba w1 h1 => ?_
  refine ⟨fun t w' => w' = w1 ∧ t = decide (¬ (0 ≤ row ∧ row < m.rows.length)), ?_, ?_⟩
  · by_cases h0 : row < 0
    · exact ifT (by simpa using h0) ⟨rfl, by symm; simp; omega⟩
    · refine ifF (by simpa using h0) ?_
      refine nns ?_
      refine h1.ld (x := sl) 0 rfl rfl ?_
      refine ⟨rfl, ?_⟩
      by_cases h2 : row ≥ (sl.len : Int)
      · rw [decide_eq_true h2]; symm; simp; omega
      · rw [decide_eq_false h2]; symm; simp; omega
  · rintro t w2 ⟨rfl, rfl⟩
    by_cases hr : 0 ≤ row ∧ row < m.rows.length
    · refine ifF (by simp [hr]) ?_
      have hrl : row.toNat < m.rows.length := by omega
      have hvl : row.toNat < vs.length := by omega
      refine h1.dr fun w1 h1 => ?_
      refine nns ?_
      refine h1.ld (x := sl) 0 rfl rfl ?_
      refine h1.ixk 1 (u := tSl sl 83 3 rowc (zipR m vs)) rfl Hp.rdSl hr.1 (by rw [zipR_len hn]; exact hrl) fun x hx => ?_
      refine h1.ldk0 1 (u := tSl sl 83 3 rowc (zipR m vs)) (k := .i .i64) (v := (m.rows[row.toNat]).1.1) rfl Hp.rdSl hx rowc_len (zipR_get hn hrl) rfl ?_
      refine h1.ldk 1 (u := tSl sl 83 3 rowc (zipR m vs)) (k := .i .i64) (v := (m.rows[row.toNat]).1.2) rfl Hp.rdSl hx rowc_len (zipR_get hn hrl) rfl ?_
      refine nns ?_
      refine h1.ld (x := sl) 0 rfl rfl ?_
      refine h1.ixk 1 (u := tSl sl 83 3 rowc (zipR m vs)) rfl Hp.rdSl hr.1 (by rw [zipR_len hn]; exact hrl) fun x' hx' => ?_
      refine h1.ldk 1 (u := tSl sl 83 3 rowc (zipR m vs)) (v := vs[row.toNat]) rfl Hp.rdSl hx' rowc_len (zipR_get hn hrl) rfl ?_
      have h1 := col_see h1 2 rfl (List.getElem?_eq_getElem hvl) (vals_get hrl)
      have hlen := hok.len _ (List.getElem_mem hrl)
      refine copy_int h1 4 rfl (u := (tSl vs[row.toNat] 2 1 iv (m.rows[row.toNat]).2).ro) ⟨fun {w O} h => ⟨O, SlF.toR h⟩⟩ (by omega) fun s w1 h1 => ?_
      refine ⟨h1.celk0 1 (u := tSl sl 83 3 rowc (zipR m vs)) rfl Hp.rdSl hx rowc_len (zipR_get hn hrl) rfl, h1.celk 1 (u := tSl sl 83 3 rowc (zipR m vs)) rfl Hp.rdSl hx rowc_len (zipR_get hn hrl) rfl, h1.cel 0 rfl rfl, ?_⟩
      refine h1.st0 3 rfl (by simp) rfl fun w1 h1 => ?_
      refine h1.st 3 rfl (by simp) rfl fun w1 h1 => ?_
      refine h1.ld0 (k := .i .i64) 3 rfl rfl ?_
      refine h1.ld (k := .i .i64) 3 rfl rfl ?_
      exact (hK s w1).1 _ hr.1 (List.getElem?_eq_getElem hrl) (h.r0 rfl (h1.sel1 5 rfl))
    · refine ifT (by simp; omega) ?_
      refine h1.st0 3 rfl (by simp) rfl fun w1 h1 => ?_
      refine h1.st 3 rfl (by simp) rfl fun w1 h1 => ?_
      refine h1.ld0 (k := .i .i64) 3 rfl rfl ?_
      refine h1.ld (k := .i .i64) 3 rfl rfl ?_
      exact (hK _ w1).2 hr rfl (h.keep h1.fr)

theorem RColumn_spec (h : Hp S w0 w its) (i : Nat) {b : Nat} {m : TabM} (hok : m.Ok) (hi : (its[i]?).map Thing.holds = some (tRef b m).holds) {c : Int} {K : Sl → Int → World → Prop}
    (hK : ∀ s w', (0 ≤ c ∧ c < m.n → Hp S w0 w' (its ++ [tSl s 2 1 iv (m.col c.toNat)]) → K s 0 w') ∧ (¬ (0 ≤ c ∧ c < m.n) → s = ⟨none, 0, 0⟩ → Hp S w0 w' its → K s 63 w')) : c36 (some ⟨b, 0, none⟩) c w K := by
  refine c36_of ?_
  unfold f36
  obtain ⟨sl, vs, hn, h1⟩ := ref_see h i hi
  have hl := h1.len 1 rfl
  rw [zipR_len hn] at hl
  have hr200 := hok.r200
  refine ⟨fun w' => w' = w ∧ 0 ≤ c ∧ c < m.n, ?_, ?_⟩
  · by_cases h0 : c < 0
    · exact ifT (by simpa using h0) ((hK _ _).2 (by omega) rfl h)
    · refine ifF (by simpa using h0) ?_
      refine nns ?_
      refine h1.ld0 (x := (m.n : Int)) 0 rfl rfl ?_
      by_cases hc : c ≥ (m.n : Int)
      · exact ifT (by simpa using hc) ((hK _ _).2 (by omega) rfl h)
      · exact ifF (by simpa using hc) ⟨rfl, by omega, by omega⟩
  · rintro wx ⟨rfl, hc⟩
    have h1 := h1.nil 2 1 iv
    refine ⟨fun out t mm w' => ∃ k : Nat, t = k ∧ k ≤ m.rows.length ∧ mm = m.rows.length - k ∧ Hp [] wx w' [(tBlk b 79 [.int .i64 m.n, .slice sl.a sl.len sl.cap]).ro, (tSl sl 83 3 rowc (zipR m vs)).ro, (tCols vs (vals m)).ro, tSl out 2 1 iv ((m.col c.toNat).take k)],
      ⟨m.rows.length, 0, rfl, by omega, rfl, h1⟩, ?_⟩
    rintro out t mm w2 ⟨k, rfl, hk, rfl, h1⟩
    refine nns ?_
    refine h1.ld (x := sl) 0 rfl rfl ?_
    by_cases hlt : k < m.rows.length
    · refine ifT (by simp; omega) ?_
      have hvl : k < vs.length := by omega
      refine nns ?_
      refine h1.ld (x := sl) 0 rfl rfl ?_
      refine h1.ixk 1 (u := tSl sl 83 3 rowc (zipR m vs)) rfl Hp.rdSl (by omega) (by rw [zipR_len hn]; exact hlt) fun x hx => ?_
      refine h1.ldk 1 (u := tSl sl 83 3 rowc (zipR m vs)) (v := vs[k]) rfl Hp.rdSl hx rowc_len (zipR_get hn hlt) rfl ?_
      have h2 := col_see h1 2 rfl (List.getElem?_eq_getElem hvl) (vals_get hlt)
      have hlen := hok.len _ (List.getElem_mem hlt)
      have hcl : c.toNat < (m.rows[k]).2.length := by omega
      refine h2.ixld (k := .i .i64) (y := (m.rows[k]).2[c.toNat]) (x := (m.rows[k]).2[c.toNat]) 4 rfl hc.1 (by simp) iv_len rfl ?_
      have hol := h1.len 3 rfl
      rw [List.length_take, TabM.col_len] at hol
      obtain ⟨inf, q1, q2, q3, q4⟩ := inf2
      refine h1.nwapp (c := [_]) 3 ((m.rows[k]).2[c.toNat]) rfl iv_len und34 q1 q3 q2 rfl rfl (by simp [iv, Value.oneCell']) (by rw [q4]; omega) (by omega) fun out2 w h1 _ _ => ?_
      refine ⟨m.rows.length - (k + 1), by omega, k + 1, by rw [wr64 (by omega) (by omega)]; omega, by omega, rfl, ?_⟩
      have e : (m.col c.toNat).take (k + 1) = (m.col c.toNat).take k ++ [(m.rows[k]).2[c.toNat]] := by
        rw [List.take_add_one]
        congr 1
        simp [TabM.col, hlt, hcl]
      rw [e]; exact h1
    · refine ifF (by simp; omega) ?_
      rw [List.take_of_length_le (by rw [TabM.col_len]; omega)] at h1
      exact (hK out w2).1 hc (h.r0 rfl (h1.sel1 3 rfl))

theorem RAdd_spec (h : Hp S w0 w its) (i j : Nat) (hij : i ≠ j) {b : Nat} {m : TabM} (hok : m.Ok) (hi : its[i]? = some (tRef b m)) {e : Ent} {u : Thing} {vs : Sl} {xs : List Int} (hj : its[j]? = some u) (hu : Hp.Reads u vs 1 iv xs) {K : Int → Int → World → Prop}
    (hK : ∀ w', Hp S w0 w' (its.set i (tRef b (m.addM e xs).1)) → K (m.addM e xs).2.1 (m.addM e xs).2.2 w') : c31 (some ⟨b, 0, none⟩) e.1 e.2 vs w K := by
  refine c31_of ?_
  unfold f31
  obtain ⟨O, h1, back⟩ := h.f1r hij hi hj rfl
  have hxl := h1.lenU 1 (u := u) rfl hu
  have hr200 := hok.r200
  have hn48 := hok.n48
  have hset := Hp.set_same hi
  refine h1.nw (c := [_, _]) fun be w1 h1 => ?_
  have old : ∀ {w'}, Hp O w w' [tRef b m, u.ro, tBlk be 32 [.int .i64 e.1, .int .i64 e.2]] → Hp S w0 w' (its.set i (tRef b m)) := fun h => by
    have := back (rest := []) rfl rfl (h.sel1 0 rfl)
    rwa [List.append_nil] at this
  have hN : ∃ sl ss, ss.length = m.rows.length ∧ Hp [] w1 w1 [(tBlk b 79 [.int .i64 m.n, .slice sl.a sl.len sl.cap]).ro, (tSl sl 83 3 rowc (zipR m ss)).ro, (tCols ss (vals m)).ro] := ref_see h1 0 rfl
  obtain ⟨sl0, vs0, hn0, h0⟩ := hN
  have hl0 := h0.len 1 rfl
  rw [zipR_len hn0] at hl0
  unfold TabM.addM at hK
  refine nns ?_
  refine h0.ld0 (x := (m.n : Int)) 0 rfl rfl ?_
  by_cases c1 : xs.length ≠ m.n
  · rw [if_pos c1] at hK
    exact ifT (by simp; omega) (hK _ (old h1))
  rw [if_neg c1] at hK
  refine ifF (by simp; omega) ?_
  refine h1.ld0 (x := e.1) 2 rfl rfl ?_
  refine h1.ld (x := e.2) 2 rfl rfl ?_
  refine RFind_spec h1 0 hok rfl (e := e) fun w1 h1 => ?_
  by_cases c2 : e ∈ m.owners
  · rw [if_pos c2] at hK
    refine ifT ?_ (hK _ (old h1))
    cases hg : atI m e with
    | none => exact absurd c2 (TabM.atI_none.1 hg)
    | some v =>
      obtain ⟨k, rfl, _⟩ := TabM.atI_some hok.nd hg
      simp
  rw [if_neg c2] at hK
  refine ifF (by rw [TabM.atI_none.2 c2]; simp) ?_
  obtain ⟨sl, ss, hn, h2⟩ := ref_open h1 (i := 0) rfl
  have hl := h2.len 3 rfl
  rw [zipR_len hn] at hl
  refine nns ?_
  refine h2.ld (x := sl) 0 rfl rfl ?_
  by_cases c3 : 200 ≤ m.rows.length
  · rw [if_pos c3] at hK
    exact ifT (by simp; omega) (hK _ (old h1))
  rw [if_neg c3] at hK
  refine ifF (by simp; omega) ?_
  refine h2.dr fun w1 h2 => ?_
  refine nns ?_
  refine h2.ld (x := sl) 0 rfl rfl ?_
  refine h2.ld0 (x := e.1) 2 rfl rfl ?_
  refine h2.ld (x := e.2) 2 rfl rfl ?_
  refine copy_int h2 1 rfl (u := u.ro) ⟨hu.rd⟩ (by omega) fun s w1 h2 => ?_
  refine ⟨h2.cel0 2 rfl rfl, h2.cel 2 rfl rfl, h2.cel 0 rfl rfl, ?_⟩
  obtain ⟨inf, q1, q2, q3, q4⟩ := inf83
  refine h2.nwapp (c := [_, _, _]) 3 (e, s) rfl rowc_len und77 q1 q3 q2 rfl rfl (by simp [rowc, Value.oneCell']) (by rw [q4]; omega) (by omega) fun s2 w1 h2 hs2 _ => ?_
  refine nns ?_
  refine h2.st 0 rfl (by simp) rfl fun w1 h2 => ?_
  refine nns ?_
  refine h2.ld (x := s2) 0 rfl rfl ?_
  have h2 := h2.join (i := 4) (j := 5) (c := tCols (ss ++ [s]) (vals m ++ [xs])) (by omega) rfl rfl (tAll_own _) rfl (tAll_own _) (fun w O1 O2 g1 g2 g3 => by
    unfold tCols
    rw [tCols_push (by simp [vals, hn])]
    exact tAll_append g1 (us := [tCol s xs]) ⟨O2, [], g2, rfl, by simp, by simp⟩ g3)
  rw [← zipR_add m hn e xs s, ← vals_add m e xs] at h2
  have h3 := back (rest := []) rfl rfl (ref_close (m := m.add e xs) (rest := []) (by simp [TabM.add, hn]) (h2.sel3 0 3 4 (by decide) rfl rfl rfl))
  rw [List.append_nil] at h3
  have := hK w1 h3
  have e1 : IntKind.i64.wrap ((s2.len : Int) - 1) = (m.rows.length : Int) := by rw [wr64 (by omega) (by omega)]; omega
  rw [e1]
  exact this

end
end Go.Proofs.Ytfghoeojpnnkiaa.F
