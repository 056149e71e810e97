/-
  The law's own functions of TablePlays: lists that came out, written over by their owner; questions to a table and to the document's.
-/
import Derived.Test.YtfghoeojpnnkiaaC05s
import Derived.Test.YtfghoeojpnnkiaaL05a
import Derived.Test.YtfghoeojpnnkiaaDenM
set_option linter.unusedSimpArgs false
set_option linter.unusedVariables false
namespace Go.Proofs.Ytfghoeojpnnkiaa.F
open Go Go.Den Go.Proofs

abbrev Grp := Sl × Sl × Int
def grpT (g : Grp) : Thing := tAnd (g.1.len ≤ 4000000 ∧ g.2.1.len ≤ 4000000) <| tShare (tRd g.1 1 iv (List.replicate g.1.len g.2.2)) (tRd g.2.1 1 iv (List.replicate g.2.1.len g.2.2))
def grpS (gs : List Grp) : List Sl := gs.flatMap fun g => [g.1, g.2.1]
def grpM (gs : List Grp) : List Int := gs.flatMap fun g => [g.2.2, g.2.2]

theorem grpS_len (gs : List Grp) : (grpS gs).length = 2 * gs.length := by
  induction gs with
  | nil => rfl
  | cons g gs ih => simp only [grpS, List.flatMap_cons, List.length_append, List.length_cons, List.length_nil] at ih ⊢; omega
theorem grpM_len (gs : List Grp) : (grpM gs).length = 2 * gs.length := by
  induction gs with
  | nil => rfl
  | cons g gs ih => simp only [grpM, List.flatMap_cons, List.length_append, List.length_cons, List.length_nil] at ih ⊢; omega
theorem grpS_add (gs : List Grp) (g : Grp) : grpS (gs ++ [g]) = grpS gs ++ [g.1] ++ [g.2.1] := by simp [grpS]
theorem grpM_add (gs : List Grp) (g : Grp) : grpM (gs ++ [g]) = grpM gs ++ [g.2.2] ++ [g.2.2] := by simp [grpM]

/-- The i-th list, and its mark. -/
theorem grp_get : ∀ (gs : List Grp) (i : Nat), i < 2 * gs.length → ∃ (g : Grp) (s : Sl) (j : Nat), gs[j]? = some g ∧ (s = g.1 ∨ s = g.2.1) ∧ (grpS gs)[i]? = some s ∧ (grpM gs)[i]? = some g.2.2
  | [], i, h => by simp at h
  | g :: gs, 0, h => ⟨g, g.1, 0, rfl, .inl rfl, rfl, rfl⟩
  | g :: gs, 1, h => ⟨g, g.2.1, 0, rfl, .inr rfl, rfl, rfl⟩
  | g :: gs, i + 2, h => by
    obtain ⟨g', s, j, h1, h2, h3, h4⟩ := grp_get gs i (by simp only [List.length_cons] at h; omega)
    exact ⟨g', s, j + 1, by simpa using h1, h2, by simpa [grpS] using h3, by simpa [grpM] using h4⟩

def bookI (bw : Nat) (l : Sl) (gs : List Grp) (ls ms : Sl) : Thing :=
  tStar (tBlk bw 53 [.slice l.a l.len l.cap, .slice ls.a ls.len ls.cap, .slice ms.a ms.len ms.cap]) (tStar (tSl ls 34 1 slv (grpS gs)) (tStar (tSl ms 2 1 iv (grpM gs)) (tAll (gs.map grpT))))
def tBook (bw : Nat) (l : Sl) (gs : List Grp) : Thing := tEx fun x : Sl × Sl => bookI bw l gs x.1 x.2

section
variable {S : List Nat} {w0 w : World} {its : List Thing}

theorem book_open (h : Hp S w0 w its) {i bw : Nat} {l : Sl} {gs : List Grp} (hi : its[i]? = some (tBook bw l gs)) :
    ∃ ls ms, Hp S w0 w (its.set i (tBlk bw 53 [.slice l.a l.len l.cap, .slice ls.a ls.len ls.cap, .slice ms.a ms.len ms.cap]) ++ [tSl ls 34 1 slv (grpS gs), tSl ms 2 1 iv (grpM gs), tAll (gs.map grpT)]) := by
  have hl := (List.getElem?_eq_some_iff.1 hi).1
  obtain ⟨⟨ls, ms⟩, h⟩ := h.openEx hi (fun _ => rfl)
  have h := h.split (i := i) (by simp [hl]; rfl) rfl rfl
  have e1 : ∀ (l : List Thing) (t : Thing), (l ++ [t])[l.length]? = some t := fun l t => by simp
  have h := h.split (e1 _ _) rfl rfl
  simp only [List.set_append_right _ _ (Nat.le_refl _), Nat.sub_self, List.set_cons_zero] at h
  have h := h.split (e1 _ _) rfl (tAll_own _)
  rw [List.set_append_right _ _ (Nat.le_refl _), Nat.sub_self, List.set_cons_zero] at h
  exact ⟨ls, ms, by simpa using h⟩

theorem book_close {bw : Nat} {l : Sl} {gs : List Grp} {ls ms : Sl} {rest : List Thing}
    (h : Hp S w0 w (tBlk bw 53 [.slice l.a l.len l.cap, .slice ls.a ls.len ls.cap, .slice ms.a ms.len ms.cap] :: tSl ls 34 1 slv (grpS gs) :: tSl ms 2 1 iv (grpM gs) :: tAll (gs.map grpT) :: rest)) : Hp S w0 w (tBook bw l gs :: rest) := by
  have h := h.joinStar (i := 2) (j := 3) (by omega) rfl rfl rfl (tAll_own _)
  have h := h.joinStar (i := 1) (j := 2) (by omega) rfl rfl rfl rfl
  have h := h.joinStar (i := 0) (j := 1) (by omega) rfl rfl rfl rfl
  have h := h.putEx (f := fun x : Sl × Sl => bookI bw l gs x.1 x.2) (i := 0) (ls, ms) rfl rfl
  have h : Hp S w0 w (tBook bw l gs :: tEmp :: tEmp :: tEmp :: rest) := h
  exact h.drop1.drop1.drop1

theorem book_see (h : Hp S w0 w its) (i : Nat) {bw : Nat} {l : Sl} {gs : List Grp} (hi : (its[i]?).map Thing.holds = some (tBook bw l gs).holds) :
    ∃ ls ms, Hp [] w w [(tBlk bw 53 [.slice l.a l.len l.cap, .slice ls.a ls.len ls.cap, .slice ms.a ms.len ms.cap]).ro, (tSl ls 34 1 slv (grpS gs)).ro, (tSl ms 2 1 iv (grpM gs)).ro, (tAll (gs.map grpT)).ro] := by
  obtain ⟨O, ⟨ls, ms⟩, O1, O2, h1, ⟨O3, O4, h2, ⟨O5, O6, h3, h4, _⟩, _⟩, _⟩ := h.see' hi
  exact ⟨ls, ms, ((((Hp.init w).addRo h1 (by simp)).addRo h2 (by simp)).addRo h3 (by simp)).addRo h4 (by simp)⟩

/-- same. -/
theorem same_spec (h : Hp S w0 w its) (i j : Nat) {u v : Thing} {a b : Sl} {xs ys : List Int} (hi : its[i]? = some u) (hj : its[j]? = some v) (hu : Hp.Reads u a 1 iv xs) (hv : Hp.Reads v b 1 iv ys) (hlen : xs.length ≤ 1000000000) {K : Bool → World → Prop}
    (hK : ∀ w', Hp S w0 w' its → K (decide (xs = ys)) w') : c40 a b w K := by
  refine c40_of ?_
  unfold f40
  have hxl := h.lenU i (by rw [hi]; rfl) hu
  have hyl := h.lenU j (by rw [hj]; rfl) hv
  by_cases hl : xs.length = ys.length
  · refine ifF (by simp; omega) ?_
    refine ⟨fun t mm w' => ∃ k : Nat, t = k ∧ k ≤ xs.length ∧ mm = xs.length - k ∧ xs.take k = ys.take k ∧ Hp S w0 w' its, ⟨xs.length, 0, rfl, by omega, rfl, by simp, h⟩, ?_⟩
    rintro t mm w2 ⟨k, rfl, hk, rfl, he, h⟩
    by_cases hlt : k < xs.length
    · refine ifT (by simp; omega) ?_
      refine h.dr fun w1 h => ?_
      refine h.ixldU (k := .i .i64) (u := u) (y := xs[k]) (x := xs[k]) i (by rw [hi]; rfl) hu (by omega) (by simp [hlt]) iv_len rfl ?_
      refine h.ixldU (k := .i .i64) (u := v) (y := ys[k]) (x := ys[k]) j (by rw [hj]; rfl) hv (by omega) (by simp [show k < ys.length by omega]) iv_len rfl ?_
      by_cases hxy : xs[k] = ys[k]
      · refine ifF (by rw [hxy]; simp) ?_
        refine ⟨xs.length - (k + 1), by omega, k + 1, by rw [wr64 (by omega) (by omega)]; omega, by omega, rfl, ?_, h⟩
        rw [List.take_add_one, List.take_add_one, he, List.getElem?_eq_getElem hlt, List.getElem?_eq_getElem (by omega), hxy]
      · refine ifT (by simpa using hxy) ?_
        have : decide (xs = ys) = false := by
          simp only [decide_eq_false_iff_not]
          rintro rfl
          exact hxy rfl
        have h2 := hK w1 h
        rw [this] at h2
        exact h2
    · refine ifF (by simp; omega) ?_
      have h2 := hK w2 h
      have : xs = ys := by
        rw [List.take_of_length_le (by omega), List.take_of_length_le (by omega)] at he
        exact he
      rw [decide_eq_true this] at h2
      exact h2
  · refine ifT (by simp; omega) ?_
    have : decide (xs = ys) = false := by
      simp only [decide_eq_false_iff_not]
      rintro rfl
      exact hl rfl
    have h2 := hK w h
    rw [this] at h2
    exact h2

/-- Written full with a mark. -/
def mk1 (xs : List Int) (v : Int) (k : Nat) : List Int := List.replicate k v ++ xs.drop k
theorem mk1_set (xs : List Int) (v : Int) {k : Nat} (h : k < xs.length) : (mk1 xs v k).set k v = mk1 xs v (k + 1) := by
  unfold mk1
  rw [List.set_append_right _ _ (by simp), List.length_replicate, Nat.sub_self, List.drop_eq_getElem_cons h, List.set_cons_zero, List.replicate_succ', List.append_assoc]
  rfl
theorem mk1_len (xs : List Int) (v : Int) {k : Nat} (h : k ≤ xs.length) : (mk1 xs v k).length = xs.length := by
  simp [mk1]; omega

set_option maxHeartbeats 1000000 in
theorem takes_spec (h : Hp S w0 w its) (i j : Nat) (hij : i ≠ j) {bw : Nat} {l0 : Sl} {gs : List Grp} (hi : its[i]? = some (tBook bw l0 gs)) (hg : gs.length ≤ 100000) {s : Sl} {xs : List Int} (hj : its[j]? = some (tSl s 2 1 iv xs)) (hlen : xs.length ≤ 1000000) {K : World → Prop}
    (hK : ∀ g w', Hp S w0 w' ((its.set i (tBook bw l0 (gs ++ [g]))).set j tEmp) → K w') : c41 (some ⟨bw, 0, none⟩) s w K := by
  refine c41_of ?_
  unfold f41
  obtain ⟨O, h1, back⟩ := h.f2 hij hi hj rfl rfl
  obtain ⟨ls, ms, h1⟩ := book_open h1 (i := 0) rfl
  have hll := h1.len 2 rfl
  rw [grpS_len] at hll
  have hml := h1.len 3 rfl
  rw [grpM_len] at hml
  have hxl := h1.len 1 rfl
  obtain ⟨inf, q1, q2, q3, q4⟩ := inf2
  obtain ⟨inf', r1, r2, r3, r4⟩ := inf34
  refine nns ?_
  refine h1.ld (x := ms) 0 rfl rfl ?_
  generalize IntKind.i64.wrap (1000000 + (ms.len : Int)) = v
  refine ⟨fun t mm w' => ∃ k : Nat, t = k ∧ k ≤ xs.length ∧ mm = xs.length - k ∧ Hp O w w' [tBlk bw 53 [.slice l0.a l0.len l0.cap, .slice ls.a ls.len ls.cap, .slice ms.a ms.len ms.cap], tSl s 2 1 iv (mk1 xs v k), tSl ls 34 1 slv (grpS gs), tSl ms 2 1 iv (grpM gs), tAll (gs.map grpT)],
    ⟨xs.length, 0, rfl, by omega, rfl, h1⟩, ?_⟩
  rintro t mm w2 ⟨k, rfl, hk, rfl, h1⟩
  by_cases hlt : k < xs.length
  · refine ifT (by simp; omega) ?_
    refine h1.ixst 1 rfl (by omega) (by rw [mk1_len xs v hk]; exact hlt) iv_len (y := v) rfl rfl fun w1 h1 => ?_
    refine ⟨xs.length - (k + 1), by omega, k + 1, by rw [wr64 (by omega) (by omega)]; omega, by omega, rfl, ?_⟩
    rw [← mk1_set xs v hlt]
    exact h1
  · refine ifF (by simp; omega) ?_
    have hkn : k = s.len := by omega
    have e0 : mk1 xs v k = List.replicate s.len v := by
      unfold mk1
      rw [List.drop_of_length_le (by omega), List.append_nil, hkn]
    rw [e0] at h1
    have h1 := h1.lc_start (j := 1) (y := v) (p := s.len) rfl
    refine nns ?_
    refine h1.ld (x := ls) 0 rfl rfl ?_
    refine h1.nwapp (c := [_]) 2 s rfl slv_len und51 r1 r3 r2 rfl rfl (by simp [slv, Value.oneCell']) (by rw [r4]; omega) (by omega) fun ls2 w1 h1 hls2 _ => ?_
    refine nns ?_
    refine h1.st 0 rfl (by simp) rfl fun w1 h1 => ?_
    refine nns ?_
    refine h1.ld (x := ms) 0 rfl rfl ?_
    refine h1.nwapp (c := [_]) 3 v rfl iv_len und34 q1 q3 q2 rfl rfl (by simp [iv, Value.oneCell']) (by rw [q4]; omega) (by omega) fun ms2 w1 h1 hms2 _ => ?_
    refine nns ?_
    refine h1.st 0 rfl (by simp) rfl fun w1 h1 => ?_
    refine ⟨fun c t mm w' => ∃ k : Nat, t = k ∧ k ≤ 64 ∧ mm = 64 - k ∧ Hp O w w' [tBlk bw 53 [.slice l0.a l0.len l0.cap, .slice ls2.a ls2.len ls2.cap, .slice ms2.a ms2.len ms2.cap], tLC 2 1 iv s c v s.len (s.len + k), tSl ls2 34 1 slv (grpS gs ++ [s]), tSl ms2 2 1 iv (grpM gs ++ [v]), tAll (gs.map grpT)],
      ⟨64, 0, rfl, by omega, rfl, h1⟩, ?_⟩
    rintro c t mm w3 ⟨k, rfl, hk, rfl, h1⟩
    by_cases hlt : k < 64
    · refine ifT (by simp; omega) ?_
      refine h1.lc_app (cs := [_]) 1 v rfl iv_len und34 q1 q3 q2 rfl rfl (by simp [iv, Value.oneCell']) (by rw [q4]; omega) (by omega) fun c2 w1 h1 => ?_
      exact ⟨64 - (k + 1), by omega, k + 1, by rw [wr64 (by omega) (by omega)]; omega, by omega, rfl, h1⟩
    · refine ifF (by simp; omega) ?_
      have hcl := (h1.lc_len 1 rfl).1
      have h1 := h1.lc_done (j := 1) rfl
      refine nns ?_
      refine h1.ld (x := ls2) 0 rfl rfl ?_
      refine h1.nwapp (c := [_]) 2 c rfl slv_len und51 r1 r3 r2 rfl rfl (by simp [slv, Value.oneCell']) (by rw [r4]; omega) (by omega) fun ls3 w1 h1 hls3 _ => ?_
      refine nns ?_
      refine h1.st 0 rfl (by simp) rfl fun w1 h1 => ?_
      refine nns ?_
      refine h1.ld (x := ms2) 0 rfl rfl ?_
      refine h1.nwapp (c := [_]) 3 v rfl iv_len und34 q1 q3 q2 rfl rfl (by simp [iv, Value.oneCell']) (by rw [q4]; omega) (by omega) fun ms3 w1 h1 hms3 _ => ?_
      refine nns ?_
      refine h1.st 0 rfl (by simp) rfl fun w1 h1 => ?_
      have h1 := h1.join (i := 4) (j := 1) (c := tAll ((gs ++ [(s, c, v)]).map grpT)) (by omega) rfl rfl (tAll_own _) rfl (tAll_own _) (fun w O1 O2 g1 g2 g3 => by
        rw [List.map_append]
        refine tAll_append g1 (us := [grpT (s, c, v)]) ⟨O2, [], ?_, rfl, by simp, by simp⟩ g3
        refine ⟨⟨by show s.len ≤ _; omega, by show c.len ≤ _; omega⟩, ?_⟩
        show (tShare (tRd s 1 iv (List.replicate s.len v)) (tRd c 1 iv (List.replicate c.len v))).holds w O2
        rw [hcl]; exact g2)
      have h2 := h1.sel4 0 2 3 4 (by decide) rfl rfl rfl rfl
      have e1 := grpS_add gs (s, c, v)
      have e2 := grpM_add gs (s, c, v)
      dsimp only at e1 e2
      rw [← e1, ← e2] at h2
      have h2 := book_close (l := l0) (rest := []) h2
      have h2 := h2.grow (Fr.refl _ _) (t := tEmp) (O := []) rfl (by simp) rfl
      have h3 := back (rest := []) rfl rfl rfl h2
      rw [List.append_nil] at h3
      exact hK (s, c, v) w1 h3

/-- looks. -/
theorem looks_spec (h : Hp S w0 w its) (i : Nat) {bw : Nat} {l0 : Sl} {gs : List Grp} (hi : its[i]? = some (tBook bw l0 gs)) (hg : gs.length ≤ 100000) {K : Bool → World → Prop} (hK : ∀ w', Hp S w0 w' its → K true w') : c18 (some ⟨bw, 0, none⟩) w K := by
  refine c18_of ?_
  unfold f18
  obtain ⟨ls, ms, h1⟩ := book_see h i (by rw [hi]; rfl)
  have hll := h1.len 1 rfl
  rw [grpS_len] at hll
  have hml := h1.len 2 rfl
  rw [grpM_len] at hml
  refine ⟨fun t mm w' => ∃ k : Nat, t = k ∧ k ≤ ls.len ∧ mm = ls.len - k ∧ Hp [] w w' [(tBlk bw 53 [.slice l0.a l0.len l0.cap, .slice ls.a ls.len ls.cap, .slice ms.a ms.len ms.cap]).ro, (tSl ls 34 1 slv (grpS gs)).ro, (tSl ms 2 1 iv (grpM gs)).ro, (tAll (gs.map grpT)).ro], ⟨ls.len, 0, rfl, by omega, rfl, h1⟩, ?_⟩
  rintro t mm w2 ⟨k, rfl, hk, rfl, h1⟩
  refine nns ?_
  refine h1.ld (x := ls) 0 rfl rfl ?_
  by_cases hlt : k < ls.len
  · refine ifT (by simp; omega) ?_
    obtain ⟨g, s, jj, g1, g2, g3, g4⟩ := grp_get gs k (by omega)
    refine ⟨fun t mm w' => ∃ q : Nat, t = q ∧ q ≤ s.len ∧ mm = s.len - q ∧ Hp [] w w' [(tBlk bw 53 [.slice l0.a l0.len l0.cap, .slice ls.a ls.len ls.cap, .slice ms.a ms.len ms.cap]).ro, (tSl ls 34 1 slv (grpS gs)).ro, (tSl ms 2 1 iv (grpM gs)).ro, (tAll (gs.map grpT)).ro], ⟨s.len, 0, rfl, by omega, rfl, h1⟩, ?_⟩
    rintro t mm w3 ⟨q, rfl, hq, rfl, h1⟩
    refine nns ?_
    refine h1.ld (x := ls) 0 rfl rfl ?_
    refine h1.ixld (y := s) (x := s) 1 rfl (by omega) g3 slv_len rfl ?_
    by_cases hqs : q < s.len
    · refine ifT (by simp; omega) ?_
      refine h1.dr fun w1 h1 => ?_
      refine nns ?_
      refine h1.ld (x := ls) 0 rfl rfl ?_
      refine h1.ixld (y := s) (x := s) 1 rfl (by omega) g3 slv_len rfl ?_
      obtain ⟨O, hO, bk⟩ := h1.roSee (i := 3) rfl
      have hget : (gs.map grpT)[jj]? = some (grpT g) := by rw [List.getElem?_map, g1]; rfl
      obtain ⟨O1, O2, p1, _, _, p4⟩ := tAll_pick hget hO
      obtain ⟨⟨b1, b2⟩, O3, O4, s1, s2, s4⟩ := p1
      have hsb : s.len ≤ 4000000 := by rcases g2 with rfl | rfl <;> assumption
      have h2 : Hp [] w w1 ([(tBlk bw 53 [.slice l0.a l0.len l0.cap, .slice ls.a ls.len ls.cap, .slice ms.a ms.len ms.cap]).ro, (tSl ls 34 1 slv (grpS gs)).ro, (tSl ms 2 1 iv (grpM gs)).ro, (tAll (gs.map grpT)).ro] ++ [(tRd s 1 iv (List.replicate s.len g.2.2)).ro]) := by
        rcases g2 with rfl | rfl
        · exact bk s1 (fun k hk => (p4 k).2 (.inl ((s4 k).2 (.inl hk))))
        · exact bk s2 (fun k hk => (p4 k).2 (.inl ((s4 k).2 (.inr hk))))
      refine h2.ixldR (k := .i .i64) (y := g.2.2) (x := g.2.2) 4 rfl (by omega) (by rw [List.getElem?_replicate]; simp; omega) iv_len rfl ?_
      refine nns ?_
      refine h1.ld (x := ms) 0 rfl rfl ?_
      refine h1.ixld (k := .i .i64) (y := g.2.2) (x := g.2.2) 2 rfl (by omega) g4 iv_len rfl ?_
      refine ifF (by simp) ?_
      exact ⟨s.len - (q + 1), by omega, q + 1, by rw [wr64 (by omega) (by omega)]; omega, by omega, rfl, h1⟩
    · refine ifF (by simp; omega) ?_
      exact ⟨ls.len - (k + 1), by omega, k + 1, by rw [wr64 (by omega) (by omega)]; omega, by omega, rfl, h1⟩
  · refine ifF (by simp; omega) ?_
    exact hK _ (h.keep h1.fr)

end
end Go.Proofs.Ytfghoeojpnnkiaa.F
