/-
  The walk of TablePlays: what the law's own text computes is true.
-/
import Derived.Test.YtfghoeojpnnkiaaL05r
set_option linter.unusedSimpArgs false
set_option linter.unusedVariables false
namespace Go.Proofs.Ytfghoeojpnnkiaa.F
open Go Go.Den Go.Proofs

abbrev Pr := Nat × Nat × TabM
def pairc (p : Nat × Nat) : List Value := [.pointer (some ⟨p.1, 0, none⟩), .pointer (some ⟨p.2, 0, none⟩)]
theorem pairc_len (p : Nat × Nat) : (pairc p).length = 2 := rfl
def pairT (p : Pr) : Thing := tAnd p.2.2.Ok (tStar (tTab p.1 p.2.2) (tRef p.2.1 p.2.2))
def ptrs (ps : List Pr) : List (Nat × Nat) := ps.map fun p => (p.1, p.2.1)
def playI (bw : Nat) (ps : List Pr) (gs : List Grp) (l : Sl) : Thing := tStar (tBook bw l gs) (tStar (tSl l 74 2 pairc (ptrs ps)) (tAll (ps.map pairT)))
def tPlay (bw : Nat) (ps : List Pr) (gs : List Grp) : Thing := tEx fun l : Sl => playI bw ps gs l

theorem inf74 : ∃ inf : TypeInfo, Try.prog.info? 74 = some inf ∧ inf.zero = some (.agg #[.pointer none, .pointer none]) ∧ inf.size = 2 ∧ inf.bytes = 16 := infoP (by kernel_rfl)
theorem und50 : Try.prog.underlying 50 = some (.slice 74) := by kernel_rfl

section
variable {S : List Nat} {w0 w : World} {its : List Thing}

theorem play_open (h : Hp S w0 w its) {i bw : Nat} {ps : List Pr} {gs : List Grp} (hi : its[i]? = some (tPlay bw ps gs)) :
    ∃ l, Hp S w0 w (its.set i (tBook bw l gs) ++ [tSl l 74 2 pairc (ptrs ps), tAll (ps.map pairT)]) := by
  have hl := (List.getElem?_eq_some_iff.1 hi).1
  obtain ⟨l, h⟩ := h.openEx hi (fun _ => rfl)
  have h := h.split (i := i) (by simp [hl]; rfl) rfl rfl
  have e1 : ∀ (l : List Thing) (t : Thing), (l ++ [t])[l.length]? = some t := fun l t => by simp
  have h := h.split (e1 _ _) rfl (tAll_own _)
  simp only [List.set_append_right _ _ (Nat.le_refl _), Nat.sub_self, List.set_cons_zero] at h
  exact ⟨l, by simpa using h⟩

theorem play_close {bw : Nat} {ps : List Pr} {gs : List Grp} {l : Sl} {rest : List Thing}
    (h : Hp S w0 w (tBook bw l gs :: tSl l 74 2 pairc (ptrs ps) :: tAll (ps.map pairT) :: rest)) : Hp S w0 w (tPlay bw ps gs :: rest) := by
  have h := h.joinStar (i := 1) (j := 2) (by omega) rfl rfl rfl (tAll_own _)
  have h := h.joinStar (i := 0) (j := 1) (by omega) rfl rfl rfl rfl
  have h := h.putEx (f := fun l : Sl => playI bw ps gs l) (i := 0) l rfl rfl
  have h : Hp S w0 w (tPlay bw ps gs :: tEmp :: tEmp :: rest) := h
  exact h.drop1.drop1

theorem ptrs_add (ps : List Pr) (p : Pr) : ptrs (ps ++ [p]) = ptrs ps ++ [(p.1, p.2.1)] := by simp [ptrs]
theorem ptrs_get {ps : List Pr} {i : Nat} (h : i < ps.length) : (ptrs ps)[i]? = some ((ps[i]).1, (ps[i]).2.1) := by simp [ptrs, h]
theorem ptrs_len (ps : List Pr) : (ptrs ps).length = ps.length := by simp [ptrs]

/-- A pair more. -/
theorem play_push {bw : Nat} {ps : List Pr} {gs : List Grp} {l : Sl} {bt br : Nat} {m : TabM} (hok : m.Ok)
    (h : Hp S w0 w [tBook bw l gs, tSl l 74 2 pairc (ptrs ps ++ [(bt, br)]), tAll (ps.map pairT), tTab bt m, tRef br m]) : Hp S w0 w [tPlay bw (ps ++ [(bt, br, m)]) gs] := by
  have h := h.joinStar (i := 3) (j := 4) (by omega) rfl rfl rfl rfl
  have h := h.putAnd (i := 3) hok rfl rfl
  have h := h.join (i := 2) (j := 3) (c := tAll ((ps ++ [(bt, br, m)]).map pairT)) (by omega) rfl rfl (tAll_own _) rfl (tAll_own _) (fun w O1 O2 g1 g2 g3 => by
    rw [List.map_append]
    exact tAll_append g1 (us := [pairT (bt, br, m)]) ⟨O2, [], g2, rfl, by simp, by simp⟩ g3)
  have h := h.trim 3
  rw [← ptrs_add ps (bt, br, m)] at h
  exact play_close (rest := []) h

/-- A pair put back. -/
theorem play_back {bw : Nat} {ps : List Pr} {gs : List Grp} {l : Sl} {r bt br : Nat} {m m' : TabM} (hr : ps[r]? = some (bt, br, m)) (hok : m'.Ok)
    (h : Hp S w0 w [tBook bw l gs, tSl l 74 2 pairc (ptrs ps), tAll ((ps.map pairT).set r tEmp), tTab bt m', tRef br m']) : Hp S w0 w [tPlay bw (ps.set r (bt, br, m')) gs] := by
  have hlt := (List.getElem?_eq_some_iff.1 hr).1
  have h := h.joinStar (i := 3) (j := 4) (by omega) rfl rfl rfl rfl
  have h := h.putAnd (i := 3) hok rfl rfl
  have h := h.unpick (i := 2) (j := 3) (k := r) (by omega) rfl rfl (by rw [List.getElem?_set_self (by simpa using hlt)]) rfl
  have h := h.trim 3
  have e1 : ((ps.map pairT).set r tEmp).set r (tAnd m'.Ok (tStar (tTab bt m') (tRef br m'))) = (ps.set r (bt, br, m')).map pairT := by
    rw [List.set_set, List.map_set]; rfl
  have e2 : ptrs (ps.set r (bt, br, m')) = ptrs ps := by
    unfold ptrs
    rw [List.map_set]
    apply List.ext_getElem?
    intro i
    rw [List.getElem?_set]
    split
    · rename_i e
      subst e
      rw [if_pos (by simpa using hlt), List.getElem?_map, hr]; rfl
    · rfl
  rw [← e2] at h
  change Hp S w0 w [_, _, tAll (((ps.map pairT).set r tEmp).set r (tAnd m'.Ok (tStar (tTab bt m') (tRef br m'))))] at h
  rw [e1] at h
  exact play_close (rest := []) h

set_option maxRecDepth 100000 in
set_option maxHeartbeats 4000000 in
theorem step_spec (h : Hp S w0 w its) (i j : Nat) (hij : i ≠ j) {bw : Nat} {ps : List Pr} {gs : List Grp} (hi : its[i]? = some (tPlay bw ps gs)) {kind on row col ei eg x : Int} {u : Thing} {v : Sl} {xs : List Int} (hj : its[j]? = some u) (hu : Hp.Reads u v 1 iv xs) (hxs : xs.length ≤ 20000000000000)
    (hg : gs.length ≤ 80000) (hp : ps.length ≤ 10000) (hps : kind = 1 ∨ 0 < ps.length) (hon : -9223372036854775808 ≤ on) {K : Bool → World → Prop}
    (hK : ∀ ps' gs' w', gs'.length ≤ gs.length + 2 → ps.length ≤ ps'.length → ps'.length ≤ ps.length + 1 → (kind = 1 → 0 ≤ row → row ≤ 48 → ps'.length = ps.length + 1) → Hp S w0 w' (its.set i (tPlay bw ps' gs')) → K true w') : c17 (some ⟨bw, 0, none⟩) kind on row col ei eg x v w K := by
  refine c17_of ?_
  unfold f17
  obtain ⟨O, h1, back⟩ := h.f1r hij hi hj rfl
  have fin : ∀ ps' gs' w', gs'.length ≤ gs.length + 2 → ps.length ≤ ps'.length → ps'.length ≤ ps.length + 1 → (kind = 1 → 0 ≤ row → row ≤ 48 → ps'.length = ps.length + 1) → Hp O w w' [tPlay bw ps' gs'] → K true w' := fun ps' gs' w' q1 q2 q3 q4 hp => by
    have := back (rest := []) rfl rfl hp
    rw [List.append_nil] at this
    exact hK ps' gs' w' q1 q2 q3 q4 this
  obtain ⟨l, h1⟩ := play_open h1 (i := 0) rfl
  have hll := h1.len 2 rfl
  rw [ptrs_len] at hll
  obtain ⟨inf, q1, q2, q3, q4⟩ := inf74
  refine h1.nw (c := [_, _, _, _, _, _, _, _]) fun bo w1 h1 => ?_
  simp only [List.cons_append, List.nil_append, List.set_cons_zero, List.set_cons_succ] at h1
  refine h1.ld0 (x := kind) 4 rfl rfl ?_
  by_cases c1 : kind = 1
  · refine ifT (by simpa using c1) ?_
    refine h1.ld (x := row) 4 rfl rfl ?_
    by_cases hrow : 0 ≤ row ∧ row ≤ 48
    · refine New_spec h1 hrow.1 hrow.2 fun bt w1 h1 => ?_
      refine h1.ld (x := row) 4 rfl rfl ?_
      refine RNew_spec h1 hrow.1 hrow.2 fun br w1 h1 => ?_
      simp only [List.cons_append, List.nil_append, List.set_cons_zero, List.set_cons_succ] at h1
      refine ⟨fun w' => Hp O w w' [tPlay bw (ps ++ [(bt, br, ⟨row.toNat, []⟩)]) gs], ?_, ?_⟩
      · refine ifT rfl ?_
        refine nns ?_
        obtain ⟨ls, ms, h1⟩ := book_open h1 (i := 0) rfl
        simp only [List.cons_append, List.nil_append, List.set_cons_zero, List.set_cons_succ] at h1
        refine h1.ld0 (x := l) 0 rfl rfl ?_
        refine h1.nwapp (c := [_, _]) 2 (bt, br) rfl pairc_len und50 q1 q3 q2 rfl rfl (by simp [pairc, Value.oneCell']) (by rw [q4]; omega) (by omega) fun s w1 h1 _ _ => ?_
        refine nns ?_
        refine h1.st0 0 rfl (by simp) rfl fun w1 h1 => ?_
        simp only [List.cons_append, List.nil_append, List.set_cons_zero, List.set_cons_succ] at h1
        have h1 := h1.joinStar (i := 8) (j := 9) (by omega) rfl rfl rfl (tAll_own _)
        have h1 := h1.joinStar (i := 7) (j := 8) (by omega) rfl rfl rfl rfl
        have h1 := h1.joinStar (i := 0) (j := 7) (by omega) rfl rfl rfl rfl
        have h1 := h1.putEx (f := fun x : Sl × Sl => bookI bw s gs x.1 x.2) (i := 0) (ls, ms) rfl rfl
        simp only [List.cons_append, List.nil_append, List.set_cons_zero, List.set_cons_succ] at h1
        exact play_push ⟨by show row.toNat ≤ 48; omega, by simp, by simp [TabM.owners], by simp⟩ (h1.sel5 0 2 3 5 6 (by decide) rfl rfl rfl rfl rfl)
      · rintro w1 h1
        have := fin _ gs w1 (by omega) (by simp) (by simp) (fun _ _ _ => by simp) h1
        simpa using this
    · refine New_bad (by omega) ?_
      refine h1.ld (x := row) 4 rfl rfl ?_
      refine RNew_bad (by omega) ?_
      refine ⟨fun w' => Hp O w w' [tPlay bw ps gs], ?_, ?_⟩
      · refine ifF (by simp) ?_
        exact play_close (rest := []) (h1.sel3 0 2 3 (by decide) rfl rfl rfl)
      · rintro w1 h1
        have := fin ps gs w1 (by omega) (by omega) (by omega) (fun _ a b => absurd ⟨a, b⟩ hrow) h1
        simpa using this
  refine ifF (by simpa using c1) ?_
  have hpl : 0 < ps.length := hps.resolve_left c1
  refine h1.dr fun w1 h1 => ?_
  refine nns ?_
  obtain ⟨ls, ms, hb⟩ := book_see h1 0 rfl
  refine hb.ld0 (x := l) 0 rfl rfl ?_
  refine h1.ld (x := on) 4 rfl rfl ?_
  refine nns ?_
  refine hb.ld0 (x := l) 0 rfl rfl ?_
  have h1 := h1.opt 74 [.pointer none, .pointer none]
  simp only [List.cons_append, List.nil_append, List.set_cons_zero, List.set_cons_succ] at h1
  refine h1.fls 5 rfl fun y w1 h1 => ?_
  refine pick_spec (by omega) ?_
  obtain ⟨hr0, hr1⟩ := pk_range (n := (l.len : Int)) hon (by omega)
  generalize pk on (l.len : Int) = r at hr0 hr1 ⊢
  obtain ⟨r, rfl⟩ : ∃ k : Nat, r = k := ⟨r.toNat, by omega⟩
  have hrl : r < ps.length := by omega
  obtain ⟨bt, br, m, hpr⟩ : ∃ bt br m, ps[r] = (bt, br, m) := ⟨_, _, _, rfl⟩
  have hget : ps[r]? = some (bt, br, m) := by rw [List.getElem?_eq_getElem hrl, hpr]
  have hgp : (ptrs ps)[r]? = some (bt, br) := by rw [ptrs_get hrl, hpr]
  obtain ⟨ls, ms, hb⟩ := book_see h1 0 rfl
  refine ⟨hb.cel0 0 rfl rfl, ?_⟩
  refine h1.ixld2 (k := .p) (k' := .p) (y := (bt, br)) (x := some ⟨bt, 0, none⟩) (x' := some ⟨br, 0, none⟩) 2 rfl (by omega) hgp pairc_len rfl rfl ?_
  refine h1.fls 5 rfl fun y w1 h1 => ?_
  refine h1.need 5 rfl fun bp h1 => ?_
  refine h1.st0 5 rfl (by simp) rfl fun w1 h1 => ?_
  refine h1.st 5 rfl (by simp) rfl fun w1 h1 => ?_
  simp only [List.cons_append, List.nil_append, List.set_cons_zero, List.set_cons_succ] at h1
  have h1 := h1.pick (i := 3) (k := r) (t := pairT (bt, br, m)) rfl (by rw [List.getElem?_map, hget]; rfl) rfl
  obtain ⟨hok, h1⟩ := h1.openAnd (i := 6) (p := m.Ok) (t := tStar (tTab bt m) (tRef br m)) rfl rfl
  have h1 := h1.split (i := 6) (a := tTab bt m) (b := tRef br m) rfl rfl rfl
  simp only [List.cons_append, List.nil_append, List.set_cons_zero, List.set_cons_succ] at h1
  have hlen : ∀ m', (ps.set r (bt, br, m')).length = ps.length := fun m' => by simp
  have fin2 : ∀ gs' m' w' {a b c : Thing}, gs'.length ≤ gs.length + 2 → m'.Ok → Hp O w w' [tBook bw l gs', a, tSl l 74 2 pairc (ptrs ps), tAll ((ps.map pairT).set r tEmp), b, c, tTab bt m', tRef br m'] → K true w' := fun gs' m' w' {a b c} e1 e2 hp =>
    fin _ gs' w' e1 (by rw [hlen]; omega) (by rw [hlen]; omega) (fun hk => absurd hk c1) (play_back hget e2 (hp.sel5 0 2 3 6 7 (by decide) rfl rfl rfl rfl rfl))
  refine h1.ld0 (x := kind) 4 rfl rfl ?_
  by_cases c2 : kind = 2
  · refine ifT (by simpa using c2) ?_
    refine h1.ld0 (k := .p) (x := some ⟨bt, 0, none⟩) 5 rfl rfl ?_
    refine h1.ld (k := .p) (x := some ⟨br, 0, none⟩) 5 rfl rfl ?_
    refine h1.ld (x := ei) 4 rfl rfl ?_
    refine h1.lda (x := eg) 4 rfl rfl ?_
    refine h1.ld (x := v) 4 rfl rfl ?_
    refine adds_spec h1 6 7 1 (by omega) (by omega) (by omega) hok rfl rfl (e := (ei, eg)) (u := u.ro) rfl ⟨hu.rd⟩ hxs fun m' w1 k1 k2 h1 => ?_
    simp only [List.cons_append, List.nil_append, List.set_cons_zero, List.set_cons_succ] at h1
    exact fin2 gs m' w1 (by omega) k1 h1
  refine ifF (by simpa using c2) ?_
  by_cases c3 : kind = 3
  · refine ifT (by simpa using c3) ?_
    refine h1.ld0 (k := .p) (x := some ⟨bt, 0, none⟩) 5 rfl rfl ?_
    refine h1.ld (x := row) 4 rfl rfl ?_
    refine Remove_spec h1 6 hok rfl fun w1 h1 => ?_
    refine h1.nw (c := [_, _]) fun ba w1 h1 => ?_
    refine h1.st0 8 rfl (by simp) rfl fun w1 h1 => ?_
    refine h1.st 8 rfl (by simp) rfl fun w1 h1 => ?_
    simp only [List.cons_append, List.nil_append, List.set_cons_zero, List.set_cons_succ] at h1
    refine h1.ld (k := .p) (x := some ⟨br, 0, none⟩) 5 rfl rfl ?_
    refine h1.ld (x := row) 4 rfl rfl ?_
    refine RRemove_spec h1 7 hok rfl fun w1 h1 => ?_
    refine h1.nw (c := [_, _]) fun bc w1 h1 => ?_
    refine h1.st0 9 rfl (by simp) rfl fun w1 h1 => ?_
    refine h1.st 9 rfl (by simp) rfl fun w1 h1 => ?_
    simp only [List.cons_append, List.nil_append, List.set_cons_zero, List.set_cons_succ] at h1
    refine h1.ld0 (k := .i .i64) 8 rfl rfl ?_
    refine h1.ld (k := .i .i64) 8 rfl rfl ?_
    refine h1.ld0 (k := .i .i64) 9 rfl rfl ?_
    refine h1.ld (k := .i .i64) 9 rfl rfl ?_
    refine eqEnt ?_
    have := fin2 gs (m.delM row).1 w1 (by omega) (delM_ok hok row).1 (h1.trim 8)
    simpa using this
  refine ifF (by simpa using c3) ?_
  by_cases c9' : kind = 9
  · refine ifT (by simpa using c9') ?_
    refine h1.ld0 (k := .p) (x := some ⟨bt, 0, none⟩) 5 rfl rfl ?_
    refine Clone_spec h1 6 hok rfl fun bt' w1 h1 => ?_
    refine h1.dr fun w1 h1 => ?_
    refine nns ?_
    obtain ⟨ls, ms, hb⟩ := book_see h1 0 rfl
    refine hb.ld0 (x := l) 0 rfl rfl ?_
    refine h1.ld (k := .p) (x := some ⟨br, 0, none⟩) 5 rfl rfl ?_
    refine RClone_spec h1 7 hok rfl fun br' w1 h1 => ?_
    obtain ⟨ls, ms, hb⟩ := book_see h1 0 rfl
    refine ⟨hb.cel0 0 rfl rfl, ?_⟩
    simp only [List.cons_append, List.nil_append, List.set_cons_zero, List.set_cons_succ] at h1
    refine h1.nwapp (c := [_, _]) 2 (bt', br') rfl pairc_len und50 q1 q3 q2 rfl rfl (by simp [pairc, Value.oneCell']) (by rw [q4]; omega) (by omega) fun s w1 h1 _ _ => ?_
    refine nns ?_
    obtain ⟨ls, ms, h1⟩ := book_open h1 (i := 0) rfl
    simp only [List.cons_append, List.nil_append, List.set_cons_zero, List.set_cons_succ] at h1
    refine h1.st0 0 rfl (by simp) rfl fun w1 h1 => ?_
    simp only [List.cons_append, List.nil_append, List.set_cons_zero, List.set_cons_succ] at h1
    have h1 := h1.joinStar (i := 11) (j := 12) (by omega) rfl rfl rfl (tAll_own _)
    have h1 := h1.joinStar (i := 10) (j := 11) (by omega) rfl rfl rfl rfl
    have h1 := h1.joinStar (i := 0) (j := 10) (by omega) rfl rfl rfl rfl
    have h1 := h1.putEx (f := fun x : Sl × Sl => bookI bw s gs x.1 x.2) (i := 0) (ls, ms) rfl rfl
    simp only [List.cons_append, List.nil_append, List.set_cons_zero, List.set_cons_succ] at h1
    have h1 := h1.joinStar (i := 6) (j := 7) (by omega) rfl rfl rfl rfl
    have h1 := h1.putAnd (i := 6) hok rfl rfl
    have h1 := h1.unpick (i := 3) (j := 6) (k := r) (by omega) rfl rfl (by rw [List.getElem?_set_self (by simpa using hrl)]) rfl
    have e1 : ((ps.map pairT).set r tEmp).set r (tAnd m.Ok (tStar (tTab bt m) (tRef br m))) = ps.map pairT := by
      rw [List.set_set]
      apply List.ext_getElem?
      intro i
      rw [List.getElem?_set]
      split
      · rename_i e
        subst e
        rw [if_pos (by simpa using hrl), List.getElem?_map, hget]; rfl
      · rfl
    have h2 := h1.sel5 0 2 3 8 9 (by decide) rfl rfl rfl rfl rfl
    rw [e1] at h2
    have := fin _ gs w1 (by omega) (by simp) (by simp) (fun hk => absurd hk c1) (play_push hok h2)
    simpa using this
  refine ifF (by simpa using c9') ?_
  by_cases c10' : kind = 10
  · refine ifT (by simpa using c10') ?_
    refine ⟨fun t mm w' => ∃ (k : Nat) (m' : TabM), t = k ∧ k ≤ 205 ∧ mm + k = 205 ∧ m'.Ok ∧ Hp O w w' [tBook bw l gs, u.ro, tSl l 74 2 pairc (ptrs ps), tAll ((ps.map pairT).set r tEmp), tBlk bo 56 [.int .i64 kind, .int .i64 on, .int .i64 row, .int .i64 col, .int .i64 ei, .int .i64 eg, .int .i64 x, .slice v.a v.len v.cap], tBlk bp 74 [.pointer (some ⟨bt, 0, none⟩), .pointer (some ⟨br, 0, none⟩)], tTab bt m', tRef br m'], ⟨205, 0, m, by omega, by omega, by omega, hok, h1⟩, ?_⟩
    intro t mm w2 hx
    obtain ⟨k, hx⟩ := hx
    obtain ⟨m', hx⟩ := hx
    obtain ⟨ht, hx⟩ := hx
    obtain ⟨hk, hx⟩ := hx
    obtain ⟨hmm, hx⟩ := hx
    obtain ⟨hok', h1⟩ := hx
    subst ht
    by_cases hlt : k < 205
    · refine ifT (by simp; omega) ?_
      refine h1.dr fun w1 h1 => ?_
      refine h1.ld0 (k := .p) (x := some ⟨bt, 0, none⟩) 5 rfl rfl ?_
      refine h1.ld (k := .p) (x := some ⟨br, 0, none⟩) 5 rfl rfl ?_
      refine h1.ld (x := row) 4 rfl rfl ?_
      refine h1.ld (k := .p) (x := some ⟨br, 0, none⟩) 5 rfl rfl ?_
      refine nns ?_
      obtain ⟨sl', vs', _, hr⟩ := ref_see h1 7 rfl
      refine hr.ld0 (x := (m'.n : Int)) 0 rfl rfl ?_
      have hn48 := hok'.n48
      refine h1.mks (f := iv) (n := 1) (x0 := 0) iv_len rfl (by omega) (Int.le_refl _) (by omega) (by omega) fun s w1 h1 _ _ _ => ?_
      refine adds_spec h1 6 7 8 (by omega) (by omega) (by omega) hok' rfl rfl (e := ((k : Int), row)) rfl Hp.rdSl (by simp; omega) fun m2 w1 k1 k2 h1 => ?_
      simp only [List.cons_append, List.nil_append, List.set_cons_zero, List.set_cons_succ] at h1
      refine ifF (by simp) ?_
      exact ⟨mm - 1, by omega, k + 1, m2, by rw [wr64 (by omega) (by omega)]; omega, by omega, by omega, k1, h1.trim 8⟩
    · refine ifF (by simp; omega) ?_
      exact fin2 gs m' w2 (by omega) hok' h1
  refine ifF (by simpa using c10') ?_
  refine h1.ld0 (k := .p) (x := some ⟨bt, 0, none⟩) 5 rfl rfl ?_
  refine h1.ld (k := .p) (x := some ⟨br, 0, none⟩) 5 rfl rfl ?_
  refine h1.ld0 (x := kind) 4 rfl rfl ?_
  refine h1.ld (x := on) 4 rfl rfl ?_
  refine h1.ld (x := row) 4 rfl rfl ?_
  refine h1.ld (x := col) 4 rfl rfl ?_
  refine h1.ld (x := ei) 4 rfl rfl ?_
  refine h1.ld (x := eg) 4 rfl rfl ?_
  refine h1.ld (x := x) 4 rfl rfl ?_
  refine h1.ld (x := v) 4 rfl rfl ?_
  refine asked_spec h1 0 6 7 (by decide) hok rfl (by omega) rfl rfl fun gs' m' w1 e1 e2 e3 h1 => ?_
  simp only [List.cons_append, List.nil_append, List.set_cons_zero, List.set_cons_succ] at h1
  exact fin2 gs' m' w1 e1 e2 h1

end
end Go.Proofs.Ytfghoeojpnnkiaa.F
