/-
  The law's own functions of TablePlays: all questions.
-/
import Derived.Test.YtfghoeojpnnkiaaL05q
set_option linter.unusedSimpArgs false
set_option linter.unusedVariables false
namespace Go.Proofs.Ytfghoeojpnnkiaa.F
open Go Go.Den Go.Proofs

def TabM.rowM (m : TabM) (row : Int) : Ent × List Int × Int :=
  if 0 ≤ row then match m.rows[row.toNat]? with
    | some r => (r.1, r.2, 0)
    | none => ((0, 0), [], 50)
  else ((0, 0), [], 50)
def TabM.colM (m : TabM) (c : Int) : List Int × Int := if 0 ≤ c ∧ c < m.n then (m.col c.toNat, 0) else ([], 63)

theorem rowM_len {m : TabM} (hok : m.Ok) (row : Int) : (m.rowM row).2.1.length ≤ 1000 := by
  unfold TabM.rowM
  split
  · split
    · rename_i r hr
      have := hok.len r (List.mem_of_getElem? hr)
      have := hok.n48
      show r.2.length ≤ _; omega
    · simp
  · simp
theorem colM_len {m : TabM} (hok : m.Ok) (c : Int) : (m.colM c).1.length ≤ 1000 := by
  unfold TabM.colM
  have := hok.r200
  split
  · show (m.col _).length ≤ _; rw [TabM.col_len]; omega
  · simp

section
variable {S : List Nat} {w0 w : World} {its : List Thing}

theorem Row' (h : Hp S w0 w its) (i : Nat) {b : Nat} {m : TabM} (hok : m.Ok) (hi : (its[i]?).map Thing.holds = some (tTab b m).holds) {row : Int} {K : Int → Int → Sl → Int → World → Prop}
    (hK : ∀ s w', Hp S w0 w' (its ++ [tSl s 2 1 iv (m.rowM row).2.1]) → K (m.rowM row).1.1 (m.rowM row).1.2 s (m.rowM row).2.2 w') : c13 (some ⟨b, 0, none⟩) row w K := by
  refine Row_spec h i hok hi fun s w' => ⟨fun r h0 hr h1 => ?_, fun hno hs h1 => ?_⟩
  · have e : m.rowM row = (r.1, r.2, 0) := by unfold TabM.rowM; rw [if_pos h0, hr]
    have := hK s w'
    rw [e] at this
    exact this h1
  · have e : m.rowM row = ((0, 0), [], 50) := by
      unfold TabM.rowM
      split
      · rw [List.getElem?_eq_none (by omega)]
      · rfl
    have := hK s w'
    rw [e, hs] at this
    rw [hs]
    exact this (h1.nil 2 1 iv)

theorem RRow' (h : Hp S w0 w its) (i : Nat) {b : Nat} {m : TabM} (hok : m.Ok) (hi : (its[i]?).map Thing.holds = some (tRef b m).holds) {row : Int} {K : Int → Int → Sl → Int → World → Prop}
    (hK : ∀ s w', Hp S w0 w' (its ++ [tSl s 2 1 iv (m.rowM row).2.1]) → K (m.rowM row).1.1 (m.rowM row).1.2 s (m.rowM row).2.2 w') : c34 (some ⟨b, 0, none⟩) row w K := by
  refine RRow_spec h i hok hi fun s w' => ⟨fun r h0 hr h1 => ?_, fun hno hs h1 => ?_⟩
  · have e : m.rowM row = (r.1, r.2, 0) := by unfold TabM.rowM; rw [if_pos h0, hr]
    have := hK s w'
    rw [e] at this
    exact this h1
  · have e : m.rowM row = ((0, 0), [], 50) := by
      unfold TabM.rowM
      split
      · rw [List.getElem?_eq_none (by omega)]
      · rfl
    have := hK s w'
    rw [e, hs] at this
    rw [hs]
    exact this (h1.nil 2 1 iv)

theorem Row_skip (h : Hp S w0 w its) (i : Nat) {b : Nat} {m : TabM} (hok : m.Ok) (hi : (its[i]?).map Thing.holds = some (tTab b m).holds) {row : Int} {K : Int → Int → Sl → Int → World → Prop}
    (hK : ∀ a g s e w', Hp S w0 w' its → K a g s e w') : c13 (some ⟨b, 0, none⟩) row w K :=
  Row' h i hok hi fun s w' h1 => hK _ _ _ _ _ h1.front

theorem Column' (h : Hp S w0 w its) (i : Nat) {b : Nat} {m : TabM} (hok : m.Ok) (hi : (its[i]?).map Thing.holds = some (tTab b m).holds) {c : Int} {K : Sl → Int → World → Prop}
    (hK : ∀ s w', Hp S w0 w' (its ++ [tSl s 2 1 iv (m.colM c).1]) → K s (m.colM c).2 w') : c14 (some ⟨b, 0, none⟩) c w K := by
  refine Column_spec h i hok hi fun s w' => ⟨fun hc h1 => ?_, fun hno hs h1 => ?_⟩
  · have e : m.colM c = (m.col c.toNat, 0) := by unfold TabM.colM; rw [if_pos hc]
    have := hK s w'
    rw [e] at this
    exact this h1
  · have e : m.colM c = ([], 63) := by unfold TabM.colM; rw [if_neg hno]
    have := hK s w'
    rw [e, hs] at this
    rw [hs]
    exact this (h1.nil 2 1 iv)

theorem RColumn' (h : Hp S w0 w its) (i : Nat) {b : Nat} {m : TabM} (hok : m.Ok) (hi : (its[i]?).map Thing.holds = some (tRef b m).holds) {c : Int} {K : Sl → Int → World → Prop}
    (hK : ∀ s w', Hp S w0 w' (its ++ [tSl s 2 1 iv (m.colM c).1]) → K s (m.colM c).2 w') : c36 (some ⟨b, 0, none⟩) c w K := by
  refine RColumn_spec h i hok hi fun s w' => ⟨fun hc h1 => ?_, fun hno hs h1 => ?_⟩
  · have e : m.colM c = (m.col c.toNat, 0) := by unfold TabM.colM; rw [if_pos hc]
    have := hK s w'
    rw [e] at this
    exact this h1
  · have e : m.colM c = ([], 63) := by unfold TabM.colM; rw [if_neg hno]
    have := hK s w'
    rw [e, hs] at this
    rw [hs]
    exact this (h1.nil 2 1 iv)

theorem Column_skip (h : Hp S w0 w its) (i : Nat) {b : Nat} {m : TabM} (hok : m.Ok) (hi : (its[i]?).map Thing.holds = some (tTab b m).holds) {c : Int} {K : Sl → Int → World → Prop}
    (hK : ∀ s e w', Hp S w0 w' its → K s e w') : c14 (some ⟨b, 0, none⟩) c w K :=
  Column' h i hok hi fun s w' h1 => hK _ _ _ h1.front

/-- told. -/
theorem told_spec (h : Hp S w0 w its) (i j1 j2 j3 : Nat) (hne : [i, j1, j2, j3].Nodup) {bw : Nat} {l0 : Sl} {gs : List Grp} (hi : its[i]? = some (tBook bw l0 gs)) (hg : gs.length ≤ 90000) {l k m : Sl} {xs : List Int} (h1 : its[j1]? = some (tSl l 2 1 iv xs)) (h2 : its[j2]? = some (tSl k 2 1 iv xs)) (h3 : its[j3]? = some (tSl m 2 1 iv xs)) (hlen : xs.length ≤ 1000) {K : Bool → World → Prop}
    (hK : ∀ gs' w', gs'.length ≤ gs.length + 2 → Hp S w0 w' ((((its.set i (tBook bw l0 gs')).set j1 tEmp)).set j2 tEmp) → K true w') : c35 (some ⟨bw, 0, none⟩) l k m w K := by
  refine c35_of ?_
  unfold f35
  simp only [List.nodup_cons, List.mem_cons, List.not_mem_nil, or_false, not_or, List.nodup_nil, and_true, not_false_eq_true] at hne
  obtain ⟨⟨n1, n2, n3⟩, ⟨n4, n5⟩, n6⟩ := hne
  have li := (List.getElem?_eq_some_iff.1 hi).1
  have l1 := (List.getElem?_eq_some_iff.1 h1).1
  have l2 := (List.getElem?_eq_some_iff.1 h2).1
  refine looks_spec h i hi (by omega) fun w1 h => ?_
  refine same_spec h j1 j3 h1 h3 Hp.rdSl Hp.rdSl (by omega) fun w1 h => ?_
  refine same_spec h j2 j3 h2 h3 Hp.rdSl Hp.rdSl (by omega) fun w1 h => ?_
  refine ifF (by simp) ?_
  refine takes_spec h i j1 n1 hi (by omega) h1 (by omega) fun g w1 h => ?_
  have g2 : ((its.set i (tBook bw l0 (gs ++ [g]))).set j1 tEmp)[j2]? = some (tSl k 2 1 iv xs) := by rw [List.getElem?_set_ne n4, List.getElem?_set_ne n2]; exact h2
  have g3 : ((its.set i (tBook bw l0 (gs ++ [g]))).set j1 tEmp)[j3]? = some (tSl m 2 1 iv xs) := by rw [List.getElem?_set_ne n5, List.getElem?_set_ne n3]; exact h3
  have gi : ((its.set i (tBook bw l0 (gs ++ [g]))).set j1 tEmp)[i]? = some (tBook bw l0 (gs ++ [g])) := by rw [List.getElem?_set_ne (fun e => n1 e.symm)]; simp [li]
  refine same_spec h j2 j3 g2 g3 Hp.rdSl Hp.rdSl (by omega) fun w1 h => ?_
  refine takes_spec h i j2 n2 gi (by simp; omega) g2 (by omega) fun g' w1 h => ?_
  have e : ((((its.set i (tBook bw l0 (gs ++ [g]))).set j1 tEmp).set i (tBook bw l0 (gs ++ [g] ++ [g']))).set j2 tEmp) = (((its.set i (tBook bw l0 (gs ++ [g] ++ [g']))).set j1 tEmp).set j2 tEmp) := by
    congr 1
    rw [List.set_comm _ _ n1, List.set_set]
    exact (List.set_comm _ _ n1).symm
  rw [e] at h
  have := hK (gs ++ [g] ++ [g']) w1 (by simp) h
  simpa using this

set_option maxHeartbeats 2000000 in
theorem asked_spec (h : Hp S w0 w its) (i i' i'' : Nat) (hne : [i, i', i''].Nodup) {bw : Nat} {l0 : Sl} {gs : List Grp} {bt br : Nat} {m : TabM} (hok : m.Ok) (hi : its[i]? = some (tBook bw l0 gs)) (hg : gs.length ≤ 90000) (hi' : its[i']? = some (tTab bt m)) (hi'' : its[i'']? = some (tRef br m)) {kind on row col ei eg x : Int} {v : Sl} {K : Bool → World → Prop}
    (hK : ∀ gs' m' w', gs'.length ≤ gs.length + 2 → m'.Ok → m'.n = m.n → Hp S w0 w' (((its.set i (tBook bw l0 gs')).set i' (tTab bt m')).set i'' (tRef br m')) → K true w') : c29 (some ⟨bw, 0, none⟩) (some ⟨bt, 0, none⟩) (some ⟨br, 0, none⟩) kind on row col ei eg x v w K := by
  refine c29_of ?_
  unfold f29
  obtain ⟨O, h1, back⟩ := h.f3 hne hi hi' hi'' rfl rfl rfl
  have fin : ∀ gs' m' w', gs'.length ≤ gs.length + 2 → m'.Ok → m'.n = m.n → Hp O w w' [tBook bw l0 gs', tTab bt m', tRef br m'] → K true w' := fun gs' m' w' q1 q2 q3 hp => by
    have := back (rest := []) rfl rfl rfl rfl hp
    rw [List.append_nil] at this
    exact hK gs' m' w' q1 q2 q3 this
  refine h1.nw (c := [_, _]) fun bp w1 h1 => ?_
  refine h1.nw (c := [_, _, _, _, _, _, _, _]) fun bo w1 h1 => ?_
  simp only [List.cons_append, List.nil_append, List.set_cons_zero, List.set_cons_succ] at h1
  refine h1.ld0 (x := kind) 4 rfl rfl ?_
  by_cases c4 : kind = 4
  · refine ifT (by simpa using c4) ?_
    refine h1.ld0 (k := .p) (x := some ⟨bt, 0, none⟩) 3 rfl rfl ?_
    refine h1.ld (x := row) 4 rfl rfl ?_
    refine h1.ld (x := col) 4 rfl rfl ?_
    by_cases hce : m.cellE row col = 0
    · refine Get_spec h1 1 rfl ?_
      rw [if_pos hce]
      refine h1.ld (k := .p) (x := some ⟨br, 0, none⟩) 3 rfl rfl ?_
      refine h1.ld (x := row) 4 rfl rfl ?_
      refine h1.ld (x := col) 4 rfl rfl ?_
      refine RGet_spec h1 2 hok rfl ?_
      rw [if_pos hce]
      have := fin gs m w1 (by omega) hok rfl (h1.trim 3)
      simpa using this
    · refine Get_spec h1 1 rfl ?_
      rw [if_neg hce]
      refine h1.ld (k := .p) (x := some ⟨br, 0, none⟩) 3 rfl rfl ?_
      refine h1.ld (x := row) 4 rfl rfl ?_
      refine h1.ld (x := col) 4 rfl rfl ?_
      refine RGet_spec h1 2 hok rfl ?_
      rw [if_neg hce]
      have := fin gs m w1 (by omega) hok rfl (h1.trim 3)
      simpa using this
  refine ifF (by simpa using c4) ?_
  by_cases c5 : kind = 5
  · refine ifT (by simpa using c5) ?_
    refine h1.dr fun w1 h1 => ?_
    refine h1.ld0 (k := .p) (x := some ⟨bt, 0, none⟩) 3 rfl rfl ?_
    refine h1.ld (x := row) 4 rfl rfl ?_
    refine h1.ld (x := col) 4 rfl rfl ?_
    refine h1.ld (x := x) 4 rfl rfl ?_
    refine h1.ld (k := .p) (x := some ⟨br, 0, none⟩) 3 rfl rfl ?_
    refine h1.ld (x := row) 4 rfl rfl ?_
    refine h1.ld (x := col) 4 rfl rfl ?_
    refine h1.ld (x := x) 4 rfl rfl ?_
    refine Set_spec h1 1 hok rfl fun w1 h1 => ?_
    refine ⟨h1.cel 4 rfl rfl, h1.cel 4 rfl rfl, h1.cel 4 rfl rfl, h1.cel 3 rfl rfl, ?_⟩
    refine RSet_spec h1 2 hok rfl fun w1 h1 => ?_
    obtain ⟨q1, q2⟩ := setM_ok hok row col x
    have := fin gs (m.setM row col x) w1 (by omega) q1 q2 (h1.trim 3)
    simpa using this
  refine ifF (by simpa using c5) ?_
  by_cases c6 : kind = 6
  · refine ifT (by simpa using c6) ?_
    refine h1.ld0 (k := .p) (x := some ⟨bt, 0, none⟩) 3 rfl rfl ?_
    refine h1.ld (x := row) 4 rfl rfl ?_
    refine Row' h1 1 hok rfl fun l w1 h1 => ?_
    refine h1.nw (c := [_, _]) fun b6 w1 h1 => ?_
    refine h1.st0 6 rfl (by simp) rfl fun w1 h1 => ?_
    refine h1.st 6 rfl (by simp) rfl fun w1 h1 => ?_
    simp only [List.cons_append, List.nil_append, List.set_cons_zero, List.set_cons_succ] at h1
    refine h1.ld0 (k := .p) (x := some ⟨bt, 0, none⟩) 3 rfl rfl ?_
    refine h1.ld (x := row) 4 rfl rfl ?_
    refine Row_skip h1 1 hok rfl fun _ _ _ _ w1 h1 => ?_
    refine h1.ld0 (k := .p) (x := some ⟨bt, 0, none⟩) 3 rfl rfl ?_
    refine h1.ld (x := row) 4 rfl rfl ?_
    refine Row' h1 1 hok rfl fun k w1 h1 => ?_
    refine h1.nw (c := [_, _]) fun b8 w1 h1 => ?_
    refine h1.st0 8 rfl (by simp) rfl fun w1 h1 => ?_
    refine h1.st 8 rfl (by simp) rfl fun w1 h1 => ?_
    simp only [List.cons_append, List.nil_append, List.set_cons_zero, List.set_cons_succ] at h1
    refine h1.ld (k := .p) (x := some ⟨br, 0, none⟩) 3 rfl rfl ?_
    refine h1.ld (x := row) 4 rfl rfl ?_
    refine RRow' h1 2 hok rfl fun mm w1 h1 => ?_
    refine h1.nw (c := [_, _]) fun b10 w1 h1 => ?_
    refine h1.st0 10 rfl (by simp) rfl fun w1 h1 => ?_
    refine h1.st 10 rfl (by simp) rfl fun w1 h1 => ?_
    simp only [List.cons_append, List.nil_append, List.set_cons_zero, List.set_cons_succ] at h1
    refine told_spec h1 0 5 7 9 (by decide) rfl hg rfl rfl rfl (rowM_len hok row) fun gs' w1 hgs h1 => ?_
    simp only [List.cons_append, List.nil_append, List.set_cons_zero, List.set_cons_succ] at h1
    refine ifT rfl ?_
    refine h1.ld0 (k := .i .i64) 6 rfl rfl ?_
    refine h1.ld (k := .i .i64) 6 rfl rfl ?_
    refine h1.ld0 (k := .i .i64) 10 rfl rfl ?_
    refine h1.ld (k := .i .i64) 10 rfl rfl ?_
    refine eqEnt ?_
    refine ifT (by simp) ?_
    refine h1.ld0 (k := .i .i64) 8 rfl rfl ?_
    refine h1.ld (k := .i .i64) 8 rfl rfl ?_
    refine h1.ld0 (k := .i .i64) 10 rfl rfl ?_
    refine h1.ld (k := .i .i64) 10 rfl rfl ?_
    refine eqEnt ?_
    refine ifT (by simp) ?_
    refine ifT (by simp) ?_
    have := fin gs' m w1 hgs hok rfl (h1.trim 3)
    simpa using this
  refine ifF (by simpa using c6) ?_
  by_cases c7' : kind = 7
  · refine ifT (by simpa using c7') ?_
    refine h1.ld0 (k := .p) (x := some ⟨bt, 0, none⟩) 3 rfl rfl ?_
    refine h1.ld (x := col) 4 rfl rfl ?_
    refine Column' h1 1 hok rfl fun l w1 h1 => ?_
    refine h1.ld0 (k := .p) (x := some ⟨bt, 0, none⟩) 3 rfl rfl ?_
    refine Column_skip h1 1 hok rfl fun _ _ w1 h1 => ?_
    refine h1.ld0 (k := .p) (x := some ⟨bt, 0, none⟩) 3 rfl rfl ?_
    refine h1.ld (x := col) 4 rfl rfl ?_
    refine Column' h1 1 hok rfl fun k w1 h1 => ?_
    refine h1.ld (k := .p) (x := some ⟨br, 0, none⟩) 3 rfl rfl ?_
    refine h1.ld (x := col) 4 rfl rfl ?_
    refine RColumn' h1 2 hok rfl fun mm w1 h1 => ?_
    simp only [List.cons_append, List.nil_append, List.set_cons_zero, List.set_cons_succ] at h1
    refine told_spec h1 0 5 6 7 (by decide) rfl hg rfl rfl rfl (colM_len hok col) fun gs' w1 hgs h1 => ?_
    simp only [List.cons_append, List.nil_append, List.set_cons_zero, List.set_cons_succ] at h1
    have := fin gs' m w1 hgs hok rfl (h1.trim 3)
    simpa using this
  refine ifF (by simpa using c7') ?_
  by_cases c8' : kind = 8
  · refine ifT (by simpa using c8') ?_
    refine h1.dr fun w1 h1 => ?_
    refine h1.ld0 (k := .p) (x := some ⟨bt, 0, none⟩) 3 rfl rfl ?_
    refine h1.ld (x := ei) 4 rfl rfl ?_
    refine h1.lda (x := eg) 4 rfl rfl ?_
    refine h1.ld (k := .p) (x := some ⟨br, 0, none⟩) 3 rfl rfl ?_
    refine h1.ld (x := ei) 4 rfl rfl ?_
    refine h1.lda (x := eg) 4 rfl rfl ?_
    refine Find_spec h1 1 rfl (e := (ei, eg)) fun w1 h1 => ?_
    refine ⟨h1.cel 4 rfl rfl, h1.cela 4 rfl rfl, h1.cel 3 rfl rfl, ?_⟩
    refine RFind_spec h1 2 hok rfl (e := (ei, eg)) fun w1 h1 => ?_
    refine ifT (by simp) ?_
    refine h1.ld0 (k := .p) (x := some ⟨bt, 0, none⟩) 3 rfl rfl ?_
    refine h1.ld (k := .p) (x := some ⟨br, 0, none⟩) 3 rfl rfl ?_
    refine Len_spec h1 1 rfl ?_
    refine ⟨h1.cel 3 rfl rfl, ?_⟩
    refine RLen_spec h1 2 rfl ?_
    have := fin gs m w1 (by omega) hok rfl (h1.trim 3)
    simpa using this
  refine ifF (by simpa using c8') ?_
  exact fin gs m w1 (by omega) hok rfl (h1.trim 3)

end
end Go.Proofs.Ytfghoeojpnnkiaa.F
