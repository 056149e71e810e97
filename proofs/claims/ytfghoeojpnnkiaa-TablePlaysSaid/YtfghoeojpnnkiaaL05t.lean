/-
  The walk of TablePlays: the law itself.
-/
import Derived.Test.YtfghoeojpnnkiaaL05s
set_option linter.unusedSimpArgs false
set_option linter.unusedVariables false
namespace Go.Proofs.Ytfghoeojpnnkiaa.F
open Go Go.Den Go.Proofs

structure Stp where
  kind : Int
  on : Int
  row : Int
  col : Int
  ei : Int
  eg : Int
  x : Int
  v : Sl

def stepc (s : Stp) : List Value := [.int .i64 s.kind, .int .i64 s.on, .int .i64 s.row, .int .i64 s.col, .int .i64 s.ei, .int .i64 s.eg, .int .i64 s.x, .slice s.v.a s.v.len s.v.cap]
theorem stepc_len (s : Stp) : (stepc s).length = 8 := rfl

theorem play_see {S : List Nat} {w0 w : World} {its : List Thing} (h : Hp S w0 w its) (i : Nat) {bw : Nat} {ps : List Pr} {gs : List Grp} (hi : (its[i]?).map Thing.holds = some (tPlay bw ps gs).holds) :
    ∃ l : Sl, l.len = ps.length ∧ Hp [] w w [(tBook bw l gs).ro] := by
  obtain ⟨O, l, O1, O2, h1, ⟨O3, O4, h2, _⟩, _⟩ := h.see' hi
  refine ⟨l, ?_, (Hp.init w).addRo h1 (by simp)⟩
  have := SlF.len (α := Nat × Nat) (f := pairc) (n := 2) (e := 74) h2
  rw [ptrs_len] at this
  exact this.symm

set_option maxRecDepth 100000 in
theorem plays_spec {script : Sl} {sts : List Stp} {o : List Nat} {w : World} {K : Bool → World → Prop} (hs : SlR w script 8 stepc sts o) (hv : ∀ s ∈ sts, ∃ (xs : List Int) (o' : List Nat), SlR w s.v 1 iv xs o' ∧ xs.length ≤ 20000000000000)
    (hon : ∀ s ∈ sts, -9223372036854775808 ≤ s.on) (hK : ∀ w', Fr [] w w' → K true w') : f5 script w K := by
  unfold f5
  refine shown_spec fun w1 f1 => ?_
  have h := (Hp.begin_ w).keep f1
  have h := h.addRo (t := tRd script 8 stepc sts) hs (by simp)
  have hsl := h.lenR (n := 8) (f := stepc) (l := sts) (s := script) 0 rfl
  refine (Hp.begin_ w1).nw (c := [_, _, _]) fun bw w2 h2 => ?_
  have h2 := h2.nil 34 1 slv
  have h2 := h2.nil 2 1 iv
  have h2 := h2.grow (Fr.refl _ _) (t := tAll []) (O := []) rfl (by simp) rfl
  have h2 := book_close (l := ⟨none, 0, 0⟩) (gs := []) (ls := ⟨none, 0, 0⟩) (ms := ⟨none, 0, 0⟩) (rest := []) h2
  have h2 := h2.nil 74 2 pairc
  have h2 := h2.grow (Fr.refl _ _) (t := tAll []) (O := []) rfl (by simp) rfl
  have h2 := play_close (ps := []) (gs := []) (l := ⟨none, 0, 0⟩) (rest := []) h2
  have h := h.r0 rfl h2
  have h := h.nil 2 1 iv
  refine step_spec h 1 2 (by omega) rfl (kind := 1) (on := 0) (row := 2) (xs := []) rfl Hp.rdSl (by simp) (by simp) (by simp) (.inl rfl) (by omega) fun ps gs w2 k1 k2 k3 k4 h => ?_
  have hps : ps.length = 1 := k4 rfl (by omega) (by omega)
  have h := h.trim 2
  refine ⟨fun w' => Hp [] w w' [(tRd script 8 stepc sts).ro, tPlay bw ps gs], ?_, ?_⟩
  · refine ifF (by simp) ?_
    refine ifF (by simp) ?_
    obtain ⟨l, hl, hb⟩ := play_see h 1 rfl
    obtain ⟨ls, ms, hb⟩ := book_see hb 0 rfl
    refine hb.ld0 (x := l) 0 rfl rfl ?_
    refine ifF (by simp; omega) ?_
    exact h
  rintro w3 h
  refine ⟨fun i mm w' => ∃ (k : Nat) (ps : List Pr) (gs : List Grp), i = k ∧ k ≤ script.len ∧ k ≤ 300 ∧ mm + k = script.len ∧ gs.length ≤ 2 * k + 2 ∧ 0 < ps.length ∧ ps.length ≤ k + 1 ∧ Hp [] w w' [(tRd script 8 stepc sts).ro, tPlay bw ps gs],
    ⟨script.len, 0, ps, gs, rfl, by omega, by omega, by omega, by simp at k1; omega, by omega, by omega, h⟩, ?_⟩
  rintro i mm w4 ⟨k, ps, gs, rfl, hk1, hk2, hmm, hg, hp0, hp1, h⟩
  by_cases hlt : k < script.len ∧ k < 300
  · refine ifT (by simp; omega) ?_
    have hkl : k < sts.length := by omega
    obtain ⟨xs, o', hvs, hxs⟩ := hv sts[k] (List.getElem_mem hkl)
    refine h.ixrR 0 (n := 8) (f := stepc) (y := sts[k]) rfl (by omega) (by simp [hkl]) stepc_len fun a ha => ?_
    refine ldR0 (k := .i .i64) (x := sts[k].kind) (ha 0 (by omega)) rfl ?_
    refine ldR (k := .i .i64) (x := sts[k].on) (ha 1 (by omega)) rfl ?_
    refine ldR (k := .i .i64) (x := sts[k].row) (ha 2 (by omega)) rfl ?_
    refine ldR (k := .i .i64) (x := sts[k].col) (ha 3 (by omega)) rfl ?_
    refine ldR (k := .i .i64) (x := sts[k].ei) (ha 4 (by omega)) rfl ?_
    refine ldR (k := .i .i64) (x := sts[k].eg) (ha 5 (by omega)) rfl ?_
    refine ldR (k := .i .i64) (x := sts[k].x) (ha 6 (by omega)) rfl ?_
    refine ldR (k := .sl) (x := sts[k].v) (ha 7 (by omega)) rfl ?_
    have h := h.addRo (t := tRd sts[k].v 1 iv xs) hvs (by simp)
    refine step_spec h 1 2 (by omega) rfl (u := (tRd sts[k].v 1 iv xs).ro) rfl ⟨fun {w O} h => ⟨O, h⟩⟩ hxs (by omega) (by omega) (.inr hp0) (hon _ (List.getElem_mem hkl)) fun ps' gs' w2 k1 k2 k3 _ h => ?_
    have h := h.trim 2
    -- the lists are looked at
    obtain ⟨l, h2⟩ := play_open h (i := 1) rfl
    refine looks_spec h2 1 rfl (by omega) fun w5 h2 => ?_
    refine ifF (by simp) ?_
    have h3 := play_close (rest := []) (h2.sel3 1 2 3 (by decide) rfl rfl rfl)
    have h3 := h3.addRo (t := tRd script 8 stepc sts) hs (by simp)
    have h3 := h3.sel2 1 0 (by omega) rfl rfl
    exact ⟨mm - 1, by omega, k + 1, ps', gs', by rw [wr64 (by omega) (by omega)]; omega, by omega, by omega, by omega, by omega, by omega, by omega, h3⟩
  · refine ifF (by simp; omega) ?_
    exact hK _ h.fr

end Go.Proofs.Ytfghoeojpnnkiaa.F
