/-
  What a script of steps is in memory.
-/
import Derived.Test.YtfghoeojpnnkiaaL05t
import Derived.Test.YtfghoeojpnnkiaaDenQ
set_option linter.unusedSimpArgs false
set_option linter.unusedVariables false
namespace Go.Proofs.Ytfghoeojpnnkiaa.F
open Go Go.Den Go.Proofs Go.RowKit

theorem und56 : Try.prog.underlying 56 = some (.struct (Try.prog.fieldsOf 56)) := by kernel_rfl
theorem und48 : Try.prog.underlying 48 = some (.slice 56) := by kernel_rfl
theorem und2 : Try.prog.underlying 2 = some (.int .i64) := by kernel_rfl
theorem und3 : Try.prog.underlying 3 = some (.int .i64) := by kernel_rfl
theorem cel3 : Try.prog.cellsOf 3 = 1 := by kernel_rfl
theorem cel2 : Try.prog.cellsOf 2 = 1 := by kernel_rfl
theorem cel32 : Try.prog.cellsOf 32 = 2 := by kernel_rfl
theorem cel34 : Try.prog.cellsOf 34 = 1 := by kernel_rfl
theorem cel56 : Try.prog.cellsOf 56 = 8 := by kernel_rfl
theorem byt2 : Try.prog.bytesOf 2 = 8 := by kernel_rfl

theorem dec_ints {w : World} {B n : Nat} {cs : List Value} (h : RdV Try.prog w B n 34 cs) : ∃ (s : Sl) (l : List Int) (o : List Nat), cs = [.slice s.a s.len s.cap] ∧ SlR w s 1 iv l o ∧ l.length ≤ 20000000000000 := by
  obtain ⟨s, l, o, h1, h2, _, h3, _⟩ := rd_slice (f := iv) (G := fun _ => True) und34 cel2 (by omega) (fun m ci _ hr => by
    obtain ⟨x, hx, _⟩ := rd_int und2 hr
    exact ⟨x, hx, trivial⟩) h
  refine ⟨s, l, o, h1, h2, ?_⟩
  rw [byt2] at h3
  have : reachBytes = 140737488351232 := rfl
  omega

theorem dec_step {w : World} {B m : Nat} {ci : List Value} (hl : ci.length = 8) (h : RdV Try.prog w B m 56 ci) :
    ∃ x : Stp, ci = stepc x ∧ -9223372036854775808 ≤ x.on ∧ ∃ (xs : List Int) (o' : List Nat), SlR w x.v 1 iv xs o' ∧ xs.length ≤ 20000000000000 := by
  obtain ⟨_, q, hf⟩ := rd_struct und56 h
  match ci, hl with
  | [c0, c1, c2, c3, c4, c5, c6, c7], _ =>
    obtain ⟨m0, e0, _⟩ := rd_int und3 (rd_field hf 0 (ft := 3) (off := 0) (sz := 1) (by kernel_rfl) cel3)
    obtain ⟨m1, e1, k1⟩ := rd_int und3 (rd_field hf 1 (ft := 3) (off := 1) (sz := 1) (by kernel_rfl) cel3)
    obtain ⟨m2, e2, _⟩ := rd_int und3 (rd_field hf 2 (ft := 3) (off := 2) (sz := 1) (by kernel_rfl) cel3)
    obtain ⟨m3, e3, _⟩ := rd_int und3 (rd_field hf 3 (ft := 3) (off := 3) (sz := 1) (by kernel_rfl) cel3)
    have hE := rd_field hf 4 (ft := 32) (off := 4) (sz := 2) (by kernel_rfl) cel32
    obtain ⟨_, q', hf'⟩ := rd_struct und32 hE
    obtain ⟨m4, e4, _⟩ := rd_int und3 (rd_field hf' 0 (ft := 3) (off := 0) (sz := 1) (by kernel_rfl) cel3)
    obtain ⟨m5, e5, _⟩ := rd_int und3 (rd_field hf' 1 (ft := 3) (off := 1) (sz := 1) (by kernel_rfl) cel3)
    obtain ⟨m6, e6, _⟩ := rd_int und2 (rd_field hf 5 (ft := 2) (off := 6) (sz := 1) (by kernel_rfl) cel2)
    obtain ⟨s, l, o, e7, h2, h3⟩ := dec_ints (rd_field hf 6 (ft := 34) (off := 7) (sz := 1) (by kernel_rfl) cel34)
    simp only [List.drop_zero, List.drop_succ_cons, List.take_succ_cons, List.take_zero, List.cons.injEq, and_true] at e0 e1 e2 e3 e4 e5 e6 e7
    subst e0 e1 e2 e3 e4 e5 e6 e7
    refine ⟨⟨m0, m1, m2, m3, m4, m5, m6, s⟩, rfl, ?_, l, o, h2, h3⟩
    have hm : IntKind.i64.min ≤ m1 ∧ m1 ≤ IntKind.i64.max := by simpa [Lit.wf] using k1
    exact hm.1

theorem plays_call {w : World} {B n : Nat} {a : Option Addr} {len cap : Nat} (h : RdV Try.prog w B n 48 [.slice a len cap]) :
    Calls Try.prog 5 #[.slice a len cap] w fun e w' => e = .returned (.bool true) ∧ Below w.heap.size w w' := by
  obtain ⟨s, l, o, h1, h2, h3, _⟩ := rd_slice (f := stepc) (G := fun x => -9223372036854775808 ≤ x.on ∧ ∃ (xs : List Int) (o' : List Nat), SlR w x.v 1 iv xs o' ∧ xs.length ≤ 20000000000000) und48 cel56 (by omega) (fun m ci hl hr => dec_step hl hr) h
  simp only [List.cons.injEq, Value.slice.injEq, and_true] at h1
  obtain ⟨rfl, rfl, rfl⟩ := h1
  exact calls_true (c5_of (script := s) (plays_spec h2 (fun x hx => (h3 x hx).2) (fun x hx => (h3 x hx).1) fun w' hf => ⟨rfl, hf⟩))

end Go.Proofs.Ytfghoeojpnnkiaa.F
