/-
  What a script of steps is in memory.
-/
import Derived.Test.YtmlkjbolccapkaaL04g
import Derived.Test.YtmlkjbolccapkaaDenQ
set_option linter.unusedSimpArgs false
set_option linter.unusedVariables false
namespace Go.Proofs.Ytmlkjbolccapkaa.F
open Go Go.Den Go.Proofs Go.RowKit

theorem und55 : Try.prog.underlying 55 = some (.struct (Try.prog.fieldsOf 55)) := by kernel_rfl
theorem und31 : Try.prog.underlying 31 = some (.struct (Try.prog.fieldsOf 31)) := by kernel_rfl
theorem und42 : Try.prog.underlying 42 = some (.slice 55) := by kernel_rfl
theorem und3 : Try.prog.underlying 3 = some (.int .i64) := by kernel_rfl
theorem cel3 : Try.prog.cellsOf 3 = 1 := by kernel_rfl
theorem cel22 : Try.prog.cellsOf 22 = 1 := by kernel_rfl
theorem cel31 : Try.prog.cellsOf 31 = 2 := by kernel_rfl
theorem cel55 : Try.prog.cellsOf 55 = 7 := by kernel_rfl

theorem dec_ints {w : World} {n : Nat} {cs : List Value} (h : RdV Try.prog w 1048576 n 22 cs) : ∃ (s : Sl) (l : List Int) (o : List Nat), cs = [.slice s.a s.len s.cap] ∧ SlR w s 1 iv l o ∧ l.length ≤ 1000000000 := by
  obtain ⟨s, l, o, h1, h2, _, _, h3, _⟩ := rd_slice (f := iv) (G := fun _ => True) und22 cel3 (by omega) (fun m ci _ hr => by
    obtain ⟨x, hx, _⟩ := rd_int und3 hr
    exact ⟨x, hx, trivial⟩) h
  exact ⟨s, l, o, h1, h2, by omega⟩

theorem dec_op {w : World} {m : Nat} {ci : List Value} (hl : ci.length = 7) (h : RdV Try.prog w 1048576 m 55 ci) : ∃ x : OpM, ci = opc x ∧ OpAt w x := by
  obtain ⟨_, q, hf⟩ := rd_struct und55 h
  match ci, hl with
  | [c0, c1, c2, c3, c4, c5, c6], _ =>
    obtain ⟨m0, e0, _⟩ := rd_int und3 (rd_field hf 0 (ft := 3) (off := 0) (sz := 1) (by kernel_rfl) cel3)
    obtain ⟨m1, e1, k1⟩ := rd_int und3 (rd_field hf 1 (ft := 3) (off := 1) (sz := 1) (by kernel_rfl) cel3)
    obtain ⟨m2, e2, k2⟩ := rd_int und3 (rd_field hf 2 (ft := 3) (off := 2) (sz := 1) (by kernel_rfl) cel3)
    have hE := rd_field hf 3 (ft := 31) (off := 3) (sz := 2) (by kernel_rfl) cel31
    obtain ⟨_, q', hf'⟩ := rd_struct und31 hE
    obtain ⟨m3, e3, _⟩ := rd_int und3 (rd_field hf' 0 (ft := 3) (off := 0) (sz := 1) (by kernel_rfl) cel3)
    obtain ⟨m4, e4, _⟩ := rd_int und3 (rd_field hf' 1 (ft := 3) (off := 1) (sz := 1) (by kernel_rfl) cel3)
    obtain ⟨s, l, o, e5, h2, h3⟩ := dec_ints (rd_field hf 4 (ft := 22) (off := 5) (sz := 1) (by kernel_rfl) cel22)
    obtain ⟨s', l', o', e6, h4, h5⟩ := dec_ints (rd_field hf 5 (ft := 22) (off := 6) (sz := 1) (by kernel_rfl) cel22)
    simp only [List.drop_zero, List.drop_succ_cons, List.take_succ_cons, List.take_zero, List.cons.injEq, and_true] at e0 e1 e2 e3 e4 e5 e6
    subst e0 e1 e2 e3 e4 e5 e6
    have hm1 : IntKind.i64.min ≤ m1 ∧ m1 ≤ IntKind.i64.max := by simpa [Lit.wf] using k1
    have hm2 : IntKind.i64.min ≤ m2 ∧ m2 ≤ IntKind.i64.max := by simpa [Lit.wf] using k2
    exact ⟨⟨m0, m1, m2, m3, m4, s, s'⟩, rfl, hm1.1, hm2.1, ⟨l, o, h2, h3⟩, l', o', h4, h5⟩

theorem plays_call {w : World} {n : Nat} {one two : Int} {a : Option Addr} {len cap : Nat} (h : RdV Try.prog w 1048576 n 42 [.slice a len cap]) :
    Calls Try.prog 4 #[.int .i64 one, .int .i64 two, .slice a len cap] w fun e w' => e = .returned (.bool true) ∧ Below w.heap.size w w' := by
  obtain ⟨s, l, o, h1, h2, h3, _⟩ := rd_slice (f := opc) (G := OpAt w) und42 cel55 (by omega) (fun m ci hl hr => dec_op hl hr) h
  simp only [List.cons.injEq, Value.slice.injEq, and_true] at h1
  obtain ⟨rfl, rfl, rfl⟩ := h1
  exact calls_true (c4_of (script := s) (plays_spec h2 h3 fun w' hf => ⟨rfl, hf⟩))

end Go.Proofs.Ytmlkjbolccapkaa.F
