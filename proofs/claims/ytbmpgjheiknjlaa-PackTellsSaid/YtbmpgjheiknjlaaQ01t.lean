/-
  PackTells: what came in is in memory.
-/
import Derived.Test.YtbmpgjheiknjlaaL01t
import Derived.Test.YtbmpgjheiknjlaaQ01
set_option linter.unusedSimpArgs false
set_option linter.unusedVariables false
namespace Go.Proofs.Ytbmpgjheiknjlaa.F
open Go Go.Den Go.Proofs Go.RowKit

theorem und3 : Try.prog.underlying 3 = some (.int .i64) := by kernel_rfl
theorem und52 : Try.prog.underlying 52 = some (.int .u32) := by kernel_rfl

theorem tells_call {w : World} {B n : Nat} {a : Option Addr} {len cap : Nat} {at_ bits : Int} (h : RdV Try.prog w B n 22 [.slice a len cap]) (h1 : (Lit.int .i64 at_).wf = true) (h2 : (Lit.int .u32 bits).wf = true) :
    Calls Try.prog 7 #[.slice a len cap, .int .i64 at_, .int .u32 bits] w fun e w' => e = .returned (.bool true) ∧ Below w.heap.size w w' := by
  obtain ⟨s, l, o, g1, g2, hb, hl, _, _⟩ := dec_bytes h
  simp only [List.cons.injEq, Value.slice.injEq, and_true] at g1
  obtain ⟨rfl, rfl, rfl⟩ := g1
  have m1 : IntKind.i64.min ≤ at_ ∧ at_ ≤ IntKind.i64.max := by simpa [Lit.wf] using h1
  have m2 : IntKind.u32.min ≤ bits ∧ bits ≤ IntKind.u32.max := by simpa [Lit.wf] using h2
  have k1 : IntKind.u32.min = 0 := by decide
  have k2 : IntKind.u32.max = 4294967295 := by decide
  exact calls_true (c7_of (b := s) (tells_spec g2 hb hl m1.1 m1.2 (by omega) (by omega) fun w' hf => ⟨rfl, hf⟩))
end Go.Proofs.Ytbmpgjheiknjlaa.F
