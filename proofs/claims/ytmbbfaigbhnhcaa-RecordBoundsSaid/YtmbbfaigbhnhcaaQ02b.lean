/-
  RecordBounds, called.
-/
import Derived.Test.YtmbbfaigbhnhcaaL02b
import Derived.Test.YtmbbfaigbhnhcaaDenR
set_option linter.unusedVariables false
namespace Go.Proofs.Ytmbbfaigbhnhcaa.F
open Go Go.Den Go.Proofs Go.RowKit

theorem bounds_call {w : World} {n fill : Int} (hn : (Lit.int .i64 n).wf = true) (hf : (Lit.int .u8 fill).wf = true) :
    Calls Try.prog 7 #[.int .i64 n, .int .u8 fill] w fun e w' => e = .returned (.bool true) ∧ Below w.heap.size w w' := by
  have w0' : IntKind.i64.min ≤ n ∧ n ≤ IntKind.i64.max := by simpa [Lit.wf] using hn
  have w1' : IntKind.u8.min ≤ fill ∧ fill ≤ IntKind.u8.max := by simpa [Lit.wf] using hf
  have e1 : IntKind.u8.min = 0 := by decide
  have e2 : IntKind.u8.max = 255 := by decide
  have e3 : IntKind.i64.min = -9223372036854775808 := by decide
  have e4 : IntKind.i64.max = 9223372036854775807 := by decide
  exact calls_true (c7_of (bounds_spec (by omega) (by omega) (by omega) (by omega) fun w' hf => ⟨rfl, hf⟩))
end Go.Proofs.Ytmbbfaigbhnhcaa.F
