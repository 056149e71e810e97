/-
  PackGets: what came in is in memory.
-/
import Derived.Test.YtbmpgjheiknjlaaL01g
import Derived.Test.YtbmpgjheiknjlaaQ01
set_option linter.unusedSimpArgs false
set_option linter.unusedVariables false
namespace Go.Proofs.Ytbmpgjheiknjlaa.F
open Go Go.Den Go.Proofs Go.RowKit

theorem und3 : Try.prog.underlying 3 = some (.int .i64) := by kernel_rfl

theorem gets_call {w : World} {B n : Nat} {a : Option Addr} {len cap : Nat} {most : Int} (h : RdV Try.prog w B n 22 [.slice a len cap]) :
    Calls Try.prog 4 #[.slice a len cap, .int .i64 most] w fun e w' => e = .returned (.bool true) ∧ Below w.heap.size w w' := by
  obtain ⟨s, l, o, g1, g2, hb, hl, _, hc⟩ := dec_bytes h
  simp only [List.cons.injEq, Value.slice.injEq, and_true] at g1
  obtain ⟨rfl, rfl, rfl⟩ := g1
  exact calls_true (c4_of (b := s) (gets_spec g2 hc hb hl fun w' hf => ⟨rfl, hf⟩))
end Go.Proofs.Ytbmpgjheiknjlaa.F
