/-
  RecordReads, called.
-/
import Derived.Test.YtmbbfaigbhnhcaaL02r
import Derived.Test.YtmbbfaigbhnhcaaQ02
set_option linter.unusedVariables false
namespace Go.Proofs.Ytmbbfaigbhnhcaa.F
open Go Go.Den Go.Proofs Go.RowKit

theorem reads_call {w : World} {n : Nat} {a : Option Addr} {len cap : Nat} {stop : Int} (h : RdV Try.prog w 1048576 n 22 [.slice a len cap]) :
    Calls Try.prog 4 #[.slice a len cap, .int .i64 stop] w fun e w' => e = .returned (.bool true) ∧ Below w.heap.size w w' := by
  obtain ⟨s, l, o, g1, g2, hb, _, hl, hc⟩ := dec_bytes h
  simp only [List.cons.injEq, Value.slice.injEq, and_true] at g1
  obtain ⟨rfl, rfl, rfl⟩ := g1
  exact calls_true (c4_of (b := s) (reads_spec g2 hb hl hc fun w' hf => ⟨rfl, hf⟩))
end Go.Proofs.Ytmbbfaigbhnhcaa.F
