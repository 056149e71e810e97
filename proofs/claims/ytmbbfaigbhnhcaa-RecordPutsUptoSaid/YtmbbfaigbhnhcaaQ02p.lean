/-
  RecordPuts, called.
-/
import Derived.Test.YtmbbfaigbhnhcaaL02p
import Derived.Test.YtmbbfaigbhnhcaaQ02
set_option linter.unusedVariables false
namespace Go.Proofs.Ytmbbfaigbhnhcaa.F
open Go Go.Den Go.Proofs Go.RowKit

theorem puts_call {w : World} {n n' : Nat} {a a' : Option Addr} {len cap len' cap' : Nat} (h : RdV Try.prog w 1048576 n 22 [.slice a len cap]) (h' : RdV Try.prog w 1048576 n' 22 [.slice a' len' cap']) :
    Calls Try.prog 3 #[.slice a len cap, .slice a' len' cap'] w fun e w' => e = .returned (.bool true) ∧ Below w.heap.size w w' := by
  obtain ⟨s, l, o, g1, g2, hb, _, hl, _⟩ := dec_bytes h
  simp only [List.cons.injEq, Value.slice.injEq, and_true] at g1
  obtain ⟨rfl, rfl, rfl⟩ := g1
  obtain ⟨s', l', o', g1', g2', hb', _, hl', _⟩ := dec_bytes h'
  simp only [List.cons.injEq, Value.slice.injEq, and_true] at g1'
  obtain ⟨rfl, rfl, rfl⟩ := g1'
  exact calls_true (c3_of (b := s) (data := s') (puts_spec g2 g2' hb hb' hl hl' fun w' hf => ⟨rfl, hf⟩))
end Go.Proofs.Ytmbbfaigbhnhcaa.F
