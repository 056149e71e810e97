/-
  RecordTorn, called.
-/
import Derived.Test.YtmbbfaigbhnhcaaL02t
import Derived.Test.YtmbbfaigbhnhcaaQ02
set_option linter.unusedVariables false
namespace Go.Proofs.Ytmbbfaigbhnhcaa.F
open Go Go.Den Go.Proofs Go.RowKit

theorem torn_call {w : World} {B n n' : Nat} {a a' : Option Addr} {len cap len' cap' : Nat} {at_ turn : Int} (h : RdV Try.prog w B n 22 [.slice a len cap]) (h' : RdV Try.prog w B n' 22 [.slice a' len' cap']) (h1 : (Lit.int .i64 at_).wf = true) (h2 : (Lit.int .i64 turn).wf = true) :
    Calls Try.prog 6 #[.slice a len cap, .slice a' len' cap', .int .i64 at_, .int .i64 turn] w fun e w' => e = .returned (.bool true) ∧ Below w.heap.size w w' := by
  obtain ⟨s, l, o, g1, g2, hb, _, _, _⟩ := dec_bytes h
  simp only [List.cons.injEq, Value.slice.injEq, and_true] at g1
  obtain ⟨rfl, rfl, rfl⟩ := g1
  obtain ⟨s', l', o', g1', g2', hb', _, _, _⟩ := dec_bytes h'
  simp only [List.cons.injEq, Value.slice.injEq, and_true] at g1'
  obtain ⟨rfl, rfl, rfl⟩ := g1'
  have r1 := int_range h1
  have r2 := int_range h2
  exact calls_true (c6_of (ahead := s) (data := s') (torn_spec g2 g2' hb hb' r1.1 r1.2 r2.1 r2.2 fun w' hf => ⟨rfl, hf⟩))
end Go.Proofs.Ytmbbfaigbhnhcaa.F
