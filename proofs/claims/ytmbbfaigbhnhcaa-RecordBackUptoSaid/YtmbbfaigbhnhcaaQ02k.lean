/-
  RecordBack, called.
-/
import Derived.Test.YtmbbfaigbhnhcaaL02k
import Derived.Test.YtmbbfaigbhnhcaaQ02
set_option linter.unusedVariables false
namespace Go.Proofs.Ytmbbfaigbhnhcaa.F
open Go Go.Den Go.Proofs Go.RowKit

theorem cel22 : Try.prog.cellsOf 22 = 1 := by kernel_rfl

theorem back_call {w : World} {n n' : Nat} {a a' : Option Addr} {len cap len' cap' : Nat} (h : RdV Try.prog w 1048576 n 34 [.slice a len cap]) (h' : RdV Try.prog w 1048576 n' 22 [.slice a' len' cap']) :
    Calls Try.prog 5 #[.slice a len cap, .slice a' len' cap'] w fun e w' => e = .returned (.bool true) ∧ Below w.heap.size w w' := by
  obtain ⟨s, ls, o, g1, g2, hb, _, _, _⟩ := rd_slice (f := slv) (G := fun x => ∃ (l : List Int) (o : List Nat), SlR w x 1 u8v l o ∧ Bytes l ∧ l.length ≤ 1048576) und34 cel22 (by omega) (fun m ci _ hr => by
    obtain ⟨x, l, o, h1, h2, hb, _, h3, _⟩ := dec_bytes hr
    exact ⟨x, h1, l, o, h2, hb, h3⟩) h
  simp only [List.cons.injEq, Value.slice.injEq, and_true] at g1
  obtain ⟨rfl, rfl, rfl⟩ := g1
  obtain ⟨s', l', o', g1', g2', hb', _, hl', hc'⟩ := dec_bytes h'
  simp only [List.cons.injEq, Value.slice.injEq, and_true] at g1'
  obtain ⟨rfl, rfl, rfl⟩ := g1'
  obtain ⟨Ls, hLl, hrow⟩ : ∃ Ls : List (List Int), ls.length = Ls.length ∧ ∀ (i : Nat) (hi : i < Ls.length), ∃ x o, ls[i]? = some x ∧ SlR w x 1 u8v Ls[i] o ∧ Bytes Ls[i] ∧ Ls[i].length ≤ 1048576 := by
    clear g2 h
    revert hb
    generalize ls = ls
    intro hb
    induction ls with
    | nil => exact ⟨[], rfl, fun i hi => by simp at hi⟩
    | cons x ls ih =>
      obtain ⟨Ls, h1, h2⟩ := ih (fun y hy => hb y (by simp [hy]))
      obtain ⟨l, o, g1, g2, g3⟩ := hb x (by simp)
      refine ⟨l :: Ls, by simp [h1], fun i hi => ?_⟩
      cases i with
      | zero => exact ⟨x, o, rfl, g1, g2, g3⟩
      | succ i => exact h2 i (by simpa using hi)
  exact calls_true (c5_of (l := s) (junk := s') (back_spec g2 g2' hb' hl' hc' hLl hrow fun w' hf => ⟨rfl, hf⟩))
end Go.Proofs.Ytmbbfaigbhnhcaa.F
