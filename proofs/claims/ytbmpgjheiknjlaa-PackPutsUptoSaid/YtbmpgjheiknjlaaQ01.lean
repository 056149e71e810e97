/-
  What bytes that came in are in memory.
-/
import Derived.Test.YtbmpgjheiknjlaaL01s
import Derived.Test.YtbmpgjheiknjlaaDenQ
set_option linter.unusedSimpArgs false
set_option linter.unusedVariables false
namespace Go.Proofs.Ytbmpgjheiknjlaa.F
open Go Go.Den Go.Proofs Go.RowKit

theorem cel5 : Try.prog.cellsOf 5 = 1 := by kernel_rfl
theorem byt5 : Try.prog.bytesOf 5 = 1 := by kernel_rfl

theorem dec_bytes {w : World} {B n : Nat} {cs : List Value} (h : RdV Try.prog w B n 22 cs) : ∃ (s : Sl) (l : List Int) (o : List Nat), cs = [.slice s.a s.len s.cap] ∧ SlR w s 1 u8v l o ∧ Bytes l ∧ l.length ≤ 140737488351232 ∧ l.length ≤ B ∧ s.len ≤ s.cap := by
  obtain ⟨s, l, o, h1, h2, hb, h3, h4, h5⟩ := rd_slice (f := u8v) (G := fun x => 0 ≤ x ∧ x < 256) und22 cel5 (by omega) (fun m ci _ hr => by
    obtain ⟨x, hx, hw⟩ := rd_int und5 hr
    have hm : IntKind.u8.min ≤ x ∧ x ≤ IntKind.u8.max := by simpa [Lit.wf] using hw
    have h1 : IntKind.u8.min = 0 := by decide
    have h2 : IntKind.u8.max = 255 := by decide
    exact ⟨x, hx, by omega⟩) h
  rw [byt5] at h3
  have : reachBytes = 140737488351232 := rfl
  exact ⟨s, l, o, h1, h2, hb, by omega, h4, h5⟩

theorem sums_call {w : World} {B n : Nat} {a : Option Addr} {len cap : Nat} (h : RdV Try.prog w B n 22 [.slice a len cap]) :
    Calls Try.prog 5 #[.slice a len cap] w fun e w' => e = .returned (.bool true) ∧ Below w.heap.size w w' := by
  obtain ⟨s, l, o, h1, h2, hb, hl, _, _⟩ := dec_bytes h
  simp only [List.cons.injEq, Value.slice.injEq, and_true] at h1
  obtain ⟨rfl, rfl, rfl⟩ := h1
  exact calls_true (c5_of (b := s) (sums_spec h2 hb hl fun w' hf => ⟨rfl, hf⟩))
end Go.Proofs.Ytbmpgjheiknjlaa.F
