/-
  What bytes that came in are in memory.
-/
import Derived.Test.YtmbbfaigbhnhcaaC02h
import Derived.Test.YtmbbfaigbhnhcaaDenQ
set_option linter.unusedSimpArgs false
set_option linter.unusedVariables false
namespace Go.Proofs.Ytmbbfaigbhnhcaa.F
open Go Go.Den Go.Proofs Go.RowKit

theorem cel5 : Try.prog.cellsOf 5 = 1 := by kernel_rfl
theorem byt5 : Try.prog.bytesOf 5 = 1 := by kernel_rfl

theorem dec_bytes {w : World} {B n : Nat} {cs : List Value} (h : RdV Try.prog w B n 22 cs) : ∃ (s : Sl) (l : List Int) (o : List Nat), cs = [.slice s.a s.len s.cap] ∧ SlR w s 1 u8v l o ∧ Bytes l ∧ l.length ≤ 140737488351232 ∧ l.length ≤ B ∧ s.len ≤ s.cap := by
  obtain ⟨s, l, o, h1, h2, hb, h3, h4, h5⟩ := rd_slice (f := u8v) (G := fun x => 0 ≤ x ∧ x < 256) und22 cel5 (by omega) (fun m ci _ hr => by
    obtain ⟨x, hx, hw⟩ := rd_int und5 hr
    have hm : IntKind.u8.min ≤ x ∧ x ≤ IntKind.u8.max := by simpa [Lit.wf] using hw
    have h1 : IntKind.u8.min = 0 := by decide
    have h2 : IntKind.u8.max = 255 := by decide
    exact ⟨x, hx, by omega⟩) h
  rw [byt5] at h3
  have : reachBytes = 140737488351232 := rfl
  exact ⟨s, l, o, h1, h2, hb, by omega, h4, h5⟩

theorem int_range {n : Int} (hn : (Lit.int .i64 n).wf = true) : -9223372036854775808 ≤ n ∧ n ≤ 9223372036854775807 := by
  have w0' : IntKind.i64.min ≤ n ∧ n ≤ IntKind.i64.max := by simpa [Lit.wf] using hn
  have e3 : IntKind.i64.min = -9223372036854775808 := by decide
  have e4 : IntKind.i64.max = 9223372036854775807 := by decide
  omega
end Go.Proofs.Ytmbbfaigbhnhcaa.F
