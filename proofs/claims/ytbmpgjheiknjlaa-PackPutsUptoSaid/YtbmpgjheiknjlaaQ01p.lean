/-
  PackPuts: what came in is in memory.
-/
import Derived.Test.YtbmpgjheiknjlaaL01p
import Derived.Test.YtbmpgjheiknjlaaQ01
set_option linter.unusedSimpArgs false
set_option linter.unusedVariables false
namespace Go.Proofs.Ytbmpgjheiknjlaa.F
open Go Go.Den Go.Proofs Go.RowKit

theorem und2 : Try.prog.underlying 2 = some (.int .i64) := by kernel_rfl
theorem und23 : Try.prog.underlying 23 = some (.int .u64) := by kernel_rfl
theorem cel2 : Try.prog.cellsOf 2 = 1 := by kernel_rfl

theorem dec_i64 {w : World} {B n : Nat} {cs : List Value} (h : RdV Try.prog w B n 24 cs) : ∃ (s : Sl) (l : List Int) (o : List Nat), cs = [.slice s.a s.len s.cap] ∧ SlR w s 1 iv l o ∧ R64 l ∧ l.length ≤ B := by
  obtain ⟨s, l, o, h1, h2, hb, h3, h4, h5⟩ := rd_slice (f := iv) (G := fun x => -9223372036854775808 ≤ x ∧ x ≤ 9223372036854775807) und24 cel2 (by omega) (fun m ci _ hr => by
    obtain ⟨x, hx, hw⟩ := rd_int und2 hr
    have hm : IntKind.i64.min ≤ x ∧ x ≤ IntKind.i64.max := by simpa [Lit.wf] using hw
    exact ⟨x, hx, hm⟩) h
  exact ⟨s, l, o, h1, h2, hb, h4⟩

theorem puts_call {w : World} {n' n'' : Nat} {a a' : Option Addr} {len cap len' cap' : Nat} {n m : Int} {s : ByteArray} (h : RdV Try.prog w 1048576 n' 22 [.slice a len cap]) (h' : RdV Try.prog w 1048576 n'' 24 [.slice a' len' cap']) (h1 : (Lit.int .u64 n).wf = true) (h2 : (Lit.int .i64 m).wf = true) (hs : s.size ≤ 1048576) :
    Calls Try.prog 3 #[.slice a len cap, .int .u64 n, .int .i64 m, .string s, .slice a' len' cap'] w fun e w' => e = .returned (.bool true) ∧ Below w.heap.size w w' := by
  obtain ⟨b, l, o, g1, g2, hb, _, hl, hc⟩ := dec_bytes h
  obtain ⟨b', l', o', g1', g2', hb', hl'⟩ := dec_i64 h'
  simp only [List.cons.injEq, Value.slice.injEq, and_true] at g1 g1'
  obtain ⟨rfl, rfl, rfl⟩ := g1
  obtain ⟨rfl, rfl, rfl⟩ := g1'
  have m1 : IntKind.u64.min ≤ n ∧ n ≤ IntKind.u64.max := by simpa [Lit.wf] using h1
  have m2 : IntKind.i64.min ≤ m ∧ m ≤ IntKind.i64.max := by simpa [Lit.wf] using h2
  have k1 : IntKind.u64.min = 0 := by decide
  have k2 : IntKind.u64.max = 18446744073709551615 := by decide
  exact calls_true (c3_of (l := b') (b := b) (puts_spec g2 hb hl g2' hb' hl' hs (by omega) (by omega) m2.1 m2.2 fun w' hf => ⟨rfl, hf⟩))
end Go.Proofs.Ytbmpgjheiknjlaa.F
