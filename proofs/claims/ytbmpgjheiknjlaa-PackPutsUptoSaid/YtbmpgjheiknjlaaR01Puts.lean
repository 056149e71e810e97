/-
  PackPuts of layer 1 is true of the given program for every input that its guards let in (of bulk at most 1048576).
-/
import Derived.Test.YtbmpgjheiknjlaaRows
import Derived.WalkKit
import Derived.ProofKit
import Derived.OpenShut
import Derived.ShutString
import Derived.ChangeOld
import Derived.Below
import Derived.SizedLaws
import Derived.JoinedCond
import Derived.Deep.CondSized
import Derived.Test.YtbmpgjheiknjlaaDenQ
import Derived.Test.YtbmpgjheiknjlaaQ01p
namespace Go.Proofs.Ytbmpgjheiknjlaa.packPuts
open Go.ChangeShapes Go.WideShapes Go.ChangeAt Go.RowKit
open Go.ChangeMaps (open_string shut_string)
set_option linter.unusedVariables false

theorem own : ownKnob Try.prog.godebug = none := by kernel_rfl
theorem laidOut : laidOutB Try.prog = true := by kernel_rfl

mutual
theorem bulk_eq {H : Type} : ∀ d : DataW H, Go.Den.bulkD d = Rows.uptoBulk d
  | .lit l => by cases l <;> simp [Go.Den.bulkD, Rows.uptoBulk]
  | .nil => by simp [Go.Den.bulkD, Rows.uptoBulk]
  | .ptr d => by simp [Go.Den.bulkD, Rows.uptoBulk, bulk_eq d]
  | .slice a b => by simp [Go.Den.bulkD, Rows.uptoBulk, bulkA_eq a, bulkA_eq b]
  | .agg a => by simp [Go.Den.bulkD, Rows.uptoBulk, bulkA_eq a]
  | .iface _ d => by simp [Go.Den.bulkD, Rows.uptoBulk, bulk_eq d]
  | .map es => by simp [Go.Den.bulkD, Rows.uptoBulk, bulkE_eq es]
  | .held _ => by simp [Go.Den.bulkD, Rows.uptoBulk]
theorem bulkA_eq {H : Type} : ∀ l : List (DataW H), Go.Den.bulkDAll l = Rows.uptoBulkAll l
  | [] => by simp [Go.Den.bulkDAll, Rows.uptoBulkAll]
  | d :: r => by simp [Go.Den.bulkDAll, Rows.uptoBulkAll, bulk_eq d, bulkA_eq r]
theorem bulkE_eq {H : Type} : ∀ l : List (Lit × DataW H), Go.Den.bulkDEntries l = Rows.uptoBulkEntries l
  | [] => by simp [Go.Den.bulkDEntries, Rows.uptoBulkEntries]
  | x :: r => by simp [Go.Den.bulkDEntries, Rows.uptoBulkEntries, bulkX_eq x, bulkE_eq r]
theorem bulkX_eq {H : Type} : ∀ x : Lit × DataW H, Go.Den.bulkDEntry x = Rows.uptoBulkEntry x
  | (l, d) => by cases l <;> simp [Go.Den.bulkDEntry, Rows.uptoBulkEntry, bulk_eq d]
end

set_option maxRecDepth 100000 in
theorem lifted (os : Os) (started : os.Started) (H : Type) (enc : TypeId × Value → H) (Fi : Stop.Interp) :
    ReturnsInHanded {} Try.checked os 3 .any ((Rows.OpenSpec.upto Rows.packPutsSpec).pre6 enc Try.prog Try.f3 Rows.packPutsUptoRow.domain false) (((Rows.OpenSpec.upto Rows.packPutsSpec).at Fi).post enc Try.prog Try.f3 false true false false) := by
  refine returnsInHanded_of_cond_sized (C := Try.checked) (k := Rows.uptoSmall) rfl own started (by kernel_rfl) Try.func3
    (OpenSpec.witness (enc := enc) (C := Try.checked) (k := Rows.uptoSmall) rfl false ⟨#[], #[.slice none 0 0, .int .u64 0, .int .i64 0, .string ⟨#[]⟩, .slice none 0 0], []⟩ 8 (x := ([.nil, .lit (.int .u64 0), .lit (.int .i64 0), .lit (.string []), .nil], [], [])) (by kernel_rfl) (by kernel_rfl) (by kernel_rfl) (by kernel_rfl) (by kernel_rfl) (by kernel_rfl)) ?_
  intro W base args ds gs before hval0 hW hcnd hbulk hsz _
  have hval : ∀ (j : Nat) t v, Try.f3.params[j]? = some t → args[j]? = some v → Value.okWide Try.prog W .any base t v := hval0
  have hW' := hW
  obtain ⟨p, q, hA0, hV, rfl, hfz, hnd⟩ := hW
  have hA : DataW.TrodAll enc Try.prog W 0 (fun _ => true) true Try.f3.params.toList args.toList ds p := hA0
  rw [Try.params3] at hA hval
  obtain ⟨v0, vs0, d0, ds0, p0, q0, hargs, rfl, rfl, h0, r0⟩ := trodAll_cons hA
  obtain ⟨v1, vs1, d1, ds1, p1, q1, rfl, rfl, rfl, h1, r1⟩ := trodAll_cons r0
  obtain ⟨v2, vs2, d2, ds2, p2, q2, rfl, rfl, rfl, h2, r2⟩ := trodAll_cons r1
  obtain ⟨v3, vs3, d3, ds3, p3, q3, rfl, rfl, rfl, h3, r3⟩ := trodAll_cons r2
  obtain ⟨v4, vs4, d4, ds4, p4, q4, rfl, rfl, rfl, h4, r4⟩ := trodAll_cons r3
  obtain ⟨rfl, rfl, rfl⟩ := trodAll_nil r4
  obtain rfl : args = #[v0, v1, v2, v3, v4] := by cases args; simp_all
  obtain ⟨rfl, rfl⟩ := trodVars_none hV
  obtain ⟨a0, len0, cap0, rfl⟩ := okWide_slice F.und22 (hval 0 22 v0 rfl rfl)
  obtain ⟨a1, rfl, rfl, rfl, w1⟩ := open_int F.und23 (hval 1 23 v1 rfl rfl) h1
  obtain ⟨a2, rfl, rfl, rfl, w2⟩ := open_int F.und2 (hval 2 2 v2 rfl rfl) h2
  obtain ⟨a3, rfl, rfl, rfl, w3⟩ := open_string F.und9 (hval 3 9 v3 rfl rfl) h3
  obtain ⟨a4, len4, cap4, rfl⟩ := okWide_slice F.und24 (hval 4 24 v4 rfl rfl)
  have k0 := h0
  have k4 := h4
  have lt0 : ∀ x ∈ p0, x.block < W.heap.size := by obtain ⟨m, hm⟩ := k0; exact DataW.trod_lt m _ _ _ hm
  have lt4 : ∀ x ∈ p4, x.block < W.heap.size := by obtain ⟨m, hm⟩ := k4; exact DataW.trod_lt m _ _ _ hm
  have hbk : Go.Den.bulkD d0 ≤ 1048576 ∧ Go.Den.bulkD d4 ≤ 1048576 ∧ a3.size ≤ 1048576 := by
    have : Rows.uptoBulkAll [d0, DataW.lit (.int .u64 a1), DataW.lit (.int .i64 a2), DataW.lit (.string a3.data.toList), d4] ≤ 1048576 := by
      simpa [Rows.uptoSmall] using hbulk
    rw [← bulkA_eq] at this
    simp only [Go.Den.bulkDAll, Go.Den.bulkD, Array.length_toList] at this
    have e : a3.data.size = a3.size := rfl
    omega
  have mk : ∀ (j t : Nat) (d : DataW H) (ps : List MemPlace) (a : Option Addr) (len cap : Nat), Go.Den.bulkD d ≤ 1048576 → DataW.Trod enc Try.prog W 0 (fun _ => true) true t (.slice a len cap) d ps → (∀ k ∈ d.weights Try.prog t, k ≤ reachBytes) → ∃ n, Go.Den.RdV Try.prog W 1048576 n t [.slice a len cap] := by
    intro j t d ps a len cap hbd hd hw
    obtain ⟨fuel, hf⟩ := hd
    exact ⟨fuel, Go.Den.rd_of_trod 1048576 fuel t _ d ps hf hw (.inr hbd)⟩
  obtain ⟨n0, rd0⟩ := mk 0 22 d0 p0 a0 len0 cap0 hbk.1 h0 (fun k hk => by
    have := List.all_eq_true.1 hsz k (DataW.weights_mem_each (j := 0) (t := 22) (d := d0) (by kernel_rfl) rfl k hk)
    simpa using this)
  obtain ⟨n4, rd4⟩ := mk 4 24 d4 p4 a4 len4 cap4 hbk.2.1 h4 (fun k hk => by
    have := List.all_eq_true.1 hsz k (DataW.weights_mem_each (j := 4) (t := 24) (d := d4) (by kernel_rfl) rfl k hk)
    simpa using this)
  clear hA0 hval0
  refine (F.puts_call rd0 rd4 w1 w2 hbk.2.2).mono fun e W' ⟨he, bel⟩ => ?_
  subst he
  exact ⟨_, rfl, _, _, _, [], _, [], hW', trodAll_mk1 (shut_bool Try.underlying4 _), (trodAll_cons_mk (Below.trod laidOut (by kernel_rfl) (of_decide_eq_true (by kernel_rfl)) k0 bel lt0) (trodAll_cons_mk (shut_int F.und23 w1) (trodAll_cons_mk (shut_int F.und2 w2) (trodAll_cons_mk (shut_string F.und9 w3) (trodAll_cons_mk (Below.trod laidOut (by kernel_rfl) (of_decide_eq_true (by kernel_rfl)) k4 bel lt4) trodAll_mk0))))), rfl, bel.frame _, fun h => by cases h⟩

theorem over : Rows.packPutsUptoRow.holds Try.pinned (Rows.OpenSpec.upto Rows.packPutsSpec) :=
  OpenClaim.holds_of_cond 3 Try.f3 rfl rfl rfl rfl rfl rfl rfl ⟨rfl, rfl, rfl, rfl, rfl⟩ rfl rfl rfl rfl rfl (by kernel_rfl) Try.func3 (by kernel_rfl)
    (of_decide_eq_true (by kernel_rfl)) (by unfold Func.isWrapper; first | (rw [if_pos (by decide +kernel)]; kernel_rfl) | (rw [if_neg (by decide +kernel)]; exact ⟨rfl, rfl⟩))
    (fun os started H enc _ Fi => by rw [OpenClaim.pre_of_none' rfl]; exact lifted os started H enc Fi)

/-- ████ THE STATEMENT ████ -/
theorem proved : Rows.PackPutsUptoSaid := over
#print axioms proved
end Go.Proofs.Ytbmpgjheiknjlaa.packPuts
