/-
  WorldNew of layer 6 is true of the given program for every input that its guards let in (of bulk at most 1048576).
-/
import Derived.Test.YtcccjgmekakabaaPkG
import Derived.Test.YtcccjgmekakabaaRows
import Derived.ProofKit
import Derived.ShutString
import Derived.JoinedCond
import Derived.Deep.CondSized
set_option linter.unusedSimpArgs false
set_option linter.unusedVariables false
set_option maxRecDepth 100000
namespace Go.Proofs.Ytcccjgmekakabaa.worldNew
open Go.ChangeShapes Go.WideShapes Go.ChangeAt Go.RowKit
open Go.ChangeMaps (open_string shut_string)
theorem own : ownKnob Try.prog.godebug = none := by kernel_rfl
theorem laidOut : laidOutB Try.prog = true := by kernel_rfl
mutual
theorem bulk_eq {H : Type} : ∀ d : DataW H, Go.Den.bulkD d = Rows.uptoBulk d
 | .lit l => by cases l <;> simp [Go.Den.bulkD, Rows.uptoBulk]
 | .nil => by simp [Go.Den.bulkD, Rows.uptoBulk]
 | .ptr d => by simp [Go.Den.bulkD, Rows.uptoBulk, bulk_eq d]
 | .slice a b => by simp [Go.Den.bulkD, Rows.uptoBulk, bulkA_eq a, bulkA_eq b]
 | .agg a => by simp [Go.Den.bulkD, Rows.uptoBulk, bulkA_eq a]
 | .iface _ d => by simp [Go.Den.bulkD, Rows.uptoBulk, bulk_eq d]
 | .map es => by simp [Go.Den.bulkD, Rows.uptoBulk, bulkE_eq es]
 | .held _ => by simp [Go.Den.bulkD, Rows.uptoBulk]
theorem bulkA_eq {H : Type} : ∀ l : List (DataW H), Go.Den.bulkDAll l = Rows.uptoBulkAll l
 | [] => by simp [Go.Den.bulkDAll, Rows.uptoBulkAll]
 | d :: r => by simp [Go.Den.bulkDAll, Rows.uptoBulkAll, bulk_eq d, bulkA_eq r]
theorem bulkE_eq {H : Type} : ∀ l : List (Lit × DataW H), Go.Den.bulkDEntries l = Rows.uptoBulkEntries l
 | [] => by simp [Go.Den.bulkDEntries, Rows.uptoBulkEntries]
 | x :: r => by simp [Go.Den.bulkDEntries, Rows.uptoBulkEntries, bulkX_eq x, bulkE_eq r]
theorem bulkX_eq {H : Type} : ∀ x : Lit × DataW H, Go.Den.bulkDEntry x = Rows.uptoBulkEntry x
 | (l, d) => by cases l <;> simp [Go.Den.bulkDEntry, Rows.uptoBulkEntry, bulk_eq d]
end
set_option maxRecDepth 100000 in
theorem lifted (os : Os) (started : os.Started) (H : Type) (enc : TypeId × Value → H) (Fi : Stop.Interp) :
  ReturnsInHanded {} Try.checked os 3 .any ((Rows.OpenSpec.upto Rows.worldNewSpec).pre6 enc Try.prog Try.f3 Rows.worldNewUptoRow.domain false) (((Rows.OpenSpec.upto Rows.worldNewSpec).at Fi).post enc Try.prog Try.f3 false true false false) := by
 refine returnsInHanded_of_cond_sized (C := Try.checked) (k := Rows.uptoSmall) rfl own started (by kernel_rfl) Try.func3
  (OpenSpec.witness (enc := enc) (C := Try.checked) (k := Rows.uptoSmall) rfl false ⟨#[], #[.slice none 0 0], []⟩ 8 (x := ([.nil], [], [])) (by kernel_rfl) (by kernel_rfl) (by kernel_rfl) (by kernel_rfl) (by kernel_rfl) (by kernel_rfl)) ?_
 intro W base args ds gs before hval0 hW hcnd hbulk hsz _
 have hval : ∀ (j : Nat) t v, Try.f3.params[j]? = some t → args[j]? = some v → Value.okWide Try.prog W .any base t v := hval0
 have hW' := hW
 obtain ⟨p, q, hA0, hV, rfl, hfz, hnd⟩ := hW
 have hA : DataW.TrodAll enc Try.prog W 0 (fun _ => true) true Try.f3.params.toList args.toList ds p := hA0
 rw [Try.params3] at hA hval
 obtain ⟨v0, vs0, d0, ds0, p0, q0, hargs, rfl, rfl, h0, r0⟩ := trodAll_cons hA
 obtain ⟨rfl, rfl, rfl⟩ := trodAll_nil r0
 obtain rfl : args = #[v0] := by cases args; simp_all
 obtain ⟨rfl, rfl⟩ := trodVars_none hV
 obtain ⟨a0, len0, cap0, rfl⟩ := okWide_slice FW.und22 (hval 0 22 v0 rfl rfl)
 have k0 := h0
 have lt0 : ∀ x ∈ p0, x.block < W.heap.size := by obtain ⟨m, hm⟩ := k0; exact DataW.trod_lt m _ _ _ hm
 have hb0 : Go.Den.bulkD d0 ≤ 1048576 := by
  have : Rows.uptoBulkAll [d0] ≤ 1048576 := by
   simpa [Rows.uptoSmall] using hbulk
  rw [← bulkA_eq] at this
  simp only [Go.Den.bulkDAll] at this
  omega
 obtain ⟨n0, rd0⟩ : ∃ n, Go.Den.RdV Try.prog W 1048576 n 22 [.slice a0 len0 cap0] := by
  obtain ⟨fuel, hf⟩ := h0
  refine ⟨fuel, Go.Den.rd_of_trod 1048576 fuel 22 _ d0 p0 hf (fun k hk => ?_) (.inr hb0)⟩
  have := List.all_eq_true.1 hsz k (DataW.weights_mem_each (j := 0) (t := 22) (d := d0) (by kernel_rfl) rfl k hk)
  simpa using this
 clear hA0 hval0
 refine (FW.new_call rd0).mono fun e W' ⟨he, bel⟩ => ?_
 subst he
 exact ⟨_, rfl, _, _, _, [], _, [], hW', trodAll_mk1 (shut_bool Try.underlying4 _), (trodAll_cons_mk (Below.trod laidOut (by kernel_rfl) (of_decide_eq_true (by kernel_rfl)) k0 bel lt0) trodAll_mk0), rfl, bel.frame _, fun h => by cases h⟩
theorem over : Rows.worldNewUptoRow.holds Try.pinned (Rows.OpenSpec.upto Rows.worldNewSpec) :=
 OpenClaim.holds_of_cond 3 Try.f3 rfl rfl rfl rfl rfl rfl rfl ⟨rfl, rfl, rfl, rfl, rfl⟩ rfl rfl rfl rfl rfl (by kernel_rfl) Try.func3 (by kernel_rfl)
  (of_decide_eq_true (by kernel_rfl)) (by unfold Func.isWrapper; first | (rw [if_pos (by decide +kernel)]; kernel_rfl) | (rw [if_neg (by decide +kernel)]; exact ⟨rfl, rfl⟩))
  (fun os started H enc _ Fi => by rw [OpenClaim.pre_of_none' rfl]; exact lifted os started H enc Fi)
theorem proved : Rows.WorldNewUptoSaid := over
#print axioms proved
end Go.Proofs.Ytcccjgmekakabaa.worldNew
