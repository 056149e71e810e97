/-
  WorldOrder of layer 6 is true of the given program for every input that its guards let in.
-/
import Derived.Test.YtcccjgmekakabaaPkF
import Derived.Test.YtcccjgmekakabaaRows
import Derived.ProofKit
import Derived.ShutString
namespace Go.Proofs.Ytcccjgmekakabaa.worldOrder
open Go.ChangeShapes Go.WideShapes Go.ChangeAt Go.RowKit
open Go.ChangeMaps (open_string shut_string)
set_option linter.unusedVariables false
theorem own : ownKnob Try.prog.godebug = none := by kernel_rfl

theorem laidOut : laidOutB Try.prog = true := by kernel_rfl

set_option maxRecDepth 100000 in
theorem lifted (os : Os) (started : os.Started) (H : Type) (enc : TypeId × Value → H) :
    ReturnsInHanded {} Try.checked os 4 .any (Rows.worldOrderSpec.pre6 enc Try.prog Try.f4 Rows.worldOrderRow.domain false) (Rows.worldOrderSpec.post enc Try.prog Try.f4 false true false false) := by
  refine returnsInHanded_of_change_sized (C := Try.checked) own started (by kernel_rfl) Try.func4
    (ChangeSpec.witness6 (enc := enc) (C := Try.checked) false ⟨#[], #[.slice none 0 0, .slice none 0 0, .slice none 0 0], []⟩ 8 (by kernel_rfl) (by kernel_rfl) (by kernel_rfl) (by kernel_rfl)) ?_
  intro W base args ds gs before hval0 hW hcnd hsz _
  have hval : ∀ (j : Nat) t v, Try.f4.params[j]? = some t → args[j]? = some v → Value.okWide Try.prog W .any base t v := hval0
  have hW' := hW
  obtain ⟨p, q, hA0, hV, rfl, hfz, hnd⟩ := hW
  have hA : DataW.TrodAll enc Try.prog W 0 (fun _ => true) true Try.f4.params.toList args.toList ds p := hA0
  rw [Try.params4] at hA hval
  obtain ⟨v0, vs0, d0, ds0, p0, q0, hargs, rfl, rfl, h0, r0⟩ := trodAll_cons hA
  obtain ⟨v1, vs1, d1, ds1, p1, q1, rfl, rfl, rfl, h1, r1⟩ := trodAll_cons r0
  obtain ⟨v2, vs2, d2, ds2, p2, q2, rfl, rfl, rfl, h2, r2⟩ := trodAll_cons r1
  obtain ⟨rfl, rfl, rfl⟩ := trodAll_nil r2
  obtain rfl : args = #[v0, v1, v2] := by cases args; simp_all
  obtain ⟨rfl, rfl⟩ := trodVars_none hV
  obtain ⟨a0, len0, cap0, rfl⟩ := okWide_slice FW.und28 (hval 0 28 v0 rfl rfl)
  have k0 := h0
  have lt0 : ∀ x ∈ p0, x.block < W.heap.size := by obtain ⟨m, hm⟩ := k0; exact DataW.trod_lt m _ _ _ hm
  obtain ⟨n0, rd0⟩ : ∃ n, Go.Den.RdV Try.prog W maxLen n 28 [.slice a0 len0 cap0] := by
    obtain ⟨fuel, hf⟩ := h0
    refine ⟨fuel, Go.Den.rd_of_trod maxLen fuel 28 _ d0 p0 hf (fun k hk => ?_) (.inl (Nat.le_refl _))⟩
    have := List.all_eq_true.1 hsz k (DataW.weights_mem_each (j := 0) (t := 28) (d := d0) (by kernel_rfl) rfl k hk)
    simpa using this
  obtain ⟨a1, len1, cap1, rfl⟩ := okWide_slice FW.und28 (hval 1 28 v1 rfl rfl)
  have k1 := h1
  have lt1 : ∀ x ∈ p1, x.block < W.heap.size := by obtain ⟨m, hm⟩ := k1; exact DataW.trod_lt m _ _ _ hm
  obtain ⟨n1, rd1⟩ : ∃ n, Go.Den.RdV Try.prog W maxLen n 28 [.slice a1 len1 cap1] := by
    obtain ⟨fuel, hf⟩ := h1
    refine ⟨fuel, Go.Den.rd_of_trod maxLen fuel 28 _ d1 p1 hf (fun k hk => ?_) (.inl (Nat.le_refl _))⟩
    have := List.all_eq_true.1 hsz k (DataW.weights_mem_each (j := 1) (t := 28) (d := d1) (by kernel_rfl) rfl k hk)
    simpa using this
  obtain ⟨a2, len2, cap2, rfl⟩ := okWide_slice FW.und29 (hval 2 29 v2 rfl rfl)
  have k2 := h2
  have lt2 : ∀ x ∈ p2, x.block < W.heap.size := by obtain ⟨m, hm⟩ := k2; exact DataW.trod_lt m _ _ _ hm
  obtain ⟨n2, rd2⟩ : ∃ n, Go.Den.RdV Try.prog W maxLen n 29 [.slice a2 len2 cap2] := by
    obtain ⟨fuel, hf⟩ := h2
    refine ⟨fuel, Go.Den.rd_of_trod maxLen fuel 29 _ d2 p2 hf (fun k hk => ?_) (.inl (Nat.le_refl _))⟩
    have := List.all_eq_true.1 hsz k (DataW.weights_mem_each (j := 2) (t := 29) (d := d2) (by kernel_rfl) rfl k hk)
    simpa using this
  clear hA0 hval0
  refine (FW.order_call rd0 rd1 rd2).mono fun e W' ⟨he, bel⟩ => ?_
  subst he
  exact ⟨_, rfl, _, _, _, [], _, [], hW', trodAll_mk1 (shut_bool Try.underlying4 _), (trodAll_cons_mk (Below.trod laidOut (by kernel_rfl) (of_decide_eq_true (by kernel_rfl)) k0 bel lt0) (trodAll_cons_mk (Below.trod laidOut (by kernel_rfl) (of_decide_eq_true (by kernel_rfl)) k1 bel lt1) (trodAll_cons_mk (Below.trod laidOut (by kernel_rfl) (of_decide_eq_true (by kernel_rfl)) k2 bel lt2) trodAll_mk0))), rfl, bel.frame _, fun h => by cases h⟩

theorem over : Rows.worldOrderRow.holds Try.pinned (OpenSpec.ofChange Rows.worldOrderSpec) :=
  OpenClaim.holds_of_wide 4 Try.f4 rfl rfl rfl rfl rfl rfl rfl ⟨rfl, rfl, rfl, rfl, rfl⟩ rfl rfl rfl rfl rfl (by kernel_rfl) Try.func4 (by kernel_rfl)
    (of_decide_eq_true (by kernel_rfl)) (by unfold Func.isWrapper; first | (rw [if_pos (by decide +kernel)]; kernel_rfl) | (rw [if_neg (by decide +kernel)]; exact ⟨rfl, rfl⟩))
    (fun os started H enc _ => lifted os started H enc)

/-- ████ THE STATEMENT ████ -/
theorem proved : Rows.WorldOrderSaid := over

#print axioms proved
end Go.Proofs.Ytcccjgmekakabaa.worldOrder
