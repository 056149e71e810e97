/-
  BufferTwice of layer 17 is true of the given program for every input that its guards let in.
-/
import Derived.Test.YthmbjlpgbkkjjaaPkF
import Derived.Test.YthmbjlpgbkkjjaaRows
import Derived.ProofKit
import Derived.ShutString
set_option linter.unusedSimpArgs false
set_option linter.unusedVariables false
set_option maxRecDepth 100000
namespace Go.Proofs.Ythmbjlpgbkkjjaa.bufferTwice
open Go.ChangeShapes Go.WideShapes Go.ChangeAt Go.RowKit
open Go.ChangeMaps (open_string shut_string)
theorem own : ownKnob Try.prog.godebug = none := by kernel_rfl
theorem laidOut : laidOutB Try.prog = true := by kernel_rfl
set_option maxRecDepth 100000 in
theorem lifted (os : Os) (started : os.Started) (H : Type) (enc : TypeId × Value → H) :
  ReturnsInHanded {} Try.checked os 5 .any (Rows.bufferTwiceSpec.pre6 enc Try.prog Try.f5 Rows.bufferTwiceRow.domain false) (Rows.bufferTwiceSpec.post enc Try.prog Try.f5 false true false false) := by
 refine returnsInHanded_of_change_sized (C := Try.checked) own started (by kernel_rfl) Try.func5
  (ChangeSpec.witness6 (enc := enc) (C := Try.checked) false ⟨#[], #[.slice none 0 0, .slice none 0 0], []⟩ 8 (by kernel_rfl) (by kernel_rfl) (by kernel_rfl) (by kernel_rfl)) ?_
 intro W base args ds gs before hval0 hW hcnd hsz _
 have hval : ∀ (j : Nat) t v, Try.f5.params[j]? = some t → args[j]? = some v → Value.okWide Try.prog W .any base t v := hval0
 have hW' := hW
 obtain ⟨p, q, hA0, hV, rfl, hfz, hnd⟩ := hW
 have hA : DataW.TrodAll enc Try.prog W 0 (fun _ => true) true Try.f5.params.toList args.toList ds p := hA0
 rw [Try.params5] at hA hval
 obtain ⟨v0, vs0, d0, ds0, p0, q0, hargs, rfl, rfl, h0, r0⟩ := trodAll_cons hA
 obtain ⟨v1, vs1, d1, ds1, p1, q1, rfl, rfl, rfl, h1, r1⟩ := trodAll_cons r0
 obtain ⟨rfl, rfl, rfl⟩ := trodAll_nil r1
 obtain rfl : args = #[v0, v1] := by cases args; simp_all
 obtain ⟨rfl, rfl⟩ := trodVars_none hV
 obtain ⟨a0, len0, cap0, rfl⟩ := okWide_slice Try.underlying54 (hval 0 54 v0 rfl rfl)
 obtain ⟨a1, len1, cap1, rfl⟩ := okWide_slice Try.underlying54 (hval 1 54 v1 rfl rfl)
 have k0 := h0
 have lt0 : ∀ x ∈ p0, x.block < W.heap.size := by obtain ⟨m, hm⟩ := k0; exact DataW.trod_lt m _ _ _ hm
 have k1 := h1
 have lt1 : ∀ x ∈ p1, x.block < W.heap.size := by obtain ⟨m, hm⟩ := k1; exact DataW.trod_lt m _ _ _ hm
 have mk : ∀ (t : Nat) (d : DataW H) (ps : List MemPlace) (a : Option Addr) (len cap : Nat), DataW.Trod enc Try.prog W 0 (fun _ => true) true t (.slice a len cap) d ps → (∀ k ∈ d.weights Try.prog t, k ≤ reachBytes) → ∃ n, Go.Den.RdV Try.prog W maxLen n t [.slice a len cap] := by
  intro t d ps a len cap hd hw
  obtain ⟨fuel, hf⟩ := hd
  exact ⟨fuel, Go.Den.rd_of_trod maxLen fuel t _ d ps hf hw (.inl (Nat.le_refl _))⟩
 obtain ⟨n0, rd0⟩ := mk 54 d0 p0 a0 len0 cap0 h0 (fun k hk => by
  have := List.all_eq_true.1 hsz k (DataW.weights_mem_each (j := 0) (t := 54) (d := d0) (by kernel_rfl) rfl k hk)
  simpa using this)
 obtain ⟨n1, rd1⟩ := mk 54 d1 p1 a1 len1 cap1 h1 (fun k hk => by
  have := List.all_eq_true.1 hsz k (DataW.weights_mem_each (j := 1) (t := 54) (d := d1) (by kernel_rfl) rfl k hk)
  simpa using this)
 clear hA0 hval0
 refine (FW.twice_call rd0 rd1).mono fun e W' ⟨he, bel⟩ => ?_
 subst he
 exact ⟨_, rfl, _, _, _, [], _, [], hW', trodAll_mk1 (shut_bool Try.underlying4 _), (trodAll_cons_mk (Below.trod laidOut (by kernel_rfl) (of_decide_eq_true (by kernel_rfl)) k0 bel lt0) (trodAll_cons_mk (Below.trod laidOut (by kernel_rfl) (of_decide_eq_true (by kernel_rfl)) k1 bel lt1) trodAll_mk0)), rfl, bel.frame _, fun h => by cases h⟩
theorem over : Rows.bufferTwiceRow.holds Try.pinned (OpenSpec.ofChange Rows.bufferTwiceSpec) :=
 OpenClaim.holds_of_wide 5 Try.f5 rfl rfl rfl rfl rfl rfl rfl ⟨rfl, rfl, rfl, rfl, rfl⟩ rfl rfl rfl rfl rfl (by kernel_rfl) Try.func5 (by kernel_rfl)
  (of_decide_eq_true (by kernel_rfl)) (by unfold Func.isWrapper; first | (rw [if_pos (by decide +kernel)]; kernel_rfl) | (rw [if_neg (by decide +kernel)]; exact ⟨rfl, rfl⟩))
  (fun os started H enc _ => lifted os started H enc)
theorem proved : Rows.BufferTwiceSaid := over
#print axioms proved
end Go.Proofs.Ythmbjlpgbkkjjaa.bufferTwice
