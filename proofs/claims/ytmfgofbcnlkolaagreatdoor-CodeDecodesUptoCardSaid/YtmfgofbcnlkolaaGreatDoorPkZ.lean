/-
  CodeDecodes is true of the given program where what it reads is of bulk at most 1048576: its row, and the card tied to the program's text.
-/
import Derived.Test.YtmfgofbcnlkolaaGreatDoorPkF
import Derived.Test.YtmfgofbcnlkolaaGreatDoorRows
import Derived.Test.YtmfgofbcnlkolaaGreatDoorCards
import Derived.Test.YtmfgofbcnlkolaaGreatDoorTie
import Derived.SevenTiedAt
import Derived.ProofKit
import Derived.ShutString
import Derived.JoinedCond
import Derived.Deep.DeepHandedRow
import Derived.LaidLaws
import Derived.LaidMore
import Derived.Lay
set_option linter.unusedSimpArgs false
set_option linter.unusedVariables false
set_option maxRecDepth 100000
namespace Go.Proofs.YtmfgofbcnlkolaaGreatDoor.codeDecodes
open Go.ChangeShapes Go.WideShapes Go.ChangeAt Go.RowKit
open Go.ChangeMaps (open_string shut_string)
theorem own : ownKnob Tryz.prog.godebug = none := by kernel_rfl
theorem laidOut : laidOutB Tryz.prog = true := by kernel_rfl
mutual
theorem bulk_eq {H : Type} : ∀ d : DataW H, Go.Den.bulkD d = Rows.uptoBulk d
 | .lit l => by cases l <;> simp [Go.Den.bulkD, Rows.uptoBulk]
 | .nil => by simp [Go.Den.bulkD, Rows.uptoBulk]
 | .ptr d => by simp [Go.Den.bulkD, Rows.uptoBulk, bulk_eq d]
 | .slice a b => by simp [Go.Den.bulkD, Rows.uptoBulk, bulkA_eq a, bulkA_eq b]
 | .agg a => by simp [Go.Den.bulkD, Rows.uptoBulk, bulkA_eq a]
 | .iface _ d => by simp [Go.Den.bulkD, Rows.uptoBulk, bulk_eq d]
 | .map es => by simp [Go.Den.bulkD, Rows.uptoBulk, bulkE_eq es]
 | .held _ => by simp [Go.Den.bulkD, Rows.uptoBulk]
theorem bulkA_eq {H : Type} : ∀ l : List (DataW H), Go.Den.bulkDAll l = Rows.uptoBulkAll l
 | [] => by simp [Go.Den.bulkDAll, Rows.uptoBulkAll]
 | d :: r => by simp [Go.Den.bulkDAll, Rows.uptoBulkAll, bulk_eq d, bulkA_eq r]
theorem bulkE_eq {H : Type} : ∀ l : List (Lit × DataW H), Go.Den.bulkDEntries l = Rows.uptoBulkEntries l
 | [] => by simp [Go.Den.bulkDEntries, Rows.uptoBulkEntries]
 | x :: r => by simp [Go.Den.bulkDEntries, Rows.uptoBulkEntries, bulkX_eq x, bulkE_eq r]
theorem bulkX_eq {H : Type} : ∀ x : Lit × DataW H, Go.Den.bulkDEntry x = Rows.uptoBulkEntry x
 | (l, d) => by cases l <;> simp [Go.Den.bulkDEntry, Rows.uptoBulkEntry, bulk_eq d]
end
theorem undA : Tryz.prog.underlying 165 = some (.array 20 105) := by kernel_rfl
theorem undE : Tryz.prog.underlying 105 = some (.int .u64) := by kernel_rfl
theorem celE : Tryz.prog.cellsOf 105 = 1 := by kernel_rfl
theorem celA : Tryz.prog.cellsOf 165 = 20 := by kernel_rfl
theorem glob {W : World} (hs : W.ShapedOpen Tryz.prog) (h : laidMet Tryz.prog Rows.codeDecodesUptoRow.laid W) : F.Glob W := by
 obtain ⟨ms, hm⟩ := FW.und39i
 have h2 := laidMet.tail (laidMet.tail h)
 have h4 := laidMet.tail (laidMet.tail h2)
 have h5 := laidMet.tail h4
 refine FW.glob_of hs (Lib.tabIs_of_head (zs := FW.pow10s) FW.gP FW.gPT undA undE celE celA h2) ?_ ?_
 ·obtain ⟨a, s, hv, _⟩ := laid_sentinel h5 FW.gS FW.gST hm FW.row191 FW.und191 FW.und193 rfl rfl F.und9 FW.cel193 FW.cel9
  exact ⟨a, hv⟩
 ·obtain ⟨a, s, hv, _⟩ := laid_sentinel h4 FW.gR FW.gRT hm FW.row191 FW.und191 FW.und193 rfl rfl F.und9 FW.cel193 FW.cel9
  exact ⟨a, hv⟩
theorem reads (os : Os) {H : Type} (enc : TypeId × Value → H) : ∃ places, DataW.whole enc Tryz.prog ((World.laidAll Tryz.prog os Rows.codeDecodesUptoRow.laid).forCall (fun _ _ => 0) ⟨#[], #[.slice none 0 0], []⟩).memory Tryz.f4.params.toList Rows.codeDecodesSpec.vars false (#[.slice none 0 0] : Array Value).toList 8 = some ([.nil], [], places) :=
 ⟨[], by kernel_rfl⟩
set_option maxRecDepth 100000 in
theorem lifted (os : Os) (started : os.Started) (H : Type) (enc : TypeId × Value → H) (Fi : Stop.Interp) :
  ReturnsInHanded {} Tryz.checked os 4 .any ((Rows.OpenSpec.upto Rows.codeDecodesSpec).preRow enc Tryz.prog Tryz.f4 Rows.codeDecodesUptoRow.domain false Rows.codeDecodesUptoRow.laid) (((Rows.OpenSpec.upto Rows.codeDecodesSpec).at Fi).post enc Tryz.prog Tryz.f4 false true false false) := by
 obtain ⟨places, hx⟩ := reads os enc
 refine returnsInHanded_of_row (C := Tryz.checked) (s := Rows.OpenSpec.upto Rows.codeDecodesSpec) own started (by kernel_rfl) Tryz.func4
  (witness_row_at (enc := enc) (C := Tryz.checked) false (World.laidAll Tryz.prog os Rows.codeDecodesUptoRow.laid) #[.slice none 0 0] (World.laidAll_os _ _ _) (by kernel_rfl) (by kernel_rfl) (by kernel_rfl)
   (OpenSpec.preRow_of_cond 8 hx (by kernel_rfl) (fun k hk => by cases hk; kernel_rfl) (by kernel_rfl) (laidMet_laidAll _ (by kernel_rfl) (by kernel_rfl)))) ?_
 intro W base args ds gs before hval0 hW hcnd hbulk0 hsz hL hsh _
 have hbulk := hbulk0 _ rfl
 have hval : ∀ (j : Nat) t v, Tryz.f4.params[j]? = some t → args[j]? = some v → Value.okWide Tryz.prog W .any base t v := hval0
 have hW' := hW
 obtain ⟨p, q, hA0, hV, rfl, hfz, hnd⟩ := hW
 have hA : DataW.TrodAll enc Tryz.prog W 0 (fun _ => true) true Tryz.f4.params.toList args.toList ds p := hA0
 rw [Tryz.params4] at hA hval
 obtain ⟨v0, vs0, d0, ds0, p0, q0, hargs, rfl, rfl, h0, r0⟩ := trodAll_cons hA
 obtain ⟨rfl, rfl, rfl⟩ := trodAll_nil r0
 obtain rfl : args = #[v0] := by cases args; simp_all
 obtain ⟨rfl, rfl⟩ := trodVars_none hV
 obtain ⟨a0, len0, cap0, rfl⟩ := okWide_slice Tryz.underlying34 (hval 0 34 v0 rfl rfl)
 have k0 := h0
 have lt0 : ∀ x ∈ p0, x.block < W.heap.size := by obtain ⟨m, hm⟩ := k0; exact DataW.trod_lt m _ _ _ hm
 have hbk : True ∧ Go.Den.bulkD d0 ≤ 1048576 := by
  have : Rows.uptoBulkAll [d0] ≤ 1048576 := by
   simpa [Rows.uptoSmall] using hbulk
  rw [← bulkA_eq] at this
  simp only [Go.Den.bulkDAll, Go.Den.bulkD, Array.length_toList] at this
  refine ⟨trivial, ?_⟩
  omega
 have s0 : ∀ k ∈ d0.weights Tryz.prog 34, k ≤ reachBytes := fun k hk => by
  have := List.all_eq_true.1 hsz k (DataW.weights_mem_each (j := 0) (t := 34) (d := d0) (by kernel_rfl) rfl k hk)
  simpa using this
 obtain ⟨n0, rd0⟩ : ∃ n, Go.Den.RdV Tryz.prog W 1048576 n 34 [.slice a0 len0 cap0] := by
  obtain ⟨fuel, hf⟩ := h0
  exact ⟨fuel, Go.Den.rd_of_trod 1048576 fuel 34 _ d0 p0 hf s0 (.inr (hbk.2))⟩
 clear hA0 hval0
 refine (FW.decodes_call (glob hsh hL) rd0).mono fun e W' ⟨he, bel⟩ => ?_
 subst he
 exact ⟨_, rfl, _, _, _, [], _, [], hW', trodAll_mk1 (shut_bool Tryz.underlying4 _), (trodAll_cons_mk (Below.trod laidOut (by kernel_rfl) (of_decide_eq_true (by kernel_rfl)) k0 bel lt0) trodAll_mk0), rfl, bel.frame _, fun h => by cases h⟩
theorem over : Rows.codeDecodesUptoRow.holds Tryz.pinned (Rows.OpenSpec.upto Rows.codeDecodesSpec) :=
 OpenClaim.holds_of_cond 4 Tryz.f4 rfl rfl rfl rfl rfl rfl rfl ⟨rfl, rfl, rfl, rfl, rfl⟩ rfl rfl rfl rfl rfl (by kernel_rfl) Tryz.func4 (by kernel_rfl)
  (of_decide_eq_true (by kernel_rfl)) (by unfold Func.isWrapper; first | (rw [if_pos (by decide +kernel)]; kernel_rfl) | (rw [if_neg (by decide +kernel)]; exact ⟨rfl, rfl⟩))
  (fun os started H enc _ Fi => by rw [OpenClaim.pre_eq_preRow]; exact lifted os started H enc Fi)
theorem ws34 : Tryz.prog.wantsStandIn 34 = false := by kernel_rfl
theorem stands (j : Nat) (t : TypeId) (ht : Tryz.f4.params[j]? = some t) : Tryz.prog.wantsStandIn t = false := by
 rw [Tryz.params4, ← Array.getElem?_toList] at ht
 have hm := List.mem_of_getElem? ht
 simp only [List.mem_cons, List.not_mem_nil, or_false] at hm
 subst hm
 exact ws34
theorem proved : Rows.CodeDecodesUptoCardSaid :=
 Claim7.holds_tied_plain_at .later [] _ _ _ _ over (fun _ h => by cases h) (by kernel_rfl) (fun _ h => by cases h) codeDecodesUpto_row_tie rfl ⟨rfl, rfl⟩ (by kernel_rfl) rfl
  (fun f fn hf hfn => by
   obtain rfl : f = 4 := Option.some.inj ((show Tryz.prog.funcNamed Rows.codeDecodesUptoRow.func = some 4 by kernel_rfl).symm.trans hf) |>.symm
   obtain rfl : fn = Tryz.f4 := (Option.some.inj (Tryz.func4.symm.trans hfn)).symm
   exact ⟨by kernel_rfl, fun j t ht => stands j t ht⟩)
  (by kernel_rfl)
#print axioms proved
end Go.Proofs.YtmfgofbcnlkolaaGreatDoor.codeDecodes
