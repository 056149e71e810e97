/-
  CodeWords is true of the given program: its row, and the card tied to the program's text.
-/
import Derived.Test.YtmfgofbcnlkolaaGreatDoorPkD
import Derived.Test.YtmfgofbcnlkolaaGreatDoorRows
import Derived.Test.YtmfgofbcnlkolaaGreatDoorCards
import Derived.Test.YtmfgofbcnlkolaaGreatDoorTie
import Derived.SevenTiedAt
import Derived.ProofKit
import Derived.ShutString
import Derived.LaidLaws
import Derived.LaidMore
import Derived.Lay
import Derived.JoinedOf
import Derived.ChangeSame
import Derived.ChangeVars
import Derived.Stop.Joined
set_option linter.unusedSimpArgs false
set_option linter.unusedVariables false
set_option maxRecDepth 100000
namespace Go.Proofs.YtmfgofbcnlkolaaGreatDoor.codeWords
open Go.ChangeShapes Go.WideShapes Go.ChangeAt Go.RowKit
open Go.ChangeMaps (open_string shut_string)
open Go.Den
theorem own : ownKnob Tryz.prog.godebug = none := by kernel_rfl
theorem laidOut : laidOutB Tryz.prog = true := by kernel_rfl
theorem handed {H : Type} {enc : TypeId × Value → H} {a : Assume} {C : Checked} {os : Os} {f : FuncId} {fn : Func} {s : ChangeSpec} {conds : List PathCond} {apart fresh handsOn again : Bool} {X : World → Array Value → Prop}
  (hX : ∀ (w w' : World) (args : Array Value), w.heap = w'.heap → X w args → X w' args)
  (own : ownKnob C.prog.godebug = none) (started : os.Started) (noInit : C.prog.inits.idxOf? f = none) (hfn : C.prog.funcs[f]? = some fn)
  (witness : ∃ (w : World) (tape : Tape) (i : Input), w.os = os ∧ (w.forCall tape i).Shaped C.prog ∧ i.vars = [] ∧ Input.okWide C.prog (w.forCall tape i) .any w.heap.size f i ∧
   ((s.pre enc C.prog fn conds apart (w.forCall tape i).memory i.args ∧ X (w.forCall tape i).memory i.args) ∧ sizedMet enc C.prog fn (OpenSpec.ofChange s) apart (w.forCall tape i).memory i.args) ∧ a.holds C.prog (lone (Frame.enter C.prog f i.args .normal) [] (w.forCall tape i)))
  (contract : ∀ (W : World) (base : Nat) (args : Array Value) (ds gs : List (DataW H)) (before : List MemPlace), W.ShapedOpen C.prog →
   (∀ (j : Nat) t v, fn.params[j]? = some t → args[j]? = some v → Value.okWide C.prog W .any base t v) →
   DataW.Whole enc C.prog fn.params.toList s.vars apart W args.toList ds gs before →
   conds.all (PathCond.test C.prog ⟨fn.params.toList, ds, s.plain.varTypes C.prog, gs⟩) = true →
   (DataW.weightsEach C.prog (fn.params.toList ++ s.plain.varTypes C.prog) (ds ++ gs)).all (· ≤ reachBytes) = true → X W args →
   a.holds C.prog (lone (Frame.enter C.prog f args .normal) [] W) →
   Calls C.prog f args W fun e W' => ∃ v, e = .returned v ∧ s.post enc C.prog fn apart fresh handsOn again W args v W') :
  ReturnsInHanded a C os f .any (fun w args => (s.pre enc C.prog fn conds apart w args ∧ X w args) ∧ sizedMet enc C.prog fn (OpenSpec.ofChange s) apart w args) (s.post enc C.prog fn apart fresh handsOn again) := by
 refine returnsInHanded_of_calls own started noInit witness ?_
 intro w tape i _ hsh _ hok hpre hholds
 obtain ⟨_, _, _, fn', hfn', _, _, _, _, hval⟩ := hok
 have e : fn' = fn := Option.some.inj (hfn'.symm.trans hfn)
 subst e
 obtain ⟨⟨⟨ds, gs, before, hw, hc⟩, hx⟩, hz⟩ := hpre
 have hw' := DataW.Whole.of_heap (w' := w.forCall tape i) (by rfl) hw
 refine (contract (w.forCall tape i) w.heap.size i.args ds gs before hsh hval hw' hc (hz.weights hw) (hX _ _ _ (by rfl) hx) hholds).mono fun e W' ⟨v, he, hp⟩ => ?_
 subst he
 exact ChangeSpec.post_blind hp
theorem undA : Tryz.prog.underlying 165 = some (.array 20 105) := by kernel_rfl
theorem undE : Tryz.prog.underlying 105 = some (.int .u64) := by kernel_rfl
theorem celE : Tryz.prog.cellsOf 105 = 1 := by kernel_rfl
theorem celA : Tryz.prog.cellsOf 165 = 20 := by kernel_rfl
theorem glob {W : World} (hs : W.ShapedOpen Tryz.prog) (h : laidMet Tryz.prog Rows.codeWordsRow.laid W) : F.Glob W := by
 obtain ⟨ms, hm⟩ := FW.und39i
 have h2 := laidMet.tail (laidMet.tail h)
 have h4 := laidMet.tail (laidMet.tail h2)
 have h5 := laidMet.tail h4
 refine FW.glob_of hs (Lib.tabIs_of_head (zs := FW.pow10s) FW.gP FW.gPT undA undE celE celA h2) ?_ ?_
 ·obtain ⟨a, s, hv, _⟩ := laid_sentinel h5 FW.gS FW.gST hm FW.row191 FW.und191 FW.und193 rfl rfl F.und9 FW.cel193 FW.cel9
  exact ⟨a, hv⟩
 ·obtain ⟨a, s, hv, _⟩ := laid_sentinel h4 FW.gR FW.gRT hm FW.row191 FW.und191 FW.und193 rfl rfl F.und9 FW.cel193 FW.cel9
  exact ⟨a, hv⟩
set_option maxRecDepth 100000 in
theorem lifted (os : Os) (started : os.Started) (H : Type) (enc : TypeId × Value → H) :
  ReturnsInHanded {} Tryz.checked os 3 .any (fun w args => (Rows.codeWordsSpec.pre enc Tryz.prog Tryz.f3 Rows.codeWordsRow.domain false w args ∧ laidMet Tryz.prog Rows.codeWordsRow.laid w) ∧ sizedMet enc Tryz.prog Tryz.f3 (OpenSpec.ofChange Rows.codeWordsSpec) false w args)
   (Rows.codeWordsSpec.post enc Tryz.prog Tryz.f3 false true false false) := by
 refine handed (C := Tryz.checked) (X := fun w _ => laidMet Tryz.prog Rows.codeWordsRow.laid w) (fun _ _ _ hh h => h.of_heap hh) own started (by kernel_rfl) Tryz.func3
  (ChangeSpec.witness_shaped (enc := enc) (C := Tryz.checked) (os := os) (X := fun w _ => laidMet Tryz.prog Rows.codeWordsRow.laid w) false (World.laidAll Tryz.prog os Rows.codeWordsRow.laid) #[.int .i64 0, .string ⟨#[]⟩, .agg #[.int .i64 0, .int .i64 0], .slice none 0 0] 8 (World.laidAll_os _ _ _)
   (World.shaped_of_ZipB (by kernel_rfl) (by kernel_rfl)) (by kernel_rfl) (by kernel_rfl) (by kernel_rfl)
   (laidMet_laidAll _ (by kernel_rfl) (by kernel_rfl))) ?_
 intro W base args ds gs before hsh hval0 hW hcnd hsz hL _
 have hval : ∀ (j : Nat) t v, Tryz.f3.params[j]? = some t → args[j]? = some v → Value.okWide Tryz.prog W .any base t v := hval0
 have hW' := hW
 obtain ⟨p, q, hA0, hV, rfl, hfz, hnd⟩ := hW
 have hA : DataW.TrodAll enc Tryz.prog W 0 (fun _ => true) true Tryz.f3.params.toList args.toList ds p := hA0
 rw [Tryz.params3] at hA hval
 obtain ⟨v0, vs0, d0, ds0, p0, q0, hargs, rfl, rfl, h0, r0⟩ := trodAll_cons hA
 obtain ⟨v1, vs1, d1, ds1, p1, q1, rfl, rfl, rfl, h1, r1⟩ := trodAll_cons r0
 obtain ⟨v2, vs2, d2, ds2, p2, q2, rfl, rfl, rfl, h2, r2⟩ := trodAll_cons r1
 obtain ⟨v3, vs3, d3, ds3, p3, q3, rfl, rfl, rfl, h3, r3⟩ := trodAll_cons r2
 obtain ⟨rfl, rfl, rfl⟩ := trodAll_nil r3
 obtain rfl : args = #[v0, v1, v2, v3] := by cases args; simp_all
 obtain ⟨rfl, rfl⟩ := trodVars_none hV
 obtain ⟨a0, rfl, rfl, rfl, w0⟩ := open_int Tryz.underlying3 (hval 0 3 v0 rfl rfl) h0
 obtain ⟨a1, rfl, rfl, rfl, w1⟩ := open_string Tryz.underlying9 (hval 1 9 v1 rfl rfl) h1
 obtain ⟨c2, rfl, e2⟩ := okWide_struct FW.und23s (hval 2 23 v2 rfl rfl)
 rw [FW.cel23] at e2
 obtain ⟨a3, len3, cap3, rfl⟩ := okWide_slice Tryz.underlying24 (hval 3 24 v3 rfl rfl)
 have k2 := h2
 have lt2 : ∀ x ∈ p2, x.block < W.heap.size := by obtain ⟨m, hm⟩ := k2; exact DataW.trod_lt m _ _ _ hm
 have k3 := h3
 have lt3 : ∀ x ∈ p3, x.block < W.heap.size := by obtain ⟨m, hm⟩ := k3; exact DataW.trod_lt m _ _ _ hm
 have s2 : ∀ k ∈ d2.weights Tryz.prog 23, k ≤ reachBytes := fun k hk => by
  have := List.all_eq_true.1 hsz k (DataW.weights_mem_each (j := 2) (t := 23) (d := d2) (by kernel_rfl) rfl k hk)
  simpa using this
 have s3 : ∀ k ∈ d3.weights Tryz.prog 24, k ≤ reachBytes := fun k hk => by
  have := List.all_eq_true.1 hsz k (DataW.weights_mem_each (j := 3) (t := 24) (d := d3) (by kernel_rfl) rfl k hk)
  simpa using this
 obtain ⟨n2, rd2⟩ : ∃ n, Go.Den.RdV Tryz.prog W maxLen n 23 c2.toList := by
  obtain ⟨fuel, hf⟩ := h2
  exact ⟨fuel, Go.Den.rd_of_trod maxLen fuel 23 _ d2 p2 hf s2 (.inl (Nat.le_refl _))⟩
 obtain ⟨n3, rd3⟩ : ∃ n, Go.Den.RdV Tryz.prog W maxLen n 24 [.slice a3 len3 cap3] := by
  obtain ⟨fuel, hf⟩ := h3
  exact ⟨fuel, Go.Den.rd_of_trod maxLen fuel 24 _ d3 p3 hf s3 (.inl (Nat.le_refl _))⟩
 clear hA0 hval0
 refine (FW.words_call (glob hsh hL) (by rw [Array.length_toList]; exact e2) rd2 rd3).mono fun e W' ⟨he, bel⟩ => ?_
 subst he
 exact ⟨_, rfl, _, _, _, [], _, [], hW', trodAll_mk1 (shut_bool Tryz.underlying4 _), (trodAll_cons_mk (shut_int Tryz.underlying3 w0) (trodAll_cons_mk (shut_string Tryz.underlying9 w1) (trodAll_cons_mk (Below.trod laidOut (by kernel_rfl) (of_decide_eq_true (by kernel_rfl)) k2 bel lt2) (trodAll_cons_mk (Below.trod laidOut (by kernel_rfl) (of_decide_eq_true (by kernel_rfl)) k3 bel lt3) trodAll_mk0)))), rfl, bel.frame _, fun h => by cases h⟩
theorem over : Rows.codeWordsRow.holds Tryz.pinned (OpenSpec.ofChange Rows.codeWordsSpec) :=
 OpenClaim.holds_of_wide 3 Tryz.f3 rfl rfl rfl rfl rfl rfl rfl ⟨rfl, rfl, rfl, rfl, rfl⟩ rfl rfl rfl rfl rfl (by kernel_rfl) Tryz.func3 (by kernel_rfl)
  (of_decide_eq_true (by kernel_rfl)) (by unfold Func.isWrapper; first | (rw [if_pos (by decide +kernel)]; kernel_rfl) | (rw [if_neg (by decide +kernel)]; exact ⟨rfl, rfl⟩))
  (fun os started H enc _ => lifted os started H enc)
theorem ws3 : Tryz.prog.wantsStandIn 3 = false := by kernel_rfl
theorem ws9 : Tryz.prog.wantsStandIn 9 = false := by kernel_rfl
theorem ws23 : Tryz.prog.wantsStandIn 23 = false := by kernel_rfl
theorem ws24 : Tryz.prog.wantsStandIn 24 = false := by kernel_rfl
theorem stands (j : Nat) (t : TypeId) (ht : Tryz.f3.params[j]? = some t) : Tryz.prog.wantsStandIn t = false := by
 rw [Tryz.params3, ← Array.getElem?_toList] at ht
 have hm := List.mem_of_getElem? ht
 simp only [List.mem_cons, List.not_mem_nil, or_false] at hm
 rcases hm with rfl | rfl | rfl | rfl
 ·exact ws3
 ·exact ws9
 ·exact ws23
 ·exact ws24
theorem proved : Rows.CodeWordsCardSaid :=
 Claim7.holds_tied_plain_at .later [] [.data, .data, .data, .data, .sentinel, .sentinel, .pinned] true (true, "31185d608abaa752b5935bdb4b76c151cf5ea5d763df03702fbf85fc4faa3465") true
  over (fun _ h => by cases h) (by kernel_rfl) (fun _ h => by cases h) codeWords_row_tie rfl ⟨rfl, rfl⟩ (by kernel_rfl) rfl
  (fun f fn hf hfn => by
   obtain rfl : f = 3 := Option.some.inj ((show Tryz.prog.funcNamed "hindcast/hindcastlaw13.CodeWords" = some 3 by kernel_rfl).symm.trans hf) |>.symm
   obtain rfl : fn = Tryz.f3 := (Option.some.inj (Tryz.func3.symm.trans hfn)).symm
   exact ⟨by kernel_rfl, fun j t ht => stands j t ht⟩)
  (by kernel_rfl)
#print axioms proved
end Go.Proofs.YtmfgofbcnlkolaaGreatDoor.codeWords
