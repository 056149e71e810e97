/-
  The law's own functions of RecordReads: outer, written; steps of its walk.
-/
import Derived.Test.YtmbbfaigbhnhcaaC02k
import Derived.Test.YtmbbfaigbhnhcaaL02k
import Derived.Test.YtmbbfaigbhnhcaaDenL
import Derived.Lib.ConvBytes
set_option linter.unusedSimpArgs false
set_option linter.unusedVariables false
set_option maxRecDepth 100000
namespace Go.Den
open Go.RowKit
namespace Hp
variable {S : List Nat} {w0 w : World} {its : List Thing}
theorem selL (h : Hp S w0 w its) (js : List Nat) (hnd : js.Nodup) {ts : List Thing} (e : js.map (fun j => its[j]?) = ts.map some) : Hp S w0 w ts := by
  have hl : ts.length = js.length := by have := congrArg List.length e; simpa using this.symm
  refine h.sel js hnd hl (fun n j hj => ?_)
  have h1 : (js.map (fun j => its[j]?))[n]? = some (its[j]?) := by rw [List.getElem?_map, hj]; rfl
  rw [e, List.getElem?_map] at h1
  cases ht : ts[n]? with
  | none => rw [ht] at h1; cases h1
  | some t => rw [ht] at h1; exact (Option.some.inj h1).symm

def tD (D : Nat) : Thing := tObj D (.deferred (some []))
theorem endMs {K : World → Prop} : ∀ (ms : List Nat) {its : List Thing} {w : World} (i : Nat), Hp S w0 w its → its[i]? = some (tAll (ms.map tD)) → (∀ w', Hp S w0 w' (its.set i tEmp) → K w') → EndM ms w K
  | [], its, w, i, h, hi, hK => by
    refine hK w ?_
    have : its.set i tEmp = its := set_same hi
    rw [this]; exact h
  | D :: ms, its, w, i, h, hi, hK => by
    have hlt := (List.getElem?_eq_some_iff.1 hi).1
    have h := h.split (i := i) (a := tD D) (b := tAll (ms.map tD)) hi rfl (tAll_own _)
    have hi' : (its.set i (tD D) ++ [tAll (ms.map tD)])[i]? = some (tD D) := by rw [List.getElem?_append_left (by simpa using hlt), List.getElem?_set_self hlt]
    obtain ⟨h1, h2⟩ := h.unpin i hi'
    have ha : ((its.set i (tD D) ++ [tAll (ms.map tD)]).set i (tAny D))[i]? = some (tAny D) := by rw [List.getElem?_set_self (by simp; omega)]
    have h3 := h2.anyStep (w' := w.putObj D (.deferred none)) i ha (Trn.put D w _)
    have h4 := h3.lose (i := i) ha rfl
    have e : ((its.set i (tD D) ++ [tAll (ms.map tD)]).set i (tAny D)).set i tEmp = its.set i tEmp ++ [tAll (ms.map tD)] := by
      rw [List.set_set, List.set_append_left _ _ (by simpa using hlt), List.set_set]
    rw [e] at h4
    refine ⟨h1, endMs ms its.length h4 (by rw [List.getElem?_append_right (by simp)]; simp) fun w' h => hK w' ?_⟩
    rw [List.set_append_right _ _ (by simp)] at h
    exact h.front
end Hp
end Go.Den
namespace Go.Proofs.Ytmbbfaigbhnhcaa.F
open Go Go.Den Go.Proofs

/-- A conversion's bytes: read only. -/
def inR (x : Sl × List Int) : Thing := tRd x.1 1 u8v x.2
section
variable {S : List Nat} {w0 w : World} {its : List Thing}

theorem allR_reads {kL : List (Sl × List Int)} {i : Nat} {x : Sl × List Int} (hx : kL[i]? = some x) : Hp.Reads (tAll (kL.map inR)) x.1 1 u8v x.2 := ⟨fun {w O} hO => by
  obtain ⟨O1, O2, g, _⟩ := tAll_pick (k := i) (t := inR x) (by rw [List.getElem?_map, hx]; rfl) hO
  exact ⟨O1, g⟩⟩
theorem allR_more (h : Hp S w0 w its) {i j : Nat} (hne : i ≠ j) {kL : List (Sl × List Int)} {x : Sl} {l : List Int} (hi : its[i]? = some (tAll (kL.map inR))) (hj : its[j]? = some (tRd x 1 u8v l)) : Hp S w0 w ((its.set i (tAll ((kL ++ [(x, l)]).map inR))).set j tEmp) :=
  h.join (c := tAll ((kL ++ [(x, l)]).map inR)) hne hi hj (tAll_own _) rfl (tAll_own _) (fun w O1 O2 g1 g2 g3 => by
    rw [List.map_append]
    exact tAll_append g1 (us := [inR (x, l)]) (O2 := O2) ⟨O2, [], g2, rfl, by simp, by simp⟩ g3)

theorem conv_str (h : Hp S w0 w its) {s : ByteArray} {K : Sl → World → Prop} (hK : ∀ x w', Hp S w0 w' (its ++ [tRd x 1 u8v (strL s)]) → K x w') : Run .sl Try.prog (convert 9 22 (.string s)) w K := by
  refine ⟨⟨some ⟨w.heap.size, 0, none⟩, s.size, grownCap w s.size 0 5⟩, Lib.bytesWorld w 5 s, Lib.run_convert_string_bytes w 9 22 5 s und9 und22 und5, hK _ _ ?_⟩
  refine h.grow (t := tRd ⟨some ⟨w.heap.size, 0, none⟩, s.size, grownCap w s.size 0 5⟩ 1 u8v (strL s)) (O := [w.heap.size]) ⟨rfl, rfl, rfl, by rw [Lib.bytesWorld_size]; omega, fun k hk _ => Lib.bytesWorld_at_old w 5 s k hk⟩ ?_ (by simp) rfl
  refine ⟨strL_len s, .inr ⟨⟨w.heap.size, 0, none⟩, rfl, rfl, by rw [Lib.bytesWorld_size]; exact Nat.lt_succ_self _, fun j u hj => ?_⟩⟩
  have e : ∀ l : List Int, l.flatMap u8v = l.map (fun x => Value.int .u8 x) := fun l => by
    induction l with
    | nil => rfl
    | cons a l ih => rw [List.flatMap_cons, List.map_cons, ih]; rfl
  rw [e, List.getElem?_map] at hj
  obtain ⟨x, hx, rfl⟩ := Option.map_eq_some_iff.1 hj
  have hlt : j < s.size := by have := (List.getElem?_eq_some_iff.1 hx).1; rwa [strL_len] at this
  rw [Addr.add_none, Nat.zero_add, Lib.bytesWorld_cell w 5 s j hlt]
  unfold strL at hx
  rw [List.getElem?_map] at hx
  obtain ⟨y, hy, rfl⟩ := Option.map_eq_some_iff.1 hx
  rw [List.getD, hy]; rfl

theorem ne_nil2 {q : Nat} {g : Fn} {fr bs : Array Value} {w : World} {K : Bool → Prop} (hK : K false) : RunRo .b Try.prog (binSem .eql 45 (.tmp q) (.const (.nilFunc)) (.func g fr bs) (.nilFunc)) w K := by
  refine ⟨false, fun w' _ => ?_, hK⟩
  have h : (Op.equal 45 (.func g fr bs) .nilFunc).run Try.prog w' = .ok false w' := equalIn_func_nil 9999 und45
  unfold binSem
  simp [eqGuard, binOp, h, Kd.inj]

set_option maxHeartbeats 2000000 in
/-- outer: a list of lists is its owner's. -/
theorem outer_spec (h : Hp S w0 w its) (i : Nat) {l : Sl} {xs : List Sl} {nm : ByteArray} (hi : its[i]? = some (tSl l 22 1 slv xs)) (hx : xs.length ≤ 100000000) {K : Sl → World → Prop}
    (hK : ∀ g (kL : List (Sl × List Int)) w', kL.length ≤ 200000000 → (∀ x ∈ kL, x.2 = strL nm) → Hp S w0 w' (its.set i tEmp ++ [tSl g 22 1 slv (kL.map (·.1)), tAll (kL.map inR)]) → K g w') : c28 l nm w K := by
  refine c28_of ?_
  unfold f28
  obtain ⟨inf, q1, q2, q3, q4⟩ := inf22
  obtain ⟨O, h1, back⟩ := h.f1 hi rfl
  have hll := h1.len 0 rfl
  have h1 := h1.grow (Fr.refl _ _) (t := tAll (([] : List (Sl × List Int)).map inR)) (O := []) rfl (by simp) rfl
  simp only [List.cons_append, List.nil_append] at h1
  refine ⟨fun t mm w' => ∃ (k : Nat) (kL : List (Sl × List Int)), t = k ∧ k ≤ xs.length ∧ mm = xs.length - k ∧ kL.length = k ∧ (∀ x ∈ kL, x.2 = strL nm) ∧ Hp O w w' [tSl l 22 1 slv (kL.map (·.1) ++ xs.drop k), tAll (kL.map inR)], ⟨xs.length, 0, [], rfl, by omega, rfl, rfl, by simp, by simpa using h1⟩, ?_⟩
  clear h1
  rintro t mm w2 ⟨k, kL, rfl, hk, rfl, hkL, hnm, h1⟩
  by_cases hlt : k < xs.length
  · refine ifT (by simp; omega) ?_
    refine conv_str h1 fun x w3 h1 => ?_
    simp only [List.cons_append, List.nil_append] at h1
    refine h1.ixst 0 rfl (by omega) (by rw [List.length_append, List.length_map, List.length_drop, Int.toNat_natCast]; omega) slv_len (y := x) rfl rfl fun w4 h1 => ?_
    have e : (kL.map (·.1) ++ xs.drop k).set ((k : Int)).toNat x = (kL ++ [(x, strL nm)]).map (·.1) ++ xs.drop (k + 1) := by
      rw [Int.toNat_natCast, List.set_append_right _ _ (by simp; omega), List.length_map, hkL, Nat.sub_self, List.drop_eq_getElem_cons hlt, List.set_cons_zero]
      simp
    rw [e] at h1
    simp only [List.set_cons_zero, List.set_cons_succ] at h1
    have h1 := allR_more h1 (i := 1) (j := 2) (by omega) rfl rfl
    simp only [List.set_cons_zero, List.set_cons_succ] at h1
    have h1 := h1.trim 2
    simp only [List.take_succ_cons, List.take_zero] at h1
    refine ⟨xs.length - (k + 1), by omega, k + 1, kL ++ [(x, strL nm)], by rw [wr64 (by omega) (by omega)]; omega, by omega, rfl, by simp [hkL], ?_, h1⟩
    intro y hy
    rcases List.mem_append.1 hy with hy | hy
    · exact hnm y hy
    · simp only [List.mem_singleton] at hy; subst hy; rfl
  refine ifF (by simp; omega) ?_
  rw [List.drop_of_length_le (by omega), List.append_nil] at h1
  refine ⟨fun g t mm w' => ∃ (q : Nat) (kL : List (Sl × List Int)), t = q ∧ q ≤ 64 ∧ mm = 64 - q ∧ kL.length = xs.length + q ∧ (∀ x ∈ kL, x.2 = strL nm) ∧ Hp O w w' [tSl g 22 1 slv (kL.map (·.1)), tAll (kL.map inR)], ⟨64, 0, kL, rfl, by omega, rfl, by omega, hnm, h1⟩, ?_⟩
  clear h1 hkL hnm
  rintro g t mm w4 ⟨q, kL, rfl, hq, rfl, hkL, hnm, h1⟩
  by_cases hq64 : q < 64
  · refine ifT (by simp; omega) ?_
    have hgl := h1.len (s := g) 0 rfl
    rw [List.length_map] at hgl
    refine conv_str h1 fun x w3 h1 => ?_
    simp only [List.cons_append, List.nil_append] at h1
    refine h1.nwapp (c := [_]) 0 x rfl slv_len und34 q1 q3 q2 rfl rfl (by simp [slv, Value.oneCell']) (by rw [q4]; omega) (by omega) fun g2 w5 h1 _ _ => ?_
    simp only [List.set_cons_zero, List.set_cons_succ] at h1
    have h1 := allR_more h1 (i := 1) (j := 2) (by omega) rfl rfl
    simp only [List.set_cons_zero, List.set_cons_succ] at h1
    have h1 := h1.trim 2
    simp only [List.take_succ_cons, List.take_zero] at h1
    refine ⟨64 - (q + 1), by omega, q + 1, kL ++ [(x, strL nm)], by rw [wr64 (by omega) (by omega)]; omega, by omega, rfl, by simp [hkL]; omega, ?_, by rw [List.map_append]; exact h1⟩
    intro y hy
    rcases List.mem_append.1 hy with hy | hy
    · exact hnm y hy
    · simp only [List.mem_singleton] at hy; subst hy; rfl
  refine ifF (by simp; omega) ?_
  have h2 := h1.grow (Fr.refl _ _) (t := tEmp) (O := []) rfl (by simp) rfl
  have h2 : Hp O w w4 (tEmp :: [tSl g 22 1 slv (kL.map (·.1)), tAll (kL.map inR)]) := h2.selL [2, 0, 1] (by decide) rfl
  have hf := back (t' := tEmp) (rest := [tSl g 22 1 slv (kL.map (·.1)), tAll (kL.map inR)]) rfl (by unfold Hp.owns; rw [List.all_cons, List.all_cons, List.all_nil, tAll_own]; rfl) h2
  exact hK g kL _ (by omega) hnm hf

theorem written_spec (h : Hp S w0 w its) (i j : Nat) {l : Sl} {kL : List (Sl × List Int)} {nm : ByteArray} (hi : its[i]? = some (tSl l 22 1 slv (kL.map (·.1)))) (hj : its[j]? = some (tAll (kL.map inR))) (hl : kL.length ≤ 1000000000) (hnm : ∀ x ∈ kL, x.2 = strL nm) {K : Bool → World → Prop}
    (hK : K true w) : c29 l nm w K := by
  refine c29_of ?_
  unfold f29
  have hll := h.len i (by rw [hi]; rfl)
  rw [List.length_map] at hll
  refine ⟨fun t mm w' => ∃ k : Nat, t = k ∧ k ≤ l.len ∧ mm = l.len - k ∧ w' = w, ⟨l.len, 0, rfl, by omega, rfl, rfl⟩, ?_⟩
  rintro t mm w2 ⟨k, rfl, hk, rfl, rfl⟩
  by_cases hlt : k < l.len
  · refine ifT (by simp; omega) ?_
    have hkl : k < kL.length := by omega
    have hy : kL[k]? = some kL[k] := by simp [hkl]
    have hn := hnm kL[k] (List.getElem_mem hkl)
    generalize kL[k] = y at hy hn
    refine h.ixld (k := .sl) (s := l) (y := y.1) (x := y.1) i (by rw [hi]; rfl) (by omega) (by rw [Int.toNat_natCast, List.getElem?_map, hy]; rfl) (fun _ => rfl) rfl ?_
    refine h.rdb j (u := tAll (kL.map inR)) (by rw [hj]; rfl) (allR_reads hy) nm hn.symm ?_
    refine ifF (by simp) ?_
    exact ⟨l.len - (k + 1), by omega, k + 1, by rw [wr64 (by omega) (by omega)]; omega, by omega, rfl, rfl⟩
  · exact ifF (by simp; omega) hK
end
end Go.Proofs.Ytmbbfaigbhnhcaa.F
