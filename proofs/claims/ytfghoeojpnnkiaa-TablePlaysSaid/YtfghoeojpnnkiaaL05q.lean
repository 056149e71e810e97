/-
  The law's own functions of TablePlays: Add, and all questions.
-/
import Derived.Test.YtfghoeojpnnkiaaL05p
set_option linter.unusedSimpArgs false
set_option linter.unusedVariables false
namespace Go.Proofs.Ytfghoeojpnnkiaa.F
open Go Go.Den Go.Proofs

section
variable {S : List Nat} {w0 w : World} {its : List Thing}

/-- o, while its first k numbers are written over by 88. -/
def over (xs : List Int) (k : Nat) : List Int := List.replicate k 88 ++ (xs ++ List.replicate 8 (-77)).drop k
theorem over_len (xs : List Int) {k : Nat} (h : k ≤ xs.length + 8) : (over xs k).length = xs.length + 8 := by simp [over]; omega
theorem over_get (xs : List Int) {k : Nat} (h : k < xs.length + 8) : (over xs k)[k]? = some ((xs ++ List.replicate 8 (-77)).getD k 0) := by
  unfold over
  rw [List.getElem?_append_right (by simp), List.length_replicate, Nat.sub_self, List.getElem?_drop, Nat.add_zero]
  rw [List.getD_eq_getElem?_getD, List.getElem?_eq_getElem (by simp; omega)]; rfl
theorem over_set (xs : List Int) {k : Nat} (h : k < xs.length + 8) : (over xs k).set k 88 = over xs (k + 1) := by
  unfold over
  rw [List.set_append_right _ _ (by simp), List.length_replicate, Nat.sub_self, List.drop_eq_getElem_cons (by simp; omega), List.set_cons_zero, List.replicate_succ' (n := k), List.append_assoc]
  rfl
theorem over_all (xs : List Int) : over xs (xs.length + 8) = List.replicate (xs.length + 8) 88 := by
  unfold over
  rw [List.drop_of_length_le (by simp), List.append_nil]

/-- The eight places behind, written one by one. -/
def eightL (xs : List Int) (k : Nat) : List Int := xs ++ (List.replicate k (-77) ++ List.replicate (8 - k) 0)
theorem eight_set (xs : List Int) {k : Nat} (h : k < 8) : (eightL xs k).set (xs.length + k) (-77) = eightL xs (k + 1) := by
  unfold eightL
  rw [List.set_append_right _ _ (by omega), Nat.add_sub_cancel_left, List.set_append_right _ _ (by simp), List.length_replicate, Nat.sub_self]
  have e : List.replicate (8 - k) (0 : Int) = 0 :: List.replicate (8 - (k + 1)) 0 := by
    rw [show 8 - k = (8 - (k + 1)) + 1 by omega, List.replicate_succ]
  rw [e, List.set_cons_zero, List.replicate_succ', List.append_assoc]
  rfl

theorem readsPre {s : Sl} {e : TypeId} {l xs ys : List Int} (hr : Hp.Reads (tSl s e 1 iv l) s 1 iv l) {s' : Sl} (h : Hp.Reads (tSl s e 1 iv l) s' 1 iv ys) (he : ys = xs) : Hp.Reads (tSl s e 1 iv l) s' 1 iv xs := by rw [← he]; exact h

set_option maxHeartbeats 2000000 in
theorem adds_spec (h : Hp S w0 w its) (i i' j : Nat) (hii : i ≠ i') (hij : i ≠ j) (hij' : i' ≠ j) {bt br : Nat} {m : TabM} (hok : m.Ok) (hi : its[i]? = some (tTab bt m)) (hi' : its[i']? = some (tRef br m)) {e : Ent} {u : Thing} {v : Sl} {xs : List Int} (hj : its[j]? = some u) (hu : Hp.Reads u v 1 iv xs) (hlen : xs.length ≤ 20000000000000) {K : Bool → World → Prop}
    (hK : ∀ m' w', m'.Ok → m'.n = m.n → Hp S w0 w' ((its.set i (tTab bt m')).set i' (tRef br m')) → K true w') : c26 (some ⟨bt, 0, none⟩) (some ⟨br, 0, none⟩) e.1 e.2 v w K := by
  refine c26_of ?_
  unfold f26
  obtain ⟨O, h1, back⟩ := h.f2r hii hij hij' hi hi' hj rfl rfl
  have hxl := h1.lenU 2 (u := u) rfl hu
  have hwl : IntKind.i64.wrap ((v.len : Int) + 8) = (v.len : Int) + 8 := wr64 (by omega) (by omega)
  refine h1.nw (c := [_, _]) fun bp w1 h1 => ?_
  refine h1.nw (c := [_, _]) fun be w1 h1 => ?_
  rw [hwl]
  refine h1.mks (f := iv) (n := 1) (x0 := 0) iv_len rfl (by omega) (Int.le_refl _) (by omega) (by omega) fun o w1 h1 hol hoc _ => ?_
  have hol' : o.len = xs.length + 8 := by omega
  have hoc' : o.cap = xs.length + 8 := by omega
  obtain ⟨inf, q1, q2, q3, q4⟩ := inf2
  refine h1.copy 5 2 (by omega) rfl (u := u.ro) rfl ⟨hu.rd⟩ iv_len und34 q1 q3 (by simp [iv, Value.oneCell']) (by omega) fun w1 h1 => ?_
  have e0 : xs ++ (List.replicate ((v.len : Int) + 8).toNat (0 : Int)).drop v.len = eightL xs 0 := by
    unfold eightL
    rw [List.drop_replicate, show ((v.len : Int) + 8).toNat - v.len = 8 by omega]; rfl
  rw [e0] at h1
  simp only [List.cons_append, List.nil_append, List.set_cons_zero, List.set_cons_succ] at h1
  refine ⟨fun t mm w' => ∃ k : Nat, t = (xs.length + k : Nat) ∧ k ≤ 8 ∧ mm = 8 - k ∧ Hp O w w' [tTab bt m, tRef br m, u.ro, tBlk bp 74 [.pointer (some ⟨bt, 0, none⟩), .pointer (some ⟨br, 0, none⟩)], tBlk be 32 [.int .i64 e.1, .int .i64 e.2], tSl o 2 1 iv (eightL xs k)], ⟨8, 0, by omega, by omega, rfl, h1⟩, ?_⟩
  rintro t mm w2 ⟨k, rfl, hk, rfl, h1⟩
  by_cases hlt : k < 8
  · refine ifT (by simp; omega) ?_
    refine h1.ixst 5 rfl (by omega) (by simp [eightL]; omega) iv_len (y := -77) rfl rfl fun w1 h1 => ?_
    refine ⟨8 - (k + 1), by omega, k + 1, by rw [wr64 (by omega) (by omega)]; omega, by omega, rfl, ?_⟩
    rw [← eight_set xs hlt]
    exact h1
  refine ifF (by simp; omega) ?_
  obtain rfl : k = 8 := by omega
  have e1 : eightL xs 8 = over xs 0 := by simp [eightL, over]
  rw [e1] at h1
  have hrd := Hp.rdSl (e := 2) (s := o) (n := 1) (f := iv) (l := over xs 0)
  have hpre : List.drop (0 : Int).toNat (List.take ((v.len : Int)).toNat (over xs 0)) = xs := by
    have : ((v.len : Int)).toNat = xs.length := by omega
    rw [this]
    simp [over]
  refine h1.dr fun w1 h1 => ?_
  refine h1.ld0 (k := .p) (x := some ⟨bt, 0, none⟩) 3 rfl rfl ?_
  refine h1.ld0 (x := e.1) 4 rfl rfl ?_
  refine h1.ld (x := e.2) 4 rfl rfl ?_
  refine Hp.cutv (s := o) hrd (by rw [over_len xs (by omega)]; omega) iv_len (Int.le_refl 0) (by omega) (by omega) (by omega) (by omega) fun s hs _ _ => ?_
  rw [hpre] at hs
  refine Add_spec h1 0 5 (by omega) hok rfl (e := e) rfl hs fun w1 h1 => ?_
  obtain ⟨ok1, n1⟩ := addM_ok hok e xs
  refine h1.dr fun w1 h1 => ?_
  refine h1.ld0 (k := .p) (x := some ⟨bt, 0, none⟩) 3 rfl rfl ?_
  refine h1.ld0 (x := e.1) 4 rfl rfl ?_
  refine h1.ld (x := e.2) 4 rfl rfl ?_
  refine Hp.cutv (s := o) hrd (by rw [over_len xs (by omega)]; omega) iv_len (Int.le_refl 0) (by omega) (by omega) (by omega) (by omega) fun s hs _ _ => ?_
  rw [hpre] at hs
  refine Add_spec h1 0 5 (by omega) ok1 rfl (e := e) rfl hs fun w1 h1 => ?_
  obtain ⟨ok2, n2⟩ := addM_ok ok1 e xs
  simp only [List.cons_append, List.nil_append, List.set_cons_zero, List.set_cons_succ] at h1
  generalize hm1 : m.addM e xs = r1 at h1 ok1 n1 ok2 n2 ⊢
  obtain ⟨m1, a1, f1⟩ := r1
  dsimp only at h1 ok1 n1 ok2 n2 ⊢
  generalize hm2 : m1.addM e xs = r2 at h1 ok2 n2 ⊢
  obtain ⟨m2, a2, f2⟩ := r2
  dsimp only at h1 ok2 n2 ⊢
  refine ⟨fun kept t mm w' => ∃ k : Nat, kept = true ∧ t = k ∧ k ≤ xs.length + 8 ∧ mm = xs.length + 8 - k ∧ Hp O w w' [tTab bt m2, tRef br m, u.ro, tBlk bp 74 [.pointer (some ⟨bt, 0, none⟩), .pointer (some ⟨br, 0, none⟩)], tBlk be 32 [.int .i64 e.1, .int .i64 e.2], tSl o 2 1 iv (over xs k)], ⟨xs.length + 8, 0, rfl, rfl, by omega, rfl, h1⟩, ?_⟩
  rintro kept t mm w3 ⟨k, rfl, rfl, hk, rfl, h1⟩
  by_cases hlt : k < xs.length + 8
  · refine ifT (by simp; omega) ?_
    refine h1.dr fun w1 h1 => ?_
    refine ifT rfl ?_
    by_cases hkx : k < xs.length
    · refine ifT (by simp; omega) ?_
      have hov : (over xs k)[k]? = some xs[k] := by rw [over_get xs hlt]; simp [List.getElem?_append_left hkx, hkx]
      refine h1.ixld (k := .i .i64) (y := xs[k]) (x := xs[k]) 5 rfl (by omega) hov iv_len rfl ?_
      refine h1.ixldU (k := .i .i64) (u := u) (y := xs[k]) (x := xs[k]) 2 rfl hu (by omega) (by simp [hkx]) iv_len rfl ?_
      refine ifT (by simp) ?_
      refine h1.ixst 5 rfl (by omega) (by rw [over_len xs hk]; exact hlt) iv_len (y := 88) rfl rfl fun w1 h1 => ?_
      refine ⟨xs.length + 8 - (k + 1), by omega, k + 1, rfl, by rw [wr64 (by omega) (by omega)]; omega, by omega, rfl, ?_⟩
      rw [← over_set xs hlt]
      exact h1
    · refine ifF (by simp; omega) ?_
      refine ifT (by simp; omega) ?_
      have hov : (over xs k)[k]? = some (-77) := by
        rw [over_get xs hlt, List.getD_eq_getElem?_getD, List.getElem?_append_right (by omega), List.getElem?_replicate, if_pos (by omega)]; rfl
      refine h1.ixld (k := .i .i64) (y := -77) (x := -77) 5 rfl (by omega) hov iv_len rfl ?_
      refine h1.ixst 5 rfl (by omega) (by rw [over_len xs hk]; exact hlt) iv_len (y := 88) rfl rfl fun w1 h1 => ?_
      refine ⟨xs.length + 8 - (k + 1), by omega, k + 1, by simp, by rw [wr64 (by omega) (by omega)]; omega, by omega, rfl, ?_⟩
      rw [← over_set xs hlt]
      exact h1
  refine ifF (by simp; omega) ?_
  have hke : k = xs.length + 8 := by omega
  rw [hke, over_all] at h1
  refine h1.ld (k := .p) (x := some ⟨br, 0, none⟩) 3 rfl rfl ?_
  refine h1.ld0 (x := e.1) 4 rfl rfl ?_
  refine h1.ld (x := e.2) 4 rfl rfl ?_
  refine RAdd_spec h1 1 2 (by omega) hok rfl (e := e) (u := u.ro) rfl ⟨hu.rd⟩ fun w1 h1 => ?_
  rw [hm1] at h1 ⊢
  refine h1.ld (k := .p) (x := some ⟨br, 0, none⟩) 3 rfl rfl ?_
  refine h1.ld0 (x := e.1) 4 rfl rfl ?_
  refine h1.ld (x := e.2) 4 rfl rfl ?_
  refine RAdd_spec h1 1 2 (by omega) ok1 rfl (e := e) (u := u.ro) rfl ⟨hu.rd⟩ fun w1 h1 => ?_
  rw [hm2] at h1 ⊢
  simp only [List.cons_append, List.nil_append, List.set_cons_zero, List.set_cons_succ] at h1
  refine ifF (by simp) ?_
  refine h1.ld (x := e.2) 4 rfl rfl ?_
  have hnn : m2.n = m.n := by omega
  by_cases he2 : e.2 = 2
  · refine ifF (by simpa using he2) ?_
    refine h1.ld0 (x := e.1) 4 rfl rfl ?_
    refine h1.nw (c := [_, _]) fun bo w1 h1 => ?_
    refine h1.st0 6 rfl (by simp) rfl fun w1 h1 => ?_
    refine h1.st 6 rfl (by simp) rfl fun w1 h1 => ?_
    refine h1.mks (f := iv) (n := 1) (x0 := 0) iv_len rfl (by omega) (Int.le_refl _) (by omega) (by omega) fun g w1 h1 hgl _ _ => ?_
    have hgl' : g.len = xs.length := by omega
    have e5 : List.replicate ((v.len : Int)).toNat (0 : Int) = mk1 (List.replicate xs.length 0) 88 0 := by
      unfold mk1
      rw [show ((v.len : Int)).toNat = xs.length by omega]; rfl
    rw [e5] at h1
    simp only [List.cons_append, List.nil_append, List.set_cons_zero, List.set_cons_succ] at h1
    refine ⟨fun t mm w' => ∃ k : Nat, t = k ∧ k ≤ xs.length ∧ mm = xs.length - k ∧ Hp O w w' [tTab bt m2, tRef br m2, u.ro, tBlk bp 74 [.pointer (some ⟨bt, 0, none⟩), .pointer (some ⟨br, 0, none⟩)], tBlk be 32 [.int .i64 e.1, .int .i64 e.2], tSl o 2 1 iv (List.replicate (xs.length + 8) 88), tBlk bo 32 [.int .i64 e.1, .int .i64 3], tSl g 2 1 iv (mk1 (List.replicate xs.length 0) 88 k)], ⟨xs.length, 0, rfl, by omega, rfl, h1⟩, ?_⟩
    rintro t mm w4 ⟨q, rfl, hq, rfl, h1⟩
    have hrl : (List.replicate xs.length (0 : Int)).length = xs.length := by simp
    by_cases hqx : q < xs.length
    · refine ifT (by simp; omega) ?_
      refine h1.ixst 7 rfl (by omega) (by rw [mk1_len _ _ (by rw [hrl]; omega), hrl]; exact hqx) iv_len (y := 88) rfl rfl fun w1 h1 => ?_
      refine ⟨xs.length - (q + 1), by omega, q + 1, by rw [wr64 (by omega) (by omega)]; omega, by omega, rfl, ?_⟩
      rw [← mk1_set (List.replicate xs.length 0) 88 (by rw [hrl]; exact hqx)]
      exact h1
    refine ifF (by simp; omega) ?_
    obtain rfl : q = xs.length := by omega
    have e6 : mk1 (List.replicate xs.length 0) 88 xs.length = List.replicate xs.length 88 := by
      unfold mk1
      rw [List.drop_of_length_le (by simp), List.append_nil]
    rw [e6] at h1
    refine h1.dr fun w1 h1 => ?_
    refine h1.ld0 (k := .p) (x := some ⟨bt, 0, none⟩) 3 rfl rfl ?_
    refine h1.ld0 (x := e.1) 6 rfl rfl ?_
    refine h1.ld (x := (3 : Int)) 6 rfl rfl ?_
    refine Hp.cutv (s := o) (Hp.rdSl (e := 2) (s := o) (n := 1) (f := iv) (l := List.replicate (xs.length + 8) 88)) (by simp; omega) iv_len (Int.le_refl 0) (by omega) (by omega) (by omega) (by omega) fun s hs _ _ => ?_
    have hpre8 : List.drop (0 : Int).toNat (List.take ((v.len : Int)).toNat (List.replicate (xs.length + 8) (88 : Int))) = List.replicate xs.length 88 := by
      show List.take _ _ = _
      rw [List.take_replicate]; congr 1; omega
    rw [hpre8] at hs
    refine Add_spec h1 0 5 (by omega) ok2 rfl (e := (e.1, 3)) rfl hs fun w1 h1 => ?_
    obtain ⟨ok3, n3⟩ := addM_ok ok2 (e.1, 3) (List.replicate xs.length 88)
    refine h1.ld (k := .p) (x := some ⟨br, 0, none⟩) 3 rfl rfl ?_
    refine h1.ld0 (x := e.1) 6 rfl rfl ?_
    refine h1.ld (x := (3 : Int)) 6 rfl rfl ?_
    refine RAdd_spec h1 1 7 (by omega) ok2 rfl (e := (e.1, 3)) rfl Hp.rdSl fun w1 h1 => ?_
    have h3 := back (rest := []) rfl rfl rfl (h1.sel2 0 1 (by omega) rfl rfl)
    rw [List.append_nil] at h3
    have := hK _ w1 ok3 (by rw [n3]; exact hnn) h3
    simpa using this
  · refine ifT (by simpa using he2) ?_
    have h3 := back (rest := []) rfl rfl rfl (h1.sel2 0 1 (by omega) rfl rfl)
    rw [List.append_nil] at h3
    exact hK _ w1 ok2 hnn h3

end
end Go.Proofs.Ytfghoeojpnnkiaa.F
