/-
  Contracts of package pack, fourth part: rows are written in their shortest form.
-/
import Derived.Test.YtbmpgjheiknjlaaC01r
set_option linter.unusedSimpArgs false
set_option linter.unusedVariables false
namespace Go.Proofs.Ytbmpgjheiknjlaa.F
open Go Go.Den Go.Proofs

section
variable {S : List Nat} {w0 w : World} {its : List Thing}

theorem signed_spec {n : Int} {K : Int → World → Prop} (h1 : -9223372036854775808 ≤ n) (h2 : n ≤ 9223372036854775807) (hK : K (zig n) w) : c36 n w K := by
  refine c36_of ?_
  unfold f36
  refine ⟨by omega, by omega, ?_⟩
  rw [signed_eq h1 h2]
  exact hK

theorem written_spec (h : Hp S w0 w its) (i j : Nat) (hij : i ≠ j) {u : Thing} {b v : Sl} {pre l : List Int} (hi : its[i]? = some (tB b pre)) (hj : its[j]? = some u) (hu : Hp.Reads u v 1 iv l) (hr : R64 l) (hl : l.length ≤ 1000000000000) (hp : pre.length ≤ 10000000000000) {form : Int} (hf : form = 0 ∨ form = 1 ∨ form = 2) {K : Sl → World → Prop}
    (hK : ∀ s w', Hp S w0 w' (its.set i (tB s (pre ++ formU form l))) → K s w') : c46 form b v w K := by
  refine c46_of ?_
  unfold f46
  have hvl := h.lenU j (by rw [hj]; rfl) hu
  have hil := (List.getElem?_eq_some_iff.1 hi).1
  have hj' : ∀ t : Thing, (its.set i t)[j]? = some u := fun t => by rw [List.getElem?_set_ne hij]; exact hj
  have hi' : ∀ t : Thing, (its.set i t)[i]? = some t := fun t => by simp [hil]
  rcases hf with rfl | rfl | rfl
  · refine ifT rfl ?_
    refine ⟨fun b2 t m w' => ∃ (k : Nat) (cur : List Int), t = k ∧ k ≤ l.length ∧ cur ++ encZ (l.drop k) = pre ++ encZ l ∧ cur.length ≤ pre.length + 10 * k ∧ m = l.length - k ∧ Hp S w0 w' (its.set i (tB b2 cur)), ⟨l.length, 0, pre, rfl, by omega, rfl, by omega, rfl, by rw [Hp.set_same hi]; exact h⟩, ?_⟩
    rintro b2 t m w2 ⟨k, cur, rfl, hk, hc, hcl, rfl, h⟩
    by_cases hlt : k < l.length
    · refine ifT (by simp; omega) ?_
      have hd : l.drop k = l[k] :: l.drop (k + 1) := List.drop_eq_getElem_cons hlt
      have hx := hr l[k] (List.getElem_mem hlt)
      refine h.ixldU (k := .i .i64) (u := u) (y := l[k]) (x := l[k]) j (by rw [hj']; rfl) hu (by omega) (by simp [hlt]) iv_len rfl ?_
      rw [hd] at hc
      generalize l[k] = x at hc hx
      refine signed_spec hx.1 hx.2 ?_
      have hz := zig_range hx.1 hx.2
      refine add_spec h i (hi' _) hz.1 hz.2 (by omega) fun s w1 h => ?_
      rw [List.set_set] at h
      have := putU_len (zig x)
      refine ⟨l.length - (k + 1), by omega, k + 1, _, by rw [wr64 (by omega) (by omega)]; omega, by omega, ?_, by simp only [List.length_append]; omega, rfl, h⟩
      rw [← hc]
      simp [encZ]
    · refine ifF (by simp; omega) ?_
      rw [List.drop_of_length_le (by omega)] at hc
      have hc : cur = pre ++ encZ l := by simpa [encZ] using hc
      rw [hc] at h
      exact hK b2 _ h
  · refine ifF (by simp) ?_
    refine ifT rfl ?_
    refine ⟨fun b2 last t m w' => ∃ (k : Nat) (cur : List Int), t = k ∧ k ≤ l.length ∧ cur ++ encS last (l.drop k) = pre ++ encS 0 l ∧ cur.length ≤ pre.length + 10 * k ∧ m = l.length - k ∧ Hp S w0 w' (its.set i (tB b2 cur)), ⟨l.length, 0, pre, rfl, by omega, rfl, by omega, rfl, by rw [Hp.set_same hi]; exact h⟩, ?_⟩
    rintro b2 last t m w2 ⟨k, cur, rfl, hk, hc, hcl, rfl, h⟩
    by_cases hlt : k < l.length
    · refine ifT (by simp; omega) ?_
      have hd : l.drop k = l[k] :: l.drop (k + 1) := List.drop_eq_getElem_cons hlt
      refine h.ixldU (k := .i .i64) (u := u) (y := l[k]) (x := l[k]) j (by rw [hj']; rfl) hu (by omega) (by simp [hlt]) iv_len rfl ?_
      rw [hd, encS] at hc
      generalize l[k] = x at hc
      have hx1 := wr64lo (x - last)
      have hx2 := wr64hi (x - last)
      generalize IntKind.i64.wrap (x - last) = y at hc hx1 hx2 ⊢
      refine signed_spec hx1 hx2 ?_
      have hz := zig_range hx1 hx2
      refine add_spec h i (hi' _) hz.1 hz.2 (by omega) fun s w1 h => ?_
      rw [List.set_set] at h
      have := putU_len (zig y)
      refine ⟨l.length - (k + 1), by omega, k + 1, _, by rw [wr64 (by omega) (by omega)]; omega, by omega, ?_, by simp only [List.length_append]; omega, rfl, h⟩
      rw [← hc, List.append_assoc]
    · refine ifF (by simp; omega) ?_
      rw [List.drop_of_length_le (by omega), encS, List.append_nil] at hc
      rw [hc] at h
      exact hK b2 _ h
  · refine ifF (by simp) ?_
    refine ifF (by simp) ?_
    refine runs_spec h j hj hu hr hl fun all w1 h => ?_
    have hal := h.len (s := all) its.length (by rw [List.getElem?_concat_length]; rfl)
    have hrl := runsL_len l
    have hrm := runT_mem none l
    have ew : IntKind.u64.wrap (all.len : Int) = ((runsL l).length : Int) := by rw [w64]; omega
    rw [ew]
    refine add_spec h i (by rw [List.getElem?_append_left hil]; exact hi) (by omega) (by omega) (by omega) fun b6 w1 h => ?_
    rw [List.set_append_left _ _ hil] at h
    have hpl := putU_len (runsL l).length
    have hKs : ∀ s w', Hp S w0 w' (its.set i (tB s (pre ++ putU (runsL l).length ++ (runsL l).flatMap encP))) → K s w' := fun s w' h => hK s w' (by
      have e : formU 2 l = encR l := rfl
      rw [e, encR, ← List.append_assoc]; exact h)
    change ∀ y ∈ runsL l, _ at hrm
    generalize runsL l = R at hal hrl hrm hpl h hKs ⊢
    have hR : ∀ y ∈ R, 0 ≤ y.1 ∧ y.1 < 18446744073709551616 ∧ -9223372036854775808 ≤ y.2 ∧ y.2 ≤ 9223372036854775807 := fun y hy => by
      obtain ⟨a1, a2, a3⟩ := hrm y hy
      have := hr _ a3
      omega
    refine ⟨fun b7 t m w' => ∃ (k : Nat) (cur : List Int), t = k ∧ k ≤ R.length ∧ cur ++ (R.drop k).flatMap encP = pre ++ putU R.length ++ R.flatMap encP ∧ cur.length ≤ pre.length + 10 + 20 * k ∧ m = R.length - k ∧ Hp S w0 w' (its.set i (tB b7 cur) ++ [tSl all 76 2 rv R]), ⟨R.length, 0, _, rfl, by omega, rfl, by simp; omega, rfl, h⟩, ?_⟩
    rintro b7 t m w2 ⟨k, cur, rfl, hk, hc, hcl, rfl, h⟩
    have hsl : (its.set i (tB b7 cur)).length = its.length := by simp
    by_cases hlt : k < R.length
    · refine ifT (by simp; omega) ?_
      have hd : R.drop k = R[k] :: R.drop (k + 1) := List.drop_eq_getElem_cons hlt
      have hy := hR R[k] (List.getElem_mem hlt)
      have hget : R[((k : Int)).toNat]? = some R[k] := by simp [hlt]
      rw [hd] at hc
      generalize R[k] = y at hc hy hget
      refine h.ixr its.length (by rw [List.getElem?_append_right (by omega), hsl, Nat.sub_self]; rfl) (by omega) hget rv_len fun a ha => ?_
      refine ldR0 (k := .i .u64) (x := y.1) (ha 0 (by omega)) rfl ?_
      refine ldR (k := .i .i64) (x := y.2) (ha 1 (by omega)) rfl ?_
      have e1 : ∀ t : Thing, (its.set i (tB b7 cur) ++ [tSl all 76 2 rv R] ++ [t])[its.length + 1]? = some t := fun t => by
        rw [List.getElem?_append_right (by simp), List.length_append, hsl]; simp
      have e1' : ∀ t t' : Thing, (its.set i (tB b7 cur) ++ [tSl all 76 2 rv R] ++ [t]).set (its.length + 1) t' = its.set i (tB b7 cur) ++ [tSl all 76 2 rv R] ++ [t'] := fun t t' => by
        rw [List.set_append_right _ _ (by simp), List.length_append, hsl]; simp
      refine h.nw (c := [_, _]) fun r3 w1 h => ?_
      refine h.st0 (its.length + 1) (e1 _) (by simp) rfl fun w1 h => ?_
      rw [e1'] at h
      refine h.st (its.length + 1) (e1 _) (by simp) rfl fun w1 h => ?_
      rw [e1'] at h
      refine h.dr fun w1 h => ?_
      refine h.ld0 (k := .i .u64) (x := y.1) (its.length + 1) (by rw [e1]; rfl) rfl ?_
      refine h.ld (x := y.2) (its.length + 1) (by rw [e1]; rfl) rfl ?_
      have hii : ∀ t t' t'' : Thing, (its.set i t ++ [t'] ++ [t''])[i]? = some t := fun t t' t'' => by
        rw [List.append_assoc, List.getElem?_append_left (by simp; omega)]; exact hi' t
      have hss : ∀ t t' t'' q : Thing, (its.set i t ++ [t'] ++ [t'']).set i q = its.set i q ++ [t'] ++ [t''] := fun t t' t'' q => by
        rw [List.append_assoc, List.set_append_left _ _ (by simp; omega), List.set_set, List.append_assoc]
      refine add_spec h i (hii _ _ _) hy.1 hy.2.1 (by omega) fun r4 w1 h => ?_
      rw [hss] at h
      have e2 : ∀ q t : Thing, (its.set i q ++ [tSl all 76 2 rv R] ++ [t])[its.length + 1]? = some t := fun q t => by
        rw [List.getElem?_append_right (by simp), List.length_append, List.length_set]; simp
      refine ⟨h.cel (its.length + 1) (by rw [e2]; rfl) rfl, ?_⟩
      refine signed_spec hy.2.2.1 hy.2.2.2 ?_
      have hz := zig_range hy.2.2.1 hy.2.2.2
      have := putU_len y.1
      refine add_spec h i (hii _ _ _) hz.1 hz.2 (by simp only [List.length_append]; omega) fun b8 w1 h => ?_
      rw [hss] at h
      have := putU_len (zig y.2)
      refine ⟨R.length - (k + 1), by omega, k + 1, _, by rw [wr64 (by omega) (by omega)]; omega, by omega, ?_, by simp only [List.length_append]; omega, rfl, h.front⟩
      rw [← hc]
      simp [encP]
    · refine ifF (by simp; omega) ?_
      rw [List.drop_of_length_le (by omega), List.flatMap_nil, List.append_nil] at hc
      rw [hc] at h
      exact hKs b7 _ h.front

/-- The rows of the code's, each form tried. -/
theorem tried_spec (h : Hp S w0 w its) (i i' j : Nat) {u : Thing} {bh bl : Nat} {head v : Sl} {hd : List Int} {l : List Int} {t1 t2 : TypeId} {ih : Nat} {uh : Thing} (hi : (its[i]?).map Thing.holds = some (tBlk bh t1 [.slice head.a head.len head.cap]).holds) (hi' : (its[i']?).map Thing.holds = some (tBlk bl t2 [.slice v.a v.len v.cap]).holds)
    (hih : its[ih]? = some uh) (huh : Hp.Reads uh head 1 u8v hd) (hj : its[j]? = some u) (hu : Hp.Reads u v 1 iv l) (hr : R64 l) (hl : l.length ≤ 1000000000000) (hp : hd.length ≤ 1000000000000) {form : Int} (hf : form = 0 ∨ form = 1 ∨ form = 2) {K : Sl → World → Prop}
    (hK : ∀ s w', Hp S w0 w' (its ++ [tB s (hd ++ form :: formU form l)]) → K s w') : c45 form (some ⟨bh, 0, none⟩) (some ⟨bl, 0, none⟩) w K := by
  refine c45_of ?_
  unfold f45
  have hjl := (List.getElem?_eq_some_iff.1 hj).1
  have hihl := (List.getElem?_eq_some_iff.1 hih).1
  have hi'l : i' < its.length := by
    refine Nat.lt_of_not_le fun hle => ?_
    rw [List.getElem?_eq_none hle] at hi'
    cases hi'
  obtain ⟨inf, q1, q2, q3, q4⟩ := inf5
  refine h.dr fun w1 h => ?_
  refine nns ?_
  refine h.ld0 (k := .sl) (x := head) i hi rfl ?_
  refine nns ?_
  refine h.ld0 (k := .sl) (x := v) i' hi' rfl ?_
  have h := h.opt 5 [.int .u8 form]
  refine h.fls its.length List.getElem?_concat_length fun y w1 h => ?_
  rw [set_last] at h
  refine c35_of ?_
  unfold f35
  refine fresh_spec h ih (by rw [List.getElem?_append_left hihl]; exact hih) huh (by omega) fun r w1 h => ?_
  refine ⟨h.cel0 i' (by rw [List.append_assoc, List.getElem?_append_left hi'l]; exact hi') rfl, ?_⟩
  have e1 : ∀ t t' : Thing, (its ++ [t] ++ [t'])[its.length]? = some t := fun t t' => by
    rw [List.append_assoc, List.getElem?_append_right (Nat.le_refl _), Nat.sub_self]; rfl
  have e1' : ∀ t t' q : Thing, (its ++ [t] ++ [t']).set its.length q = its ++ [q] ++ [t'] := fun t t' q => by
    rw [List.append_assoc, List.set_append_right _ _ (Nat.le_refl _), Nat.sub_self]; simp
  have e2 : ∀ t t' : Thing, (its ++ [t] ++ [t'])[its.length + 1]? = some t' := fun t t' => by
    rw [List.getElem?_append_right (by simp)]; simp
  have e2' : ∀ t t' q : Thing, (its ++ [t] ++ [t']).set (its.length + 1) q = its ++ [t] ++ [q] := fun t t' q => by
    rw [List.set_append_right _ _ (by simp)]; simp
  have hrl := h.len (s := r) (its.length + 1) (by rw [e2]; rfl)
  refine h.fls its.length (e1 _ _) fun y2 w1 h => ?_
  rw [e1'] at h
  refine h.need its.length (e1 _ _) fun b3 h => ?_
  rw [e1'] at h
  refine h.app (its.length + 1) its.length (y := form) (c := [.int .u8 form]) (e2 _ _) (by rw [e1]; rfl) u8v_len und22 q1 q3 q2 rfl rfl (by simp [Value.oneCell']) (by rw [q4]; omega) (by omega) fun s w1 h _ _ => ?_
  rw [e2'] at h
  refine ⟨h.cel0 i' (by rw [List.append_assoc, List.getElem?_append_left hi'l]; exact hi') rfl, ?_⟩
  refine written_spec h (its.length + 1) j (by omega) (e2 _ _) (by rw [List.append_assoc, List.getElem?_append_left hjl]; exact hj) hu hr hl (by simp; omega) hf fun s2 w1 h => ?_
  rw [e2'] at h
  refine hK s2 w1 ?_
  have e3 : hd ++ [form] ++ formU form l = hd ++ form :: formU form l := by simp
  rw [e3] at h
  refine h.sel (List.range its.length ++ [its.length + 1]) ?_ (by simp) ?_
  · rw [List.nodup_append]
    refine ⟨List.nodup_range, by simp, ?_⟩
    intro a ha b hb
    simp only [List.mem_range] at ha
    simp only [List.mem_singleton] at hb
    omega
  · intro n m hnm
    by_cases hn : n < its.length
    · rw [List.getElem?_append_left (by simpa using hn), List.getElem?_range hn] at hnm
      cases hnm
      rw [List.append_assoc, List.getElem?_append_left hn, List.getElem?_append_left hn]
    · have hn2 : n = its.length := by
        have := (List.getElem?_eq_some_iff.1 hnm).1
        simp at this
        omega
      subst hn2
      rw [List.getElem?_append_right (by simp)] at hnm
      simp at hnm
      subst hnm
      rw [e2, List.getElem?_append_right (Nat.le_refl _), Nat.sub_self]; rfl
end
end Go.Proofs.Ytbmpgjheiknjlaa.F
