/-
  Contracts of package pack and of the document's own: what each writes and reads.
-/
import Derived.Test.YtmbbfaigbhnhcaaM02
import Derived.Test.YtmbbfaigbhnhcaaDenO
import Derived.Test.YtmbbfaigbhnhcaaDenM
set_option linter.unusedSimpArgs false
set_option linter.unusedVariables false
namespace Go.Proofs.Ytmbbfaigbhnhcaa.F
open Go Go.Den Go.Proofs

abbrev iv (x : Int) : List Value := [.int .i64 x]
theorem iv_len (x : Int) : (iv x).length = 1 := rfl
theorem inf5 : ∃ inf : TypeInfo, Try.prog.info? 5 = some inf ∧ inf.zero = some (.int .u8 0) ∧ inf.size = 1 ∧ inf.bytes = 1 := infoP (by kernel_rfl)
theorem und22 : Try.prog.underlying 22 = some (.slice 5) := by kernel_rfl
theorem und9 : Try.prog.underlying 9 = some .string := by kernel_rfl

abbrev tB (s : Sl) (l : List Int) : Thing := tSl s 5 1 u8v l

section
variable {S : List Nat} {w0 w : World} {its : List Thing}

theorem set_last {α : Type} (l : List α) (t u : α) : (l ++ [t]).set l.length u = l ++ [u] := by
  rw [List.set_append_right _ _ (Nat.le_refl _), Nat.sub_self, List.set_cons_zero]

theorem add_spec (h : Hp S w0 w its) (i : Nat) {b : Sl} {l : List Int} {n : Int} (hi : its[i]? = some (tB b l)) (h0 : 0 ≤ n) (h1 : n < 18446744073709551616) (hl : l.length + 10 ≤ 140737488355328) {K : Sl → World → Prop}
    (hK : ∀ s w', Hp S w0 w' (its.set i (tB s (l ++ putU n))) → K s w') : c34 b n w K := by
  refine c34_of ?_
  unfold f34
  have hil := (List.getElem?_eq_some_iff.1 hi).1
  obtain ⟨inf, q1, q2, q3, q4⟩ := inf5
  refine ⟨fun b2 n2 m w' => ∃ pre : List Int, 0 ≤ n2 ∧ n2 < 18446744073709551616 ∧ l ++ putU n = l ++ pre ++ putU n2 ∧ pre.length + (putU n2).length ≤ 10 ∧ m = n2.toNat ∧ Hp S w0 w' (its.set i (tB b2 (l ++ pre))),
    ⟨n.toNat, [], h0, h1, by simp, by have := putU_len n; simpa using this, rfl, by rw [List.append_nil, Hp.set_same hi]; exact h⟩, ?_⟩
  rintro b2 n2 m w2 ⟨pre, g0, g1, g2, g3, rfl, h⟩
  have hit : (its.set i (tB b2 (l ++ pre)))[i]? = some (tB b2 (l ++ pre)) := by simp [hil]
  have hbl := h.len (s := b2) i (by rw [hit]; rfl)
  simp only [List.length_append] at hbl
  have hp := putU_pos n2
  by_cases hge : n2 ≥ 128
  · refine ifT (by simpa using hge) ?_
    rw [top8]
    refine h.nwapp (c := [_]) i (n2 % 128 + 128) hit u8v_len und22 q1 q3 q2 rfl rfl (by simp [Value.oneCell']) (by rw [q4]; omega) (by omega) fun s2 w1 h hs2 _ => ?_
    rw [List.set_set] at h
    refine ⟨by omega, (n2 / 128).toNat, by omega, pre ++ [n2 % 128 + 128], ?_, ?_, ?_, ?_, ?_, ?_⟩
    · rw [shr7]; omega
    · rw [shr7]; omega
    · rw [g2, shr7, putU_ge hge g1]; simp
    · rw [shr7, putU_ge hge g1] at *; simp at g3 ⊢; omega
    · rw [shr7]
    · rw [← List.append_assoc]; exact h
  · refine ifF (by simpa using hge) ?_
    have e : IntKind.u8.wrap n2 = n2 := by rw [w8]; omega
    rw [e]
    refine h.nwapp (c := [_]) i n2 hit u8v_len und22 q1 q3 q2 rfl rfl (by simp [Value.oneCell']) (by rw [q4]; omega) (by omega) fun s2 w1 h hs2 _ => ?_
    rw [List.set_set] at h
    refine hK s2 w1 ?_
    rw [g2, putU_lt (by omega)]
    exact h

/-- A copy of bytes. -/
theorem fresh_spec (h : Hp S w0 w its) (j : Nat) {u : Thing} {b : Sl} {l : List Int} (hj : its[j]? = some u) (hu : Hp.Reads u b 1 u8v l) (hl : l.length ≤ 140737488355328) {K : Sl → World → Prop}
    (hK : ∀ s w', Hp S w0 w' (its ++ [tB s l]) → K s w') : Run .sl Try.prog (Builtin.append_ #[22, 22] 22 #[.slice none 0 0, .slice b.a b.len b.cap]) w K := by
  have hbl := h.lenU j (by rw [hj]; rfl) hu
  have hlt := (List.getElem?_eq_some_iff.1 hj).1
  have h := h.nil 5 1 u8v
  obtain ⟨inf, q1, q2, q3, q4⟩ := inf5
  refine h.appS its.length j (s := ⟨none, 0, 0⟩) List.getElem?_concat_length (u := u) (by rw [List.getElem?_append_left hlt]; exact hj) hu u8v_len und22 q1 q3 q2 rfl (by simp [Value.oneCell']) (by rw [q4]; show (0 + b.len) * 1 ≤ _; omega) (by show 0 + b.len ≤ _; omega) fun r w h _ _ => ?_
  rw [set_last] at h
  exact hK r w h

theorem Put_spec (h : Hp S w0 w its) (j : Nat) {u : Thing} {b : Sl} {l : List Int} {n : Int} (hj : its[j]? = some u) (hu : Hp.Reads u b 1 u8v l) (h0 : 0 ≤ n) (h1 : n < 18446744073709551616) (hl : l.length + 10 ≤ 140737488355328) {K : Sl → World → Prop}
    (hK : ∀ s w', Hp S w0 w' (its ++ [tB s (l ++ putU n)]) → K s w') : c22 b n w K := by
  refine c22_of ?_
  unfold f22
  refine c35_of ?_
  unfold f35
  refine fresh_spec h j hj hu (by omega) fun s w1 h => ?_
  refine add_spec h its.length List.getElem?_concat_length h0 h1 hl fun s w2 h => ?_
  rw [set_last] at h
  exact hK s w2 h

/-! ### The document's own -/

theorem RPut_spec (h : Hp S w0 w its) (j : Nat) {u : Thing} {b : Sl} {l : List Int} {n : Int} (hj : its[j]? = some u) (hu : Hp.Reads u b 1 u8v l) (h0 : 0 ≤ n) (h1 : n < 18446744073709551616) (hl : l.length + 10 ≤ 140737488355328) {K : Sl → World → Prop}
    (hK : ∀ s w', Hp S w0 w' (its ++ [tB s (l ++ putU n)]) → K s w') : c38 b n w K := by
  refine c38_of ?_
  unfold f38
  refine fresh_spec h j hj hu (by omega) fun s w1 h => ?_
  obtain ⟨inf, q1, q2, q3, q4⟩ := inf5
  refine ⟨fun n2 b2 m w' => ∃ pre : List Int, 0 ≤ n2 ∧ n2 < 18446744073709551616 ∧ l ++ putU n = l ++ pre ++ putU n2 ∧ pre.length + (putU n2).length ≤ 10 ∧ m = n2.toNat ∧ Hp S w0 w' (its ++ [tB b2 (l ++ pre)]),
    ⟨n.toNat, [], h0, h1, by simp, by have := putU_len n; simpa using this, rfl, by rw [List.append_nil]; exact h⟩, ?_⟩
  rintro n2 b2 m w2 ⟨pre, g0, g1, g2, g3, rfl, h⟩
  have hbl := h.len (s := b2) its.length (by rw [List.getElem?_concat_length]; rfl)
  simp only [List.length_append] at hbl
  have hp := putU_pos n2
  by_cases hge : n2 ≥ 128
  · refine ifT (by simpa using hge) ⟨by omega, ?_⟩
    have e : IntKind.u8.wrap (IntKind.u64.wrap (Int.tmod n2 128 + 128)) = n2 % 128 + 128 := by
      rw [Int.tmod_eq_emod_of_nonneg g0, w64, w8]; omega
    have e2 : IntKind.u64.wrap (Int.tdiv n2 128) = n2 / 128 := by rw [Int.tdiv_eq_ediv_of_nonneg g0, w64]; omega
    rw [e]
    refine h.nwapp (c := [_]) its.length (n2 % 128 + 128) List.getElem?_concat_length u8v_len und22 q1 q3 q2 rfl rfl (by simp [Value.oneCell']) (by rw [q4]; omega) (by omega) fun s2 w1 h hs2 _ => ?_
    rw [set_last] at h
    refine ⟨by omega, (n2 / 128).toNat, by omega, pre ++ [n2 % 128 + 128], ?_, ?_, ?_, ?_, ?_, ?_⟩
    · rw [e2]; omega
    · rw [e2]; omega
    · rw [g2, e2, putU_ge hge g1]; simp
    · rw [e2]; rw [putU_ge hge g1] at g3; simp at g3 ⊢; omega
    · rw [e2]
    · rw [← List.append_assoc]; exact h
  · refine ifF (by simpa using hge) ?_
    have e : IntKind.u8.wrap n2 = n2 := by rw [w8]; omega
    rw [e]
    refine h.nwapp (c := [_]) its.length n2 List.getElem?_concat_length u8v_len und22 q1 q3 q2 rfl rfl (by simp [Value.oneCell']) (by rw [q4]; omega) (by omega) fun s2 w1 h hs2 _ => ?_
    rw [set_last] at h
    refine hK s2 w1 ?_
    rw [g2, putU_lt (by omega)]
    exact h
end
end Go.Proofs.Ytmbbfaigbhnhcaa.F
