/-
  Contracts of package pack and of the document's own: what each writes and reads.
-/
import Derived.Test.YtbmpgjheiknjlaaM01
import Derived.Test.YtbmpgjheiknjlaaDenO
set_option linter.unusedSimpArgs false
set_option linter.unusedVariables false
namespace Go.Proofs.Ytbmpgjheiknjlaa.F
open Go Go.Den Go.Proofs

abbrev iv (x : Int) : List Value := [.int .i64 x]
theorem iv_len (x : Int) : (iv x).length = 1 := rfl
theorem inf5 : ∃ inf : TypeInfo, Try.prog.info? 5 = some inf ∧ inf.zero = some (.int .u8 0) ∧ inf.size = 1 ∧ inf.bytes = 1 := infoP (by kernel_rfl)
theorem inf2 : ∃ inf : TypeInfo, Try.prog.info? 2 = some inf ∧ inf.zero = some (.int .i64 0) ∧ inf.size = 1 ∧ inf.bytes = 8 := infoP (by kernel_rfl)
theorem und22 : Try.prog.underlying 22 = some (.slice 5) := by kernel_rfl
theorem und24 : Try.prog.underlying 24 = some (.slice 2) := by kernel_rfl
theorem und9 : Try.prog.underlying 9 = some .string := by kernel_rfl

abbrev tB (s : Sl) (l : List Int) : Thing := tSl s 5 1 u8v l

section
variable {S : List Nat} {w0 w : World} {its : List Thing}

theorem set_last {α : Type} (l : List α) (t u : α) : (l ++ [t]).set l.length u = l ++ [u] := by
  rw [List.set_append_right _ _ (Nat.le_refl _), Nat.sub_self, List.set_cons_zero]

theorem add_spec (h : Hp S w0 w its) (i : Nat) {b : Sl} {l : List Int} {n : Int} (hi : its[i]? = some (tB b l)) (h0 : 0 ≤ n) (h1 : n < 18446744073709551616) (hl : l.length + 10 ≤ 140737488355328) {K : Sl → World → Prop}
    (hK : ∀ s w', Hp S w0 w' (its.set i (tB s (l ++ putU n))) → K s w') : c34 b n w K := by
  refine c34_of ?_
  unfold f34
  have hil := (List.getElem?_eq_some_iff.1 hi).1
  obtain ⟨inf, q1, q2, q3, q4⟩ := inf5
  refine ⟨fun b2 n2 m w' => ∃ pre : List Int, 0 ≤ n2 ∧ n2 < 18446744073709551616 ∧ l ++ putU n = l ++ pre ++ putU n2 ∧ pre.length + (putU n2).length ≤ 10 ∧ m = n2.toNat ∧ Hp S w0 w' (its.set i (tB b2 (l ++ pre))),
    ⟨n.toNat, [], h0, h1, by simp, by have := putU_len n; simpa using this, rfl, by rw [List.append_nil, Hp.set_same hi]; exact h⟩, ?_⟩
  rintro b2 n2 m w2 ⟨pre, g0, g1, g2, g3, rfl, h⟩
  have hit : (its.set i (tB b2 (l ++ pre)))[i]? = some (tB b2 (l ++ pre)) := by simp [hil]
  have hbl := h.len (s := b2) i (by rw [hit]; rfl)
  simp only [List.length_append] at hbl
  have hp := putU_pos n2
  by_cases hge : n2 ≥ 128
  · refine ifT (by simpa using hge) ?_
    rw [top8]
    refine h.nwapp (c := [_]) i (n2 % 128 + 128) hit u8v_len und22 q1 q3 q2 rfl rfl (by simp [Value.oneCell']) (by rw [q4]; omega) (by omega) fun s2 w1 h hs2 _ => ?_
    rw [List.set_set] at h
    refine ⟨by omega, (n2 / 128).toNat, by omega, pre ++ [n2 % 128 + 128], ?_, ?_, ?_, ?_, ?_, ?_⟩
    · rw [shr7]; omega
    · rw [shr7]; omega
    · rw [g2, shr7, putU_ge hge g1]; simp
    · rw [shr7, putU_ge hge g1] at *; simp at g3 ⊢; omega
    · rw [shr7]
    · rw [← List.append_assoc]; exact h
  · refine ifF (by simpa using hge) ?_
    have e : IntKind.u8.wrap n2 = n2 := by rw [w8]; omega
    rw [e]
    refine h.nwapp (c := [_]) i n2 hit u8v_len und22 q1 q3 q2 rfl rfl (by simp [Value.oneCell']) (by rw [q4]; omega) (by omega) fun s2 w1 h hs2 _ => ?_
    rw [List.set_set] at h
    refine hK s2 w1 ?_
    rw [g2, putU_lt (by omega)]
    exact h

/-- A copy of bytes. -/
theorem fresh_spec (h : Hp S w0 w its) (j : Nat) {u : Thing} {b : Sl} {l : List Int} (hj : its[j]? = some u) (hu : Hp.Reads u b 1 u8v l) (hl : l.length ≤ 140737488355328) {K : Sl → World → Prop}
    (hK : ∀ s w', Hp S w0 w' (its ++ [tB s l]) → K s w') : Run .sl Try.prog (Builtin.append_ #[22, 22] 22 #[.slice none 0 0, .slice b.a b.len b.cap]) w K := by
  have hbl := h.lenU j (by rw [hj]; rfl) hu
  have hlt := (List.getElem?_eq_some_iff.1 hj).1
  have h := h.nil 5 1 u8v
  obtain ⟨inf, q1, q2, q3, q4⟩ := inf5
  refine h.appS its.length j (s := ⟨none, 0, 0⟩) List.getElem?_concat_length (u := u) (by rw [List.getElem?_append_left hlt]; exact hj) hu u8v_len und22 q1 q3 q2 rfl (by simp [Value.oneCell']) (by rw [q4]; show (0 + b.len) * 1 ≤ _; omega) (by show 0 + b.len ≤ _; omega) fun r w h _ _ => ?_
  rw [set_last] at h
  exact hK r w h

theorem Put_spec (h : Hp S w0 w its) (j : Nat) {u : Thing} {b : Sl} {l : List Int} {n : Int} (hj : its[j]? = some u) (hu : Hp.Reads u b 1 u8v l) (h0 : 0 ≤ n) (h1 : n < 18446744073709551616) (hl : l.length + 10 ≤ 140737488355328) {K : Sl → World → Prop}
    (hK : ∀ s w', Hp S w0 w' (its ++ [tB s (l ++ putU n)]) → K s w') : c10 b n w K := by
  refine c10_of ?_
  unfold f10
  refine c35_of ?_
  unfold f35
  refine fresh_spec h j hj hu (by omega) fun s w1 h => ?_
  refine add_spec h its.length List.getElem?_concat_length h0 h1 hl fun s w2 h => ?_
  rw [set_last] at h
  exact hK s w2 h

theorem PutInt_spec (h : Hp S w0 w its) (j : Nat) {u : Thing} {b : Sl} {l : List Int} {n : Int} (hj : its[j]? = some u) (hu : Hp.Reads u b 1 u8v l) (h0 : -9223372036854775808 ≤ n) (h1 : n ≤ 9223372036854775807) (hl : l.length + 10 ≤ 140737488355328) {K : Sl → World → Prop}
    (hK : ∀ s w', Hp S w0 w' (its ++ [tB s (l ++ putU (zig n))]) → K s w') : c11 b n w K := by
  refine c11_of ?_
  unfold f11
  refine c36_of ?_
  unfold f36
  refine ⟨by omega, by omega, ?_⟩
  rw [signed_eq h0 h1]
  have := zig_range h0 h1
  exact Put_spec h j hj hu this.1 this.2 hl hK

theorem PutText_spec (h : Hp S w0 w its) (j : Nat) {u : Thing} {b : Sl} {l : List Int} {s : ByteArray} (hj : its[j]? = some u) (hu : Hp.Reads u b 1 u8v l) (hl : l.length + 10 + s.size ≤ 140737488355328) {K : Sl → World → Prop}
    (hK : ∀ r w', Hp S w0 w' (its ++ [tB r (l ++ putU s.size ++ strL s)]) → K r w') : c12 b s w K := by
  refine c12_of ?_
  unfold f12
  have e : IntKind.u64.wrap (s.size : Int) = s.size := by rw [w64]; omega
  rw [e]
  refine Put_spec h j hj hu (by omega) (by omega) (by omega) fun r w1 h => ?_
  have hrl := h.len (s := r) its.length (by rw [List.getElem?_concat_length]; rfl)
  have := putU_len s.size
  simp only [List.length_append] at hrl
  obtain ⟨inf, q1, q2, q3, q4⟩ := inf5
  refine h.appT its.length List.getElem?_concat_length und22 und9 q1 q3 q2 q4 (by omega) fun r2 w2 h _ => ?_
  rw [set_last] at h
  exact hK r2 w2 h

/-! ### The document's own -/

theorem RPut_spec (h : Hp S w0 w its) (j : Nat) {u : Thing} {b : Sl} {l : List Int} {n : Int} (hj : its[j]? = some u) (hu : Hp.Reads u b 1 u8v l) (h0 : 0 ≤ n) (h1 : n < 18446744073709551616) (hl : l.length + 10 ≤ 140737488355328) {K : Sl → World → Prop}
    (hK : ∀ s w', Hp S w0 w' (its ++ [tB s (l ++ putU n)]) → K s w') : c14 b n w K := by
  refine c14_of ?_
  unfold f14
  refine fresh_spec h j hj hu (by omega) fun s w1 h => ?_
  obtain ⟨inf, q1, q2, q3, q4⟩ := inf5
  refine ⟨fun n2 b2 m w' => ∃ pre : List Int, 0 ≤ n2 ∧ n2 < 18446744073709551616 ∧ l ++ putU n = l ++ pre ++ putU n2 ∧ pre.length + (putU n2).length ≤ 10 ∧ m = n2.toNat ∧ Hp S w0 w' (its ++ [tB b2 (l ++ pre)]),
    ⟨n.toNat, [], h0, h1, by simp, by have := putU_len n; simpa using this, rfl, by rw [List.append_nil]; exact h⟩, ?_⟩
  rintro n2 b2 m w2 ⟨pre, g0, g1, g2, g3, rfl, h⟩
  have hbl := h.len (s := b2) its.length (by rw [List.getElem?_concat_length]; rfl)
  simp only [List.length_append] at hbl
  have hp := putU_pos n2
  by_cases hge : n2 ≥ 128
  · refine ifT (by simpa using hge) ⟨by omega, ?_⟩
    have e : IntKind.u8.wrap (IntKind.u64.wrap (Int.tmod n2 128 + 128)) = n2 % 128 + 128 := by
      rw [Int.tmod_eq_emod_of_nonneg g0, w64, w8]; omega
    have e2 : IntKind.u64.wrap (Int.tdiv n2 128) = n2 / 128 := by rw [Int.tdiv_eq_ediv_of_nonneg g0, w64]; omega
    rw [e]
    refine h.nwapp (c := [_]) its.length (n2 % 128 + 128) List.getElem?_concat_length u8v_len und22 q1 q3 q2 rfl rfl (by simp [Value.oneCell']) (by rw [q4]; omega) (by omega) fun s2 w1 h hs2 _ => ?_
    rw [set_last] at h
    refine ⟨by omega, (n2 / 128).toNat, by omega, pre ++ [n2 % 128 + 128], ?_, ?_, ?_, ?_, ?_, ?_⟩
    · rw [e2]; omega
    · rw [e2]; omega
    · rw [g2, e2, putU_ge hge g1]; simp
    · rw [e2]; rw [putU_ge hge g1] at g3; simp at g3 ⊢; omega
    · rw [e2]
    · rw [← List.append_assoc]; exact h
  · refine ifF (by simpa using hge) ?_
    have e : IntKind.u8.wrap n2 = n2 := by rw [w8]; omega
    rw [e]
    refine h.nwapp (c := [_]) its.length n2 List.getElem?_concat_length u8v_len und22 q1 q3 q2 rfl rfl (by simp [Value.oneCell']) (by rw [q4]; omega) (by omega) fun s2 w1 h hs2 _ => ?_
    rw [set_last] at h
    refine hK s2 w1 ?_
    rw [g2, putU_lt (by omega)]
    exact h

theorem folded_eq {n : Int} (h1 : -9223372036854775808 ≤ n) (h2 : n ≤ 9223372036854775807) {K : Int → World → Prop} (hK : K (zig n) w) : c38 n w K := by
  refine c38_of ?_
  unfold f38
  unfold zig at hK
  by_cases h : n < 0
  · refine ifT (by simpa using h) ?_
    rw [if_pos h] at hK
    have e : IntKind.u64.wrap (IntKind.u64.wrap (IntKind.u64.wrap (IntKind.i64.wrap (0 - IntKind.i64.wrap (n + 1))) * 2) + 1) = -2 * n - 1 := by
      rw [wr64 (n := n + 1) (by omega) (by omega), wr64 (by omega) (by omega), w64, w64, w64]; omega
    rw [e]; exact hK
  · refine ifF (by simpa using h) ?_
    rw [if_neg h] at hK
    have e : IntKind.u64.wrap (IntKind.u64.wrap n * 2) = 2 * n := by rw [w64, w64]; omega
    rw [e]; exact hK

theorem RPutInt_spec (h : Hp S w0 w its) (j : Nat) {u : Thing} {b : Sl} {l : List Int} {n : Int} (hj : its[j]? = some u) (hu : Hp.Reads u b 1 u8v l) (h0 : -9223372036854775808 ≤ n) (h1 : n ≤ 9223372036854775807) (hl : l.length + 10 ≤ 140737488355328) {K : Sl → World → Prop}
    (hK : ∀ s w', Hp S w0 w' (its ++ [tB s (l ++ putU (zig n))]) → K s w') : c15 b n w K := by
  refine c15_of ?_
  unfold f15
  refine folded_eq h0 h1 ?_
  have := zig_range h0 h1
  exact RPut_spec h j hj hu this.1 this.2 hl hK

theorem RPutText_spec (h : Hp S w0 w its) (j : Nat) {u : Thing} {b : Sl} {l : List Int} {s : ByteArray} (hj : its[j]? = some u) (hu : Hp.Reads u b 1 u8v l) (hl : l.length + 10 + s.size ≤ 140737488355328) {K : Sl → World → Prop}
    (hK : ∀ r w', Hp S w0 w' (its ++ [tB r (l ++ putU s.size ++ strL s)]) → K r w') : c16 b s w K := by
  refine c16_of ?_
  unfold f16
  have e : IntKind.u64.wrap (s.size : Int) = s.size := by rw [w64]; omega
  rw [e]
  refine RPut_spec h j hj hu (by omega) (by omega) (by omega) fun r w1 h => ?_
  have hrl := h.len (s := r) its.length (by rw [List.getElem?_concat_length]; rfl)
  have := putU_len s.size
  simp only [List.length_append] at hrl
  obtain ⟨inf, q1, q2, q3, q4⟩ := inf5
  refine h.appT its.length List.getElem?_concat_length und22 und9 q1 q3 q2 q4 (by omega) fun r2 w2 h _ => ?_
  rw [set_last] at h
  exact hK r2 w2 h
end
end Go.Proofs.Ytbmpgjheiknjlaa.F
