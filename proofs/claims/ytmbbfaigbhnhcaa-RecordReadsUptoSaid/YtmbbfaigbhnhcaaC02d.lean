/-
  Contracts of package record, and of the document's own: sums, records made and put.
-/
import Derived.Test.YtmbbfaigbhnhcaaM02d
import Derived.Test.YtmbbfaigbhnhcaaDenK
set_option linter.unusedSimpArgs false
set_option linter.unusedVariables false
set_option maxRecDepth 100000
namespace Go.Proofs.Ytmbbfaigbhnhcaa.F
open Go Go.Den Go.Proofs

abbrev slv (s : Sl) : List Value := [.slice s.a s.len s.cap]
theorem slv_len (s : Sl) : (slv s).length = 1 := rfl
abbrev nilS : Sl := ⟨none, 0, 0⟩
theorem und3 : Try.prog.underlying 3 = some (.int .i64) := by kernel_rfl
theorem inf22 : ∃ inf : TypeInfo, Try.prog.info? 22 = some inf ∧ inf.zero = some (.slice none 0 0) ∧ inf.size = 1 ∧ inf.bytes = 24 := infoP (by kernel_rfl)
theorem und34 : Try.prog.underlying 34 = some (.slice 22) := by kernel_rfl

section
variable {S : List Nat} {w0 w : World} {its : List Thing}

theorem front_at {j : Nat} {u : Thing} {more : List Thing} (hj : its[j]? = some u) : (its ++ more)[j]? = some u := by
  rw [List.getElem?_append_left (List.getElem?_eq_some_iff.1 hj).1]; exact hj

/-- slices.Grow of nil. -/
theorem GrowNil_spec (h : Hp S w0 w its) {n : Nat} (hn : n ≤ 140737488355328) {K : Sl → World → Prop} (hK : ∀ s w', Hp S w0 w' (its ++ [tB s []]) → K s w') : c36 ⟨none, 0, 0⟩ (n : Int) w K := by
  refine c36_of ?_
  unfold f36
  obtain ⟨inf, q1, q2, q3, q4⟩ := inf5
  refine ⟨fun w' => w' = w, ifF (by simp) rfl, ?_⟩
  rintro w' rfl
  have e : IntKind.i64.wrap ((n : Int) - (IntKind.i64.wrap (((0 : Nat) : Int) - ((0 : Nat) : Int)))) = (n : Int) := by
    rw [wr64 (n := ((0 : Nat) : Int) - ((0 : Nat) : Int)) (by omega) (by omega), wr64 (by omega) (by omega)]; omega
  rw [e]
  by_cases h0 : n = 0
  · subst h0
    exact ifF (by simp) (hK _ _ (h.nil 5 1 u8v))
  · refine ifT (by simp; omega) ?_
    refine ⟨by simp, by simp, by simp, by simp, ?_⟩
    show Run .sl Try.prog (Builtin.append_ #[22, 3] 22 #[.slice none 0 0, .int .i64 (n : Int)]) w' _
    refine h.mkz (x0 := 0) u8v_len und22 und3 q1 q3 (by omega) q2 rfl rfl (by omega) (by rw [q4]; omega) hn fun s w1 h hl _ => ?_
    have hc := h.cap (s := s) (e := 5) (n := 1) (f := u8v) (l := List.replicate n 0) its.length (by simp)
    refine h.cut its.length (s := s) (a := 0) (b := ((0 : Nat) : Int)) (m := (s.cap : Int)) List.getElem?_concat_length u8v_len (by simp) (by simp) (by simp) (by simp) (by simp) fun s' h _ _ _ => ?_
    rw [set_last] at h
    exact hK s' w1 (by simpa using h)

/-- slices.Concat. -/
theorem Concat_spec (h : Hp S w0 w its) (i : Nat) {u : Thing} {sl : Sl} {L : List Sl} {C : List (List Int)} (hi : its[i]? = some u) (hu : Hp.Reads u sl 1 slv L) (hC : C.length = L.length)
    (hp : ∀ (k : Nat) (s : Sl) (c : List Int), L[k]? = some s → C[k]? = some c → ∃ (j : Nat) (v : Thing), its[j]? = some v ∧ Hp.Reads v s 1 u8v c) (hn : C.flatten.length ≤ 140737488355328) (hL : L.length ≤ 1000000) {K : Sl → World → Prop}
    (hK : ∀ s w', Hp S w0 w' (its ++ [tB s C.flatten]) → K s w') : c23 sl w K := by
  refine c23_of ?_
  unfold f23
  obtain ⟨inf, q1, q2, q3, q4⟩ := inf5
  have hsl := h.lenU i (by rw [hi]; rfl) hu
  have hlen : ∀ (k : Nat) (s : Sl) (c : List Int), L[k]? = some s → C[k]? = some c → c.length = s.len := by
    intro k s c h1 h2
    obtain ⟨j, v, hj, hv⟩ := hp k s c h1 h2
    exact h.lenU j (by rw [hj]; rfl) hv
  have hsplit : ∀ k, k ≤ C.length → (C.take k).flatten.length ≤ C.flatten.length := by
    intro k hk
    conv => rhs; rw [← List.take_append_drop k C]
    rw [List.flatten_append, List.length_append]; omega
  refine ⟨fun size t m w' => ∃ k : Nat, t = k ∧ k ≤ L.length ∧ m = L.length - k ∧ size = ((C.take k).flatten.length : Int) ∧ w' = w, ⟨L.length, 0, rfl, by omega, rfl, by simp, rfl⟩, ?_⟩
  rintro size t m w1 ⟨k, rfl, hk, rfl, rfl, rfl⟩
  by_cases hlt : k < L.length
  · refine ifT (by simp; omega) ?_
    have hkC : k < C.length := by omega
    have hLk : L[k]? = some L[k] := by simp [hlt]
    have hCk : C[k]? = some C[k] := by simp [hkC]
    have hl := hlen k _ _ hLk hCk
    have htk : C.take (k + 1) = C.take k ++ [C[k]] := List.take_succ_eq_append_getElem hkC
    have hs1 := hsplit (k + 1) (by omega)
    rw [htk, List.flatten_append, List.length_append] at hs1
    simp only [List.flatten_cons, List.flatten_nil, List.append_nil] at hs1
    refine h.ixldU (k := .sl) (u := u) (y := L[k]) (x := L[k]) i (by rw [hi]; rfl) hu (by omega) (by simp [hlt]) slv_len rfl ?_
    have e : IntKind.i64.wrap (((C.take k).flatten.length : Int) + (L[k].len : Int)) = (((C.take (k + 1)).flatten.length : Nat) : Int) := by
      rw [wr64 (by omega) (by omega), htk, List.flatten_append, List.length_append]
      simp only [List.flatten_cons, List.flatten_nil, List.append_nil]
      omega
    rw [e]
    refine ifF (by simp) ?_
    exact ⟨L.length - (k + 1), by omega, k + 1, by rw [wr64 (by omega) (by omega)]; omega, by omega, rfl, rfl, rfl⟩
  refine ifF (by simp; omega) ?_
  obtain rfl : k = L.length := by omega
  rw [List.take_of_length_le (by omega)]
  refine GrowNil_spec h hn fun ns w2 h => ?_
  refine ⟨fun ns t m w' => ∃ k : Nat, t = k ∧ k ≤ L.length ∧ m = L.length - k ∧ Hp S w0 w' (its ++ [tB ns (C.take k).flatten]), ⟨L.length, 0, rfl, by omega, rfl, by simpa using h⟩, ?_⟩
  rintro ns t m w3 ⟨k, rfl, hk, rfl, h⟩
  by_cases hlt : k < L.length
  · refine ifT (by simp; omega) ?_
    have hkC : k < C.length := by omega
    have hLk : L[k]? = some L[k] := by simp [hlt]
    have hCk : C[k]? = some C[k] := by simp [hkC]
    have hl := hlen k _ _ hLk hCk
    have htk : C.take (k + 1) = C.take k ++ [C[k]] := List.take_succ_eq_append_getElem hkC
    have hs1 := hsplit (k + 1) (by omega)
    rw [htk, List.flatten_append, List.length_append] at hs1
    simp only [List.flatten_cons, List.flatten_nil, List.append_nil] at hs1
    obtain ⟨j, v, hj, hv⟩ := hp k _ _ hLk hCk
    refine h.ixldU (k := .sl) (u := u) (y := L[k]) (x := L[k]) i (by rw [front_at hi]; rfl) hu (by omega) (by simp [hlt]) slv_len rfl ?_
    have hnl := h.len (s := ns) (e := 5) (n := 1) (f := u8v) (l := (C.take k).flatten) its.length (by simp)
    refine h.appS its.length j (s := ns) List.getElem?_concat_length (front_at hj) hv u8v_len und22 q1 q3 q2 rfl (by simp [Value.oneCell']) (by rw [q4]; omega) (by omega) fun ns2 w4 h _ _ => ?_
    rw [set_last] at h
    refine ⟨L.length - (k + 1), by omega, k + 1, by rw [wr64 (by omega) (by omega)]; omega, by omega, rfl, ?_⟩
    rw [htk, List.flatten_append]
    simpa using h
  · refine ifF (by simp; omega) ?_
    rw [List.take_of_length_le (by omega)] at h
    exact hK _ _ h

/-- slices.Equal. -/
theorem Equal_spec (h : Hp S w0 w its) (i j : Nat) {u v : Thing} {a b : Sl} {xs ys : List Int} (hi : (its[i]?).map Thing.holds = some u.holds) (hj : (its[j]?).map Thing.holds = some v.holds) (hu : Hp.Reads u a 1 u8v xs) (hv : Hp.Reads v b 1 u8v ys) (hlen : xs.length ≤ 1000000000) {K : Bool → World → Prop}
    (hK : ∀ w', Hp S w0 w' its → K (decide (xs = ys)) w') : c31 a b w K := by
  refine c31_of ?_
  unfold f31
  have hxl := h.lenU i hi hu
  have hyl := h.lenU j hj hv
  by_cases hl : xs.length = ys.length
  · refine ifF (by simp; omega) ?_
    refine ⟨fun t mm w' => ∃ k : Nat, t = k ∧ k ≤ xs.length ∧ mm = xs.length - k ∧ xs.take k = ys.take k ∧ Hp S w0 w' its, ⟨xs.length, 0, rfl, by omega, rfl, by simp, h⟩, ?_⟩
    rintro t mm w2 ⟨k, rfl, hk, rfl, he, h⟩
    by_cases hlt : k < xs.length
    · refine ifT (by simp; omega) ?_
      refine h.dr fun w1 h => ?_
      refine h.ixldU (k := .i .u8) (u := u) (y := xs[k]) (x := xs[k]) i hi hu (by omega) (by simp [hlt]) u8v_len rfl ?_
      refine h.ixldU (k := .i .u8) (u := v) (y := ys[k]) (x := ys[k]) j hj hv (by omega) (by simp [show k < ys.length by omega]) u8v_len rfl ?_
      by_cases hxy : xs[k] = ys[k]
      · refine ifF (by rw [hxy]; simp) ?_
        refine ⟨xs.length - (k + 1), by omega, k + 1, by rw [wr64 (by omega) (by omega)]; omega, by omega, rfl, ?_, h⟩
        rw [List.take_add_one, List.take_add_one, he, List.getElem?_eq_getElem hlt, List.getElem?_eq_getElem (by omega), hxy]
      · refine ifT (by simpa using hxy) ?_
        have : decide (xs = ys) = false := by
          simp only [decide_eq_false_iff_not]
          rintro rfl
          exact hxy rfl
        have h2 := hK w1 h
        rw [this] at h2
        exact h2
    · refine ifF (by simp; omega) ?_
      have h2 := hK w2 h
      have : xs = ys := by
        rw [List.take_of_length_le (by omega), List.take_of_length_le (by omega)] at he
        exact he
      rw [decide_eq_true this] at h2
      exact h2
  · refine ifT (by simp; omega) ?_
    have : decide (xs = ys) = false := by
      simp only [decide_eq_false_iff_not]
      rintro rfl
      exact hl rfl
    have h2 := hK w h
    rw [this] at h2
    exact h2

/-- append([]byte{}, s...). -/
theorem copy0 (h : Hp S w0 w its) (j : Nat) {u : Thing} {s : Sl} {l : List Int} (hj : its[j]? = some u) (hu : Hp.Reads u s 1 u8v l) (hl : l.length ≤ 140737488355328) {K : Sl → World → Prop} (hK : ∀ r w', Hp S w0 w' (its ++ [tB r l]) → K r w') :
    Nw (.cells #[] 5) w fun b w => Run .sl Try.prog (Builtin.append_ #[22, 22] 22 #[.slice (some b) 0 0, .slice s.a s.len s.cap]) w K := by
  obtain ⟨inf, q1, q2, q3, q4⟩ := inf5
  have hsl := h.lenU j (by rw [hj]; rfl) hu
  refine h.nw (c := []) fun b w1 h => ?_
  have h := h.blkSl (i := its.length) (m := 0) (l := ([] : List Int)) (f := u8v) (n := 1) List.getElem?_concat_length rfl rfl u8v_len
  rw [set_last] at h
  refine h.appS its.length j (s := ⟨some ⟨b, 0, none⟩, 0, 0⟩) List.getElem?_concat_length (front_at hj) hu u8v_len und22 q1 q3 q2 rfl (by simp [Value.oneCell']) (by rw [q4]; show (0 + s.len) * 1 ≤ _; omega) (by show 0 + s.len ≤ _; omega) fun r w2 h _ _ => ?_
  rw [set_last] at h
  exact hK r w2 (by simpa using h)

theorem not_none {u : Thing} {s : Sl} {l : List Int} (h : Hp S w0 w its) (j : Nat) (hj : its[j]? = some u) (hu : Hp.Reads u s 1 u8v l) (hl : l ≠ []) : s.a ≠ none := by
  obtain ⟨O, hO⟩ := h.see hj
  obtain ⟨o, ho⟩ := hu.rd hO
  intro hn
  exact hl (ho.isNil hn)

/-- slices.Clone. -/
theorem Clone_spec (h : Hp S w0 w its) (j : Nat) {u : Thing} {s : Sl} {l : List Int} (hj : its[j]? = some u) (hu : Hp.Reads u s 1 u8v l) (hl : l.length ≤ 140737488355328) {K : Sl → World → Prop} (hK : ∀ r w', Hp S w0 w' (its ++ [tB r l]) → K r w') : c32 s w K := by
  refine c32_of ?_
  unfold f32
  cases hs : s.a with
  | none =>
    refine ifT rfl (hK _ _ ?_)
    obtain ⟨O, hO⟩ := h.see hj
    obtain ⟨o, ho⟩ := hu.rd hO
    rw [ho.isNil hs]
    exact h.nil 5 1 u8v
  | some a =>
    refine ifF (by simp) ?_
    rw [← hs]
    exact copy0 h j hj hu hl hK

theorem shr_sum {n : Int} {k : Nat} (hk : k ≤ 32) : Int.fdiv n (2 ^ (min k 32)) = n / 2 ^ k := by
  rw [Nat.min_eq_left hk, Int.fdiv_eq_ediv_of_nonneg _ (Int.pow_nonneg (by omega))]

/-- The sum of a record's head and data. -/
theorem sum_spec (h : Hp S w0 w its) (i j : Nat) {u v : Thing} {a b : Sl} {xs ys : List Int} (hi : its[i]? = some u) (hj : its[j]? = some v) (hu : Hp.Reads u a 1 u8v xs) (hv : Hp.Reads v b 1 u8v ys) (hx : Bytes xs) (hy : Bytes ys) (hlx : xs.length ≤ 1000000000) (hly : ys.length ≤ 1000000000) {K : Sl → World → Prop}
    (hK : ∀ s w', Hp S w0 w' (its ++ [tB s (sumB (xs ++ ys))]) → K s w') : c24 a b w K := by
  refine c24_of ?_
  unfold f24
  have hkeep := h
  refine h.nw (c := [_, _]) fun bb w1 h => ?_
  have h := h.blkSl (i := its.length) (e := 22) (m := 2) (l := [a, b]) (f := slv) (n := 1) List.getElem?_concat_length rfl rfl slv_len
  rw [set_last] at h
  refine Concat_spec h its.length (L := [a, b]) (C := [xs, ys]) List.getElem?_concat_length Hp.rdSl rfl ?_ (by simp; omega) (by simp) fun r w2 h => ?_
  · intro k s c h1 h2
    match k, h1, h2 with
    | 0, h1, h2 =>
      simp at h1 h2; subst h1; subst h2
      exact ⟨i, u, front_at hi, hu⟩
    | 1, h1, h2 =>
      simp at h1 h2; subst h1; subst h2
      exact ⟨j, v, front_at hj, hv⟩
    | k + 2, h1, h2 => simp at h1
  have e : [xs, ys].flatten = xs ++ ys := by simp
  rw [e] at h
  rw [List.append_assoc] at h
  refine Sum_spec h (its.length + 1) (by rw [List.getElem?_append_right (by omega)]; simp; rfl) Hp.rdSl (bytes_app hx hy) (by rw [List.length_append]; omega) ?_
  refine ⟨by omega, by omega, by omega, ?_⟩
  have hsr := sumU_range (xs ++ ys)
  have e0 : IntKind.u8.wrap (sumU (xs ++ ys)) = sumU (xs ++ ys) % 256 := F.w8 _
  have e1 : IntKind.u8.wrap (Int.fdiv (sumU (xs ++ ys)) (2 ^ (min (Int.toNat 8) 32))) = sumU (xs ++ ys) / 256 % 256 := by
    rw [show Int.toNat 8 = 8 from rfl, shr_sum (by omega), F.w8]; rfl
  have e2 : IntKind.u8.wrap (Int.fdiv (sumU (xs ++ ys)) (2 ^ (min (Int.toNat 16) 32))) = sumU (xs ++ ys) / 65536 % 256 := by
    rw [show Int.toNat 16 = 16 from rfl, shr_sum (by omega), F.w8]; rfl
  have e3 : IntKind.u8.wrap (Int.fdiv (sumU (xs ++ ys)) (2 ^ (min (Int.toNat 24) 32))) = sumU (xs ++ ys) / 16777216 % 256 := by
    rw [show Int.toNat 24 = 24 from rfl, shr_sum (by omega), F.w8]; rfl
  rw [e0, e1, e2, e3]
  have h := h.front
  refine h.nw (c := [_, _, _, _]) fun b2 w3 h => ?_
  have h := h.blkSl (i := its.length) (e := 5) (m := 4) (l := sumB (xs ++ ys)) (f := u8v) (n := 1) List.getElem?_concat_length rfl rfl u8v_len
  rw [set_last] at h
  exact hK _ _ h

/-- record.Put. -/
theorem RecPut_spec (h : Hp S w0 w its) (i j : Nat) {u v : Thing} {b data : Sl} {bs d : List Int} (hi : its[i]? = some u) (hj : its[j]? = some v) (hu : Hp.Reads u b 1 u8v bs) (hv : Hp.Reads v data 1 u8v d) (hd : Bytes d) (hlb : bs.length ≤ 70000000000000) (hld : d.length ≤ 70000000000000) {K : Sl → Int → World → Prop}
    (h1 : okD d → ∀ s w', Hp S w0 w' (its ++ [tB s (bs ++ madeU d)]) → K s 0 w') (h2 : ¬ okD d → K ⟨none, 0, 0⟩ 1 w) : c10 b data w K := by
  refine c10_of ?_
  unfold f10
  have hdl := h.lenU j (by rw [hj]; rfl) hv
  by_cases hok : okD d
  · obtain ⟨g1, g2⟩ := hok
    refine ifF ?_ ?_
    · have : ¬ ((data.len : Int) > 100000) := by omega
      rw [decide_eq_false this]
      have : ((data.len : Int) == 0) = false := by simp; omega
      rw [this]; simp
    have e : IntKind.u64.wrap (data.len : Int) = (d.length : Int) := by rw [w64]; omega
    rw [e]
    have hpl := putU_len (d.length : Int)
    refine h.nw (c := [_]) fun b2 w1 h => ?_
    have h := h.blkSl (i := its.length) (e := 5) (m := 1) (l := [130]) (f := u8v) (n := 1) List.getElem?_concat_length rfl rfl u8v_len
    rw [set_last] at h
    refine Put_spec h its.length (b := ⟨some ⟨b2, 0, none⟩, 1, 1⟩) (l := [130]) List.getElem?_concat_length Hp.rdSl (by omega) (by omega) (by simp) fun head w2 h => ?_
    have hh : [130] ++ putU (d.length : Int) = headU d := rfl
    rw [hh, List.append_assoc] at h
    have g4 : (its ++ ([tB ⟨some ⟨b2, 0, none⟩, 1, 1⟩ [130]] ++ [tB head (headU d)]))[its.length + 1]? = some (tB head (headU d)) := by rw [List.getElem?_append_right (by omega)]; simp
    have hhl := headU_len d
    refine sum_spec h (its.length + 1) j g4 (front_at hj) Hp.rdSl hv (headU_bytes d) hd (by omega) (by omega) fun r w3 h => ?_
    refine h.nw (c := [_, _, _, _]) fun b3 w4 h => ?_
    have h := h.blkSl (i := its.length + 3) (e := 22) (m := 4) (l := [b, head, r, data]) (f := slv) (n := 1) (by rw [List.getElem?_append_right (by simp)]; simp; rfl) rfl rfl slv_len
    have elist : (its ++ ([tB ⟨some ⟨b2, 0, none⟩, 1, 1⟩ [130]] ++ [tB head (headU d)]) ++ [tB r (sumB (headU d ++ d))] ++ [tBlk b3 22 [.slice b.a b.len b.cap, .slice head.a head.len head.cap, .slice r.a r.len r.cap, .slice data.a data.len data.cap]]).set (its.length + 3) (tSl ⟨some ⟨b3, 0, none⟩, 4, 4⟩ 22 1 slv [b, head, r, data]) = its ++ [tB ⟨some ⟨b2, 0, none⟩, 1, 1⟩ [130], tB head (headU d), tB r (sumB (headU d ++ d)), tSl ⟨some ⟨b3, 0, none⟩, 4, 4⟩ 22 1 slv [b, head, r, data]] := by
      rw [List.append_assoc, List.append_assoc, List.set_append_right _ _ (by omega)]; simp
    rw [elist] at h
    have hml := madeU_le d
    refine Concat_spec h (its.length + 3) (L := [b, head, r, data]) (C := [bs, headU d, sumB (headU d ++ d), d]) (u := tSl ⟨some ⟨b3, 0, none⟩, 4, 4⟩ 22 1 slv [b, head, r, data]) (by rw [List.getElem?_append_right (by omega)]; simp) Hp.rdSl rfl ?_ (by simp [sumB_len]; omega) (by simp) fun s w5 h => ?_
    · intro k s c k1 k2
      match k, k1, k2 with
      | 0, k1, k2 =>
        simp at k1 k2; subst k1; subst k2
        exact ⟨i, u, front_at hi, hu⟩
      | 1, k1, k2 =>
        simp at k1 k2; subst k1; subst k2
        exact ⟨its.length + 1, _, by rw [List.getElem?_append_right (by omega)]; simp; rfl, Hp.rdSl⟩
      | 2, k1, k2 =>
        simp at k1 k2; subst k1; subst k2
        exact ⟨its.length + 2, _, by rw [List.getElem?_append_right (by omega)]; simp; rfl, Hp.rdSl⟩
      | 3, k1, k2 =>
        simp at k1 k2; subst k1; subst k2
        exact ⟨j, v, front_at hj, hv⟩
      | k + 4, k1, k2 => simp at k1
    have ef : [bs, headU d, sumB (headU d ++ d), d].flatten = bs ++ madeU d := by simp [madeU]
    rw [ef] at h
    exact h1 ⟨g1, g2⟩ s w5 h.dropMid
  · refine ifT ?_ (h2 hok)
    unfold okD at hok
    by_cases h0 : d.length = 0
    · have : ((data.len : Int) == 0) = true := by simp; omega
      rw [this]; rfl
    · have : ((data.len : Int) > 100000) := by omega
      rw [decide_eq_true this]; simp
end
end Go.Proofs.Ytmbbfaigbhnhcaa.F
