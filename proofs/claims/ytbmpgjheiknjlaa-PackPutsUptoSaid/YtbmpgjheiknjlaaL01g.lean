/-
  The law's own functions of PackGets: row, rows, apart; and its walk.
-/
import Derived.Test.YtbmpgjheiknjlaaC01v
import Derived.Test.YtbmpgjheiknjlaaC01h
import Derived.Test.YtbmpgjheiknjlaaC01s
import Derived.Test.YtbmpgjheiknjlaaL01s
set_option linter.unusedSimpArgs false
set_option linter.unusedVariables false
set_option maxRecDepth 100000
namespace Go.Proofs.Ytbmpgjheiknjlaa.F
open Go Go.Den Go.Proofs

theorem RowOk.one {bs : List Int} {most : Int} {X Y : List Int} {s t : Int} (h : RowOk bs most X s) (h' : RowOk bs most Y t) : X = Y ∧ s = t := by
  by_cases hs : s = 0
  · by_cases ht : t = 0
    · rw [h.1 hs, h'.1 ht, hs, ht]; exact ⟨rfl, rfl⟩
    · obtain ⟨a, e⟩ := h'.2.1 ht
      obtain ⟨g1, g2⟩ := h.2.2 Y a
      exact ⟨g1, by rw [g2, e]⟩
  · obtain ⟨a, e⟩ := h.2.1 hs
    obtain ⟨g1, g2⟩ := h'.2.2 X a
    exact ⟨g1.symm, by rw [g2, e]⟩

theorem RowOk.len {bs : List Int} {most : Int} {X : List Int} {s : Int} (h : RowOk bs most X s) : X.length ≤ 100000 := by
  by_cases hs : s = 0
  · rw [h.1 hs]; simp
  · exact (h.2.1 hs).1.2.2.1

/-- Written full with a mark. -/
def mk1 {α : Type} (xs : List α) (v : α) (k : Nat) : List α := List.replicate k v ++ xs.drop k
theorem mk1_set {α : Type} (xs : List α) (v : α) {k : Nat} (h : k < xs.length) : (mk1 xs v k).set k v = mk1 xs v (k + 1) := by
  unfold mk1
  rw [List.set_append_right _ _ (by simp), List.length_replicate, Nat.sub_self, List.drop_eq_getElem_cons h, List.set_cons_zero, List.replicate_succ', List.append_assoc]
  rfl
theorem mk1_len {α : Type} (xs : List α) (v : α) {k : Nat} (h : k ≤ xs.length) : (mk1 xs v k).length = xs.length := by
  simp [mk1]; omega
theorem mk1_all {α : Type} (xs : List α) (v : α) {k : Nat} (h : xs.length = k) : mk1 xs v k = List.replicate k v := by
  unfold mk1
  rw [List.drop_of_length_le (by omega), List.append_nil]

/-- A piece of a slice: whatever the slice holds. -/
theorem cutI {α : Type} {f : α → List Value} {n : Nat} {e : TypeId} {x : Sl} {a b m : Int} {K : Sl → Prop} (hf : ∀ x, (f x).length = n) (h0 : 0 ≤ a) (h1 : a ≤ b) (h2 : b ≤ m) (h3 : m ≤ x.cap) (h4 : b ≤ x.len)
    (hK : ∀ s', (∀ w O l', SlF w x e n f l' O → SlF w s' e n f ((l'.take b.toNat).drop a.toNat) O) → s'.len = b.toNat - a.toNat → s'.cap = m.toNat - a.toNat → K s') : Cut x a b m n K :=
  ⟨h0, h1, h2, h3, hK _ (fun w O l' h => (SlF.cut hf h h0 h1 h2 h3 h4 (K := fun s'' => SlF w s'' e n f ((l'.take b.toNat).drop a.toNat) O) (fun s' hs _ _ _ => hs)).2.2.2.2) rfl rfl⟩

section
variable {S : List Nat} {w0 w : World} {its : List Thing}

theorem one_row (h : Hp S w0 w its) (i j : Nat) {u v : Thing} {b y : Sl} {bs Y : List Int} {most size : Int} (hi : (its[i]?).map Thing.holds = some v.holds) (hj : (its[j]?).map Thing.holds = some u.holds) (hv : Hp.Reads v y 1 iv Y) (hu : Hp.Reads u b 1 u8v bs) (hb : Bytes bs) (hl : bs.length ≤ 9000000000000000) (hcap : b.len ≤ b.cap) (hok : RowOk bs most Y size) {K : Sl → Bool → World → Prop}
    (hK : ∀ s w', Hp S w0 w' (its ++ [tSl s 2 1 iv Y]) → K s true w') : c28 b most y size w K := by
  refine c28_of ?_
  unfold f28
  have hyl := h.lenU i hi hv
  have hlt' : ∀ {its' : List Thing} {q : Nat} {t : Thing}, (its[q]?).map Thing.holds = some t.holds → ((its ++ its')[q]?).map Thing.holds = some t.holds := by
    intro its' q t hq
    obtain ⟨z, hz, he⟩ := Hp.at_ hq
    rw [List.getElem?_append_left (List.getElem?_eq_some_iff.1 hz).1, hz]
    simp [he]
  refine GetRow_spec h j hj hu hb hl hcap fun s X size' w1 hok' h1 => ?_
  obtain ⟨rfl, rfl⟩ := hok'.one hok
  have hsl := h1.len (s := s) (l := X) (e := 2) (n := 1) (f := iv) its.length (by simp)
  have hXl := hok.len
  refine ifF (by simp; omega) ?_
  refine ⟨fun i m w' => ∃ k : Nat, i = k ∧ k ≤ X.length ∧ m = X.length - k ∧ Hp S w0 w' (its ++ [tSl s 2 1 iv X]), ⟨X.length, 0, rfl, by omega, rfl, h1⟩, ?_⟩
  rintro i' m w2 ⟨k, rfl, hk, rfl, h1⟩
  by_cases hlt : k < X.length
  · refine ifT (by simp; omega) ?_
    refine h1.dr fun w3 h1 => ?_
    refine h1.ixld (k := .i .i64) (y := X[k]) (x := X[k]) (s := s) (l := X) (e := 2) (f := iv) its.length (by simp) (by omega) (by simp [hlt]) iv_len rfl ?_
    refine h1.ixldU (k := .i .i64) (u := v) (y := X[k]) (x := X[k]) i (hlt' hi) hv (by omega) (by simp [hlt]) iv_len rfl ?_
    refine ifF (by simp) ?_
    exact ⟨X.length - (k + 1), by omega, k + 1, by rw [wr64 (by omega) (by omega)]; omega, by omega, rfl, h1⟩
  · exact ifF (by simp; omega) (hK _ _ h1)

theorem rows_same (h : Hp S w0 w its) (i j : Nat) {u v : Thing} {a b : Sl} {xs : List Int} (hi : (its[i]?).map Thing.holds = some u.holds) (hj : (its[j]?).map Thing.holds = some v.holds) (hu : Hp.Reads u a 1 iv xs) (hv : Hp.Reads v b 1 iv xs) (hlen : xs.length ≤ 1000000000) {K : Bool → World → Prop}
    (hK : ∀ w', Hp S w0 w' its → K true w') : c29 a b w K := by
  refine c29_of ?_
  unfold f29
  have hxl := h.lenU i hi hu
  have hyl := h.lenU j hj hv
  refine ifF (by simp; omega) ?_
  refine ⟨fun t mm w' => ∃ k : Nat, t = k ∧ k ≤ xs.length ∧ mm = xs.length - k ∧ Hp S w0 w' its, ⟨xs.length, 0, rfl, by omega, rfl, h⟩, ?_⟩
  rintro t mm w2 ⟨k, rfl, hk, rfl, h⟩
  by_cases hlt : k < xs.length
  · refine ifT (by simp; omega) ?_
    refine h.dr fun w1 h => ?_
    refine h.ixldU (k := .i .i64) (u := u) (y := xs[k]) (x := xs[k]) i hi hu (by omega) (by simp [hlt]) iv_len rfl ?_
    refine h.ixldU (k := .i .i64) (u := v) (y := xs[k]) (x := xs[k]) j hj hv (by omega) (by simp [hlt]) iv_len rfl ?_
    refine ifF (by simp) ?_
    exact ⟨xs.length - (k + 1), by omega, k + 1, by rw [wr64 (by omega) (by omega)]; omega, by omega, rfl, h⟩
  · exact ifF (by simp; omega) (hK _ h)

set_option maxHeartbeats 2000000 in
theorem apart_spec {a b : Sl} {X Y : List Int} (h : Hp S w0 w [tSl a 2 1 iv X, tSl b 2 1 iv Y]) (hX : X.length ≤ 100000) (hY : Y.length ≤ 100000) {K : Bool → World → Prop}
    (hK : ∀ w', Hp S w0 w' [tEmp, tEmp] → K true w') : c30 a b w K := by
  refine c30_of ?_
  unfold f30
  obtain ⟨inf, q1, q2, q3, q4⟩ := inf2
  have hal := h.len (s := a) 0 rfl
  have hbl := h.len (s := b) 1 rfl
  refine ⟨fun i m w' => ∃ k : Nat, i = k ∧ k ≤ X.length ∧ m = X.length - k ∧ Hp S w0 w' [tSl a 2 1 iv (mk1 X 7 k), tSl b 2 1 iv Y], ⟨X.length, 0, rfl, by omega, rfl, h⟩, ?_⟩
  rintro i m w1 ⟨k, rfl, hk, rfl, h⟩
  by_cases hlt : k < X.length
  · refine ifT (by simp; omega) ?_
    refine h.ixst 0 rfl (by omega) (by rw [mk1_len _ _ hk]; exact hlt) iv_len (y := 7) rfl rfl fun w2 h => ?_
    refine ⟨X.length - (k + 1), by omega, k + 1, by rw [wr64 (by omega) (by omega)]; omega, by omega, rfl, ?_⟩
    rw [← mk1_set _ _ hlt]
    exact h
  refine ifF (by simp; omega) ?_
  obtain rfl : k = X.length := by omega
  rw [mk1_all X 7 rfl] at h
  refine ⟨fun i m w' => ∃ k : Nat, i = k ∧ k ≤ Y.length ∧ m = Y.length - k ∧ Hp S w0 w' [tSl a 2 1 iv (List.replicate X.length 7), tSl b 2 1 iv (mk1 Y 8 k)], ⟨Y.length, 0, rfl, by omega, rfl, h⟩, ?_⟩
  rintro i m w1 ⟨k, rfl, hk, rfl, h⟩
  by_cases hlt : k < Y.length
  · refine ifT (by simp; omega) ?_
    refine h.ixst 1 rfl (by omega) (by rw [mk1_len _ _ hk]; exact hlt) iv_len (y := 8) rfl rfl fun w2 h => ?_
    refine ⟨Y.length - (k + 1), by omega, k + 1, by rw [wr64 (by omega) (by omega)]; omega, by omega, rfl, ?_⟩
    rw [← mk1_set _ _ hlt]
    exact h
  refine ifF (by simp; omega) ?_
  obtain rfl : k = Y.length := by omega
  rw [mk1_all Y 8 rfl] at h
  have h := h.lc_start (j := 0) (e := 2) (n := 1) (f := iv) (l := a) (y := 7) (p := X.length) rfl
  simp only [List.set_cons_zero, List.set_cons_succ] at h
  refine ⟨fun x i m w' => ∃ k : Nat, i = k ∧ k ≤ 70 ∧ m = 70 - k ∧ Hp S w0 w' [tLC 2 1 iv a x 7 X.length (X.length + k), tSl b 2 1 iv (List.replicate Y.length 8)], ⟨70, 0, rfl, by omega, rfl, h⟩, ?_⟩
  rintro x i m w1 ⟨k, rfl, hk, rfl, h⟩
  by_cases hlt : k < 70
  · refine ifT (by simp; omega) ?_
    refine h.lc_app (cs := [_]) 0 7 rfl iv_len und24 q1 q3 q2 rfl rfl (by simp [iv, Value.oneCell']) (by rw [q4]; omega) (by omega) fun c2 w2 h => ?_
    exact ⟨70 - (k + 1), by omega, k + 1, by rw [wr64 (by omega) (by omega)]; omega, by omega, rfl, h⟩
  refine ifF (by simp; omega) ?_
  obtain rfl : k = 70 := by omega
  have h := h.lc_start (j := 1) (e := 2) (n := 1) (f := iv) (l := b) (y := 8) (p := Y.length) rfl
  simp only [List.set_cons_zero, List.set_cons_succ] at h
  have hxl := (h.lc_len 0 rfl).1
  refine ⟨fun y i m w' => ∃ k : Nat, i = k ∧ k ≤ 70 ∧ m = 70 - k ∧ Hp S w0 w' [tLC 2 1 iv a x 7 X.length (X.length + 70), tLC 2 1 iv b y 8 Y.length (Y.length + k)], ⟨70, 0, rfl, by omega, rfl, h⟩, ?_⟩
  rintro y i m w1 ⟨k, rfl, hk, rfl, h⟩
  by_cases hlt : k < 70
  · refine ifT (by simp; omega) ?_
    refine h.lc_app (cs := [_]) 1 8 rfl iv_len und24 q1 q3 q2 rfl rfl (by simp [iv, Value.oneCell']) (by rw [q4]; omega) (by omega) fun c2 w2 h => ?_
    exact ⟨70 - (k + 1), by omega, k + 1, by rw [wr64 (by omega) (by omega)]; omega, by omega, rfl, h⟩
  refine ifF (by simp; omega) ?_
  obtain rfl : k = 70 := by omega
  have hyl := (h.lc_len 1 rfl).1
  have h := h.lc_done (j := 0) rfl
  have h := h.lc_done (j := 1) rfl
  simp only [List.set_cons_zero, List.set_cons_succ] at h
  have ra : Hp.Reads (tShare (tRd a 1 iv (List.replicate X.length 7)) (tRd x 1 iv (List.replicate (X.length + 70) 7))) a 1 iv (List.replicate X.length 7) := ⟨fun {w O} ⟨O1, O2, g1, g2, g3⟩ => ⟨O1, g1⟩⟩
  have rx : Hp.Reads (tShare (tRd a 1 iv (List.replicate X.length 7)) (tRd x 1 iv (List.replicate (X.length + 70) 7))) x 1 iv (List.replicate (X.length + 70) 7) := ⟨fun {w O} ⟨O1, O2, g1, g2, g3⟩ => ⟨O2, g2⟩⟩
  have rb : Hp.Reads (tShare (tRd b 1 iv (List.replicate Y.length 8)) (tRd y 1 iv (List.replicate (Y.length + 70) 8))) b 1 iv (List.replicate Y.length 8) := ⟨fun {w O} ⟨O1, O2, g1, g2, g3⟩ => ⟨O1, g1⟩⟩
  have ry : Hp.Reads (tShare (tRd b 1 iv (List.replicate Y.length 8)) (tRd y 1 iv (List.replicate (Y.length + 70) 8))) y 1 iv (List.replicate (Y.length + 70) 8) := ⟨fun {w O} ⟨O1, O2, g1, g2, g3⟩ => ⟨O2, g2⟩⟩
  refine ⟨fun i m w' => ∃ k : Nat, i = k ∧ k ≤ x.len ∧ m = x.len - k ∧ w' = w1, ⟨x.len, 0, rfl, by omega, rfl, rfl⟩, ?_⟩
  rintro i m w2 ⟨k, rfl, hk, rfl, rfl⟩
  by_cases hlt : k < x.len
  · refine ifT (by simp; omega) ?_
    have stp : ∃ m2 : Nat, m2 < x.len - k ∧ ∃ k' : Nat, IntKind.i64.wrap ((k : Int) + 1) = k' ∧ k' ≤ x.len ∧ m2 = x.len - k' ∧ w2 = w2 := ⟨x.len - (k + 1), by omega, k + 1, by rw [wr64 (by omega) (by omega)]; omega, by omega, rfl, rfl⟩
    refine h.ixldU (k := .i .i64) (y := 7) (x := 7) 0 rfl rx (by omega) (by rw [List.getElem?_replicate]; simp; omega) iv_len rfl ?_
    refine ifF (by simp) ?_
    by_cases hka : k < a.len
    · refine ifT (by simp; omega) ?_
      refine h.ixldU (k := .i .i64) (y := 7) (x := 7) 0 rfl ra (by omega) (by rw [List.getElem?_replicate]; simp; omega) iv_len rfl ?_
      exact ifF (by simp) stp
    · exact ifF (by simp; omega) stp
  refine ifF (by simp; omega) ?_
  refine ⟨fun i m w' => ∃ k : Nat, i = k ∧ k ≤ y.len ∧ m = y.len - k ∧ w' = w2, ⟨y.len, 0, rfl, by omega, rfl, rfl⟩, ?_⟩
  rintro i m w2 ⟨k, rfl, hk, rfl, rfl⟩
  by_cases hlt : k < y.len
  · refine ifT (by simp; omega) ?_
    have stp : ∃ m2 : Nat, m2 < y.len - k ∧ ∃ k' : Nat, IntKind.i64.wrap ((k : Int) + 1) = k' ∧ k' ≤ y.len ∧ m2 = y.len - k' ∧ w2 = w2 := ⟨y.len - (k + 1), by omega, k + 1, by rw [wr64 (by omega) (by omega)]; omega, by omega, rfl, rfl⟩
    refine h.ixldU (k := .i .i64) (y := 8) (x := 8) 1 rfl ry (by omega) (by rw [List.getElem?_replicate]; simp; omega) iv_len rfl ?_
    refine ifF (by simp) ?_
    by_cases hka : k < b.len
    · refine ifT (by simp; omega) ?_
      refine h.ixldU (k := .i .i64) (y := 8) (x := 8) 1 rfl rb (by omega) (by rw [List.getElem?_replicate]; simp; omega) iv_len rfl ?_
      exact ifF (by simp) stp
    · exact ifF (by simp; omega) stp
  refine ifF (by simp; omega) ?_
  exact hK _ ((h.lose (i := 0) rfl rfl).lose (i := 1) rfl rfl)
end

/-- One byte more of what is turned. -/
def halfL (l : List Int) (k : Nat) : List Int := (bump l).take k ++ l.drop k
theorem half_len (l : List Int) {k : Nat} (h : k ≤ l.length) : (halfL l k).length = l.length := by
  simp only [halfL, List.length_append, List.length_take, List.length_drop, bump_len]; omega
theorem half_get {l : List Int} {k : Nat} (h : k < l.length) : (halfL l k)[k]? = some l[k] := by
  have e : (List.take k (bump l)).length = k := by rw [List.length_take, bump_len]; omega
  unfold halfL
  rw [List.getElem?_append_right (by omega), e, Nat.sub_self, List.getElem?_drop, Nat.add_zero, List.getElem?_eq_getElem h]
theorem half_set {l : List Int} {k : Nat} (h : k < l.length) : (halfL l k).set k ((l[k] + 1) % 256) = halfL l (k + 1) := by
  have e : (List.take k (bump l)).length = k := by rw [List.length_take, bump_len]; omega
  have hb : k < (bump l).length := by rw [bump_len]; exact h
  unfold halfL
  rw [List.set_append_right _ _ (by omega), e, Nat.sub_self, List.drop_eq_getElem_cons h, List.set_cons_zero, List.take_succ_eq_append_getElem hb, List.append_assoc]
  simp [bump]
theorem half_all (l : List Int) : halfL l l.length = bump l := by
  unfold halfL
  rw [List.take_of_length_le (by rw [bump_len]; omega), List.drop_of_length_le (by omega), List.append_nil]

set_option maxHeartbeats 4000000 in
theorem gets_spec {b : Sl} {l : List Int} {o : List Nat} {most : Int} {w : World} {K : Bool → World → Prop} (hs : SlR w b 1 u8v l o) (hcap : b.len ≤ b.cap) (hb : Bytes l) (hl : l.length ≤ 140737488351232) (hK : ∀ w', Fr [] w w' → K true w') : f4 b most w K := by
  unfold f4
  refine shown_spec fun w1 f1 => ?_
  have h := (Hp.begin_ w).keep f1
  have h := h.addRo (t := tRd b 1 u8v l) hs (by simp)
  have hu : Hp.Reads (tRd b 1 u8v l).ro b 1 u8v l := ⟨Hp.rdRd.rd⟩
  have hbl := h.lenU 0 rfl hu
  obtain ⟨inf, q1, q2, q3, q4⟩ := inf5
  simp only [List.nil_append] at h
  refine lent_spec h 0 rfl hu (by omega) fun x w2 h hxl hxc => ?_
  simp only [List.cons_append, List.nil_append] at h
  refine cutI (e := 5) (x := x) u8v_len (Int.le_refl 0) (by omega) (by omega) (Int.le_refl _) (by omega) fun in_ himp hil hic => ?_
  have hpre : ((lentL l).take ((b.len : Int)).toNat).drop (0 : Int).toNat = l := by
    show List.take _ _ = _
    rw [show ((b.len : Int)).toNat = l.length by omega, lentL, List.take_left]
  have hin : Hp.Reads (tB x (lentL l)) in_ 1 u8v l := ⟨fun {w O} hO => by
    have := himp w O _ hO
    rw [hpre] at this
    exact ⟨O, SlF.toR this⟩⟩
  have hbig : l.length ≤ 9000000000000000 := by omega
  refine Get_spec h 1 rfl hin hb hbig ?_
  refine RGet_spec h 0 rfl hu hb hbig ?_
  refine GetInt_spec h 1 rfl hin hb hbig ?_
  refine RGetInt_spec h 0 rfl hu hb hbig ?_
  refine GetText_spec h 1 rfl hin hb hbig (by omega) ?_
  refine RGetText_spec h 0 rfl hu hb hbig hcap ?_
  refine ifF (by simp) ?_
  refine RGetRow_spec h 0 rfl hu hb hbig hcap fun want X size w3 hok h => ?_
  simp only [List.cons_append, List.nil_append] at h
  refine one_row h 2 1 rfl rfl Hp.rdSl hin hb hbig (by omega) hok fun one w4 h => ?_
  simp only [List.cons_append, List.nil_append] at h
  refine one_row h 2 1 rfl rfl Hp.rdSl hin hb hbig (by omega) hok fun three w5 h => ?_
  simp only [List.cons_append, List.nil_append] at h
  have hXl := hok.len
  refine rows_same h 3 2 rfl rfl Hp.rdSl Hp.rdSl (by omega) fun w6 h => ?_
  refine ⟨fun w' => Hp [] w w' [(tRd b 1 u8v l).ro, tB x (lentL l)], ?_, ?_⟩
  · refine ifF (by simp) ?_
    refine ifF (by simp) ?_
    refine ifF (by simp) ?_
    obtain ⟨O, h1, back⟩ := h.f2 (i := 3) (i' := 4) (by omega) rfl rfl rfl rfl
    refine apart_spec h1 hXl hXl fun w7 h1 => ?_
    refine ifF (by simp) ?_
    have h := back (rest := []) rfl rfl rfl h1
    exact h.trim 2
  intro w7 h
  refine still_spec h 1 0 rfl rfl Hp.rdSl hu (by omega) fun w8 h => ?_
  have h := h.weak (i := 1) (t' := tB in_ l) rfl rfl (fun w O hO => by
    have := himp w O _ hO
    rw [hpre] at this
    exact this) rfl
  simp only [List.set_cons_zero, List.set_cons_succ] at h
  have h := h.nil 5 1 u8v
  simp only [List.cons_append, List.nil_append] at h
  refine ⟨fun t i m w' => ∃ k : Nat, i = k ∧ k ≤ l.length ∧ m = l.length - k ∧ Hp [] w w' [(tRd b 1 u8v l).ro, tB in_ (halfL l k), tB t ((bump l).take k)], ⟨l.length, 0, rfl, by omega, rfl, by simpa [halfL] using h⟩, ?_⟩
  rintro t i m w9 ⟨k, rfl, hk, rfl, h⟩
  by_cases hlt : k < l.length
  · refine ifT (by simp; omega) ?_
    have hg := half_get hlt
    have hst := half_set hlt
    have hbs := bump_succ hlt
    have hc := hb l[k] (List.getElem_mem hlt)
    generalize l[k] = c at hg hst hbs hc
    refine h.ixld (k := .i .u8) (y := c) (x := c) 1 rfl (by omega) hg u8v_len rfl ?_
    have ew : IntKind.u8.wrap (c + 1) = (c + 1) % 256 := F.w8 _
    rw [ew]
    refine h.ixst 1 rfl (by omega) (by rw [half_len l hk]; omega) u8v_len (y := (c + 1) % 256) rfl rfl fun w5 h => ?_
    rw [Int.toNat_natCast, hst] at h
    simp only [List.set_cons_zero, List.set_cons_succ] at h
    have hg2 : (halfL l (k + 1))[((k : Int)).toNat]? = some ((c + 1) % 256) := by
      rw [Int.toNat_natCast, ← hst, List.getElem?_set_self (by rw [half_len l hk]; omega)]
    refine h.ixld (k := .i .u8) (y := (c + 1) % 256) (x := (c + 1) % 256) 1 rfl (by omega) hg2 u8v_len rfl ?_
    have htl := h.len (s := t) 2 rfl
    rw [List.length_take, bump_len] at htl
    refine h.nwapp (c := [_]) 2 ((c + 1) % 256) rfl u8v_len und22 q1 q3 q2 rfl rfl (by simp [Value.oneCell']) (by rw [q4]; omega) (by omega) fun t2 w5 h _ _ => ?_
    refine ⟨l.length - (k + 1), by omega, k + 1, by rw [wr64 (by omega) (by omega)]; omega, by omega, rfl, ?_⟩
    rw [hbs]
    exact h
  refine ifF (by simp; omega) ?_
  obtain rfl : k = l.length := by omega
  have e2 : (bump l).take l.length = bump l := List.take_of_length_le (by rw [bump_len]; omega)
  rw [half_all, e2] at h
  have hbl2 := bump_len l
  have hbb := bump_bytes l
  have htc := h.cap (s := t) 2 rfl
  generalize bump l = l2 at h hbl2 hbb
  refine Get_spec h 1 rfl Hp.rdSl hbb (by omega) ?_
  refine RGet_spec h 2 rfl Hp.rdSl hbb (by omega) ?_
  refine GetInt_spec h 1 rfl Hp.rdSl hbb (by omega) ?_
  refine RGetInt_spec h 2 rfl Hp.rdSl hbb (by omega) ?_
  refine GetText_spec h 1 rfl Hp.rdSl hbb (by omega) (by omega) ?_
  refine RGetText_spec h 2 rfl Hp.rdSl hbb (by omega) htc ?_
  refine RGetRow_spec h 2 rfl Hp.rdSl hbb (by omega) htc fun want2 X2 size2 w10 hok2 h => ?_
  simp only [List.cons_append, List.nil_append] at h
  refine one_row h 3 1 rfl rfl Hp.rdSl Hp.rdSl hbb (by omega) (by omega) hok2 fun five w11 h => ?_
  refine ifF (by simp) ?_
  exact hK _ h.fr
end Go.Proofs.Ytbmpgjheiknjlaa.F
