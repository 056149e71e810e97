/-
  The law's own functions of RecordPuts: lent, still, sevens, keep, looks.
-/
import Derived.Test.YtmbbfaigbhnhcaaL02b
import Derived.Test.YtmbbfaigbhnhcaaDenM
set_option linter.unusedSimpArgs false
set_option linter.unusedVariables false
set_option maxRecDepth 100000
namespace Go.Proofs.Ytmbbfaigbhnhcaa.F
open Go Go.Den Go.Proofs

def lent8 (l : List Int) : List Int := l ++ List.replicate 8 201
theorem lent8_len (l : List Int) : (lent8 l).length = l.length + 8 := by simp [lent8]
def room8 (l : List Int) (k : Nat) : List Int := l ++ (List.replicate k 201 ++ List.replicate (8 - k) 0)
theorem room8_set (l : List Int) {k : Nat} (h : k < 8) : (room8 l k).set (l.length + k) 201 = room8 l (k + 1) := by
  unfold room8
  rw [List.set_append_right _ _ (by omega), Nat.add_sub_cancel_left, List.set_append_right _ _ (by simp), List.length_replicate, Nat.sub_self]
  have e : List.replicate (8 - k) (0 : Int) = 0 :: List.replicate (8 - (k + 1)) 0 := by
    rw [show 8 - k = (8 - (k + 1)) + 1 by omega, List.replicate_succ]
  rw [e, List.set_cons_zero, List.replicate_succ', List.append_assoc]
  rfl

structure Ow where
  b : Sl
  mark : Int
abbrev owv (x : Ow) : List Value := [.slice x.b.a x.b.len x.b.cap, .int .u8 x.mark]
theorem owv_len (x : Ow) : (owv x).length = 2 := rfl
theorem inf52 : ∃ inf : TypeInfo, Try.prog.info? 52 = some inf ∧ inf.zero = some (.agg #[.slice none 0 0, .int .u8 0]) ∧ inf.size = 2 ∧ inf.bytes = 32 := infoP (by kernel_rfl)
theorem und30 : Try.prog.underlying 30 = some (.slice 52) := by kernel_rfl

/-- The mark of the list that came as number i. -/
def mkm (n : Nat) : Int := IntKind.u8.wrap (IntKind.i64.wrap (3 + (Int.tmod (IntKind.i64.wrap (5 * (n : Int))) 250)))

/-- One reads as its owner wrote it. -/
def OwAt (w : World) (O : List Nat) (x : Ow) : Prop :=
  x.b.len ≤ 100000000 ∧ ∃ O1, SlR w x.b 1 u8v (List.replicate x.b.len x.mark) O1 ∧ ∀ k ∈ O1, k ∈ O
theorem OwAt.fr {S : List Nat} {w w' : World} {O : List Nat} {x : Ow} (h : OwAt w O x) (hf : Fr S w w') (hn : ∀ k ∈ O, k ∉ S) : OwAt w' O x := by
  obtain ⟨h1, O1, h3, h4⟩ := h
  exact ⟨h1, O1, h3.fr hf (fun k hk => hn k (h4 k hk)), h4⟩
theorem OwAt.mono {w : World} {O O' : List Nat} {x : Ow} (h : OwAt w O x) (ho : ∀ k ∈ O, k ∈ O') : OwAt w O' x := by
  obtain ⟨h1, O1, h3, h4⟩ := h
  exact ⟨h1, O1, h3, fun k hk => ho k (h4 k hk)⟩
def tBag (es : List Ow) : Thing :=
  { holds := fun w O => (∀ k ∈ O, k < w.heap.size) ∧ ∀ x ∈ es, OwAt w O x
    fr := fun {S w w' O} h hf hn => ⟨fun k hk => by have := h.1 k hk; have := hf.size; omega, fun x hx => (h.2 x hx).fr hf hn⟩
    lt := fun h => h.1 }
theorem bag_a {w : World} {es es2 : List Ow} {y : Ow} {c : Sl} {O1 O2 : List Nat} (hl : y.b.len ≤ 100000000) (hc : c.len ≤ 100000000) (h1 : (tBag es).holds w O1) (h2 : (tShare (tRd y.b 1 u8v (List.replicate y.b.len y.mark)) (tRd c 1 u8v (List.replicate c.len y.mark))).holds w O2) (hsub : ∀ x ∈ es2, x ∈ es ∨ x = y ∨ x = ⟨c, y.mark⟩) : (tBag es2).holds w (O1 ++ O2) := by
  obtain ⟨P1, P2, q1, q2, q3⟩ := h2
  refine ⟨?_, fun x hx => ?_⟩
  · intro k hk
    rcases List.mem_append.1 hk with hk | hk
    · exact h1.1 k hk
    · exact ((q3 k).1 hk).elim (SlR.lt (n := 1) q1 k) (SlR.lt (n := 1) q2 k)
  · rcases hsub x hx with h | rfl | rfl
    · exact (h1.2 x h).mono (by simp; exact fun k hk => .inl hk)
    · exact ⟨hl, P1, q1, fun k hk => List.mem_append.2 (.inr ((q3 k).2 (.inl hk)))⟩
    · exact ⟨hc, P2, q2, fun k hk => List.mem_append.2 (.inr ((q3 k).2 (.inr hk)))⟩
theorem bag_reads {es : List Ow} {y : Ow} (h : y ∈ es) : Hp.Reads (tBag es) y.b 1 u8v (List.replicate y.b.len y.mark) :=
  ⟨fun {w O} hO => by obtain ⟨_, O1, g, _⟩ := hO.2 y h; exact ⟨O1, g⟩⟩

section
variable {S : List Nat} {w0 w : World} {its : List Thing}

theorem lent_spec (h : Hp S w0 w its) (j : Nat) {u : Thing} {b : Sl} {l : List Int} (hj : its[j]? = some u) (hu : Hp.Reads u b 1 u8v l) (hl : l.length ≤ 140737488355328) {K : Sl → World → Prop}
    (hK : ∀ s w', Hp S w0 w' (its ++ [tB s (lent8 l)]) → s.len = b.len + 8 → s.cap = b.len + 8 → K s w') : c9 b w K := by
  refine c9_of ?_
  unfold f9
  have hbl := h.lenU j (by rw [hj]; rfl) hu
  have hlt := (List.getElem?_eq_some_iff.1 hj).1
  have ew : IntKind.i64.wrap ((b.len : Int) + 8) = (b.len : Int) + 8 := wr64 (by omega) (by omega)
  rw [ew]
  obtain ⟨inf, q1, q2, q3, q4⟩ := inf5
  refine h.mks (f := u8v) (n := 1) (x0 := 0) u8v_len rfl (by omega) (Int.le_refl _) (by omega) (by omega) fun s w1 h hsl hsc _ => ?_
  refine h.copy its.length j (by omega) List.getElem?_concat_length (u := u) (by rw [List.getElem?_append_left hlt]; exact hj) hu u8v_len und22 q1 q3 (by simp [Value.oneCell']) (by omega) fun w1 h => ?_
  rw [set_last] at h
  have e0 : l ++ (List.replicate ((b.len : Int) + 8).toNat (0 : Int)).drop b.len = room8 l 0 := by
    unfold room8
    rw [List.drop_replicate, show ((b.len : Int) + 8).toNat - b.len = 8 by omega]; rfl
  rw [e0] at h
  refine ⟨fun t mm w' => ∃ k : Nat, t = (l.length + k : Nat) ∧ k ≤ 8 ∧ mm = 8 - k ∧ Hp S w0 w' (its ++ [tB s (room8 l k)]), ⟨8, 0, by omega, by omega, rfl, h⟩, ?_⟩
  rintro t mm w2 ⟨k, rfl, hk, rfl, h⟩
  by_cases hlt : k < 8
  · refine ifT (by simp; omega) ?_
    refine h.ixst its.length List.getElem?_concat_length (by omega) (by simp [room8]; omega) u8v_len (y := 201) rfl rfl fun w1 h => ?_
    refine ⟨8 - (k + 1), by omega, k + 1, by rw [wr64 (by omega) (by omega)]; omega, by omega, rfl, ?_⟩
    rw [set_last] at h
    rw [← room8_set l hlt]
    exact h
  · refine ifF (by simp; omega) ?_
    obtain rfl : k = 8 := by omega
    have e1 : room8 l 8 = lent8 l := by simp [room8, lent8]
    rw [e1] at h
    exact hK s _ h (by omega) (by omega)

theorem mk1_get {xs : List Int} {v : Int} {k : Nat} (h : k < xs.length) : (mk1 xs v k)[k]? = some xs[k] := by
  unfold mk1
  rw [List.getElem?_append_right (by simp), List.length_replicate, Nat.sub_self, List.getElem?_drop, Nat.add_zero]; simp [h]

theorem still_spec (h : Hp S w0 w its) (i j : Nat) (hij : i ≠ j) {v : Thing} {x b : Sl} {l : List Int} (hi : its[i]? = some (tB x (lent8 l))) (hj : its[j]? = some v) (hv : Hp.Reads v b 1 u8v l) (hl : l.length ≤ 140737488355328) {K : Bool → World → Prop}
    (hK : ∀ w', Hp S w0 w' (its.set i (tB x (List.replicate (l.length + 8) 77))) → K true w') : c12 x b w K := by
  refine c12_of ?_
  unfold f12
  have hxl := h.len (s := x) i (by rw [hi]; rfl)
  have hbl := h.lenU j (by rw [hj]; rfl) hv
  have hlt := (List.getElem?_eq_some_iff.1 hi).1
  have hLL := lent8_len l
  rw [lent8_len] at hxl
  have e0 : its.set i (tB x (mk1 (lent8 l) 77 0)) = its := Hp.set_same (by rw [hi]; simp [mk1])
  refine ⟨fun ok t m w' => ∃ k : Nat, ok = true ∧ t = k ∧ k ≤ l.length + 8 ∧ m = l.length + 8 - k ∧ Hp S w0 w' (its.set i (tB x (mk1 (lent8 l) 77 k))), ⟨l.length + 8, 0, rfl, rfl, by omega, rfl, by rw [e0]; exact h⟩, ?_⟩
  rintro ok t m w2 ⟨k, rfl, rfl, hk, rfl, h⟩
  have hi' : (its.set i (tB x (mk1 (lent8 l) 77 k)))[i]? = some (tB x (mk1 (lent8 l) 77 k)) := by rw [List.getElem?_set_self hlt]
  have hj' : (its.set i (tB x (mk1 (lent8 l) 77 k)))[j]? = some v := by rw [List.getElem?_set_ne hij]; exact hj
  have hml : (mk1 (lent8 l) 77 k).length = l.length + 8 := by rw [mk1_len _ _ (by omega), hLL]
  by_cases hlt2 : k < l.length + 8
  · refine ifT (by simp; omega) ?_
    refine h.dr fun w1 h => ?_
    have next : ∀ w3, Hp S w0 w3 ((its.set i (tB x (mk1 (lent8 l) 77 k))).set i (tB x ((mk1 (lent8 l) 77 k).set ((k : Int)).toNat 77))) → ∃ m2 : Nat, m2 < l.length + 8 - k ∧ ∃ k' : Nat, true = true ∧ IntKind.i64.wrap ((k : Int) + 1) = k' ∧ k' ≤ l.length + 8 ∧ m2 = l.length + 8 - k' ∧ Hp S w0 w3 (its.set i (tB x (mk1 (lent8 l) 77 k'))) := fun w3 h =>
      ⟨l.length + 8 - (k + 1), by omega, k + 1, rfl, by rw [wr64 (by omega) (by omega)]; omega, by omega, rfl, by rw [List.set_set, Int.toNat_natCast, mk1_set _ _ (by omega)] at h; exact h⟩
    have hgk : (mk1 (lent8 l) 77 k)[((k : Int)).toNat]? = some (lent8 l)[k] := by rw [Int.toNat_natCast]; exact mk1_get (by omega)
    refine ifT rfl ?_
    by_cases hkl : k < l.length
    · have hg : (lent8 l)[k] = l[k] := by simp [lent8, List.getElem_append_left hkl]
      rw [hg] at hgk
      refine ifT (by simp; omega) ?_
      refine h.ixld (k := .i .u8) (s := x) (y := l[k]) (x := l[k]) i (by rw [hi']; rfl) (by omega) hgk u8v_len rfl ?_
      refine h.ixldU (k := .i .u8) (u := v) (y := l[k]) (x := l[k]) j (by rw [hj']; rfl) hv (by omega) (by simp [hkl]) u8v_len rfl ?_
      refine ifT (by simp) ?_
      exact h.ixst i hi' (by omega) (by omega) u8v_len (y := 77) rfl rfl next
    · have hg : (lent8 l)[k] = 201 := by
        have : (lent8 l)[k]? = some 201 := by rw [lent8, List.getElem?_append_right (by omega), List.getElem?_replicate, if_pos (by omega)]
        rw [List.getElem?_eq_getElem (by omega)] at this
        exact Option.some.inj this
      rw [hg] at hgk
      refine ifF (by simp; omega) ?_
      refine ifT (by simp; omega) ?_
      refine h.ixld (k := .i .u8) (s := x) (y := 201) (x := 201) i (by rw [hi']; rfl) (by omega) hgk u8v_len rfl ?_
      exact h.ixst i hi' (by omega) (by omega) u8v_len (y := 77) rfl rfl next
  · refine ifF (by simp; omega) ?_
    obtain rfl : k = l.length + 8 := by omega
    rw [mk1_all _ _ hLL] at h
    exact hK _ h

theorem sevens_spec (h : Hp S w0 w its) {n : Nat} (hn : n ≤ 1000000000) {K : Sl → World → Prop} (hK : ∀ s w', Hp S w0 w' (its ++ [tB s (List.replicate n 77)]) → K s w') : c13 (n : Int) w K := by
  refine c13_of ?_
  unfold f13
  refine h.mks (f := u8v) (n := 1) (x0 := 0) u8v_len rfl (by omega) (Int.le_refl _) (by omega) (by omega) fun s w1 h hsl hsc _ => ?_
  rw [Int.toNat_natCast] at h
  refine ⟨fun t mm w' => ∃ k : Nat, t = k ∧ k ≤ n ∧ mm = n - k ∧ Hp S w0 w' (its ++ [tB s (mk1 (List.replicate n 0) 77 k)]), ⟨n, 0, rfl, by omega, rfl, h⟩, ?_⟩
  rintro t mm w2 ⟨k, rfl, hk, rfl, h⟩
  by_cases hlt : k < n
  · refine ifT (by simp; omega) ?_
    refine h.ixst its.length List.getElem?_concat_length (by omega) (by rw [mk1_len _ _ (by simp; omega)]; simp; omega) u8v_len (y := 77) rfl rfl fun w1 h => ?_
    rw [set_last, Int.toNat_natCast, mk1_set _ _ (by simp; omega)] at h
    exact ⟨n - (k + 1), by omega, k + 1, by rw [wr64 (by omega) (by omega)]; omega, by omega, rfl, h⟩
  · refine ifF (by simp; omega) ?_
    obtain rfl : k = n := by omega
    rw [mk1_all _ _ (by simp)] at h
    exact hK s _ h

set_option maxHeartbeats 4000000 in
theorem keep_spec (h : Hp S w0 w its) {i j k : Nat} (hne : [i, j, k].Nodup) {l b : Sl} {es : List Ow} {lst : List Int} (hi : its[i]? = some (tSl l 52 2 owv es)) (hj : its[j]? = some (tBag es)) (hk : its[k]? = some (tB b lst)) (hes : es.length ≤ 1000000000) (hl : lst.length ≤ 90000000) {K : Sl → World → Prop}
    (hK : ∀ l' es' w', es'.length = es.length + 2 → Hp S w0 w' (((its.set i (tSl l' 52 2 owv es')).set j (tBag es')).set k tEmp) → K l' w') : c14 l b w K := by
  refine c14_of ?_
  unfold f14
  obtain ⟨i1, p1, p2, p3, p4⟩ := inf5
  obtain ⟨i3, r1, r2, r3, r4⟩ := inf52
  obtain ⟨O, h1, back⟩ := h.f3 hne hi hj hk rfl rfl rfl
  have hll := h1.len 0 rfl
  have hbl := h1.len (s := b) 2 rfl
  refine ⟨by omega, ?_⟩
  generalize hm : IntKind.u8.wrap (IntKind.i64.wrap (3 + (Int.tmod (IntKind.i64.wrap (5 * (l.len : Int))) 250))) = m
  refine ⟨fun t mm w' => ∃ q : Nat, t = q ∧ q ≤ lst.length ∧ mm = lst.length - q ∧ Hp O w w' [tSl l 52 2 owv es, tBag es, tB b (mk1 lst m q)], ⟨lst.length, 0, rfl, by omega, rfl, h1⟩, ?_⟩
  clear h1
  rintro t mm w2 ⟨q, rfl, hq, rfl, h1⟩
  by_cases hlt : q < lst.length
  · refine ifT (by simp; omega) ?_
    refine h1.ixst 2 rfl (by omega) (by rw [mk1_len _ _ hq]; omega) u8v_len (y := m) rfl rfl fun w3 h1 => ?_
    rw [Int.toNat_natCast, mk1_set _ _ hlt] at h1
    exact ⟨lst.length - (q + 1), by omega, q + 1, by rw [wr64 (by omega) (by omega)]; omega, by omega, rfl, h1⟩
  refine ifF (by simp; omega) ?_
  obtain rfl : q = b.len := by omega
  rw [mk1_all _ _ hbl] at h1
  refine h1.nwapp (c := [_, _]) 0 ⟨b, m⟩ rfl owv_len und30 r1 r3 r2 rfl rfl (by simp [owv, Value.oneCell']) (by rw [r4]; omega) (by omega) fun l2 w3 h1 hl2 _ => ?_
  simp only [List.set_cons_zero, List.set_cons_succ] at h1
  have h1 := h1.lc_start (j := 2) (e := 5) (n := 1) (f := u8v) (l := b) (y := m) (p := b.len) rfl
  simp only [List.set_cons_zero, List.set_cons_succ] at h1
  refine ⟨fun c t mm w' => ∃ q : Nat, t = q ∧ q ≤ 64 ∧ mm = 64 - q ∧ Hp O w w' [tSl l2 52 2 owv (es ++ [⟨b, m⟩]), tBag es, tLC 5 1 u8v b c m b.len (b.len + q)], ⟨64, 0, rfl, by omega, rfl, h1⟩, ?_⟩
  clear h1
  rintro c t mm w4 ⟨q, rfl, hq, rfl, h1⟩
  by_cases hq64 : q < 64
  · refine ifT (by simp; omega) ?_
    refine h1.lc_app (cs := [_]) 2 m rfl u8v_len und22 p1 p3 p2 rfl rfl (by simp [u8v, Value.oneCell']) (by rw [p4]; omega) (by omega) fun c2 w1 h1 => ?_
    exact ⟨64 - (q + 1), by omega, q + 1, by rw [wr64 (by omega) (by omega)]; omega, by omega, rfl, h1⟩
  refine ifF (by simp; omega) ?_
  have hcl := (h1.lc_len 2 rfl).1
  have h1 := h1.lc_done (j := 2) rfl
  rw [← hcl] at h1
  simp only [List.set_cons_zero, List.set_cons_succ] at h1
  have hl2' := h1.len (s := l2) 0 rfl
  simp only [List.length_append, List.length_cons, List.length_nil] at hl2'
  refine h1.nwapp (c := [_, _]) 0 ⟨c, m⟩ rfl owv_len und30 r1 r3 r2 rfl rfl (by simp [owv, Value.oneCell']) (by rw [r4]; omega) (by omega) fun l3 w5 h1 hl3 _ => ?_
  simp only [List.set_cons_zero, List.set_cons_succ] at h1
  have h1 := h1.join (i := 1) (j := 2) (c := tBag (es ++ [⟨b, m⟩] ++ [⟨c, m⟩])) (by omega) rfl rfl rfl rfl rfl (fun w O1 O2 g1 g2 g3 =>
    bag_a (y := ⟨b, m⟩) (by show b.len ≤ _; omega) (by omega) g1 g2 (by
      intro z hz
      simp only [List.mem_append, List.mem_singleton] at hz
      rcases hz with (hz | hz) | hz
      · exact .inl hz
      · exact .inr (.inl hz)
      · exact .inr (.inr hz)))
  simp only [List.set_cons_zero, List.set_cons_succ] at h1
  have hf := back (rest := []) rfl rfl rfl rfl h1
  rw [List.append_nil] at hf
  exact hK l3 _ _ (by simp) hf

/-- looks. -/
theorem looks_spec (h : Hp S w0 w its) (i j : Nat) {ls : Sl} {es : List Ow} (hi : its[i]? = some (tSl ls 52 2 owv es)) (hj : its[j]? = some (tBag es)) (hn : es.length ≤ 10000000000) {K : Bool → World → Prop} (hK : ∀ w', Hp S w0 w' its → K true w') : c15 ls w K := by
  refine c15_of ?_
  unfold f15
  have hi' : (its[i]?).map Thing.holds = some (tSl ls 52 2 owv es).holds := by rw [hi]; rfl
  have hj' : (its[j]?).map Thing.holds = some (tBag es).holds := by rw [hj]; rfl
  have hll := h.len i hi'
  refine ⟨fun t mm w' => ∃ k : Nat, t = k ∧ k ≤ ls.len ∧ mm = ls.len - k ∧ Hp S w0 w' its, ⟨ls.len, 0, rfl, by omega, rfl, h⟩, ?_⟩
  rintro t mm w2 ⟨k, rfl, hk, rfl, h⟩
  by_cases hlt : k < ls.len
  · refine ifT (by simp; omega) ?_
    have hkl : k < es.length := by omega
    have hy : es[((k : Int)).toNat]? = some es[k] := by simp [hkl]
    have hm : es[k] ∈ es := List.getElem_mem hkl
    generalize es[k] = y at hy hm
    have hrd := bag_reads hm
    have hyb : y.b.len ≤ 100000000 := by
      obtain ⟨O, hO⟩ := h.see hj
      exact (hO.2 y hm).1
    refine ⟨fun t mm w' => ∃ q : Nat, t = q ∧ q ≤ y.b.len ∧ mm = y.b.len - q ∧ Hp S w0 w' its, ⟨y.b.len, 0, rfl, by omega, rfl, h⟩, ?_⟩
    rintro t mm w3 ⟨q, rfl, hq, rfl, h⟩
    refine h.ixr i hi' (by omega) hy owv_len fun a hc => ?_
    refine ldR0 (k := .sl) (x := y.b) (hc 0 (by omega)) rfl ?_
    by_cases hqs : q < y.b.len
    · refine ifT (by simp; omega) ?_
      refine h.dr fun w1 h => ?_
      refine h.ixr i hi' (by omega) hy owv_len fun a hc => ?_
      refine ldR0 (k := .sl) (x := y.b) (hc 0 (by omega)) rfl ?_
      refine h.ixldU (k := .i .u8) (u := tBag es) (y := y.mark) (x := y.mark) j hj' hrd (by omega) (by rw [List.getElem?_replicate]; simp; omega) u8v_len rfl ?_
      refine h.ixr i hi' (by omega) hy owv_len fun a hc => ?_
      refine ldR (k := .i .u8) (x := y.mark) (hc 1 (by omega)) rfl ?_
      refine ifF (by simp) ?_
      exact ⟨y.b.len - (q + 1), by omega, q + 1, by rw [wr64 (by omega) (by omega)]; omega, by omega, rfl, h⟩
    refine ifF (by simp; omega) ?_
    exact ⟨ls.len - (k + 1), by omega, k + 1, by rw [wr64 (by omega) (by omega)]; omega, by omega, rfl, h⟩
  · exact ifF (by simp; omega) (hK _ h)
end
end Go.Proofs.Ytmbbfaigbhnhcaa.F
