/-
  The law's own functions of IdsPlays: two lists are one; what came out reads as its owner wrote it.
-/
import Derived.Test.YtmlkjbolccapkaaC04g
import Derived.Test.YtmlkjbolccapkaaDenM
set_option linter.unusedSimpArgs false
set_option linter.unusedVariables false
namespace Go.Proofs.Ytmlkjbolccapkaa.F
open Go Go.Den Go.Proofs

abbrev slv (s : Sl) : List Value := [.slice s.a s.len s.cap]
theorem slv_len (s : Sl) : (slv s).length = 1 := rfl
abbrev nilS : Sl := ⟨none, 0, 0⟩

structure Ls where
  a : Sl
  e : Sl
  mark : Int
abbrev lsv (x : Ls) : List Value := [.slice x.a.a x.a.len x.a.cap, .slice x.e.a x.e.len x.e.cap, .int .i64 x.mark]
theorem lsv_len (x : Ls) : (lsv x).length = 3 := rfl

theorem inf70 : ∃ inf : TypeInfo, Try.prog.info? 70 = some inf ∧ inf.zero = some (.agg #[.slice none 0 0, .slice none 0 0, .int .i64 0]) ∧ inf.size = 3 ∧ inf.bytes = 56 := infoP (by kernel_rfl)
theorem und48 : Try.prog.underlying 48 = some (.slice 70) := by kernel_rfl

/-- One reads as its owner wrote it. -/
def LsAt (w : World) (O : List Nat) (x : Ls) : Prop :=
  x.a.len ≤ 4000000 ∧ x.e.len ≤ 4000000 ∧ (∃ O1, SlR w x.a 1 iv (List.replicate x.a.len x.mark) O1 ∧ ∀ k ∈ O1, k ∈ O) ∧ (∃ O2, SlR w x.e 2 ent (List.replicate x.e.len (x.mark, x.mark)) O2 ∧ ∀ k ∈ O2, k ∈ O)

theorem LsAt.fr {S : List Nat} {w w' : World} {O : List Nat} {x : Ls} (h : LsAt w O x) (hf : Fr S w w') (hn : ∀ k ∈ O, k ∉ S) : LsAt w' O x := by
  obtain ⟨h1, h2, ⟨O1, h3, h4⟩, O2, h5, h6⟩ := h
  exact ⟨h1, h2, ⟨O1, h3.fr hf (fun k hk => hn k (h4 k hk)), h4⟩, O2, h5.fr hf (fun k hk => hn k (h6 k hk)), h6⟩
theorem LsAt.mono {w : World} {O O' : List Nat} {x : Ls} (h : LsAt w O x) (ho : ∀ k ∈ O, k ∈ O') : LsAt w O' x := by
  obtain ⟨h1, h2, ⟨O1, h3, h4⟩, O2, h5, h6⟩ := h
  exact ⟨h1, h2, ⟨O1, h3, fun k hk => ho k (h4 k hk)⟩, O2, h5, fun k hk => ho k (h6 k hk)⟩

def tBag (es : List Ls) : Thing :=
  { holds := fun w O => (∀ k ∈ O, k < w.heap.size) ∧ ∀ x ∈ es, LsAt w O x
    fr := fun {S w w' O} h hf hn => ⟨fun k hk => by have := h.1 k hk; have := hf.size; omega, fun x hx => (h.2 x hx).fr hf hn⟩
    lt := fun h => h.1 }

def worldI (bw : Nat) (ps : List Value) (es : List Ls) (ls : Sl) : Thing :=
  tStar (tBlk bw 50 (ps ++ [.slice ls.a ls.len ls.cap])) (tStar (tSl ls 70 3 lsv es) (tBag es))
def tWorld (bw : Nat) (ps : List Value) (es : List Ls) : Thing := tEx fun ls : Sl => worldI bw ps es ls

section
variable {S : List Nat} {w0 w : World} {its : List Thing}

theorem world_open (h : Hp S w0 w its) {i bw : Nat} {ps : List Value} {es : List Ls} (hi : its[i]? = some (tWorld bw ps es)) :
    ∃ ls : Sl, Hp S w0 w (its.set i (tBlk bw 50 (ps ++ [.slice ls.a ls.len ls.cap])) ++ [tSl ls 70 3 lsv es, tBag es]) := by
  have hl := (List.getElem?_eq_some_iff.1 hi).1
  obtain ⟨ls, h⟩ := h.openEx hi (fun _ => rfl)
  have h := h.split (i := i) (by simp [hl]; rfl) rfl rfl
  have e1 : ∀ (l : List Thing) (t : Thing), (l ++ [t])[l.length]? = some t := fun l t => by simp
  have h := h.split (e1 _ _) rfl rfl
  rw [List.set_append_right _ _ (Nat.le_refl _), Nat.sub_self, List.set_cons_zero] at h
  exact ⟨ls, by simpa using h⟩

theorem world_close {bw : Nat} {ps : List Value} {es : List Ls} {ls : Sl} {rest : List Thing}
    (h : Hp S w0 w (tBlk bw 50 (ps ++ [.slice ls.a ls.len ls.cap]) :: tSl ls 70 3 lsv es :: tBag es :: rest)) : Hp S w0 w (tWorld bw ps es :: rest) := by
  have h := h.joinStar (i := 1) (j := 2) (by omega) rfl rfl rfl rfl
  have h := h.joinStar (i := 0) (j := 1) (by omega) rfl rfl rfl rfl
  have h := h.putEx (f := fun ls : Sl => worldI bw ps es ls) (i := 0) ls rfl rfl
  have h : Hp S w0 w (tWorld bw ps es :: tEmp :: tEmp :: rest) := h
  exact h.drop1.drop1

theorem world_see (h : Hp S w0 w its) (i : Nat) {bw : Nat} {ps : List Value} {es : List Ls} (hi : (its[i]?).map Thing.holds = some (tWorld bw ps es).holds) :
    ∃ (ls : Sl) (O : List Nat), Hp [] w w [(tBlk bw 50 (ps ++ [.slice ls.a ls.len ls.cap])).ro, (tSl ls 70 3 lsv es).ro] ∧ ∀ x ∈ es, LsAt w O x := by
  obtain ⟨O, ls, O1, O2, h1, ⟨O3, O4, h2, h3, _⟩, _⟩ := h.see' hi
  exact ⟨ls, O4, ((Hp.init w).addRo h1 (by simp)).addRo h2 (by simp), h3.2⟩

/-- same. -/
theorem same_spec (h : Hp S w0 w its) (i j : Nat) {u v : Thing} {a b : Sl} {xs ys : List Int} (hi : (its[i]?).map Thing.holds = some u.holds) (hj : (its[j]?).map Thing.holds = some v.holds) (hu : Hp.Reads u a 1 iv xs) (hv : Hp.Reads v b 1 iv ys) (hlen : xs.length ≤ 1000000000) {K : Bool → World → Prop}
    (hK : ∀ w', Hp S w0 w' its → K (decide (xs = ys)) w') : c28 a b w K := by
  refine c28_of ?_
  unfold f28
  have hxl := h.lenU i hi hu
  have hyl := h.lenU j hj hv
  by_cases hl : xs.length = ys.length
  · refine ifF (by simp; omega) ?_
    refine ⟨fun t mm w' => ∃ k : Nat, t = k ∧ k ≤ xs.length ∧ mm = xs.length - k ∧ xs.take k = ys.take k ∧ Hp S w0 w' its, ⟨xs.length, 0, rfl, by omega, rfl, by simp, h⟩, ?_⟩
    rintro t mm w2 ⟨k, rfl, hk, rfl, he, h⟩
    by_cases hlt : k < xs.length
    · refine ifT (by simp; omega) ?_
      refine h.dr fun w1 h => ?_
      refine h.ixldU (k := .i .i64) (u := u) (y := xs[k]) (x := xs[k]) i hi hu (by omega) (by simp [hlt]) iv_len rfl ?_
      refine h.ixldU (k := .i .i64) (u := v) (y := ys[k]) (x := ys[k]) j hj hv (by omega) (by simp [show k < ys.length by omega]) iv_len rfl ?_
      by_cases hxy : xs[k] = ys[k]
      · refine ifF (by rw [hxy]; simp) ?_
        refine ⟨xs.length - (k + 1), by omega, k + 1, by rw [wr64 (by omega) (by omega)]; omega, by omega, rfl, ?_, h⟩
        rw [List.take_add_one, List.take_add_one, he, List.getElem?_eq_getElem hlt, List.getElem?_eq_getElem (by omega), hxy]
      · refine ifT (by simpa using hxy) ?_
        have : decide (xs = ys) = false := by
          simp only [decide_eq_false_iff_not]
          rintro rfl
          exact hxy rfl
        have h2 := hK w1 h
        rw [this] at h2
        exact h2
    · refine ifF (by simp; omega) ?_
      have h2 := hK w2 h
      have : xs = ys := by
        rw [List.take_of_length_le (by omega), List.take_of_length_le (by omega)] at he
        exact he
      rw [decide_eq_true this] at h2
      exact h2
  · refine ifT (by simp; omega) ?_
    have : decide (xs = ys) = false := by
      simp only [decide_eq_false_iff_not]
      rintro rfl
      exact hl rfl
    have h2 := hK w h
    rw [this] at h2
    exact h2

/-- looks. -/
theorem looks_spec (h : Hp S w0 w its) (i : Nat) {bw : Nat} {ps : List Value} {es : List Ls} (h4 : ps.length = 4) (hi : (its[i]?).map Thing.holds = some (tWorld bw ps es).holds) (hg : es.length ≤ 100000) {K : Bool → World → Prop} (hK : ∀ w', Hp S w0 w' its → K true w') : c17 (some ⟨bw, 0, none⟩) w K := by
  refine c17_of ?_
  unfold f17
  obtain ⟨ls, O, h1, hes⟩ := world_see h i hi
  have hll := h1.len 1 rfl
  have hps : (ps ++ [Value.slice ls.a ls.len ls.cap])[4]? = some (Value.slice ls.a ls.len ls.cap) := by
    rw [List.getElem?_append_right (by omega), h4]; rfl
  refine ⟨fun t mm w' => ∃ k : Nat, t = k ∧ k ≤ ls.len ∧ mm = ls.len - k ∧ Hp [] w w' [(tBlk bw 50 (ps ++ [.slice ls.a ls.len ls.cap])).ro, (tSl ls 70 3 lsv es).ro], ⟨ls.len, 0, rfl, by omega, rfl, h1⟩, ?_⟩
  rintro t mm w2 ⟨k, rfl, hk, rfl, h1⟩
  refine nns ?_
  refine h1.ld (k := .sl) (x := ls) 0 rfl hps ?_
  by_cases hlt : k < ls.len
  · refine ifT (by simp; omega) ?_
    refine nns ?_
    refine h1.ld (k := .sl) (x := ls) 0 rfl hps ?_
    have hkl : k < es.length := by omega
    have hy : es[((k : Int)).toNat]? = some es[k] := by simp [hkl]
    obtain ⟨b1, b2, ⟨O1, r1, _⟩, O2, r2, _⟩ := hes es[k] (List.getElem_mem hkl)
    generalize es[k] = y at hy b1 b2 r1 r2
    refine h1.ixr 1 rfl (by omega) hy lsv_len fun a hc => ?_
    refine ldR0 (k := .sl) (x := y.a) (hc 0 (by omega)) rfl ?_
    refine ldR (k := .sl) (x := y.e) (hc 1 (by omega)) rfl ?_
    refine ldR (k := .i .i64) (x := y.mark) (hc 2 (by omega)) rfl ?_
    refine h1.nw (c := [_, _, _]) fun x w1 h1 => ?_
    refine h1.st0 2 rfl (by simp) rfl fun w1 h1 => ?_
    refine h1.st 2 rfl (by simp) rfl fun w1 h1 => ?_
    refine h1.st 2 rfl (by simp) rfl fun w1 h1 => ?_
    have h1 := h1.addRo (t := tRd y.a 1 iv (List.replicate y.a.len y.mark)) r1 (by simp)
    have h1 := h1.addRo (t := tRd y.e 2 ent (List.replicate y.e.len (y.mark, y.mark))) r2 (by simp)
    simp only [List.cons_append, List.nil_append, List.set_cons_zero, List.set_cons_succ] at h1
    refine ⟨fun t mm w' => ∃ q : Nat, t = q ∧ q ≤ y.a.len ∧ mm = y.a.len - q ∧ Hp [] w w' [(tBlk bw 50 (ps ++ [.slice ls.a ls.len ls.cap])).ro, (tSl ls 70 3 lsv es).ro, tBlk x 70 [.slice y.a.a y.a.len y.a.cap, .slice y.e.a y.e.len y.e.cap, .int .i64 y.mark], (tRd y.a 1 iv (List.replicate y.a.len y.mark)).ro, (tRd y.e 2 ent (List.replicate y.e.len (y.mark, y.mark))).ro], ⟨y.a.len, 0, rfl, by omega, rfl, h1⟩, ?_⟩
    rintro t mm w3 ⟨q, rfl, hq, rfl, h1⟩
    refine h1.ld0 (x := y.a) 2 rfl rfl ?_
    by_cases hqs : q < y.a.len
    · refine ifT (by simp; omega) ?_
      refine h1.dr fun w1 h1 => ?_
      refine h1.ld0 (x := y.a) 2 rfl rfl ?_
      refine h1.ixldR (k := .i .i64) (y := y.mark) (x := y.mark) 3 rfl (by omega) (by rw [List.getElem?_replicate]; simp; omega) iv_len rfl ?_
      refine h1.ld (x := y.mark) 2 rfl rfl ?_
      refine ifF (by simp) ?_
      exact ⟨y.a.len - (q + 1), by omega, q + 1, by rw [wr64 (by omega) (by omega)]; omega, by omega, rfl, h1⟩
    refine ifF (by simp; omega) ?_
    refine ⟨fun t mm w' => ∃ q : Nat, t = q ∧ q ≤ y.e.len ∧ mm = y.e.len - q ∧ Hp [] w w' [(tBlk bw 50 (ps ++ [.slice ls.a ls.len ls.cap])).ro, (tSl ls 70 3 lsv es).ro, tBlk x 70 [.slice y.a.a y.a.len y.a.cap, .slice y.e.a y.e.len y.e.cap, .int .i64 y.mark], (tRd y.a 1 iv (List.replicate y.a.len y.mark)).ro, (tRd y.e 2 ent (List.replicate y.e.len (y.mark, y.mark))).ro], ⟨y.e.len, 0, rfl, by omega, rfl, h1⟩, ?_⟩
    rintro t mm w4 ⟨q, rfl, hq, rfl, h1⟩
    refine h1.ld (x := y.e) 2 rfl rfl ?_
    by_cases hqs : q < y.e.len
    · refine ifT (by simp; omega) ?_
      refine h1.dr fun w1 h1 => ?_
      refine h1.ld (x := y.e) 2 rfl rfl ?_
      refine h1.ixld2R (k := .i .i64) (k' := .i .i64) (y := (y.mark, y.mark)) (x := y.mark) (x' := y.mark) 4 rfl (by omega) (by rw [List.getElem?_replicate]; simp; omega) ent_len rfl rfl ?_
      refine h1.ld (x := y.mark) 2 rfl rfl ?_
      refine h1.ld (x := y.mark) 2 rfl rfl ?_
      refine neEnt ?_
      refine ifF (by simp) ?_
      exact ⟨y.e.len - (q + 1), by omega, q + 1, by rw [wr64 (by omega) (by omega)]; omega, by omega, rfl, h1⟩
    refine ifF (by simp; omega) ?_
    exact ⟨ls.len - (k + 1), by omega, k + 1, by rw [wr64 (by omega) (by omega)]; omega, by omega, rfl, h1.trim 2⟩
  · refine ifF (by simp; omega) ?_
    exact hK _ (h.keep h1.fr)
end
end Go.Proofs.Ytmlkjbolccapkaa.F
