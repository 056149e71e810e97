/-
  Contracts of package pack, third part: rows are written.
-/
import Derived.Test.YtbmpgjheiknjlaaC01s
import Derived.Test.YtbmpgjheiknjlaaM01b
import Derived.Test.YtbmpgjheiknjlaaDenN
set_option linter.unusedSimpArgs false
set_option linter.unusedVariables false
namespace Go.Proofs.Ytbmpgjheiknjlaa.F
open Go Go.Den Go.Proofs

abbrev rv (x : Int × Int) : List Value := [.int .u64 x.1, .int .i64 x.2]
theorem rv_len (x : Int × Int) : (rv x).length = 2 := rfl
theorem inf76 : ∃ inf : TypeInfo, Try.prog.info? 76 = some inf ∧ inf.zero = some (.agg #[.int .u64 0, .int .i64 0]) ∧ inf.size = 2 ∧ inf.bytes = 16 := infoP (by kernel_rfl)
theorem und73 : Try.prog.underlying 73 = some (.slice 76) := by kernel_rfl

section
variable {S : List Nat} {w0 w : World} {its : List Thing}

/-- The first one of an element's two cells is written. -/
theorem ixst1of2 {α : Type} {f : α → List Value} {e : TypeId} (h : Hp S w0 w its) (i : Nat) {s : Sl} {l : List α} {j : Int} {x y : α} {v a b' : Value} {K : World → Prop} (hi : its[i]? = some (tSl s e 2 f l)) (h0 : 0 ≤ j) (hx : l[j.toNat]? = some x) (hf : ∀ x, (f x).length = 2) (hfx : f x = [a, b']) (hy : f y = [v, b']) (hv : v.oneCell' = true)
    (hK : ∀ w', Hp S w0 w' (its.set i (tSl s e 2 f (l.set j.toNat y))) → K w') : Ix s.a s.len j 2 fun a => St a v w K := by
  obtain ⟨O, hO, back⟩ := h.step hi rfl
  refine SlF.ix hf hO h0 hx fun b off c ho hb hoff hcs hput => ?_
  refine Go.Den.st hb (by omega) hv fun w' hb' hf' _ => hK w' (back (t' := tSl s e 2 f (l.set j.toNat y)) (O' := O) (by rw [ho]; exact hf') (hput w' y ?_) (fun k hk => .inl hk) rfl)
  have c1 := hcs 1 (by omega)
  rw [hfx] at c1
  simp only [List.getElem?_cons_succ, List.getElem?_cons_zero] at c1
  have e1 : c.set off v = c.take off ++ f y ++ c.drop (off + 2) := by
    apply List.ext_getElem?
    intro m
    rw [hy]
    have l1 : (List.take off c).length = off := by rw [List.length_take]; omega
    simp only [List.getElem?_set, List.getElem?_append, List.length_append, l1, List.length_cons, List.length_nil, List.getElem?_take, List.getElem?_drop]
    by_cases h1 : m < off
    · rw [if_neg (by omega), if_pos (by omega), if_pos h1, if_pos h1]
    · by_cases h2 : m = off
      · subst h2
        rw [if_pos rfl, if_pos (by omega), if_pos (by omega), if_neg (by omega)]
        simp
      · by_cases h3 : m = off + 1
        · subst h3
          rw [if_neg (by omega), if_pos (by omega), if_neg (by omega), c1]
          simp
        · rw [if_neg (by omega), if_neg (by omega)]
          congr 1; omega
  rw [← e1]; exact hb'

theorem getLast_get {α : Type} {l : List α} (h : l ≠ []) : l.getLast? = l[l.length - 1]? := by
  rw [List.getLast?_eq_getElem?]

theorem runs_spec (h : Hp S w0 w its) (j : Nat) {u : Thing} {b : Sl} {l : List Int} (hj : its[j]? = some u) (hu : Hp.Reads u b 1 iv l) (hr : R64 l) (hl : l.length ≤ 1000000000000) {K : Sl → World → Prop}
    (hK : ∀ s w', Hp S w0 w' (its ++ [tSl s 76 2 rv (runsL l)]) → K s w') : c48 b w K := by
  refine c48_of ?_
  unfold f48
  have hbl := h.lenU j (by rw [hj]; rfl) hu
  have hlt := (List.getElem?_eq_some_iff.1 hj).1
  have h := h.nil 76 2 rv
  obtain ⟨inf, q1, q2, q3, q4⟩ := inf76
  refine ⟨fun out t m w' => ∃ (i : Nat) (R : List (Int × Int)), t = i ∧ i ≤ l.length ∧ R.length ≤ i ∧ (∀ x ∈ R, 0 ≤ x.1 ∧ x.1 ≤ i) ∧ (l.drop i).foldl runStep R = runsL l ∧ m = l.length - i ∧ Hp S w0 w' (its ++ [tSl out 76 2 rv R]), ⟨l.length, 0, [], rfl, by omega, by simp, by simp, fold_all l, rfl, h⟩, ?_⟩
  rintro out t m w2 ⟨i, R, rfl, hi, hRl, hR, hfold, rfl, h⟩
  have hol := h.len (s := out) its.length (by rw [List.getElem?_concat_length]; rfl)
  have hj' : ∀ t : Thing, (its ++ [t])[j]? = some u := fun t => by rw [List.getElem?_append_left hlt]; exact hj
  by_cases hli : i < l.length
  · refine ifT (by simp; omega) ?_
    have hd : l.drop i = l[i] :: l.drop (i + 1) := List.drop_eq_getElem_cons hli
    refine h.ixldU (k := .i .i64) (u := u) (y := l[i]) (x := l[i]) j (by rw [hj']; rfl) hu (by omega) (by simp [hli]) iv_len rfl ?_
    rw [hd, List.foldl_cons] at hfold
    generalize l[i] = x at hfold
    have ew : IntKind.i64.wrap ((out.len : Int) - 1) = (out.len : Int) - 1 := wr64 (by omega) (by omega)
    rw [ew]
    rcases List.eq_nil_or_concat R with rfl | ⟨R', ⟨n, y⟩, rfl⟩
    · simp only [List.length_nil] at hol
      refine ⟨fun t w' => t = false ∧ w' = w2, ifF (by simp; omega) ⟨rfl, rfl⟩, ?_⟩
      rintro t w' ⟨rfl, rfl⟩
      refine ifF (by simp) ?_
      refine h.nwapp (c := [_, _]) its.length ((1 : Int), x) List.getElem?_concat_length rv_len und73 q1 q3 q2 rfl rfl (by simp [Value.oneCell']) (by rw [q4]; omega) (by omega) fun s2 w1 h _ _ => ?_
      rw [set_last] at h
      exact ⟨l.length - (i + 1), by omega, i + 1, [(1, x)], by rw [wr64 (by omega) (by omega)]; omega, by omega, by simp, by simp; omega, hfold, rfl, h⟩
    · simp only [List.concat_eq_append] at *
      simp only [List.length_append, List.length_cons, List.length_nil] at hol hRl
      have hget : (R' ++ [(n, y)])[((out.len : Int) - 1).toNat]? = some (n, y) := by
        rw [List.getElem?_append_right (by omega), show ((out.len : Int) - 1).toNat - R'.length = 0 by omega]; rfl
      obtain ⟨n0, n1⟩ := hR (n, y) (by simp)
      dsimp only at n0 n1
      refine ⟨fun t w' => t = (y == x) ∧ w' = w2, ?_, ?_⟩
      · refine ifT (by simp; omega) ?_
        refine h.ixr its.length (by rw [List.getElem?_concat_length]; rfl) (by omega) hget rv_len fun a hc => ?_
        exact ldR (k := .i .i64) (x := y) (hc 1 (by omega)) rfl ⟨rfl, rfl⟩
      · rintro t w' ⟨rfl, rfl⟩
        by_cases hyx : y = x
        · subst hyx
          refine ifT (by simp) ?_
          refine h.ixr its.length (by rw [List.getElem?_concat_length]; rfl) (by omega) hget rv_len fun a hc => ?_
          refine ldR0 (k := .i .u64) (x := n) (hc 0 (by omega)) rfl ?_
          have ew2 : IntKind.u64.wrap (n + 1) = n + 1 := by rw [w64]; omega
          rw [ew2]
          refine ixst1of2 h its.length (y := (n + 1, y)) List.getElem?_concat_length (by omega) hget rv_len rfl rfl rfl fun w1 h => ?_
          rw [set_last] at h
          have es : (R' ++ [(n, y)]).set ((out.len : Int) - 1).toNat (n + 1, y) = R' ++ [(n + 1, y)] := by
            rw [List.set_append_right _ _ (by omega), show ((out.len : Int) - 1).toNat - R'.length = 0 by omega]; rfl
          rw [es] at h
          rw [runStep_eq] at hfold
          refine ⟨l.length - (i + 1), by omega, i + 1, _, by rw [wr64 (by omega) (by omega)]; omega, by omega, by simp; omega, ?_, hfold, rfl, h⟩
          intro z hz
          rcases List.mem_append.1 hz with hz | hz
          · have := hR z (by simp [hz]); omega
          · simp only [List.mem_singleton] at hz; subst hz; dsimp only; omega
        · refine ifF (by simpa using hyx) ?_
          refine h.nwapp (c := [_, _]) its.length ((1 : Int), x) List.getElem?_concat_length rv_len und73 q1 q3 q2 rfl rfl (by simp [Value.oneCell']) (by rw [q4]; omega) (by omega) fun s2 w1 h _ _ => ?_
          rw [set_last] at h
          rw [runStep_ne _ _ hyx] at hfold
          refine ⟨l.length - (i + 1), by omega, i + 1, _, by rw [wr64 (by omega) (by omega)]; omega, by omega, by simp; omega, ?_, hfold, rfl, h⟩
          intro z hz
          rcases List.mem_append.1 hz with hz | hz
          · have := hR z hz; omega
          · simp only [List.mem_singleton] at hz; subst hz; dsimp only; omega
  · refine ifF (by simp; omega) ?_
    rw [List.drop_of_length_le (by omega), List.foldl_nil] at hfold
    subst hfold
    exact hK out _ h
end
end Go.Proofs.Ytbmpgjheiknjlaa.F
