/-
  The law's own functions of IdsPlays: one step.
-/
import Derived.Test.YtmlkjbolccapkaaL04d
import Derived.Test.YtmlkjbolccapkaaL04
import Derived.Test.YtmlkjbolccapkaaDenN
set_option linter.unusedSimpArgs false
set_option linter.unusedVariables false
set_option maxRecDepth 100000
namespace Go.Proofs.Ytmlkjbolccapkaa.F
open Go Go.Den Go.Proofs

theorem from_own {m : PoolM} (hm : m.Ok2) : fromM m.most m.stGens m.free ≠ none := by
  have hsl := stGens_len m
  have hget : ∀ k : Nat, k < m.gens.length → m.stGens.getD k 0 = (if m.gen k = 1000000 ∧ m.lives k = false then m.gen k + 1 else m.gen k) := by
    intro k hk
    rw [List.getD_eq_getElem?_getD, stGens_get hk]; rfl
  have hall : ∀ g ∈ m.stGens, 1 ≤ g ∧ g ≤ 1000001 := by
    intro g hg
    obtain ⟨k, hk, rfl⟩ := List.mem_iff_getElem.1 hg
    rw [hsl] at hk
    have h1 := hget k hk
    rw [List.getD_eq_getElem?_getD, List.getElem?_eq_getElem (by omega), Option.getD_some] at h1
    have := hm.toOk.gen (i := (k : Int)) (by omega) (by omega)
    rw [h1]
    split <;> omega
  unfold fromM
  rw [if_neg]
  · rw [frFree_ok m.stGens m.free _ hm.nodup]
    · simp
    · intro i hi
      obtain ⟨i0, i1, i2, i3⟩ := hm.free i hi
      have h1 := hget i.toNat (by omega)
      have e : ((i.toNat : Nat) : Int) = i := by omega
      rw [e, if_neg (by omega)] at h1
      refine ⟨i0, by rw [hsl]; exact i1, ?_, by rw [h1]; exact i3⟩
      have hk : i.toNat < m.stGens.length := by omega
      simp only [List.getD_eq_getElem?_getD, List.getElem?_map, List.getElem?_eq_getElem hk, Option.map_some, Option.getD_some, decide_eq_true_eq] at h1 ⊢
      omega
  · have := hm.most1
    have := hm.most2
    have := hm.le
    rintro (h | h | h | h)
    · omega
    · omega
    · rw [hsl] at h; omega
    · exact h hall

def ptr (b : Nat) : Value := .pointer (some ⟨b, 0, none⟩)
/-- The four pointers, those of pair n first told. -/
def psN (n : Nat) (x y x' y' : Value) : List Value := if n = 0 then [x, y, x', y'] else [x', y', x, y]
theorem psN_len (n : Nat) (x y x' y' : Value) : (psN n x y x' y').length = 4 := by unfold psN; split <;> rfl
theorem psN_0 {n : Nat} (h : n < 2) (x y x' y' l : Value) : (psN n x y x' y' ++ [l])[n * 2]? = some x := by
  match n, h with
  | 0, _ => rfl
  | 1, _ => rfl
theorem psN_1 {n : Nat} (h : n < 2) (x y x' y' l : Value) : (psN n x y x' y' ++ [l])[n * 2 + 1]? = some y := by
  match n, h with
  | 0, _ => rfl
  | 1, _ => rfl
theorem psN_set {n : Nat} (h : n < 2) (x y x' y' l u v : Value) : ((psN n x y x' y' ++ [l]).set (n * 2) u).set (n * 2 + 1) v = psN n u v x' y' ++ [l] := by
  match n, h with
  | 0, _ => rfl
  | 1, _ => rfl
theorem psN_set' {n : Nat} (h : n < 2) (x y x' y' l u v : Value) : ((psN n x y x' y' ++ [l]).set ((1 - n) * 2) u).set ((1 - n) * 2 + 1) v = psN n x y u v ++ [l] := by
  match n, h with
  | 0, _ => rfl
  | 1, _ => rfl

section
variable {S : List Nat} {w0 w : World} {its : List Thing}

theorem sel7 (h : Hp S w0 w its) (i0 i1 i2 i3 i4 i5 i6 : Nat) (hne : [i0, i1, i2, i3, i4, i5, i6].Nodup) {t0 t1 t2 t3 t4 t5 t6 : Thing} (h0 : its[i0]? = some t0) (h1 : its[i1]? = some t1) (h2 : its[i2]? = some t2) (h3 : its[i3]? = some t3) (h4 : its[i4]? = some t4) (h5 : its[i5]? = some t5) (h6 : its[i6]? = some t6) : Hp S w0 w [t0, t1, t2, t3, t4, t5, t6] :=
  h.sel [i0, i1, i2, i3, i4, i5, i6] hne rfl fun n j hj => by
    match n, hj with
    | 0, hj => simp only [List.getElem?_cons_zero, Option.some.injEq] at hj; subst hj; exact h0
    | 1, hj => simp only [List.getElem?_cons_succ, List.getElem?_cons_zero, Option.some.injEq] at hj; subst hj; exact h1
    | 2, hj => simp only [List.getElem?_cons_succ, List.getElem?_cons_zero, Option.some.injEq] at hj; subst hj; exact h2
    | 3, hj => simp only [List.getElem?_cons_succ, List.getElem?_cons_zero, Option.some.injEq] at hj; subst hj; exact h3
    | 4, hj => simp only [List.getElem?_cons_succ, List.getElem?_cons_zero, Option.some.injEq] at hj; subst hj; exact h4
    | 5, hj => simp only [List.getElem?_cons_succ, List.getElem?_cons_zero, Option.some.injEq] at hj; subst hj; exact h5
    | 6, hj => simp only [List.getElem?_cons_succ, List.getElem?_cons_zero, Option.some.injEq] at hj; subst hj; exact h6
    | n + 7, hj => simp at hj

/-- All that the walk holds: the lists that came out, and two pairs of pools. -/
def St4 (S : List Nat) (w0 w : World) (bw N n : Nat) : Prop :=
  ∃ es b c m b' c' m', es.length ≤ N ∧ m.Ok2 ∧ m'.Ok2 ∧ Hp S w0 w [tWorld bw (psN n (ptr b) (ptr c) (ptr b') (ptr c')) es, tPool 60 b m, tPool 63 c m, tPool 60 b' m', tPool 63 c' m']

theorem St4.swap {bw N n : Nat} (hn : n < 2) (h : St4 S w0 w bw N n) : St4 S w0 w bw N 0 := by
  match n, hn with
  | 0, _ => exact h
  | 1, _ =>
    obtain ⟨es, b, c, m, b', c', m', hl, h1, h2, h⟩ := h
    exact ⟨es, b', c', m', b, c, m, hl, h2, h1, h.sel5 0 3 4 1 2 (by decide) rfl rfl rfl rfl rfl⟩
theorem St4.swap' {bw N n : Nat} (hn : n < 2) (h : St4 S w0 w bw N 0) : St4 S w0 w bw N n := by
  match n, hn with
  | 0, _ => exact h
  | 1, _ =>
    obtain ⟨es, b, c, m, b', c', m', hl, h1, h2, h⟩ := h
    exact ⟨es, b', c', m', b, c, m, hl, h2, h1, h.sel5 0 3 4 1 2 (by decide) rfl rfl rfl rfl rfl⟩

/-- A pair is put in its stead: pair n. -/
theorem put_n {bw n N b c b' c' : Nat} (hn : n < 2) {m m' : PoolM} {es : List Ls} {a p r : Nat} {mm : PoolM} {rest : List Thing} (hl : es.length ≤ N) (hm' : m'.Ok2) (hmm : mm.Ok2)
    (h : Hp S w0 w (tWorld bw (psN n (ptr b) (ptr c) (ptr b') (ptr c')) es :: tPool 60 b m :: tPool 63 c m :: tPool 60 b' m' :: tPool 63 c' m' :: tPool 60 p mm :: tPool 63 r mm :: rest)) {K : World → Prop}
    (hK : ∀ w', St4 S w0 w' bw N n → K w') : IxA ⟨bw, 0, none⟩ 2 (n : Int) 2 fun a => St a (ptr p) w fun w => St (a.add 1) (ptr r) w K := by
  have h := h.sel5 0 3 4 5 6 (by decide) rfl rfl rfl rfl rfl
  obtain ⟨ls, h⟩ := world_open h (i := 0) rfl
  have hpl := psN_len n (ptr b) (ptr c) (ptr b') (ptr c')
  refine h.ixa (by omega) (by omega) ?_
  rw [Int.toNat_natCast]
  refine h.stv 0 rfl (by simp [hpl]; omega) rfl fun w1 h => ?_
  refine h.stq 0 rfl (by simp [hpl]; omega) rfl fun w1 h => ?_
  simp only [List.cons_append, List.nil_append, List.set_cons_zero, List.set_cons_succ] at h
  rw [psN_set hn] at h
  have h := sel7 h 0 5 6 3 4 1 2 (by decide) rfl rfl rfl rfl rfl rfl rfl
  exact hK _ ⟨es, p, r, mm, b', c', m', hl, hmm, hm', world_close h⟩

/-- .. the other one. -/
theorem put_o {bw n N b c b' c' : Nat} (hn : n < 2) {m m' : PoolM} {es : List Ls} {a p r : Nat} {mm : PoolM} {rest : List Thing} (hl : es.length ≤ N) (hm : m.Ok2) (hmm : mm.Ok2)
    (h : Hp S w0 w (tWorld bw (psN n (ptr b) (ptr c) (ptr b') (ptr c')) es :: tPool 60 b m :: tPool 63 c m :: tPool 60 b' m' :: tPool 63 c' m' :: tPool 60 p mm :: tPool 63 r mm :: rest)) {K : World → Prop} {q : Int} (hq : q = ((1 - n : Nat) : Int))
    (hK : ∀ w', St4 S w0 w' bw N n → K w') : IxA ⟨bw, 0, none⟩ 2 q 2 fun a => St a (ptr p) w fun w => St (a.add 1) (ptr r) w K := by
  subst hq
  have h := h.sel5 0 1 2 5 6 (by decide) rfl rfl rfl rfl rfl
  obtain ⟨ls, h⟩ := world_open h (i := 0) rfl
  have hpl := psN_len n (ptr b) (ptr c) (ptr b') (ptr c')
  refine h.ixa (by omega) (by omega) ?_
  rw [Int.toNat_natCast]
  refine h.stv 0 rfl (by simp [hpl]; omega) rfl fun w1 h => ?_
  refine h.stq 0 rfl (by simp [hpl]; omega) rfl fun w1 h => ?_
  simp only [List.cons_append, List.nil_append, List.set_cons_zero, List.set_cons_succ] at h
  rw [psN_set' hn] at h
  have h := sel7 h 0 5 6 1 2 3 4 (by decide) rfl rfl rfl rfl rfl rfl rfl
  exact hK _ ⟨es, b, c, m, p, r, mm, hl, hm, hmm, world_close h⟩
end
end Go.Proofs.Ytmlkjbolccapkaa.F
