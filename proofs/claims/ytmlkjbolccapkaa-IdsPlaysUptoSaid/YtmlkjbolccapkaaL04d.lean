/-
  The law's own functions of IdsPlays: state, look, from.
-/
import Derived.Test.YtmlkjbolccapkaaL04c
set_option linter.unusedSimpArgs false
set_option linter.unusedVariables false
namespace Go.Proofs.Ytmlkjbolccapkaa.F
open Go Go.Den Go.Proofs

section
variable {S : List Nat} {w0 w : World} {its : List Thing}

theorem pack4 {t a b c d u v : Thing} (h : Hp S w0 w [t, a, b, c, d, u, v]) (ha : a.own = true) (hb : b.own = true) (hc : c.own = true) (hd : d.own = true) : Hp S w0 w [t, tAll [a, b, c, d], tAll [], u, v] := by
  have h := h.grow (Fr.refl _ _) (t := tEmp) (O := []) rfl (by simp) rfl
  have h := h.joinStar (i := 4) (j := 7) (by omega) rfl rfl hd rfl
  have h := h.joinStar (i := 3) (j := 4) (by omega) rfl rfl hc rfl
  have h := h.joinStar (i := 2) (j := 3) (by omega) rfl rfl hb rfl
  have h := h.joinStar (i := 1) (j := 2) (by omega) rfl rfl ha rfl
  exact h.sel5 0 1 2 5 6 (by decide) rfl rfl rfl rfl rfl

theorem pack2 {t a b u v : Thing} (h : Hp S w0 w [t, a, b, u, v]) (ha : a.own = true) (hb : b.own = true) : Hp S w0 w [t, tAll [], tAll [a, b], u, v] := by
  have h := h.grow (Fr.refl _ _) (t := tEmp) (O := []) rfl (by simp) rfl
  have h := h.joinStar (i := 2) (j := 5) (by omega) rfl rfl hb rfl
  have h := h.joinStar (i := 1) (j := 2) (by omega) rfl rfl ha rfl
  exact h.sel5 0 2 1 3 4 (by decide) rfl rfl rfl rfl rfl

theorem stl {m : PoolM} (hm : m.Ok) : m.stGens.length ≤ 1000000 := by rw [stGens_len]; have := hm.len200; omega

/-- state. -/
theorem state_spec (h : Hp S w0 w its) (i j k : Nat) (hij : i ≠ j) (hik : i ≠ k) {bw bp br : Nat} {ps : List Value} {es : List Ls} {m : PoolM} (h4 : ps.length = 4) (hm : m.Ok2) (hi : its[i]? = some (tWorld bw ps es)) (hj : its[j]? = some (tPool 60 bp m)) (hk : its[k]? = some (tPool 63 br m)) (hn : es.length ≤ 100000) {K : Bool → World → Prop}
    (hK : ∀ es2 w', es2.length ≤ es.length + 8 → Hp S w0 w' (its.set i (tWorld bw ps es2)) → K true w') : c18 (some ⟨bw, 0, none⟩) (some ⟨bp, 0, none⟩) (some ⟨br, 0, none⟩) w K := by
  refine c18_of ?_
  unfold f18
  have hl1 := stl hm.toOk
  have hl2 := Ok.free200 hm.toOk
  obtain ⟨O, h1, back⟩ := h.f1r2 hij hik hi hj hk rfl
  refine h1.nw (c := [_, _]) fun x w1 h1 => ?_
  refine h1.ld0 (k := .p) (x := some ⟨bp, 0, none⟩) 3 rfl rfl ?_
  refine State_h h1 1 hm.toOk rfl fun a b w1 h1 => ?_
  refine h1.ld (k := .p) (x := some ⟨br, 0, none⟩) 3 rfl rfl ?_
  refine RState_h h1 2 hm rfl fun c d w1 h1 => ?_
  refine same_spec h1 4 6 rfl rfl Hp.rdSl Hp.rdSl (by omega) fun w1 h1 => ?_
  refine same_spec h1 5 7 rfl rfl Hp.rdSl Hp.rdSl (by omega) fun w1 h1 => ?_
  refine h1.ld0 (k := .p) (x := some ⟨bp, 0, none⟩) 3 rfl rfl ?_
  refine State_h h1 1 hm.toOk rfl fun e f w1 h1 => ?_
  refine same_spec h1 8 6 rfl rfl Hp.rdSl Hp.rdSl (by omega) fun w1 h1 => ?_
  refine same_spec h1 9 7 rfl rfl Hp.rdSl Hp.rdSl (by omega) fun w1 h1 => ?_
  refine h1.nw (c := [_, _, _, _]) fun b2 w1 h1 => ?_
  have h1 := h1.blkSl (i := 10) (m := 4) (l := [a, b, e, f]) (f := slv) (n := 1) rfl rfl rfl slv_len
  have h1 := h1.nil 29 1 slv
  simp only [List.cons_append, List.nil_append, List.set_cons_zero, List.set_cons_succ] at h1
  have h1 := h1.sel [0, 4, 5, 8, 9, 10, 11] (by decide) (ts := [_, _, _, _, _, _, _]) rfl (fun n j hj => by
    match n, hj with
    | 0, hj => simp only [List.getElem?_cons_zero, Option.some.injEq] at hj; subst hj; rfl
    | 1, hj => simp only [List.getElem?_cons_succ, List.getElem?_cons_zero, Option.some.injEq] at hj; subst hj; rfl
    | 2, hj => simp only [List.getElem?_cons_succ, List.getElem?_cons_zero, Option.some.injEq] at hj; subst hj; rfl
    | 3, hj => simp only [List.getElem?_cons_succ, List.getElem?_cons_zero, Option.some.injEq] at hj; subst hj; rfl
    | 4, hj => simp only [List.getElem?_cons_succ, List.getElem?_cons_zero, Option.some.injEq] at hj; subst hj; rfl
    | 5, hj => simp only [List.getElem?_cons_succ, List.getElem?_cons_zero, Option.some.injEq] at hj; subst hj; rfl
    | 6, hj => simp only [List.getElem?_cons_succ, List.getElem?_cons_zero, Option.some.injEq] at hj; subst hj; rfl
    | n + 7, hj => simp at hj)
  have h1 := pack4 h1 rfl rfl rfl rfl
  refine fill_spec (aL := [(a, m.stGens), (b, m.free), (e, m.stGens), (f, m.free)]) (eL := []) h4 h1 Hp.rdSl Hp.rdSl hn (by simp) (by simp) ?_ (by simp) fun es2 w2 hl h1 => ?_
  · intro x hx
    simp only [List.mem_cons, List.not_mem_nil, or_false] at hx
    rcases hx with rfl | rfl | rfl | rfl
    · exact hl1
    · show m.free.length ≤ _; omega
    · exact hl1
    · show m.free.length ≤ _; omega
  · have h3 := back (rest := []) rfl rfl h1
    rw [List.append_nil] at h3
    have := hK es2 w2 (by simpa using hl) h3
    simpa using this

set_option maxHeartbeats 1000000 in
/-- look. -/
theorem look_spec (h : Hp S w0 w its) (i j k : Nat) (hij : i ≠ j) (hik : i ≠ k) {bw bp br : Nat} {ps : List Value} {es : List Ls} {m : PoolM} (h4 : ps.length = 4) (hm : m.Ok2) (hi : its[i]? = some (tWorld bw ps es)) (hj : its[j]? = some (tPool 60 bp m)) (hk : its[k]? = some (tPool 63 br m)) (hn : es.length ≤ 100000) {o1 o2 o3 o4 o5 : Int} {o6 o7 : Sl} {K : Bool → World → Prop}
    (hK : ∀ es2 w', es2.length ≤ es.length + 8 → Hp S w0 w' (its.set i (tWorld bw ps es2)) → K true w') : c23 (some ⟨bw, 0, none⟩) (some ⟨bp, 0, none⟩) (some ⟨br, 0, none⟩) o1 o2 o3 o4 o5 o6 o7 w K := by
  refine c23_of ?_
  unfold f23
  have hal := PoolM.allU_len m m.gens.length
  have h200 := hm.toOk.len200
  obtain ⟨O, h1, back⟩ := h.f1r2 hij hik hi hj hk rfl
  refine h1.nw (c := [_, _]) fun x w1 h1 => ?_
  refine h1.nw (c := [_, _, _, _, _, _, _]) fun o w1 h1 => ?_
  refine h1.dr fun w1 h1 => ?_
  refine h1.ld0 (k := .p) (x := some ⟨bp, 0, none⟩) 3 rfl rfl ?_
  refine h1.ld (x := o4) 4 rfl rfl ?_
  refine h1.lda (x := o5) 4 rfl rfl ?_
  refine h1.ld (k := .p) (x := some ⟨br, 0, none⟩) 3 rfl rfl ?_
  refine h1.ld (x := o4) 4 rfl rfl ?_
  refine h1.lda (x := o5) 4 rfl rfl ?_
  refine Lives_h h1 1 hm.toOk rfl fun w1 h1 => ⟨h1.cel 4 rfl rfl, h1.cela 4 rfl rfl, h1.cel 3 rfl rfl, ?_⟩
  refine RLives_h h1 2 hm.toOk rfl fun w1 h1 => ?_
  refine ifF (by simp) ?_
  refine h1.ld0 (k := .p) (x := some ⟨bp, 0, none⟩) 3 rfl rfl ?_
  refine h1.ld (x := o3) 4 rfl rfl ?_
  refine At_h h1 1 hm.toOk rfl fun w1 h1 => ?_
  refine h1.nw (c := [_, _]) fun a w1 h1 => ?_
  refine h1.st0 5 rfl (by simp) rfl fun w1 h1 => ?_
  refine h1.st 5 rfl (by simp) rfl fun w1 h1 => ?_
  simp only [List.cons_append, List.nil_append, List.set_cons_zero, List.set_cons_succ] at h1
  refine h1.ld (k := .p) (x := some ⟨br, 0, none⟩) 3 rfl rfl ?_
  refine h1.ld (x := o3) 4 rfl rfl ?_
  refine RAt_h h1 2 hm.toOk rfl fun w1 h1 => ?_
  refine h1.nw (c := [_, _]) fun b w1 h1 => ?_
  refine h1.st0 6 rfl (by simp) rfl fun w1 h1 => ?_
  refine h1.st 6 rfl (by simp) rfl fun w1 h1 => ?_
  simp only [List.cons_append, List.nil_append, List.set_cons_zero, List.set_cons_succ] at h1
  refine h1.ld0 (k := .p) (x := some ⟨bp, 0, none⟩) 3 rfl rfl ?_
  refine All_h h1 1 hm.toOk rfl fun l w1 h1 => ?_
  refine h1.ld (k := .p) (x := some ⟨br, 0, none⟩) 3 rfl rfl ?_
  refine RAll_h h1 2 hm.toOk rfl fun mm w1 h1 => ?_
  simp only [List.cons_append, List.nil_append, List.set_cons_zero, List.set_cons_succ] at h1
  refine h1.ld0 (x := (m.atM o3).1.1) 5 rfl rfl ?_
  refine h1.ld (x := (m.atM o3).1.2) 5 rfl rfl ?_
  refine h1.ld0 (x := (m.atM o3).1.1) 6 rfl rfl ?_
  refine h1.ld (x := (m.atM o3).1.2) 6 rfl rfl ?_
  refine eqEnt ?_
  have hll := h1.len 7 rfl
  have hml := h1.len 8 rfl
  generalize hL : m.allU m.gens.length = L at hal hll hml h1
  have e0 : (cond (cond ((m.atM o3).1.1 == (m.atM o3).1.1 && (m.atM o3).1.2 == (m.atM o3).1.2) ((m.atM o3).2 == (m.atM o3).2) false) ((l.len : Int) == (mm.len : Int)) false) = true := by
    have : l.len = mm.len := by omega
    simp [this]
  rw [e0]
  generalize hIt : [tWorld bw ps es, (tPool 60 bp m).ro, (tPool 63 br m).ro, tBlk x 46 [.pointer (some ⟨bp, 0, none⟩), .pointer (some ⟨br, 0, none⟩)], tBlk o 55 [.int .i64 o1, .int .i64 o2, .int .i64 o3, .int .i64 o4, .int .i64 o5, .slice o6.a o6.len o6.cap, .slice o7.a o7.len o7.cap], tBlk a 31 [.int .i64 (m.atM o3).1.1, .int .i64 (m.atM o3).1.2], tBlk b 31 [.int .i64 (m.atM o3).1.1, .int .i64 (m.atM o3).1.2], tSl l 31 2 ent L, tSl mm 31 2 ent L] = It at h1
  refine ⟨fun ok t q w' => ∃ k : Nat, ok = true ∧ t = k ∧ k ≤ L.length ∧ q = L.length - k ∧ Hp O w w' It, ⟨L.length, 0, rfl, rfl, by omega, rfl, h1⟩, ?_⟩
  rintro ok t q w2 ⟨k, rfl, rfl, hk', rfl, h1⟩
  by_cases hlt : k < L.length
  · refine ifT (by simp; omega) ?_
    refine h1.dr fun w1 h1 => ?_
    subst hIt
    have hg : L[((k : Int)).toNat]? = some L[k] := by simp [hlt]
    refine h1.ixld2 (k := .i .i64) (k' := .i .i64) (y := L[k]) (x := L[k].1) (x' := L[k].2) 7 rfl (by omega) hg ent_len rfl rfl ?_
    refine h1.ixld2 (k := .i .i64) (k' := .i .i64) (y := L[k]) (x := L[k].1) (x' := L[k].2) 8 rfl (by omega) hg ent_len rfl rfl ?_
    refine eqEnt ?_
    exact ⟨L.length - (k + 1), by omega, k + 1, by simp, by rw [wr64 (by omega) (by omega)]; omega, by omega, rfl, h1⟩
  refine ifF (by simp; omega) ?_
  subst hIt
  refine h1.ld0 (k := .p) (x := some ⟨bp, 0, none⟩) 3 rfl rfl ?_
  refine All_h h1 1 hm.toOk rfl fun kk w1 h1 => ?_
  simp only [List.cons_append, List.nil_append, List.set_cons_zero, List.set_cons_succ] at h1
  rw [hL] at h1
  have hkl := h1.len 9 rfl
  have e1 : (cond true ((kk.len : Int) == (mm.len : Int)) false) = true := by
    have : kk.len = mm.len := by omega
    simp [this]
  rw [e1]
  generalize hIt : [tWorld bw ps es, (tPool 60 bp m).ro, (tPool 63 br m).ro, tBlk x 46 [.pointer (some ⟨bp, 0, none⟩), .pointer (some ⟨br, 0, none⟩)], tBlk o 55 [.int .i64 o1, .int .i64 o2, .int .i64 o3, .int .i64 o4, .int .i64 o5, .slice o6.a o6.len o6.cap, .slice o7.a o7.len o7.cap], tBlk a 31 [.int .i64 (m.atM o3).1.1, .int .i64 (m.atM o3).1.2], tBlk b 31 [.int .i64 (m.atM o3).1.1, .int .i64 (m.atM o3).1.2], tSl l 31 2 ent L, tSl mm 31 2 ent L, tSl kk 31 2 ent L] = It at h1
  refine ⟨fun ok t q w' => ∃ k : Nat, ok = true ∧ t = k ∧ k ≤ L.length ∧ q = L.length - k ∧ Hp O w w' It, ⟨L.length, 0, rfl, rfl, by omega, rfl, h1⟩, ?_⟩
  rintro ok t q w3 ⟨k, rfl, rfl, hk', rfl, h1⟩
  by_cases hlt : k < L.length
  · refine ifT (by simp; omega) ?_
    refine h1.dr fun w1 h1 => ?_
    subst hIt
    have hg : L[((k : Int)).toNat]? = some L[k] := by simp [hlt]
    refine h1.ixld2 (k := .i .i64) (k' := .i .i64) (y := L[k]) (x := L[k].1) (x' := L[k].2) 9 rfl (by omega) hg ent_len rfl rfl ?_
    refine h1.ixld2 (k := .i .i64) (k' := .i .i64) (y := L[k]) (x := L[k].1) (x' := L[k].2) 8 rfl (by omega) hg ent_len rfl rfl ?_
    refine eqEnt ?_
    exact ⟨L.length - (k + 1), by omega, k + 1, by simp, by rw [wr64 (by omega) (by omega)]; omega, by omega, rfl, h1⟩
  refine ifF (by simp; omega) ?_
  subst hIt
  refine h1.nw (c := [_, _]) fun b2 w1 h1 => ?_
  have h1 := h1.blkSl (i := 10) (m := 2) (l := [l, kk]) (f := slv) (n := 1) rfl rfl rfl slv_len
  have h1 := h1.nil 22 1 slv
  simp only [List.cons_append, List.nil_append, List.set_cons_zero, List.set_cons_succ] at h1
  have h1 := pack2 (h1.sel5 0 7 9 11 10 (by decide) rfl rfl rfl rfl rfl) rfl rfl
  refine fill_spec (aL := []) (eL := [(l, L), (kk, L)]) h4 h1 Hp.rdSl Hp.rdSl hn (by simp) (by simp) (by simp) ?_ fun es2 w2 hl h1 => ?_
  · intro x hx
    simp only [List.mem_cons, List.not_mem_nil, or_false] at hx
    rcases hx with rfl | rfl
    · show L.length ≤ _; omega
    · show L.length ≤ _; omega
  · have h3 := back (rest := []) rfl rfl h1
    rw [List.append_nil] at h3
    simp only [List.length_nil, List.length_cons] at hl
    exact hK es2 w2 (by omega) h3

/-- What From answers. -/
def FromR (ty : TypeId) (most : Int) (gens free : List Int) (p : Option Addr) (e : Int) (R : List Thing) : Prop :=
  (fromM most gens free = none ∧ p = none ∧ e = 1 ∧ R = []) ∨ ∃ m b, fromM most gens free = some m ∧ p = some ⟨b, 0, none⟩ ∧ e = 0 ∧ R = [tPool ty b m]

theorem From_u (h : Hp S w0 w its) (i j : Nat) {most : Int} {g f : Sl} {u v : Thing} {gens free : List Int} (hi : (its[i]?).map Thing.holds = some u.holds) (hj : (its[j]?).map Thing.holds = some v.holds) (hu : Hp.Reads u g 1 iv gens) (hv : Hp.Reads v f 1 iv free) (hfl : free.length ≤ 1000000000) {K : Option Addr → Int → World → Prop}
    (hK : ∀ p e R w', FromR 60 most gens free p e R → Hp S w0 w' (its ++ R) → K p e w') : c14 most g f w K :=
  From_h h i j hi hj hu hv hfl (fun w' hn h => hK _ _ [] w' (.inl ⟨hn, rfl, rfl, rfl⟩) (by rw [List.append_nil]; exact h)) (fun m b w' hs h => hK _ _ _ w' (.inr ⟨m, b, hs, rfl, rfl, rfl⟩) h)

theorem RFrom_u (h : Hp S w0 w its) (i j : Nat) {most : Int} {g f : Sl} {u v : Thing} {gens free : List Int} (hi : (its[i]?).map Thing.holds = some u.holds) (hj : (its[j]?).map Thing.holds = some v.holds) (hu : Hp.Reads u g 1 iv gens) (hv : Hp.Reads v f 1 iv free) (hfl : free.length ≤ 1000000000) {K : Option Addr → Int → World → Prop}
    (hK : ∀ p e R w', FromR 63 most gens free p e R → Hp S w0 w' (its ++ R) → K p e w') : c32 most g f w K :=
  RFrom_h h i j hi hj hu hv hfl (fun w' hn h => hK _ _ [] w' (.inl ⟨hn, rfl, rfl, rfl⟩) (by rw [List.append_nil]; exact h)) (fun m b w' hs h => hK _ _ _ w' (.inr ⟨m, b, hs, rfl, rfl, rfl⟩) h)

theorem mk1_get {α : Type} (xs : List α) (v : α) {k : Nat} : (mk1 xs v k)[k]? = xs[k]? := by
  unfold mk1
  rw [List.getElem?_append_right (by simp), List.length_replicate, Nat.sub_self, List.getElem?_drop, Nat.add_zero]

theorem mk1_pre {α : Type} (xs ys : List α) (v : α) : mk1 (xs ++ ys) v 0 = xs ++ ys := rfl

theorem repl8 {k : Int} {n : Nat} {m : Nat} (hk : k = m + 8) (hn : n = m) : (List.replicate k.toNat (0 : Int)).drop n = List.replicate 8 0 := by
  subst hk; subst hn
  rw [List.drop_replicate]
  congr 1; omega

/-- The two loops of from: at k. -/
theorem eight_in {xs : List Int} {k : Nat} (h : k < xs.length) : (mk1 (xs ++ List.replicate 8 0) (-7) k)[k]? = some xs[k] := by
  rw [mk1_get, List.getElem?_append_left h, List.getElem?_eq_getElem h]
theorem eight_out {xs : List Int} {k : Nat} (h : xs.length ≤ k) (h2 : k < xs.length + 8) : (mk1 (xs ++ List.replicate 8 0) (-7) k)[k]? = some 0 := by
  rw [mk1_get, List.getElem?_append_right h, List.getElem?_replicate, if_pos (by omega)]

theorem own_R {ty : TypeId} {most : Int} {gens free : List Int} {p : Option Addr} {e : Int} {R : List Thing} (h : FromR ty most gens free p e R) : Hp.owns R = true := by
  rcases h with ⟨_, _, _, rfl⟩ | ⟨m, b, _, _, _, rfl⟩ <;> rfl

set_option maxHeartbeats 2000000 in
/-- from. -/
theorem from_spec (h : Hp S w0 w its) (i j : Nat) {most : Int} {g f : Sl} {u v : Thing} {gens free : List Int} (hi : (its[i]?).map Thing.holds = some u.holds) (hj : (its[j]?).map Thing.holds = some v.holds) (hu : Hp.Reads u g 1 iv gens) (hv : Hp.Reads v f 1 iv free) (hgl : gens.length ≤ 1000000000) (hfl : free.length ≤ 1000000000) {K : Option Addr → Option Addr → Bool → World → Prop}
    (hN : ∀ w', fromM most gens free = none → Hp S w0 w' its → K none none true w')
    (hK : ∀ m b b' w', fromM most gens free = some m → Hp S w0 w' (its ++ [tPool 60 b m, tPool 63 b' m]) → K (some ⟨b, 0, none⟩) (some ⟨b', 0, none⟩) true w') : c24 most g f w K := by
  refine c24_of ?_
  unfold f24
  have hgl' := h.lenU i hi hu
  have hfl' := h.lenU j hj hv
  have h1 := h.ro2 hi hj
  have hu' : Hp.Reads u.ro g 1 iv gens := ⟨hu.rd⟩
  have hv' : Hp.Reads v.ro f 1 iv free := ⟨hv.rd⟩
  have hw1 : IntKind.i64.wrap ((g.len : Int) + 8) = (g.len : Int) + 8 := wr64 (by omega) (by omega)
  have hw2 : IntKind.i64.wrap ((f.len : Int) + 8) = (f.len : Int) + 8 := wr64 (by omega) (by omega)
  rw [hw1, hw2]
  obtain ⟨inf, q1, q2, q3, q4⟩ := inf3
  refine h1.nw (c := [_, _]) fun ba w1 h1 => ?_
  refine h1.mks (f := iv) (n := 1) (x0 := 0) iv_len rfl (by omega) (Int.le_refl _) (by omega) (by omega) fun a w1 h1 hal hac _ => ?_
  refine h1.mks (f := iv) (n := 1) (x0 := 0) iv_len rfl (by omega) (Int.le_refl _) (by omega) (by omega) fun b w1 h1 hbl hbc _ => ?_
  have hal' : a.len = gens.length + 8 := by omega
  have hbl' : b.len = free.length + 8 := by omega
  refine h1.copy 3 0 (by omega) rfl (u := u.ro) rfl hu' iv_len und22 q1 q3 (by simp [iv, Value.oneCell']) (by omega) fun w1 h1 => ?_
  refine h1.copy 4 1 (by omega) rfl (u := v.ro) rfl hv' iv_len und22 q1 q3 (by simp [iv, Value.oneCell']) (by omega) fun w1 h1 => ?_
  rw [repl8 (m := gens.length) (by omega) (by omega), repl8 (m := free.length) (by omega) (by omega)] at h1
  simp only [List.cons_append, List.nil_append, List.set_cons_zero, List.set_cons_succ] at h1
  refine h1.dr fun w1 h1 => ?_
  have ra := Hp.rdSl (e := 3) (s := a) (n := 1) (f := iv) (l := gens ++ List.replicate 8 0)
  have rb := Hp.rdSl (e := 3) (s := b) (n := 1) (f := iv) (l := free ++ List.replicate 8 0)
  refine Hp.cutv (s := a) ra (by simp; omega) iv_len (Int.le_refl 0) (by omega) (by omega) (by omega) (by omega) fun s1 hs1 _ _ => ?_
  refine Hp.cutv (s := b) rb (by simp; omega) iv_len (Int.le_refl 0) (by omega) (by omega) (by omega) (by omega) fun s2 hs2 _ _ => ?_
  have ea : ((gens ++ List.replicate 8 (0 : Int)).take ((g.len : Int)).toNat).drop (0 : Int).toNat = gens := by
    show List.take _ _ = _
    rw [List.take_append_of_le_length (by omega), List.take_of_length_le (by omega)]
  have eb : ((free ++ List.replicate 8 (0 : Int)).take ((f.len : Int)).toNat).drop (0 : Int).toNat = free := by
    show List.take _ _ = _
    rw [List.take_append_of_le_length (by omega), List.take_of_length_le (by omega)]
  rw [ea] at hs1
  rw [eb] at hs2
  refine From_u h1 3 4 rfl rfl hs1 hs2 hfl fun p e R1 w1 hR1 h1 => ?_
  refine RFrom_u h1 0 1 rfl rfl hu' hv' hfl fun r e2 R2 w1 hR2 h1 => ?_
  have eok : cond (e == e2) (p.isNone == r.isNone) false = true := by
    rcases hR1 with ⟨n1, rfl, rfl, _⟩ | ⟨m1, b1, n1, rfl, rfl, _⟩ <;> rcases hR2 with ⟨n2, rfl, rfl, _⟩ | ⟨m2, b2, n2, rfl, rfl, _⟩
    · rfl
    · rw [n1] at n2; cases n2
    · rw [n1] at n2; cases n2
    · rfl
  rw [eok]
  simp only [List.cons_append, List.nil_append] at h1
  generalize hR : R1 ++ R2 = R at h1
  refine ⟨fun ok t mm w' => ∃ k : Nat, ok = true ∧ t = k ∧ k ≤ gens.length + 8 ∧ mm = gens.length + 8 - k ∧ Hp [] w w' (u.ro :: v.ro :: tBlk ba 46 [.pointer none, .pointer none] :: tSl a 3 1 iv (mk1 (gens ++ List.replicate 8 0) (-7) k) :: tSl b 3 1 iv (free ++ List.replicate 8 0) :: R), ⟨gens.length + 8, 0, rfl, rfl, by omega, rfl, by rw [mk1_pre]; exact h1⟩, ?_⟩
  rintro ok t mm w2 ⟨k, rfl, rfl, hk, rfl, h1⟩
  have hml : (mk1 (gens ++ List.replicate 8 (0 : Int)) (-7) k).length = gens.length + 8 := by rw [mk1_len _ _ (by simp; omega)]; simp
  by_cases hlt : k < gens.length + 8
  · refine ifT (by simp; omega) ?_
    refine h1.dr fun w1 h1 => ?_
    refine ifT rfl ?_
    have hst : (mk1 (gens ++ List.replicate 8 (0 : Int)) (-7) k).set ((k : Int)).toNat (-7) = mk1 (gens ++ List.replicate 8 0) (-7) (k + 1) := mk1_set _ _ (by simp; omega)
    by_cases hkg : k < gens.length
    · refine ifT (by simp; omega) ?_
      refine h1.ixld (k := .i .i64) (y := gens[k]) (x := gens[k]) 3 rfl (by omega) (eight_in hkg) iv_len rfl ?_
      refine h1.ixldU (k := .i .i64) (u := u.ro) (y := gens[k]) (x := gens[k]) 0 rfl hu' (by omega) (by simp [hkg]) iv_len rfl ?_
      refine ifT (by simp) ?_
      refine h1.ixst 3 rfl (by omega) (by rw [hml]; exact hlt) iv_len (y := -7) rfl rfl fun w1 h1 => ?_
      rw [hst] at h1
      exact ⟨gens.length + 8 - (k + 1), by omega, k + 1, rfl, by rw [wr64 (by omega) (by omega)]; omega, by omega, rfl, h1⟩
    · refine ifF (by simp; omega) ?_
      refine ifT (by simp; omega) ?_
      refine h1.ixld (k := .i .i64) (y := 0) (x := 0) 3 rfl (by omega) (eight_out (by omega) hlt) iv_len rfl ?_
      refine h1.ixst 3 rfl (by omega) (by rw [hml]; exact hlt) iv_len (y := -7) rfl rfl fun w1 h1 => ?_
      rw [hst] at h1
      exact ⟨gens.length + 8 - (k + 1), by omega, k + 1, rfl, by rw [wr64 (by omega) (by omega)]; omega, by omega, rfl, h1⟩
  refine ifF (by simp; omega) ?_
  generalize mk1 (gens ++ List.replicate 8 (0 : Int)) (-7) k = A at h1
  refine ⟨fun ok t mm w' => ∃ k : Nat, ok = true ∧ t = k ∧ k ≤ free.length + 8 ∧ mm = free.length + 8 - k ∧ Hp [] w w' (u.ro :: v.ro :: tBlk ba 46 [.pointer none, .pointer none] :: tSl a 3 1 iv A :: tSl b 3 1 iv (mk1 (free ++ List.replicate 8 0) (-7) k) :: R), ⟨free.length + 8, 0, rfl, rfl, by omega, rfl, by rw [mk1_pre]; exact h1⟩, ?_⟩
  rintro ok t mm w3 ⟨q, rfl, rfl, hq, rfl, h1⟩
  have hml2 : (mk1 (free ++ List.replicate 8 (0 : Int)) (-7) q).length = free.length + 8 := by rw [mk1_len _ _ (by simp; omega)]; simp
  by_cases hlq : q < free.length + 8
  · refine ifT (by simp; omega) ?_
    refine h1.dr fun w1 h1 => ?_
    refine ifT rfl ?_
    have hst : (mk1 (free ++ List.replicate 8 (0 : Int)) (-7) q).set ((q : Int)).toNat (-7) = mk1 (free ++ List.replicate 8 0) (-7) (q + 1) := mk1_set _ _ (by simp; omega)
    by_cases hkg : q < free.length
    · refine ifT (by simp; omega) ?_
      refine h1.ixld (k := .i .i64) (y := free[q]) (x := free[q]) 4 rfl (by omega) (eight_in hkg) iv_len rfl ?_
      refine h1.ixldU (k := .i .i64) (u := v.ro) (y := free[q]) (x := free[q]) 1 rfl hv' (by omega) (by simp [hkg]) iv_len rfl ?_
      refine ifT (by simp) ?_
      refine h1.ixst 4 rfl (by omega) (by rw [hml2]; exact hlq) iv_len (y := -7) rfl rfl fun w1 h1 => ?_
      rw [hst] at h1
      exact ⟨free.length + 8 - (q + 1), by omega, q + 1, rfl, by rw [wr64 (by omega) (by omega)]; omega, by omega, rfl, h1⟩
    · refine ifF (by simp; omega) ?_
      refine ifT (by simp; omega) ?_
      refine h1.ixld (k := .i .i64) (y := 0) (x := 0) 4 rfl (by omega) (eight_out (by omega) hlq) iv_len rfl ?_
      refine h1.ixst 4 rfl (by omega) (by rw [hml2]; exact hlq) iv_len (y := -7) rfl rfl fun w1 h1 => ?_
      rw [hst] at h1
      exact ⟨free.length + 8 - (q + 1), by omega, q + 1, rfl, by rw [wr64 (by omega) (by omega)]; omega, by omega, rfl, h1⟩
  refine ifF (by simp; omega) ?_
  refine h1.st0 2 rfl (by simp) rfl fun w1 h1 => ?_
  refine h1.st 2 rfl (by simp) rfl fun w1 h1 => ?_
  refine h1.ld0 (k := .p) (x := p) 2 rfl rfl ?_
  refine h1.ld (k := .p) (x := r) 2 rfl rfl ?_
  rcases hR1 with ⟨n1, rfl, rfl, rfl⟩ | ⟨m1, b1, n1, rfl, rfl, rfl⟩ <;> rcases hR2 with ⟨n2, rfl, rfl, rfl⟩ | ⟨m2, b2, n2, rfl, rfl, rfl⟩
  · exact hN _ n1 (h.keep h1.fr)
  · rw [n1] at n2; cases n2
  · rw [n1] at n2; cases n2
  · rw [n1] at n2
    cases n2
    subst hR
    exact hK _ _ _ _ n1 (h.r0 (rest := [_, _]) rfl (h1.sel2 5 6 (by omega) rfl rfl))
end
end Go.Proofs.Ytmlkjbolccapkaa.F
