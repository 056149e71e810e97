/-
  Part 6 of the proof: CodeDecodes is true of the given program where what it reads is of bulk at most 1048576: its row, and the card tied to the program's text.
-/
import Derived.Test.YtmfgofbcnlkolaaGreatDoorPkE
set_option linter.unusedSimpArgs false
set_option linter.unusedVariables false
set_option maxRecDepth 100000
section
namespace Go.Proofs.YtmfgofbcnlkolaaGreatDoor.F
open Go Go.Den Go.Proofs
section
variable {S : List Nat} {w0 w : World} {its rest : List Thing}
set_option maxHeartbeats 4000000 in
theorem instrs_n (h : Hp S w0 w its) (i : Nat) {l : Sl} {es : List SC} (hi : its[i]? = some (tCs l es)) (hn : es.length ≤ 1000000000) (hlen : ∀ x ∈ es, x.2.length ≤ 8000000000000) {K : Bool → World → Prop}
  (hK : ∀ w' t, Hp S w0 w' (its.set i t) → K true w') : c30 l w K := by
 refine c30_of ?_
 unfold f30
 obtain ⟨inf, i1, i2, i3, i4⟩ := inf23
 obtain ⟨inf', j1, j2, j3, j4⟩ := inf28
 obtain ⟨O, h1, back⟩ := h.f1 hi rfl
 have fin : ∀ {w' : World} {r : List Thing} {t : Thing}, t.own = true → Hp.owns r = true → Hp O w w' (t :: r) → K true w' := fun {w' r t} ho hr h => hK w' t (back ho hr h).front
 clear h hK back
 have h := h1
 clear h1
 obtain ⟨mk, hmk⟩ : ∃ mk : Nat → Ins, mk = fun i : Nat => ((-1000 - (i : Int), 0) : Ins) := ⟨_, rfl⟩
 have hll := h.nest_see (e := 28) (n := 1) (cells := scv) (sub := subC) (vis := id) (s := l) (l := es) 0 rfl
 have hll1 := hll.1
 have hN : es.length ≤ 1000000000 := hn
 refine ⟨fun i m w' => ∃ j : Nat, i = j ∧ j ≤ es.length ∧ m = es.length - j ∧ Hp O w w' [tCs l (mkd mk j es)], ⟨_, 0, rfl, by omega, rfl, by rw [mkd_zero]; exact h⟩, ?_⟩
 clear h
 rintro i m w1 ⟨j, rfl, hj, rfl, h⟩
 by_cases hend : j = es.length
 rotate_left
 ·obtain ⟨x, hx⟩ : ∃ x, es[j]? = some x := ⟨es[j]'(by omega), List.getElem?_eq_getElem (by omega)⟩
  have hxl := hlen x (List.mem_of_getElem? hx)
  refine ifT (by simp; omega) ?_
  have hjl : j < (mkd mk j es).length := by rw [mkd_len]; omega
  refine ⟨fun k m w' => ∃ q : Nat, k = q ∧ q ≤ x.2.length ∧ m = x.2.length - q ∧ Hp O w w' [tCs l ((mkd mk j es).set j (x.1, List.replicate q (mk j) ++ x.2.drop q))], ⟨_, 0, rfl, by omega, rfl, ?_⟩, ?_⟩
  ·rw [List.replicate_zero, List.nil_append, List.drop_zero, Hp.set_same' (mkd_at hx)]; exact h
  clear h
  rintro k m w2 ⟨q, rfl, hq, rfl, h⟩
  obtain ⟨z, hz⟩ : ∃ z : SC, z = (x.1, List.replicate q (mk j) ++ x.2.drop q) := ⟨_, rfl⟩
  rw [← hz] at h
  have hz1 : z.1 = x.1 := by rw [hz]
  have hz2 : z.2.length = x.2.length := by rw [hz]; simp; omega
  have hat : ((mkd mk j es).set j z)[j]? = some z := by rw [List.getElem?_set_self hjl]
  have hrd : Hp.Reads (tCs l ((mkd mk j es).set j z)) z.1 2 insv z.2 := Hp.nestSub (List.mem_of_getElem? hat) Hp.rdSl
  have hln := h.lenU (u := tCs l ((mkd mk j es).set j z)) 0 rfl hrd
  refine h.ixldU (k := .sl) (u := tCs l ((mkd mk j es).set j z)) (y := z) (x := z.1) 0 rfl Hp.nestRd (by omega) (by rw [Int.toNat_natCast]; exact hat) (fun _ => rfl) rfl ?_
  by_cases hend2 : q = x.2.length
  ·refine ifF (by simp; omega) ?_
   have e : z = mkE mk j x := by rw [hz, hend2, List.drop_of_length_le (Nat.le_refl _)]; simp [mkE]
   rw [e, mkd_set hx] at h
   exact ⟨es.length - (j + 1), by omega, j + 1, by rw [wr64 (by omega) (by omega)]; omega, by omega, rfl, h⟩
  refine ifT (by simp; omega) ?_
  refine h.ixldU (k := .sl) (u := tCs l ((mkd mk j es).set j z)) (y := z) (x := z.1) 0 rfl Hp.nestRd (by omega) (by rw [Int.toNat_natCast]; exact hat) (fun _ => rfl) rfl ?_
  have h := h.hole (e := 28) (n := 1) (cells := scv) (sub := subC) (s := l) (l := (mkd mk j es).set j z) (i := 0) (k := j) (z := z) rfl hat rfl
  have h : Hp O w w2 [tHole 28 1 scv subC l ((mkd mk j es).set j z) j, subC z] := h
  have ew : IntKind.i64.wrap ((-1000) - (j : Int)) = -1000 - (j : Int) := wr64 (by omega) (by omega)
  have hmj : mk j = (-1000 - (j : Int), 0) := by rw [hmk]
  refine h.ixst2 1 (y := mk j) rfl (by omega) (by rw [Int.toNat_natCast]; omega) insv_len (by rw [ew, hmj]) rfl rfl fun w4 h => ?_
  have e3 : z.2.set q (mk j) = List.replicate (q + 1) (mk j) ++ x.2.drop (q + 1) := by
   obtain ⟨c, hc⟩ : ∃ c, x.2[q]? = some c := ⟨x.2[q]'(by omega), List.getElem?_eq_getElem (by omega)⟩
   rw [hz]
   show (List.replicate q (mk j) ++ x.2.drop q).set q (mk j) = _
   rw [drop_cons hc, List.set_append_right _ _ (by simp)]
   have e4 : q - (List.replicate q (mk j)).length = 0 := by simp
   rw [e4, List.set_cons_zero, List.replicate_succ']
   simp
  rw [Int.toNat_natCast, e3] at h
  obtain ⟨z', hz'⟩ : ∃ z' : SC, z' = (x.1, List.replicate (q + 1) (mk j) ++ x.2.drop (q + 1)) := ⟨_, rfl⟩
  have h : Hp O w w4 [tHole 28 1 scv subC l ((mkd mk j es).set j z) j, subC z'] := by rw [hz1] at h; rw [hz']; exact h
  have h := h.unhole (e := 28) (n := 1) (cells := scv) (sub := subC) (s := l) (l := (mkd mk j es).set j z) (i := 0) (m := 1) (k := j) (z := z) (z' := z') (by decide) rfl rfl hat (by show slv z'.1 = slv z.1; rw [hz', hz1]) rfl
  rw [List.set_set] at h
  have h : Hp O w w4 ([tCs l ((mkd mk j es).set j z')] ++ [tEmp]) := h
  have h := h.front
  rw [hz'] at h
  exact ⟨x.2.length - (q + 1), by omega, q + 1, by rw [wr64 (by omega) (by omega)]; omega, by omega, rfl, h⟩
 refine ifF (by simp; omega) ?_
 subst hend
 obtain ⟨M, hM⟩ : ∃ M, M = mkd mk es.length es := ⟨_, rfl⟩
 rw [← hM] at h
 have hMl : M.length = es.length := by rw [hM, mkd_len]
 obtain ⟨SS, hSS⟩ : ∃ SS : List Sl, SS = es.map (·.1) := ⟨_, rfl⟩
 have hSl : SS.length = es.length := by rw [hSS, List.length_map]
 have hMat : ∀ {i : Nat} {x : SC}, es[i]? = some x → M[i]? = some (mkE mk i x) ∧ SS[i]? = some x.1 := fun {i x} hx => ⟨by rw [hM]; exact mkd_all hx, by rw [hSS, List.getElem?_map, hx]; rfl⟩
 have hdl : ∀ x ∈ es, x.2.length = x.1.len := fun x hx => by
  obtain ⟨i, hi⟩ := List.mem_iff_getElem?.1 hx
  have hrd : Hp.Reads (tCs l M) x.1 2 insv (mkE mk i x).2 := Hp.nestSub (sub := subC) (List.mem_of_getElem? (hMat hi).1) Hp.rdSl
  have := h.lenU (u := tCs l M) 0 rfl hrd
  rw [← this]
  unfold mkE
  rw [List.length_replicate]
 obtain ⟨xs, hxs, h⟩ := h.nest_open (e := 28) (n := 1) (cells := scv) (sub := subC) (vis := id) (s := l) (l := M) (i := 0) rfl
 rw [List.map_id] at hxs
 subst hxs
 have h : Hp O w w1 [tSl l 28 1 scv xs, tAll (xs.map subC)] := h
 have h := h.weak (i := 0) (t' := tSl l 28 1 slv SS) rfl rfl (fun w O h => SlF.conv (by
  have e1 : xs.map scv = (xs.map (·.1)).map slv := by rw [List.map_map]; rfl
  rw [e1, hM, mkd_fst, hSS]) h) rfl
 have h := h.bagP_nil 2 insv (P := Mkd mk SS [] 0) (fun s y ⟨i, hi, _⟩ => by omega)
 have h : Hp O w w1 [tSl l 28 1 slv SS, tAll (xs.map subC), tBagP 2 insv (Mkd mk SS [] 0)] := h
 refine ⟨fun l2 i m w' => ∃ (k : Nat) (G : List Sl), i = k ∧ k ≤ es.length ∧ m = es.length - k ∧ G.length = k ∧ Hp O w w' [tSl l2 28 1 slv (SS ++ G), tAll ((xs.drop k).map subC), tBagP 2 insv (Mkd mk SS G k)], ⟨_, 0, [], rfl, by omega, rfl, rfl, by rw [List.append_nil, List.drop_zero]; exact h⟩, ?_⟩
 clear h
 rintro l2 i m w2 ⟨k, G, rfl, hk, rfl, hG, h⟩
 have hl2 := h.len (s := l2) (e := 28) (n := 1) (f := slv) (l := SS ++ G) 0 rfl
 rw [List.length_append, hSl, hG] at hl2
 by_cases hend : k = es.length
 rotate_left
 ·obtain ⟨x, hx⟩ : ∃ x, es[k]? = some x := ⟨es[k]'(by omega), List.getElem?_eq_getElem (by omega)⟩
  have hxl := hlen x (List.mem_of_getElem? hx)
  have hxd := hdl x (List.mem_of_getElem? hx)
  obtain ⟨hx1, hx2⟩ := hMat hx
  refine ifT (by simp; omega) ?_
  refine h.ixldU (k := .sl) (u := tSl l2 28 1 slv (SS ++ G)) (y := x.1) (x := x.1) 0 rfl Hp.rdSl (by omega) (by rw [Int.toNat_natCast, List.getElem?_append_left (by omega)]; exact hx2) (fun _ => rfl) rfl ?_
  rw [drop_cons hx1, List.map_cons] at h
  have h := h.pick (i := 1) (k := 0) (t := subC (mkE mk k x)) rfl rfl rfl
  have h := h.allDel (i := 1) 0 rfl
  have h : Hp O w w2 [tSl l2 28 1 slv (SS ++ G), tAll ((xs.drop (k + 1)).map subC), tBagP 2 insv (Mkd mk SS G k), tSl x.1 23 2 insv (List.replicate x.2.length (mk k))] := h
  have h := h.lc_start (j := 3) (e := 23) (n := 2) (f := insv) (l := x.1) (y := mk k) (p := x.2.length) rfl
  have ew : IntKind.i64.wrap ((-1000) - (k : Int)) = -1000 - (k : Int) := wr64 (by omega) (by omega)
  have hmj : mk k = (-1000 - (k : Int), 0) := by rw [hmk]
  refine ⟨fun c t m w' => ∃ q : Nat, t = q ∧ q ≤ 100 ∧ m = 100 - q ∧ Hp O w w' [tSl l2 28 1 slv (SS ++ G), tAll ((xs.drop (k + 1)).map subC), tBagP 2 insv (Mkd mk SS G k), tLC 23 2 insv x.1 c (mk k) x.2.length (x.2.length + q)], ⟨_, 0, rfl, by omega, rfl, h⟩, ?_⟩
  clear h
  rintro c t m w3 ⟨q, rfl, hq, rfl, h⟩
  by_cases hend2 : q = 100
  rotate_left
  ·refine ifT (by simp; omega) ?_
   refine h.lc_app (c' := 1) 3 (mk k) rfl insv_len und28 i1 i3 i2 rfl (by rw [ew, hmj]) (by simp [Value.oneCell']) (by rw [i4]; omega) (by omega) fun c2 w4 h => ?_
   exact ⟨100 - (q + 1), by omega, q + 1, by rw [wr64 (by omega) (by omega)]; omega, by omega, rfl, h⟩
  refine ifF (by simp; omega) ?_
  subst hend2
  have hcl := (h.lc_len 3 rfl).1
  have h := h.lc_done (j := 3) rfl
  have h : Hp O w w3 [tSl l2 28 1 slv (SS ++ G), tAll ((xs.drop (k + 1)).map subC), tBagP 2 insv (Mkd mk SS G k), tShare (tRd x.1 2 insv (List.replicate x.1.len (mk k))) (tRd c 2 insv (List.replicate c.len (mk k)))] := by
   rw [hcl, ← hxd]; exact h
  refine h.nwapp (c' := 1) 0 c (s := l2) (l := SS ++ G) rfl (fun _ => rfl) und50 j1 j3 j2 rfl rfl (by simp [Value.oneCell']) (by rw [j4]; omega) (by omega) fun l3 w4 h _ _ => ?_
  have h := h.bagP_join (i := 2) (j := 3) (by decide) (P' := Mkd mk SS (G ++ [c]) (k + 1)) (s := x.1) (c := c) (y := mk k) rfl rfl (by omega) (by omega) (fun s' y' ⟨i, hi, hor, hy⟩ => by
   by_cases hik : i = k
   ·subst hik
    rcases hor with hs | hs
    ·rw [hx2] at hs
     exact .inr (.inl ⟨(Option.some.inj hs).symm, hy⟩)
    ·rw [List.getElem?_append_right (by omega), hG, Nat.sub_self] at hs
     exact .inr (.inr ⟨(Option.some.inj hs).symm, hy⟩)
   ·refine .inl ⟨i, by omega, ?_, hy⟩
    rcases hor with hs | hs
    ·exact .inl hs
    ·rw [List.getElem?_append_left (by omega)] at hs
     exact .inr hs)
  rw [List.append_assoc] at h
  have h : Hp O w w4 ([tSl l3 28 1 slv (SS ++ (G ++ [c])), tAll ((xs.drop (k + 1)).map subC), tBagP 2 insv (Mkd mk SS (G ++ [c]) (k + 1))] ++ [tEmp]) := h
  exact ⟨es.length - (k + 1), by omega, k + 1, G ++ [c], by rw [wr64 (by omega) (by omega)]; omega, by omega, rfl, by rw [List.length_append, hG]; rfl, h.front⟩
 refine ifF (by simp; omega) ?_
 subst hend
 refine ⟨fun i m w' => ∃ j : Nat, i = j ∧ j ≤ 2 * es.length ∧ m = 2 * es.length - j ∧ Hp O w w' [tSl l2 28 1 slv (SS ++ G), tAll ((xs.drop es.length).map subC), tBagP 2 insv (Mkd mk SS G es.length)], ⟨_, 0, rfl, by omega, rfl, h⟩, ?_⟩
 clear h
 rintro i m w3 ⟨j, rfl, hj, rfl, h⟩
 by_cases hend : j = 2 * es.length
 ·exact ifF (by simp; omega) (fin (r := []) rfl rfl (h.trim 1))
 obtain ⟨s, hs⟩ : ∃ s, (SS ++ G)[j]? = some s := ⟨(SS ++ G)[j]'(by rw [List.length_append]; omega), List.getElem?_eq_getElem _⟩
 have hP : Mkd mk SS G es.length s (mk (j % es.length)) := by
  by_cases hjn : j < es.length
  ·rw [List.getElem?_append_left (by omega)] at hs
   exact ⟨j, hjn, .inl hs, by rw [Nat.mod_eq_of_lt hjn]⟩
  ·rw [List.getElem?_append_right (by omega), hSl] at hs
   refine ⟨j - es.length, by omega, .inr hs, ?_⟩
   rw [Nat.mod_eq_sub_mod (by omega), Nat.mod_eq_of_lt (by omega)]
 have hsl := h.bagP_len 2 rfl hP
 refine ifT (by simp; omega) ?_
 refine ⟨fun k m w' => ∃ q : Nat, k = q ∧ q ≤ s.len ∧ m = s.len - q ∧ Hp O w w' [tSl l2 28 1 slv (SS ++ G), tAll ((xs.drop es.length).map subC), tBagP 2 insv (Mkd mk SS G es.length)], ⟨_, 0, rfl, by omega, rfl, h⟩, ?_⟩
 clear h
 rintro k m w4 ⟨q, rfl, hq, rfl, h⟩
 refine h.ixldU (k := .sl) (u := tSl l2 28 1 slv (SS ++ G)) (y := s) (x := s) 0 rfl Hp.rdSl (by omega) (by rw [Int.toNat_natCast]; exact hs) (fun _ => rfl) rfl ?_
 by_cases hend2 : q = s.len
 ·exact ifF (by simp; omega) ⟨2 * es.length - (j + 1), by omega, j + 1, by rw [wr64 (by omega) (by omega)]; omega, by omega, rfl, h⟩
 ·refine ifT (by simp; omega) ?_
  refine h.dr fun w4 h => ?_
  refine h.ixldU (k := .sl) (u := tSl l2 28 1 slv (SS ++ G)) (y := s) (x := s) 0 rfl Hp.rdSl (by omega) (by rw [Int.toNat_natCast]; exact hs) (fun _ => rfl) rfl ?_
  have hrd : Hp.Reads (tBagP 2 insv (Mkd mk SS G es.length)) s 2 insv (List.replicate s.len (mk (j % es.length))) := Hp.bagP_rd hP
  have hyq : (List.replicate s.len (mk (j % es.length)))[q]? = some (mk (j % es.length)) := by rw [List.getElem?_replicate, if_pos (by omega)]
  obtain ⟨O', hO'⟩ := h.see (i := 2) rfl
  obtain ⟨o', hR'⟩ := hrd.rd hO'
  refine SlR.ix insv_len hR' (by omega) (x := mk (j % es.length)) (by rw [Int.toNat_natCast]; exact hyq) fun ad hc => ?_
  refine ldR0 (k := .i .i64) (x := (mk (j % es.length)).1) (hc 0 (by omega)) rfl ?_
  refine ldR (k := .i .i64) (x := (mk (j % es.length)).2) (hc 1 (by omega)) rfl ?_
  refine ⟨by omega, ?_⟩
  have htm : Int.tmod (j : Int) (l.len : Int) = ((j % es.length : Nat) : Int) := by
   rw [Int.tmod_eq_emod_of_nonneg (by omega)]
   rw [← hll1]; exact (Int.natCast_emod _ _).symm
  have hjm : j % es.length < es.length := Nat.mod_lt _ (by omega)
  have hmk2 : (mk (j % es.length)).2 = 0 := by rw [hmk]
  have ewm : IntKind.i64.wrap ((-1000) - (Int.tmod (j : Int) (l.len : Int))) = (mk (j % es.length)).1 := by
   rw [hmk, htm]
   exact wr64 (by omega) (by omega)
  refine insNe (ifF (by rw [ewm, hmk2]; simp) ?_)
  exact ⟨s.len - (q + 1), by omega, q + 1, by rw [wr64 (by omega) (by omega)]; omega, by omega, rfl, h⟩
end
theorem tAll_split : ∀ {ts us : List Thing} {w : World} {O : List Nat}, (tAll (ts ++ us)).holds w O → ∃ O1 O2, (tAll ts).holds w O1 ∧ (tAll us).holds w O2 ∧ (∀ k ∈ O1, k ∉ O2) ∧ ∀ k, k ∈ O ↔ k ∈ O1 ∨ k ∈ O2
 | [], us, w, O, h => ⟨[], O, rfl, h, by simp, by simp⟩
 | t :: ts, us, w, O, ⟨P1, P2, g1, g2, g3, g4⟩ => by
  obtain ⟨Q1, Q2, q1, q2, q3, q4⟩ := tAll_split g2
  refine ⟨P1 ++ Q1, Q2, ⟨P1, Q1, g1, q1, fun k hk hk' => g3 k hk ((q4 k).2 (.inl hk')), fun k => List.mem_append⟩, q2, fun k hk hk' => ?_, fun k => ?_⟩
  ·rcases List.mem_append.1 hk with hk | hk
   ·exact g3 k hk ((q4 k).2 (.inr hk'))
   ·exact q3 k hk hk'
  ·rw [g4, q4, List.mem_append, or_assoc]
def cX (x : SV) : SC := (x.run.sl, x.run.code)
def cY (y : RV) : SC := (y.sl, y.code)
theorem subs_split : ∀ {xs : List SV} {w : World} {O : List Nat}, (tAll (xs.map subY)).holds w O → (tStar (tAll ((xs.flatMap SV.sls).map tS)) (tAll ((xs.map cX).map subC))).holds w O
 | [], w, O, h => ⟨[], O, rfl, h, by simp, by simp⟩
 | x :: xs, w, O, ⟨P1, P2, g1, g2, g3, g4⟩ => by
  obtain ⟨A1, A2, a1, a2, a3, a4⟩ := tAll_split (ts := x.sls.map tS) (us := [subI x.run]) g1
  obtain ⟨B1, B2, b1, b2, b3, b4⟩ := subs_split g2
  have d : ∀ k, k ∈ P1 → k ∈ P2 → False := fun k h1 h2 => g3 k h1 h2
  have c1 := tAll_append a1 b1 (fun k hk hk' => d k ((a4 k).2 (.inl hk)) ((b4 k).2 (.inl hk')))
  have c2 := tAll_append a2 b2 (fun k hk hk' => d k ((a4 k).2 (.inr hk)) ((b4 k).2 (.inr hk')))
  refine ⟨A1 ++ B1, A2 ++ B2, ?_, c2, fun k hk hk' => ?_, fun k => ?_⟩
  ·rw [List.flatMap_cons, List.map_append]; exact c1
  ·rcases List.mem_append.1 hk with hk | hk
   ·rcases List.mem_append.1 hk' with hk' | hk'
    ·exact a3 k hk hk'
    ·exact d k ((a4 k).2 (.inl hk)) ((b4 k).2 (.inr hk'))
   ·rcases List.mem_append.1 hk' with hk' | hk'
    ·exact d k ((a4 k).2 (.inr hk')) ((b4 k).2 (.inl hk))
    ·exact b3 k hk hk'
  ·rw [g4, a4, b4, List.mem_append, List.mem_append]
   constructor
   ·rintro ((h | h) | (h | h))
    ·exact .inl (.inl h)
    ·exact .inr (.inl h)
    ·exact .inl (.inr h)
    ·exact .inr (.inr h)
   ·rintro ((h | h) | (h | h))
    ·exact .inl (.inl h)
    ·exact .inr (.inl h)
    ·exact .inl (.inr h)
    ·exact .inr (.inr h)
def mine : ByteArray := ⟨#[109, 105, 110, 101]⟩
def mineR : RV := ⟨mine, 0, 0, ⟨none, 0, 0⟩, []⟩
def mineS : SV := ⟨⟨none, 0, 0⟩, ⟨none, 0, 0⟩, ⟨none, 0, 0⟩, ⟨none, 0, 0⟩, [], [], [], [], mineR⟩
def ovr {α : Type} (m : α) (j : Nat) (l : List α) : List α := List.replicate j m ++ l.drop j
theorem ovr_set {α : Type} {m : α} {j : Nat} {l : List α} (h : j < l.length) : (ovr m j l).set j m = ovr m (j + 1) l := by
 unfold ovr
 rw [List.set_append_right _ _ (by simp)]
 have e : j - (List.replicate j m).length = 0 := by simp
 rw [e, List.drop_eq_getElem_cons h, List.set_cons_zero, List.replicate_succ']
 simp
theorem ovr_len {α : Type} {m : α} {j : Nat} {l : List α} (h : j ≤ l.length) : (ovr m j l).length = l.length := by unfold ovr; simp; omega
theorem ovr_all {α : Type} {m : α} {l : List α} : ovr m l.length l = List.replicate l.length m := by unfold ovr; simp
section
variable {S : List Nat} {w0 w : World} {its rest : List Thing}
set_option maxHeartbeats 8000000 in
theorem own_spec (h : Hp S w0 w its) (i j : Nat) (hij : i ≠ j) {s1 s2 : Sl} {sys : List SY} {fns : List RT} (hi : its[i]? = some (tSyN s1 sys)) (hj : its[j]? = some (tFnN s2 fns)) (hm : mayM ⟨sys, fns⟩ = true) {K : Bool → World → Prop}
  (hK : ∀ w' t t', Hp S w0 w' ((its.set i t).set j t') → K true w') : c19 s1 s2 w K := by
 refine c19_of ?_
 unfold f19
 obtain ⟨inf, i1, i2, i3, i4⟩ := inf52
 obtain ⟨inf', j1, j2, j3, j4⟩ := inf28
 obtain ⟨inf2, k1, k2, k3, k4⟩ := inf54
 obtain ⟨inf3, m1, m2, m3, m4⟩ := inf30
 obtain ⟨b1, b2, b3, b4, b5⟩ := mayM_iff.1 hm
 unfold PG.rts at b5
 rw [sum_append] at b5
 dsimp only at b1 b2 b3 b4 b5
 obtain ⟨O, h1, back⟩ := h.f2 hij hi hj rfl rfl
 have fin : ∀ {w' : World} {t u : Thing} {r : List Thing}, t.own = true → u.own = true → Hp O w w' (t :: u :: r) → K true w' := fun {w' t u r} ht hu h => by
  have := back (rest := []) ht hu rfl (h.trim 2)
  rw [List.append_nil] at this
  exact hK w' t u this
 clear h hK back
 have h := h1
 clear h1
 obtain ⟨xs, hxs, h⟩ := h.nest_open (i := 0) (e := 54) (n := 8) (cells := syv) (sub := subY) (vis := SV.m) (s := s1) (l := sys) rfl
 obtain ⟨ys, hys, h⟩ := h.nest_open (i := 1) (e := 30) (n := 4) (cells := rtv) (sub := subI) (vis := RV.r) (s := s2) (l := fns) rfl
 have h : Hp O w w [tSl s1 54 8 syv xs, tSl s2 30 4 rtv ys, tAll (xs.map subY), tAll (ys.map subI)] := h
 have hxl : xs.length = sys.length := by rw [← hxs, List.length_map]
 have hyl : ys.length = fns.length := by rw [← hys, List.length_map]
 obtain ⟨es1, hes1⟩ : ∃ es1, es1 = xs.flatMap SV.sls := ⟨_, rfl⟩
 obtain ⟨es2, hes2⟩ : ∃ es2, es2 = xs.map cX ++ ys.map cY := ⟨_, rfl⟩
 have h := h.weak (i := 2) rfl (tAll_own _) (t' := tStar (tAll (es1.map tS)) (tAll ((xs.map cX).map subC))) (fun w O hO => by rw [hes1]; exact subs_split hO) rfl
 have h := h.split (i := 2) rfl (tAll_own _) (tAll_own _)
 have h := h.join (i := 4) (j := 3) (a := tAll ((xs.map cX).map subC)) (b := tAll (ys.map subI)) (c := tAll (es2.map subC)) (by decide) rfl rfl (tAll_own _) (tAll_own _) (tAll_own _) (fun w O1 O2 g1 g2 g3 => by
  rw [hes2, List.map_append]
  exact tAll_append g1 (by rw [List.map_map]; exact g2) g3)
 have h := h.selL [0, 1, 2, 4] (by decide) (ts := [tSl s1 54 8 syv xs, tSl s2 30 4 rtv ys, tAll (es1.map tS), tAll (es2.map subC)]) rfl
 have hsb : ∀ x ∈ xs, x.run.code.length ≤ 2000 ∧ ∀ t ∈ x.sls, t.2.length ≤ 12 := fun x hx => by
  have hx' : x.m ∈ sys := by rw [← hxs]; exact List.mem_map.2 ⟨x, hx, rfl⟩
  have e1 := code_le (List.mem_map.2 ⟨x.m, hx', rfl⟩ : x.m.run ∈ sys.map SY.run)
  refine ⟨by have : x.m.run.code.length = x.run.code.length := rfl; omega, fun t ht => ?_⟩
  exact risesM_len ((syOk_iff.1 (b3 _ hx')).1 t.2 (by rw [SV.sets_eq]; exact List.mem_map.2 ⟨t, ht, rfl⟩))
 have hfb : ∀ y ∈ ys, y.code.length ≤ 2000 := fun y hy => by
  have hy' : y.r ∈ fns := by rw [← hys]; exact List.mem_map.2 ⟨y, hy, rfl⟩
  have e1 := code_le hy'
  have : y.r.code.length = y.code.length := rfl
  omega
 have hsl4 : ∀ k : Nat, ((xs.take k).flatMap SV.sls).length = 4 * (xs.take k).length := fun k => by
  induction xs.take k with
  | nil => rfl
  | cons x l ih => rw [List.flatMap_cons, List.length_append, ih, List.length_cons]; simp [SV.sls]; omega
 refine h.nw fun pb w1 h => ?_
 have h := (h.nil 52 1 slv).nil 28 1 slv
 have hx0 := h.len (s := s1) (e := 54) (n := 8) (f := syv) (l := xs) 0 rfl
 have hy0 := h.len (s := s2) (e := 30) (n := 4) (f := rtv) (l := ys) 1 rfl
 obtain ⟨LL, hLL⟩ : ∃ LL : List SV → List RV → Sl → List Sl → Sl → List Sl → List Thing, LL = fun xs ys a la b lb => [tSl s1 54 8 syv xs, tSl s2 30 4 rtv ys, tAll (es1.map tS), tAll (es2.map subC), tBlk pb 37 [.slice s1.a s1.len s1.cap, .slice s2.a s2.len s2.cap], tSl a 52 1 slv la, tSl b 28 1 slv lb] := ⟨_, rfl⟩
 have h : Hp O w w1 (LL xs ys ⟨none, 0, 0⟩ [] ⟨none, 0, 0⟩ []) := by rw [hLL]; exact h
 refine ⟨fun sets codes i m w' => ∃ k : Nat, i = k ∧ k ≤ xs.length ∧ m = xs.length - k ∧ Hp O w w' (LL xs ys sets (((xs.take k).flatMap SV.sls).map (·.1)) codes ((xs.take k).map fun x => x.run.sl)), ⟨_, 0, rfl, by omega, rfl, h⟩, ?_⟩
 clear h
 rintro sets codes i m w2 ⟨k, rfl, hk, rfl, h⟩
 refine h.ld0 (k := .sl) (x := s1) 4 (by rw [hLL]; rfl) rfl ?_
 by_cases hend : k = xs.length
 rotate_left
 ·obtain ⟨x, hx⟩ : ∃ x, xs[k]? = some x := ⟨xs[k]'(by omega), List.getElem?_eq_getElem (by omega)⟩
  refine ifT (by simp; omega) ?_
  refine h.ld0 (k := .sl) (x := s1) 4 (by rw [hLL]; rfl) rfl ?_
  refine h.ixr 0 (s := s1) (l := xs) (f := syv) (n := 8) (e := 54) (by rw [hLL]; rfl) (by omega) (y := x) (by rw [Int.toNat_natCast]; exact hx) syv_len fun ad hc => ?_
  refine ldR0 (k := .sl) (x := x.a) (hc 0 (by decide)) rfl (ldR (k := .sl) (x := x.b) (hc 1 (by decide)) rfl (ldR (k := .sl) (x := x.c) (hc 2 (by decide)) rfl (ldR (k := .sl) (x := x.d) (hc 3 (by decide)) rfl (ldR (k := .s) (x := x.run.nm) (hc 4 (by decide)) rfl (ldR (k := .i .i64) (x := x.run.pa) (hc 5 (by decide)) rfl (ldR (k := .i .i64) (x := x.run.lo) (hc 6 (by decide)) rfl (ldR (k := .sl) (x := x.run.sl) (hc 7 (by decide)) rfl ?_)))))))
  clear hc
  refine sys_copy h x fun sb w3 h => ?_
  rw [hLL] at h
  refine h.ld0 (k := .sl) (x := x.a) 7 rfl rfl ?_
  refine h.ld (n := 1) (k := .sl) (x := x.b) 7 rfl rfl ?_
  refine h.ld (n := 2) (k := .sl) (x := x.c) 7 rfl rfl ?_
  refine h.ld (n := 3) (k := .sl) (x := x.d) 7 rfl rfl ?_
  have hwl := h.len (s := sets) (e := 52) (n := 1) (f := slv) (l := ((xs.take k).flatMap SV.sls).map (·.1)) 5 rfl
  rw [List.length_map, hsl4, List.length_take] at hwl
  refine h.nwS (l := [x.a, x.b, x.c, x.d]) (f := slv) (n := 1) (m := 4) rfl rfl (fun _ => rfl) fun wb w3 h => ?_
  refine h.appS 5 8 (s := sets) (s2 := ⟨some ⟨wb, 0, none⟩, 4, 4⟩) (news := [x.a, x.b, x.c, x.d]) rfl (u := tSl ⟨some ⟨wb, 0, none⟩, 4, 4⟩ 52 1 slv [x.a, x.b, x.c, x.d]) rfl Hp.rdSl (fun _ => rfl) und51 i1 i3 i2 rfl (by simp [Value.oneCell']) (by rw [i4]; show (sets.len + 4) * 24 ≤ _; omega) (by show sets.len + 4 ≤ _; omega) fun sets2 w3 h _ _ => ?_
  have e1 : ((xs.take k).flatMap SV.sls).map (·.1) ++ [x.a, x.b, x.c, x.d] = ((xs.take (k + 1)).flatMap SV.sls).map (·.1) := by
   rw [List.take_add_one, hx]; simp [SV.sls]
  rw [e1] at h
  refine h.lda (n := 4) (m := 3) (k := .sl) (x := x.run.sl) 7 rfl rfl ?_
  have hcl := h.len (s := codes) (e := 28) (n := 1) (f := slv) (l := (xs.take k).map fun x => x.run.sl) 6 rfl
  rw [List.length_map, List.length_take] at hcl
  refine h.nwapp (f := slv) (n := 1) (e := 28) 6 x.run.sl (s := codes) (l := (xs.take k).map fun x => x.run.sl) rfl (fun _ => rfl) und50 j1 j3 j2 rfl rfl (by simp [Value.oneCell']) (by rw [j4]; omega) (by omega) fun codes2 w3 h _ _ => ?_
  have e2 : ((xs.take k).map fun x => x.run.sl) ++ [x.run.sl] = (xs.take (k + 1)).map fun x => x.run.sl := by
   rw [List.take_add_one, hx]; simp
  rw [e2] at h
  refine ⟨xs.length - (k + 1), by omega, k + 1, by rw [wr64 (by omega) (by omega)]; omega, by omega, rfl, ?_⟩
  rw [hLL]
  exact h.trim 7
 refine ifF (by simp; omega) ?_
 subst hend
 rw [List.take_length, ← hes1] at h
 have hal : ∀ k : Nat, ((xs.map fun x => x.run.sl) ++ (ys.take k).map fun y => y.sl).length = xs.length + (ys.take k).length := fun k => by simp
 refine ⟨fun codes i m w' => ∃ k : Nat, i = k ∧ k ≤ ys.length ∧ m = ys.length - k ∧ Hp O w w' (LL xs ys sets (es1.map (·.1)) codes ((xs.map fun x => x.run.sl) ++ (ys.take k).map fun y => y.sl)), ⟨_, 0, rfl, by omega, rfl, by rw [List.take_zero, List.map_nil, List.append_nil]; exact h⟩, ?_⟩
 clear h
 rintro codes3 i m w3 ⟨k, rfl, hk, rfl, h⟩
 refine h.ld (n := 1) (k := .sl) (x := s2) 4 (by rw [hLL]; rfl) rfl ?_
 by_cases hend : k = ys.length
 rotate_left
 ·obtain ⟨y, hy⟩ : ∃ y, ys[k]? = some y := ⟨ys[k]'(by omega), List.getElem?_eq_getElem (by omega)⟩
  refine ifT (by simp; omega) ?_
  refine h.ld (n := 1) (k := .sl) (x := s2) 4 (by rw [hLL]; rfl) rfl ?_
  refine h.ixr 1 (s := s2) (l := ys) (f := rtv) (n := 4) (e := 30) (by rw [hLL]; rfl) (by omega) (y := y) (by rw [Int.toNat_natCast]; exact hy) rtv_len fun ad hc => ?_
  refine ldR (k := .sl) (x := y.sl) (hc 3 (by decide)) rfl ?_
  clear hc
  rw [hLL] at h
  have hcl := h.len (s := codes3) (e := 28) (n := 1) (f := slv) (l := (xs.map fun x => x.run.sl) ++ (ys.take k).map fun y => y.sl) 6 rfl
  rw [hal, List.length_take] at hcl
  refine h.nwapp (f := slv) (n := 1) (e := 28) 6 y.sl (s := codes3) (l := (xs.map fun x => x.run.sl) ++ (ys.take k).map fun y => y.sl) rfl (fun _ => rfl) und50 j1 j3 j2 rfl rfl (by simp [Value.oneCell']) (by rw [j4]; omega) (by omega) fun codes2 w4 h _ _ => ?_
  have e2 : (xs.map fun x => x.run.sl) ++ ((ys.take k).map fun y => y.sl) ++ [y.sl] = (xs.map fun x => x.run.sl) ++ (ys.take (k + 1)).map fun y => y.sl := by
   rw [List.take_add_one, hy]; simp
  rw [e2] at h
  refine ⟨ys.length - (k + 1), by omega, k + 1, by rw [wr64 (by omega) (by omega)]; omega, by omega, rfl, ?_⟩
  rw [hLL]
  exact h
 refine ifF (by simp; omega) ?_
 subst hend
 have e3 : (xs.map fun x => x.run.sl) ++ (ys.take ys.length).map (fun y => y.sl) = es2.map (·.1) := by
  rw [List.take_length, hes2, List.map_append, List.map_map, List.map_map]; rfl
 rw [e3] at h
 refine h.ld0 (k := .sl) (x := s1) 4 (by rw [hLL]; rfl) rfl ?_
 refine h.ld (n := 1) (k := .sl) (x := s2) 4 (by rw [hLL]; rfl) rfl ?_
 -- written over
 refine ⟨fun i m w' => ∃ k : Nat, i = k ∧ k ≤ xs.length ∧ m = xs.length - k ∧ Hp O w w' (LL (ovr mineS k xs) ys sets (es1.map (·.1)) codes3 (es2.map (·.1))), ⟨_, 0, rfl, by omega, rfl, by unfold ovr; simpa using h⟩, ?_⟩
 clear h
 rintro i m w4 ⟨k, rfl, hk, rfl, h⟩
 by_cases hend : k = xs.length
 rotate_left
 ·refine ifT (by simp; omega) ?_
  rw [hLL] at h
  refine h.ixw 0 (s := s1) (l := ovr mineS k xs) (f := syv) (n := 8) rfl (by omega) (by rw [Int.toNat_natCast, ovr_len hk]; omega) syv_len fun wb off c hoff h hb => ?_
  refine h.stv 0 rfl (by omega) rfl fun w5 h => ?_
  refine h.stq (m := 1) 0 rfl (by simp; omega) rfl fun w5 h => ?_
  refine h.stq (m := 2) 0 rfl (by simp; omega) rfl fun w5 h => ?_
  refine h.stq (m := 3) 0 rfl (by simp; omega) rfl fun w5 h => ?_
  refine h.stq (m := 4) 0 rfl (by simp; omega) rfl fun w5 h => ?_
  refine h.stq (m := 5) 0 rfl (by simp; omega) rfl fun w5 h => ?_
  refine h.stq (m := 6) 0 rfl (by simp; omega) rfl fun w5 h => ?_
  refine h.stq (m := 7) 0 rfl (by simp; omega) rfl fun w5 h => ?_
  have h := hb mineS h rfl
  rw [Int.toNat_natCast, ovr_set (by omega)] at h
  refine ⟨xs.length - (k + 1), by omega, k + 1, by rw [wr64 (by omega) (by omega)]; omega, by omega, rfl, ?_⟩
  rw [hLL]
  exact h
 refine ifF (by simp; omega) ?_
 subst hend
 rw [ovr_all] at h
 refine ⟨fun i m w' => ∃ k : Nat, i = k ∧ k ≤ ys.length ∧ m = ys.length - k ∧ Hp O w w' (LL (List.replicate xs.length mineS) (ovr mineR k ys) sets (es1.map (·.1)) codes3 (es2.map (·.1))), ⟨_, 0, rfl, by omega, rfl, by unfold ovr; simpa using h⟩, ?_⟩
 clear h
 rintro i m w5 ⟨k, rfl, hk, rfl, h⟩
 by_cases hend : k = ys.length
 rotate_left
 ·refine ifT (by simp; omega) ?_
  rw [hLL] at h
  refine h.ixw 1 (s := s2) (l := ovr mineR k ys) (f := rtv) (n := 4) rfl (by omega) (by rw [Int.toNat_natCast, ovr_len hk]; omega) rtv_len fun wb off c hoff h hb => ?_
  refine h.stv 1 rfl (by omega) rfl fun w6 h => ?_
  refine h.stq (m := 1) 1 rfl (by simp; omega) rfl fun w6 h => ?_
  refine h.stq (m := 2) 1 rfl (by simp; omega) rfl fun w6 h => ?_
  refine h.stq (m := 3) 1 rfl (by simp; omega) rfl fun w6 h => ?_
  have h := hb mineR h rfl
  rw [Int.toNat_natCast, ovr_set (by omega)] at h
  refine ⟨ys.length - (k + 1), by omega, k + 1, by rw [wr64 (by omega) (by omega)]; omega, by omega, rfl, ?_⟩
  rw [hLL]
  exact h
 refine ifF (by simp; omega) ?_
 subst hend
 rw [ovr_all, hLL] at h
 -- the lists, told asv the others' owner
 have he1 : es1.length ≤ 64 := by
  have := hsl4 xs.length
  rw [List.take_length, ← hes1] at this
  omega
 have h := h.weak (i := 5) (t' := tSl sets 52 1 siv es1) rfl rfl (fun w O h => SlF.conv (by rw [List.map_map]; rfl) h) rfl
 have h := h.nest_close (i := 5) (j := 2) (e := 52) (n := 1) (cells := siv) (sub := tS) (vis := id) (s := sets) (xs := es1) (l := es1) (by decide) rfl rfl (List.map_id _)
 have h := h.weak (i := 6) (t' := tSl codes3 28 1 scv es2) rfl rfl (fun w O h => SlF.conv (by rw [List.map_map]; rfl) h) rfl
 have h := h.nest_close (i := 6) (j := 3) (e := 28) (n := 1) (cells := scv) (sub := subC) (vis := id) (s := codes3) (xs := es2) (l := es2) (by decide) rfl rfl (List.map_id _)
 have h : Hp O w w5 [tSl s1 54 8 syv (List.replicate xs.length mineS), tSl s2 30 4 rtv (List.replicate ys.length mineR), tEmp, tEmp, tBlk pb 37 [.slice s1.a s1.len s1.cap, .slice s2.a s2.len s2.cap], tIs sets es1, tCs codes3 es2] := h
 refine ints_n h 5 (l := sets) (es := es1) rfl (by omega) (fun x hx => ?_) fun w6 t1 h => ?_
 ·rw [hes1] at hx
  obtain ⟨y, hy, hx⟩ := List.mem_flatMap.1 hx
  have := (hsb y hy).2 x hx
  omega
 have he2 : es2.length ≤ 32 := by rw [hes2]; simp; omega
 refine instrs_n h 6 (l := codes3) (es := es2) rfl (by omega) (fun x hx => ?_) fun w7 t2 h => ?_
 ·rw [hes2] at hx
  rcases List.mem_append.1 hx with hx | hx
  ·obtain ⟨y, hy, rfl⟩ := List.mem_map.1 hx
   have := (hsb y hy).1
   show y.run.code.length ≤ _
   omega
  ·obtain ⟨y, hy, rfl⟩ := List.mem_map.1 hx
   have := hfb y hy
   show y.code.length ≤ _
   omega
 have h : Hp O w w7 [tSl s1 54 8 syv (List.replicate xs.length mineS), tSl s2 30 4 rtv (List.replicate ys.length mineR)] := h.trim 2
 -- grown
 refine ⟨fun s i m w' => ∃ k : Nat, i = k ∧ k ≤ 64 ∧ m = 64 - k ∧ Hp O w w' [tSl s 54 8 syv (List.replicate (xs.length + k) mineS), tSl s2 30 4 rtv (List.replicate ys.length mineR)], ⟨_, 0, rfl, by omega, rfl, h⟩, ?_⟩
 clear h
 rintro sg i m w8 ⟨k, rfl, hk, rfl, h⟩
 have hgl := h.len (s := sg) (e := 54) (n := 8) (f := syv) (l := List.replicate (xs.length + k) mineS) 0 rfl
 rw [List.length_replicate] at hgl
 by_cases hend : k = 64
 rotate_left
 ·refine ifT (by simp; omega) ?_
  refine h.nwapp 0 mineS rfl syv_len und35 k1 k3 k2 rfl rfl (by simp [Value.oneCell']) (by rw [k4]; omega) (by omega) fun s' w9 h _ _ => ?_
  rw [← List.replicate_succ'] at h
  exact ⟨64 - (k + 1), by omega, k + 1, by rw [wr64 (by omega) (by omega)]; omega, by omega, rfl, h⟩
 refine ifF (by simp; omega) ?_
 subst hend
 refine ⟨fun s i m w' => ∃ k : Nat, i = k ∧ k ≤ 64 ∧ m = 64 - k ∧ Hp O w w' [tSl sg 54 8 syv (List.replicate (xs.length + 64) mineS), tSl s 30 4 rtv (List.replicate (ys.length + k) mineR)], ⟨_, 0, rfl, by omega, rfl, h⟩, ?_⟩
 clear h
 rintro fg i m w9 ⟨k, rfl, hk, rfl, h⟩
 have hfl := h.len (s := fg) (e := 30) (n := 4) (f := rtv) (l := List.replicate (ys.length + k) mineR) 1 rfl
 rw [List.length_replicate] at hfl
 by_cases hend : k = 64
 rotate_left
 ·refine ifT (by simp; omega) ?_
  refine h.nwapp 1 mineR rfl rtv_len und24 m1 m3 m2 rfl rfl (by simp [Value.oneCell']) (by rw [m4]; omega) (by omega) fun s' w9 h _ _ => ?_
  rw [← List.replicate_succ'] at h
  exact ⟨64 - (k + 1), by omega, k + 1, by rw [wr64 (by omega) (by omega)]; omega, by omega, rfl, h⟩
 refine ifF (by simp; omega) ?_
 subst hend
 -- looked at
 refine ⟨fun b i m w' => b = true ∧ ∃ k : Nat, i = k ∧ k ≤ xs.length + 64 ∧ m = xs.length + 64 - k ∧ Hp O w w' [tSl sg 54 8 syv (List.replicate (xs.length + 64) mineS), tSl fg 30 4 rtv (List.replicate (ys.length + 64) mineR)], ⟨_, rfl, 0, rfl, by omega, rfl, h⟩, ?_⟩
 clear h
 rintro b i m wa ⟨rfl, k, rfl, hk, rfl, h⟩
 by_cases hend : k = xs.length + 64
 rotate_left
 ·have hat : (List.replicate (xs.length + 64) mineS)[((k : Nat) : Int).toNat]? = some mineS := by rw [Int.toNat_natCast, List.getElem?_replicate, if_pos (by omega)]
  refine ifT (by simp; omega) (ifT rfl ?_)
  refine h.ixr 0 (s := sg) (f := syv) (n := 8) (e := 54) rfl (by omega) hat syv_len fun ad hc => ?_
  refine ldR (k := .s) (x := mine) (hc 4 (by decide)) rfl ?_
  refine ifT (by simp [mine]) ?_
  refine h.ixr 0 (s := sg) (f := syv) (n := 8) (e := 54) rfl (by omega) hat syv_len fun ad hc => ?_
  rw [Addr.add_add_any]
  refine ldR (k := .sl) (x := ⟨none, 0, 0⟩) (hc 7 (by decide)) rfl ?_
  exact ⟨xs.length + 64 - (k + 1), by omega, rfl, k + 1, by rw [wr64 (by omega) (by omega)]; omega, by omega, rfl, h⟩
 refine ifF (by simp; omega) ?_
 subst hend
 refine ⟨fun b i m w' => b = true ∧ ∃ k : Nat, i = k ∧ k ≤ ys.length + 64 ∧ m = ys.length + 64 - k ∧ Hp O w w' [tSl sg 54 8 syv (List.replicate (xs.length + 64) mineS), tSl fg 30 4 rtv (List.replicate (ys.length + 64) mineR)], ⟨_, rfl, 0, rfl, by omega, rfl, h⟩, ?_⟩
 clear h
 rintro b i m wb ⟨rfl, k, rfl, hk, rfl, h⟩
 by_cases hend : k = ys.length + 64
 rotate_left
 ·have hat : (List.replicate (ys.length + 64) mineR)[((k : Nat) : Int).toNat]? = some mineR := by rw [Int.toNat_natCast, List.getElem?_replicate, if_pos (by omega)]
  refine ifT (by simp; omega) (ifT rfl ?_)
  refine h.ixr 1 (s := fg) (f := rtv) (n := 4) (e := 30) rfl (by omega) hat rtv_len fun ad hc => ?_
  refine ldR0 (k := .s) (x := mine) (hc 0 (by decide)) rfl ?_
  refine ifT (by simp [mine]) ?_
  refine h.ixr 1 (s := fg) (f := rtv) (n := 4) (e := 30) rfl (by omega) hat rtv_len fun ad hc => ?_
  refine ldR (k := .sl) (x := ⟨none, 0, 0⟩) (hc 3 (by decide)) rfl ?_
  exact ⟨ys.length + 64 - (k + 1), by omega, rfl, k + 1, by rw [wr64 (by omega) (by omega)]; omega, by omega, rfl, h⟩
 refine ifF (by simp; omega) ?_
 exact fin rfl rfl h
end
theorem und34 : Tryz.prog.underlying 34 = some (.slice 5) := by kernel_rfl
section
variable {S : List Nat} {w0 w : World} {its rest : List Thing}
end
def pOf : Except Nat PG → PG
 | .ok p => p
 | .error _ => ⟨[], []⟩
def atOf : Except Nat PG → Int
 | .ok _ => 0
 | .error e => e
def noOf : Except Nat PG → Int
 | .ok _ => 0
 | .error _ => 130
def vOf (fb : Nat) : Except Nat PG → Value
 | .ok _ => .nilIface
 | .error _ => .iface 86 (.pointer (some ⟨fb, 0, none⟩))
def tFt (fb : Nat) : Except Nat PG → Thing
 | .ok _ => tEmp
 | .error e => tFault fb e
theorem pOf_ok {l : List Int} (hb : Bytes l) : mayM (pOf (pgD l)) = true ∧ (pOf (pgD l)).Ok ∧ (pOf (pgD l)).sys.length ≤ 16 ∧ (pOf (pgD l)).fns.length ≤ 16 := by
 cases h : pgD l with
 | ok p =>
  obtain ⟨h1, _, h2⟩ := pg_of hb h
  have := mayM_iff.1 h1
  exact ⟨h1, h2, this.1, this.2.1⟩
 | error e => exact ⟨rfl, ⟨by simp [pOf], by simp [pOf]⟩, by simp [pOf], by simp [pOf]⟩
section
variable {S : List Nat} {w0 w : World} {its rest : List Thing}
theorem Decode_w {b : Sl} {ub : Thing} {l : List Int} (h : Hp S w0 w (ub :: rest)) (hs : Src ub b l) {K : Sl → Sl → Value → World → Prop}
  (hK : ∀ s1 s2 fb w', Hp S w0 w' (ub :: rest ++ [tSyN s1 (pOf (pgD l)).sys, tFnN s2 (pOf (pgD l)).fns, tFt fb (pgD l)]) → K s1 s2 (vOf fb (pgD l)) w') : c15 b w K := by
 refine Decode_u h hs fun s1 s2 v w' hd => ?_
 rcases hd with ⟨p, hp, rfl, h⟩ | ⟨e, fb, he, rfl, rfl, rfl, h⟩
 ·have := hK s1 s2 0 w'
  rw [hp] at this
  refine this ?_
  have h := h.grow (Fr.refl _ _) (t := tEmp) (O := []) rfl (by simp) rfl
  simpa [pOf, tFt] using h
 ·have := hK ⟨none, 0, 0⟩ ⟨none, 0, 0⟩ fb w'
  rw [he] at this
  refine this ?_
  have h := (h.nest_nil 54 8 syv subY SV.m).nest_nil 30 4 rtv subI RV.r
  have h : Hp S w0 w' (ub :: rest ++ [tFault fb e] ++ [tSyN ⟨none, 0, 0⟩ [], tFnN ⟨none, 0, 0⟩ []]) := by simpa using h
  have h := h.swap2
  simpa [pOf, tFt] using h
theorem RDecode_w {b : Sl} {ub : Thing} {l : List Int} (h : Hp S w0 w (ub :: rest)) (hs : Src ub b l) {K : Sl → Sl → Int → Int → World → Prop}
  (hK : ∀ s1 s2 w', Hp S w0 w' (ub :: rest ++ [tSyN s1 (pOf (pgD l)).sys, tFnN s2 (pOf (pgD l)).fns]) → K s1 s2 (atOf (pgD l)) (noOf (pgD l)) w') : c17 b w K := by
 refine RDecode_spec h hs (fun p hp s1 s2 w' h => ?_) (fun e he w' h => ?_)
 ·have := hK s1 s2 w'
  rw [hp] at this
  exact this h
 ·have := hK ⟨none, 0, 0⟩ ⟨none, 0, 0⟩ w'
  rw [he] at this
  refine this ?_
  have h := (h.nest_nil 54 8 syv subY SV.m).nest_nil 30 4 rtv subI RV.r
  simpa [pOf] using h
theorem fault_w (h : Hp S w0 w its) (i : Nat) {fb : Nat} {D : Except Nat PG} (hi : its[i]? = some (tFt fb D)) {K : Int → Int → Bool → World → Prop} (hK : ∀ w', Hp S w0 w' its → K (atOf D) (noOf D) true w') : c16 (vOf fb D) w K := by
 cases D with
 | ok p => exact fault_nil (hK w h)
 | error e => exact fault_spec h i hi fun w' h => hK w' h
theorem zeros_bytes (n : Nat) : Bytes (List.replicate n (0 : Int)) := fun x hx => by
 rw [List.eq_of_mem_replicate hx]; decide
set_option maxHeartbeats 8000000 in
theorem decodes_spec {w : World} (hG : Glob w) {b : Sl} {bs : List Int} (hb : ∃ o, SlR w b 1 u8v bs o) (hbb : Bytes bs) (hbl : bs.length ≤ 100000000000) (hbc : b.len ≤ b.cap) {K : Bool → World → Prop} (hK : ∀ w', Hp [] w w' [] → K true w') : c4 b w K := by
 refine c4_of ?_
 unfold f4
 obtain ⟨o, hb⟩ := hb
 obtain ⟨inf, i1, i2, i3, i4⟩ := inf5
 have hsrc0 : Src (tRd b 1 u8v bs) b bs := ⟨Hp.rdRd, hbb, by omega, hb.len, hbc⟩
 have hsrc := hsrc0.ro
 have hbn := hb.len
 have h : Hp [] w w [(tRd b 1 u8v bs).ro] := (Hp.init w).addRo (t := tRd b 1 u8v bs) hb (by simp)
 refine shown_spec h hG fun w1 h => ?_
 have e1 : IntKind.i64.wrap ((b.len : Int) + 80) = ((bs.length + 80 : Nat) : Int) := by rw [wr64 (by omega) (by omega)]; omega
 rw [e1]
 refine h.mks (f := u8v) (n := 1) (x0 := (0 : Int)) u8v_len rfl (by omega) (by omega) (by omega) (by omega) ?_
 intro l w1 h hll hlc _
 rw [Int.toNat_natCast] at h hll hlc
 refine h.copy 1 0 (by decide) (l := List.replicate (bs.length + 80) (0 : Int)) (news := bs) rfl (u := (tRd b 1 u8v bs).ro) rfl hsrc.rd u8v_len und34 i1 i3 (by simp [Value.oneCell']) (by omega) fun w1 h => ?_
 rw [List.drop_replicate] at h
 have e2 : bs.length + 80 - b.len = 80 := by omega
 rw [e2] at h
 have h : Hp [] w w1 ([(tRd b 1 u8v bs).ro] ++ [tSl l 5 1 u8v (bs ++ List.replicate 80 (0 : Int))]) := h
 have h := h.comm
 have h : Hp [] w w1 [tSl l 5 1 u8v (bs ++ List.replicate 80 (0 : Int)), (tRd b 1 u8v bs).ro] := h
 -- the piece that is handed in
 have hall : ∀ ls : List Int, ls.length = bs.length + 80 → Cut l 0 (b.len : Int) (l.cap : Int) 1 (fun s => Hp.Reads (tSl l 5 1 u8v ls) s 1 u8v (ls.take bs.length) ∧ s.len = bs.length ∧ s.cap = l.cap) := fun ls hls =>
  Hp.cutv (u := tSl l 5 1 u8v ls) (l := ls) Hp.rdSl (by omega) u8v_len (by omega) (by omega) (by omega) (by omega) (by omega) fun s hs q1 q2 => by
   simp only [Int.toNat_natCast, Int.toNat_zero, List.drop_zero] at hs q1 q2
   rw [← hbn] at hs q1
   exact ⟨hs, by omega, by omega⟩
 have h80 : (bs ++ List.replicate 80 (0 : Int)).length = bs.length + 80 := by simp
 obtain ⟨s, hcut, hsr, q1, q2⟩ : ∃ s : Sl, (∀ G : Sl → Prop, G s → Cut l 0 (b.len : Int) (l.cap : Int) 1 G) ∧ (∀ ls : List Int, ls.length = bs.length + 80 → Hp.Reads (tSl l 5 1 u8v ls) s 1 u8v (ls.take bs.length)) ∧ s.len = bs.length ∧ s.cap = l.cap :=
  ⟨_, fun G hG => ⟨(hall _ h80).1, (hall _ h80).2.1, (hall _ h80).2.2.1, (hall _ h80).2.2.2.1, hG⟩, fun ls hls => ((hall ls hls).2.2.2.2).1, ((hall _ h80).2.2.2.2).2⟩
 have hss : ∀ ls : List Int, ls.length = bs.length + 80 → Bytes ls → Src (tSl l 5 1 u8v ls) s (ls.take bs.length) := fun ls hls hby => ⟨hsr ls hls, bytes_take hby _, by rw [List.length_take]; omega, by rw [List.length_take]; omega, by omega⟩
 have hs0 : Src (tSl l 5 1 u8v (bs ++ List.replicate 80 (0 : Int))) s bs := by
  have := hss _ h80 (bytes_app hbb (zeros_bytes 80))
  rwa [List.take_left] at this
 obtain ⟨D, hD⟩ : ∃ D, D = pgD bs := ⟨_, rfl⟩
 obtain ⟨pm, pok, pn1, pn2⟩ := pOf_ok hbb
 rw [← hD] at pm pok pn1 pn2
 show Cut l 0 (b.len : Int) (l.cap : Int) 1 _
 refine hcut _ ?_
 refine Decode_w h hs0 fun a1 a2 f1 w2 h => ?_
 rw [← hD] at h ⊢
 refine pg_copy h (s1 := a1) (s2 := a2) fun pb w2 h => ?_
 have h : Hp [] w w2 ([] ++ [tSl l 5 1 u8v (bs ++ List.replicate 80 (0 : Int))] ++ [(tRd b 1 u8v bs).ro] ++ [tSyN a1 (pOf D).sys, tFnN a2 (pOf D).fns, tFt f1 D, tBlk pb 37 [.slice a1.a a1.len a1.cap, .slice a2.a a2.len a2.cap]]) := h
 have h := h.mid
 refine Decode_w h hsrc fun b1 b2 f2 w3 h => ?_
 rw [← hD] at h ⊢
 refine pg_copy h (s1 := b1) (s2 := b2) fun qb w3 h => ?_
 have h : Hp [] w w3 [(tRd b 1 u8v bs).ro, tSl l 5 1 u8v (bs ++ List.replicate 80 (0 : Int)), tSyN a1 (pOf D).sys, tFnN a2 (pOf D).fns, tFt f1 D, tBlk pb 37 [.slice a1.a a1.len a1.cap, .slice a2.a a2.len a2.cap],
  tSyN b1 (pOf D).sys, tFnN b2 (pOf D).fns, tFt f2 D, tBlk qb 37 [.slice b1.a b1.len b1.cap, .slice b2.a b2.len b2.cap]] := h
 refine fault_w h 4 rfl fun w3 h => ?_
 refine fault_w h 8 rfl fun w3 h => ?_
 refine RDecode_w h hsrc fun c1 c2 w4 h => ?_
 rw [← hD] at h ⊢
 refine pg_copy h (s1 := c1) (s2 := c2) fun wb w4 h => ?_
 have h : Hp [] w w4 [(tRd b 1 u8v bs).ro, tSl l 5 1 u8v (bs ++ List.replicate 80 (0 : Int)), tSyN a1 (pOf D).sys, tFnN a2 (pOf D).fns, tFt f1 D, tBlk pb 37 [.slice a1.a a1.len a1.cap, .slice a2.a a2.len a2.cap],
  tSyN b1 (pOf D).sys, tFnN b2 (pOf D).fns, tFt f2 D, tBlk qb 37 [.slice b1.a b1.len b1.cap, .slice b2.a b2.len b2.cap], tSyN c1 (pOf D).sys, tFnN c2 (pOf D).fns, tBlk wb 37 [.slice c1.a c1.len c1.cap, .slice c2.a c2.len c2.cap]] := h
 refine h.ld0 (k := .sl) (x := a1) 5 rfl rfl ?_
 refine h.ld (n := 1) (k := .sl) (x := a2) 5 rfl rfl ?_
 refine h.ld0 (k := .sl) (x := c1) 12 rfl rfl ?_
 refine h.ld (n := 1) (k := .sl) (x := c2) 12 rfl rfl ?_
 obtain ⟨Oa, hOa⟩ := h.see (i := 2) rfl
 obtain ⟨Ob, hOb⟩ := h.see (i := 3) rfl
 obtain ⟨Oc, hOc⟩ := h.see (i := 10) rfl
 obtain ⟨Od, hOd⟩ := h.see (i := 11) rfl
 refine programs_spec (p := pOf D) (q := pOf D) (rdS_sy hOa) (rdR_fn hOb) (rdS_sy hOc) (rdR_fn hOd) pok (by omega) (by omega) fun one w5 h1 h5 => ?_
 obtain rfl := h1.2 rfl
 have h := h.keep h5.fr
 clear h1 h5 hOa hOb hOc hOd
 refine h.ld0 (k := .sl) (x := a1) 5 rfl rfl ?_
 refine h.ld (n := 1) (k := .sl) (x := a2) 5 rfl rfl ?_
 refine own_spec h 2 3 (by decide) (sys := (pOf D).sys) (fns := (pOf D).fns) rfl rfl pm fun w6 t1 t2 h => ?_
 have h : Hp [] w w6 [(tRd b 1 u8v bs).ro, tSl l 5 1 u8v (bs ++ List.replicate 80 (0 : Int)), t1, t2, tFt f1 D, tBlk pb 37 [.slice a1.a a1.len a1.cap, .slice a2.a a2.len a2.cap],
  tSyN b1 (pOf D).sys, tFnN b2 (pOf D).fns, tFt f2 D, tBlk qb 37 [.slice b1.a b1.len b1.cap, .slice b2.a b2.len b2.cap], tSyN c1 (pOf D).sys, tFnN c2 (pOf D).fns, tBlk wb 37 [.slice c1.a c1.len c1.cap, .slice c2.a c2.len c2.cap]] := h
 refine h.ld0 (k := .sl) (x := b1) 9 rfl rfl ?_
 refine h.ld (n := 1) (k := .sl) (x := b2) 9 rfl rfl ?_
 refine h.ld0 (k := .sl) (x := c1) 12 rfl rfl ?_
 refine h.ld (n := 1) (k := .sl) (x := c2) 12 rfl rfl ?_
 obtain ⟨Oa, hOa⟩ := h.see (i := 6) rfl
 obtain ⟨Ob, hOb⟩ := h.see (i := 7) rfl
 obtain ⟨Oc, hOc⟩ := h.see (i := 10) rfl
 obtain ⟨Od, hOd⟩ := h.see (i := 11) rfl
 refine programs_spec (p := pOf D) (q := pOf D) (rdS_sy hOa) (rdR_fn hOb) (rdS_sy hOc) (rdR_fn hOd) pok (by omega) (by omega) fun two w7 h1 h5 => ?_
 obtain rfl := h1.2 rfl
 have h := h.keep h5.fr
 clear h1 h5 hOa hOb hOc hOd
 obtain ⟨L, hL⟩ : ∃ L, L = [(tRd b 1 u8v bs).ro, tSl l 5 1 u8v (bs ++ List.replicate 80 (0 : Int)), t1, t2, tFt f1 D, tBlk pb 37 [.slice a1.a a1.len a1.cap, .slice a2.a a2.len a2.cap],
  tSyN b1 (pOf D).sys, tFnN b2 (pOf D).fns, tFt f2 D] := ⟨_, rfl⟩
 have h : Hp [] w w7 L := by rw [hL]; exact h.trim 9
 refine h.nwS (l := [0, 0, 0, 0]) (f := u8v) (n := 1) (m := 4) rfl rfl u8v_len fun zb wz h => ?_
 have h := h.comm
 have hz : Src (tSl ⟨some ⟨zb, 0, none⟩, 4, 4⟩ 5 1 u8v [0, 0, 0, 0]) ⟨some ⟨zb, 0, none⟩, 4, 4⟩ [0, 0, 0, 0] := ⟨Hp.rdSl, by unfold Bytes; decide, by decide, rfl, Nat.le_refl _⟩
 refine Decode_w h hz fun z1 z2 fz w9 h => ?_
 have h : Hp [] w w9 ([] ++ [tSl ⟨some ⟨zb, 0, none⟩, 4, 4⟩ 5 1 u8v [0, 0, 0, 0]] ++ L) := h.front
 have h := h.cutMid
 have h : Hp [] w w9 L := h
 rw [hL] at h
 refine fault_w h 4 rfl fun w9 h => ?_
 refine fault_w h 8 rfl fun w9 h => ?_
 have h : Hp [] w w9 [(tRd b 1 u8v bs).ro, tSl l 5 1 u8v (bs ++ List.replicate 80 (0 : Int))] := h.trim 2
 refine ⟨fun i m w' => ∃ k : Nat, i = k ∧ k ≤ bs.length + 80 ∧ m = bs.length + 80 - k ∧ Hp [] w w' [(tRd b 1 u8v bs).ro, tSl l 5 1 u8v (bs ++ List.replicate 80 (0 : Int))], ⟨_, 0, rfl, by omega, rfl, h⟩, ?_⟩
 clear h
 rintro i m wa ⟨k, rfl, hk, rfl, h⟩
 by_cases hend : k = bs.length + 80
 rotate_left
 ·refine ifT (by simp; omega) ?_
  refine h.dr fun wa h => ?_
  have nxt : ∃ m2 : Nat, m2 < bs.length + 80 - k ∧ ∃ k' : Nat, IntKind.i64.wrap ((k : Int) + 1) = k' ∧ k' ≤ bs.length + 80 ∧ m2 = bs.length + 80 - k' ∧ Hp [] w wa [(tRd b 1 u8v bs).ro, tSl l 5 1 u8v (bs ++ List.replicate 80 (0 : Int))] :=
   ⟨bs.length + 80 - (k + 1), by omega, k + 1, by rw [wr64 (by omega) (by omega)]; omega, by omega, rfl, h⟩
  by_cases hin : k < bs.length
  ·obtain ⟨x, hx⟩ : ∃ x, bs[k]? = some x := ⟨bs[k]'hin, List.getElem?_eq_getElem hin⟩
   refine ifT (by simp; omega) ?_
   refine h.ixldU (k := .i .u8) (u := tSl l 5 1 u8v (bs ++ List.replicate 80 (0 : Int))) (y := x) (x := x) 1 rfl Hp.rdSl (by omega) (by rw [Int.toNat_natCast, List.getElem?_append_left hin]; exact hx) u8v_len rfl ?_
   refine h.ixldU (k := .i .u8) (u := (tRd b 1 u8v bs).ro) (y := x) (x := x) 0 rfl hsrc.rd (by omega) (by rw [Int.toNat_natCast]; exact hx) u8v_len rfl ?_
   refine ifF (by simp) (ifF (by simp; omega) nxt)
  ·refine ifF (by simp; omega) (ifT (by simp; omega) ?_)
   refine h.ixldU (k := .i .u8) (u := tSl l 5 1 u8v (bs ++ List.replicate 80 (0 : Int))) (y := (0 : Int)) (x := (0 : Int)) 1 rfl Hp.rdSl (by omega) (by rw [Int.toNat_natCast, List.getElem?_append_right (by omega), List.getElem?_replicate, if_pos (by omega)]) u8v_len rfl ?_
   exact ifF (by decide) nxt
 refine ifF (by simp; omega) ?_
 clear hend
 refine ifF (by simp) ?_
 -- a byte turned, or none
 refine ⟨fun w' => ∃ ls : List Int, ls.length = bs.length + 80 ∧ Bytes ls ∧ Hp [] w w' [tSl l 5 1 u8v ls], ?_, ?_⟩
 ·have h : Hp [] w wa [tSl l 5 1 u8v (bs ++ List.replicate 80 (0 : Int))] := by
   have h : Hp [] w wa ([] ++ [(tRd b 1 u8v bs).ro] ++ [tSl l 5 1 u8v (bs ++ List.replicate 80 (0 : Int))]) := h
   exact h.cutMid
  by_cases hp : 0 < bs.length
  ·refine ifT (by simp; omega) ⟨by decide, by decide, ?_⟩
   have ht : IntKind.i64.wrap (Int.tdiv (b.len : Int) 2) = ((bs.length / 2 : Nat) : Int) := by
    have e : Int.tdiv (b.len : Int) 2 = ((bs.length / 2 : Nat) : Int) := by
     rw [Int.tdiv_eq_ediv_of_nonneg (by omega)]
     omega
    rw [e, wr64 (by omega) (by omega)]
   rw [ht]
   obtain ⟨x, hx⟩ : ∃ x, (bs ++ List.replicate 80 (0 : Int))[bs.length / 2]? = some x := ⟨_, List.getElem?_eq_getElem (by rw [h80]; omega)⟩
   refine h.ixldU (k := .i .u8) (u := tSl l 5 1 u8v (bs ++ List.replicate 80 (0 : Int))) (y := x) (x := x) 0 rfl Hp.rdSl (by omega) (by rw [Int.toNat_natCast]; exact hx) u8v_len rfl ?_
   refine h.ixst 0 (y := IntKind.u8.wrap (x + 1)) rfl (by omega) (by rw [Int.toNat_natCast, h80]; omega) u8v_len rfl rfl fun wb h => ?_
   rw [Int.toNat_natCast] at h
   refine ⟨_, by rw [List.length_set]; exact h80, ?_, h⟩
   intro y hy
   rcases List.mem_or_eq_of_mem_set hy with hy | rfl
   ·exact (bytes_app hbb (zeros_bytes 80)) y hy
   ·rw [w8]; omega
  ·exact ifF (by simp; omega) ⟨_, h80, bytes_app hbb (zeros_bytes 80), h⟩
 clear h
 rintro wb ⟨ls, hls, hlb, h⟩
 have hs1 := hss ls hls hlb
 obtain ⟨E, hE⟩ : ∃ E, E = pgD (ls.take bs.length) := ⟨_, rfl⟩
 obtain ⟨em, eok, en1, en2⟩ := pOf_ok hs1.by_
 rw [← hE] at em eok en1 en2
 show Cut l 0 (b.len : Int) (l.cap : Int) 1 _
 refine hcut _ ?_
 refine Decode_w h hs1 fun r1 r2 f3 wc h => ?_
 rw [← hE] at h ⊢
 refine pg_copy h (s1 := r1) (s2 := r2) fun rb wc h => ?_
 show Cut l 0 (b.len : Int) (l.cap : Int) 1 _
 refine hcut _ ?_
 have h : Hp [] w wc [tSl l 5 1 u8v ls, tSyN r1 (pOf E).sys, tFnN r2 (pOf E).fns, tFt f3 E, tBlk rb 37 [.slice r1.a r1.len r1.cap, .slice r2.a r2.len r2.cap]] := h
 refine RDecode_w h hs1 fun v1 v2 wd h => ?_
 rw [← hE] at h ⊢
 refine pg_copy h (s1 := v1) (s2 := v2) fun vb wd h => ?_
 have h : Hp [] w wd [tSl l 5 1 u8v ls, tSyN r1 (pOf E).sys, tFnN r2 (pOf E).fns, tFt f3 E, tBlk rb 37 [.slice r1.a r1.len r1.cap, .slice r2.a r2.len r2.cap], tSyN v1 (pOf E).sys, tFnN v2 (pOf E).fns, tBlk vb 37 [.slice v1.a v1.len v1.cap, .slice v2.a v2.len v2.cap]] := h
 refine fault_w h 3 rfl fun wd h => ?_
 refine h.ld0 (k := .sl) (x := r1) 4 rfl rfl ?_
 refine h.ld (n := 1) (k := .sl) (x := r2) 4 rfl rfl ?_
 refine h.ld0 (k := .sl) (x := v1) 7 rfl rfl ?_
 refine h.ld (n := 1) (k := .sl) (x := v2) 7 rfl rfl ?_
 obtain ⟨Oa, hOa⟩ := h.see (i := 1) rfl
 obtain ⟨Ob, hOb⟩ := h.see (i := 2) rfl
 obtain ⟨Oc, hOc⟩ := h.see (i := 5) rfl
 obtain ⟨Od, hOd⟩ := h.see (i := 6) rfl
 refine programs_spec (p := pOf E) (q := pOf E) (rdS_sy hOa) (rdR_fn hOb) (rdS_sy hOc) (rdR_fn hOd) eok (by omega) (by omega) fun three w7 h1 h5 => ?_
 obtain rfl := h1.2 rfl
 have h := h.keep h5.fr
 have e : (cond (cond (cond true true false) (atOf E == atOf E) false) (noOf E == noOf E) false) = true := by simp
 rw [e]
 exact hK w7 (frNil h.fr)
end
end Go.Proofs.YtmfgofbcnlkolaaGreatDoor.F
end

section
namespace Go.Proofs.YtmfgofbcnlkolaaGreatDoor.FW
open F
open Go Go.Den Go.Proofs Go.RowKit
theorem decodes_call {w : World} (hG : Glob w) {n : Nat} {a : Option Addr} {len cap : Nat} (h : RdV Tryz.prog w 1048576 n 34 [.slice a len cap]) :
  Calls Tryz.prog 4 #[.slice a len cap] w fun e w' => e = .returned (.bool true) ∧ Below w.heap.size w w' := by
 obtain ⟨b, l, g1, g2, g3, ⟨_, g4⟩, g5⟩ := dec_bytes h
 simp only [List.cons.injEq, Value.slice.injEq, and_true] at g1
 obtain ⟨rfl, rfl, rfl⟩ := g1
 exact calls_true (decodes_spec hG g2 g3 (by omega) g5 fun w' hf => ⟨rfl, hf.fr⟩)
end Go.Proofs.YtmfgofbcnlkolaaGreatDoor.FW
end
