/-
  Part 6 of the proof: BufferTwice of layer 17 is true of the given program for every input that its guards let in.
-/
import Derived.Test.YthmbjlpgbkkjjaaPkE
import Derived.Laws.IdiomRangeMap
set_option linter.unusedSimpArgs false
set_option linter.unusedVariables false
set_option maxRecDepth 100000
section
namespace Go.Proofs.Ythmbjlpgbkkjjaa.FW
open F
open Go Go.Den Go.Proofs
open FI (PoolM tPool)
open FT (TabM tTab Ent entV ent ent_len atI keyEnt iv iv_len)
def WA.set (a : WA) (e : Ent) (x : Part) : WA × Int :=
 if (a.ask e x.1).2 ≠ 0 then (a, (a.ask e x.1).2) else
 if (a.ask e x.1).1.1.getD (a.ask e x.1).1.2.1 none = none then (a, 62) else
 if x.2.length ≠ (a.ask e x.1).1.2.2 then (a, 63) else (a.put e ((a.ask e x.1).1.1.set (a.ask e x.1).1.2.1 (some x.2)), 0)
section
variable {S : List Nat} {w0 w : World} {its : List Thing}
end
open FP (putU zig encZ rowU tB putU_len encZ_len R64)
def snapRow (p : PL) : List Int := putU (setI p) ++ encZ (flat p)
def WA.snap (a : WA) : List Int := rowU a.pool.stGens ++ rowU a.pool.free ++ a.all.flatMap fun e => snapRow ((a.row e).getD [])
theorem rowU_len (l : List Int) : (rowU l).length ≤ 21 + 10 * l.length := by
 have h1 := putU_len l.length
 have h2 := FP.bestU_len l
 unfold rowU
 rw [List.length_append]
 split
 ·simp only [List.length_nil]; omega
 ·omega
theorem enc_partsU (p : PL) : ∀ k, k ≤ p.length → (partsU p k).flatMap (fun x => encZ x.2) = encZ (flat (p.take k))
 | 0, _ => by simp [partsU, flat, encZ]
 | k + 1, hk => by
  have ih := enc_partsU p k (by omega)
  have hp : p[k]? = some p[k] := by simp [show k < p.length by omega]
  rw [partsU, List.flatMap_append, ih, flat_take hp]
  have ha : ∀ a b : List Int, encZ (a ++ b) = encZ a ++ encZ b := fun a b => by unfold encZ; rw [List.flatMap_append]
  rw [ha]
  congr 1
  have : p.getD k none = p[k] := by rw [List.getD_eq_getElem?_getD, hp]; rfl
  rw [this]
  cases p[k] with
  | none => rfl
  | some v => simp
theorem enc_parts (p : PL) : (partsOf p).flatMap (fun x => encZ x.2) = encZ (flat p) := by
 unfold partsOf
 rw [enc_partsU p p.length (Nat.le_refl _), List.take_length]
section
variable {S : List Nat} {w0 w : World} {its : List Thing}
theorem longs_spec (h : Hp S w0 w its) (j : Nat) {u : Thing} {s : Sl} {l : List Int} (hj : its[j]? = some u) (hu : Hp.Reads u s 1 iv l) (hl : l.length ≤ 1000000000) {K : Sl → World → Prop} (hK : ∀ r w', Hp S w0 w' (its ++ [tSl r 2 1 iv l]) → K r w') : c37 s w K := by
 refine c37_of ?_
 unfold f37
 obtain ⟨inf, q1, q2, q3, q4⟩ := FT.inf2
 have hlt0 := (List.getElem?_eq_some_iff.1 hj).1
 have hsl := h.lenU j (by rw [hj]; rfl) hu
 have h := h.nil 2 1 iv
 refine ⟨fun out t8 mm w' => ∃ k : Nat, t8 = k ∧ k ≤ l.length ∧ mm = l.length - k ∧ Hp S w0 w' (its ++ [tSl out 2 1 iv (l.take k)]), ⟨l.length, 0, rfl, by omega, rfl, h⟩, ?_⟩
 clear h
 rintro out t8 mm w2 ⟨k, rfl, hk, rfl, h⟩
 have hol := h.len (s := out) its.length (by rw [List.getElem?_concat_length]; rfl)
 rw [List.length_take] at hol
 by_cases hlt : k < l.length
 ·refine ifT (by simp; omega) ?_
  refine h.ixldU (k := .i .i64) (u := u) (y := l[k]) (x := l[k]) j (by rw [List.getElem?_append_left hlt0, hj]; rfl) hu (by omega) (by simp [hlt]) iv_len rfl ?_
  refine h.nwapp its.length (l[k]) (c := [_]) List.getElem?_concat_length iv_len FT.und34 q1 q3 q2 rfl rfl (by simp [iv, Value.oneCell']) (by rw [q4]; omega) (by omega) fun out2 w3 h _ _ => ?_
  rw [set_last, ← List.take_succ_eq_append_getElem hlt] at h
  exact ⟨l.length - (k + 1), by omega, k + 1, by rw [wr64 (by omega) (by omega)]; omega, by omega, rfl, h⟩
 ·refine ifF (by simp; omega) ?_
  rw [List.take_of_length_le (by omega)] at h
  exact hK out w2 h
theorem stGens_rng {m : PoolM} (hm : m.Ok) : R64 m.stGens ∧ m.stGens.length ≤ 200 ∧ R64 m.free ∧ m.free.length ≤ 200 := by
 have h200 := hm.len200
 refine ⟨fun x hx => ?_, by unfold PoolM.stGens; rw [List.length_mapIdx]; exact h200, fun x hx => ?_, FI.Ok.free200 hm⟩
 ·unfold PoolM.stGens at hx
  obtain ⟨i, hi, rfl⟩ := List.mem_mapIdx.1 hx
  have := hm.gens _ (List.getElem_mem hi)
  split <;> omega
 ·have := hm.free x hx
  omega
set_option maxHeartbeats 4000000 in
theorem Snapshot_o {b : Nat} {a : WA} {q : WH} {u : Thing} (h : Hp S w0 w (q.all b a.m u)) (hok : a.Ok) (ht : Tabs a.ks a.row a.m.sets q.tabs) (hk : kinds q.xs = a.ks) {K : Sl → World → Prop}
  (hK : ∀ s w', Hp S w0 w' (q.all b a.m u ++ [tB s a.snap]) → K s w') : c17 (some ⟨b, 0, none⟩) w K := by
 refine c17_of ?_
 unfold f17
 obtain ⟨inf', z1, z2, z3, z4⟩ := FT.inf3
 obtain ⟨g1, g2, g3, g4⟩ := stGens_rng hok.pok
 have hl12 := hok.len
 have h4k := hok.four
 refine nns ?_
 refine h.ld (n := 1) (k := .p) (x := some ⟨q.pb, 0, none⟩) 0 rfl rfl ?_
 refine FI.State_h h 4 (m := a.pool) hok.pok rfl fun gs fs w1 h => ?_
 have h : Hp S w0 w1 (q.all b a.m u ++ [tSl gs 3 1 iv a.pool.stGens, tSl fs 3 1 iv a.pool.free]) := h
 refine longs_spec h 8 (u := tSl gs 3 1 iv a.pool.stGens) rfl Hp.rdSl (by omega) fun r w2 h => ?_
 have h := h.nil 5 1 u8v
 have h : Hp S w0 w2 (q.all b a.m u ++ [tSl gs 3 1 iv a.pool.stGens, tSl fs 3 1 iv a.pool.free, tSl r 2 1 iv a.pool.stGens, tB ⟨none, 0, 0⟩ []]) := by
  simpa using h
 have l1 := rowU_len a.pool.stGens
 have l2 := rowU_len a.pool.free
 refine FP.PutRow_spec h 11 10 rfl Hp.rdSl rfl Hp.rdSl g1 (by omega) (by simp) fun r2 w3 h => ?_
 rw [List.nil_append] at h
 have h : Hp S w0 w3 (q.all b a.m u ++ [tSl gs 3 1 iv a.pool.stGens, tSl fs 3 1 iv a.pool.free, tSl r 2 1 iv a.pool.stGens, tB ⟨none, 0, 0⟩ []] ++ [tB r2 (rowU a.pool.stGens)]) := h
 refine longs_spec h 9 (u := tSl fs 3 1 iv a.pool.free) rfl Hp.rdSl (by omega) fun r3 w4 h => ?_
 refine FP.PutRow_spec h 12 13 rfl Hp.rdSl rfl Hp.rdSl g3 (by omega) (by omega) fun b0 w5 h => ?_
 have h : Hp S w0 w5 (q.all b a.m u ++ [tSl gs 3 1 iv a.pool.stGens, tSl fs 3 1 iv a.pool.free, tSl r 2 1 iv a.pool.stGens, tB ⟨none, 0, 0⟩ [], tB r2 (rowU a.pool.stGens), tSl r3 2 1 iv a.pool.free] ++ [tB b0 (rowU a.pool.stGens ++ rowU a.pool.free)]) := h
 have h := h.cutMid
 refine Rows_o h hok ht hk fun r4 w6 h => ?_
 obtain ⟨xs, hxs, h⟩ := h.nest_open (i := 9) (e := 92) (n := 3) (cells := rdv) (sub := tPs) (vis := rvis) (s := r4) (l := a.rows) rfl
 obtain ⟨pre, hpre⟩ : ∃ pre, pre = rowU a.pool.stGens ++ rowU a.pool.free := ⟨_, rfl⟩
 have hprel : pre.length ≤ 5000 := by rw [hpre, List.length_append]; omega
 have h : Hp S w0 w6 (q.all b a.m u ++ [tB b0 (pre ++ []), tSl r4 92 3 rdv xs, tAll (xs.map tPs)]) := by
  rw [List.append_nil, hpre]; exact h
 have hrl := h.len (s := r4) 9 rfl
 have hxl : xs.length = a.all.length := by
  have := congrArg List.length hxs
  unfold WA.rows at this
  simpa using this
 have hal : a.all.length ≤ 200 := by
  have h1 := PoolM.allU_len a.pool a.pool.gens.length
  have h2 := hok.pok.len200
  show (a.pool.allU a.pool.gens.length).length ≤ 200
  omega
 obtain ⟨acc, hacc⟩ : ∃ acc : Nat → List Int, acc = fun k => (a.all.take k).flatMap fun e => snapRow ((a.row e).getD []) := ⟨_, rfl⟩
 have haccl : ∀ k, (acc k).length ≤ 490 * k := by
  intro k
  rw [hacc]
  induction k with
  | zero => simp
  | succ k ih =>
   dsimp only at ih ⊢
   by_cases hkl : k < a.all.length
   ·rw [List.take_succ_eq_append_getElem hkl, List.flatMap_append, List.length_append]
    obtain ⟨p, hr⟩ := all_lives hok (List.getElem_mem hkl)
    simp only [List.flatMap_cons, List.flatMap_nil, List.append_nil, hr]
    unfold snapRow
    rw [List.length_append]
    have e1 := putU_len (setI p)
    have e2 := encZ_len (flat p)
    have e3 := (ht.fit _ p hr).all
    have e4 := atF_le h4k (setI p) a.ks.length
    have e5 : (putU (setI p)).length + (encZ (flat p)).length ≤ 490 := by omega
    have e6 : 490 * (k + 1) = 490 * k + 490 := rfl
    rw [e6]
    exact Nat.add_le_add ih e5
   ·rw [List.take_of_length_le (by omega)]
    rw [List.take_of_length_le (by omega)] at ih
    omega
 refine ⟨fun b2 t29 mm w' => ∃ k : Nat, t29 = k ∧ k ≤ xs.length ∧ mm = xs.length - k ∧ Hp S w0 w' (q.all b a.m u ++ [tB b2 (pre ++ acc k), tSl r4 92 3 rdv xs, tAll (xs.map tPs)]), ⟨xs.length, 0, rfl, by omega, rfl, by rw [hacc]; exact h⟩, ?_⟩
 clear h
 rintro b2 t29 mm w7 ⟨k, rfl, hkk, rfl, h⟩
 by_cases hlt : k < xs.length
 ·refine ifT (by simp; omega) ?_
  have hx : xs[k]? = some xs[k] := by simp [hlt]
  have hak : a.all[k]? = some (a.all[k]'(by omega)) := by simp [show k < a.all.length by omega]
  have hvis : rvis xs[k] = a.rowT (a.all[k]'(by omega)) := by
   have h1 : (xs.map rvis)[k]? = some (rvis xs[k]) := by rw [List.getElem?_map, hx]; rfl
   rw [hxs] at h1
   unfold WA.rows at h1
   rw [List.getElem?_map, hak] at h1
   exact (Option.some.inj h1).symm
  obtain ⟨p, hr⟩ := all_lives hok (List.getElem_mem (show k < a.all.length by omega))
  have hstep : acc (k + 1) = acc k ++ (putU (setI p) ++ encZ (flat p)) := by
   rw [hacc]
   dsimp only
   rw [List.take_succ_eq_append_getElem (show k < a.all.length by omega), List.flatMap_append]
   simp only [List.flatMap_cons, List.flatMap_nil, List.append_nil, hr]
   rfl
  generalize xs[k] = x at hx hvis
  generalize a.all[k]'(by omega) = e0 at hak hvis hr
  obtain ⟨e, ps, parts⟩ := x
  unfold rvis WA.rowT at hvis
  obtain ⟨rfl, hparts⟩ := Prod.mk.inj hvis
  rw [hr] at hparts
  have hparts : parts = partsOf p := hparts
  subst hparts
  have hfit := ht.fit e p hr
  have hp12 : p.length ≤ 12 := by rw [hfit.1]; omega
  have hs1 := setI_lt hp12
  have hs0 := setI_nn p
  have hset : a.m.sets e = some (setI p) := by show (a.row e).map setI = _; rw [hr]; rfl
  have hrng := hok.rng e p hr
  have hfl48 : (flat p).length ≤ 48 := by
   have := atF_le h4k (setI p) a.ks.length
   rw [hfit.all]; omega
  have hak2 := haccl k
  refine h.ixr (s := r4) (l := xs) (f := rdv) (n := 3) (e := 92) 9 rfl (by omega) (by rw [Int.toNat_natCast]; exact hx) rdv_len fun ad hc => ?_
  refine ldR0 (k := .i .i64) (x := e.1) (hc 0 (by omega)) rfl ?_
  refine ldR (k := .i .i64) (x := e.2) (hc 1 (by omega)) rfl ?_
  refine ldR (k := .sl) (x := ps) (hc 2 (by omega)) rfl ?_
  refine h.nw (c := [_, _, _]) fun rb w8 h => ?_
  have h := h.up
  refine h.st0 8 rfl (by simp) rfl fun w9 h => ?_
  refine h.st (n := 1) 8 rfl (by simp) rfl fun w10 h => ?_
  refine h.st (n := 2) 8 rfl (by simp) rfl fun w11 h => ?_
  have h : Hp S w0 w11 (q.all b a.m u ++ (tBlk rb 92 [.int .i64 e.1, .int .i64 e.2, .slice ps.a ps.len ps.cap] :: [tB b2 (pre ++ acc k), tSl r4 92 3 rdv xs, tAll (xs.map tPs)])) := h
  refine h.dr fun w12 h => ?_
  refine nns ?_
  refine h.ld (n := 2) (k := .m) (x := some q.ms) 0 rfl rfl ?_
  refine h.ld0 (k := .i .i64) (x := e.1) 8 rfl rfl ?_
  refine h.ld (n := 1) (k := .i .i64) (x := e.2) 8 rfl rfl ?_
  refine h.lookup1 (kd := .i .i64) (vk := id) (z := (0 : Int)) (ek := entV) (ev := Value.int .i64) (g := a.m.sets) (k := e) 5 rfl rfl und98 keyEnt z1 z2 (fun _ => rfl) ?_
  rw [hset]
  dsimp only [id_eq]
  rw [FP.w64, Int.emod_eq_of_lt hs0 (by omega)]
  refine FP.Put_spec h 9 rfl Hp.rdSl hs0 (by omega) (by rw [List.length_append]; omega) fun b3 w13 h => ?_
  have h := h.up
  have h : Hp S w0 w13 ((q.all b a.m u ++ [tB b3 (pre ++ acc k ++ putU (setI p)), tBlk rb 92 [.int .i64 e.1, .int .i64 e.2, .slice ps.a ps.len ps.cap]]) ++ [tB b2 (pre ++ acc k)] ++ [tSl r4 92 3 rdv xs, tAll (xs.map tPs)]) := h
  have h := h.cutMid
  refine h.ld (n := 2) (k := .sl) (x := ps) 9 rfl rfl ?_
  have h := h.pick (i := 11) (k := k) (t := tPs (e, ps, partsOf p)) rfl (by rw [List.getElem?_map, hx]; rfl) rfl
  obtain ⟨ys, hys, h⟩ := h.nest_open (i := 12) (e := 62) (n := 2) (cells := pdv) (sub := tV) (vis := pvis) (s := ps) (l := partsOf p) rfl
  obtain ⟨pre2, hpre2⟩ : ∃ pre2, pre2 = pre ++ acc k ++ putU (setI p) := ⟨_, rfl⟩
  have hpre2l : pre2.length ≤ 200000 := by
   have := putU_len (setI p)
   rw [hpre2, List.length_append, List.length_append]; omega
  obtain ⟨T', hT'⟩ : ∃ T', T' = tAll ((xs.map tPs).set k tEmp) := ⟨_, rfl⟩
  have h : Hp S w0 w13 (q.all b a.m u ++ [tB b3 (pre2 ++ []), tBlk rb 92 [.int .i64 e.1, .int .i64 e.2, .slice ps.a ps.len ps.cap], tSl r4 92 3 rdv xs, T', tSl ps 62 2 pdv ys, tAll (ys.map tV)]) := by
   rw [List.append_nil, hpre2, hT']; exact h
  have hpsl := h.len (s := ps) 12 rfl
  have hyl : ys.length = (partsOf p).length := by rw [← hys, List.length_map]
  have hpl12 : (partsOf p).length ≤ 12 := by have := partsU_len p p.length; unfold partsOf; omega
  have htotal := enc_parts p
  have hy4 : ∀ y ∈ partsOf p, y.2.length ≤ 48 ∧ R64 y.2 := by
   intro y hy
   have : ∀ k, ∀ y ∈ partsU p k, some y.2 ∈ p := by
    intro k
    induction k with
    | zero => simp [partsU]
    | succ k ih =>
     intro y hy
     rw [partsU] at hy
     rcases List.mem_append.1 hy with hy | hy
     ·exact ih y hy
     ·split at hy
      ·rename_i v hv
       simp only [List.mem_singleton] at hy
       subst hy
       exact List.mem_of_getElem? (getD_some hv)
      ·cases hy
   have hm := this _ y hy
   refine ⟨?_, fun z hz => hrng z (List.mem_flatMap.2 ⟨some y.2, hm, hz⟩)⟩
   obtain ⟨i, hi⟩ := List.getElem?_of_mem hm
   have := flat_split hi
   have hl := congrArg List.length this
   simp only [List.length_append, Option.getD_some] at hl
   omega
  obtain ⟨accP, haccP⟩ : ∃ accP : Nat → List Int, accP = fun j => ((partsOf p).take j).flatMap fun x => encZ x.2 := ⟨_, rfl⟩
  have haccPl : ∀ j, (accP j).length ≤ 480 * j := by
   intro j
   rw [haccP]
   induction j with
   | zero => simp
   | succ j ih =>
    dsimp only at ih ⊢
    by_cases hjl : j < (partsOf p).length
    ·rw [List.take_succ_eq_append_getElem hjl, List.flatMap_append, List.length_append]
     simp only [List.flatMap_cons, List.flatMap_nil, List.append_nil]
     have e1 := encZ_len ((partsOf p)[j]).2
     have e2 := (hy4 _ (List.getElem_mem hjl)).1
     omega
    ·rw [List.take_of_length_le (by omega)]
     rw [List.take_of_length_le (by omega)] at ih
     omega
  refine ⟨fun b4 t46 mm2 w' => ∃ j : Nat, t46 = j ∧ j ≤ ys.length ∧ mm2 = ys.length - j ∧ Hp S w0 w' (q.all b a.m u ++ [tB b4 (pre2 ++ accP j), tBlk rb 92 [.int .i64 e.1, .int .i64 e.2, .slice ps.a ps.len ps.cap], tSl r4 92 3 rdv xs, T', tSl ps 62 2 pdv ys, tAll (ys.map tV)]), ⟨ys.length, 0, rfl, by omega, rfl, by rw [haccP]; exact h⟩, ?_⟩
  clear h
  rintro b4 t46 mm2 w14 ⟨j, rfl, hjj, rfl, h⟩
  by_cases hjlt : j < ys.length
  ·refine ifT (by simp; omega) ?_
   have hy : ys[j]? = some ys[j] := by simp [hjlt]
   have hpj : (partsOf p)[j]? = some (pvis ys[j]) := by rw [← hys, List.getElem?_map, hy]; rfl
   generalize ys[j] = y at hy hpj
   obtain ⟨kd, sv, v⟩ := y
   have hpj : (partsOf p)[j]? = some (kd, v) := hpj
   have hstepP : accP (j + 1) = accP j ++ encZ v := by
    rw [haccP]
    dsimp only
    have hjl := (List.getElem?_eq_some_iff.1 hpj).1
    have hje := (List.getElem?_eq_some_iff.1 hpj).2
    rw [List.take_succ_eq_append_getElem hjl, List.flatMap_append, hje]
    simp
   have hv := hy4 _ (List.mem_of_getElem? hpj)
   have haj := haccPl j
   have hv1 : v.length ≤ 48 := hv.1
   refine h.ixr (s := ps) (l := ys) (f := pdv) (n := 2) (e := 62) 12 rfl (by omega) (by rw [Int.toNat_natCast]; exact hy) pdv_len fun ad2 hc2 => ?_
   refine ldR0 (k := .i .i64) (x := kd) (hc2 0 (by omega)) rfl ?_
   refine ldR (k := .sl) (x := sv) (hc2 1 (by omega)) rfl ?_
   refine h.nw (c := [_, _]) fun pb w15 h => ?_
   have h := h.up
   refine h.st0 8 rfl (by simp) rfl fun w16 h => ?_
   refine h.st (n := 1) 8 rfl (by simp) rfl fun w17 h => ?_
   have h : Hp S w0 w17 (q.all b a.m u ++ [tBlk pb 62 [.int .i64 kd, .slice sv.a sv.len sv.cap], tB b4 (pre2 ++ accP j ++ encZ (v.take 0)), tBlk rb 92 [.int .i64 e.1, .int .i64 e.2, .slice ps.a ps.len ps.cap], tSl r4 92 3 rdv xs, T', tSl ps 62 2 pdv ys, tAll (ys.map tV)]) := by
    have e0 : encZ (v.take 0) = [] := rfl
    rw [e0, List.append_nil]; exact h
   have hrd : Hp.Reads (tAll (ys.map tV)) sv 1 iv v := ⟨fun {w O} hO => by
    obtain ⟨O1, O2, g, _⟩ := tAll_pick (k := j) (t := tV (kd, sv, v)) (by rw [List.getElem?_map, hy]; rfl) hO
    exact ⟨O1, SlF.toR g⟩⟩
   have hvl := h.lenU 14 (u := tAll (ys.map tV)) rfl hrd
   refine h.ld (n := 1) (k := .sl) (x := sv) 8 rfl rfl ?_
   refine ⟨fun b5 t53 mm3 w' => ∃ i : Nat, t53 = i ∧ i ≤ v.length ∧ mm3 = v.length - i ∧ Hp S w0 w' (q.all b a.m u ++ [tBlk pb 62 [.int .i64 kd, .slice sv.a sv.len sv.cap], tB b5 (pre2 ++ accP j ++ encZ (v.take i)), tBlk rb 92 [.int .i64 e.1, .int .i64 e.2, .slice ps.a ps.len ps.cap], tSl r4 92 3 rdv xs, T', tSl ps 62 2 pdv ys, tAll (ys.map tV)]), ⟨v.length, 0, rfl, by omega, rfl, h⟩, ?_⟩
   clear h
   rintro b5 t53 mm3 w18 ⟨i, rfl, hii, rfl, h⟩
   by_cases hilt : i < v.length
   ·refine ifT (by simp; omega) ?_
    have hvi : v[i]? = some v[i] := by simp [hilt]
    have hsz : encZ (v.take (i + 1)) = encZ (v.take i) ++ putU (zig v[i]) := by
     unfold encZ
     rw [List.take_succ_eq_append_getElem hilt, List.flatMap_append]; simp
    have hvr := hv.2 v[i] (List.getElem_mem hilt)
    have hel := encZ_len (v.take i)
    rw [List.length_take] at hel
    generalize v[i] = z at hvi hsz hvr
    refine h.ixldU (k := .i .i64) (u := tAll (ys.map tV)) (y := z) (x := z) 14 rfl hrd (by omega) (by rw [Int.toNat_natCast]; exact hvi) iv_len rfl ?_
    refine FP.PutInt_spec h 9 rfl Hp.rdSl hvr.1 hvr.2 (by rw [List.length_append, List.length_append]; omega) fun b6 w19 h => ?_
    have h := h.up
    have h : Hp S w0 w19 ((q.all b a.m u ++ [tB b6 (pre2 ++ accP j ++ encZ (v.take i) ++ putU (zig z)), tBlk pb 62 [.int .i64 kd, .slice sv.a sv.len sv.cap]]) ++ [tB b5 (pre2 ++ accP j ++ encZ (v.take i))] ++ [tBlk rb 92 [.int .i64 e.1, .int .i64 e.2, .slice ps.a ps.len ps.cap], tSl r4 92 3 rdv xs, T', tSl ps 62 2 pdv ys, tAll (ys.map tV)]) := h
    have h := h.cutMid
    have h : Hp S w0 w19 (q.all b a.m u ++ [tB b6 (pre2 ++ accP j ++ encZ (v.take i) ++ putU (zig z))] ++ [tBlk pb 62 [.int .i64 kd, .slice sv.a sv.len sv.cap]] ++ [tBlk rb 92 [.int .i64 e.1, .int .i64 e.2, .slice ps.a ps.len ps.cap], tSl r4 92 3 rdv xs, T', tSl ps 62 2 pdv ys, tAll (ys.map tV)]) := h
    have h := h.mid
    refine ⟨v.length - (i + 1), by omega, i + 1, by rw [wr64 (by omega) (by omega)]; omega, by omega, rfl, ?_⟩
    rw [hsz, ← List.append_assoc]
    exact h
   ·refine ifF (by simp; omega) ?_
    rw [List.take_of_length_le (by omega)] at h
    have h : Hp S w0 w18 (q.all b a.m u ++ [tBlk pb 62 [.int .i64 kd, .slice sv.a sv.len sv.cap]] ++ [tB b5 (pre2 ++ accP j ++ encZ v), tBlk rb 92 [.int .i64 e.1, .int .i64 e.2, .slice ps.a ps.len ps.cap], tSl r4 92 3 rdv xs, T', tSl ps 62 2 pdv ys, tAll (ys.map tV)]) := h
    have h := h.cutMid
    refine ⟨ys.length - (j + 1), by omega, j + 1, by rw [wr64 (by omega) (by omega)]; omega, by omega, rfl, ?_⟩
    rw [hstepP, ← List.append_assoc]
    exact h
  ·refine ifF (by simp; omega) ?_
   have haP : accP j = encZ (flat p) := by
    rw [haccP]
    dsimp only
    rw [List.take_of_length_le (by omega), htotal]
   rw [haP, hT'] at h
   have h := h.nest_close (i := 12) (j := 13) (e := 62) (n := 2) (cells := pdv) (sub := tV) (vis := pvis) (s := ps) (xs := ys) (l := partsOf p) (by decide) rfl rfl hys
   have hkx : k < (xs.map tPs).length := by simpa using hlt
   have h := h.unpick (i := 11) (j := 12) (k := k) (ts := (xs.map tPs).set k tEmp) (t := tPs (e, ps, partsOf p)) (by decide) rfl rfl (by rw [List.getElem?_set_self hkx]) rfl
   rw [List.set_set] at h
   have eb : (xs.map tPs).set k (tPs (e, ps, partsOf p)) = xs.map tPs := Hp.set_same' (by rw [List.getElem?_map, hx]; rfl)
   rw [eb] at h
   have h : Hp S w0 w14 (q.all b a.m u ++ [tB b4 (pre2 ++ encZ (flat p)), tBlk rb 92 [.int .i64 e.1, .int .i64 e.2, .slice ps.a ps.len ps.cap], tSl r4 92 3 rdv xs, tAll (xs.map tPs)] ++ [tEmp, tEmp]) := h
   have h := h.front
   have h : Hp S w0 w14 ((q.all b a.m u ++ [tB b4 (pre2 ++ encZ (flat p))]) ++ [tBlk rb 92 [.int .i64 e.1, .int .i64 e.2, .slice ps.a ps.len ps.cap]] ++ [tSl r4 92 3 rdv xs, tAll (xs.map tPs)]) := h
   have h := h.cutMid
   refine ⟨xs.length - (k + 1), by omega, k + 1, by rw [wr64 (by omega) (by omega)]; omega, by omega, rfl, ?_⟩
   rw [hstep]
   rw [hpre2] at h
   simp only [List.append_assoc] at h ⊢
   exact h
 ·refine ifF (by simp; omega) ?_
  have hfin : pre ++ acc k = a.snap := by
   rw [hpre, hacc]
   dsimp only
   rw [List.take_of_length_le (by omega)]
   rfl
  rw [hfin] at h
  have h : Hp S w0 w7 (q.all b a.m u ++ [tB b2 a.snap] ++ [tSl r4 92 3 rdv xs, tAll (xs.map tPs)]) := h
  exact hK b2 w7 h.front
theorem Snapshot_W (h : Hp S w0 w its) (i : Nat) {b : Nat} {a : WA} (hi : its[i]? = some (tW b a)) {K : Sl → World → Prop}
  (hK : ∀ s w', Hp S w0 w' (its ++ [tB s a.snap]) → K s w') : c17 (some ⟨b, 0, none⟩) w K := by
 obtain ⟨O, h1, back⟩ := h.f1 hi rfl
 clear h
 obtain ⟨q, hok, ht, hk, h⟩ := W_open h1
 rw [List.append_nil] at h
 refine Snapshot_o h hok ht hk fun s w' h => ?_
 exact hK s w' (W_fin hi back rfl (W_shut (rest := [_]) (m := a.m) hok ht hk rfl rfl h))
end
def kvis (x : KS) : ByteArray × List ByteArray := (x.1, x.2.2)
def tKinds (s : Sl) (l : KD) : Thing := tNest 87 2 kdv tF kvis s l
def WA.new (ks : KD) : WA := ⟨ks, ⟨200, [], [], []⟩, fun _ => none⟩
theorem WA.new_ok {ks : KD} (h : mayOk ks) : (WA.new ks).Ok := by
 refine ⟨FI.ok2_new (by decide) (by decide), rfl, h, fun e => ?_, fun e p hp => by cases hp⟩
 show false = PoolM.is ⟨200, [], [], []⟩ e.1 e.2
 unfold PoolM.is PoolM.lives
 simp
theorem words_of {L : List ByteArray} (h : (L.all fun x => decide (wordOk (strL x))) = true) (hn : L.Nodup) : wordsOk L := fun i hi => by
 refine ⟨of_decide_eq_true (List.all_eq_true.1 h _ (List.getElem_mem hi)), fun hm => ?_⟩
 obtain ⟨j, hj, he⟩ := List.mem_iff_getElem.1 hm
 rw [List.getElem_take] at he
 have := (List.getElem?_inj (i := j) (j := i) (by simp at hj; omega) hn).1 (by simp only [List.getElem?_eq_getElem (show j < L.length by simp at hj; omega), List.getElem?_eq_getElem hi, he])
 simp at hj; omega
section
variable {S : List Nat} {w0 w : World} {its : List Thing}
theorem New_W (h : Hp S w0 w its) (i : Nat) {s : Sl} {l : KD} (hi : its[i]? = some (tKinds s l)) (hl : l.length ≤ 1000000) (hsz : ∀ x ∈ l, x.1.size ≤ 1000000000000 ∧ ∀ y ∈ x.2, y.size ≤ 1000000000000) {K : Option Addr → Int → World → Prop}
  (hok : mayOk l → ∀ b w', Hp S w0 w' (its ++ [tW b (WA.new l)]) → K (some ⟨b, 0, none⟩) 0 w') (hno : ¬ mayOk l → ∀ w', Hp S w0 w' its → K none 65 w') : c11 s w K := by
 have hil := (List.getElem?_eq_some_iff.1 hi).1
 obtain ⟨xs, hxs, h⟩ := h.nest_open hi
 have hk : kinds xs = l := hxs
 have hxl : xs.length = l.length := by rw [← hxs, List.length_map]
 have e1 : (its.set i (tSl s 87 2 kdv xs) ++ [tAll (xs.map tF)])[i]? = some (tSl s 87 2 kdv xs) := by
  rw [List.getElem?_append_left (by simpa using hil), List.getElem?_set_self hil]
 have e2 : (its.set i (tSl s 87 2 kdv xs) ++ [tAll (xs.map tF)])[its.length]? = some (tAll (xs.map tF)) := by
  rw [List.getElem?_append_right (by simp)]; simp
 have back : ∀ {w' : World} {more : List Thing}, Hp S w0 w' (its.set i (tSl s 87 2 kdv xs) ++ [tAll (xs.map tF)] ++ more) → Hp S w0 w' (its ++ more) := fun {w' more} h => by
  have h := h.nest_close (i := i) (j := its.length) (e := 87) (n := 2) (cells := kdv) (sub := tF) (vis := kvis) (s := s) (xs := xs) (l := l) (by omega) (by rw [List.getElem?_append_left (by simp; omega)]; exact e1) (by rw [List.getElem?_append_left (by simp)]; exact e2) hxs
  have e3 : ((its.set i (tSl s 87 2 kdv xs) ++ [tAll (xs.map tF)] ++ more).set i (tNest 87 2 kdv tF kvis s l)).set its.length tEmp = its ++ [tEmp] ++ more := by
   rw [List.append_assoc, List.set_append_left _ _ (by simpa using hil), List.set_set, List.set_append_right _ _ (by simp), Hp.set_same' (x := tNest 87 2 kdv tF kvis s l) hi]
   simp
  rw [e3] at h
  exact h.cutMid
 refine New_spec h i its.length e1 e2 (by omega) (fun x hx => ?_) (fun hm b w' h => ?_) (fun hm w' h => ?_)
 ·have := hsz (x.1, x.2.2) (by rw [← hk]; exact List.mem_map.2 ⟨x, hx, rfl⟩)
  exact this
 ·rw [hk] at hm h
  refine hok hm b w' ?_
  have h := back h
  have h := h.putAnd (i := its.length) (p := (WA.new l).Ok ∧ Tabs l (fun _ => none) (WA.new l).m.sets []) ⟨WA.new_ok hm, Tabs.new l⟩ List.getElem?_concat_length rfl
  rw [set_last] at h
  have h := h.putEx (i := its.length) (f := fun T : List (Int × TabM) => tAnd ((WA.new l).Ok ∧ Tabs (WA.new l).ks (WA.new l).row (WA.new l).m.sets T) (tWorld b ⟨(WA.new l).ks, (WA.new l).pool, (WA.new l).m.sets, T⟩)) [] List.getElem?_concat_length rfl
  rw [set_last] at h
  exact h
 ·rw [hk] at hm
  refine hno hm w' ?_
  have h : Hp S w0 w' (its.set i (tSl s 87 2 kdv xs) ++ [tAll (xs.map tF)] ++ []) := by rw [List.append_nil]; exact h
  have := back h
  rwa [List.append_nil] at this
end
end Go.Proofs.Ythmbjlpgbkkjjaa.FW
end

section
namespace Go.Den
open Go
variable {κ ν : Type} [DecidableEq κ]
theorem nodup_lt' : ∀ (n : Nat) (L : List Nat), L.Nodup → (∀ x ∈ L, x < n) → L.length ≤ n
 | 0, L, _, h => by
  cases L with
  | nil => simp
  | cons x L => exact absurd (h x (by simp)) (by omega)
 | n + 1, L, hnd, h => by
  have h1 := nodup_lt' n (L.erase n) (hnd.erase n) (fun x hx => by
   have hm := (hnd.mem_erase_iff).1 hx
   have := h x hm.2
   have := hm.1
   omega)
  have h2 := List.length_erase (a := n) (l := L)
  split at h2 <;> omega
theorem nodup_all : ∀ (n : Nat) (L : List Nat), (∀ j, j < n → j ∈ L) → n ≤ L.length
 | 0, _, _ => Nat.zero_le _
 | n + 1, L, h => by
  have h1 := nodup_all n (L.erase n) (fun j hj => (List.mem_erase_of_ne (by omega)).2 (h j (by omega)))
  rw [List.length_erase_of_mem (h n (by omega))] at h1
  have : 0 < L.length := List.length_pos_of_mem (h n (by omega))
  omega
def MapIs (w : World) (b : Nat) (ek : κ → Value) (ev : ν → Value) (g : κ → Option ν) (es : Array MapEntry) (clock : Nat) (l : List (κ × ν)) : Prop :=
 w.heap[b]? = some (.map es clock) ∧ es.toList.map (fun e => (e.key, e.val)) = l.map (fun p => (ek p.1, ev p.2)) ∧ Stamps (es.toList.map (·.born)) clock ∧ (l.map (·.1)).Nodup ∧ ∀ k, mget l k = g k
def tRan (b r : Nat) (ek : κ → Value) (ev : ν → Value) (g : κ → Option ν) (N : Nat) (done : List κ) : Thing :=
  { holds := fun w O => O = [b, r] ∧ b ≠ r ∧ ∃ es clock l seen last, MapIs w b ek ev g es clock l ∧ w.heap[r]? = some (.mapIter (some b) clock seen last) ∧ clock ≤ last ∧ (done = [] ∨ last = clock) ∧ l.length = N ∧
      done.Nodup ∧ ∃ js : List Nat, js.length = done.length ∧ seen.toList = js.map (fun j => (es.toList.map (·.born)).getD j 0) ∧ (∀ n j : Nat, js[n]? = some j → ∃ p, l[j]? = some p ∧ done[n]? = some p.1)
    fr := fun {S w w' O} h hf hn => by
      obtain ⟨rfl, hbr, es, clock, l, seen, last, ⟨h1, h2⟩, h3, h4⟩ := h
      exact ⟨rfl, hbr, es, clock, l, seen, last, ⟨(hf.block b (Array.getElem?_eq_some_iff.1 h1).1 (hn b (by simp))).trans h1, h2⟩, (hf.block r (Array.getElem?_eq_some_iff.1 h3).1 (hn r (by simp))).trans h3, h4⟩
    lt := fun {w O} h k hk => by
      obtain ⟨rfl, hbr, es, clock, l, seen, last, ⟨h1, h2⟩, h3, h4⟩ := h
      simp only [List.mem_cons, List.not_mem_nil, or_false] at hk
      rcases hk with rfl | rfl
      · exact (Array.getElem?_eq_some_iff.1 h1).1
      · exact (Array.getElem?_eq_some_iff.1 h3).1 }
theorem run_next_at {P : Program} (w : World) (ty : TypeId) (r bm since c0 : Nat) (seen : Array Nat) (es : Array MapEntry) (clock : Nat) (hr : w.heap[r]? = some (.mapIter (some bm) since seen c0)) (hb : w.heap[bm]? = some (.map es clock)) (hold : ∀ x ∈ es.toList, x.born < since) (hsc : since ≤ c0) :
  ((leftOf es seen).size = 0 ∧ (Instr.next (.pointer (some ⟨r, 0, none⟩)) false ty).run P w = .ok (.tuple #[.bool false]) w) ∨
  ∃ e ∈ (leftOf es seen).toList, ∃ w1 : World, (w1 = w ∨ w1 = w.drew) ∧ (Instr.next (.pointer (some ⟨r, 0, none⟩)) false ty).run P w = .ok (.tuple #[.bool true, e.key, e.val]) ({ w1 with heap := w1.heap.setIfInBounds r (.mapIter (some bm) since (seen.push e.born) clock) }) := by
 simp only [Instr.next, getObj, Sem.run_bind, Sem.run, hr, hb, Result.andThen, next_test_false seen es since c0 hold hsc, Bool.false_eq_true, if_false]
 unfold leftOf
 have hmem : ∀ x ∈ (Array.filter (fun e => !seen.contains e.born) es).toList, x.born < since := fun x hx => hold x (by simp at hx ⊢; exact hx.1)
 generalize Array.filter (fun e => !seen.contains e.born) es = L at hmem ⊢
 have e1 : L.filter (fun x => decide (x.born < since)) = L := Array.filter_eq_self.2 (fun x hx => by simpa using hmem x (by simpa using hx))
 have e2 : L.filter (fun x => decide (x.born ≥ since)) = #[] := by
  rw [Array.filter_eq_empty_iff]
  intro x hx
  have := hmem x (by simpa using hx)
  simp
  omega
 simp only [e1, e2, Array.append_empty]
 by_cases h0 : L.size = 0
 ·left
  have : L = #[] := Array.eq_empty_of_size_eq_zero h0
  subst this
  refine ⟨rfl, ?_⟩
  simp [choose, Sem.run, Question.forced]
 ·right
  have hne : L.isEmpty = false := by simp [Array.isEmpty, h0]
  simp only [hne, Bool.false_eq_true, if_false, Array.empty_append, Array.size_map]
  have hch : ∃ (j : Nat) (w1 : World), j < L.size ∧ (w1 = w ∨ w1 = w.drew) ∧ (choose (Question.mapNext L.size)).run P w = .ok j w1 := by
   by_cases hf : L.size ≤ 1
   ·exact ⟨0, w, by omega, .inl rfl, by simp [choose, Sem.run, Question.forced, hf]⟩
   ·exact ⟨_, w.drew, Nat.mod_lt _ (by omega), .inr rfl, by
     simp only [choose, Sem.run, Question.forced, decide_eq_true_eq, hf, if_false, Question.cut]
     rfl⟩
  obtain ⟨j, w1, hj, hal, hrun⟩ := hch
  refine ⟨L[j], by simp, w1, hal, ?_⟩
  have hr1 : w1.heap[r]? = some (.mapIter (some bm) since seen c0) := by rcases hal with rfl | rfl <;> exact hr
  have hset : ∀ o' : Obj, (setObj r o').run P w1 = .ok () { w1 with heap := w1.heap.setIfInBounds r o' } := fun o' => by
   simp only [setObj, Sem.run]
   rw [hr1]
  simp only [hrun, Array.getElem?_map, Array.getElem?_eq_getElem hj, Option.map_some, Sem.run_bind, hset, Result.andThen]
  rfl
theorem left_at {es : Array MapEntry} {seen : Array Nat} {e : MapEntry} (he : e ∈ (leftOf es seen).toList) : ∃ j : Nat, es.toList[j]? = some e ∧ e.born ∉ seen.toList := by
 have := mem_left he
 obtain ⟨j, hj⟩ := List.getElem?_of_mem this.1
 refine ⟨j, hj, fun hm => ?_⟩
 have h2 := this.2
 simp only [Array.contains_eq_mem, decide_eq_false_iff_not] at h2
 exact h2 (Array.mem_toList_iff.1 hm)
namespace Hp
variable {S : List Nat} {w0 w : World} {its : List Thing} {P : Program} {ek : κ → Value} {ev : ν → Value} {g : κ → Option ν}
theorem range_start (h : Hp S w0 w its) (i : Nat) {b : Nat} {mt kt vt : TypeId} {K : Option Addr → World → Prop} (hi : its[i]? = some (tMp b ek ev g)) (hm : P.underlying mt = some (.map kt vt))
  (hK : ∀ r N w', Hp S w0 w' (its.set i (tRan b r ek ev g N [])) → K (some ⟨r, 0, none⟩) w') : Run .p P (Instr.range mt (.map (some b))) w K := by
 obtain ⟨O, ⟨l, ⟨⟨es, clock, hb, hes, hst⟩, rfl⟩, hnd, hg⟩, back⟩ := h.step hi rfl
 have hlt := (Array.getElem?_eq_some_iff.1 hb).1
 refine ⟨some ⟨w.heap.size, 0, none⟩, w.alloc (.mapIter (some b) clock #[] clock), run_range_map w mt kt vt b es clock hm hb, hK _ l.length _ ?_⟩
 refine back ((Fr.alloc w _).mono (by simp)) (t' := tRan b w.heap.size ek ev g l.length []) (O' := [b, w.heap.size]) ?_ (fun k hk => ?_) rfl
 ·refine ⟨rfl, by omega, es, clock, l, #[], clock, ⟨(heap_alloc_old w _ hlt).trans hb, hes, hst, hnd, hg⟩, heap_alloc_new w _, Nat.le_refl _, .inl rfl, rfl, by simp, [], rfl, rfl, by simp⟩
 ·simp only [List.mem_cons, List.not_mem_nil, or_false] at hk
  rcases hk with rfl | rfl
  ·exact .inl (by simp)
  ·exact .inr (Nat.le_refl _)
theorem range_next (h : Hp S w0 w its) (i : Nat) {b r N : Nat} {ty : TypeId} {done : List κ} {K0 : World → Prop} {K1 : Value → Value → World → Prop} (hi : its[i]? = some (tRan b r ek ev g N done))
  (h0 : (∀ k, (g k).isSome = true → k ∈ done) → done.length = N → Hp S w0 w its → K0 w)
  (h1 : ∀ k v x1 x2 w', g k = some v → k ∉ done → done.length < N → Hp S w0 w' (its.set i (tRan b r ek ev g N (done ++ [k]))) → K1 x1 x2 w') : NxM P (.pointer (some ⟨r, 0, none⟩)) ty w K0 K1 := by
 obtain ⟨O, ⟨rfl, hbr, es, clock, l, seen, last, ⟨hb, hes, hst, hnd, hg⟩, hr, hle, hlast, hN, hdn, js, hjl, hseen, hjs⟩, back⟩ := h.step hi rfl
 have hel : es.toList.length = l.length := by have := congrArg List.length hes; simpa using this
 have hold : ∀ x ∈ es.toList, x.born < clock := fun x hx => hst.2 _ (List.mem_map.2 ⟨x, hx, rfl⟩)
 have hbj : ∀ (j : Nat) (e : MapEntry), es.toList[j]? = some e → (es.toList.map (·.born)).getD j 0 = e.born := fun j e he => by
  rw [List.getD_eq_getElem?_getD, List.getElem?_map, he]; rfl
 have hinj : ∀ (i j : Nat), i < l.length → (es.toList.map (·.born)).getD i 0 = (es.toList.map (·.born)).getD j 0 → j < l.length → i = j := fun i j hi he hj => by
  refine (List.getElem?_inj (i := i) (j := j) (l := es.toList.map (·.born)) (by rw [List.length_map]; omega) hst.1).1 ?_
  rw [List.getD_eq_getElem?_getD, List.getD_eq_getElem?_getD] at he
  have a1 : (es.toList.map (·.born))[i]? = some ((es.toList.map (·.born))[i]'(by rw [List.length_map]; omega)) := List.getElem?_eq_getElem _
  have a2 : (es.toList.map (·.born))[j]? = some ((es.toList.map (·.born))[j]'(by rw [List.length_map]; omega)) := List.getElem?_eq_getElem _
  rw [a1, a2] at he ⊢
  simpa using he
 have keyInj : ∀ (i j : Nat) (p q : κ × ν), l[i]? = some p → l[j]? = some q → p.1 = q.1 → i = j := fun i j p q hi hj he =>
  (List.getElem?_inj (i := i) (j := j) (l := l.map (·.1)) (by simpa using (List.getElem?_eq_some_iff.1 hi).1) hnd).1 (by rw [List.getElem?_map, List.getElem?_map, hi, hj]; simp [he])
 have hjlt : ∀ n j : Nat, js[n]? = some j → j < l.length := fun n j hn => by
  obtain ⟨p, hp, _⟩ := hjs n j hn
  exact (List.getElem?_eq_some_iff.1 hp).1
 have hjnd : js.Nodup := by
  rw [List.nodup_iff_pairwise_ne, List.pairwise_iff_getElem]
  intro n m hn0 hm hnm he
  have hm' : js[m]? = some js[m] := List.getElem?_eq_getElem hm
  obtain ⟨p, hp, hd⟩ := hjs m _ hm'
  obtain ⟨p', hp', hd'⟩ := hjs n js[m] (by rw [List.getElem?_eq_getElem hn0, he])
  rw [hp] at hp'
  obtain rfl := Option.some.inj hp'
  have := (List.getElem?_inj (i := n) (j := m) (l := done) (by omega) hdn).1 (by rw [hd, hd'])
  omega
 have hdl : done.length ≤ l.length := by
  rw [← hjl]
  exact nodup_lt' l.length js hjnd (fun x hx => by
   obtain ⟨n, hn⟩ := List.getElem?_of_mem hx
   exact hjlt n x hn)
 rcases run_next_at (P := P) w ty r b clock last seen es clock hr hb hold hle with ⟨hz, hrun⟩ | ⟨e, he, w1, hw1, hrun⟩
 ·refine ⟨_, _, hrun, .inl ⟨rfl, h0 (fun k hk => ?_) ?_ h⟩⟩
  ·obtain ⟨v, hv⟩ := Option.isSome_iff_exists.1 hk
   rw [← hg, mget_eq] at hv
   obtain ⟨p, hp, rfl⟩ := Option.map_eq_some_iff.1 hv
   have hpk := List.find?_some hp
   simp only [decide_eq_true_eq] at hpk
   obtain ⟨j, hj⟩ := List.getElem?_of_mem (List.mem_of_find?_eq_some hp)
   have hjl2 := (List.getElem?_eq_some_iff.1 hj).1
   have hej : es.toList[j]? = some (es.toList[j]'(by omega)) := List.getElem?_eq_getElem _
   have hin : (es.toList[j]'(by omega)).born ∈ seen.toList := by
    refine Classical.byContradiction fun hno => ?_
    have hm : (es.toList[j]'(by omega)) ∈ (leftOf es seen).toList := by
     unfold leftOf
     rw [Array.toList_filter, List.mem_filter]
     refine ⟨List.getElem_mem _, ?_⟩
     simp only [Array.contains_eq_mem, Bool.not_eq_true', decide_eq_false_iff_not]
     exact fun hm => hno (Array.mem_toList_iff.2 hm)
    have : (leftOf es seen).toList = [] := by
     rw [← List.length_eq_zero_iff, Array.length_toList]; exact hz
    rw [this] at hm
    cases hm
   rw [hseen] at hin
   obtain ⟨j', hj', hbe⟩ := List.mem_map.1 hin
   obtain ⟨n, hn⟩ := List.getElem?_of_mem hj'
   have hlt' := hjlt n j' hn
   rw [← hbj j _ hej] at hbe
   have := hinj j' j hlt' hbe hjl2
   subst this
   obtain ⟨q, hq, hdq⟩ := hjs n j' hn
   rw [hj] at hq
   obtain rfl := Option.some.inj hq
   rw [hpk] at hdq
   exact List.mem_of_getElem? hdq
  ·-- all have come
   have hall : ∀ j, j < l.length → j ∈ js := fun j hj => by
    have hej : es.toList[j]? = some (es.toList[j]'(by omega)) := List.getElem?_eq_getElem _
    have hin : (es.toList[j]'(by omega)).born ∈ seen.toList := by
     refine Classical.byContradiction fun hno => ?_
     have hm : (es.toList[j]'(by omega)) ∈ (leftOf es seen).toList := by
      unfold leftOf
      rw [Array.toList_filter, List.mem_filter]
      refine ⟨List.getElem_mem _, ?_⟩
      simp only [Array.contains_eq_mem, Bool.not_eq_true', decide_eq_false_iff_not]
      exact fun hm => hno (Array.mem_toList_iff.2 hm)
     have : (leftOf es seen).toList = [] := by
      rw [← List.length_eq_zero_iff, Array.length_toList]; exact hz
     rw [this] at hm
     cases hm
    rw [hseen] at hin
    obtain ⟨j', hj', hbe⟩ := List.mem_map.1 hin
    obtain ⟨n, hn⟩ := List.getElem?_of_mem hj'
    rw [← hbj j _ hej] at hbe
    have := hinj j' j (hjlt n j' hn) hbe hj
    subst this
    exact hj'
   have := nodup_all l.length js hall
   omega
 ·obtain ⟨j, hej, hnew⟩ := left_at he
  have hjl2 : j < l.length := by have := (List.getElem?_eq_some_iff.1 hej).1; omega
  have hlj : l[j]? = some l[j] := List.getElem?_eq_getElem hjl2
  have hkv : e.key = ek (l[j]).1 ∧ e.val = ev (l[j]).2 := by
   have := congrArg (fun x => x[j]?) hes
   simp only [List.getElem?_map, hej, hlj, Option.map_some, Option.some.injEq, Prod.mk.injEq] at this
   exact this
  have hgk : g (l[j]).1 = some (l[j]).2 := by
   rw [← hg, mget_eq]
   have : l.find? (fun p => decide (p.1 = (l[j]).1)) = some l[j] := by
    cases hf : l.find? (fun p => decide (p.1 = (l[j]).1)) with
    | none =>
     have := List.find?_eq_none.1 hf l[j] (List.getElem_mem _)
     simp at this
    | some q =>
     have hq := List.find?_some hf
     simp only [decide_eq_true_eq] at hq
     obtain ⟨j', hj'⟩ := List.getElem?_of_mem (List.mem_of_find?_eq_some hf)
     have := keyInj j' j q _ hj' hlj hq
     subst this
     rw [hlj] at hj'
     exact hj'.symm
   rw [this]; rfl
  have hjno : j ∉ js := fun hm => hnew (by rw [hseen]; exact List.mem_map.2 ⟨j, hm, hbj j e hej⟩)
  have hkno : (l[j]).1 ∉ done := fun hm => by
   obtain ⟨n, hn⟩ := List.getElem?_of_mem hm
   have hnl := (List.getElem?_eq_some_iff.1 hn).1
   have hjn : js[n]? = some (js[n]'(by omega)) := List.getElem?_eq_getElem _
   obtain ⟨q, hq, hdq⟩ := hjs n _ hjn
   rw [hn] at hdq
   have := keyInj _ j q _ hq hlj (Option.some.inj hdq).symm
   rw [this] at hjn
   exact hjno (List.mem_of_getElem? hjn)
  have hlN : done.length < N := by
   have := nodup_lt' l.length (j :: js) (List.nodup_cons.2 ⟨hjno, hjnd⟩) (fun x hx => by
    rcases List.mem_cons.1 hx with rfl | hx
    ·exact hjl2
    ·obtain ⟨n, hn⟩ := List.getElem?_of_mem hx
     exact hjlt n x hn)
   simp only [List.length_cons] at this
   omega
  have hsz : w1.heap = w.heap ∧ w1.os = w.os ∧ w1.tape = w.tape ∧ w1.output = w.output := by rcases hw1 with rfl | rfl <;> exact ⟨rfl, rfl, rfl, rfl⟩
  have hrl := (Array.getElem?_eq_some_iff.1 hr).1
  have hbl := (Array.getElem?_eq_some_iff.1 hb).1
  refine ⟨_, _, hrun, .inr ⟨e.key, e.val, rfl, h1 (l[j]).1 (l[j]).2 _ _ _ hgk hkno hlN ?_⟩⟩
  refine back (w' := { w1 with heap := w1.heap.setIfInBounds r (.mapIter (some b) clock (seen.push e.born) clock) }) (t' := tRan b r ek ev g N (done ++ [(l[j]).1])) (O' := [b, r]) ⟨hsz.2.1, hsz.2.2.1, hsz.2.2.2, by show w.heap.size ≤ (w1.heap.setIfInBounds r _).size; simp [hsz.1], fun k hk hn => ?_⟩ ?_ (fun k hk => .inl hk) rfl
  ·show (w1.heap.setIfInBounds r _)[k]? = w.heap[k]?
   rw [hsz.1, Array.getElem?_setIfInBounds_ne (fun e => hn (by simp [e]))]
  ·refine ⟨rfl, hbr, es, clock, l, seen.push e.born, clock, ⟨?_, hes, hst, hnd, hg⟩, ?_, Nat.le_refl _, .inr rfl, hN, ?_, js ++ [j], by simp [hjl], ?_, ?_⟩
   ·show (w1.heap.setIfInBounds r _)[b]? = _
    rw [hsz.1, Array.getElem?_setIfInBounds_ne (fun e => hbr e.symm)]; exact hb
   ·show (w1.heap.setIfInBounds r _)[r]? = _
    rw [hsz.1, Array.getElem?_setIfInBounds_self_of_lt hrl]
   ·rw [List.nodup_append]
    exact ⟨hdn, by simp, fun a ha c hc => by simp only [List.mem_singleton] at hc; subst hc; exact fun e => hkno (e ▸ ha)⟩
   ·rw [Array.toList_push, List.map_append, hseen]
    simp only [List.map_cons, List.map_nil]
    rw [hbj j e hej]
   ·intro n m hn
    by_cases hlt : n < js.length
    ·rw [List.getElem?_append_left hlt] at hn
     obtain ⟨q, hq, hd⟩ := hjs n m hn
     exact ⟨q, hq, by rw [List.getElem?_append_left (by omega)]; exact hd⟩
    ·rw [List.getElem?_append_right (by omega)] at hn
     have h00 : n - js.length = 0 := by
      rcases Nat.eq_zero_or_pos (n - js.length) with h | h
      ·exact h
      ·rw [List.getElem?_eq_none (by simp; omega)] at hn; cases hn
     rw [h00] at hn
     obtain rfl := Option.some.inj hn
     refine ⟨_, hlj, ?_⟩
     rw [List.getElem?_append_right (by omega), show n - done.length = 0 by omega]; rfl
theorem range_entry (h : Hp S w0 w its) (i : Nat) {b r N : Nat} {done : List κ} {k : κ} {v : ν} {K : Value → Value → World → Prop} (hi : its[i]? = some (tRan b r ek ev g N (done ++ [k]))) (hgk : g k = some v) (hK : K (ek k) (ev v) w) : EnM P (.pointer (some ⟨r, 0, none⟩)) w K := by
 obtain ⟨O, rfl, hbr, es, clock, l, seen, last, ⟨hb, hes, hst, hnd, hg⟩, hr, hle, hlast, hN, hdn, js, hjl, hseen, hjs⟩ := h.see hi
 have hlast : last = clock := by
  rcases hlast with h | h
  ·simp at h
  ·exact h
 subst hlast
 have hn : js[done.length]? = some (js[done.length]'(by rw [hjl]; simp)) := List.getElem?_eq_getElem _
 obtain ⟨p, hp, hd⟩ := hjs _ _ hn
 have hpk : p.1 = k := by
  rw [List.getElem?_append_right (Nat.le_refl _), Nat.sub_self] at hd
  exact (Option.some.inj hd).symm
 generalize js[done.length]'(by rw [hjl]; simp) = j at hn hp hd
 have hjl2 := (List.getElem?_eq_some_iff.1 hp).1
 have hel : es.toList.length = l.length := by have := congrArg List.length hes; simpa using this
 have hej : es.toList[j]? = some (es.toList[j]'(by omega)) := List.getElem?_eq_getElem _
 have hkv : (es.toList[j]'(by omega)).key = ek p.1 ∧ (es.toList[j]'(by omega)).val = ev p.2 := by
  have := congrArg (fun x => x[j]?) hes
  simp only [List.getElem?_map, hej, hp, Option.map_some, Option.some.injEq, Prod.mk.injEq] at this
  exact this
 have hpv : p.2 = v := by
  have h1 : mget l k = some v := by rw [hg]; exact hgk
  rw [mget_eq] at h1
  obtain ⟨q, hq, hqv⟩ := Option.map_eq_some_iff.1 h1
  have hqk := List.find?_some hq
  simp only [decide_eq_true_eq] at hqk
  obtain ⟨j', hj'⟩ := List.getElem?_of_mem (List.mem_of_find?_eq_some hq)
  have : j' = j := (List.getElem?_inj (i := j') (j := j) (l := l.map (·.1)) (by simpa using (List.getElem?_eq_some_iff.1 hj').1) hnd).1 (by rw [List.getElem?_map, List.getElem?_map, hj', hp]; simp [hqk, hpk])
  subst this
  rw [hp] at hj'
  rw [Option.some.inj hj']; exact hqv
 generalize es.toList[j]'(by omega) = e at hej hkv
 have hback : seen.back? = some e.born := by
  have h1 : seen.toList.getLast? = some e.born := by
   rw [hseen]
   have hjs2 : js = js.take done.length ++ [j] := by
    have hl : js.length = done.length + 1 := by rw [hjl]; simp
    have h1 := List.take_succ_eq_append_getElem (l := js) (i := done.length) (by omega)
    have h2 : js.take (done.length + 1) = js := List.take_of_length_le (by omega)
    have h3 : js[done.length]'(by omega) = j := by
     rw [List.getElem?_eq_getElem (by omega)] at hn; exact Option.some.inj hn
    rw [h3] at h1
    exact h2.symm.trans h1
   rw [hjs2, List.map_append]
   simp only [List.map_cons, List.map_nil, List.getLast?_append, List.getLast?_singleton, Option.some_or]
   rw [List.getD_eq_getElem?_getD, List.getElem?_map, hej]; rfl
  rw [← Array.getLast?_toList]; exact h1
 have hf : es.find? (·.born == e.born) = some e := by rw [← Array.find?_toList]; exact find_born e es.toList hst.1 (List.mem_of_getElem? hej)
 refine ⟨e.key, e.val, ?_, ?_⟩
 ·simp only [Instr.entry, getObj, Sem.run_bind, Sem.run, hr, hb, Result.andThen, hback, bne_self_eq_false, Bool.false_eq_true, if_false, hf]
  rfl
 ·rw [hkv.1, hkv.2, hpk, hpv]; exact hK
theorem range_stop (h : Hp S w0 w its) {i b r N : Nat} {done : List κ} (hi : its[i]? = some (tRan b r ek ev g N done)) : Hp S w0 w (its.set i (tMp b ek ev g)) :=
 h.less hi rfl (fun w O hO => by
  obtain ⟨rfl, hbr, es, clock, l, seen, last, ⟨hb, hes, hst, hnd, hg⟩, _⟩ := hO
  exact ⟨[b], ⟨l, ⟨⟨es, clock, hb, hes, hst⟩, rfl⟩, hnd, hg⟩, by simp⟩) rfl
end Hp
def tOptO (y : Option Addr) (o : Obj) : Thing :=
  { holds := fun w O => (y = none ∧ O = []) ∨ ∃ b, y = some ⟨b, 0, none⟩ ∧ w.heap[b]? = some o ∧ O = [b]
    fr := fun {S w w' O} h hf hn => by
      rcases h with h | ⟨b, h1, h2, rfl⟩
      · exact .inl h
      · exact .inr ⟨b, h1, (hf.block b (Array.getElem?_eq_some_iff.1 h2).1 (hn b (by simp))).trans h2, rfl⟩
    lt := fun {w O} h k hk => by
      rcases h with ⟨_, rfl⟩ | ⟨b, h1, h2, rfl⟩
      · cases hk
      · simp only [List.mem_singleton] at hk; subst hk; exact (Array.getElem?_eq_some_iff.1 h2).1 }
namespace Hp
variable {S : List Nat} {w0 w : World} {its : List Thing}
theorem optO (h : Hp S w0 w its) (o : Obj) : Hp S w0 w (its ++ [tOptO none o]) :=
 h.grow (Fr.refl _ _) (t := tOptO none o) (O := []) (.inl ⟨rfl, rfl⟩) (by simp) rfl
theorem mkOptO (h : Hp S w0 w its) {i : Nat} {o : Obj} (hi : its[i]? = some (tOptO none o)) : Hp S w0 (w.alloc o) (its.set i (tOptO (some ⟨w.heap.size, 0, none⟩) o)) := by
 obtain ⟨O, hO, back⟩ := h.step hi rfl
 rcases hO with ⟨_, rfl⟩ | ⟨b, hb, _⟩
 ·exact back (t' := tOptO (some ⟨w.heap.size, 0, none⟩) o) (O' := [w.heap.size]) (Fr.alloc w _) (.inr ⟨_, rfl, heap_alloc_new w o, rfl⟩) (by simp) rfl
 ·cases hb
theorem flsO (h : Hp S w0 w its) (i : Nat) {y : Option Addr} {o : Obj} {K : Option Addr → World → Prop} (hi : its[i]? = some (tOptO y o))
  (hK : ∀ y' w', Hp S w0 w' (its.set i (tOptO y' o)) → K y' w') : FlS [(o, y)] w K := by
 refine FlN_of (P := fun ys w' => ∃ y, ys = [y] ∧ Hp S w0 w' (its.set i (tOptO y o))) ?_ ?_ _ _ _ ⟨y, rfl, by rw [set_same hi]; exact h⟩
 ·rintro ys w' ⟨y, rfl, h⟩
  exact hK y w' h
 ·rintro ys w' q o' ⟨y, rfl, h⟩ ho hy
  have li := (List.getElem?_eq_some_iff.1 hi).1
  match q, ho, hy with
  | 0, ho, hy =>
   simp only [List.map_cons, List.getElem?_cons_zero, Option.some.injEq] at ho hy
   subst ho; subst hy
   refine ⟨_, rfl, ?_⟩
   have h2 := h.mkOptO (i := i) (o := o) (by simp [li])
   rw [List.set_set] at h2
   exact h2
  | q + 1, ho, hy => simp at hy
theorem flsO2 (h : Hp S w0 w its) (i j : Nat) (hij : i ≠ j) {y1 y2 : Option Addr} {o1 o2 : Obj} {K : Option Addr → Option Addr → World → Prop} (hi : its[i]? = some (tOptO y1 o1)) (hj : its[j]? = some (tOptO y2 o2))
  (hK : ∀ y1' y2' w', Hp S w0 w' ((its.set i (tOptO y1' o1)).set j (tOptO y2' o2)) → K y1' y2' w') : FlS [(o1, y1), (o2, y2)] w K := by
 have li := (List.getElem?_eq_some_iff.1 hi).1
 have lj := (List.getElem?_eq_some_iff.1 hj).1
 refine FlN_of (P := fun ys w' => ∃ y1 y2, ys = [y1, y2] ∧ Hp S w0 w' ((its.set i (tOptO y1 o1)).set j (tOptO y2 o2))) ?_ ?_ _ _ _ ⟨y1, y2, rfl, by rw [set_same hi, set_same hj]; exact h⟩
 ·rintro ys w' ⟨y1, y2, rfl, h⟩
  exact hK y1 y2 w' h
 ·rintro ys w' q o ⟨y1, y2, rfl, h⟩ ho hy
  match q, ho, hy with
  | 0, ho, hy =>
   simp only [List.map_cons, List.getElem?_cons_zero, Option.some.injEq] at ho hy
   subst ho; subst hy
   refine ⟨_, y2, rfl, ?_⟩
   have h2 := h.mkOptO (i := i) (o := o1) (by rw [List.getElem?_set_ne (Ne.symm hij)]; simp [li])
   rw [List.set_comm _ _ (Ne.symm hij), List.set_set] at h2
   exact h2
  | 1, ho, hy =>
   simp only [List.map_cons, List.getElem?_cons_zero, List.getElem?_cons_succ, Option.some.injEq] at ho hy
   subst ho; subst hy
   refine ⟨y1, _, rfl, ?_⟩
   have h2 := h.mkOptO (i := j) (o := o2) (by simp [lj])
   rw [List.set_set] at h2
   exact h2
  | q + 2, ho, hy => simp at hy
theorem needO (h : Hp S w0 w its) (i : Nat) {y : Option Addr} {o : Obj} {K : Addr → Prop} (hi : its[i]? = some (tOptO y o))
  (hK : ∀ b, Hp S w0 w (its.set i (tObj b o)) → K ⟨b, 0, none⟩) : Need y K := by
 cases y with
 | none => trivial
 | some a =>
  obtain ⟨O, hO, back⟩ := h.step hi rfl
  rcases hO with ⟨h1, _⟩ | ⟨b, hb, h2, rfl⟩
  ·cases h1
  ·simp only [Option.some.injEq] at hb
   subst hb
   exact hK b (back (Fr.refl _ _) (t' := tObj b o) (O' := [b]) ⟨rfl, h2⟩ (fun k hk => .inl hk) rfl)
theorem objMp {κ ν : Type} [DecidableEq κ] (h : Hp S w0 w its) {i b : Nat} (ek : κ → Value) (ev : ν → Value) (hi : its[i]? = some (tObj b (.map #[] 0))) : Hp S w0 w (its.set i (tMp b ek ev fun _ => none)) :=
 h.weak hi rfl (fun w O hO => ⟨[], ⟨⟨#[], 0, hO.2, rfl, by simp [Stamps]⟩, hO.1⟩, by simp, fun k => rfl⟩) rfl
end Hp
end Go.Den
end

section
namespace Go.Proofs.Ythmbjlpgbkkjjaa.FW
open F
open Go Go.Den Go.Proofs
open FI (PoolM tPool)
open FT (TabM tTab Ent entV ent ent_len atI keyEnt iv iv_len)
def WA.who (a : WA) (s : Int) : List Ent := a.all.filter fun e => decide ((a.row e).map setI = some s)
theorem Tabs.same {ks : KD} {row : Ent → Option PL} {sets : Ent → Option Int} {T T' : List (Int × TabM)} (h : Tabs ks row sets T) (hnd : (T'.map (·.1)).Nodup) (hin : ∀ x, x ∈ T' ↔ x ∈ T) : Tabs ks row sets T' :=
 ⟨h.sets, hnd, fun x hx => h.tok x ((hin x).1 hx), fun e p hp => by
  obtain ⟨t, h1, h2⟩ := h.has e p hp
  exact ⟨t, (hin _).2 h1, h2⟩, h.fit⟩
section
variable {S : List Nat} {w0 w : World} {its : List Thing}
theorem tabs_get {q : WH} (hnd : (q.tabs.map (·.1)).Nodup) {set : Int} {tb : Nat} (h : tptr q.T set = some tb) : ∃ (k : Nat) (t : TabM), q.T[k]? = some (set, tb, t) ∧ (set, t) ∈ q.tabs := by
 obtain ⟨k, t, hk⟩ := tptr_some h
 exact ⟨k, t, hk, List.mem_map.2 ⟨_, List.mem_of_getElem? hk, rfl⟩⟩
theorem view_ent {e : Ent} {R : Int → Int → World → Prop} (h : R e.1 e.2 w) : viewRet [.agg [.i .i64, .i .i64]] (entV e) R w := h
theorem view_int {n : Int} {R : Int → World → Prop} (h : R n w) : viewRet [.one (.i .i64)] (Value.int .i64 n) R w := h
theorem view_pv {b : Nat} {R : Option Addr → World → Prop} (h : R (some ⟨b, 0, none⟩) w) : viewRet [.one .p] (pv b) R w := h
set_option maxHeartbeats 4000000 in
theorem Clone_W (h : Hp S w0 w its) (i : Nat) {b : Nat} {a : WA} (hi : its[i]? = some (tW b a)) {K : Option Addr → World → Prop}
  (hK : ∀ cb w', Hp S w0 w' (its ++ [tW cb a]) → K (some ⟨cb, 0, none⟩) w') : c16 (some ⟨b, 0, none⟩) w K := by
 refine c16_of ?_
 unfold f16
 obtain ⟨O, h1, back⟩ := h.f1 hi rfl
 clear h
 obtain ⟨q, hok, ht, hk, h⟩ := W_open h1
 have hal := hok.len
 have hkl : (kinds q.xs).length = q.xs.length := by simp [kinds]
 have h12 : q.xs.length ≤ 12 := by rw [hk] at hkl; omega
 have h4 : ∀ x ∈ q.xs, x.2.2.length ≤ 4 := fun x hx => hok.four (x.1, x.2.2) (by rw [← hk]; exact List.mem_map.2 ⟨x, hx, rfl⟩)
 refine h.dr fun w1 h => ?_
 refine nns ?_
 refine h.ld0 (k := .sl) (x := q.sk) 0 rfl rfl ?_
 refine nns ?_
 refine h.ld (n := 1) (k := .p) (x := some ⟨q.pb, 0, none⟩) 0 rfl rfl ?_
 have h : Hp O w w1 [q.blk b, tEmp, tSl q.sk 87 2 kdv q.xs, tAll (q.xs.map tF), tPool 112 q.pb a.m.pool, tMp q.ms entV (Value.int .i64) a.m.sets, tMp q.mt (Value.int .i64) pv (tptr q.T), tAll (q.T.map tT)] := h
 have h := (h.optO (.map #[] 0)).optO (.map #[] 0)
 refine h.flsO2 8 9 (by decide) rfl rfl fun y1 y2 w2 h => ?_
 simp only [List.cons_append, List.nil_append, List.set_cons_zero, List.set_cons_succ] at h
 refine copied_spec h 2 3 (s := q.sk) (xs := q.xs) rfl rfl (by omega) (fun x hx => by have := h4 x hx; omega) fun r ys w3 hys h => ?_
 refine ⟨h.cel (n := 1) 0 rfl rfl, ?_⟩
 refine h.flsO2 8 9 (by decide) (y1 := y1) (y2 := y2) rfl rfl fun y3 y4 w4 h => ?_
 simp only [List.cons_append, List.nil_append, List.set_cons_zero, List.set_cons_succ] at h
 refine FI.Clone_h h 4 (m := a.pool) hok.pok rfl fun pb w5 h => ?_
 refine h.flsO2 8 9 (by decide) (y1 := y3) (y2 := y4) rfl rfl fun y5 y6 w6 h => ?_
 simp only [List.cons_append, List.nil_append, List.set_cons_zero, List.set_cons_succ] at h
 refine h.needO 8 (y := y5) rfl fun ms h => ?_
 refine h.flsO 9 (y := y6) rfl fun y7 w7 h => ?_
 refine h.needO 9 (y := y7) rfl fun mt h => ?_
 simp only [List.cons_append, List.nil_append, List.set_cons_zero, List.set_cons_succ] at h
 have h := h.objMp (i := 8) entV (Value.int .i64) rfl
 have h := h.objMp (i := 9) (Value.int .i64) pv rfl
 have h : Hp O w w7 [q.blk b, tEmp, tSl q.sk 87 2 kdv q.xs, tAll (q.xs.map tF), tPool 112 q.pb a.m.pool, tMp q.ms entV (Value.int .i64) a.m.sets, tMp q.mt (Value.int .i64) pv (tptr q.T), tAll (q.T.map tT), tMp ms entV (Value.int .i64) (fun _ => none), tMp mt (Value.int .i64) pv (fun _ => none), tSl r 87 2 kdv ys, tAll (ys.map tF), tPool 112 pb a.pool] := h
 refine h.nw (c := [_, _, _, _]) fun cb w8 h => ?_
 have h := h.grow (Fr.refl _ _) (t := tAll (([] : List TT).map tT)) (O := []) rfl (by simp) rfl
 refine nns ?_
 refine h.ld (n := 2) (k := .m) (x := some q.ms) 0 rfl rfl ?_
 refine h.range_start (ek := entV) (ev := Value.int .i64) (g := a.m.sets) 5 rfl und98 fun r1 N w9 h => ?_
 refine ⟨fun mm w' => ∃ (done : List Ent) (f : Ent → Option Int), mm = N - done.length ∧ (∀ s, f s = if s ∈ done then a.m.sets s else none) ∧ Hp O w w' [q.blk b, tEmp, tSl q.sk 87 2 kdv q.xs, tAll (q.xs.map tF), tPool 112 q.pb a.m.pool, tRan q.ms r1 entV (Value.int .i64) a.m.sets N done, tMp q.mt (Value.int .i64) pv (tptr q.T), tAll (q.T.map tT), tMp ms entV (Value.int .i64) f, tMp mt (Value.int .i64) pv (fun _ => none), tSl r 87 2 kdv ys, tAll (ys.map tF), tPool 112 pb a.pool, tBlk cb 84 [.slice r.a r.len r.cap, .pointer (some ⟨pb, 0, none⟩), .map (some ms), .map (some mt)], tAll (([] : List TT).map tT)],
  ⟨N, [], fun _ => none, rfl, fun s => by simp, h⟩, ?_⟩
 clear h
 rintro mm w10 ⟨done, f, rfl, hf, h⟩
 refine h.range_next 5 rfl (fun hall hN h => ?_) fun e s x1 x2 w11 hg hno hlt h => ?_
 ·have h := h.range_stop (i := 5) rfl
  have ef : f = a.m.sets := by
   funext e
   rw [hf e]
   split
   ·rfl
   ·rename_i hs
    cases hp : a.m.sets e with
    | none => rfl
    | some x => exact absurd (hall e (by rw [hp]; rfl)) hs
  rw [ef] at h
  clear hf hall hN ef
  have h : Hp O w w10 [q.blk b, tEmp, tSl q.sk 87 2 kdv q.xs, tAll (q.xs.map tF), tPool 112 q.pb a.m.pool, tMp q.ms entV (Value.int .i64) a.m.sets, tMp q.mt (Value.int .i64) pv (tptr q.T), tAll (q.T.map tT), tMp ms entV (Value.int .i64) a.m.sets, tMp mt (Value.int .i64) pv (tptr []), tSl r 87 2 kdv ys, tAll (ys.map tF), tPool 112 pb a.pool, tBlk cb 84 [.slice r.a r.len r.cap, .pointer (some ⟨pb, 0, none⟩), .map (some ms), .map (some mt)], tAll (([] : List TT).map tT)] := h
  refine nns ?_
  refine h.ld (n := 3) (k := .m) (x := some q.mt) 0 rfl rfl ?_
  refine h.range_start (ek := Value.int .i64) (ev := pv) (g := tptr q.T) 6 rfl und99 fun r2 N2 w12 h => ?_
  refine ⟨fun mm w' => ∃ (done : List Int) (T' : List TT), mm = N2 - done.length ∧ T'.map (·.1) = done ∧ done.Nodup ∧ (∀ x ∈ T', (x.1, x.2.2) ∈ q.tabs) ∧ Hp O w w' [q.blk b, tEmp, tSl q.sk 87 2 kdv q.xs, tAll (q.xs.map tF), tPool 112 q.pb a.m.pool, tMp q.ms entV (Value.int .i64) a.m.sets, tRan q.mt r2 (Value.int .i64) pv (tptr q.T) N2 done, tAll (q.T.map tT), tMp ms entV (Value.int .i64) a.m.sets, tMp mt (Value.int .i64) pv (tptr T'), tSl r 87 2 kdv ys, tAll (ys.map tF), tPool 112 pb a.pool, tBlk cb 84 [.slice r.a r.len r.cap, .pointer (some ⟨pb, 0, none⟩), .map (some ms), .map (some mt)], tAll (T'.map tT)],
   ⟨N2, [], [], rfl, rfl, by simp, by simp, h⟩, ?_⟩
  clear h
  rintro mm2 w13 ⟨done2, T', rfl, hT'd, hdn, hT', h⟩
  refine h.range_next 6 rfl (fun hall hN h => ?_) fun s tb x1 x2 w14 hg hno hlt h => ?_
  ·have h := h.range_stop (i := 6) rfl
   have h : Hp O w w13 ([q.blk b, tEmp, tSl q.sk 87 2 kdv q.xs, tAll (q.xs.map tF), tPool 112 q.pb a.m.pool, tMp q.ms entV (Value.int .i64) a.m.sets, tMp q.mt (Value.int .i64) pv (tptr q.T), tAll (q.T.map tT)] ++ [tMp ms entV (Value.int .i64) a.m.sets, tMp mt (Value.int .i64) pv (tptr T'), tSl r 87 2 kdv ys, tAll (ys.map tF), tPool 112 pb a.pool, tBlk cb 84 [.slice r.a r.len r.cap, .pointer (some ⟨pb, 0, none⟩), .map (some ms), .map (some mt)], tAll (T'.map tT)]) := h
   have h := W_shut (u := tEmp) (m := a.m) (q := q) (b := b) hok ht hk rfl rfl h
   have h := h.selL [0, 6, 0 + 3, 4, 5, 1, 2, 7] (by decide) (ts := [tW b a, tBlk cb 84 [.slice r.a r.len r.cap, .pointer (some ⟨pb, 0, none⟩), .map (some ms), .map (some mt)], tSl r 87 2 kdv ys, tAll (ys.map tF), tPool 112 pb a.pool, tMp ms entV (Value.int .i64) a.m.sets, tMp mt (Value.int .i64) pv (tptr T'), tAll (T'.map tT)]) rfl
   have h : Hp O w w13 ([tW b a] ++ [tBlk cb 84 [.slice r.a r.len r.cap, .pointer (some ⟨pb, 0, none⟩), .map (some ms), .map (some mt)], tSl r 87 2 kdv ys, tAll (ys.map tF), tPool 112 pb a.pool, tMp ms entV (Value.int .i64) a.m.sets, tMp mt (Value.int .i64) pv (tptr T'), tAll (T'.map tT)]) := h
   have h := h.emp1.selL [2, 0, 3, 4, 5, 6, 7, 8, 1] (by decide) (ts := [tBlk cb 84 [.slice r.a r.len r.cap, .pointer (some ⟨pb, 0, none⟩), .map (some ms), .map (some mt)], tEmp, tSl r 87 2 kdv ys, tAll (ys.map tF), tPool 112 pb a.pool, tMp ms entV (Value.int .i64) a.m.sets, tMp mt (Value.int .i64) pv (tptr T'), tAll (T'.map tT), tW b a]) rfl
   have hin : ∀ x, x ∈ (⟨r, ys, pb, ms, mt, T'⟩ : WH).tabs ↔ x ∈ q.tabs := by
    intro x
    constructor
    ·intro hx
     obtain ⟨y, hy, rfl⟩ := List.mem_map.1 hx
     exact hT' y hy
    ·intro hx
     obtain ⟨y, hy, rfl⟩ := List.mem_map.1 hx
     have hsome : (tptr q.T y.1).isSome = true := by
      cases hp : tptr q.T y.1 with
      | some _ => rfl
      | none => exact absurd rfl (tptr_none hp y hy)
     have hd := hall y.1 hsome
     rw [← hT'd] at hd
     obtain ⟨z, hz, hze⟩ := List.mem_map.1 hd
     have hzt := hT' z hz
     have hyt : (y.1, y.2.2) ∈ q.tabs := hx
     obtain ⟨i1, hi1⟩ := List.getElem?_of_mem hzt
     obtain ⟨i2, hi2⟩ := List.getElem?_of_mem hyt
     have : i1 = i2 := (List.getElem?_inj (i := i1) (j := i2) (l := q.tabs.map (·.1)) (by simpa using (List.getElem?_eq_some_iff.1 hi1).1) ht.nd).1 (by rw [List.getElem?_map, List.getElem?_map, hi1, hi2]; simp [hze])
     subst this
     rw [hi1] at hi2
     rw [← Option.some.inj hi2]
     exact List.mem_map.2 ⟨z, hz, rfl⟩
   have ht2 : Tabs a.ks a.row a.m.sets (⟨r, ys, pb, ms, mt, T'⟩ : WH).tabs := ht.same (by
    unfold WH.tabs
    rw [List.map_map]
    show (T'.map (·.1)).Nodup
    rw [hT'd]; exact hdn) hin
   have h := W_shut (u := tEmp) (m := a.m) (q := ⟨r, ys, pb, ms, mt, T'⟩) (b := cb) (rest := [tW b a]) hok ht2 (by show kinds ys = a.ks; rw [hys, hk]) rfl rfl h
   have h : Hp O w w13 ([tW cb a] ++ [tW b a]) := h
   exact hK cb w13 (W_fin hi back (rest := [tW cb a]) rfl h.comm)
  ·obtain ⟨ki, t, hkT, htm⟩ := tabs_get ht.nd hg
   refine h.range_entry (k := s) (v := tb) 6 rfl hg ?_
   refine view_int (view_pv ?_)
   refine h.dr fun w15 h => ?_
   refine h.ld (n := 3) (k := .m) (x := some mt) 13 rfl rfl ?_
   refine FT.Clone_spec (ro_tab h 7 rfl hkT) 0 (ht.tok _ htm).1 rfl fun tb2 w16 h2 => ?_
   have h := h.r0 (rest := [tTab tb2 t]) rfl (h2.sel1 1 rfl)
   simp only [List.cons_append, List.nil_append, List.set_cons_zero, List.set_cons_succ] at h
   refine ⟨h.cel (n := 3) 13 rfl rfl, ?_⟩
   refine h.update (ek := Value.int .i64) (ev := pv) (g := tptr T') (k := s) (v := tb2) 9 rfl rfl und99 key3 rfl fun w17 h => ?_
   have hsn : tptr T' s = none := tptr_out (by rw [hT'd]; exact hno)
   rw [tptr_new (t := t) hsn] at h
   have h := h.join (i := 14) (j := 15) (a := tAll (T'.map tT)) (b := tT (s, tb2, t)) (c := tAll ((T' ++ [(s, tb2, t)]).map tT)) (by decide) rfl rfl (tAll_own _) rfl (tAll_own _) (fun w O1 O2 g1 g2 g3 => by
    rw [List.map_append]
    exact tAll_append g1 (us := [tT (s, tb2, t)]) (O2 := O2) ⟨O2, [], g2, rfl, by simp, by simp⟩ g3)
   have h := h.trim 15
   refine ⟨N2 - (done2.length + 1), by omega, done2 ++ [s], T' ++ [(s, tb2, t)], by simp, by rw [List.map_append, hT'd]; rfl, ?_, fun x hx => ?_, h⟩
   ·rw [List.nodup_append]
    exact ⟨hdn, by simp, fun x hx y hy => by simp only [List.mem_singleton] at hy; subst hy; exact fun e => hno (e ▸ hx)⟩
   ·rcases List.mem_append.1 hx with hx | hx
    ·exact hT' x hx
    ·simp only [List.mem_singleton] at hx
     subst hx; exact htm
 ·refine h.range_entry (k := e) (v := s) 5 rfl hg ?_
  refine view_ent (view_int ?_)
  refine h.nw (c := [_, _]) fun eb w12 h => ?_
  refine h.st0 15 rfl (by simp) rfl fun w13 h => ?_
  refine h.st (n := 1) 15 rfl (by simp) rfl fun w14 h => ?_
  simp only [List.cons_append, List.nil_append, List.set_cons_zero, List.set_cons_succ] at h
  refine h.dr fun w15 h => ?_
  refine h.ld (n := 2) (k := .m) (x := some ms) 13 rfl rfl ?_
  refine h.ld0 (k := .i .i64) (x := e.1) 15 rfl rfl ?_
  refine h.ld (n := 1) (k := .i .i64) (x := e.2) 15 rfl rfl ?_
  refine h.update (ek := entV) (ev := Value.int .i64) (g := f) (k := e) (v := s) 8 rfl rfl und98 keyEnt rfl fun w16 h => ?_
  have h := h.trim 15
  refine ⟨N - (done.length + 1), by omega, done ++ [e], upd1 f e (some s), by simp, fun x => ?_, h⟩
  unfold upd1
  by_cases hs : x = e
  ·rw [if_pos hs, if_pos (by simp [hs]), hs, hg]
  ·rw [if_neg hs, hf x]
   by_cases hd : x ∈ done
   ·rw [if_pos hd, if_pos (by simp [hd])]
   ·rw [if_neg hd, if_neg (by simp [hd, hs])]
end
def RdP (w : World) (s : Sl) (l : List Part) : Prop := ∃ xs : List PV, xs.map pvis = l ∧ (∃ o, SlR w s 2 pdv xs o) ∧ ∀ x ∈ xs, ∃ o, SlR w x.2.1 1 iv x.2.2 o
theorem SlR.keep {α : Type} {f : α → List Value} {n : Nat} {w w' : World} {s : Sl} {l : List α} (h : ∃ o, SlR w s n f l o) (hf : Fr [] w w') : ∃ o, SlR w' s n f l o := by
 obtain ⟨o, h⟩ := h
 exact ⟨o, h.fr hf (by simp)⟩
theorem RdP.keep {w w' : World} {s : Sl} {l : List Part} (h : RdP w s l) (hf : Fr [] w w') : RdP w' s l := by
 obtain ⟨xs, h1, h2, h3⟩ := h
 exact ⟨xs, h1, SlR.keep h2 hf, fun x hx => SlR.keep (h3 x hx) hf⟩
theorem tAll_see {ts : List Thing} {t : Thing} {w : World} {O : List Nat} (h : (tAll ts).holds w O) (hm : t ∈ ts) : ∃ O', t.holds w O' := by
 obtain ⟨k, hk⟩ := List.getElem?_of_mem hm
 obtain ⟨O1, _, h1, _⟩ := tAll_pick hk h
 exact ⟨O1, h1⟩
theorem rdP_of {w : World} {s : Sl} {l : List Part} {O : List Nat} (h : (tParts s l).holds w O) : RdP w s l := by
 obtain ⟨xs, h1, O1, O2, h2, h3, _⟩ := h
 refine ⟨xs, h1, ⟨_, SlF.toR h2⟩, fun x hx => ?_⟩
 obtain ⟨O', h4⟩ := tAll_see h3 (List.mem_map.2 ⟨x, hx, rfl⟩)
 exact ⟨O', SlF.toR h4⟩
section
variable {S : List Nat} {w0 w : World} {its : List Thing}
end
def tRP (s : Sl) (xs : List PV) : Thing :=
  { holds := fun w O => (∀ k ∈ O, k < w.heap.size) ∧ (∃ o, SlR w s 2 pdv xs o ∧ ∀ k ∈ o, k ∈ O) ∧ ∀ x ∈ xs, ∃ o, SlR w x.2.1 1 iv x.2.2 o ∧ ∀ k ∈ o, k ∈ O
    fr := fun {S w w' O} h hf hn => ⟨fun k hk => by have := h.1 k hk; have := hf.size; omega, by
      obtain ⟨_, ⟨o, h1, h2⟩, h3⟩ := h
      refine ⟨⟨o, h1.fr hf (fun k hk => hn k (h2 k hk)), h2⟩, fun x hx => ?_⟩
      obtain ⟨o, h4, h5⟩ := h3 x hx
      exact ⟨o, h4.fr hf (fun k hk => hn k (h5 k hk)), h5⟩⟩
    lt := fun h => h.1 }
theorem rp_reads {u : Thing} {s : Sl} {xs : List PV} (hu : u.holds = (tRP s xs).holds) : Hp.Reads u s 2 pdv xs := ⟨fun {w O} h => by
 rw [hu] at h
 obtain ⟨_, ⟨o, h1, _⟩, _⟩ := h
 exact ⟨o, h1⟩⟩
theorem rp_readsV {u : Thing} {s : Sl} {xs : List PV} (hu : u.holds = (tRP s xs).holds) {x : PV} (hx : x ∈ xs) : Hp.Reads u x.2.1 1 iv x.2.2 := ⟨fun {w O} h => by
 rw [hu] at h
 obtain ⟨_, _, h2⟩ := h
 obtain ⟨o, h3, _⟩ := h2 x hx
 exact ⟨o, h3⟩⟩
theorem RdP.thing {w : World} {s : Sl} {l : List Part} (h : RdP w s l) : ∃ (xs : List PV) (O : List Nat), xs.map pvis = l ∧ (tRP s xs).holds w O := by
 obtain ⟨xs, h1, ⟨o, h2⟩, h3⟩ := h
 refine ⟨xs, List.range w.heap.size, h1, fun k hk => List.mem_range.1 hk, ⟨o, h2, fun k hk => List.mem_range.2 (h2.lt k hk)⟩, fun x hx => ?_⟩
 obtain ⟨o, h4⟩ := h3 x hx
 exact ⟨o, h4, fun k hk => List.mem_range.2 (h4.lt k hk)⟩
theorem RdP.len {w : World} {s : Sl} {l : List Part} (h : RdP w s l) : l.length = s.len := by
 obtain ⟨xs, h1, ⟨o, h2⟩, _⟩ := h
 rw [← h1, List.length_map]; exact h2.1
section
variable {S : List Nat} {w0 w : World} {its : List Thing}
theorem copiedPart_spec {w : World} {kind : Int} {s : Sl} {L : List Int} (hr : ∃ o, SlR w s 1 iv L o) (hl : L.length ≤ 17592186044416) {K : Int → Sl → World → Prop} (hK : ∀ r w', Hp [] w w' [tSl r 2 1 iv L] → K kind r w') : c43 kind s w K := by
 refine c43_of ?_
 unfold f43
 obtain ⟨o, hR⟩ := hr
 have h1 : Hp [] w w [(tRd s 1 iv L).ro] := (Hp.init w).addRo hR (by simp)
 refine h1.nw fun b1 w1 h => ?_
 refine h.nw fun b2 w2 h => ?_
 refine h.ld 1 (n := 1) (k := .sl) (x := s) rfl rfl ?_
 refine CloneR_spec h 0 (u := (tRd s 1 iv L).ro) rfl ⟨fun {w O} h => ⟨O, h⟩⟩ hl fun r w3 h => ?_
 refine h.st 1 (n := 1) rfl (by simp) rfl fun w4 h => ?_
 refine h.ld0 1 (k := .i .i64) (x := kind) rfl rfl ?_
 refine h.ld 1 (n := 1) (k := .sl) (x := r) rfl rfl ?_
 refine h.st0 2 rfl (by simp) rfl fun w5 h => ?_
 refine h.st 2 (n := 1) rfl (by simp) rfl fun w6 h => ?_
 refine h.ld0 2 (k := .i .i64) (x := kind) rfl rfl ?_
 refine h.ld 2 (n := 1) (k := .sl) (x := r) rfl rfl ?_
 exact hK r w6 (h.selL [3] (by decide) rfl)
set_option maxHeartbeats 4000000 in
theorem parts_copied {w : World} {s : Sl} {l : List Part} (hr : RdP w s l) (hl : l.length ≤ 4398046511104) (hv : ∀ x ∈ l, x.2.length ≤ 17592186044416) {K : Sl → World → Prop} (hK : ∀ r w', Hp [] w w' [tParts r l] → K r w') : c42 s (.func (.func 43) #[] #[]) w K := by
 refine c42_of ?_
 unfold f42
 obtain ⟨inf, i1, i2, i3, i4⟩ := inf40
 obtain ⟨ys, O, rfl, hO⟩ := hr.thing
 have hsl := hr.len
 rw [List.length_map] at hsl hl
 have hu : (tRP s ys).ro.holds = (tRP s ys).holds := rfl
 have g : Hp [] w w ([(tRP s ys).ro] ++ [tParts ⟨none, 0, 0⟩ []]) := ((Hp.init w).addRo hO (by simp)).nest_nil 62 2 pdv tV pvis
 refine ⟨fun out t mm w' => ∃ k : Nat, t = k ∧ k ≤ ys.length ∧ mm = ys.length - k ∧ Hp [] w w' [(tRP s ys).ro, tParts out ((ys.take k).map pvis)], ⟨ys.length, 0, rfl, by omega, rfl, g⟩, ?_⟩
 clear g
 rintro out t mm w2 ⟨k, rfl, hk, rfl, g⟩
 by_cases hlt : k < ys.length
 ·refine ifT (by rw [decide_eq_true_iff]; omega) ?_
  have hy : ys[k]? = some ys[k] := List.getElem?_eq_getElem hlt
  have hym : ys[k] ∈ ys := List.getElem_mem hlt
  have hyv : ys[k].2.2.length ≤ 17592186044416 := hv (pvis ys[k]) (List.mem_map_of_mem hym)
  have htk : ys.take (k + 1) = ys.take k ++ [ys[k]] := by rw [List.take_succ_eq_append_getElem hlt]
  generalize ys[k] = y at hy hym hyv htk
  refine g.ixk 0 (u := (tRP s ys).ro) rfl (rp_reads hu) (by omega) (by simpa using hlt) fun a ha => ?_
  rw [Int.toNat_natCast]
  refine g.ldk0 (k := .i .i64) (v := y.1) 0 (u := (tRP s ys).ro) rfl (rp_reads hu) ha pdv_len hy rfl ?_
  refine g.ldk (m := 1) (k := .sl) (v := y.2.1) 0 (u := (tRP s ys).ro) rfl (rp_reads hu) ha pdv_len hy rfl ?_
  refine g.nw fun b w3 g => ?_
  refine g.st0 2 rfl (by simp) rfl fun w4 g => ?_
  refine g.st 2 (n := 1) rfl (by simp) rfl fun w5 g => ?_
  refine g.ld0 2 (k := .i .i64) (x := y.1) rfl rfl ?_
  refine g.ld 2 (n := 1) (k := .sl) (x := y.2.1) rfl rfl ?_
  have hvr : ∃ o, SlR w5 y.2.1 1 iv y.2.2 o := by
   obtain ⟨O', hO'⟩ := g.see (i := 0) rfl
   exact (rp_readsV hu hym).rd hO'
  refine ⟨43, #[], #[], rfl, ⟨_, Try.func43, by kernel_rfl⟩, ?_⟩
  refine copiedPart_spec hvr hyv fun r w6 p => ?_
  have g := g.r0 rfl p
  have hol := (g.nest_see (s := out) 1 rfl).1
  rw [List.length_map, List.length_take] at hol
  refine g.nest_app 1 3 (by omega) ((y.1, r, y.2.2) : PV) rfl rfl rfl pdv_len und36 i1 i3 i2 rfl rfl (by simp [pdv, Value.oneCell']) (by rw [i4]; omega) (by omega) fun out2 w7 g _ => ?_
  refine ⟨ys.length - (k + 1), by omega, k + 1, by rw [wr64 (by omega) (by omega)]; omega, by omega, rfl, ?_⟩
  rw [htk, List.map_append]
  exact g.selL [0, 1] (by decide) rfl
 ·refine ifF (by rw [decide_eq_true_iff]; omega) ?_
  obtain rfl : k = ys.length := by omega
  rw [List.take_length] at g
  exact hK out w2 (g.selL [1] (by decide) rfl)
end
section
variable {S : List Nat} {w0 w : World} {its : List Thing}
set_option maxHeartbeats 4000000 in
theorem bcopied_spec {w : World} {op e1 e2 kd : Int} {s p : Sl} {V : List Int} {P : List Part} (hr : ∃ o, SlR w s 1 iv V o) (hp : RdP w p P) (hl : V.length ≤ 17592186044416) (hlP : P.length ≤ 4398046511104) (hvP : ∀ x ∈ P, x.2.length ≤ 17592186044416) {K : Int → Int → Int → Int → Sl → Sl → World → Prop}
  (hK : ∀ r q w', Hp [] w w' [tSl r 2 1 iv V, tParts q P] → K op e1 e2 kd r q w') : c19 op e1 e2 kd s p w K := by
 refine c19_of ?_
 unfold f19
 obtain ⟨o, hR⟩ := hr
 have h1 : Hp [] w w [(tRd s 1 iv V).ro] := (Hp.init w).addRo hR (by simp)
 refine h1.nw fun b1 w1 h => ?_
 refine h.nw fun b2 w2 h => ?_
 refine h.ld 1 (n := 4) (k := .sl) (x := s) rfl rfl ?_
 refine CloneR_spec h 0 (u := (tRd s 1 iv V).ro) rfl ⟨fun {w O} h => ⟨O, h⟩⟩ hl fun r w3 h => ?_
 refine h.st 1 (n := 4) rfl (by simp) rfl fun w4 h => ?_
 refine h.ld 1 (n := 5) (k := .sl) (x := p) rfl rfl ?_
 refine parts_copied (hp.keep h.1) hlP hvP fun q w5 p' => ?_
 have h := h.r0 rfl p'
 refine h.st 1 (n := 5) rfl (by simp) rfl fun w6 h => ?_
 refine h.ld0 1 (k := .i .i64) (x := op) rfl rfl ?_
 refine h.ld 1 (n := 1) (k := .i .i64) (x := e1) rfl rfl ?_
 refine h.ld 1 (n := 2) (k := .i .i64) (x := e2) rfl rfl ?_
 refine h.ld 1 (n := 3) (k := .i .i64) (x := kd) rfl rfl ?_
 refine h.ld 1 (n := 4) (k := .sl) (x := r) rfl rfl ?_
 refine h.ld 1 (n := 5) (k := .sl) (x := q) rfl rfl ?_
 refine h.st0 2 rfl (by simp) rfl fun w7 h => ?_
 refine h.st 2 (n := 1) rfl (by simp) rfl fun w7 h => ?_
 refine h.st 2 (n := 2) rfl (by simp) rfl fun w7 h => ?_
 refine h.st 2 (n := 3) rfl (by simp) rfl fun w7 h => ?_
 refine h.st 2 (n := 4) rfl (by simp) rfl fun w7 h => ?_
 refine h.st 2 (n := 5) rfl (by simp) rfl fun w7 h => ?_
 refine h.ld0 2 (k := .i .i64) (x := op) rfl rfl ?_
 refine h.ld 2 (n := 1) (k := .i .i64) (x := e1) rfl rfl ?_
 refine h.ld 2 (n := 2) (k := .i .i64) (x := e2) rfl rfl ?_
 refine h.ld 2 (n := 3) (k := .i .i64) (x := kd) rfl rfl ?_
 refine h.ld 2 (n := 4) (k := .sl) (x := r) rfl rfl ?_
 refine h.ld 2 (n := 5) (k := .sl) (x := q) rfl rfl ?_
 exact hK r q w7 (h.selL [3, 4] (by decide) rfl)
set_option maxHeartbeats 4000000 in
theorem all2_spec {w : World} {sy ix op e1 e2 kd : Int} {s p : Sl} {V : List Int} {P : List Part} (hr : ∃ o, SlR w s 1 iv V o) (hp : RdP w p P) (hl : V.length ≤ 17592186044416) (hlP : P.length ≤ 4398046511104) (hvP : ∀ x ∈ P, x.2.length ≤ 17592186044416) {K : Int → Int → Int → Int → Sl → Sl → World → Prop}
  (hK : ∀ r q w', Hp [] w w' [tSl r 2 1 iv V, tParts q P] → K op e1 e2 kd r q w') : c26 sy ix op e1 e2 kd s p w K := by
 refine c26_of ?_
 unfold f26
 refine (Hp.init (S := []) w).nw fun b1 w1 h => ?_
 refine h.nw fun b2 w2 h => ?_
 refine h.ld 0 (n := 2) (k := .i .i64) (x := op) rfl rfl ?_
 refine h.lda 0 (n := 2) (m := 1) (k := .i .i64) (x := e1) rfl rfl ?_
 refine h.lda 0 (n := 2) (m := 2) (k := .i .i64) (x := e2) rfl rfl ?_
 refine h.lda 0 (n := 2) (m := 3) (k := .i .i64) (x := kd) rfl rfl ?_
 refine h.lda 0 (n := 2) (m := 4) (k := .sl) (x := s) rfl rfl ?_
 refine h.lda 0 (n := 2) (m := 5) (k := .sl) (x := p) rfl rfl ?_
 refine bcopied_spec (SlR.keep hr h.1) (hp.keep h.1) hl hlP hvP fun r q w3 p' => ?_
 have h := h.r0 rfl p'
 refine h.st0 1 rfl (by simp) rfl fun w7 h => ?_
 refine h.st 1 (n := 1) rfl (by simp) rfl fun w7 h => ?_
 refine h.st 1 (n := 2) rfl (by simp) rfl fun w7 h => ?_
 refine h.st 1 (n := 3) rfl (by simp) rfl fun w7 h => ?_
 refine h.st 1 (n := 4) rfl (by simp) rfl fun w7 h => ?_
 refine h.st 1 (n := 5) rfl (by simp) rfl fun w7 h => ?_
 refine h.ld0 1 (k := .i .i64) (x := op) rfl rfl ?_
 refine h.ld 1 (n := 1) (k := .i .i64) (x := e1) rfl rfl ?_
 refine h.ld 1 (n := 2) (k := .i .i64) (x := e2) rfl rfl ?_
 refine h.ld 1 (n := 3) (k := .i .i64) (x := kd) rfl rfl ?_
 refine h.ld 1 (n := 4) (k := .sl) (x := r) rfl rfl ?_
 refine h.ld 1 (n := 5) (k := .sl) (x := q) rfl rfl ?_
 exact hK r q w7 (h.selL [2, 3] (by decide) rfl)
end
open FS (ER erv ltE erv_len)
structure Cmd where
 op : Int
 e1 : Int
 e2 : Int
 kd : Int
 V : List Int
 P : List Part
structure EV where
 sy : Int
 ix : Int
 c : Cmd
 s : Sl
 p : Sl
def EV.r (x : EV) : ER := ⟨x.sy, x.ix, x.c.op, x.c.e1, x.c.e2, x.c.kd, x.s, x.p⟩
abbrev BE := Int × Int × Cmd
def EV.m (x : EV) : BE := (x.sy, x.ix, x.c)
abbrev evc (x : EV) : List Value := erv x.r
def tEV (x : EV) : Thing := tStar (tSl x.s 2 1 iv x.c.V) (tParts x.p x.c.P)
def tEnts (s : Sl) (l : List BE) : Thing := tNest 69 8 evc tEV EV.m s l
def tBuf (b : Nat) (l : List BE) : Thing := tEx fun s : Sl => tStar (tBlk b 66 [.slice s.a s.len s.cap]) (tEnts s l)
theorem und64 : Try.prog.underlying 64 = some (.slice 69) := by kernel_rfl
theorem inf69 : ∃ inf : TypeInfo, Try.prog.info? 69 = some inf ∧ inf.zero = some (.agg #[.int .i64 0, .int .i64 0, .int .i64 0, .int .i64 0, .int .i64 0, .int .i64 0, .slice none 0 0, .slice none 0 0]) ∧ inf.size = 8 ∧ inf.bytes = 96 := infoP (by kernel_rfl)
section
variable {S : List Nat} {w0 w : World} {its : List Thing}
theorem buf_open {b : Nat} {L : List BE} {rest : List Thing} (h : Hp S w0 w (tBuf b L :: rest)) : ∃ s : Sl, Hp S w0 w (tBlk b 66 [.slice s.a s.len s.cap] :: tEnts s L :: rest) := by
 obtain ⟨s, h⟩ := h.openEx (i := 0) rfl (fun _ => rfl)
 have h := h.split (i := 0) rfl rfl rfl
 exact ⟨s, h.up (A := [tBlk b 66 [.slice s.a s.len s.cap]]) (B := rest)⟩
theorem buf_shut {b : Nat} {s : Sl} {L : List BE} {rest : List Thing} (h : Hp S w0 w (tBlk b 66 [.slice s.a s.len s.cap] :: tEnts s L :: rest)) : Hp S w0 w (tBuf b L :: rest) := by
 have h := h.joinStar (i := 0) (j := 1) (by omega) rfl rfl rfl rfl
 have h := h.putEx (i := 0) (f := fun s : Sl => tStar (tBlk b 66 [.slice s.a s.len s.cap]) (tEnts s L)) s rfl rfl
 exact h.cutMid (A := [tBuf b L]) (B := [tEmp]) (C := rest)
theorem BNew_spec (h : Hp S w0 w its) {K : Option Addr → World → Prop} (hK : ∀ b w', Hp S w0 w' (tBuf b [] :: its) → K (some ⟨b, 0, none⟩) w') : c7 w K := by
 refine c7_of ?_
 unfold f7
 refine h.nw fun b w1 h => ?_
 have h := h.up (A := []) (B := its)
 have h := h.nest_nil 69 8 evc tEV EV.m
 have h := h.up (A := [tBlk b 66 [.slice none 0 0]]) (B := its)
 exact hK b w1 (buf_shut (s := ⟨none, 0, 0⟩) h)
set_option maxHeartbeats 4000000 in
theorem Put_spec {b : Nat} {L : List BE} {rest : List Thing} (h : Hp S w0 w (tBuf b L :: rest)) (i j : Nat) {u v : Thing} {sy eI eG op e1 e2 kd : Int} {s p : Sl} {V : List Int} {P : List Part}
  (hi : rest[i]? = some u) (hu : ∀ {w O}, u.holds w O → ∃ o, SlR w s 1 iv V o) (hj : rest[j]? = some v) (hv : ∀ {w O}, v.holds w O → RdP w p P)
  (hl : V.length ≤ 17592186044416) (hlP : P.length ≤ 4398046511104) (hvP : ∀ x ∈ P, x.2.length ≤ 17592186044416) {K : Int → World → Prop}
  (hfull : 100000 ≤ L.length → ∀ w', Hp S w0 w' (tBuf b L :: rest) → K 40 w')
  (hput : L.length < 100000 → ∀ w', Hp S w0 w' (tBuf b (L ++ [(sy, eI, ⟨op, e1, e2, kd, V, P⟩)]) :: rest) → K 0 w') : c8 (some ⟨b, 0, none⟩) sy eI eG op e1 e2 kd s p w K := by
 refine c8_of ?_
 unfold f8
 obtain ⟨inf, i1, i2, i3, i4⟩ := inf69
 obtain ⟨l, h⟩ := buf_open h
 refine h.nw fun be w1 h => ?_
 have h := h.up (A := [tBlk b 66 [.slice l.a l.len l.cap], tEnts l L]) (B := rest)
 refine h.nw fun bc w2 h => ?_
 have h := h.up (A := [tBlk b 66 [.slice l.a l.len l.cap], tEnts l L, tBlk be 33 [.int .i64 eI, .int .i64 eG]]) (B := rest)
 rw [NN_some]
 refine h.ld0 0 (k := .sl) (x := l) rfl rfl ?_
 have hol := (h.nest_see (s := l) 1 rfl).1
 by_cases hf : 100000 ≤ L.length
 ·refine ifT (by rw [decide_eq_true_iff]; omega) (hfull hf w2 (buf_shut (s := l) ?_))
  exact h.cutMid (A := [tBlk b 66 [.slice l.a l.len l.cap], tEnts l L]) (B := [tBlk be 33 [.int .i64 eI, .int .i64 eG], tBlk bc 37 [.int .i64 op, .int .i64 e1, .int .i64 e2, .int .i64 kd, .slice s.a s.len s.cap, .slice p.a p.len p.cap]]) (C := rest)
 ·refine ifF (by rw [decide_eq_true_iff]; omega) ?_
  refine h.dr fun w3 h => ?_
  rw [NN_some]
  refine h.ld0 0 (k := .sl) (x := l) rfl rfl ?_
  refine h.ld0 2 (k := .i .i64) (x := eI) rfl rfl ?_
  refine h.ld0 3 (k := .i .i64) (x := op) rfl rfl ?_
  refine h.ld 3 (n := 1) (k := .i .i64) (x := e1) rfl rfl ?_
  refine h.ld 3 (n := 2) (k := .i .i64) (x := e2) rfl rfl ?_
  refine h.ld 3 (n := 3) (k := .i .i64) (x := kd) rfl rfl ?_
  refine h.ld 3 (n := 4) (k := .sl) (x := s) rfl rfl ?_
  refine h.ld 3 (n := 5) (k := .sl) (x := p) rfl rfl ?_
  have hr : ∃ o, SlR w3 s 1 iv V o := by
   obtain ⟨O', hO'⟩ := h.see (i := i + 4) (t := u) hi
   exact hu hO'
  have hp : RdP w3 p P := by
   obtain ⟨O', hO'⟩ := h.see (i := j + 4) (t := v) hj
   exact hv hO'
  refine bcopied_spec hr hp hl hlP hvP fun r q w4 p' => ?_
  have h := h.r0 rfl p'
  refine ⟨?_, ?_, ?_⟩
  ·obtain ⟨_, hc, rfl⟩ := h.ld0 2 (k := .i .i64) (x := eI) (K := fun z => z = eI) rfl rfl rfl
   exact hc
  ·obtain ⟨_, hc, rfl⟩ := h.ld0 0 (k := .sl) (x := l) (K := fun z => z = l) rfl rfl rfl
   exact hc
  generalize tBlk be 33 [.int .i64 eI, .int .i64 eG] = tb1 at h
  generalize tBlk bc 37 [.int .i64 op, .int .i64 e1, .int .i64 e2, .int .i64 kd, .slice s.a s.len s.cap, .slice p.a p.len p.cap] = tb2 at h
  have h : Hp S w0 w4 ([tBlk b 66 [.slice l.a l.len l.cap], tEnts l L, tb1, tb2] ++ (rest ++ [tSl r 2 1 iv V]) ++ [tParts q P]) := by
   have e : [tBlk b 66 [.slice l.a l.len l.cap], tEnts l L, tb1, tb2] ++ (rest ++ [tSl r 2 1 iv V]) ++ [tParts q P] = ([tBlk b 66 [.slice l.a l.len l.cap], tEnts l L, tb1] ++ tb2 :: rest) ++ [tSl r 2 1 iv V, tParts q P] := by simp
   rw [e]; exact h
  have h := h.up
  have h : Hp S w0 w4 ([tBlk b 66 [.slice l.a l.len l.cap], tEnts l L, tb1, tb2, tParts q P] ++ rest ++ [tSl r 2 1 iv V]) := by
   have e : [tBlk b 66 [.slice l.a l.len l.cap], tEnts l L, tb1, tb2, tParts q P] ++ rest ++ [tSl r 2 1 iv V] = [tBlk b 66 [.slice l.a l.len l.cap], tEnts l L, tb1, tb2] ++ tParts q P :: (rest ++ [tSl r 2 1 iv V]) := by simp
   rw [e]; exact h
  have h := h.up
  have h := h.joinStar (i := 5) (j := 4) (a := tSl r 2 1 iv V) (b := tParts q P) (by omega) rfl rfl rfl rfl
  refine h.nest_app 1 5 (by omega) (⟨sy, eI, ⟨op, e1, e2, kd, V, P⟩, r, q⟩ : EV) rfl rfl rfl (fun _ => rfl) und64 i1 i3 i2 rfl rfl (by simp [evc, erv, EV.r, Value.oneCell']) (by rw [i4]; omega) (by omega) fun l2 w5 h _ => ?_
  rw [NN_some]
  refine h.st0 0 rfl (by simp) rfl fun w6 h => ?_
  refine hput (by omega) w6 (buf_shut (s := l2) ?_)
  exact h.cutMid (A := [tBlk b 66 [.slice l2.a l2.len l2.cap], tEnts l2 (L ++ [(sy, eI, ⟨op, e1, e2, kd, V, P⟩)])]) (B := [tb1, tb2, tEmp, tEmp]) (C := rest)
end
end Go.Proofs.Ythmbjlpgbkkjjaa.FW
end

section
namespace Go.Proofs.Ythmbjlpgbkkjjaa.FS
variable {α β : Type}
def insF (f : α → β) (lt : β → β → Bool) (x : α) : List α → List α
 | [] => [x]
 | y :: l => if lt (f y) (f x) = true then y :: insF f lt x l else x :: y :: l
def sortF (f : α → β) (lt : β → β → Bool) : List α → List α
 | [] => []
 | x :: l => insF f lt x (sortF f lt l)
theorem insF_mem {f : α → β} {lt : β → β → Bool} {x z : α} : ∀ {l : List α}, z ∈ insF f lt x l ↔ z = x ∨ z ∈ l
 | [] => by simp [insF]
 | y :: l => by
  unfold insF
  split
  ·rw [List.mem_cons, insF_mem, List.mem_cons]
   constructor
   ·rintro (h | h | h)
    ·exact .inr (.inl h)
    ·exact .inl h
    ·exact .inr (.inr h)
   ·rintro (h | h | h)
    ·exact .inr (.inl h)
    ·exact .inl h
    ·exact .inr (.inr h)
  ·rw [List.mem_cons]
theorem sortF_mem {f : α → β} {lt : β → β → Bool} {z : α} : ∀ {l : List α}, z ∈ sortF f lt l ↔ z ∈ l
 | [] => Iff.rfl
 | x :: l => by
  unfold sortF
  rw [insF_mem, sortF_mem, List.mem_cons]
theorem insF_len {f : α → β} {lt : β → β → Bool} {x : α} : ∀ {l : List α}, (insF f lt x l).length = l.length + 1
 | [] => rfl
 | y :: l => by
  unfold insF
  split
  ·rw [List.length_cons, insF_len, List.length_cons]
  ·rfl
theorem sortF_len {f : α → β} {lt : β → β → Bool} : ∀ {l : List α}, (sortF f lt l).length = l.length
 | [] => rfl
 | x :: l => by
  unfold sortF
  rw [insF_len, sortF_len, List.length_cons]
theorem insF_filter {f : α → β} {lt : β → β → Bool} (hs : Swo lt) (k : β) {x : α} : ∀ {l : List α}, ((insF f lt x l).map f).filter (alike lt k) = ((x :: l).map f).filter (alike lt k)
 | [] => rfl
 | y :: l => by
  unfold insF
  split
  ·rename_i h
   have ih := insF_filter (f := f) hs k (x := x) (l := l)
   rw [List.map_cons, List.map_cons, List.map_cons]
   rw [List.map_cons] at ih
   by_cases h1 : alike lt k (f x) = true
   ·by_cases h2 : alike lt k (f y) = true
    ·have h3 := alike_iff.1 h1
     have h4 := alike_iff.1 h2
     have := hs.trans (x := f x) (y := k) (z := f y) h3.1 h4.2
     rw [h] at this; cases this
    ·rw [List.filter_cons_of_neg h2, ih, List.filter_cons_of_pos h1, List.filter_cons_of_pos h1, List.filter_cons_of_neg h2]
   ·by_cases h2 : alike lt k (f y) = true
    ·rw [List.filter_cons_of_pos h2, ih, List.filter_cons_of_neg h1, List.filter_cons_of_neg h1, List.filter_cons_of_pos h2]
    ·rw [List.filter_cons_of_neg h2, ih, List.filter_cons_of_neg h1, List.filter_cons_of_neg h1, List.filter_cons_of_neg h2]
  ·rfl
theorem sortF_same {f : α → β} {lt : β → β → Bool} (hs : Swo lt) {l : List α} : Same lt (l.map f) ((sortF f lt l).map f) := by
  refine ⟨by rw [List.length_map, List.length_map, sortF_len], fun k => ?_⟩
  induction l with
  | nil => rfl
  | cons x l ih =>
   unfold sortF
   rw [insF_filter hs k, List.map_cons, List.map_cons, List.filter_cons, List.filter_cons, ih]
theorem insF_srt {f : α → β} {lt : β → β → Bool} (hs : Swo lt) {x : α} : ∀ {l : List α}, Srt lt (l.map f) → Srt lt ((insF f lt x l).map f)
 | [], _ => List.pairwise_singleton _ _
 | y :: l, h => by
  obtain ⟨h1, h2⟩ := List.pairwise_cons.1 h
  unfold insF
  split
  ·rename_i hyx
   refine List.pairwise_cons.2 ⟨fun b hb => ?_, insF_srt hs h2⟩
   obtain ⟨z, hz, rfl⟩ := List.mem_map.1 hb
   rcases insF_mem.1 hz with rfl | hz
   ·exact hs.asymm hyx
   ·exact h1 _ (List.mem_map_of_mem hz)
  ·rename_i hyx
   have hyx : lt (f y) (f x) = false := by simpa using hyx
   refine List.pairwise_cons.2 ⟨fun b hb => ?_, h⟩
   rcases List.mem_cons.1 hb with rfl | hb
   ·exact hyx
   ·exact hs.trans hyx (h1 b hb)
theorem sortF_srt {f : α → β} {lt : β → β → Bool} (hs : Swo lt) : ∀ {l : List α}, Srt lt ((sortF f lt l).map f)
 | [] => List.Pairwise.nil
 | x :: l => insF_srt hs (sortF_srt hs)
theorem sortF_uniq {f : α → β} {lt : β → β → Bool} (hs : Swo lt) {l : List α} {m : List β} (h1 : Srt lt m) (h2 : Same lt (l.map f) m) : m = (sortF f lt l).map f :=
 srt_uniq hs h1 (sortF_srt hs) (h2.symm.trans (sortF_same hs))
end Go.Proofs.Ythmbjlpgbkkjjaa.FS
end

section
namespace Go.Proofs.Ythmbjlpgbkkjjaa.FW
open F
open Go Go.Den Go.Proofs
open FS (ER erv ltE swoE erv_len sort_spec cmpOk sortF sortF_uniq sortF_mem sortF_len)
open FI (PoolM tPool)
open FT (TabM tTab Ent entV ent ent_len atI keyEnt iv iv_len)
structure CV where
 c : Cmd
 s : Sl
 p : Sl
abbrev cdv (x : CV) : List Value := [.int .i64 x.c.op, .int .i64 x.c.e1, .int .i64 x.c.e2, .int .i64 x.c.kd, .slice x.s.a x.s.len x.s.cap, .slice x.p.a x.p.len x.p.cap]
def tCV (x : CV) : Thing := tStar (tSl x.s 2 1 iv x.c.V) (tParts x.p x.c.P)
def tCmds (s : Sl) (l : List Cmd) : Thing := tNest 37 6 cdv tCV CV.c s l
theorem und38 : Try.prog.underlying 38 = some (.slice 37) := by kernel_rfl
theorem inf37 : ∃ inf : TypeInfo, Try.prog.info? 37 = some inf ∧ inf.zero = some (.agg #[.int .i64 0, .int .i64 0, .int .i64 0, .int .i64 0, .slice none 0 0, .slice none 0 0]) ∧ inf.size = 6 ∧ inf.bytes = 80 := infoP (by kernel_rfl)
def RdL (w : World) (x : EV) : Prop := (∃ o, SlR w x.s 1 iv x.c.V o) ∧ RdP w x.p x.c.P
theorem RdL.keep {w w' : World} {x : EV} (h : RdL w x) (hf : Fr [] w w') : RdL w' x := ⟨SlR.keep h.1 hf, h.2.keep hf⟩
def Cmd.Small (c : Cmd) : Prop := c.V.length ≤ 17592186044416 ∧ c.P.length ≤ 4398046511104 ∧ ∀ x ∈ c.P, x.2.length ≤ 17592186044416
theorem buf_see {w : World} {b : Nat} {L : List BE} {O : List Nat} (h : (tBuf b L).holds w O) : ∃ (s : Sl) (xs : List EV), xs.map EV.m = L ∧ (∃ O, (tBlk b 66 [.slice s.a s.len s.cap]).holds w O) ∧ (∃ o, SlR w s 8 erv (xs.map EV.r) o) ∧ ∀ x ∈ xs, RdL w x := by
 obtain ⟨s, O1, O2, h1, ⟨xs, hx, P1, P2, h2, h3, _⟩, _⟩ := h
 refine ⟨s, xs, hx, ⟨O1, h1⟩, ?_, fun x hx => ?_⟩
 ·obtain ⟨q1, q2⟩ := SlF.toR h2
  refine ⟨P1, by rw [List.length_map]; exact q1, ?_⟩
  have e : (xs.map EV.r).flatMap erv = xs.flatMap evc := by rw [List.flatMap_map]
  rw [e]; exact q2
 ·obtain ⟨O', R1, R2, h4, h5, _⟩ := tAll_see h3 (List.mem_map.2 ⟨x, hx, rfl⟩)
  exact ⟨⟨_, SlF.toR h4⟩, rdP_of h5⟩
section
variable {S : List Nat} {w0 w : World} {its : List Thing}
theorem cloneE_spec (h : Hp S w0 w its) (i : Nat) {u : Thing} {s : Sl} {L : List ER} (hi : its[i]? = some u) (hu : Hp.Reads u s 8 erv L) (hl : L.length ≤ 1000000) {K : Sl → World → Prop} (hK : ∀ r w', Hp S w0 w' (its ++ [tSl r 69 8 erv L]) → K r w') : c20 s w K := by
 refine c20_of ?_
 unfold f20
 obtain ⟨inf, q1, q2, q3, q4⟩ := inf69
 have hlt := (List.getElem?_eq_some_iff.1 hi).1
 have hsl := h.lenU i (by rw [hi]; rfl) hu
 by_cases hn : s.a.isNone = true
 ·refine ifT hn (hK _ _ ?_)
  have : L = [] := by
   obtain ⟨O, hO⟩ := h.see hi
   obtain ⟨o, hR⟩ := hu.rd hO
   exact hR.isNil (by simpa using hn)
  rw [this]; exact h.nil 69 8 erv
 ·refine ifF hn ?_
  refine h.nw (c := []) fun b w1 h => ?_
  have h := h.blkSl (i := its.length) (m := 0) (l := ([] : List ER)) (f := erv) (n := 8) List.getElem?_concat_length rfl rfl erv_len
  rw [set_last] at h
  refine h.appS its.length i (s := ⟨some ⟨b, 0, none⟩, 0, 0⟩) (s2 := s) List.getElem?_concat_length (by rw [List.getElem?_append_left hlt]; exact hi) hu erv_len und64 q1 q3 q2 rfl (by simp [erv, Value.oneCell']) (by rw [q4]; show (0 + s.len) * 96 ≤ _; omega) (by show 0 + s.len ≤ _; omega) fun r w2 h _ _ => ?_
  rw [set_last] at h
  exact hK r w2 h
set_option maxHeartbeats 4000000 in
theorem each_spec {w w1 : World} {l : Sl} {xs : List EV} (h : Hp [] w w1 [tSl l 69 8 erv (xs.map EV.r)]) (hx : ∀ x ∈ xs, RdL w x) (hl : xs.length ≤ 1000000) (hs : ∀ x ∈ xs, x.c.Small) {K : Sl → World → Prop} (hK : ∀ r w', Hp [] w w' [tCmds r (xs.map EV.c)] → K r w') : c25 l (.func (.func 26) #[] #[]) w1 K := by
 refine c25_of ?_
 unfold f25
 obtain ⟨inf, i1, i2, i3, i4⟩ := inf37
 have hsl := h.len (s := l) (e := 69) (n := 8) (f := erv) (l := xs.map EV.r) 0 rfl
 rw [List.length_map] at hsl
 have h : Hp [] w w1 ([tSl l 69 8 erv (xs.map EV.r)] ++ [tCmds ⟨none, 0, 0⟩ []]) := h.nest_nil 37 6 cdv tCV CV.c
 refine ⟨fun out t mm w' => ∃ k : Nat, t = k ∧ k ≤ xs.length ∧ mm = xs.length - k ∧ Hp [] w w' [tSl l 69 8 erv (xs.map EV.r), tCmds out ((xs.take k).map EV.c)], ⟨xs.length, 0, rfl, by omega, rfl, h⟩, ?_⟩
 clear h
 rintro out t mm w2 ⟨k, rfl, hk, rfl, g⟩
 by_cases hlt : k < xs.length
 ·refine ifT (by rw [decide_eq_true_iff]; omega) ?_
  have hy : (xs.map EV.r)[k]? = some xs[k].r := by rw [List.getElem?_map, List.getElem?_eq_getElem hlt]; rfl
  have hym : xs[k] ∈ xs := List.getElem_mem hlt
  have htk : xs.take (k + 1) = xs.take k ++ [xs[k]] := by rw [List.take_succ_eq_append_getElem hlt]
  generalize xs[k] = y at hy hym htk
  refine FS.rd8 g 0 (x := y.r) rfl (by omega) (by rw [Int.toNat_natCast]; exact hy) ?_
  refine g.nw fun b w3 g => ?_
  refine g.st0 2 rfl (by simp) rfl fun w4 g => ?_
  refine g.st 2 (n := 1) rfl (by simp) rfl fun w4 g => ?_
  refine g.st 2 (n := 2) rfl (by simp) rfl fun w4 g => ?_
  refine g.st 2 (n := 3) rfl (by simp) rfl fun w4 g => ?_
  refine g.st 2 (n := 4) rfl (by simp) rfl fun w4 g => ?_
  refine g.st 2 (n := 5) rfl (by simp) rfl fun w4 g => ?_
  refine g.st 2 (n := 6) rfl (by simp) rfl fun w4 g => ?_
  refine g.st 2 (n := 7) rfl (by simp) rfl fun w5 g => ?_
  refine g.ld0 2 (k := .i .i64) (x := y.sy) rfl rfl ?_
  refine g.ld 2 (n := 1) (k := .i .i64) (x := y.ix) rfl rfl ?_
  refine g.ld 2 (n := 2) (k := .i .i64) (x := y.c.op) rfl rfl ?_
  refine g.ld 2 (n := 3) (k := .i .i64) (x := y.c.e1) rfl rfl ?_
  refine g.ld 2 (n := 4) (k := .i .i64) (x := y.c.e2) rfl rfl ?_
  refine g.ld 2 (n := 5) (k := .i .i64) (x := y.c.kd) rfl rfl ?_
  refine g.ld 2 (n := 6) (k := .sl) (x := y.s) rfl rfl ?_
  refine g.ld 2 (n := 7) (k := .sl) (x := y.p) rfl rfl ?_
  obtain ⟨hr1, hr2⟩ := (hx y hym).keep g.1
  obtain ⟨s1, s2, s3⟩ := hs y hym
  refine ⟨26, #[], #[], rfl, ⟨_, Try.func26, by kernel_rfl⟩, ?_⟩
  refine all2_spec (sy := y.sy) (ix := y.ix) (op := y.c.op) (e1 := y.c.e1) (e2 := y.c.e2) (kd := y.c.kd) hr1 hr2 s1 s2 s3 fun r q w6 p' => ?_
  have g := g.r0 rfl p'
  have hol := (g.nest_see (s := out) 1 rfl).1
  rw [List.length_map, List.length_take] at hol
  have g := g.joinStar (i := 3) (j := 4) (a := tSl r 2 1 iv y.c.V) (b := tParts q y.c.P) (by omega) rfl rfl rfl rfl
  refine g.nest_app 1 3 (by omega) (⟨y.c, r, q⟩ : CV) rfl rfl rfl (fun _ => rfl) und38 i1 i3 i2 rfl rfl (by simp [cdv, Value.oneCell']) (by rw [i4]; omega) (by omega) fun out2 w7 g _ => ?_
  refine ⟨xs.length - (k + 1), by omega, k + 1, by rw [wr64 (by omega) (by omega)]; omega, by omega, rfl, ?_⟩
  rw [htk, List.map_append]
  exact g.selL [0, 1] (by decide) rfl
 ·refine ifF (by rw [decide_eq_true_iff]; omega) ?_
  obtain rfl : k = xs.length := by omega
  rw [List.take_length] at g
  exact hK out w2 (g.selL [1] (by decide) rfl)
end
open FS (insF)
def ltB (x y : BE) : Bool := decide (x.1 < y.1 ∨ x.1 = y.1 ∧ x.2.1 < y.2.1)
def sorted (L : List BE) : List Cmd := (sortF id ltB L).map fun x => x.2.2
theorem insF_map {x : EV} : ∀ {l : List EV}, (insF EV.r ltE x l).map EV.m = insF id ltB x.m (l.map EV.m)
 | [] => rfl
 | y :: l => by
  have e : ltE y.r x.r = ltB (id y.m) (id x.m) := rfl
  unfold insF
  rw [e]
  by_cases h : ltB (id y.m) (id x.m) = true
  ·rw [if_pos h]
   show _ = if ltB (id y.m) (id x.m) = true then _ else _
   rw [if_pos h, List.map_cons, insF_map]
  ·rw [if_neg h]
   show _ = if ltB (id y.m) (id x.m) = true then _ else _
   rw [if_neg h]; rfl
theorem sortF_map : ∀ {l : List EV}, (sortF EV.r ltE l).map EV.m = sortF id ltB (l.map EV.m)
 | [] => rfl
 | x :: l => by
  show (insF EV.r ltE x (sortF EV.r ltE l)).map EV.m = insF id ltB x.m (sortF id ltB (l.map EV.m))
  rw [insF_map, sortF_map]
section
variable {S : List Nat} {w0 w : World} {its : List Thing}
set_option maxHeartbeats 4000000 in
theorem All_spec (h : Hp S w0 w its) (i : Nat) {b : Nat} {L : List BE} (hi : its[i]? = some (tBuf b L)) (hL : L.length ≤ 1000000) (hs : ∀ x ∈ L, x.2.2.Small) {K : Sl → World → Prop} (hK : ∀ s w', Hp S w0 w' (its ++ [tCmds s (sorted L)]) → K s w') : c10 (some ⟨b, 0, none⟩) w K := by
 refine c10_of ?_
 unfold f10
 rw [NN_some]
 obtain ⟨O, hO⟩ := h.see hi
 obtain ⟨s, xs, rfl, ⟨O1, hb⟩, ⟨o, hR⟩, hx⟩ := buf_see hO
 rw [List.length_map] at hL
 have g : Hp [] w w ([(tBlk b 66 [.slice s.a s.len s.cap]).ro] ++ [(tRd s 8 erv (xs.map EV.r)).ro]) := ((Hp.init w).addRo hb (by simp)).addRo hR (by simp)
 refine g.ld0 0 (k := .sl) (x := s) rfl rfl ?_
 refine cloneE_spec g 1 (u := (tRd s 8 erv (xs.map EV.r)).ro) rfl ⟨fun {w O} h => ⟨O, h⟩⟩ (by rw [List.length_map]; omega) fun r w1 g => ?_
 have hrl := g.len (s := r) (e := 69) (n := 8) (f := erv) (l := xs.map EV.r) 2 rfl
 refine sort_spec cmpOk g 2 (l := xs.map EV.r) rfl (by rw [List.length_map]; omega) (by omega) fun l' w2 h1 h2 g => ?_
 obtain rfl := sortF_uniq swoE h1 h2
 have g : Hp [] w w2 [tSl r 69 8 erv ((sortF EV.r ltE xs).map EV.r)] := g.sel1 2 rfl
 refine each_spec (w := w) g (fun x hx' => hx x (sortF_mem.1 hx')) (by rw [sortF_len]; omega) (fun x hx' => hs x.m (List.mem_map_of_mem (sortF_mem.1 hx'))) fun r2 w3 p => ?_
 have e : sorted (xs.map EV.m) = (sortF EV.r ltE xs).map EV.c := by
  unfold sorted
  rw [← sortF_map, List.map_map]; rfl
 rw [e] at hK
 exact hK r2 w3 (h.r0 rfl p)
end
def ksK : KD := [(⟨#[80, 111, 115]⟩, [⟨#[120]⟩, ⟨#[121]⟩]), (⟨#[86, 101, 108]⟩, [⟨#[120]⟩]), (⟨#[77, 97, 114, 107]⟩, [])]
section
variable {S : List Nat} {w0 w : World} {its : List Thing}
theorem ks_spec (h : Hp S w0 w its) {K : Sl → World → Prop} (hK : ∀ s w', Hp S w0 w' (its ++ [tKinds s ksK]) → K s w') : c12 w K := by
 refine c12_of ?_
 unfold f12
 refine h.nwS (l := [(⟨#[120]⟩ : ByteArray), ⟨#[121]⟩]) (f := sv) (n := 1) (c := [_, _]) rfl rfl sv_len fun b1 w1 h => ?_
 refine h.nwS (l := [(⟨#[120]⟩ : ByteArray)]) (f := sv) (n := 1) (c := [_]) rfl rfl sv_len fun b2 w2 h => ?_
 have h := h.nil 9 1 sv
 refine h.nwS (l := [((⟨#[80, 111, 115]⟩, ⟨some ⟨b1, 0, none⟩, 2, 2⟩, [⟨#[120]⟩, ⟨#[121]⟩]) : KS), (⟨#[86, 101, 108]⟩, ⟨some ⟨b2, 0, none⟩, 1, 1⟩, [⟨#[120]⟩]), (⟨#[77, 97, 114, 107]⟩, ⟨none, 0, 0⟩, [])]) (f := kdv) (n := 2) (c := [_, _, _, _, _, _]) rfl rfl kdv_len fun b4 w4 h => ?_
 have h : Hp S w0 w4 (its ++ [tSl ⟨some ⟨b1, 0, none⟩, 2, 2⟩ 9 1 sv [⟨#[120]⟩, ⟨#[121]⟩], tSl ⟨some ⟨b2, 0, none⟩, 1, 1⟩ 9 1 sv [⟨#[120]⟩], tSl ⟨none, 0, 0⟩ 9 1 sv []] ++ [tSl ⟨some ⟨b4, 0, none⟩, 3, 3⟩ 87 2 kdv [((⟨#[80, 111, 115]⟩, ⟨some ⟨b1, 0, none⟩, 2, 2⟩, [⟨#[120]⟩, ⟨#[121]⟩]) : KS), (⟨#[86, 101, 108]⟩, ⟨some ⟨b2, 0, none⟩, 1, 1⟩, [⟨#[120]⟩]), (⟨#[77, 97, 114, 107]⟩, ⟨none, 0, 0⟩, [])]]) := by
  simpa using h
 have h := h.swap2
 rw [List.append_assoc] at h
 exact hK _ w4 (h.nest_make (vis := kvis) (sub := tF) rfl)
end
theorem may_ksK : mayOk ksK := by
 refine ⟨fun x hx => ?_, by decide, by decide, words_of (by decide) (by decide)⟩
 simp only [ksK, List.mem_cons, List.not_mem_nil, or_false] at hx
 rcases hx with rfl | rfl | rfl
 ·exact ⟨by decide, words_of (by decide) (by decide)⟩
 ·exact ⟨by decide, words_of (by decide) (by decide)⟩
 ·exact ⟨by decide, words_of (by decide) (by decide)⟩
def WA.doC (a : WA) (c : Cmd) : WA × List Ent × Int :=
 if c.op = 1 then ((a.spawn c.P).1, [(a.spawn c.P).2.1], (a.spawn c.P).2.2) else
 if c.op = 2 then ((a.despawn (c.e1, c.e2)).1, [], (a.despawn (c.e1, c.e2)).2) else
 if c.op = 3 then ((a.add (c.e1, c.e2) (c.kd, c.V)).1, [], (a.add (c.e1, c.e2) (c.kd, c.V)).2) else
 if c.op = 4 then ((a.remove (c.e1, c.e2) c.kd).1, [], (a.remove (c.e1, c.e2) c.kd).2) else (a, [], 1)
def Cmd.Fit (c : Cmd) : Prop := (-9223372036854775808 ≤ c.kd ∧ c.kd ≤ 9223372036854775807) ∧ FP.R64 c.V ∧ ∀ x ∈ c.P, (-9223372036854775808 ≤ x.1 ∧ x.1 ≤ 9223372036854775807) ∧ FP.R64 x.2
section
variable {S : List Nat} {w0 w : World} {its : List Thing}
set_option maxHeartbeats 4000000 in
theorem does_spec {wb : Nat} {a : WA} {c : Cmd} {s p : Sl} (h : Hp S w0 w its) (i jv jp : Nat) (hiv : i ≠ jv) (hip : i ≠ jp) (hi : its[i]? = some (tW wb a)) (hjv : its[jv]? = some (tSl s 2 1 iv c.V)) (hjp : its[jp]? = some (tParts p c.P)) (hc : c.Small) (hf : c.Fit) {K : Sl → Int → World → Prop}
  (hK : ∀ m w', Hp S w0 w' (its.set i (tW wb (a.doC c).1) ++ [tSl m 33 2 ent (a.doC c).2.1]) → K m (a.doC c).2.2 w') : c30 (some ⟨wb, 0, none⟩) c.op c.e1 c.e2 c.kd s p w K := by
 refine c30_of ?_
 unfold f30
 obtain ⟨s1, s2, s3⟩ := hc
 obtain ⟨⟨k1, k2⟩, hV, hP⟩ := hf
 have li := (List.getElem?_eq_some_iff.1 hi).1
 have lv := (List.getElem?_eq_some_iff.1 hjv).1
 have lp := (List.getElem?_eq_some_iff.1 hjp).1
 refine h.nw fun bc w1 h => ?_
 have gi : (its ++ [tBlk bc 37 [.int .i64 c.op, .int .i64 c.e1, .int .i64 c.e2, .int .i64 c.kd, .slice s.a s.len s.cap, .slice p.a p.len p.cap]])[i]? = some (tW wb a) := by rw [List.getElem?_append_left li]; exact hi
 have gv : (its ++ [tBlk bc 37 [.int .i64 c.op, .int .i64 c.e1, .int .i64 c.e2, .int .i64 c.kd, .slice s.a s.len s.cap, .slice p.a p.len p.cap]])[jv]? = some (tSl s 2 1 iv c.V) := by rw [List.getElem?_append_left lv]; exact hjv
 have gp : (its ++ [tBlk bc 37 [.int .i64 c.op, .int .i64 c.e1, .int .i64 c.e2, .int .i64 c.kd, .slice s.a s.len s.cap, .slice p.a p.len p.cap]])[jp]? = some (tParts p c.P) := by rw [List.getElem?_append_left lp]; exact hjp
 have gc : ((its ++ [tBlk bc 37 [.int .i64 c.op, .int .i64 c.e1, .int .i64 c.e2, .int .i64 c.kd, .slice s.a s.len s.cap, .slice p.a p.len p.cap]])[its.length]?).map Thing.holds = some (tBlk bc 37 [.int .i64 c.op, .int .i64 c.e1, .int .i64 c.e2, .int .i64 c.kd, .slice s.a s.len s.cap, .slice p.a p.len p.cap]).holds := by rw [List.getElem?_concat_length]; rfl
 refine h.ld0 its.length (k := .i .i64) (x := c.op) gc rfl ?_
 have none_ : ∀ {a' : WA} {t : Thing} {w' : World}, Hp S w0 w' ((its ++ [t]).set i (tW wb a')) → Hp S w0 w' (its.set i (tW wb a') ++ [tSl ⟨none, 0, 0⟩ 33 2 ent []]) := fun {a' t w'} h => by
  rw [List.set_append_left _ _ li] at h
  exact (h.front).nil 33 2 ent
 by_cases h1 : c.op = 1
 ·have e : a.doC c = ((a.spawn c.P).1, [(a.spawn c.P).2.1], (a.spawn c.P).2.2) := by unfold WA.doC; rw [if_pos h1]
  rw [e] at hK
  refine ifT (by simp [h1]) ?_
  refine h.ld its.length (n := 5) (k := .sl) (x := p) gc rfl ?_
  refine Spawn_W h i jp hip gi gp (fun x hx => (hP x hx).1) (fun x hx => (hP x hx).2) s2 fun w2 h => ?_
  rw [List.set_append_left _ _ li] at h
  have h := h.front
  generalize its.set i (tW wb (a.spawn c.P).1) = its' at h hK
  refine h.nw fun bx w3 h => ?_
  refine h.st0 its'.length List.getElem?_concat_length (by simp) rfl fun w4 h => ?_
  rw [set_last] at h
  refine h.st its'.length (n := 1) List.getElem?_concat_length (by simp) rfl fun w5 h => ?_
  rw [set_last] at h
  refine h.ld0 its'.length (k := .i .i64) (x := (a.spawn c.P).2.1.1) (by rw [List.getElem?_concat_length]; rfl) rfl ?_
  refine h.ld its'.length (n := 1) (k := .i .i64) (x := (a.spawn c.P).2.1.2) (by rw [List.getElem?_concat_length]; rfl) rfl ?_
  have h := h.front
  refine h.nwS (l := [(a.spawn c.P).2.1]) (f := ent) (n := 2) (m := 1) (c := [_, _]) rfl rfl ent_len fun bm w6 h => ?_
  exact hK _ w6 h
 refine ifF (by simp [h1]) ?_
 by_cases h2 : c.op = 2
 ·have e : a.doC c = ((a.despawn (c.e1, c.e2)).1, [], (a.despawn (c.e1, c.e2)).2) := by unfold WA.doC; rw [if_neg h1, if_pos h2]
  rw [e] at hK
  refine ifT (by simp [h2]) ?_
  refine h.ld its.length (n := 1) (k := .i .i64) (x := c.e1) gc rfl ?_
  refine h.lda its.length (n := 1) (m := 1) (k := .i .i64) (x := c.e2) gc rfl ?_
  exact Despawn_W h i gi (e := (c.e1, c.e2)) fun w2 h => hK _ w2 (none_ h)
 refine ifF (by simp [h2]) ?_
 by_cases h3 : c.op = 3
 ·have e : a.doC c = ((a.add (c.e1, c.e2) (c.kd, c.V)).1, [], (a.add (c.e1, c.e2) (c.kd, c.V)).2) := by unfold WA.doC; rw [if_neg h1, if_neg h2, if_pos h3]
  rw [e] at hK
  refine ifT (by simp [h3]) ?_
  refine h.ld its.length (n := 1) (k := .i .i64) (x := c.e1) gc rfl ?_
  refine h.lda its.length (n := 1) (m := 1) (k := .i .i64) (x := c.e2) gc rfl ?_
  refine h.ld its.length (n := 3) (k := .i .i64) (x := c.kd) gc rfl ?_
  refine h.ld its.length (n := 4) (k := .sl) (x := s) gc rfl ?_
  exact Add_W h i jv hiv (e := (c.e1, c.e2)) gi gv k1 k2 hV fun w2 h => hK _ w2 (none_ h)
 refine ifF (by simp [h3]) ?_
 by_cases h4 : c.op = 4
 ·have e : a.doC c = ((a.remove (c.e1, c.e2) c.kd).1, [], (a.remove (c.e1, c.e2) c.kd).2) := by unfold WA.doC; rw [if_neg h1, if_neg h2, if_neg h3, if_pos h4]
  rw [e] at hK
  refine ifT (by simp [h4]) ?_
  refine h.ld its.length (n := 1) (k := .i .i64) (x := c.e1) gc rfl ?_
  refine h.lda its.length (n := 1) (m := 1) (k := .i .i64) (x := c.e2) gc rfl ?_
  refine h.ld its.length (n := 3) (k := .i .i64) (x := c.kd) gc rfl ?_
  exact Remove_W h i (e := (c.e1, c.e2)) gi k1 k2 fun w2 h => hK _ w2 (none_ h)
 have e : a.doC c = (a, [], 1) := by unfold WA.doC; rw [if_neg h1, if_neg h2, if_neg h3, if_neg h4]
 rw [e] at hK
 refine ifF (by simp [h4]) (hK _ w1 (none_ (t := tBlk bc 37 [.int .i64 c.op, .int .i64 c.e1, .int .i64 c.e2, .int .i64 c.kd, .slice s.a s.len s.cap, .slice p.a p.len p.cap]) ?_))
 rw [Hp.set_same gi]; exact h
end
abbrev ASt := WA × List Ent × Int
def stepC (st : ASt) (k : Nat) (c : Cmd) : ASt :=
 if 2000 ≤ k then (st.1, st.2.1, st.2.2 + 1) else
 if (st.1.doC c).2.2 ≠ 0 then ((st.1.doC c).1, st.2.1, st.2.2 + 1) else ((st.1.doC c).1, st.2.1 ++ (st.1.doC c).2.1, st.2.2)
def WA.app (a : WA) (L : List Cmd) : Nat → ASt
 | 0 => (a, [], 0)
 | k + 1 => match L[k]? with
  | none => WA.app a L k
  | some c => stepC (WA.app a L k) k c
theorem doC_len (a : WA) (c : Cmd) : (a.doC c).2.1.length ≤ 1 := by
 unfold WA.doC
 split
 ·simp
 ·split
  ·simp
  ·split
   ·simp
   ·split <;> simp
theorem app_bound (a : WA) (L : List Cmd) : ∀ k, 0 ≤ (a.app L k).2.2 ∧ (a.app L k).2.2 ≤ k ∧ (a.app L k).2.1.length ≤ k
 | 0 => ⟨by simp [WA.app], by simp [WA.app], by simp [WA.app]⟩
 | k + 1 => by
  obtain ⟨h1, h2, h3⟩ := app_bound a L k
  have h4 : ∀ c, ((a.app L k).1.doC c).2.1.length ≤ 1 := fun c => doC_len _ c
  show 0 ≤ (match L[k]? with | none => WA.app a L k | some c => stepC (WA.app a L k) k c).2.2 ∧ (match L[k]? with | none => WA.app a L k | some c => stepC (WA.app a L k) k c).2.2 ≤ ((k + 1 : Nat) : Int) ∧ (match L[k]? with | none => WA.app a L k | some c => stepC (WA.app a L k) k c).2.1.length ≤ k + 1
  cases L[k]? with
  | none => dsimp only; exact ⟨h1, by omega, by omega⟩
  | some c =>
   have := h4 c
   unfold stepC
   dsimp only
   split
   ·exact ⟨by dsimp only; omega, by dsimp only; omega, by dsimp only; omega⟩
   ·split
    ·exact ⟨by dsimp only; omega, by dsimp only; omega, by dsimp only; omega⟩
    ·exact ⟨by dsimp only; omega, by dsimp only; omega, by dsimp only; rw [List.length_append]; omega⟩
open FT (inf32 und61)
section
variable {S : List Nat} {w0 w : World} {its : List Thing}
set_option maxHeartbeats 8000000 in
theorem Apply_spec {wb b : Nat} {a : WA} {L : List BE} {rest : List Thing} (h : Hp S w0 w (tW wb a :: tBuf b L :: rest)) (hL : L.length ≤ 1000000) (hs : ∀ x ∈ L, x.2.2.Small) (hf : ∀ x ∈ L, x.2.2.Fit) {K : Sl → Int → World → Prop}
  (hK : ∀ m w', Hp S w0 w' (tW wb (a.app (sorted L) L.length).1 :: tBuf b L :: tSl m 33 2 ent (a.app (sorted L) L.length).2.1 :: rest) → K m (a.app (sorted L) L.length).2.2 w') : c14 (some ⟨b, 0, none⟩) (some ⟨wb, 0, none⟩) w K := by
 refine c14_of ?_
 unfold f14
 obtain ⟨inf, i1, i2, i3, i4⟩ := inf32
 refine All_spec h 1 rfl hL hs fun r w1 h => ?_
 have hCl : (sorted L).length = L.length := by unfold sorted; rw [List.length_map, FS.sortF_len]
 have hCm : ∀ c ∈ sorted L, c.Small ∧ c.Fit := fun c hc => by
  obtain ⟨x, hx, rfl⟩ := List.mem_map.1 hc
  have := FS.sortF_mem.1 hx
  exact ⟨hs x this, hf x this⟩
 rw [← hCl] at hK hL
 generalize sorted L = CS at h hK hCm hL
 have h := h.up (A := [tW wb a, tBuf b L]) (B := rest)
 obtain ⟨xs, rfl, h⟩ := h.nest_open (i := 2) rfl
 rw [List.length_map] at hK hL
 have h := h.up (A := [tW wb a, tBuf b L, tSl r 37 6 cdv xs]) (B := rest)
 have hrl := h.len (s := r) (e := 37) (n := 6) (f := cdv) (l := xs) 2 rfl
 have h := (h.nil 33 2 ent).up (A := [tW wb a, tBuf b L, tSl r 37 6 cdv xs, tAll (xs.map tCV)]) (B := rest)
 refine ⟨fun sp rf t mm w' => ∃ k : Nat, t = k ∧ k ≤ xs.length ∧ mm = xs.length - k ∧ rf = (a.app (xs.map CV.c) k).2.2 ∧ Hp S w0 w' ([tW wb (a.app (xs.map CV.c) k).1, tBuf b L, tSl r 37 6 cdv xs, tAll ((xs.drop k).map tCV), tSl sp 33 2 ent (a.app (xs.map CV.c) k).2.1] ++ rest), ⟨xs.length, 0, rfl, by omega, rfl, rfl, h⟩, ?_⟩
 clear h
 rintro sp rf t mm w2 ⟨k, rfl, hk, rfl, rfl, h⟩
 obtain ⟨b1, b2, b3⟩ := app_bound a (xs.map CV.c) k
 by_cases hlt : k < xs.length
 ·refine ifT (by rw [decide_eq_true_iff]; omega) ?_
  have hy : xs[k]? = some xs[k] := List.getElem?_eq_getElem hlt
  have hym : xs[k].c ∈ xs.map CV.c := List.mem_map_of_mem (List.getElem_mem hlt)
  have hdr : xs.drop k = xs[k] :: xs.drop (k + 1) := List.drop_eq_getElem_cons hlt
  have happ : a.app (xs.map CV.c) (k + 1) = stepC (a.app (xs.map CV.c) k) k xs[k].c := by
   show (match (xs.map CV.c)[k]? with | none => _ | some c => _) = _
   rw [List.getElem?_map, hy]; rfl
  generalize xs[k] = y at hy hym hdr happ
  obtain ⟨hsm, hft⟩ := hCm y.c hym
  rw [hdr] at h
  refine h.ixr 2 (s := r) (l := xs) (f := cdv) (n := 6) (e := 37) rfl (by omega) (y := y) (by rw [Int.toNat_natCast]; exact hy) (fun _ => rfl) fun ad hc => ?_
  refine ldR0 (k := .i .i64) (x := y.c.op) (hc 0 (by omega)) rfl ?_
  refine ldR (k := .i .i64) (x := y.c.e1) (hc 1 (by omega)) rfl ?_
  refine ldR (k := .i .i64) (x := y.c.e2) (hc 2 (by omega)) rfl ?_
  refine ldR (k := .i .i64) (x := y.c.kd) (hc 3 (by omega)) rfl ?_
  refine ldR (k := .sl) (x := y.s) (hc 4 (by omega)) rfl ?_
  refine ldR (k := .sl) (x := y.p) (hc 5 (by omega)) rfl ?_
  have h := h.split (i := 3) (a := tCV y) (b := tAll ((xs.drop (k + 1)).map tCV)) rfl rfl (tAll_own _)
  have h := h.up (A := [tW wb (a.app (xs.map CV.c) k).1, tBuf b L, tSl r 37 6 cdv xs]) (B := tCV y :: tSl sp 33 2 ent (a.app (xs.map CV.c) k).2.1 :: rest)
  obtain ⟨its', e⟩ : ∃ its', its' = tW wb (a.app (xs.map CV.c) k).1 :: tBuf b L :: tSl r 37 6 cdv xs :: tAll ((xs.drop (k + 1)).map tCV) :: tCV y :: tSl sp 33 2 ent (a.app (xs.map CV.c) k).2.1 :: rest := ⟨_, rfl⟩
  have h : Hp S w0 w2 its' := by rw [e]; exact h
  refine h.nw fun bc w3 h => ?_
  refine h.st0 its'.length List.getElem?_concat_length (by simp) rfl fun w4 h => ?_
  rw [set_last] at h
  refine h.st its'.length (n := 1) List.getElem?_concat_length (by simp) rfl fun w5 h => ?_
  rw [set_last] at h
  refine h.st its'.length (n := 2) List.getElem?_concat_length (by simp) rfl fun w5 h => ?_
  rw [set_last] at h
  refine h.st its'.length (n := 3) List.getElem?_concat_length (by simp) rfl fun w5 h => ?_
  rw [set_last] at h
  refine h.st its'.length (n := 4) List.getElem?_concat_length (by simp) rfl fun w5 h => ?_
  rw [set_last] at h
  refine h.st its'.length (n := 5) List.getElem?_concat_length (by simp) rfl fun w6 h => ?_
  rw [set_last] at h
  have ek : IntKind.i64.wrap ((k : Int) + 1) = ((k + 1 : Nat) : Int) := by rw [wr64 (by omega) (by omega)]; rfl
  have er : IntKind.i64.wrap ((a.app (xs.map CV.c) k).2.2 + 1) = (a.app (xs.map CV.c) k).2.2 + 1 := wr64 (by omega) (by omega)
  rw [ek, er]
  by_cases h2k : 2000 ≤ k
  ·refine ifT (by rw [decide_eq_true_iff]; omega) ⟨xs.length - (k + 1), by omega, k + 1, rfl, by omega, rfl, ?_, ?_⟩
   ·rw [happ]; unfold stepC; rw [if_pos h2k]
   ·have h := h.front
    rw [e] at h
    rw [happ]; unfold stepC; rw [if_pos h2k]
    exact h.cutMid (A := [tW wb (a.app (xs.map CV.c) k).1, tBuf b L, tSl r 37 6 cdv xs, tAll ((xs.drop (k + 1)).map tCV)]) (B := [tCV y]) (C := tSl sp 33 2 ent (a.app (xs.map CV.c) k).2.1 :: rest)
  ·refine ifF (by rw [decide_eq_true_iff]; omega) ?_
   refine h.ld0 its'.length (k := .i .i64) (x := y.c.op) (by rw [List.getElem?_concat_length]; rfl) rfl ?_
   refine h.ld its'.length (n := 1) (k := .i .i64) (x := y.c.e1) (by rw [List.getElem?_concat_length]; rfl) rfl ?_
   refine h.ld its'.length (n := 2) (k := .i .i64) (x := y.c.e2) (by rw [List.getElem?_concat_length]; rfl) rfl ?_
   refine h.ld its'.length (n := 3) (k := .i .i64) (x := y.c.kd) (by rw [List.getElem?_concat_length]; rfl) rfl ?_
   refine h.ld its'.length (n := 4) (k := .sl) (x := y.s) (by rw [List.getElem?_concat_length]; rfl) rfl ?_
   refine h.ld its'.length (n := 5) (k := .sl) (x := y.p) (by rw [List.getElem?_concat_length]; rfl) rfl ?_
   have h := h.front
   rw [e] at h
   have h := h.split (i := 4) (a := tSl y.s 2 1 iv y.c.V) (b := tParts y.p y.c.P) rfl rfl rfl
   have hsp := h.len (s := sp) (e := 33) (n := 2) (f := ent) (l := (a.app (xs.map CV.c) k).2.1) 5 rfl
   refine does_spec h 0 4 _ (by omega) ?_ rfl rfl List.getElem?_concat_length hsm hft fun m w7 h => ?_
   ·simp
   by_cases hne : ((a.app (xs.map CV.c) k).1.doC y.c).2.2 = 0
   ·refine ifF (by simp [hne]) ?_
    have hm := h.len (s := m) (e := 33) (n := 2) (f := ent) (l := ((a.app (xs.map CV.c) k).1.doC y.c).2.1) _ (by rw [List.getElem?_concat_length]; rfl)
    have := doC_len (a.app (xs.map CV.c) k).1 y.c
    refine h.appS 5 _ (s := sp) (s2 := m) rfl List.getElem?_concat_length ⟨fun hO => ⟨_, SlF.toR hO⟩⟩ ent_len und61 i1 i3 i2 rfl (by simp [ent, Value.oneCell']) (by rw [i4]; omega) (by omega) fun sp2 w8 h _ _ => ?_
    refine ⟨xs.length - (k + 1), by omega, k + 1, rfl, by omega, rfl, ?_, ?_⟩
    ·rw [happ]; unfold stepC; rw [if_neg h2k, if_neg (by simp [hne])]
    ·rw [happ]; unfold stepC; rw [if_neg h2k, if_neg (by simp [hne])]
     have h : Hp S w0 w8 ((tW wb ((a.app (xs.map CV.c) k).1.doC y.c).1 :: tBuf b L :: tSl r 37 6 cdv xs :: tAll ((xs.drop (k + 1)).map tCV) :: tSl y.s 2 1 iv y.c.V :: tSl sp2 33 2 ent ((a.app (xs.map CV.c) k).2.1 ++ ((a.app (xs.map CV.c) k).1.doC y.c).2.1) :: rest) ++ [tParts y.p y.c.P] ++ [tSl m 33 2 ent ((a.app (xs.map CV.c) k).1.doC y.c).2.1]) := h
     have h := h.front.front
     exact h.cutMid (A := [_, _, _, _]) (B := [tSl y.s 2 1 iv y.c.V])
   ·refine ifT (by simp [hne]) ⟨xs.length - (k + 1), by omega, k + 1, rfl, by omega, rfl, ?_, ?_⟩
    ·rw [happ]; unfold stepC; rw [if_neg h2k, if_pos hne]
    ·rw [happ]; unfold stepC; rw [if_neg h2k, if_pos hne]
     have h : Hp S w0 w7 ((tW wb ((a.app (xs.map CV.c) k).1.doC y.c).1 :: tBuf b L :: tSl r 37 6 cdv xs :: tAll ((xs.drop (k + 1)).map tCV) :: tSl y.s 2 1 iv y.c.V :: tSl sp 33 2 ent (a.app (xs.map CV.c) k).2.1 :: rest) ++ [tParts y.p y.c.P] ++ [tSl m 33 2 ent ((a.app (xs.map CV.c) k).1.doC y.c).2.1]) := h
     have h := h.front.front
     exact h.cutMid (A := [_, _, _, _]) (B := [tSl y.s 2 1 iv y.c.V])
 ·refine ifF (by rw [decide_eq_true_iff]; omega) ?_
  obtain rfl : k = xs.length := by omega
  refine hK sp w2 ?_
  exact h.cutMid (A := [tW wb (a.app (xs.map CV.c) xs.length).1, tBuf b L]) (B := [tSl r 37 6 cdv xs, tAll ((xs.drop xs.length).map tCV)]) (C := tSl sp 33 2 ent (a.app (xs.map CV.c) xs.length).2.1 :: rest)
end
def exL : List BE := [(1, 5, ⟨2, 0, 1, 0, [], []⟩), (0, 9, ⟨1, 0, 0, 0, [], [(2, [7])]⟩)]
theorem exS : sorted exL = [⟨1, 0, 0, 0, [], [(2, [7])]⟩, ⟨2, 0, 1, 0, [], []⟩] := rfl
def exA1 : ASt := (WA.new ksK).app [⟨1, 0, 0, 0, [], [(2, [7])]⟩, ⟨2, 0, 1, 0, [], []⟩] 2
theorem exA2 : exA1.2 = ([(0, 1)], 0) := by decide
theorem exA3 : (exA1.1.row (0, 1)).isSome = false := by decide
def exC2 : Cmd := ⟨1, 0, 0, 0, [], [(2, [7])]⟩
def exC1 : Cmd := ⟨2, 0, 1, 0, [], []⟩
theorem exSmall : ∀ x ∈ exL, x.2.2.Small := fun x hx => by
 simp only [exL, List.mem_cons, List.not_mem_nil, or_false] at hx
 rcases hx with rfl | rfl
 ·exact ⟨by simp, by simp, by simp⟩
 ·exact ⟨by simp, by simp, by simp⟩
theorem exFit : ∀ x ∈ exL, x.2.2.Fit := fun x hx => by
 simp only [exL, List.mem_cons, List.not_mem_nil, or_false] at hx
 rcases hx with rfl | rfl
 ·exact ⟨by simp, by simp [FP.R64], by simp⟩
 ·exact ⟨by simp, by simp [FP.R64], by simp [FP.R64]⟩
section
variable {S : List Nat} {w0 w : World} {its : List Thing}
theorem newKs (h : Hp S w0 w its) {K : Option Addr → Int → World → Prop} (hK : ∀ sk b w', Hp S w0 w' (its ++ [tKinds sk ksK, tW b (WA.new ksK)]) → K (some ⟨b, 0, none⟩) 0 w') : c12 w fun r w => c11 r w K := by
 refine ks_spec h fun sk w1 h => ?_
 refine New_W h its.length (s := sk) (l := ksK) List.getElem?_concat_length (by decide) (fun x hx => ?_) (fun _ b w3 h => ?_) (fun hno => absurd may_ksK hno)
 ·simp only [ksK, List.mem_cons, List.not_mem_nil, or_false] at hx
  rcases hx with rfl | rfl | rfl
  ·exact ⟨by decide, by decide⟩
  ·exact ⟨by decide, by decide⟩
  ·exact ⟨by decide, by decide⟩
 ·rw [List.append_assoc] at h
  exact hK sk b w3 h
set_option maxHeartbeats 4000000 in
theorem shown_spec (h0 : Hp S w0 w its) {K : Bool → World → Prop} (hK : ∀ w', Hp S w0 w' its → K true w') : c6 w K := by
 refine c6_of ?_
 unfold f6
 refine BNew_spec (Hp.begin_ w) fun b w1 h => ?_
 refine newKs h fun sk wb w2 h => ?_
 refine ifF (by simp) ?_
 have h := (h.nil 2 1 iv).nest_nil 62 2 pdv tV pvis
 have h : Hp [] w w2 [tBuf b [], tKinds sk ksK, tW wb (WA.new ksK), tSl ⟨none, 0, 0⟩ 2 1 iv [], tParts ⟨none, 0, 0⟩ []] := h
 refine Put_spec h 2 3 (V := []) (P := []) rfl Hp.rdSl.rd rfl rdP_of (by simp) (by simp) (by simp) (fun hf => absurd hf (by simp)) fun _ w3 h => ?_
 refine h.nwS (l := [(7 : Int)]) (f := iv) (n := 1) (c := [_]) rfl rfl iv_len fun b1 w4 h => ?_
 refine h.nwS (l := [((2, ⟨some ⟨b1, 0, none⟩, 1, 1⟩, [7]) : PV)]) (f := pdv) (n := 2) (c := [_, _]) rfl rfl pdv_len fun b3 w5 h => ?_
 have h : Hp [] w w5 ([tBuf b [(1, 5, ⟨2, 0, 1, 0, [], []⟩)], tKinds sk ksK, tW wb (WA.new ksK), tSl ⟨none, 0, 0⟩ 2 1 iv [], tParts ⟨none, 0, 0⟩ []] ++ [tSl ⟨some ⟨b1, 0, none⟩, 1, 1⟩ 2 1 iv [7]] ++ [tSl ⟨some ⟨b3, 0, none⟩, 1, 1⟩ 62 2 pdv [((2, ⟨some ⟨b1, 0, none⟩, 1, 1⟩, [7]) : PV)]]) := h
 have h := h.swap2
 rw [List.append_assoc] at h
 have h := h.nest_make (vis := pvis) (sub := tV) rfl
 have h : Hp [] w w5 [tBuf b [(1, 5, ⟨2, 0, 1, 0, [], []⟩)], tKinds sk ksK, tW wb (WA.new ksK), tSl ⟨none, 0, 0⟩ 2 1 iv [], tParts ⟨none, 0, 0⟩ [], tParts ⟨some ⟨b3, 0, none⟩, 1, 1⟩ [(2, [7])]] := h
 refine Put_spec h 2 4 (V := []) (P := [(2, [7])]) rfl Hp.rdSl.rd rfl rdP_of (by simp) (by simp) (by simp) (fun hf => absurd hf (by simp)) fun _ w6 h => ?_
 have h : Hp [] w w6 [tBuf b exL, tKinds sk ksK, tW wb (WA.new ksK), tSl ⟨none, 0, 0⟩ 2 1 iv [], tParts ⟨none, 0, 0⟩ [], tParts ⟨some ⟨b3, 0, none⟩, 1, 1⟩ [(2, [7])]] := h
 refine All_spec h 0 rfl (by simp [exL]) exSmall fun l w7 h => ?_
 rw [exS] at h
 have h : Hp [] w w7 [tBuf b exL, tKinds sk ksK, tW wb (WA.new ksK), tSl ⟨none, 0, 0⟩ 2 1 iv [], tParts ⟨none, 0, 0⟩ [], tParts ⟨some ⟨b3, 0, none⟩, 1, 1⟩ [(2, [7])], tCmds l [exC2, exC1]] := h
 have h := h.selL [2, 0, 6] (by decide) (ts := [tW wb (WA.new ksK), tBuf b exL, tCmds l [exC2, exC1]]) rfl
 refine Apply_spec h (by simp [exL]) exSmall exFit fun m w8 h => ?_
 rw [exS] at h ⊢
 have h : Hp [] w w8 [tW wb exA1.1, tBuf b exL, tSl m 33 2 ent exA1.2.1, tCmds l [exC2, exC1]] := h
 have eR : ((WA.new ksK).app [⟨1, 0, 0, 0, [], [(2, [7])]⟩, ⟨2, 0, 1, 0, [], []⟩] exL.length).2.2 = 0 := by
  show exA1.2.2 = 0
  rw [exA2]
 rw [eR]
 rw [exA2] at h
 obtain ⟨xs, hxs, h⟩ := h.nest_open (i := 3) rfl
 have hxl : xs.length = 2 := by have := congrArg List.length hxs; simpa using this
 match xs, hxl with
 | [x2, x1], _ =>
  simp only [List.map_cons, List.map_nil, List.cons.injEq, and_true] at hxs
  have h : Hp [] w w8 ([tW wb exA1.1, tBuf b exL, tSl m 33 2 ent [(0, 1)], tSl l 37 6 cdv [x2, x1]] ++ [tAll ([x2, x1].map tCV)]) := h
  have hll := h.len (s := l) (e := 37) (n := 6) (f := cdv) (l := [x2, x1]) 3 rfl
  have hml := h.len (s := m) (e := 33) (n := 2) (f := ent) (l := [((0, 1) : Ent)]) 2 rfl
  simp only [List.length_cons, List.length_nil] at hll hml
  refine ifT rfl (ifT rfl (ifT (by rw [← hll]; rfl) ?_))
  refine h.ixr 3 (s := l) (l := [x2, x1]) (f := cdv) (n := 6) (e := 37) rfl (by omega) (y := x2) rfl (fun _ => rfl) fun ad hc => ?_
  refine ldR0 (k := .i .i64) (x := x2.c.op) (hc 0 (by omega)) rfl ?_
  refine ifT (by rw [hxs.1]; rfl) ?_
  refine h.ixr 3 (s := l) (l := [x2, x1]) (f := cdv) (n := 6) (e := 37) rfl (by omega) (y := x1) rfl (fun _ => rfl) fun ad hc => ?_
  refine ldR0 (k := .i .i64) (x := x1.c.op) (hc 0 (by omega)) rfl ?_
  refine ifT (by rw [hxs.2]; rfl) (ifT (by rw [← hml]; rfl) ?_)
  refine h.ixr 2 (s := m) (l := [((0, 1) : Ent)]) (f := ent) (n := 2) (e := 33) rfl (by omega) (y := (0, 1)) rfl ent_len fun ad hc => ?_
  refine ldR0 (k := .i .i64) (x := (0 : Int)) (hc 0 (by omega)) rfl ?_
  refine ldR (k := .i .i64) (x := (1 : Int)) (hc 1 (by omega)) rfl ?_
  refine FT.eqEnt (ifT rfl (ifT rfl ?_))
  refine h.ixr 2 (s := m) (l := [((0, 1) : Ent)]) (f := ent) (n := 2) (e := 33) rfl (by omega) (y := (0, 1)) rfl ent_len fun ad hc => ?_
  refine ldR0 (k := .i .i64) (x := (0 : Int)) (hc 0 (by omega)) rfl ?_
  refine ldR (k := .i .i64) (x := (1 : Int)) (hc 1 (by omega)) rfl ?_
  refine Lives_W h 0 (a := exA1.1) (e := (0, 1)) rfl fun w9 h => ?_
  rw [exA3]
  have := h0.r0 (rest := []) rfl (h.trim 0)
  rw [List.append_nil] at this
  exact hK w9 this
end
end Go.Proofs.Ythmbjlpgbkkjjaa.FW
end

section
namespace Go.Proofs.Ythmbjlpgbkkjjaa.FW
open F
open Go Go.Den Go.Proofs Go.RowKit
open FI (PoolM tPool)
open FT (TabM tTab Ent entV ent ent_len atI keyEnt iv iv_len)
open FP (tB rowU_bytes putU_bytes encZ_bytes)
theorem snap_bytes (a : WA) : Bytes a.snap := by
 intro x hx
 unfold WA.snap at hx
 rcases List.mem_append.1 hx with hx | hx
 ·rcases List.mem_append.1 hx with hx | hx
  ·exact rowU_bytes _ x hx
  ·exact rowU_bytes _ x hx
 ·obtain ⟨e, _, hx⟩ := List.mem_flatMap.1 hx
  unfold snapRow at hx
  rcases List.mem_append.1 hx with hx | hx
  ·exact putU_bytes (setI_nn _) x hx
  ·exact encZ_bytes _ x hx
structure StX where
 kn : Int
 on : Int
 wh : Int
 sy : Int
 mn : Int
 E : Ent
 op : Int
 C : Ent
 kd : Int
 VS : Sl
 vs : List Int
 PS : Sl
 qs : List PV
abbrev stv (x : StX) : List Value := [.int .i64 x.kn, .int .i64 x.on, .int .i64 x.wh, .int .i64 x.sy, .int .i64 x.mn, .int .i64 x.E.1, .int .i64 x.E.2, .int .i64 x.op, .int .i64 x.C.1, .int .i64 x.C.2, .int .i64 x.kd, .slice x.VS.a x.VS.len x.VS.cap, .slice x.PS.a x.PS.len x.PS.cap]
theorem stv_len (x : StX) : (stv x).length = 13 := rfl
def StX.be (x : StX) : BE := (x.sy, x.E.1, ⟨x.op, x.C.1, x.C.2, x.kd, x.vs, x.qs.map pvis⟩)
def StX.ok (x : StX) : Prop := x.be.2.2.Small ∧ x.be.2.2.Fit
def tOp (VS : Sl) (vs : List Int) (PS : Sl) (qs : List PV) : Thing :=
  { holds := fun w O => (∃ o, SlR w VS 1 iv vs o ∧ ∀ k ∈ o, k ∈ O) ∧ (tRP PS qs).holds w O
    fr := fun {S w w' O} h hf hn => ⟨by
      obtain ⟨o, h1, h2⟩ := h.1
      exact ⟨o, h1.fr hf (fun k hk => hn k (h2 k hk)), h2⟩, (tRP PS qs).fr h.2 hf hn⟩
    lt := fun h => (tRP _ _).lt h.2 }
def tScr (s : Sl) (xs : List StX) : Thing :=
  { holds := fun w O => (∀ k ∈ O, k < w.heap.size) ∧ (∃ o, SlR w s 13 stv xs o ∧ ∀ k ∈ o, k ∈ O) ∧ ∀ x ∈ xs, (tOp x.VS x.vs x.PS x.qs).holds w O
    fr := fun {S w w' O} h hf hn => ⟨fun k hk => by have := h.1 k hk; have := hf.size; omega, by
      obtain ⟨_, ⟨o, h1, h2⟩, _⟩ := h
      exact ⟨o, h1.fr hf (fun k hk => hn k (h2 k hk)), h2⟩, fun x hx => (tOp _ _ _ _).fr (h.2.2 x hx) hf hn⟩
    lt := fun h => h.1 }
theorem scr_reads {s : Sl} {xs : List StX} : Hp.Reads (tScr s xs).ro s 13 stv xs := ⟨fun {w O} hO => by
 have hO : (tScr s xs).holds w O := hO
 obtain ⟨o, h1, _⟩ := hO.2.1
 exact ⟨o, h1⟩⟩
theorem rdP_thing {w : World} {PS : Sl} {qs : List PV} {O : List Nat} (h : (tRP PS qs).holds w O) : RdP w PS (qs.map pvis) := by
 obtain ⟨_, ⟨o, h1, _⟩, h3⟩ := h
 refine ⟨qs, rfl, ⟨o, h1⟩, fun x hx => ?_⟩
 obtain ⟨o, h4, _⟩ := h3 x hx
 exact ⟨o, h4⟩
section
variable {S : List Nat} {w0 w : World} {its : List Thing}
theorem put_step {b : Nat} {L : List BE} {rest : List Thing} (h : Hp S w0 w (tBuf b L :: rest)) (i : Nat) {s : Sl} {xs : List StX} (hi : rest[i]? = some (tScr s xs).ro) {k : Nat} {x : StX} (hx : xs[k]? = some x) (hxo : x.ok) (hL : L.length < 100000) {K : Int → World → Prop}
  (hK : ∀ w', Hp S w0 w' (tBuf b (L ++ [x.be]) :: rest) → K 0 w') :
  Dr w fun (w : World) => Ix s.a s.len (k : Int) 13 fun (a2 : Addr) => Ld (.i .i64) w (a2.add 3) fun (System : Int) => Ix s.a s.len (k : Int) 13 fun (a3 : Addr) => Ld (.i .i64) w (a3.add 5) fun (E_Index : Int) => Ld (.i .i64) w ((a3.add 5).add 1) fun (E_Gen : Int) => Ix s.a s.len (k : Int) 13 fun (a4 : Addr) => Ld (.i .i64) w (a4.add 7) fun (C_Op : Int) => Ld (.i .i64) w ((a4.add 7).add 1) fun (C_E_Index : Int) => Ld (.i .i64) w ((a4.add 7).add 2) fun (C_E_Gen : Int) => Ld (.i .i64) w ((a4.add 7).add 3) fun (C_Kind : Int) => Ld .sl w ((a4.add 7).add 4) fun (C_Values : Sl) => Ld .sl w ((a4.add 7).add 5) fun (C_Parts : Sl) =>
   c8 (some ⟨b, 0, none⟩) System E_Index E_Gen C_Op C_E_Index C_E_Gen C_Kind C_Values C_Parts w K := by
 refine h.dr fun w1 h => ?_
 have hlt := (List.getElem?_eq_some_iff.1 hi).1
 have hi' : (tBuf b L :: rest)[i + 1]? = some (tScr s xs).ro := hi
 obtain ⟨O, hO, add⟩ := h.roSee (i := i + 1) (u := tScr s xs) hi'
 obtain ⟨o, hR, _⟩ := hO.2.1
 have ix : ∀ {K : Addr → Prop}, (∀ a, (∀ m, m < 13 → w1.cell? (a.add m) = (stv x)[m]?) → K a) → Ix s.a s.len (k : Int) 13 K := fun {K} hK => SlR.ix stv_len hR (by omega) (by rw [Int.toNat_natCast]; exact hx) hK
 refine ix fun a2 h2 => ldR (k := .i .i64) (x := x.sy) (h2 3 (by omega)) rfl ?_
 refine ix fun a3 h3 => ldR (k := .i .i64) (x := x.E.1) (h3 5 (by omega)) rfl (ldR (k := .i .i64) (x := x.E.2) (by rw [Addr.add_add_any]; exact h3 6 (by omega)) rfl ?_)
 refine ix fun a4 h4 => ldR (k := .i .i64) (x := x.op) (h4 7 (by omega)) rfl (ldR (k := .i .i64) (x := x.C.1) (by rw [Addr.add_add_any]; exact h4 8 (by omega)) rfl (ldR (k := .i .i64) (x := x.C.2) (by rw [Addr.add_add_any]; exact h4 9 (by omega)) rfl (ldR (k := .i .i64) (x := x.kd) (by rw [Addr.add_add_any]; exact h4 10 (by omega)) rfl (ldR (k := .sl) (x := x.VS) (by rw [Addr.add_add_any]; exact h4 11 (by omega)) rfl (ldR (k := .sl) (x := x.PS) (by rw [Addr.add_add_any]; exact h4 12 (by omega)) rfl ?_)))))
 have h := add (t := tOp x.VS x.vs x.PS x.qs) (O' := O) (hO.2.2 x (List.mem_of_getElem? hx)) (fun k hk => hk)
 clear add ix
 have h : Hp S w0 w1 (tBuf b L :: (rest ++ [(tOp x.VS x.vs x.PS x.qs).ro])) := h
 obtain ⟨⟨s1, s2, s3⟩, hfit⟩ := hxo
 refine Put_spec h rest.length rest.length (V := x.vs) (P := x.qs.map pvis) List.getElem?_concat_length (fun {w O} h => by
  have h : (tOp x.VS x.vs x.PS x.qs).holds w O := h
  obtain ⟨o, h1, _⟩ := h.1
  exact ⟨o, h1⟩) List.getElem?_concat_length (fun {w O} h => rdP_thing (show (tOp x.VS x.vs x.PS x.qs).holds w O from h).2) s1 s2 s3 (fun hf => absurd hf (by omega)) fun _ w2 h => hK w2 ?_
 have h : Hp S w0 w2 ((tBuf b (L ++ [x.be]) :: rest) ++ [(tOp x.VS x.vs x.PS x.qs).ro]) := h
 exact h.front
set_option maxHeartbeats 8000000 in
theorem twice_spec {first then_ : Sl} {xs ys : List StX} {O1 O2 : List Nat} {w : World} {K : Bool → World → Prop} (hr1 : (tScr first xs).holds w O1) (hr2 : (tScr then_ ys).holds w O2) (hx1 : ∀ x ∈ xs, x.ok) (hy1 : ∀ x ∈ ys, x.ok)
  (hK : ∀ w', Fr [] w w' → K true w') : c5 first then_ w K := by
 refine c5_of ?_
 unfold f5
 have h := Hp.begin_ w
 have h := (h.addRo hr1 (by simp)).addRo hr2 (by simp)
 have h : Hp [] w w [(tScr first xs).ro, (tScr then_ ys).ro] := h
 have hxl := h.lenU (u := (tScr first xs).ro) 0 rfl scr_reads
 have hyl := h.lenU (u := (tScr then_ ys).ro) 1 rfl scr_reads
 refine shown_spec h fun w1 h => ?_
 refine BNew_spec h fun ab w2 h => ?_
 refine BNew_spec h fun bb w3 h => ?_
 refine newKs h fun sk wb w4 h => ?_
 refine ifF (by simp) ?_
 have h : Hp [] w w4 [tBuf bb [], tBuf ab [], (tScr first xs).ro, (tScr then_ ys).ro, tKinds sk ksK, tW wb (WA.new ksK)] := h
 have h := h.selL [1, 0, 2, 3, 5] (by decide) (ts := [tBuf ab [], tBuf bb [], (tScr first xs).ro, (tScr then_ ys).ro, tW wb (WA.new ksK)]) rfl
 -- the first
 refine ⟨fun t mm w' => ∃ k : Nat, t = k ∧ k ≤ xs.length ∧ k ≤ 100 ∧ mm = xs.length - k ∧ Hp [] w w' [tBuf ab ((xs.take k).map StX.be), tBuf bb [], (tScr first xs).ro, (tScr then_ ys).ro, tW wb (WA.new ksK)],
  ⟨xs.length, 0, rfl, by omega, by omega, rfl, h⟩, ?_⟩
 clear h
 rintro t mm w5 ⟨k, rfl, hk, hk1, rfl, h⟩
 by_cases hlt : k < xs.length ∧ k < 100
 ·refine ifT (by simp; omega) ?_
  have hx : xs[k]? = some (xs[k]'hlt.1) := List.getElem?_eq_getElem _
  have hxo := hx1 _ (List.getElem_mem hlt.1)
  have htk : xs.take (k + 1) = xs.take k ++ [xs[k]'hlt.1] := by rw [List.take_succ_eq_append_getElem hlt.1]
  generalize xs[k]'hlt.1 = x at hx hxo htk
  have hLl : ((xs.take k).map StX.be).length = k := by rw [List.length_map, List.length_take]; omega
  refine put_step h 1 rfl hx hxo (by omega) fun w6 h => ?_
  refine ⟨xs.length - (k + 1), by omega, k + 1, by rw [wr64 (by omega) (by omega)]; rfl, by omega, by omega, rfl, ?_⟩
  rw [htk, List.map_append]
  exact h
 refine ifF (by simp; omega) ?_
 obtain ⟨L1, hL1⟩ : ∃ L1, L1 = (xs.take k).map StX.be := ⟨_, rfl⟩
 have hLl : L1.length = k := by rw [hL1, List.length_map, List.length_take]; omega
 have hLo : ∀ y ∈ L1, y.2.2.Small ∧ y.2.2.Fit := fun y hy => by
  rw [hL1] at hy
  obtain ⟨x, hx, rfl⟩ := List.mem_map.1 hy
  exact hx1 x (List.mem_of_mem_take hx)
 rw [← hL1] at h
 clear hL1 hlt
 have h := h.selL [4, 0, 1, 2, 3] (by decide) (ts := [tW wb (WA.new ksK), tBuf ab L1, tBuf bb [], (tScr first xs).ro, (tScr then_ ys).ro]) rfl
 refine Apply_spec h (by omega) (fun y hy => (hLo y hy).1) (fun y hy => (hLo y hy).2) fun m w6 h => ?_
 generalize ((WA.new ksK).app (sorted L1) L1.length).2.1 = ml at h
 generalize ((WA.new ksK).app (sorted L1) L1.length).2.2 = mr at h ⊢
 generalize ((WA.new ksK).app (sorted L1) L1.length).1 = A at h
 have h := h.selL [3, 5, 0] (by decide) (ts := [tBuf bb [], (tScr then_ ys).ro, tW wb A]) rfl
 clear hLl hLo hk hk1 k
 -- then
 refine ⟨fun t mm w' => ∃ k : Nat, t = k ∧ k ≤ ys.length ∧ k ≤ 100 ∧ mm = ys.length - k ∧ Hp [] w w' [tBuf bb ((ys.take k).map StX.be), (tScr then_ ys).ro, tW wb A],
  ⟨ys.length, 0, rfl, by omega, by omega, rfl, h⟩, ?_⟩
 clear h
 rintro t mm w7 ⟨k, rfl, hk, hk1, rfl, h⟩
 by_cases hlt : k < ys.length ∧ k < 100
 ·refine ifT (by simp; omega) ?_
  have hx : ys[k]? = some (ys[k]'hlt.1) := List.getElem?_eq_getElem _
  have hxo := hy1 _ (List.getElem_mem hlt.1)
  have htk : ys.take (k + 1) = ys.take k ++ [ys[k]'hlt.1] := by rw [List.take_succ_eq_append_getElem hlt.1]
  generalize ys[k]'hlt.1 = x at hx hxo htk
  have hLl : ((ys.take k).map StX.be).length = k := by rw [List.length_map, List.length_take]; omega
  refine put_step h 0 rfl hx hxo (by omega) fun w6 h => ?_
  refine ⟨ys.length - (k + 1), by omega, k + 1, by rw [wr64 (by omega) (by omega)]; rfl, by omega, by omega, rfl, ?_⟩
  rw [htk, List.map_append]
  exact h
 refine ifF (by simp; omega) ?_
 obtain ⟨L, hL⟩ : ∃ L, L = (ys.take k).map StX.be := ⟨_, rfl⟩
 have hLl : L.length = k := by rw [hL, List.length_map, List.length_take]; omega
 have hLo : ∀ y ∈ L, y.2.2.Small ∧ y.2.2.Fit := fun y hy => by
  rw [hL] at hy
  obtain ⟨x, hx, rfl⟩ := List.mem_map.1 hy
  exact hy1 x (List.mem_of_mem_take hx)
 rw [← hL] at h
 clear hL
 have hkm : (if 100 < (then_.len : Int) then 100 else (then_.len : Int)) = (k : Int) := by
  by_cases h1 : 100 < then_.len
  ·rw [if_pos (by omega)]; omega
  ·rw [if_neg (by omega)]; omega
 rw [hkm]
 clear hkm hlt hk
 have h := h.selL [2, 0] (by decide) (ts := [tW wb A, tBuf bb L]) rfl
 refine Clone_W h 0 rfl fun vb w8 h => ?_
 refine ifF (by simp) ?_
 have h : Hp [] w w8 [tW wb A, tBuf bb L, tW vb A] := h
 -- others
 refine ⟨fun t mm w' => ∃ k : Nat, t = k ∧ k ≤ 40 ∧ mm = 40 - k ∧ Hp [] w w' [tW wb A, tBuf bb L, tW vb A], ⟨40, 0, rfl, by omega, rfl, h⟩, ?_⟩
 clear h
 rintro t mm w9 ⟨j, rfl, hj, rfl, h⟩
 by_cases hj4 : j < 40
 ·refine ifT (by simp; omega) ?_
  refine BNew_spec h fun cb w10 h => ?_
  refine ifF (by simp) ?_
  have h := (h.nil 2 1 iv).nest_nil 62 2 pdv tV pvis
  have h : Hp [] w w10 (tBuf cb [] :: [tW wb A, tBuf bb L, tW vb A, tSl ⟨none, 0, 0⟩ 2 1 iv [], tParts ⟨none, 0, 0⟩ []]) := h
  refine Put_spec h 3 4 (V := []) (P := []) rfl Hp.rdSl.rd rfl rdP_of (by simp) (by simp) (by simp) (fun hf => absurd hf (by simp)) fun _ w11 h => ?_
  exact ⟨40 - (j + 1), by omega, j + 1, by rw [wr64 (by omega) (by omega)]; rfl, by omega, rfl, h.selL [1, 2, 3] (by decide) rfl⟩
 refine ifF (by simp; omega) ?_
 clear hj hj4 j
 have hCl : (sorted L).length = k := by unfold sorted; rw [List.length_map, FS.sortF_len, hLl]
 refine All_spec h 1 rfl (by omega) (fun y hy => (hLo y hy).1) fun n w10 h => ?_
 have hnl := (h.nest_see (s := n) 3 rfl).1
 have hnk : n.len = k := by rw [← hnl, hCl]
 refine ifF (by rw [hnk]; simp) ?_
 have h := h.trim 3
 have h : Hp [] w w10 (tW wb A :: tBuf bb L :: [tW vb A]) := h
 refine Apply_spec h (by omega) (fun y hy => (hLo y hy).1) (fun y hy => (hLo y hy).2) fun l w11 h => ?_
 have h := h.selL [3, 1, 0, 2] (by decide) (ts := [tW vb A, tBuf bb L, tW wb (A.app (sorted L) L.length).1, tSl l 33 2 ent (A.app (sorted L) L.length).2.1]) rfl
 refine Apply_spec h (by omega) (fun y hy => (hLo y hy).1) (fun y hy => (hLo y hy).2) fun m w12 h => ?_
 have hgb := (app_bound A (sorted L) L.length).2.1
 have hmlb := (app_bound A (sorted L) L.length).2.2
 generalize (A.app (sorted L) L.length).2.1 = ml at h hmlb ⊢
 generalize (A.app (sorted L) L.length).2.2 = g at h hgb ⊢
 generalize (A.app (sorted L) L.length).1 = A' at h
 have h : Hp [] w w12 [tW vb A', tBuf bb L, tSl m 33 2 ent ml, tW wb A', tSl l 33 2 ent ml] := h
 have hml := h.len (s := m) (e := 33) (n := 2) (f := ent) (l := ml) 2 rfl
 have hll := h.len (s := l) (e := 33) (n := 2) (f := ent) (l := ml) 4 rfl
 have hstr : strL (strOf A'.snap) = A'.snap := strL_of (snap_bytes A')
 refine ⟨fun w' => Hp [] w w' [tW vb A', tBuf bb L, tSl m 33 2 ent ml, tW wb A', tSl l 33 2 ent ml], ?_, ?_⟩
 ·refine h.dr fun w13 h => ?_
  refine ifF (by rw [← hml, ← hll]; simp) (ifF (by simp) ?_)
  refine All_spec h 1 rfl (by omega) (fun y hy => (hLo y hy).1) fun n2 w14 h => ?_
  have hnl2 := (h.nest_see (s := n2) 5 rfl).1
  refine ifF (by rw [hnk, ← hnl2, hCl]; simp) (ifF (by rw [hnk]; simp; omega) ?_)
  refine Snapshot_W h 3 rfl fun s1 w15 h => ?_
  refine h.rdb 6 (u := tB s1 A'.snap) rfl Hp.rdSl (strOf A'.snap) hstr ?_
  refine Snapshot_W h 0 rfl fun s2 w16 h => ?_
  refine ⟨h.bat 6 (u := tB s1 A'.snap) rfl Hp.rdSl (strOf A'.snap) hstr, ?_⟩
  refine h.rdb 7 (u := tB s2 A'.snap) rfl Hp.rdSl (strOf A'.snap) hstr ?_
  exact ifF (by simp) (h.trim 5)
 clear h
 intro w13 h
 refine ⟨fun t mm w' => ∃ k : Nat, t = k ∧ k ≤ ml.length ∧ mm = ml.length - k ∧ Hp [] w w' [tW vb A', tBuf bb L, tSl m 33 2 ent ml, tW wb A', tSl l 33 2 ent ml], ⟨ml.length, 0, rfl, by omega, rfl, h⟩, ?_⟩
 clear h
 rintro t mm w14 ⟨j, rfl, hj, rfl, h⟩
 by_cases hlt : j < ml.length
 ·refine ifT (by simp; omega) ?_
  refine h.dr fun w15 h => ?_
  have hx : ml[j]? = some ml[j] := List.getElem?_eq_getElem hlt
  generalize ml[j] = x at hx
  refine h.ixr 4 (s := l) (l := ml) (f := ent) (n := 2) (e := 33) rfl (by omega) (y := x) (by rw [Int.toNat_natCast]; exact hx) ent_len fun ad hc => ?_
  refine ldR0 (k := .i .i64) (x := x.1) (hc 0 (by omega)) rfl ?_
  refine ldR (k := .i .i64) (x := x.2) (hc 1 (by omega)) rfl ?_
  refine h.ixr 2 (s := m) (l := ml) (f := ent) (n := 2) (e := 33) rfl (by omega) (y := x) (by rw [Int.toNat_natCast]; exact hx) ent_len fun ad hc => ?_
  refine ldR0 (k := .i .i64) (x := x.1) (hc 0 (by omega)) rfl ?_
  refine ldR (k := .i .i64) (x := x.2) (hc 1 (by omega)) rfl ?_
  exact FT.neEnt (ifF (by simp) ⟨ml.length - (j + 1), by omega, j + 1, by rw [wr64 (by omega) (by omega)]; rfl, by omega, rfl, h⟩)
 refine ifF (by simp; omega) ?_
 exact hK w14 h.1
end
theorem undI3 : Try.prog.underlying 3 = some (.int .i64) := by kernel_rfl
theorem cel3 : Try.prog.cellsOf 3 = 1 := by kernel_rfl
theorem wf_rng {x : Int} (h : (Lit.int .i64 x).wf = true) : -9223372036854775808 ≤ x ∧ x ≤ 9223372036854775807 := by
 have hm : IntKind.i64.min ≤ x ∧ x ≤ IntKind.i64.max := by simpa [Lit.wf] using h
 have h1 : IntKind.i64.min = -9223372036854775808 := by decide
 have h2 : IntKind.i64.max = 9223372036854775807 := by decide
 omega
theorem und56s : Try.prog.underlying 56 = some (.struct (Try.prog.fieldsOf 56)) := by kernel_rfl
theorem und33s : Try.prog.underlying 33 = some (.struct (Try.prog.fieldsOf 33)) := by kernel_rfl
theorem und37s : Try.prog.underlying 37 = some (.struct (Try.prog.fieldsOf 37)) := by kernel_rfl
theorem und62s : Try.prog.underlying 62 = some (.struct (Try.prog.fieldsOf 62)) := by kernel_rfl
theorem undI2 : Try.prog.underlying 2 = some (.int .i64) := by kernel_rfl
theorem und54s : Try.prog.underlying 54 = some (.slice 56) := by kernel_rfl
theorem und34s : Try.prog.underlying 34 = some (.slice 2) := by kernel_rfl
theorem und35s : Try.prog.underlying 35 = some (.slice 62) := by kernel_rfl
theorem cel2 : Try.prog.cellsOf 2 = 1 := by kernel_rfl
theorem cel33 : Try.prog.cellsOf 33 = 2 := by kernel_rfl
theorem cel34 : Try.prog.cellsOf 34 = 1 := by kernel_rfl
theorem cel35 : Try.prog.cellsOf 35 = 1 := by kernel_rfl
theorem cel37 : Try.prog.cellsOf 37 = 6 := by kernel_rfl
theorem cel62 : Try.prog.cellsOf 62 = 2 := by kernel_rfl
theorem cel56 : Try.prog.cellsOf 56 = 13 := by kernel_rfl
theorem byt2 : Try.prog.bytesOf 2 = 8 := by kernel_rfl
theorem byt62 : Try.prog.bytesOf 62 = 32 := by kernel_rfl
theorem dec_nums {w : World} {B n : Nat} {cs : List Value} (h : RdV Try.prog w B n 34 cs) : ∃ (s : Sl) (l : List Int) (o : List Nat), cs = [.slice s.a s.len s.cap] ∧ SlR w s 1 iv l o ∧ FP.R64 l ∧ l.length ≤ 17592186044416 := by
 obtain ⟨s, l, o, h1, h2, hb, h3, h4, h5⟩ := rd_slice (f := iv) (G := fun x => -9223372036854775808 ≤ x ∧ x ≤ 9223372036854775807) und34s cel2 (by omega) (fun m ci _ hr => by
  obtain ⟨x, hx, hw⟩ := rd_int undI2 hr
  exact ⟨x, hx, wf_rng hw⟩) h
 rw [byt2] at h3
 unfold reachBytes at h3
 exact ⟨s, l, o, h1, h2, hb, by omega⟩
theorem dec_part {w : World} {B m : Nat} {ci : List Value} (hl : ci.length = 2) (h : RdV Try.prog w B m 62 ci) :
  ∃ x : PV, ci = pdv x ∧ (∃ o, SlR w x.2.1 1 iv x.2.2 o) ∧ (-9223372036854775808 ≤ x.1 ∧ x.1 ≤ 9223372036854775807) ∧ FP.R64 x.2.2 ∧ x.2.2.length ≤ 17592186044416 := by
 obtain ⟨_, q, hf⟩ := rd_struct und62s h
 match ci, hl with
 | [c0, c1], _ =>
  obtain ⟨m0, e0, h0⟩ := rd_int undI3 (rd_field hf 0 (ft := 3) (off := 0) (sz := 1) (by kernel_rfl) cel3)
  obtain ⟨s, l, o, e1, h1, h2, h3⟩ := dec_nums (rd_field hf 1 (ft := 34) (off := 1) (sz := 1) (by kernel_rfl) cel34)
  simp only [List.drop_zero, List.drop_succ_cons, List.take_succ_cons, List.take_zero, List.cons.injEq, and_true] at e0 e1
  subst e0 e1
  exact ⟨(m0, s, l), rfl, ⟨o, h1⟩, wf_rng h0, h2, h3⟩
theorem dec_parts {w : World} {B n : Nat} {cs : List Value} (h : RdV Try.prog w B n 35 cs) : ∃ (s : Sl) (l : List PV) (o : List Nat), cs = [.slice s.a s.len s.cap] ∧ SlR w s 2 pdv l o ∧ l.length ≤ 4398046511104 ∧ ∀ x ∈ l, (∃ o, SlR w x.2.1 1 iv x.2.2 o) ∧ (-9223372036854775808 ≤ x.1 ∧ x.1 ≤ 9223372036854775807) ∧ FP.R64 x.2.2 ∧ x.2.2.length ≤ 17592186044416 := by
 obtain ⟨s, l, o, h1, h2, h3, hb, h4, h5⟩ := rd_slice (f := pdv) (G := fun x => (∃ o, SlR w x.2.1 1 iv x.2.2 o) ∧ (-9223372036854775808 ≤ x.1 ∧ x.1 ≤ 9223372036854775807) ∧ FP.R64 x.2.2 ∧ x.2.2.length ≤ 17592186044416) und35s cel62 (by omega) (fun m ci hl hr => dec_part hl hr) h
 rw [byt62] at hb
 unfold reachBytes at hb
 exact ⟨s, l, o, h1, h2, by omega, h3⟩
theorem dec_step {w : World} {B m : Nat} {ci : List Value} (hl : ci.length = 13) (h : RdV Try.prog w B m 56 ci) :
  ∃ x : StX, ci = stv x ∧ x.ok ∧ (∃ o, SlR w x.VS 1 iv x.vs o) ∧ (∃ o, SlR w x.PS 2 pdv x.qs o) ∧ ∀ y ∈ x.qs, ∃ o, SlR w y.2.1 1 iv y.2.2 o := by
 obtain ⟨_, q, hf⟩ := rd_struct und56s h
 match ci, hl with
 | [c0, c1, c2, c3, c4, c5, c6, c7, c8, c9, c10, c11, c12], _ =>
  obtain ⟨m0, e0, h0⟩ := rd_int undI3 (rd_field hf 0 (ft := 3) (off := 0) (sz := 1) (by kernel_rfl) cel3)
  obtain ⟨m1, e1, h1⟩ := rd_int undI3 (rd_field hf 1 (ft := 3) (off := 1) (sz := 1) (by kernel_rfl) cel3)
  obtain ⟨m2, e2, h2⟩ := rd_int undI3 (rd_field hf 2 (ft := 3) (off := 2) (sz := 1) (by kernel_rfl) cel3)
  obtain ⟨m3, e3, h3⟩ := rd_int undI3 (rd_field hf 3 (ft := 3) (off := 3) (sz := 1) (by kernel_rfl) cel3)
  obtain ⟨m4, e4, h4⟩ := rd_int undI3 (rd_field hf 4 (ft := 3) (off := 4) (sz := 1) (by kernel_rfl) cel3)
  obtain ⟨_, q5, hf5⟩ := rd_struct und33s (rd_field hf 5 (ft := 33) (off := 5) (sz := 2) (by kernel_rfl) cel33)
  obtain ⟨_, q6, hf6⟩ := rd_struct und37s (rd_field hf 6 (ft := 37) (off := 7) (sz := 6) (by kernel_rfl) cel37)
  obtain ⟨m5, e5, h5⟩ := rd_int undI3 (rd_field hf5 0 (ft := 3) (off := 0) (sz := 1) (by kernel_rfl) cel3)
  obtain ⟨m6, e6, h6⟩ := rd_int undI3 (rd_field hf5 1 (ft := 3) (off := 1) (sz := 1) (by kernel_rfl) cel3)
  obtain ⟨m7, e7, h7⟩ := rd_int undI3 (rd_field hf6 0 (ft := 3) (off := 0) (sz := 1) (by kernel_rfl) cel3)
  obtain ⟨_, q8, hf8⟩ := rd_struct und33s (rd_field hf6 1 (ft := 33) (off := 1) (sz := 2) (by kernel_rfl) cel33)
  obtain ⟨m8, e8, h8⟩ := rd_int undI3 (rd_field hf8 0 (ft := 3) (off := 0) (sz := 1) (by kernel_rfl) cel3)
  obtain ⟨m9, e9, h9⟩ := rd_int undI3 (rd_field hf8 1 (ft := 3) (off := 1) (sz := 1) (by kernel_rfl) cel3)
  obtain ⟨m10, e10, h10⟩ := rd_int undI3 (rd_field hf6 2 (ft := 3) (off := 3) (sz := 1) (by kernel_rfl) cel3)
  obtain ⟨s, l, o, e11, h11, h111, h112⟩ := dec_nums (rd_field hf6 3 (ft := 34) (off := 4) (sz := 1) (by kernel_rfl) cel34)
  obtain ⟨ps, pl, po, e12, h12, h121, h122⟩ := dec_parts (rd_field hf6 4 (ft := 35) (off := 5) (sz := 1) (by kernel_rfl) cel35)
  simp only [List.drop_zero, List.drop_succ_cons, List.take_succ_cons, List.take_zero, List.cons.injEq, and_true] at e0 e1 e2 e3 e4 e5 e6 e7 e8 e9 e10 e11 e12
  subst e0 e1 e2 e3 e4 e5 e6 e7 e8 e9 e10 e11 e12
  refine ⟨⟨m0, m1, m2, m3, m4, (m5, m6), m7, (m8, m9), m10, s, l, ps, pl⟩, rfl, ⟨⟨h112, ?_, fun x hx => ?_⟩, ⟨wf_rng h10, h111, fun x hx => ?_⟩⟩, ⟨o, h11⟩, ⟨po, h12⟩, fun y hy => (h122 y hy).1⟩
  ·show (pl.map pvis).length ≤ _
   rw [List.length_map]; exact h121
  ·obtain ⟨y, hy, rfl⟩ := List.mem_map.1 (show x ∈ pl.map pvis from hx)
   exact (h122 y hy).2.2.2
  ·obtain ⟨y, hy, rfl⟩ := List.mem_map.1 (show x ∈ pl.map pvis from hx)
   exact ⟨(h122 y hy).2.1, (h122 y hy).2.2.1⟩
theorem dec_steps {w : World} {B n : Nat} {a : Option Addr} {len cap : Nat} (h : RdV Try.prog w B n 54 [.slice a len cap]) :
  ∃ (ys : List StX) (O : List Nat), (tScr ⟨a, len, cap⟩ ys).holds w O ∧ ∀ x ∈ ys, x.ok := by
 obtain ⟨s, l, o, h1, h2, h3, _, h4, h5⟩ := rd_slice (f := stv) (G := fun x => x.ok ∧ (∃ o, SlR w x.VS 1 iv x.vs o) ∧ (∃ o, SlR w x.PS 2 pdv x.qs o) ∧ ∀ y ∈ x.qs, ∃ o, SlR w y.2.1 1 iv y.2.2 o) und54s cel56 (by omega) (fun m ci hl hr => dec_step hl hr) h
 simp only [List.cons.injEq, Value.slice.injEq, and_true] at h1
 obtain ⟨rfl, rfl, rfl⟩ := h1
 have rg : ∀ {α : Type} {s : Sl} {n : Nat} {f : α → List Value} {l : List α}, (∃ o, SlR w s n f l o) → ∃ o, SlR w s n f l o ∧ ∀ k ∈ o, k ∈ List.range w.heap.size := fun ⟨o, h⟩ => ⟨o, h, fun k hk => List.mem_range.2 (h.lt k hk)⟩
 refine ⟨l, List.range w.heap.size, ⟨fun k hk => List.mem_range.1 hk, rg ⟨o, h2⟩, fun x hx => ?_⟩, fun x hx => (h3 x hx).1⟩
 obtain ⟨_, q1, q2, q3⟩ := h3 x hx
 exact ⟨rg q1, fun k hk => List.mem_range.1 hk, rg q2, fun y hy => rg (q3 y hy)⟩
theorem twice_call {w : World} {B n B' n' : Nat} {a a' : Option Addr} {len cap len' cap' : Nat} (h : RdV Try.prog w B n 54 [.slice a len cap]) (h' : RdV Try.prog w B' n' 54 [.slice a' len' cap']) :
  Calls Try.prog 5 #[.slice a len cap, .slice a' len' cap'] w fun e w' => e = .returned (.bool true) ∧ Below w.heap.size w w' := by
 obtain ⟨l, o, g2, g3⟩ := dec_steps h
 obtain ⟨l', o', g2', g3'⟩ := dec_steps h'
 exact calls_true (twice_spec (first := ⟨a, len, cap⟩) (then_ := ⟨a', len', cap'⟩) g2 g2' g3 g3' fun w' hf => ⟨rfl, hf⟩)
end Go.Proofs.Ythmbjlpgbkkjjaa.FW
end
