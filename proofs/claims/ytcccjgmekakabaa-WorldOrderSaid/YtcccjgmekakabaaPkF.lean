/-
  Part 6 of the proof: WorldOrder of layer 6 is true of the given program for every input that its guards let in.
-/
import Derived.Test.YtcccjgmekakabaaPkE
import Derived.Laws.IdiomRangeMap
section
set_option linter.unusedSimpArgs false
set_option linter.unusedVariables false
set_option maxRecDepth 100000
namespace Go.Proofs.Ytcccjgmekakabaa.FW
open Go.Proofs.Ytcccjgmekakabaa.F
open Go Go.Den Go.Proofs
open Go.Proofs.Ytcccjgmekakabaa.FI (PoolM tPool)
open Go.Proofs.Ytcccjgmekakabaa.FT (TabM tTab Ent entV ent ent_len atI keyEnt iv iv_len)
open Go.Proofs.Ytcccjgmekakabaa.FP (putU zig encZ rowU tB putU_len encZ_len R64)
def snapRow (p : PL) : List Int := putU (setI p) ++ encZ (flat p)

/-- What Snapshot writes. -/
def WA.snap (a : WA) : List Int := rowU a.pool.stGens ++ rowU a.pool.free ++ a.all.flatMap fun e => snapRow ((a.row e).getD [])

theorem rowU_len (l : List Int) : (rowU l).length ≤ 21 + 10 * l.length := by
  have h1 := putU_len l.length
  have h2 := FP.bestU_len l
  unfold rowU
  rw [List.length_append]
  split
  · simp only [List.length_nil]; omega
  · omega

theorem enc_partsU (p : PL) : ∀ k, k ≤ p.length → (partsU p k).flatMap (fun x => encZ x.2) = encZ (flat (p.take k))
  | 0, _ => by simp [partsU, flat, encZ]
  | k + 1, hk => by
    have ih := enc_partsU p k (by omega)
    have hp : p[k]? = some p[k] := by simp [show k < p.length by omega]
    rw [partsU, List.flatMap_append, ih, flat_take hp]
    have ha : ∀ a b : List Int, encZ (a ++ b) = encZ a ++ encZ b := fun a b => by unfold encZ; rw [List.flatMap_append]
    rw [ha]
    congr 1
    have : p.getD k none = p[k] := by rw [List.getD_eq_getElem?_getD, hp]; rfl
    rw [this]
    cases p[k] with
    | none => rfl
    | some v => simp

theorem enc_parts (p : PL) : (partsOf p).flatMap (fun x => encZ x.2) = encZ (flat p) := by
  unfold partsOf
  rw [enc_partsU p p.length (Nat.le_refl _), List.take_length]

section
variable {S : List Nat} {w0 w : World} {its : List Thing}
theorem longs_spec (h : Hp S w0 w its) (j : Nat) {u : Thing} {s : Sl} {l : List Int} (hj : its[j]? = some u) (hu : Hp.Reads u s 1 iv l) (hl : l.length ≤ 1000000000) {K : Sl → World → Prop} (hK : ∀ r w', Hp S w0 w' (its ++ [tSl r 2 1 iv l]) → K r w') : c52 s w K := by
  refine c52_of ?_
  unfold f52
  obtain ⟨inf, q1, q2, q3, q4⟩ := FT.inf2
  have hlt0 := (List.getElem?_eq_some_iff.1 hj).1
  have hsl := h.lenU j (by rw [hj]; rfl) hu
  have h := h.nil 2 1 iv
  refine ⟨fun out t8 mm w' => ∃ k : Nat, t8 = k ∧ k ≤ l.length ∧ mm = l.length - k ∧ Hp S w0 w' (its ++ [tSl out 2 1 iv (l.take k)]), ⟨l.length, 0, rfl, by omega, rfl, h⟩, ?_⟩
  clear h
  rintro out t8 mm w2 ⟨k, rfl, hk, rfl, h⟩
  have hol := h.len (s := out) its.length (by rw [List.getElem?_concat_length]; rfl)
  rw [List.length_take] at hol
  by_cases hlt : k < l.length
  · refine ifT (by simp; omega) ?_
    refine h.ixldU (k := .i .i64) (u := u) (y := l[k]) (x := l[k]) j (by rw [List.getElem?_append_left hlt0, hj]; rfl) hu (by omega) (by simp [hlt]) iv_len rfl ?_
    refine h.nwapp its.length (l[k]) (c := [_]) List.getElem?_concat_length iv_len FT.und34 q1 q3 q2 rfl rfl (by simp [iv, Value.oneCell']) (by rw [q4]; omega) (by omega) fun out2 w3 h _ _ => ?_
    rw [set_last, ← List.take_succ_eq_append_getElem hlt] at h
    exact ⟨l.length - (k + 1), by omega, k + 1, by rw [wr64 (by omega) (by omega)]; omega, by omega, rfl, h⟩
  · refine ifF (by simp; omega) ?_
    rw [List.take_of_length_le (by omega)] at h
    exact hK out w2 h

theorem stGens_rng {m : PoolM} (hm : m.Ok) : R64 m.stGens ∧ m.stGens.length ≤ 200 ∧ R64 m.free ∧ m.free.length ≤ 200 := by
  have h200 := hm.len200
  refine ⟨fun x hx => ?_, by unfold PoolM.stGens; rw [List.length_mapIdx]; exact h200, fun x hx => ?_, FI.Ok.free200 hm⟩
  · unfold PoolM.stGens at hx
    obtain ⟨i, hi, rfl⟩ := List.mem_mapIdx.1 hx
    have := hm.gens _ (List.getElem_mem hi)
    split <;> omega
  · have := hm.free x hx
    omega

set_option maxHeartbeats 4000000 in
theorem Snapshot_o {b : Nat} {a : WA} {q : WH} {u : Thing} (h : Hp S w0 w (q.all b a.m u)) (hok : a.Ok) (ht : Tabs a.ks a.row a.m.sets q.tabs) (hk : kinds q.xs = a.ks) {K : Sl → World → Prop}
    (hK : ∀ s w', Hp S w0 w' (q.all b a.m u ++ [tB s a.snap]) → K s w') : c16 (some ⟨b, 0, none⟩) w K := by
  refine c16_of ?_
  unfold f16
  obtain ⟨inf', z1, z2, z3, z4⟩ := FT.inf3
  obtain ⟨g1, g2, g3, g4⟩ := stGens_rng hok.pok
  have hl12 := hok.len
  have h4k := hok.four
  refine nns ?_
  refine h.ld (n := 1) (k := .p) (x := some ⟨q.pb, 0, none⟩) 0 rfl rfl ?_
  refine FI.State_h h 4 (m := a.pool) hok.pok rfl fun gs fs w1 h => ?_
  have h : Hp S w0 w1 (q.all b a.m u ++ [tSl gs 3 1 iv a.pool.stGens, tSl fs 3 1 iv a.pool.free]) := h
  refine longs_spec h 8 (u := tSl gs 3 1 iv a.pool.stGens) rfl Hp.rdSl (by omega) fun r w2 h => ?_
  have h := h.nil 5 1 u8v
  have h : Hp S w0 w2 (q.all b a.m u ++ [tSl gs 3 1 iv a.pool.stGens, tSl fs 3 1 iv a.pool.free, tSl r 2 1 iv a.pool.stGens, tB ⟨none, 0, 0⟩ []]) := by
    simpa using h
  have l1 := rowU_len a.pool.stGens
  have l2 := rowU_len a.pool.free
  refine FP.PutRow_spec h 11 10 rfl Hp.rdSl rfl Hp.rdSl g1 (by omega) (by simp) fun r2 w3 h => ?_
  rw [List.nil_append] at h
  have h : Hp S w0 w3 (q.all b a.m u ++ [tSl gs 3 1 iv a.pool.stGens, tSl fs 3 1 iv a.pool.free, tSl r 2 1 iv a.pool.stGens, tB ⟨none, 0, 0⟩ []] ++ [tB r2 (rowU a.pool.stGens)]) := h
  refine longs_spec h 9 (u := tSl fs 3 1 iv a.pool.free) rfl Hp.rdSl (by omega) fun r3 w4 h => ?_
  refine FP.PutRow_spec h 12 13 rfl Hp.rdSl rfl Hp.rdSl g3 (by omega) (by omega) fun b0 w5 h => ?_
  have h : Hp S w0 w5 (q.all b a.m u ++ [tSl gs 3 1 iv a.pool.stGens, tSl fs 3 1 iv a.pool.free, tSl r 2 1 iv a.pool.stGens, tB ⟨none, 0, 0⟩ [], tB r2 (rowU a.pool.stGens), tSl r3 2 1 iv a.pool.free] ++ [tB b0 (rowU a.pool.stGens ++ rowU a.pool.free)]) := h
  have h := h.cutMid
  refine Rows_o h hok ht hk fun r4 w6 h => ?_
  obtain ⟨xs, hxs, h⟩ := h.nest_open (i := 9) (e := 65) (n := 3) (cells := rdv) (sub := tPs) (vis := rvis) (s := r4) (l := a.rows) rfl
  obtain ⟨pre, hpre⟩ : ∃ pre, pre = rowU a.pool.stGens ++ rowU a.pool.free := ⟨_, rfl⟩
  have hprel : pre.length ≤ 5000 := by rw [hpre, List.length_append]; omega
  have h : Hp S w0 w6 (q.all b a.m u ++ [tB b0 (pre ++ []), tSl r4 65 3 rdv xs, tAll (xs.map tPs)]) := by
    rw [List.append_nil, hpre]; exact h
  have hrl := h.len (s := r4) 9 rfl
  have hxl : xs.length = a.all.length := by
    have := congrArg List.length hxs
    unfold WA.rows at this
    simpa using this
  have hal : a.all.length ≤ 200 := by
    have h1 := PoolM.allU_len a.pool a.pool.gens.length
    have h2 := hok.pok.len200
    show (a.pool.allU a.pool.gens.length).length ≤ 200
    omega
  obtain ⟨acc, hacc⟩ : ∃ acc : Nat → List Int, acc = fun k => (a.all.take k).flatMap fun e => snapRow ((a.row e).getD []) := ⟨_, rfl⟩
  have haccl : ∀ k, (acc k).length ≤ 490 * k := by
    intro k
    rw [hacc]
    induction k with
    | zero => simp
    | succ k ih =>
      dsimp only at ih ⊢
      by_cases hkl : k < a.all.length
      · rw [List.take_succ_eq_append_getElem hkl, List.flatMap_append, List.length_append]
        obtain ⟨p, hr⟩ := all_lives hok (List.getElem_mem hkl)
        simp only [List.flatMap_cons, List.flatMap_nil, List.append_nil, hr]
        unfold snapRow
        rw [List.length_append]
        have e1 := putU_len (setI p)
        have e2 := encZ_len (flat p)
        have e3 := (ht.fit _ p hr).all
        have e4 := atF_le h4k (setI p) a.ks.length
        have e5 : (putU (setI p)).length + (encZ (flat p)).length ≤ 490 := by omega
        have e6 : 490 * (k + 1) = 490 * k + 490 := rfl
        rw [e6]
        exact Nat.add_le_add ih e5
      · rw [List.take_of_length_le (by omega)]
        rw [List.take_of_length_le (by omega)] at ih
        omega
  refine ⟨fun b2 t29 mm w' => ∃ k : Nat, t29 = k ∧ k ≤ xs.length ∧ mm = xs.length - k ∧ Hp S w0 w' (q.all b a.m u ++ [tB b2 (pre ++ acc k), tSl r4 65 3 rdv xs, tAll (xs.map tPs)]), ⟨xs.length, 0, rfl, by omega, rfl, by rw [hacc]; exact h⟩, ?_⟩
  clear h
  rintro b2 t29 mm w7 ⟨k, rfl, hkk, rfl, h⟩
  by_cases hlt : k < xs.length
  · refine ifT (by simp; omega) ?_
    have hx : xs[k]? = some xs[k] := by simp [hlt]
    have hak : a.all[k]? = some (a.all[k]'(by omega)) := by simp [show k < a.all.length by omega]
    have hvis : rvis xs[k] = a.rowT (a.all[k]'(by omega)) := by
      have h1 : (xs.map rvis)[k]? = some (rvis xs[k]) := by rw [List.getElem?_map, hx]; rfl
      rw [hxs] at h1
      unfold WA.rows at h1
      rw [List.getElem?_map, hak] at h1
      exact (Option.some.inj h1).symm
    obtain ⟨p, hr⟩ := all_lives hok (List.getElem_mem (show k < a.all.length by omega))
    have hstep : acc (k + 1) = acc k ++ (putU (setI p) ++ encZ (flat p)) := by
      rw [hacc]
      dsimp only
      rw [List.take_succ_eq_append_getElem (show k < a.all.length by omega), List.flatMap_append]
      simp only [List.flatMap_cons, List.flatMap_nil, List.append_nil, hr]
      rfl
    generalize xs[k] = x at hx hvis
    generalize a.all[k]'(by omega) = e0 at hak hvis hr
    obtain ⟨e, ps, parts⟩ := x
    unfold rvis WA.rowT at hvis
    obtain ⟨rfl, hparts⟩ := Prod.mk.inj hvis
    rw [hr] at hparts
    have hparts : parts = partsOf p := hparts
    subst hparts
    have hfit := ht.fit e p hr
    have hp12 : p.length ≤ 12 := by rw [hfit.1]; omega
    have hs1 := setI_lt hp12
    have hs0 := setI_nn p
    have hset : a.m.sets e = some (setI p) := by show (a.row e).map setI = _; rw [hr]; rfl
    have hrng := hok.rng e p hr
    have hfl48 : (flat p).length ≤ 48 := by
      have := atF_le h4k (setI p) a.ks.length
      rw [hfit.all]; omega
    have hak2 := haccl k
    refine h.ixr (s := r4) (l := xs) (f := rdv) (n := 3) (e := 65) 9 rfl (by omega) (by rw [Int.toNat_natCast]; exact hx) rdv_len fun ad hc => ?_
    refine ldR0 (k := .i .i64) (x := e.1) (hc 0 (by omega)) rfl ?_
    refine ldR (k := .i .i64) (x := e.2) (hc 1 (by omega)) rfl ?_
    refine ldR (k := .sl) (x := ps) (hc 2 (by omega)) rfl ?_
    refine h.nw (c := [_, _, _]) fun rb w8 h => ?_
    have h := h.up
    refine h.st0 8 rfl (by simp) rfl fun w9 h => ?_
    refine h.st (n := 1) 8 rfl (by simp) rfl fun w10 h => ?_
    refine h.st (n := 2) 8 rfl (by simp) rfl fun w11 h => ?_
    have h : Hp S w0 w11 (q.all b a.m u ++ (tBlk rb 65 [.int .i64 e.1, .int .i64 e.2, .slice ps.a ps.len ps.cap] :: [tB b2 (pre ++ acc k), tSl r4 65 3 rdv xs, tAll (xs.map tPs)])) := h
    refine h.dr fun w12 h => ?_
    refine nns ?_
    refine h.ld (n := 2) (k := .m) (x := some q.ms) 0 rfl rfl ?_
    refine h.ld0 (k := .i .i64) (x := e.1) 8 rfl rfl ?_
    refine h.ld (n := 1) (k := .i .i64) (x := e.2) 8 rfl rfl ?_
    refine h.lookup1 (kd := .i .i64) (vk := id) (z := (0 : Int)) (ek := entV) (ev := Value.int .i64) (g := a.m.sets) (k := e) 5 rfl rfl und98 keyEnt z1 z2 (fun _ => rfl) ?_
    rw [hset]
    dsimp only [id_eq]
    rw [FP.w64, Int.emod_eq_of_lt hs0 (by omega)]
    refine FP.Put_spec h 9 rfl Hp.rdSl hs0 (by omega) (by rw [List.length_append]; omega) fun b3 w13 h => ?_
    have h := h.up
    have h : Hp S w0 w13 ((q.all b a.m u ++ [tB b3 (pre ++ acc k ++ putU (setI p)), tBlk rb 65 [.int .i64 e.1, .int .i64 e.2, .slice ps.a ps.len ps.cap]]) ++ [tB b2 (pre ++ acc k)] ++ [tSl r4 65 3 rdv xs, tAll (xs.map tPs)]) := h
    have h := h.cutMid
    refine h.ld (n := 2) (k := .sl) (x := ps) 9 rfl rfl ?_
    have h := h.pick (i := 11) (k := k) (t := tPs (e, ps, partsOf p)) rfl (by rw [List.getElem?_map, hx]; rfl) rfl
    obtain ⟨ys, hys, h⟩ := h.nest_open (i := 12) (e := 40) (n := 2) (cells := pdv) (sub := tV) (vis := pvis) (s := ps) (l := partsOf p) rfl
    obtain ⟨pre2, hpre2⟩ : ∃ pre2, pre2 = pre ++ acc k ++ putU (setI p) := ⟨_, rfl⟩
    have hpre2l : pre2.length ≤ 200000 := by
      have := putU_len (setI p)
      rw [hpre2, List.length_append, List.length_append]; omega
    obtain ⟨T', hT'⟩ : ∃ T', T' = tAll ((xs.map tPs).set k tEmp) := ⟨_, rfl⟩
    have h : Hp S w0 w13 (q.all b a.m u ++ [tB b3 (pre2 ++ []), tBlk rb 65 [.int .i64 e.1, .int .i64 e.2, .slice ps.a ps.len ps.cap], tSl r4 65 3 rdv xs, T', tSl ps 40 2 pdv ys, tAll (ys.map tV)]) := by
      rw [List.append_nil, hpre2, hT']; exact h
    have hpsl := h.len (s := ps) 12 rfl
    have hyl : ys.length = (partsOf p).length := by rw [← hys, List.length_map]
    have hpl12 : (partsOf p).length ≤ 12 := by have := partsU_len p p.length; unfold partsOf; omega
    have htotal := enc_parts p
    have hy4 : ∀ y ∈ partsOf p, y.2.length ≤ 48 ∧ R64 y.2 := by
      intro y hy
      have : ∀ k, ∀ y ∈ partsU p k, some y.2 ∈ p := by
        intro k
        induction k with
        | zero => simp [partsU]
        | succ k ih =>
          intro y hy
          rw [partsU] at hy
          rcases List.mem_append.1 hy with hy | hy
          · exact ih y hy
          · split at hy
            · rename_i v hv
              simp only [List.mem_singleton] at hy
              subst hy
              exact List.mem_of_getElem? (getD_some hv)
            · cases hy
      have hm := this _ y hy
      refine ⟨?_, fun z hz => hrng z (List.mem_flatMap.2 ⟨some y.2, hm, hz⟩)⟩
      obtain ⟨i, hi⟩ := List.getElem?_of_mem hm
      have := flat_split hi
      have hl := congrArg List.length this
      simp only [List.length_append, Option.getD_some] at hl
      omega
    obtain ⟨accP, haccP⟩ : ∃ accP : Nat → List Int, accP = fun j => ((partsOf p).take j).flatMap fun x => encZ x.2 := ⟨_, rfl⟩
    have haccPl : ∀ j, (accP j).length ≤ 480 * j := by
      intro j
      rw [haccP]
      induction j with
      | zero => simp
      | succ j ih =>
        dsimp only at ih ⊢
        by_cases hjl : j < (partsOf p).length
        · rw [List.take_succ_eq_append_getElem hjl, List.flatMap_append, List.length_append]
          simp only [List.flatMap_cons, List.flatMap_nil, List.append_nil]
          have e1 := encZ_len ((partsOf p)[j]).2
          have e2 := (hy4 _ (List.getElem_mem hjl)).1
          omega
        · rw [List.take_of_length_le (by omega)]
          rw [List.take_of_length_le (by omega)] at ih
          omega
    refine ⟨fun b4 t46 mm2 w' => ∃ j : Nat, t46 = j ∧ j ≤ ys.length ∧ mm2 = ys.length - j ∧ Hp S w0 w' (q.all b a.m u ++ [tB b4 (pre2 ++ accP j), tBlk rb 65 [.int .i64 e.1, .int .i64 e.2, .slice ps.a ps.len ps.cap], tSl r4 65 3 rdv xs, T', tSl ps 40 2 pdv ys, tAll (ys.map tV)]), ⟨ys.length, 0, rfl, by omega, rfl, by rw [haccP]; exact h⟩, ?_⟩
    clear h
    rintro b4 t46 mm2 w14 ⟨j, rfl, hjj, rfl, h⟩
    by_cases hjlt : j < ys.length
    · refine ifT (by simp; omega) ?_
      have hy : ys[j]? = some ys[j] := by simp [hjlt]
      have hpj : (partsOf p)[j]? = some (pvis ys[j]) := by rw [← hys, List.getElem?_map, hy]; rfl
      generalize ys[j] = y at hy hpj
      obtain ⟨kd, sv, v⟩ := y
      have hpj : (partsOf p)[j]? = some (kd, v) := hpj
      have hstepP : accP (j + 1) = accP j ++ encZ v := by
        rw [haccP]
        dsimp only
        have hjl := (List.getElem?_eq_some_iff.1 hpj).1
        have hje := (List.getElem?_eq_some_iff.1 hpj).2
        rw [List.take_succ_eq_append_getElem hjl, List.flatMap_append, hje]
        simp
      have hv := hy4 _ (List.mem_of_getElem? hpj)
      have haj := haccPl j
      have hv1 : v.length ≤ 48 := hv.1
      refine h.ixr (s := ps) (l := ys) (f := pdv) (n := 2) (e := 40) 12 rfl (by omega) (by rw [Int.toNat_natCast]; exact hy) pdv_len fun ad2 hc2 => ?_
      refine ldR0 (k := .i .i64) (x := kd) (hc2 0 (by omega)) rfl ?_
      refine ldR (k := .sl) (x := sv) (hc2 1 (by omega)) rfl ?_
      refine h.nw (c := [_, _]) fun pb w15 h => ?_
      have h := h.up
      refine h.st0 8 rfl (by simp) rfl fun w16 h => ?_
      refine h.st (n := 1) 8 rfl (by simp) rfl fun w17 h => ?_
      have h : Hp S w0 w17 (q.all b a.m u ++ [tBlk pb 40 [.int .i64 kd, .slice sv.a sv.len sv.cap], tB b4 (pre2 ++ accP j ++ encZ (v.take 0)), tBlk rb 65 [.int .i64 e.1, .int .i64 e.2, .slice ps.a ps.len ps.cap], tSl r4 65 3 rdv xs, T', tSl ps 40 2 pdv ys, tAll (ys.map tV)]) := by
        have e0 : encZ (v.take 0) = [] := rfl
        rw [e0, List.append_nil]; exact h
      have hrd : Hp.Reads (tAll (ys.map tV)) sv 1 iv v := ⟨fun {w O} hO => by
        obtain ⟨O1, O2, g, _⟩ := tAll_pick (k := j) (t := tV (kd, sv, v)) (by rw [List.getElem?_map, hy]; rfl) hO
        exact ⟨O1, SlF.toR g⟩⟩
      have hvl := h.lenU 14 (u := tAll (ys.map tV)) rfl hrd
      refine h.ld (n := 1) (k := .sl) (x := sv) 8 rfl rfl ?_
      refine ⟨fun b5 t53 mm3 w' => ∃ i : Nat, t53 = i ∧ i ≤ v.length ∧ mm3 = v.length - i ∧ Hp S w0 w' (q.all b a.m u ++ [tBlk pb 40 [.int .i64 kd, .slice sv.a sv.len sv.cap], tB b5 (pre2 ++ accP j ++ encZ (v.take i)), tBlk rb 65 [.int .i64 e.1, .int .i64 e.2, .slice ps.a ps.len ps.cap], tSl r4 65 3 rdv xs, T', tSl ps 40 2 pdv ys, tAll (ys.map tV)]), ⟨v.length, 0, rfl, by omega, rfl, h⟩, ?_⟩
      clear h
      rintro b5 t53 mm3 w18 ⟨i, rfl, hii, rfl, h⟩
      by_cases hilt : i < v.length
      · refine ifT (by simp; omega) ?_
        have hvi : v[i]? = some v[i] := by simp [hilt]
        have hsz : encZ (v.take (i + 1)) = encZ (v.take i) ++ putU (zig v[i]) := by
          unfold encZ
          rw [List.take_succ_eq_append_getElem hilt, List.flatMap_append]; simp
        have hvr := hv.2 v[i] (List.getElem_mem hilt)
        have hel := encZ_len (v.take i)
        rw [List.length_take] at hel
        generalize v[i] = z at hvi hsz hvr
        refine h.ixldU (k := .i .i64) (u := tAll (ys.map tV)) (y := z) (x := z) 14 rfl hrd (by omega) (by rw [Int.toNat_natCast]; exact hvi) iv_len rfl ?_
        refine FP.PutInt_spec h 9 rfl Hp.rdSl hvr.1 hvr.2 (by rw [List.length_append, List.length_append]; omega) fun b6 w19 h => ?_
        have h := h.up
        have h : Hp S w0 w19 ((q.all b a.m u ++ [tB b6 (pre2 ++ accP j ++ encZ (v.take i) ++ putU (zig z)), tBlk pb 40 [.int .i64 kd, .slice sv.a sv.len sv.cap]]) ++ [tB b5 (pre2 ++ accP j ++ encZ (v.take i))] ++ [tBlk rb 65 [.int .i64 e.1, .int .i64 e.2, .slice ps.a ps.len ps.cap], tSl r4 65 3 rdv xs, T', tSl ps 40 2 pdv ys, tAll (ys.map tV)]) := h
        have h := h.cutMid
        have h : Hp S w0 w19 (q.all b a.m u ++ [tB b6 (pre2 ++ accP j ++ encZ (v.take i) ++ putU (zig z))] ++ [tBlk pb 40 [.int .i64 kd, .slice sv.a sv.len sv.cap]] ++ [tBlk rb 65 [.int .i64 e.1, .int .i64 e.2, .slice ps.a ps.len ps.cap], tSl r4 65 3 rdv xs, T', tSl ps 40 2 pdv ys, tAll (ys.map tV)]) := h
        have h := h.mid
        refine ⟨v.length - (i + 1), by omega, i + 1, by rw [wr64 (by omega) (by omega)]; omega, by omega, rfl, ?_⟩
        rw [hsz, ← List.append_assoc]
        exact h
      · refine ifF (by simp; omega) ?_
        rw [List.take_of_length_le (by omega)] at h
        have h : Hp S w0 w18 (q.all b a.m u ++ [tBlk pb 40 [.int .i64 kd, .slice sv.a sv.len sv.cap]] ++ [tB b5 (pre2 ++ accP j ++ encZ v), tBlk rb 65 [.int .i64 e.1, .int .i64 e.2, .slice ps.a ps.len ps.cap], tSl r4 65 3 rdv xs, T', tSl ps 40 2 pdv ys, tAll (ys.map tV)]) := h
        have h := h.cutMid
        refine ⟨ys.length - (j + 1), by omega, j + 1, by rw [wr64 (by omega) (by omega)]; omega, by omega, rfl, ?_⟩
        rw [hstepP, ← List.append_assoc]
        exact h
    · refine ifF (by simp; omega) ?_
      have haP : accP j = encZ (flat p) := by
        rw [haccP]
        dsimp only
        rw [List.take_of_length_le (by omega), htotal]
      rw [haP, hT'] at h
      have h := h.nest_close (i := 12) (j := 13) (e := 40) (n := 2) (cells := pdv) (sub := tV) (vis := pvis) (s := ps) (xs := ys) (l := partsOf p) (by decide) rfl rfl hys
      have hkx : k < (xs.map tPs).length := by simpa using hlt
      have h := h.unpick (i := 11) (j := 12) (k := k) (ts := (xs.map tPs).set k tEmp) (t := tPs (e, ps, partsOf p)) (by decide) rfl rfl (by rw [List.getElem?_set_self hkx]) rfl
      rw [List.set_set] at h
      have eb : (xs.map tPs).set k (tPs (e, ps, partsOf p)) = xs.map tPs := Hp.set_same' (by rw [List.getElem?_map, hx]; rfl)
      rw [eb] at h
      have h : Hp S w0 w14 (q.all b a.m u ++ [tB b4 (pre2 ++ encZ (flat p)), tBlk rb 65 [.int .i64 e.1, .int .i64 e.2, .slice ps.a ps.len ps.cap], tSl r4 65 3 rdv xs, tAll (xs.map tPs)] ++ [tEmp, tEmp]) := h
      have h := h.front
      have h : Hp S w0 w14 ((q.all b a.m u ++ [tB b4 (pre2 ++ encZ (flat p))]) ++ [tBlk rb 65 [.int .i64 e.1, .int .i64 e.2, .slice ps.a ps.len ps.cap]] ++ [tSl r4 65 3 rdv xs, tAll (xs.map tPs)]) := h
      have h := h.cutMid
      refine ⟨xs.length - (k + 1), by omega, k + 1, by rw [wr64 (by omega) (by omega)]; omega, by omega, rfl, ?_⟩
      rw [hstep]
      rw [hpre2] at h
      simp only [List.append_assoc] at h ⊢
      exact h
  · refine ifF (by simp; omega) ?_
    have hfin : pre ++ acc k = a.snap := by
      rw [hpre, hacc]
      dsimp only
      rw [List.take_of_length_le (by omega)]
      rfl
    rw [hfin] at h
    have h : Hp S w0 w7 (q.all b a.m u ++ [tB b2 a.snap] ++ [tSl r4 65 3 rdv xs, tAll (xs.map tPs)]) := h
    exact hK b2 w7 h.front

theorem Snapshot_W (h : Hp S w0 w its) (i : Nat) {b : Nat} {a : WA} (hi : its[i]? = some (tW b a)) {K : Sl → World → Prop}
    (hK : ∀ s w', Hp S w0 w' (its ++ [tB s a.snap]) → K s w') : c16 (some ⟨b, 0, none⟩) w K := by
  obtain ⟨O, h1, back⟩ := h.f1 hi rfl
  clear h
  obtain ⟨q, hok, ht, hk, h⟩ := W_open h1
  rw [List.append_nil] at h
  refine Snapshot_o h hok ht hk fun s w' h => ?_
  exact hK s w' (W_fin hi back rfl (W_shut (rest := [_]) (m := a.m) hok ht hk rfl rfl h))

end
end Go.Proofs.Ytcccjgmekakabaa.FW
end

section
set_option linter.unusedSimpArgs false
set_option linter.unusedVariables false
set_option maxRecDepth 100000
namespace Go.Proofs.Ytcccjgmekakabaa.FW
open Go.Proofs.Ytcccjgmekakabaa.F
open Go Go.Den Go.Proofs
open Go.Proofs.Ytcccjgmekakabaa.FI (PoolM tPool pk)
open Go.Proofs.Ytcccjgmekakabaa.FT (TabM tTab Ent entV ent ent_len atI keyEnt iv iv_len)
open Go.Proofs.Ytcccjgmekakabaa.FP (putU zig encZ rowU tB putU_len encZ_len R64)
def kvis (x : KS) : ByteArray × List ByteArray := (x.1, x.2.2)

def tKinds (s : Sl) (l : KD) : Thing := tNest 94 2 kdv tF kvis s l

def WA.new (ks : KD) : WA := ⟨ks, ⟨200, [], [], []⟩, fun _ => none⟩

theorem WA.new_ok {ks : KD} (h : mayOk ks) : (WA.new ks).Ok := by
  refine ⟨FI.ok2_new (by decide) (by decide), rfl, h, fun e => ?_, fun e p hp => by cases hp⟩
  show false = PoolM.is ⟨200, [], [], []⟩ e.1 e.2
  unfold PoolM.is PoolM.lives
  simp

def usualK : KD := [(⟨#[80, 111, 115]⟩, [⟨#[120]⟩, ⟨#[121]⟩]), (⟨#[86, 101, 108]⟩, [⟨#[120]⟩]), (⟨#[68, 101, 97, 100]⟩, []), (⟨#[66, 111, 120]⟩, [⟨#[97]⟩, ⟨#[98]⟩, ⟨#[99]⟩, ⟨#[100]⟩])]

theorem words_of {L : List ByteArray} (h : (L.all fun x => decide (wordOk (strL x))) = true) (hn : L.Nodup) : wordsOk L := fun i hi => by
  refine ⟨of_decide_eq_true (List.all_eq_true.1 h _ (List.getElem_mem hi)), fun hm => ?_⟩
  obtain ⟨j, hj, he⟩ := List.mem_iff_getElem.1 hm
  rw [List.getElem_take] at he
  have := (List.getElem?_inj (i := j) (j := i) (by simp at hj; omega) hn).1 (by simp only [List.getElem?_eq_getElem (show j < L.length by simp at hj; omega), List.getElem?_eq_getElem hi, he])
  simp at hj; omega

theorem usual_may : mayOk usualK := by
  refine ⟨fun x hx => ?_, by decide, by decide, words_of (by decide) (by decide)⟩
  simp only [usualK, List.mem_cons, List.not_mem_nil, or_false] at hx
  rcases hx with rfl | rfl | rfl | rfl
  · exact ⟨by decide, words_of (by decide) (by decide)⟩
  · exact ⟨by decide, words_of (by decide) (by decide)⟩
  · exact ⟨by decide, words_of (by decide) (by decide)⟩
  · exact ⟨by decide, words_of (by decide) (by decide)⟩

section
variable {S : List Nat} {w0 w : World} {its : List Thing}
theorem New_W (h : Hp S w0 w its) (i : Nat) {s : Sl} {l : KD} (hi : its[i]? = some (tKinds s l)) (hl : l.length ≤ 1000000) (hsz : ∀ x ∈ l, x.1.size ≤ 1000000000000 ∧ ∀ y ∈ x.2, y.size ≤ 1000000000000) {K : Option Addr → Int → World → Prop}
    (hok : mayOk l → ∀ b w', Hp S w0 w' (its ++ [tW b (WA.new l)]) → K (some ⟨b, 0, none⟩) 0 w') (hno : ¬ mayOk l → ∀ w', Hp S w0 w' its → K none 65 w') : c10 s w K := by
  have hil := (List.getElem?_eq_some_iff.1 hi).1
  obtain ⟨xs, hxs, h⟩ := h.nest_open hi
  have hk : kinds xs = l := hxs
  have hxl : xs.length = l.length := by rw [← hxs, List.length_map]
  have e1 : (its.set i (tSl s 94 2 kdv xs) ++ [tAll (xs.map tF)])[i]? = some (tSl s 94 2 kdv xs) := by
    rw [List.getElem?_append_left (by simpa using hil), List.getElem?_set_self hil]
  have e2 : (its.set i (tSl s 94 2 kdv xs) ++ [tAll (xs.map tF)])[its.length]? = some (tAll (xs.map tF)) := by
    rw [List.getElem?_append_right (by simp)]; simp
  have back : ∀ {w' : World} {more : List Thing}, Hp S w0 w' (its.set i (tSl s 94 2 kdv xs) ++ [tAll (xs.map tF)] ++ more) → Hp S w0 w' (its ++ more) := fun {w' more} h => by
    have h := h.nest_close (i := i) (j := its.length) (e := 94) (n := 2) (cells := kdv) (sub := tF) (vis := kvis) (s := s) (xs := xs) (l := l) (by omega) (by rw [List.getElem?_append_left (by simp; omega)]; exact e1) (by rw [List.getElem?_append_left (by simp)]; exact e2) hxs
    have e3 : ((its.set i (tSl s 94 2 kdv xs) ++ [tAll (xs.map tF)] ++ more).set i (tNest 94 2 kdv tF kvis s l)).set its.length tEmp = its ++ [tEmp] ++ more := by
      rw [List.append_assoc, List.set_append_left _ _ (by simpa using hil), List.set_set, List.set_append_right _ _ (by simp), Hp.set_same' (x := tNest 94 2 kdv tF kvis s l) hi]
      simp
    rw [e3] at h
    exact h.cutMid
  refine New_spec h i its.length e1 e2 (by omega) (fun x hx => ?_) (fun hm b w' h => ?_) (fun hm w' h => ?_)
  · have := hsz (x.1, x.2.2) (by rw [← hk]; exact List.mem_map.2 ⟨x, hx, rfl⟩)
    exact this
  · rw [hk] at hm h
    refine hok hm b w' ?_
    have h := back h
    have h := h.putAnd (i := its.length) (p := (WA.new l).Ok ∧ Tabs l (fun _ => none) (WA.new l).m.sets []) ⟨WA.new_ok hm, Tabs.new l⟩ List.getElem?_concat_length rfl
    rw [set_last] at h
    have h := h.putEx (i := its.length) (f := fun T : List (Int × TabM) => tAnd ((WA.new l).Ok ∧ Tabs (WA.new l).ks (WA.new l).row (WA.new l).m.sets T) (tWorld b ⟨(WA.new l).ks, (WA.new l).pool, (WA.new l).m.sets, T⟩)) [] List.getElem?_concat_length rfl
    rw [set_last] at h
    exact h
  · rw [hk] at hm
    refine hno hm w' ?_
    have h : Hp S w0 w' (its.set i (tSl s 94 2 kdv xs) ++ [tAll (xs.map tF)] ++ []) := by rw [List.append_nil]; exact h
    have := back h
    rwa [List.append_nil] at this

theorem usual_spec (h : Hp S w0 w its) {K : Sl → World → Prop} (hK : ∀ s w', Hp S w0 w' (its ++ [tKinds s usualK]) → K s w') : c11 w K := by
  refine c11_of ?_
  unfold f11
  refine h.nwS (l := [(⟨#[120]⟩ : ByteArray), ⟨#[121]⟩]) (f := sv) (n := 1) (c := [_, _]) rfl rfl sv_len fun b1 w1 h => ?_
  refine h.nwS (l := [(⟨#[120]⟩ : ByteArray)]) (f := sv) (n := 1) (c := [_]) rfl rfl sv_len fun b2 w2 h => ?_
  have h := h.nil 9 1 sv
  refine h.nwS (l := [(⟨#[97]⟩ : ByteArray), ⟨#[98]⟩, ⟨#[99]⟩, ⟨#[100]⟩]) (f := sv) (n := 1) (c := [_, _, _, _]) rfl rfl sv_len fun b3 w3 h => ?_
  refine h.nwS (l := [((⟨#[80, 111, 115]⟩, ⟨some ⟨b1, 0, none⟩, 2, 2⟩, [⟨#[120]⟩, ⟨#[121]⟩]) : KS), (⟨#[86, 101, 108]⟩, ⟨some ⟨b2, 0, none⟩, 1, 1⟩, [⟨#[120]⟩]), (⟨#[68, 101, 97, 100]⟩, ⟨none, 0, 0⟩, []), (⟨#[66, 111, 120]⟩, ⟨some ⟨b3, 0, none⟩, 4, 4⟩, [⟨#[97]⟩, ⟨#[98]⟩, ⟨#[99]⟩, ⟨#[100]⟩])]) (f := kdv) (n := 2) (c := [_, _, _, _, _, _, _, _]) rfl rfl kdv_len fun b4 w4 h => ?_
  have h : Hp S w0 w4 (its ++ [tSl ⟨some ⟨b1, 0, none⟩, 2, 2⟩ 9 1 sv [⟨#[120]⟩, ⟨#[121]⟩], tSl ⟨some ⟨b2, 0, none⟩, 1, 1⟩ 9 1 sv [⟨#[120]⟩], tSl ⟨none, 0, 0⟩ 9 1 sv [], tSl ⟨some ⟨b3, 0, none⟩, 4, 4⟩ 9 1 sv [⟨#[97]⟩, ⟨#[98]⟩, ⟨#[99]⟩, ⟨#[100]⟩]] ++ [tSl ⟨some ⟨b4, 0, none⟩, 4, 4⟩ 94 2 kdv [((⟨#[80, 111, 115]⟩, ⟨some ⟨b1, 0, none⟩, 2, 2⟩, [⟨#[120]⟩, ⟨#[121]⟩]) : KS), (⟨#[86, 101, 108]⟩, ⟨some ⟨b2, 0, none⟩, 1, 1⟩, [⟨#[120]⟩]), (⟨#[68, 101, 97, 100]⟩, ⟨none, 0, 0⟩, []), (⟨#[66, 111, 120]⟩, ⟨some ⟨b3, 0, none⟩, 4, 4⟩, [⟨#[97]⟩, ⟨#[98]⟩, ⟨#[99]⟩, ⟨#[100]⟩])]]) := by
    simpa using h
  have h := h.swap2
  rw [List.append_assoc] at h
  exact hK _ w4 (h.nest_make (vis := kvis) (sub := tF) rfl)

/-- A part by raw numbers. -/
def fieldsN (k : Int) : Nat := [2, 1, 0, 4].getD k.toNat 0

def partL (what v : Int) : Part := (pk what 4 + 1, (List.range (fieldsN (pk what 4))).map fun i : Nat => IntKind.i64.wrap (v + i))

theorem partL_rng (what v : Int) : R64 (partL what v).2 := fun x hx => by
  obtain ⟨i, _, rfl⟩ := List.mem_map.1 hx
  exact ⟨wr64lo _, wr64hi _⟩

set_option maxHeartbeats 1000000 in
theorem part_spec (h : Hp S w0 w its) {what v : Int} (hw : -9223372036854775808 ≤ what) {K : Int → Sl → World → Prop} (hK : ∀ s w', Hp S w0 w' (its ++ [tSl s 2 1 iv (partL what v).2]) → K (partL what v).1 s w') : c13 what v w K := by
  refine c13_of ?_
  unfold f13
  obtain ⟨inf, q1, q2, q3, q4⟩ := FT.inf2
  refine h.nw (c := [_, _]) fun ab w1 h => ?_
  refine FI.pick_spec (by decide) ?_
  obtain ⟨p0, p4⟩ := FI.pk_range (c := what) (n := 4) hw (by decide)
  unfold partL at hK
  generalize pk what 4 = k at p0 p4 hK ⊢
  refine h.nw (c := [_, _]) fun pb w2 h => ?_
  have h := h.up (A := its)
  have hk1 : IntKind.i64.wrap (k + 1) = k + 1 := wr64 (by omega) (by omega)
  rw [hk1]
  have g0 : ∀ {l : List Thing} (j : Nat), (its ++ l)[its.length + j]? = l[j]? := fun {l} j => by rw [List.getElem?_append_right (by omega)]; simp
  have s0 : ∀ {l : List Thing} (j : Nat) (t : Thing), (its ++ l).set (its.length + j) t = its ++ l.set j t := fun {l} j t => by rw [List.set_append_right _ _ (by omega)]; simp
  refine h.st0 (its.length + 0) (by rw [g0]; rfl) (by simp) rfl fun w3 h => ?_
  rw [s0] at h
  refine h.st (n := 1) (its.length + 0) (by rw [g0]; rfl) (by simp) rfl fun w4 h => ?_
  rw [s0] at h
  have h : Hp S w0 w4 (its ++ [tBlk pb 40 [.int .i64 (k + 1), .slice none 0 0], tBlk ab 40 [.int .i64 0, .slice none 0 0]]) := h
  have h := (h.nil 2 1 iv).up (A := its)
  have hf4 : fieldsN k ≤ 4 := by
    unfold fieldsN
    obtain ⟨n, rfl⟩ : ∃ n : Nat, k = n := ⟨k.toNat, by omega⟩
    rw [Int.toNat_natCast]
    match n, p4 with
    | 0, _ => decide
    | 1, _ => decide
    | 2, _ => decide
    | 3, _ => decide
    | n + 4, p4 => omega
  refine ⟨fun i mm w' => ∃ (j : Nat) (s : Sl), i = j ∧ j ≤ fieldsN k ∧ mm = fieldsN k - j ∧ Hp S w0 w' (its ++ [tSl s 2 1 iv ((List.range j).map fun i : Nat => IntKind.i64.wrap (v + i)), tBlk pb 40 [.int .i64 (k + 1), .slice s.a s.len s.cap], tBlk ab 40 [.int .i64 0, .slice none 0 0]]), ⟨fieldsN k, 0, ⟨none, 0, 0⟩, rfl, by omega, rfl, h⟩, ?_⟩
  clear h
  rintro i mm w5 ⟨j, s, rfl, hj, rfl, h⟩
  refine h.nwS (l := [2, 1, 0, 4]) (f := iv) (n := 1) (c := [_, _, _, _]) rfl rfl iv_len fun bb w6 h => ?_
  have h := h.up (A := its)
  have hx : ([2, 1, 0, 4] : List Int)[k.toNat]? = some ((fieldsN k : Nat) : Int) := by
    unfold fieldsN
    obtain ⟨n, rfl⟩ : ∃ n : Nat, k = n := ⟨k.toNat, by omega⟩
    rw [Int.toNat_natCast]
    match n, p4 with
    | 0, _ => rfl
    | 1, _ => rfl
    | 2, _ => rfl
    | 3, _ => rfl
    | n + 4, p4 => omega
  refine h.ixld (k := .i .i64) (s := ⟨some ⟨bb, 0, none⟩, 4, 4⟩) (e := 3) (f := iv) (l := [2, 1, 0, 4]) (y := ((fieldsN k : Nat) : Int)) (x := ((fieldsN k : Nat) : Int)) (its.length + 0) (by rw [g0]; rfl) p0 hx iv_len rfl ?_
  have h : Hp S w0 w6 (its ++ [tSl ⟨some ⟨bb, 0, none⟩, 4, 4⟩ 3 1 iv [2, 1, 0, 4]] ++ [tSl s 2 1 iv ((List.range j).map fun i : Nat => IntKind.i64.wrap (v + i)), tBlk pb 40 [.int .i64 (k + 1), .slice s.a s.len s.cap], tBlk ab 40 [.int .i64 0, .slice none 0 0]]) := by simpa using h
  have h := h.cutMid
  have hsl := h.len (s := s) (e := 2) (n := 1) (f := iv) (l := (List.range j).map fun i : Nat => IntKind.i64.wrap (v + i)) (its.length + 0) (by rw [g0]; rfl)
  rw [List.length_map, List.length_range] at hsl
  by_cases hlt : j < fieldsN k
  · refine ifT (by simp; omega) ?_
    refine h.ld (n := 1) (k := .sl) (x := s) (its.length + 1) (by rw [g0]; rfl) rfl ?_
    refine h.nwapp (its.length + 0) (IntKind.i64.wrap (v + (j : Nat))) (c := [_]) (by rw [g0]; rfl) iv_len FT.und34 q1 q3 q2 rfl rfl (by simp [iv, Value.oneCell']) (by rw [q4]; omega) (by omega) fun s2 w7 h _ _ => ?_
    rw [s0] at h
    refine h.st (n := 1) (its.length + 1) (by rw [g0]; rfl) (by simp) rfl fun w8 h => ?_
    rw [s0] at h
    refine ⟨fieldsN k - (j + 1), by omega, j + 1, s2, by rw [wr64 (by omega) (by omega)]; omega, by omega, rfl, ?_⟩
    rw [List.range_succ, List.map_append]
    exact h
  · refine ifF (by simp; omega) ?_
    obtain rfl : j = fieldsN k := by omega
    refine h.ld0 (k := .i .i64) (x := k + 1) (its.length + 1) (by rw [g0]; rfl) rfl ?_
    refine h.ld (n := 1) (k := .sl) (x := s) (its.length + 1) (by rw [g0]; rfl) rfl ?_
    refine h.st0 (its.length + 2) (by rw [g0]; rfl) (by simp) rfl fun w7 h => ?_
    rw [s0] at h
    refine h.st (n := 1) (its.length + 2) (by rw [g0]; rfl) (by simp) rfl fun w8 h => ?_
    rw [s0] at h
    refine h.ld0 (k := .i .i64) (x := k + 1) (its.length + 2) (by rw [g0]; rfl) rfl ?_
    refine h.ld (n := 1) (k := .sl) (x := s) (its.length + 2) (by rw [g0]; rfl) rfl ?_
    have h : Hp S w0 w8 (its ++ [tSl s 2 1 iv ((List.range (fieldsN k)).map fun i : Nat => IntKind.i64.wrap (v + i))] ++ [tBlk pb 40 [.int .i64 (k + 1), .slice s.a s.len s.cap], tBlk ab 40 [.int .i64 (k + 1), .slice s.a s.len s.cap]]) := by simpa using h
    exact hK s w8 h.front

def exA : WA := ((WA.new usualK).spawn [(2, [7]), (1, [1, 2])]).1

def exB : WA := (exA.spawn []).1

def exC : WA := (exB.add (1, 1) (3, [])).1

def exD : WA := (exC.add (1, 1) (3, [])).1

def exE : WA := (exD.despawn (0, 1)).1

theorem ex1 : ((WA.new usualK).spawn [(2, [7]), (1, [1, 2])]).2 = ((0, 1), 0) := by decide

theorem ex2 : (exA.spawn []).2 = ((1, 1), 0) := by decide

theorem ex3 : (exB.add (1, 1) (3, [])).2 = 0 := by decide

theorem ex4 : (exC.add (1, 1) (3, [])).2 = 61 := by decide

theorem ex5 : (exD.despawn (0, 1)).2 = 0 := by decide

theorem ex6 : exE.snap = strL ⟨#[2, 0, 2, 2, 1, 0, 0, 8]⟩ := by decide

end
end Go.Proofs.Ytcccjgmekakabaa.FW
end

section
set_option linter.unusedSimpArgs false
set_option linter.unusedVariables false
namespace Go.Den
open Go
variable {κ ν : Type} [DecidableEq κ]
theorem nodup_lt' : ∀ (n : Nat) (L : List Nat), L.Nodup → (∀ x ∈ L, x < n) → L.length ≤ n
  | 0, L, _, h => by
    cases L with
    | nil => simp
    | cons x L => exact absurd (h x (by simp)) (by omega)
  | n + 1, L, hnd, h => by
    have h1 := nodup_lt' n (L.erase n) (hnd.erase n) (fun x hx => by
      have hm := (hnd.mem_erase_iff).1 hx
      have := h x hm.2
      have := hm.1
      omega)
    have h2 := List.length_erase (a := n) (l := L)
    split at h2 <;> omega

theorem nodup_all : ∀ (n : Nat) (L : List Nat), (∀ j, j < n → j ∈ L) → n ≤ L.length
  | 0, _, _ => Nat.zero_le _
  | n + 1, L, h => by
    have h1 := nodup_all n (L.erase n) (fun j hj => (List.mem_erase_of_ne (by omega)).2 (h j (by omega)))
    rw [List.length_erase_of_mem (h n (by omega))] at h1
    have : 0 < L.length := List.length_pos_of_mem (h n (by omega))
    omega

/-- The map's block, opened. -/
def MapIs (w : World) (b : Nat) (ek : κ → Value) (ev : ν → Value) (g : κ → Option ν) (es : Array MapEntry) (clock : Nat) (l : List (κ × ν)) : Prop :=
  w.heap[b]? = some (.map es clock) ∧ es.toList.map (fun e => (e.key, e.val)) = l.map (fun p => (ek p.1, ev p.2)) ∧ Stamps (es.toList.map (·.born)) clock ∧ (l.map (·.1)).Nodup ∧ ∀ k, mget l k = g k

/-- A map and an iterator over it: these keys came out, in this order; N entries in all. -/
def tRan (b r : Nat) (ek : κ → Value) (ev : ν → Value) (g : κ → Option ν) (N : Nat) (done : List κ) : Thing :=
  { holds := fun w O => O = [b, r] ∧ b ≠ r ∧ ∃ es clock l seen last, MapIs w b ek ev g es clock l ∧ w.heap[r]? = some (.mapIter (some b) clock seen last) ∧ clock ≤ last ∧ (done = [] ∨ last = clock) ∧ l.length = N ∧
      done.Nodup ∧ ∃ js : List Nat, js.length = done.length ∧ seen.toList = js.map (fun j => (es.toList.map (·.born)).getD j 0) ∧ (∀ n j : Nat, js[n]? = some j → ∃ p, l[j]? = some p ∧ done[n]? = some p.1)
    fr := fun {S w w' O} h hf hn => by
      obtain ⟨rfl, hbr, es, clock, l, seen, last, ⟨h1, h2⟩, h3, h4⟩ := h
      exact ⟨rfl, hbr, es, clock, l, seen, last, ⟨(hf.block b (Array.getElem?_eq_some_iff.1 h1).1 (hn b (by simp))).trans h1, h2⟩, (hf.block r (Array.getElem?_eq_some_iff.1 h3).1 (hn r (by simp))).trans h3, h4⟩
    lt := fun {w O} h k hk => by
      obtain ⟨rfl, hbr, es, clock, l, seen, last, ⟨h1, h2⟩, h3, h4⟩ := h
      simp only [List.mem_cons, List.not_mem_nil, or_false] at hk
      rcases hk with rfl | rfl
      · exact (Array.getElem?_eq_some_iff.1 h1).1
      · exact (Array.getElem?_eq_some_iff.1 h3).1 }

/-- 'next', wherever the iterator lies. -/
theorem run_next_at {P : Program} (w : World) (ty : TypeId) (r bm since c0 : Nat) (seen : Array Nat) (es : Array MapEntry) (clock : Nat) (hr : w.heap[r]? = some (.mapIter (some bm) since seen c0)) (hb : w.heap[bm]? = some (.map es clock)) (hold : ∀ x ∈ es.toList, x.born < since) (hsc : since ≤ c0) :
    ((leftOf es seen).size = 0 ∧ (Instr.next (.pointer (some ⟨r, 0, none⟩)) false ty).run P w = .ok (.tuple #[.bool false]) w) ∨
    ∃ e ∈ (leftOf es seen).toList, ∃ w1 : World, (w1 = w ∨ w1 = w.drew) ∧ (Instr.next (.pointer (some ⟨r, 0, none⟩)) false ty).run P w = .ok (.tuple #[.bool true, e.key, e.val]) ({ w1 with heap := w1.heap.setIfInBounds r (.mapIter (some bm) since (seen.push e.born) clock) }) := by
  simp only [Instr.next, getObj, Sem.run_bind, Sem.run, hr, hb, Result.andThen, next_test_false seen es since c0 hold hsc, Bool.false_eq_true, if_false]
  unfold leftOf
  have hmem : ∀ x ∈ (Array.filter (fun e => !seen.contains e.born) es).toList, x.born < since := fun x hx => hold x (by simp at hx ⊢; exact hx.1)
  generalize Array.filter (fun e => !seen.contains e.born) es = L at hmem ⊢
  have e1 : L.filter (fun x => decide (x.born < since)) = L := Array.filter_eq_self.2 (fun x hx => by simpa using hmem x (by simpa using hx))
  have e2 : L.filter (fun x => decide (x.born ≥ since)) = #[] := by
    rw [Array.filter_eq_empty_iff]
    intro x hx
    have := hmem x (by simpa using hx)
    simp
    omega
  simp only [e1, e2, Array.append_empty]
  by_cases h0 : L.size = 0
  · left
    have : L = #[] := Array.eq_empty_of_size_eq_zero h0
    subst this
    refine ⟨rfl, ?_⟩
    simp [choose, Sem.run, Question.forced]
  · right
    have hne : L.isEmpty = false := by simp [Array.isEmpty, h0]
    simp only [hne, Bool.false_eq_true, if_false, Array.empty_append, Array.size_map]
    have hch : ∃ (j : Nat) (w1 : World), j < L.size ∧ (w1 = w ∨ w1 = w.drew) ∧ (choose (Question.mapNext L.size)).run P w = .ok j w1 := by
      by_cases hf : L.size ≤ 1
      · exact ⟨0, w, by omega, .inl rfl, by simp [choose, Sem.run, Question.forced, hf]⟩
      · exact ⟨_, w.drew, Nat.mod_lt _ (by omega), .inr rfl, by
          simp only [choose, Sem.run, Question.forced, decide_eq_true_eq, hf, if_false, Question.cut]
          rfl⟩
    obtain ⟨j, w1, hj, hal, hrun⟩ := hch
    refine ⟨L[j], by simp, w1, hal, ?_⟩
    have hr1 : w1.heap[r]? = some (.mapIter (some bm) since seen c0) := by rcases hal with rfl | rfl <;> exact hr
    have hset : ∀ o' : Obj, (setObj r o').run P w1 = .ok () { w1 with heap := w1.heap.setIfInBounds r o' } := fun o' => by
      simp only [setObj, Sem.run]
      rw [hr1]
    simp only [hrun, Array.getElem?_map, Array.getElem?_eq_getElem hj, Option.map_some, Sem.run_bind, hset, Result.andThen]
    rfl

theorem left_at {es : Array MapEntry} {seen : Array Nat} {e : MapEntry} (he : e ∈ (leftOf es seen).toList) : ∃ j : Nat, es.toList[j]? = some e ∧ e.born ∉ seen.toList := by
  have := mem_left he
  obtain ⟨j, hj⟩ := List.getElem?_of_mem this.1
  refine ⟨j, hj, fun hm => ?_⟩
  have h2 := this.2
  simp only [Array.contains_eq_mem, decide_eq_false_iff_not] at h2
  exact h2 (Array.mem_toList_iff.1 hm)

namespace Hp
variable {S : List Nat} {w0 w : World} {its : List Thing} {P : Program} {ek : κ → Value} {ev : ν → Value} {g : κ → Option ν}
theorem range_start (h : Hp S w0 w its) (i : Nat) {b : Nat} {mt kt vt : TypeId} {K : Option Addr → World → Prop} (hi : its[i]? = some (tMp b ek ev g)) (hm : P.underlying mt = some (.map kt vt))
    (hK : ∀ r N w', Hp S w0 w' (its.set i (tRan b r ek ev g N [])) → K (some ⟨r, 0, none⟩) w') : Run .p P (Instr.range mt (.map (some b))) w K := by
  obtain ⟨O, ⟨l, ⟨⟨es, clock, hb, hes, hst⟩, rfl⟩, hnd, hg⟩, back⟩ := h.step hi rfl
  have hlt := (Array.getElem?_eq_some_iff.1 hb).1
  refine ⟨some ⟨w.heap.size, 0, none⟩, w.alloc (.mapIter (some b) clock #[] clock), run_range_map w mt kt vt b es clock hm hb, hK _ l.length _ ?_⟩
  refine back ((Fr.alloc w _).mono (by simp)) (t' := tRan b w.heap.size ek ev g l.length []) (O' := [b, w.heap.size]) ?_ (fun k hk => ?_) rfl
  · refine ⟨rfl, by omega, es, clock, l, #[], clock, ⟨(heap_alloc_old w _ hlt).trans hb, hes, hst, hnd, hg⟩, heap_alloc_new w _, Nat.le_refl _, .inl rfl, rfl, by simp, [], rfl, rfl, by simp⟩
  · simp only [List.mem_cons, List.not_mem_nil, or_false] at hk
    rcases hk with rfl | rfl
    · exact .inl (by simp)
    · exact .inr (Nat.le_refl _)

theorem range_next (h : Hp S w0 w its) (i : Nat) {b r N : Nat} {ty : TypeId} {done : List κ} {K0 : World → Prop} {K1 : Value → Value → World → Prop} (hi : its[i]? = some (tRan b r ek ev g N done))
    (h0 : (∀ k, (g k).isSome = true → k ∈ done) → done.length = N → Hp S w0 w its → K0 w)
    (h1 : ∀ k v x1 x2 w', g k = some v → k ∉ done → done.length < N → Hp S w0 w' (its.set i (tRan b r ek ev g N (done ++ [k]))) → K1 x1 x2 w') : NxM P (.pointer (some ⟨r, 0, none⟩)) ty w K0 K1 := by
  obtain ⟨O, ⟨rfl, hbr, es, clock, l, seen, last, ⟨hb, hes, hst, hnd, hg⟩, hr, hle, hlast, hN, hdn, js, hjl, hseen, hjs⟩, back⟩ := h.step hi rfl
  have hel : es.toList.length = l.length := by have := congrArg List.length hes; simpa using this
  have hold : ∀ x ∈ es.toList, x.born < clock := fun x hx => hst.2 _ (List.mem_map.2 ⟨x, hx, rfl⟩)
  have hbj : ∀ (j : Nat) (e : MapEntry), es.toList[j]? = some e → (es.toList.map (·.born)).getD j 0 = e.born := fun j e he => by
    rw [List.getD_eq_getElem?_getD, List.getElem?_map, he]; rfl
  have hinj : ∀ (i j : Nat), i < l.length → (es.toList.map (·.born)).getD i 0 = (es.toList.map (·.born)).getD j 0 → j < l.length → i = j := fun i j hi he hj => by
    refine (List.getElem?_inj (i := i) (j := j) (l := es.toList.map (·.born)) (by rw [List.length_map]; omega) hst.1).1 ?_
    rw [List.getD_eq_getElem?_getD, List.getD_eq_getElem?_getD] at he
    have a1 : (es.toList.map (·.born))[i]? = some ((es.toList.map (·.born))[i]'(by rw [List.length_map]; omega)) := List.getElem?_eq_getElem _
    have a2 : (es.toList.map (·.born))[j]? = some ((es.toList.map (·.born))[j]'(by rw [List.length_map]; omega)) := List.getElem?_eq_getElem _
    rw [a1, a2] at he ⊢
    simpa using he
  have keyInj : ∀ (i j : Nat) (p q : κ × ν), l[i]? = some p → l[j]? = some q → p.1 = q.1 → i = j := fun i j p q hi hj he =>
    (List.getElem?_inj (i := i) (j := j) (l := l.map (·.1)) (by simpa using (List.getElem?_eq_some_iff.1 hi).1) hnd).1 (by rw [List.getElem?_map, List.getElem?_map, hi, hj]; simp [he])
  have hjlt : ∀ n j : Nat, js[n]? = some j → j < l.length := fun n j hn => by
    obtain ⟨p, hp, _⟩ := hjs n j hn
    exact (List.getElem?_eq_some_iff.1 hp).1
  have hjnd : js.Nodup := by
    rw [List.nodup_iff_pairwise_ne, List.pairwise_iff_getElem]
    intro n m hn0 hm hnm he
    have hm' : js[m]? = some js[m] := List.getElem?_eq_getElem hm
    obtain ⟨p, hp, hd⟩ := hjs m _ hm'
    obtain ⟨p', hp', hd'⟩ := hjs n js[m] (by rw [List.getElem?_eq_getElem hn0, he])
    rw [hp] at hp'
    obtain rfl := Option.some.inj hp'
    have := (List.getElem?_inj (i := n) (j := m) (l := done) (by omega) hdn).1 (by rw [hd, hd'])
    omega
  have hdl : done.length ≤ l.length := by
    rw [← hjl]
    exact nodup_lt' l.length js hjnd (fun x hx => by
      obtain ⟨n, hn⟩ := List.getElem?_of_mem hx
      exact hjlt n x hn)
  rcases run_next_at (P := P) w ty r b clock last seen es clock hr hb hold hle with ⟨hz, hrun⟩ | ⟨e, he, w1, hw1, hrun⟩
  · refine ⟨_, _, hrun, .inl ⟨rfl, h0 (fun k hk => ?_) ?_ h⟩⟩
    · obtain ⟨v, hv⟩ := Option.isSome_iff_exists.1 hk
      rw [← hg, mget_eq] at hv
      obtain ⟨p, hp, rfl⟩ := Option.map_eq_some_iff.1 hv
      have hpk := List.find?_some hp
      simp only [decide_eq_true_eq] at hpk
      obtain ⟨j, hj⟩ := List.getElem?_of_mem (List.mem_of_find?_eq_some hp)
      have hjl2 := (List.getElem?_eq_some_iff.1 hj).1
      have hej : es.toList[j]? = some (es.toList[j]'(by omega)) := List.getElem?_eq_getElem _
      have hin : (es.toList[j]'(by omega)).born ∈ seen.toList := by
        refine Classical.byContradiction fun hno => ?_
        have hm : (es.toList[j]'(by omega)) ∈ (leftOf es seen).toList := by
          unfold leftOf
          rw [Array.toList_filter, List.mem_filter]
          refine ⟨List.getElem_mem _, ?_⟩
          simp only [Array.contains_eq_mem, Bool.not_eq_true', decide_eq_false_iff_not]
          exact fun hm => hno (Array.mem_toList_iff.2 hm)
        have : (leftOf es seen).toList = [] := by
          rw [← List.length_eq_zero_iff, Array.length_toList]; exact hz
        rw [this] at hm
        cases hm
      rw [hseen] at hin
      obtain ⟨j', hj', hbe⟩ := List.mem_map.1 hin
      obtain ⟨n, hn⟩ := List.getElem?_of_mem hj'
      have hlt' := hjlt n j' hn
      rw [← hbj j _ hej] at hbe
      have := hinj j' j hlt' hbe hjl2
      subst this
      obtain ⟨q, hq, hdq⟩ := hjs n j' hn
      rw [hj] at hq
      obtain rfl := Option.some.inj hq
      rw [hpk] at hdq
      exact List.mem_of_getElem? hdq
    · -- all have come
      have hall : ∀ j, j < l.length → j ∈ js := fun j hj => by
        have hej : es.toList[j]? = some (es.toList[j]'(by omega)) := List.getElem?_eq_getElem _
        have hin : (es.toList[j]'(by omega)).born ∈ seen.toList := by
          refine Classical.byContradiction fun hno => ?_
          have hm : (es.toList[j]'(by omega)) ∈ (leftOf es seen).toList := by
            unfold leftOf
            rw [Array.toList_filter, List.mem_filter]
            refine ⟨List.getElem_mem _, ?_⟩
            simp only [Array.contains_eq_mem, Bool.not_eq_true', decide_eq_false_iff_not]
            exact fun hm => hno (Array.mem_toList_iff.2 hm)
          have : (leftOf es seen).toList = [] := by
            rw [← List.length_eq_zero_iff, Array.length_toList]; exact hz
          rw [this] at hm
          cases hm
        rw [hseen] at hin
        obtain ⟨j', hj', hbe⟩ := List.mem_map.1 hin
        obtain ⟨n, hn⟩ := List.getElem?_of_mem hj'
        rw [← hbj j _ hej] at hbe
        have := hinj j' j (hjlt n j' hn) hbe hj
        subst this
        exact hj'
      have := nodup_all l.length js hall
      omega
  · obtain ⟨j, hej, hnew⟩ := left_at he
    have hjl2 : j < l.length := by have := (List.getElem?_eq_some_iff.1 hej).1; omega
    have hlj : l[j]? = some l[j] := List.getElem?_eq_getElem hjl2
    have hkv : e.key = ek (l[j]).1 ∧ e.val = ev (l[j]).2 := by
      have := congrArg (fun x => x[j]?) hes
      simp only [List.getElem?_map, hej, hlj, Option.map_some, Option.some.injEq, Prod.mk.injEq] at this
      exact this
    have hgk : g (l[j]).1 = some (l[j]).2 := by
      rw [← hg, mget_eq]
      have : l.find? (fun p => decide (p.1 = (l[j]).1)) = some l[j] := by
        cases hf : l.find? (fun p => decide (p.1 = (l[j]).1)) with
        | none =>
          have := List.find?_eq_none.1 hf l[j] (List.getElem_mem _)
          simp at this
        | some q =>
          have hq := List.find?_some hf
          simp only [decide_eq_true_eq] at hq
          obtain ⟨j', hj'⟩ := List.getElem?_of_mem (List.mem_of_find?_eq_some hf)
          have := keyInj j' j q _ hj' hlj hq
          subst this
          rw [hlj] at hj'
          exact hj'.symm
      rw [this]; rfl
    have hjno : j ∉ js := fun hm => hnew (by rw [hseen]; exact List.mem_map.2 ⟨j, hm, hbj j e hej⟩)
    have hkno : (l[j]).1 ∉ done := fun hm => by
      obtain ⟨n, hn⟩ := List.getElem?_of_mem hm
      have hnl := (List.getElem?_eq_some_iff.1 hn).1
      have hjn : js[n]? = some (js[n]'(by omega)) := List.getElem?_eq_getElem _
      obtain ⟨q, hq, hdq⟩ := hjs n _ hjn
      rw [hn] at hdq
      have := keyInj _ j q _ hq hlj (Option.some.inj hdq).symm
      rw [this] at hjn
      exact hjno (List.mem_of_getElem? hjn)
    have hlN : done.length < N := by
      have := nodup_lt' l.length (j :: js) (List.nodup_cons.2 ⟨hjno, hjnd⟩) (fun x hx => by
        rcases List.mem_cons.1 hx with rfl | hx
        · exact hjl2
        · obtain ⟨n, hn⟩ := List.getElem?_of_mem hx
          exact hjlt n x hn)
      simp only [List.length_cons] at this
      omega
    have hsz : w1.heap = w.heap ∧ w1.os = w.os ∧ w1.tape = w.tape ∧ w1.output = w.output := by rcases hw1 with rfl | rfl <;> exact ⟨rfl, rfl, rfl, rfl⟩
    have hrl := (Array.getElem?_eq_some_iff.1 hr).1
    have hbl := (Array.getElem?_eq_some_iff.1 hb).1
    refine ⟨_, _, hrun, .inr ⟨e.key, e.val, rfl, h1 (l[j]).1 (l[j]).2 _ _ _ hgk hkno hlN ?_⟩⟩
    refine back (w' := { w1 with heap := w1.heap.setIfInBounds r (.mapIter (some b) clock (seen.push e.born) clock) }) (t' := tRan b r ek ev g N (done ++ [(l[j]).1])) (O' := [b, r]) ⟨hsz.2.1, hsz.2.2.1, hsz.2.2.2, by show w.heap.size ≤ (w1.heap.setIfInBounds r _).size; simp [hsz.1], fun k hk hn => ?_⟩ ?_ (fun k hk => .inl hk) rfl
    · show (w1.heap.setIfInBounds r _)[k]? = w.heap[k]?
      rw [hsz.1, Array.getElem?_setIfInBounds_ne (fun e => hn (by simp [e]))]
    · refine ⟨rfl, hbr, es, clock, l, seen.push e.born, clock, ⟨?_, hes, hst, hnd, hg⟩, ?_, Nat.le_refl _, .inr rfl, hN, ?_, js ++ [j], by simp [hjl], ?_, ?_⟩
      · show (w1.heap.setIfInBounds r _)[b]? = _
        rw [hsz.1, Array.getElem?_setIfInBounds_ne (fun e => hbr e.symm)]; exact hb
      · show (w1.heap.setIfInBounds r _)[r]? = _
        rw [hsz.1, Array.getElem?_setIfInBounds_self_of_lt hrl]
      · rw [List.nodup_append]
        exact ⟨hdn, by simp, fun a ha c hc => by simp only [List.mem_singleton] at hc; subst hc; exact fun e => hkno (e ▸ ha)⟩
      · rw [Array.toList_push, List.map_append, hseen]
        simp only [List.map_cons, List.map_nil]
        rw [hbj j e hej]
      · intro n m hn
        by_cases hlt : n < js.length
        · rw [List.getElem?_append_left hlt] at hn
          obtain ⟨q, hq, hd⟩ := hjs n m hn
          exact ⟨q, hq, by rw [List.getElem?_append_left (by omega)]; exact hd⟩
        · rw [List.getElem?_append_right (by omega)] at hn
          have h00 : n - js.length = 0 := by
            rcases Nat.eq_zero_or_pos (n - js.length) with h | h
            · exact h
            · rw [List.getElem?_eq_none (by simp; omega)] at hn; cases hn
          rw [h00] at hn
          obtain rfl := Option.some.inj hn
          refine ⟨_, hlj, ?_⟩
          rw [List.getElem?_append_right (by omega), show n - done.length = 0 by omega]; rfl

theorem range_entry (h : Hp S w0 w its) (i : Nat) {b r N : Nat} {done : List κ} {k : κ} {v : ν} {K : Value → Value → World → Prop} (hi : its[i]? = some (tRan b r ek ev g N (done ++ [k]))) (hgk : g k = some v) (hK : K (ek k) (ev v) w) : EnM P (.pointer (some ⟨r, 0, none⟩)) w K := by
  obtain ⟨O, rfl, hbr, es, clock, l, seen, last, ⟨hb, hes, hst, hnd, hg⟩, hr, hle, hlast, hN, hdn, js, hjl, hseen, hjs⟩ := h.see hi
  have hlast : last = clock := by
    rcases hlast with h | h
    · simp at h
    · exact h
  subst hlast
  have hn : js[done.length]? = some (js[done.length]'(by rw [hjl]; simp)) := List.getElem?_eq_getElem _
  obtain ⟨p, hp, hd⟩ := hjs _ _ hn
  have hpk : p.1 = k := by
    rw [List.getElem?_append_right (Nat.le_refl _), Nat.sub_self] at hd
    exact (Option.some.inj hd).symm
  generalize js[done.length]'(by rw [hjl]; simp) = j at hn hp hd
  have hjl2 := (List.getElem?_eq_some_iff.1 hp).1
  have hel : es.toList.length = l.length := by have := congrArg List.length hes; simpa using this
  have hej : es.toList[j]? = some (es.toList[j]'(by omega)) := List.getElem?_eq_getElem _
  have hkv : (es.toList[j]'(by omega)).key = ek p.1 ∧ (es.toList[j]'(by omega)).val = ev p.2 := by
    have := congrArg (fun x => x[j]?) hes
    simp only [List.getElem?_map, hej, hp, Option.map_some, Option.some.injEq, Prod.mk.injEq] at this
    exact this
  have hpv : p.2 = v := by
    have h1 : mget l k = some v := by rw [hg]; exact hgk
    rw [mget_eq] at h1
    obtain ⟨q, hq, hqv⟩ := Option.map_eq_some_iff.1 h1
    have hqk := List.find?_some hq
    simp only [decide_eq_true_eq] at hqk
    obtain ⟨j', hj'⟩ := List.getElem?_of_mem (List.mem_of_find?_eq_some hq)
    have : j' = j := (List.getElem?_inj (i := j') (j := j) (l := l.map (·.1)) (by simpa using (List.getElem?_eq_some_iff.1 hj').1) hnd).1 (by rw [List.getElem?_map, List.getElem?_map, hj', hp]; simp [hqk, hpk])
    subst this
    rw [hp] at hj'
    rw [Option.some.inj hj']; exact hqv
  generalize es.toList[j]'(by omega) = e at hej hkv
  have hback : seen.back? = some e.born := by
    have h1 : seen.toList.getLast? = some e.born := by
      rw [hseen]
      have hjs2 : js = js.take done.length ++ [j] := by
        have hl : js.length = done.length + 1 := by rw [hjl]; simp
        have h1 := List.take_succ_eq_append_getElem (l := js) (i := done.length) (by omega)
        have h2 : js.take (done.length + 1) = js := List.take_of_length_le (by omega)
        have h3 : js[done.length]'(by omega) = j := by
          rw [List.getElem?_eq_getElem (by omega)] at hn; exact Option.some.inj hn
        rw [h3] at h1
        exact h2.symm.trans h1
      rw [hjs2, List.map_append]
      simp only [List.map_cons, List.map_nil, List.getLast?_append, List.getLast?_singleton, Option.some_or]
      rw [List.getD_eq_getElem?_getD, List.getElem?_map, hej]; rfl
    rw [← Array.getLast?_toList]; exact h1
  have hf : es.find? (·.born == e.born) = some e := by rw [← Array.find?_toList]; exact find_born e es.toList hst.1 (List.mem_of_getElem? hej)
  refine ⟨e.key, e.val, ?_, ?_⟩
  · simp only [Instr.entry, getObj, Sem.run_bind, Sem.run, hr, hb, Result.andThen, hback, bne_self_eq_false, Bool.false_eq_true, if_false, hf]
    rfl
  · rw [hkv.1, hkv.2, hpk, hpv]; exact hK

theorem range_stop (h : Hp S w0 w its) {i b r N : Nat} {done : List κ} (hi : its[i]? = some (tRan b r ek ev g N done)) : Hp S w0 w (its.set i (tMp b ek ev g)) :=
  h.less hi rfl (fun w O hO => by
    obtain ⟨rfl, hbr, es, clock, l, seen, last, ⟨hb, hes, hst, hnd, hg⟩, _⟩ := hO
    exact ⟨[b], ⟨l, ⟨⟨es, clock, hb, hes, hst⟩, rfl⟩, hnd, hg⟩, by simp⟩) rfl

end Hp
namespace Hp
variable {S : List Nat} {w0 w : World} {its : List Thing}
end Hp
end Go.Den
end

section
set_option linter.unusedSimpArgs false
set_option linter.unusedVariables false
set_option maxRecDepth 100000
namespace Go.Proofs.Ytcccjgmekakabaa.FW
open Go.Proofs.Ytcccjgmekakabaa.F
open Go Go.Den Go.Proofs
open Go.Proofs.Ytcccjgmekakabaa.FI (PoolM tPool)
open Go.Proofs.Ytcccjgmekakabaa.FT (TabM tTab Ent entV ent ent_len atI keyEnt iv iv_len)
theorem und58 : Try.prog.underlying 58 = some (.map 3 3) := by kernel_rfl

theorem nodup_sub {α : Type} [DecidableEq α] : ∀ (L M : List α), L.Nodup → (∀ x ∈ L, x ∈ M) → L.length ≤ M.length
  | [], _, _, _ => by simp
  | x :: L, M, hnd, h => by
    have hn := List.nodup_cons.1 hnd
    have h1 := nodup_sub L (M.erase x) hn.2 (fun y hy => (List.mem_erase_of_ne (fun e => hn.1 (by rw [← e]; exact hy))).2 (h y (List.mem_cons_of_mem _ hy)))
    have hm := h x (by simp)
    rw [List.length_erase_of_mem hm] at h1
    have : 0 < M.length := List.length_pos_of_mem hm
    simp only [List.length_cons]
    omega

/-- Who lives with this set of kinds. -/
def WA.who (a : WA) (s : Int) : List Ent := a.all.filter fun e => decide ((a.row e).map setI = some s)

/-- How many there are of each set. -/
def WA.shape (a : WA) (s : Int) : Option Int := if (a.who s).length = 0 then none else some (((a.who s).length : Nat) : Int)

theorem allU_mem (m : PoolM) {e : Ent} (h1 : m.lives e.1 = true) (h2 : m.gen e.1 = e.2) (h0 : 0 ≤ e.1) : ∀ k : Nat, e.1 < k → e ∈ m.allU k
  | 0, hk => by omega
  | k + 1, hk => by
    unfold PoolM.allU
    by_cases he : e.1 = (k : Int)
    · rw [← he, if_pos h1, h2]; simp
    · have := allU_mem m h1 h2 h0 k (by omega)
      split
      · exact List.mem_append_left _ this
      · exact this

theorem all_mem {a : WA} (hok : a.Ok) {e : Ent} : e ∈ a.all ↔ (a.row e).isSome = true := by
  constructor
  · intro he
    obtain ⟨p, hp⟩ := all_lives hok he
    rw [hp]; rfl
  · intro he
    rw [hok.liv e] at he
    obtain ⟨h1, h2⟩ := PoolM.is_iff.1 he
    obtain ⟨h3, h4⟩ := FI.lives_lt' hok.pok h1
    exact allU_mem a.pool h1 h2 h3 _ h4

theorem all_nodup (a : WA) : a.all.Nodup := by
  rw [List.nodup_iff_pairwise_ne]
  refine List.Pairwise.imp (fun {x y} h e => ?_) (FI.allU_get a.pool a.pool.gens.length).2
  rw [e] at h; omega

theorem who_mem {a : WA} (hok : a.Ok) {s : Int} {e : Ent} : e ∈ a.who s ↔ ∃ p, a.row e = some p ∧ setI p = s := by
  unfold WA.who
  rw [List.mem_filter, all_mem hok, decide_eq_true_eq]
  constructor
  · rintro ⟨_, h⟩
    obtain ⟨p, hp, rfl⟩ := Option.map_eq_some_iff.1 h
    exact ⟨p, hp, rfl⟩
  · rintro ⟨p, hp, rfl⟩
    exact ⟨by rw [hp]; rfl, by rw [hp]; rfl⟩

theorem shape_tab {a : WA} (hok : a.Ok) {T : List (Int × TabM)} (ht : Tabs a.ks a.row a.m.sets T) {s : Int} {t : TabM} (hm : (s, t) ∈ T) : a.shape s = some ((t.rows.length : Nat) : Int) := by
  obtain ⟨tk, tn, tne, tr⟩ := ht.tok _ hm
  have h1 : t.owners.length ≤ (a.who s).length := nodup_sub _ _ tk.nd (fun e he => by
    obtain ⟨r, hr, rfl⟩ := List.mem_map.1 he
    obtain ⟨p, hp, hs, _⟩ := tr r hr
    exact (who_mem hok).2 ⟨p, hp, hs⟩)
  have h2 : (a.who s).length ≤ t.owners.length := nodup_sub _ _ ((all_nodup a).filter _) (fun e he => by
    obtain ⟨p, hp, hs⟩ := (who_mem hok).1 he
    obtain ⟨t', g1, g2⟩ := ht.has e p hp
    obtain ⟨i, hi⟩ := List.getElem?_of_mem hm
    obtain ⟨j, hj⟩ := List.getElem?_of_mem g1
    have : j = i := (List.getElem?_inj (i := j) (j := i) (l := T.map (·.1)) (by simpa using (List.getElem?_eq_some_iff.1 hj).1) ht.nd).1 (by rw [List.getElem?_map, List.getElem?_map, hi, hj]; simp [hs])
    subst this
    rw [hi] at hj
    have := Option.some.inj hj
    rw [Prod.mk.injEq] at this
    rw [← this.2] at g2
    exact List.mem_map.2 ⟨_, g2, rfl⟩)
  rw [TabM.owners_len] at h1 h2
  have h3 : 0 < t.rows.length := List.length_pos_iff.2 tne
  unfold WA.shape
  rw [if_neg (by omega)]
  congr 2
  omega

theorem shape_none {a : WA} (hok : a.Ok) {T : List (Int × TabM)} (ht : Tabs a.ks a.row a.m.sets T) {s : Int} (hm : ∀ x ∈ T, x.1 ≠ s) : a.shape s = none := by
  unfold WA.shape
  rw [if_pos]
  rw [List.length_eq_zero_iff, List.eq_nil_iff_forall_not_mem]
  intro e he
  obtain ⟨p, hp, hs⟩ := (who_mem hok).1 he
  obtain ⟨t', g1, g2⟩ := ht.has e p hp
  exact hm _ g1 hs

theorem Tabs.same {ks : KD} {row : Ent → Option PL} {sets : Ent → Option Int} {T T' : List (Int × TabM)} (h : Tabs ks row sets T) (hnd : (T'.map (·.1)).Nodup) (hin : ∀ x, x ∈ T' ↔ x ∈ T) : Tabs ks row sets T' :=
  ⟨h.sets, hnd, fun x hx => h.tok x ((hin x).1 hx), fun e p hp => by
    obtain ⟨t, h1, h2⟩ := h.has e p hp
    exact ⟨t, (hin _).2 h1, h2⟩, h.fit⟩

section
variable {S : List Nat} {w0 w : World} {its : List Thing}
theorem len_tab (h : Hp S w0 w its) (i : Nat) {T : List TT} {k tb : Nat} {set : Int} {t : TabM} (hi : (its[i]?).map Thing.holds = some (tAll (T.map tT)).holds) (hk : T[k]? = some (set, tb, t)) {K : Int → World → Prop} (hK : K t.rows.length w) : c61 (some ⟨tb, 0, none⟩) w K :=
  FT.Len_spec (ro_tab h i hi hk) 0 rfl hK

theorem tabs_get {q : WH} (hnd : (q.tabs.map (·.1)).Nodup) {set : Int} {tb : Nat} (h : tptr q.T set = some tb) : ∃ (k : Nat) (t : TabM), q.T[k]? = some (set, tb, t) ∧ (set, t) ∈ q.tabs := by
  obtain ⟨k, t, hk⟩ := tptr_some h
  exact ⟨k, t, hk, List.mem_map.2 ⟨_, List.mem_of_getElem? hk, rfl⟩⟩

set_option maxHeartbeats 1000000 in
theorem Shapes_W (h : Hp S w0 w its) (i : Nat) {b : Nat} {a : WA} (hi : its[i]? = some (tW b a)) {K : Option Nat → World → Prop}
    (hK : ∀ ob w', Hp S w0 w' (its ++ [tMp ob (Value.int .i64) (Value.int .i64) a.shape]) → K (some ob) w') : c22 (some ⟨b, 0, none⟩) w K := by
  refine c22_of ?_
  unfold f22
  obtain ⟨O, h1, back⟩ := h.f1 hi rfl
  clear h
  obtain ⟨q, hok, ht, hk, h⟩ := W_open h1
  refine h.nwMap fun ob w1 h => ?_
  have h := h.newMp (i := 8) (Value.int .i64) (Value.int .i64) rfl
  refine nns ?_
  refine h.ld (n := 3) (k := .m) (x := some q.mt) 0 rfl rfl ?_
  refine h.range_start (ek := Value.int .i64) (ev := pv) (g := tptr q.T) 6 rfl und99 fun r N w2 h => ?_
  refine ⟨fun mm w' => ∃ (done : List Int) (f : Int → Option Int), mm = N - done.length ∧ (∀ s, f s = if s ∈ done then a.shape s else none) ∧ Hp O w w' [q.blk b, tEmp, tSl q.sk 94 2 kdv q.xs, tAll (q.xs.map tF), tPool 149 q.pb a.m.pool, tMp q.ms entV (Value.int .i64) a.m.sets, tRan q.mt r (Value.int .i64) pv (tptr q.T) N done, tAll (q.T.map tT), tMp ob (Value.int .i64) (Value.int .i64) f],
    ⟨N, [], fun _ => none, rfl, fun s => by simp, h⟩, ?_⟩
  clear h
  rintro mm w3 ⟨done, f, rfl, hf, h⟩
  refine h.range_next 6 rfl (fun hall hN h => ?_) fun k v x1 x2 w4 hg hno hlt h => ?_
  · have h := h.range_stop (i := 6) rfl
    have ef : f = a.shape := by
      funext s
      rw [hf s]
      split
      · rfl
      · rename_i hs
        symm
        refine shape_none hok ht fun x hx he => hs (hall s ?_)
        obtain ⟨y, hy, rfl⟩ := List.mem_map.1 hx
        have he : y.1 = s := he
        cases hp : tptr q.T s with
        | some tb => rfl
        | none => exact absurd he (tptr_none hp y hy)
    rw [ef] at h
    exact hK ob _ (W_fin hi back (rest := [tMp ob (Value.int .i64) (Value.int .i64) a.shape]) rfl (W_shut (u := tEmp) (m := a.m) (q := q) (rest := [_]) hok ht hk rfl rfl h))
  · obtain ⟨ki, t, hkT, htm⟩ := tabs_get ht.nd hg
    refine h.range_entry (k := k) (v := v) 6 rfl hg ?_
    show c61 (some ⟨v, 0, none⟩) _ _
    refine len_tab h 7 rfl hkT ?_
    refine h.update (ek := Value.int .i64) (ev := Value.int .i64) (g := f) (k := k) (v := (t.rows.length : Nat)) 8 rfl rfl und58 key3 rfl fun w5 h => ?_
    refine ⟨N - (done.length + 1), by omega, done ++ [k], upd1 f k (some ((t.rows.length : Nat) : Int)), by simp, fun s => ?_, h⟩
    unfold upd1
    by_cases hs : s = k
    · rw [if_pos hs, if_pos (by simp [hs]), hs, shape_tab hok ht htm]
    · rw [if_neg hs, hf s]
      by_cases hd : s ∈ done
      · rw [if_pos hd, if_pos (by simp [hd])]
      · rw [if_neg hd, if_neg (by simp [hd, hs])]

theorem view_int {n : Int} {R : Int → World → Prop} (h : R n w) : viewRet [.one (.i .i64)] (Value.int .i64 n) R w := h

end
end Go.Proofs.Ytcccjgmekakabaa.FW
end

section
set_option linter.unusedSimpArgs false
set_option linter.unusedVariables false
set_option maxRecDepth 100000
namespace Go.Proofs.Ytcccjgmekakabaa.FW
open Go.Proofs.Ytcccjgmekakabaa.F
open Go Go.Den Go.Proofs
open Go.Proofs.Ytcccjgmekakabaa.FI (PoolM tPool pk bv)
open Go.Proofs.Ytcccjgmekakabaa.FT (TabM tTab Ent entV ent ent_len atI keyEnt iv iv_len)
open Go.Proofs.Ytcccjgmekakabaa.FP (putU zig encZ rowU tB putU_len encZ_len R64)
theorem take_good {m : PoolM} {L A : List Ent} {k : Nat} (hm : m.Ok) (h : FI.Good m L A k) :
    (m.takeM.2.2 = 0 ∧ m.takeM.2.1 ∉ A ∧ FI.Good m.takeM.1 (L ++ [m.takeM.2.1]) (A ++ [m.takeM.2.1]) (k + 1) ∧ (L.length : Int) < m.most ∧ m.takeM.1.most = m.most) ∨ (m.takeM.2.2 = 40 ∧ (L.length : Int) = m.most) := by
  unfold PoolM.takeM
  cases hf : m.free with
  | cons i rest =>
    obtain ⟨h1, h2, h3⟩ := h.takeFree hm hf
    exact .inl ⟨rfl, h1, h2, h3, rfl⟩
  | nil =>
    by_cases hl : (m.gens.length : Int) < m.most
    · obtain ⟨h1, h2, h3⟩ := h.takeNew hm hf hl
      simp only [if_pos hl]
      exact .inl ⟨trivial, h1, h2, h3, rfl⟩
    · simp only [if_neg hl]
      have := hm.le
      exact .inr ⟨trivial, h.full hf (by omega)⟩

theorem partL_kind (what v : Int) (hw : -9223372036854775808 ≤ what) : 1 ≤ (partL what v).1 ∧ (partL what v).1 ≤ 4 := by
  obtain ⟨p0, p4⟩ := FI.pk_range (c := what) (n := 4) hw (by decide)
  show 1 ≤ pk what 4 + 1 ∧ pk what 4 + 1 ≤ 4
  omega

abbrev Deed := Int × Int × Int × Int

abbrev ddv (x : Deed) : List Value := [.int .i64 x.1, .int .i64 x.2.1, .int .i64 x.2.2.1, .int .i64 x.2.2.2]

theorem ddv_len (x : Deed) : (ddv x).length = 4 := rfl

theorem und61 : Try.prog.underlying 61 = some (.slice 4) := by kernel_rfl

theorem und35 : Try.prog.underlying 35 = some (.slice 43) := by kernel_rfl

section
variable {S : List Nat} {w0 w : World} {its : List Thing}
set_option maxHeartbeats 2000000 in
theorem shown_spec (h0 : Hp S w0 w its) {K : Bool → World → Prop} (hK : ∀ w', Hp S w0 w' its → K true w') : c7 w K := by
  refine c7_of ?_
  unfold f7
  have h := Hp.begin_ w
  refine usual_spec h fun sk w1 h => ?_
  refine New_W h 0 (s := sk) (l := usualK) rfl (by decide) (fun x hx => ?_) (fun _ b w2 h => ?_) (fun hno => absurd usual_may hno)
  · simp only [usualK, List.mem_cons, List.not_mem_nil, or_false] at hx
    rcases hx with rfl | rfl | rfl | rfl
    · exact ⟨by decide, by decide⟩
    · exact ⟨by decide, by decide⟩
    · exact ⟨by decide, by decide⟩
    · exact ⟨by decide, by decide⟩
  refine ifF (by simp) ?_
  refine h.nwS (l := [(7 : Int)]) (f := iv) (n := 1) (c := [_]) rfl rfl iv_len fun b1 w3 h => ?_
  refine h.nwS (l := [(1 : Int), 2]) (f := iv) (n := 1) (c := [_, _]) rfl rfl iv_len fun b2 w4 h => ?_
  refine h.nwS (l := [((2, ⟨some ⟨b1, 0, none⟩, 1, 1⟩, [7]) : PV), (1, ⟨some ⟨b2, 0, none⟩, 2, 2⟩, [1, 2])]) (f := pdv) (n := 2) (c := [_, _, _, _]) rfl rfl pdv_len fun b3 w5 h => ?_
  have h : Hp [] w w5 ([tKinds sk usualK, tW b (WA.new usualK)] ++ [tSl ⟨some ⟨b1, 0, none⟩, 1, 1⟩ 2 1 iv [7], tSl ⟨some ⟨b2, 0, none⟩, 2, 2⟩ 2 1 iv [1, 2]] ++ [tSl ⟨some ⟨b3, 0, none⟩, 2, 2⟩ 40 2 pdv [((2, ⟨some ⟨b1, 0, none⟩, 1, 1⟩, [7]) : PV), (1, ⟨some ⟨b2, 0, none⟩, 2, 2⟩, [1, 2])]]) := h
  have h := h.swap2
  rw [List.append_assoc] at h
  have h := h.nest_make (vis := pvis) (sub := tV) rfl
  have h : Hp [] w w5 [tKinds sk usualK, tW b (WA.new usualK), tParts ⟨some ⟨b3, 0, none⟩, 2, 2⟩ [(2, [7]), (1, [1, 2])]] := h
  refine Spawn_W h 1 2 (by decide) rfl rfl (by simp) (by simp [R64]) (by decide) fun w6 h => ?_
  rw [ex1]
  have h : Hp [] w w6 [tKinds sk usualK, tW b exA, tParts ⟨some ⟨b3, 0, none⟩, 2, 2⟩ [(2, [7]), (1, [1, 2])]] := h
  refine h.nw (c := [_, _]) fun ab w7 h => ?_
  refine h.st0 3 rfl (by simp) rfl fun w8 h => ?_
  refine h.st (n := 1) 3 rfl (by simp) rfl fun w9 h => ?_
  have h := h.nest_nil 40 2 pdv tV pvis
  refine Spawn_W h 1 4 (by decide) (a := exA) rfl rfl (by simp) (by simp) (by decide) fun w10 h => ?_
  rw [ex2]
  have h : Hp [] w w10 [tKinds sk usualK, tW b exB, tParts ⟨some ⟨b3, 0, none⟩, 2, 2⟩ [(2, [7]), (1, [1, 2])], tBlk ab 43 [.int .i64 0, .int .i64 1], tParts ⟨none, 0, 0⟩ []] := h
  refine h.nw (c := [_, _]) fun bb w11 h => ?_
  refine h.st0 5 rfl (by simp) rfl fun w12 h => ?_
  refine h.st (n := 1) 5 rfl (by simp) rfl fun w13 h => ?_
  refine h.ld0 (k := .i .i64) (x := (1 : Int)) 5 rfl rfl ?_
  refine h.ld (n := 1) (k := .i .i64) (x := (1 : Int)) 5 rfl rfl ?_
  have h := h.nil 2 1 iv
  have h : Hp [] w w13 [tKinds sk usualK, tW b exB, tParts ⟨some ⟨b3, 0, none⟩, 2, 2⟩ [(2, [7]), (1, [1, 2])], tBlk ab 43 [.int .i64 0, .int .i64 1], tParts ⟨none, 0, 0⟩ [], tBlk bb 43 [.int .i64 1, .int .i64 1], tSl ⟨none, 0, 0⟩ 2 1 iv []] := h
  refine Add_W h 1 6 (by decide) (e := (1, 1)) (kind := 3) (v := []) (a := exB) rfl rfl (by decide) (by decide) (by simp [R64]) fun w14 h => ?_
  rw [ex3]
  have h : Hp [] w w14 [tKinds sk usualK, tW b exC, tParts ⟨some ⟨b3, 0, none⟩, 2, 2⟩ [(2, [7]), (1, [1, 2])], tBlk ab 43 [.int .i64 0, .int .i64 1], tParts ⟨none, 0, 0⟩ [], tBlk bb 43 [.int .i64 1, .int .i64 1], tSl ⟨none, 0, 0⟩ 2 1 iv []] := h
  refine h.ld0 (k := .i .i64) (x := (1 : Int)) 5 rfl rfl ?_
  refine h.ld (n := 1) (k := .i .i64) (x := (1 : Int)) 5 rfl rfl ?_
  refine Add_W h 1 6 (by decide) (e := (1, 1)) (kind := 3) (v := []) (a := exC) rfl rfl (by decide) (by decide) (by simp [R64]) fun w15 h => ?_
  rw [ex4]
  have h : Hp [] w w15 [tKinds sk usualK, tW b exD, tParts ⟨some ⟨b3, 0, none⟩, 2, 2⟩ [(2, [7]), (1, [1, 2])], tBlk ab 43 [.int .i64 0, .int .i64 1], tParts ⟨none, 0, 0⟩ [], tBlk bb 43 [.int .i64 1, .int .i64 1], tSl ⟨none, 0, 0⟩ 2 1 iv []] := h
  refine h.ld0 (k := .i .i64) (x := (0 : Int)) 3 rfl rfl ?_
  refine h.ld (n := 1) (k := .i .i64) (x := (1 : Int)) 3 rfl rfl ?_
  refine Despawn_W h 1 (e := (0, 1)) (a := exD) rfl fun w16 h => ?_
  rw [ex5]
  have h : Hp [] w w16 [tKinds sk usualK, tW b exE, tParts ⟨some ⟨b3, 0, none⟩, 2, 2⟩ [(2, [7]), (1, [1, 2])], tBlk ab 43 [.int .i64 0, .int .i64 1], tParts ⟨none, 0, 0⟩ [], tBlk bb 43 [.int .i64 1, .int .i64 1], tSl ⟨none, 0, 0⟩ 2 1 iv []] := h
  refine ifT rfl (ifT rfl ?_)
  refine h.ld0 (k := .i .i64) (x := (0 : Int)) 3 rfl rfl ?_
  refine h.ld (n := 1) (k := .i .i64) (x := (1 : Int)) 3 rfl rfl ?_
  refine FT.eqEnt (ifT rfl ?_)
  refine h.ld0 (k := .i .i64) (x := (1 : Int)) 5 rfl rfl ?_
  refine h.ld (n := 1) (k := .i .i64) (x := (1 : Int)) 5 rfl rfl ?_
  refine FT.eqEnt (ifT rfl ?_)
  refine ifT rfl (ifT rfl (ifT rfl ?_))
  refine Snapshot_W h 1 (a := exE) rfl fun s w17 h => ?_
  refine h.rdb 7 (u := tB s exE.snap) rfl Hp.rdSl ⟨#[2, 0, 2, 2, 1, 0, 0, 8]⟩ ex6.symm ?_
  have := h0.r0 (rest := []) rfl (h.trim 0)
  rw [List.append_nil] at this
  have e : ((⟨#[2, 0, 2, 2, 1, 0, 0, 8]⟩ : ByteArray).toList == (⟨#[2, 0, 2, 2, 1, 0, 0, 8]⟩ : ByteArray).toList) = true := by simp
  rw [e]
  exact hK w17 this

/-- What is known of all that were given. -/
structure Stale (a : WA) (A : List Ent) (O : List Bool) (living : Int) (k : Nat) : Prop where
  ks : a.ks = usualK
  most : a.pool.most = 200
  good : ∃ L, FI.Good a.pool L A k ∧ living = L.length
  len : O.length = A.length
  on : ∀ (j : Nat) (x : Ent) (o : Bool), A[j]? = some x → O[j]? = some o → o = a.pool.is x.1 x.2
  nd : A.Nodup

end
end Go.Proofs.Ytcccjgmekakabaa.FW
end

section
set_option linter.unusedSimpArgs false
set_option linter.unusedVariables false
set_option maxRecDepth 100000
namespace Go.Proofs.Ytcccjgmekakabaa.FW
open Go.Proofs.Ytcccjgmekakabaa.F
open Go Go.Den Go.Proofs
open Go.Proofs.Ytcccjgmekakabaa.FI (PoolM tPool pk)
open Go.Proofs.Ytcccjgmekakabaa.FT (TabM tTab Ent entV ent ent_len atI keyEnt iv iv_len)
def RdP (w : World) (s : Sl) (l : List Part) : Prop := ∃ xs : List PV, xs.map pvis = l ∧ (∃ o, SlR w s 2 pdv xs o) ∧ ∀ x ∈ xs, ∃ o, SlR w x.2.1 1 iv x.2.2 o

def RdW (w : World) (s : Sl) (l : List RowT) : Prop := ∃ xs : List RV, xs.map rvis = l ∧ (∃ o, SlR w s 3 rdv xs o) ∧ ∀ x ∈ xs, RdP w x.2.1 x.2.2

theorem SlR.keep {α : Type} {f : α → List Value} {n : Nat} {w w' : World} {s : Sl} {l : List α} (h : ∃ o, SlR w s n f l o) (hf : Fr [] w w') : ∃ o, SlR w' s n f l o := by
  obtain ⟨o, h⟩ := h
  exact ⟨o, h.fr hf (by simp)⟩

theorem RdP.keep {w w' : World} {s : Sl} {l : List Part} (h : RdP w s l) (hf : Fr [] w w') : RdP w' s l := by
  obtain ⟨xs, h1, h2, h3⟩ := h
  exact ⟨xs, h1, SlR.keep h2 hf, fun x hx => SlR.keep (h3 x hx) hf⟩

theorem RdW.keep {w w' : World} {s : Sl} {l : List RowT} (h : RdW w s l) (hf : Fr [] w w') : RdW w' s l := by
  obtain ⟨xs, h1, h2, h3⟩ := h
  exact ⟨xs, h1, SlR.keep h2 hf, fun x hx => (h3 x hx).keep hf⟩

theorem tAll_see {ts : List Thing} {t : Thing} {w : World} {O : List Nat} (h : (tAll ts).holds w O) (hm : t ∈ ts) : ∃ O', t.holds w O' := by
  obtain ⟨k, hk⟩ := List.getElem?_of_mem hm
  obtain ⟨O1, _, h1, _⟩ := tAll_pick hk h
  exact ⟨O1, h1⟩

theorem rdP_of {w : World} {s : Sl} {l : List Part} {O : List Nat} (h : (tParts s l).holds w O) : RdP w s l := by
  obtain ⟨xs, h1, O1, O2, h2, h3, _⟩ := h
  refine ⟨xs, h1, ⟨_, SlF.toR h2⟩, fun x hx => ?_⟩
  obtain ⟨O', h4⟩ := tAll_see h3 (List.mem_map.2 ⟨x, hx, rfl⟩)
  exact ⟨O', SlF.toR h4⟩

theorem rdW_of {w : World} {s : Sl} {l : List RowT} {O : List Nat} (h : (tRows s l).holds w O) : RdW w s l := by
  obtain ⟨xs, h1, O1, O2, h2, h3, _⟩ := h
  refine ⟨xs, h1, ⟨_, SlF.toR h2⟩, fun x hx => ?_⟩
  obtain ⟨O', h4⟩ := tAll_see h3 (List.mem_map.2 ⟨x, hx, rfl⟩)
  exact rdP_of h4

theorem dr0 {w : World} {K : World → Prop} (hK : ∀ w', Fr [] w w' → K w') : Dr w K := hK _ (Fr.refl [] w).drew

theorem eqL_step {α : Type} {l m : List α} {k : Nat} (h : l.take k = m.take k) (hl : k < l.length) (hm : k < m.length) (he : l[k] = m[k]) : l.take (k + 1) = m.take (k + 1) := by
  rw [List.take_succ_eq_append_getElem hl, List.take_succ_eq_append_getElem hm, h, he]

theorem sameValues_spec {a b : Sl} {la lb : List Int} {w : World} (ha : ∃ o, SlR w a 1 iv la o) (hb : ∃ o, SlR w b 1 iv lb o) (hla : la.length ≤ 1000000000) {K : Bool → World → Prop} (hK : ∀ w', Fr [] w w' → K (decide (la = lb)) w') : c97 a b w K := by
  refine c97_of ?_
  unfold f97
  have e1 : la.length = a.len := by obtain ⟨o, h⟩ := ha; exact h.1
  have e2 : lb.length = b.len := by obtain ⟨o, h⟩ := hb; exact h.1
  by_cases hl : a.len = b.len
  · refine ifF (by simp [hl]) ?_
    refine ⟨fun i mm w' => ∃ k : Nat, i = k ∧ k ≤ la.length ∧ mm = la.length - k ∧ la.take k = lb.take k ∧ Fr [] w w', ⟨la.length, 0, rfl, by omega, rfl, by simp, Fr.refl _ _⟩, ?_⟩
    rintro i mm w1 ⟨k, rfl, hk, rfl, heq, hf⟩
    by_cases hlt : k < la.length
    · refine ifT (by simp; omega) ?_
      refine dr0 fun w2 hf2 => ?_
      have hf := hf.trans hf2 (by simp)
      have hltb : k < lb.length := by omega
      obtain ⟨oa, ha2⟩ := SlR.keep ha hf
      obtain ⟨ob, hb2⟩ := SlR.keep hb hf
      refine SlR.ix iv_len ha2 (by omega) (x := la[k]) (by simp [hlt]) fun ad hc => ?_
      refine ldR0 (k := .i .i64) (x := la[k]) (hc 0 (by omega)) rfl ?_
      refine SlR.ix iv_len hb2 (by omega) (x := lb[k]) (by simp [hltb]) fun ad2 hc2 => ?_
      refine ldR0 (k := .i .i64) (x := lb[k]) (hc2 0 (by omega)) rfl ?_
      by_cases he : la[k] = lb[k]
      · exact ifF (by simp [he]) ⟨la.length - (k + 1), by omega, k + 1, by rw [wr64 (by omega) (by omega)]; omega, by omega, rfl, eqL_step heq hlt hltb he, hf⟩
      · refine ifT (by simp [he]) ?_
        have := hK w2 hf
        rwa [decide_eq_false (fun e => he (by simp [e]))] at this
    · refine ifF (by simp; omega) ?_
      have := hK w1 hf
      rw [List.take_of_length_le (by omega), List.take_of_length_le (by omega)] at heq
      rwa [decide_eq_true heq] at this
  · refine ifT (by simp; omega) ?_
    have := hK w (Fr.refl _ _)
    rwa [decide_eq_false (fun e => hl (by rw [← e1, ← e2, e]))] at this

theorem sameParts_spec {a b : Sl} {la lb : List Part} {w : World} (ha : RdP w a la) (hb : RdP w b lb) (hla : la.length ≤ 1000000000) (hv : ∀ x ∈ la, x.2.length ≤ 1000000000) {K : Bool → World → Prop} (hK : ∀ w', Fr [] w w' → K (decide (la = lb)) w') : c58 a b w K := by
  refine c58_of ?_
  unfold f58
  obtain ⟨xa, a1, a2, a3⟩ := ha
  obtain ⟨xb, b1, b2, b3⟩ := hb
  have e1 : xa.length = a.len := by obtain ⟨o, h⟩ := a2; exact h.1
  have e2 : xb.length = b.len := by obtain ⟨o, h⟩ := b2; exact h.1
  have e3 : la.length = xa.length := by rw [← a1, List.length_map]
  have e4 : lb.length = xb.length := by rw [← b1, List.length_map]
  by_cases hl : a.len = b.len
  · refine ifF (by simp [hl]) ?_
    refine ⟨fun i mm w' => ∃ k : Nat, i = k ∧ k ≤ la.length ∧ mm = la.length - k ∧ la.take k = lb.take k ∧ Fr [] w w', ⟨la.length, 0, rfl, by omega, rfl, by simp, Fr.refl _ _⟩, ?_⟩
    rintro i mm w1 ⟨k, rfl, hk, rfl, heq, hf⟩
    by_cases hlt : k < la.length
    · refine ifT (by simp; omega) ?_
      refine dr0 fun w2 hf2 => ?_
      have hf := hf.trans hf2 (by simp)
      have hltb : k < lb.length := by omega
      have hxa : xa[k]? = some (xa[k]'(by omega)) := List.getElem?_eq_getElem _
      have hxb : xb[k]? = some (xb[k]'(by omega)) := List.getElem?_eq_getElem _
      have g1 : la[k] = pvis (xa[k]'(by omega)) := by simp [← a1]
      have g2 : lb[k] = pvis (xb[k]'(by omega)) := by simp [← b1]
      have va := a3 _ (List.mem_of_getElem? hxa)
      have vb := b3 _ (List.mem_of_getElem? hxb)
      have hvk := hv la[k] (List.getElem_mem hlt)
      rw [g1] at hvk
      generalize xa[k]'(by omega) = x at hxa g1 va hvk
      generalize xb[k]'(by omega) = y at hxb g2 vb
      obtain ⟨oa, ha2⟩ := SlR.keep a2 hf
      obtain ⟨ob, hb2⟩ := SlR.keep b2 hf
      refine SlR.ix pdv_len ha2 (by omega) (x := x) (by rw [Int.toNat_natCast]; exact hxa) fun ad hc => ?_
      refine ldR (k := .sl) (x := x.2.1) (hc 1 (by omega)) rfl ?_
      refine SlR.ix pdv_len hb2 (by omega) (x := y) (by rw [Int.toNat_natCast]; exact hxb) fun ad2 hc2 => ?_
      refine ldR (k := .sl) (x := y.2.1) (hc2 1 (by omega)) rfl ?_
      refine sameValues_spec (SlR.keep va hf) (SlR.keep vb hf) hvk fun w3 hf3 => ?_
      refine dr0 fun w4 hf4 => ?_
      have hf := (hf.trans hf3 (by simp)).trans hf4 (by simp)
      by_cases hv : x.2.2 = y.2.2
      · rw [decide_eq_true hv]
        refine ifF (by simp) ?_
        obtain ⟨oa, ha3⟩ := SlR.keep a2 hf
        obtain ⟨ob, hb3⟩ := SlR.keep b2 hf
        refine SlR.ix pdv_len ha3 (by omega) (x := x) (by rw [Int.toNat_natCast]; exact hxa) fun ad hc => ?_
        refine ldR0 (k := .i .i64) (x := x.1) (hc 0 (by omega)) rfl ?_
        refine SlR.ix pdv_len hb3 (by omega) (x := y) (by rw [Int.toNat_natCast]; exact hxb) fun ad2 hc2 => ?_
        refine ldR0 (k := .i .i64) (x := y.1) (hc2 0 (by omega)) rfl ?_
        by_cases he : x.1 = y.1
        · refine ifF (by simp [he]) ⟨la.length - (k + 1), by omega, k + 1, by rw [wr64 (by omega) (by omega)]; omega, by omega, rfl, eqL_step heq hlt hltb ?_, hf⟩
          rw [g1, g2]
          exact Prod.ext he hv
        · refine ifT (by simp [he]) ?_
          have := hK w4 hf
          rwa [decide_eq_false (fun e => he (by
            have : la[k] = lb[k] := by simp [e]
            rw [g1, g2] at this
            exact (Prod.mk.inj this).1))] at this
      · rw [decide_eq_false hv]
        refine ifT rfl ?_
        have := hK w4 hf
        rwa [decide_eq_false (fun e => hv (by
          have : la[k] = lb[k] := by simp [e]
          rw [g1, g2] at this
          exact (Prod.mk.inj this).2))] at this
    · refine ifF (by simp; omega) ?_
      have := hK w1 hf
      rw [List.take_of_length_le (by omega), List.take_of_length_le (by omega)] at heq
      rwa [decide_eq_true heq] at this
  · refine ifT (by simp; omega) ?_
    have := hK w (Fr.refl _ _)
    rwa [decide_eq_false (fun e => hl (by rw [← e1, ← e2, ← e3, ← e4, e]))] at this

theorem sameRows_spec {a b : Sl} {la lb : List RowT} {w : World} (ha : RdW w a la) (hb : RdW w b lb) (hla : la.length ≤ 1000000000) (hv : ∀ x ∈ la, x.2.length ≤ 1000000000 ∧ ∀ y ∈ x.2, y.2.length ≤ 1000000000) {K : Bool → World → Prop} (hK : ∀ w', Fr [] w w' → K (decide (la = lb)) w') : c20 a b w K := by
  refine c20_of ?_
  unfold f20
  obtain ⟨xa, a1, a2, a3⟩ := ha
  obtain ⟨xb, b1, b2, b3⟩ := hb
  have e1 : xa.length = a.len := by obtain ⟨o, h⟩ := a2; exact h.1
  have e2 : xb.length = b.len := by obtain ⟨o, h⟩ := b2; exact h.1
  have e3 : la.length = xa.length := by rw [← a1, List.length_map]
  have e4 : lb.length = xb.length := by rw [← b1, List.length_map]
  by_cases hl : a.len = b.len
  · refine ifF (by simp [hl]) ?_
    refine ⟨fun i mm w' => ∃ k : Nat, i = k ∧ k ≤ la.length ∧ mm = la.length - k ∧ la.take k = lb.take k ∧ Fr [] w w', ⟨la.length, 0, rfl, by omega, rfl, by simp, Fr.refl _ _⟩, ?_⟩
    rintro i mm w1 ⟨k, rfl, hk, rfl, heq, hf⟩
    by_cases hlt : k < la.length
    · refine ifT (by simp; omega) ?_
      refine dr0 fun w2 hf2 => ?_
      have hf := hf.trans hf2 (by simp)
      have hltb : k < lb.length := by omega
      have hxa : xa[k]? = some (xa[k]'(by omega)) := List.getElem?_eq_getElem _
      have hxb : xb[k]? = some (xb[k]'(by omega)) := List.getElem?_eq_getElem _
      have g1 : la[k] = rvis (xa[k]'(by omega)) := by simp [← a1]
      have g2 : lb[k] = rvis (xb[k]'(by omega)) := by simp [← b1]
      have va := a3 _ (List.mem_of_getElem? hxa)
      have vb := b3 _ (List.mem_of_getElem? hxb)
      have hvk := hv la[k] (List.getElem_mem hlt)
      rw [g1] at hvk
      generalize xa[k]'(by omega) = x at hxa g1 va hvk
      generalize xb[k]'(by omega) = y at hxb g2 vb
      obtain ⟨oa, ha2⟩ := SlR.keep a2 hf
      obtain ⟨ob, hb2⟩ := SlR.keep b2 hf
      refine SlR.ix rdv_len ha2 (by omega) (x := x) (by rw [Int.toNat_natCast]; exact hxa) fun ad hc => ?_
      refine ldR (k := .sl) (x := x.2.1) (hc 2 (by omega)) rfl ?_
      refine SlR.ix rdv_len hb2 (by omega) (x := y) (by rw [Int.toNat_natCast]; exact hxb) fun ad2 hc2 => ?_
      refine ldR (k := .sl) (x := y.2.1) (hc2 2 (by omega)) rfl ?_
      refine sameParts_spec (va.keep hf) (vb.keep hf) hvk.1 hvk.2 fun w3 hf3 => ?_
      refine dr0 fun w4 hf4 => ?_
      have hf := (hf.trans hf3 (by simp)).trans hf4 (by simp)
      by_cases hv : x.2.2 = y.2.2
      · rw [decide_eq_true hv]
        refine ifF (by simp) ?_
        obtain ⟨oa, ha3⟩ := SlR.keep a2 hf
        obtain ⟨ob, hb3⟩ := SlR.keep b2 hf
        refine SlR.ix rdv_len ha3 (by omega) (x := x) (by rw [Int.toNat_natCast]; exact hxa) fun ad hc => ?_
        refine ldR0 (k := .i .i64) (x := x.1.1) (hc 0 (by omega)) rfl ?_
        refine ldR (k := .i .i64) (x := x.1.2) (hc 1 (by omega)) rfl ?_
        refine SlR.ix rdv_len hb3 (by omega) (x := y) (by rw [Int.toNat_natCast]; exact hxb) fun ad2 hc2 => ?_
        refine ldR0 (k := .i .i64) (x := y.1.1) (hc2 0 (by omega)) rfl ?_
        refine ldR (k := .i .i64) (x := y.1.2) (hc2 1 (by omega)) rfl ?_
        refine FT.neEnt ?_
        by_cases he : x.1 = y.1
        · refine ifF (by simp [he]) ⟨la.length - (k + 1), by omega, k + 1, by rw [wr64 (by omega) (by omega)]; omega, by omega, rfl, eqL_step heq hlt hltb ?_, hf⟩
          rw [g1, g2]
          exact Prod.ext he hv
        · refine ifT ?_ ?_
          · have : (x.1.1 == y.1.1 && x.1.2 == y.1.2) = false := by
              cases hh : (x.1.1 == y.1.1 && x.1.2 == y.1.2) with
              | false => rfl
              | true =>
                have := Bool.and_eq_true_iff.1 hh
                exact absurd (Prod.ext (by simpa using this.1) (by simpa using this.2)) he
            rw [this]; rfl
          have := hK w4 hf
          rwa [decide_eq_false (fun e => he (by
            have : la[k] = lb[k] := by simp [e]
            rw [g1, g2] at this
            exact (Prod.mk.inj this).1))] at this
      · rw [decide_eq_false hv]
        refine ifT rfl ?_
        have := hK w4 hf
        rwa [decide_eq_false (fun e => hv (by
          have : la[k] = lb[k] := by simp [e]
          rw [g1, g2] at this
          exact (Prod.mk.inj this).2))] at this
    · refine ifF (by simp; omega) ?_
      have := hK w1 hf
      rw [List.take_of_length_le (by omega), List.take_of_length_le (by omega)] at heq
      rwa [decide_eq_true heq] at this
  · refine ifT (by simp; omega) ?_
    have := hK w (Fr.refl _ _)
    rwa [decide_eq_false (fun e => hl (by rw [← e1, ← e2, ← e3, ← e4, e]))] at this

def WA.does (a : WA) (A : List Ent) (d : Deed) : WA × List Ent × Int :=
  if pk d.1 5 = 0 ∨ A = [] then
    ((a.spawn [partL d.2.2.1 d.2.2.2]).1, if (a.spawn [partL d.2.2.1 d.2.2.2]).2.2 = 0 then A ++ [(a.spawn [partL d.2.2.1 d.2.2.2]).2.1] else A, (a.spawn [partL d.2.2.1 d.2.2.2]).2.2)
  else
    let e := A.getD (pk d.2.1 A.length).toNat (0, 0)
    let r := if pk d.1 5 = 1 then a.despawn e else if pk d.1 5 = 2 then a.add e (partL d.2.2.1 d.2.2.2) else if pk d.1 5 = 3 then a.remove e (1 + pk d.2.2.1 4) else a.set e (partL d.2.2.1 d.2.2.2)
    (r.1, A, r.2)

section
variable {S : List Nat} {w0 w : World} {its : List Thing}
set_option maxHeartbeats 4000000 in
theorem does_W (h : Hp S w0 w its) (i j : Nat) (hij : i ≠ j) {b : Nat} {a : WA} {all : Sl} {A : List Ent} {d : Deed} (hi : its[i]? = some (tW b a)) (hj : its[j]? = some (tSl all 43 2 ent A)) (hA : A.length ≤ 1000000)
    (hd1 : -9223372036854775808 ≤ d.1) (hd2 : -9223372036854775808 ≤ d.2.1) (hd3 : -9223372036854775808 ≤ d.2.2.1) {K : Sl → Int → World → Prop}
    (hK : ∀ all' w', Hp S w0 w' ((its.set i (tW b (a.does A d).1)).set j (tSl all' 43 2 ent (a.does A d).2.1)) → K all' (a.does A d).2.2 w') : c15 (some ⟨b, 0, none⟩) all d.1 d.2.1 d.2.2.1 d.2.2.2 w K := by
  refine c15_of ?_
  unfold f15
  obtain ⟨inf2, i1, i2, i3, i4⟩ := FT.inf32
  obtain ⟨O, h1, back⟩ := h.f2 hij hi hj rfl rfl
  clear h
  have h := h1
  clear h1
  have hAl := h.len (s := all) 1 rfl
  have fin : ∀ {w' : World} {a' : WA} {all' : Sl} {A' : List Ent} {more : List Thing}, Hp O w w' ([tW b a', tSl all' 43 2 ent A'] ++ more) → Hp S w0 w' ((its.set i (tW b a')).set j (tSl all' 43 2 ent A')) := fun {w' a' all' A' more} h => by
    have := back (rest := []) rfl rfl rfl h.front
    rwa [List.append_nil] at this
  refine h.nw (c := [_, _, _, _]) fun db w1 h => ?_
  refine h.ld0 (k := .i .i64) (x := d.1) 2 rfl rfl ?_
  refine FI.pick_spec (by decide) ?_
  obtain ⟨p0, p5⟩ := FI.pk_range (c := d.1) (n := 5) hd1 (by decide)
  have hd : pk d.1 5 = 0 ∨ A = [] ∨ (pk d.1 5 ≠ 0 ∧ 0 < A.length) := by
    by_cases h0 : pk d.1 5 = 0
    · exact .inl h0
    · cases A with
      | nil => exact .inr (.inl rfl)
      | cons x l => exact .inr (.inr ⟨h0, by simp⟩)
  by_cases hc : pk d.1 5 = 0 ∨ A = []
  · have hdo : a.does A d = ((a.spawn [partL d.2.2.1 d.2.2.2]).1, if (a.spawn [partL d.2.2.1 d.2.2.2]).2.2 = 0 then A ++ [(a.spawn [partL d.2.2.1 d.2.2.2]).2.1] else A, (a.spawn [partL d.2.2.1 d.2.2.2]).2.2) := by unfold WA.does; rw [if_pos hc]
    rw [hdo] at hK
    refine ifT (by rcases hc with hc | hc
                   · simp [hc]
                   · simp [← hAl, hc]) ?_
    refine h.ld (n := 2) (k := .i .i64) (x := d.2.2.1) 2 rfl rfl ?_
    refine h.ld (n := 3) (k := .i .i64) (x := d.2.2.2) 2 rfl rfl ?_
    refine part_spec h hd3 fun vs w10 h => ?_
    obtain ⟨q1, q2⟩ := partL_kind d.2.2.1 d.2.2.2 hd3
    have hpr := partL_rng d.2.2.1 d.2.2.2
    generalize partL d.2.2.1 d.2.2.2 = pt at q1 q2 hpr h hK ⊢
    refine h.nwS (l := [((pt.1, vs, pt.2) : PV)]) (f := pdv) (n := 2) (c := [_, _]) rfl rfl pdv_len fun b5 w11 h => ?_
    have h : Hp O w w11 ([tW b a, tSl all 43 2 ent A, tBlk db 47 [.int .i64 d.1, .int .i64 d.2.1, .int .i64 d.2.2.1, .int .i64 d.2.2.2]] ++ [tSl vs 2 1 iv pt.2] ++ [tSl ⟨some ⟨b5, 0, none⟩, 1, 1⟩ 40 2 pdv [((pt.1, vs, pt.2) : PV)]]) := h
    have h := h.swap2
    rw [List.append_assoc] at h
    have h := h.nest_make (vis := pvis) (sub := tV) (xs := [((pt.1, vs, pt.2) : PV)]) rfl
    have h : Hp O w w11 [tW b a, tSl all 43 2 ent A, tBlk db 47 [.int .i64 d.1, .int .i64 d.2.1, .int .i64 d.2.2.1, .int .i64 d.2.2.2], tParts ⟨some ⟨b5, 0, none⟩, 1, 1⟩ [pt]] := h
    refine Spawn_W h 0 3 (by decide) rfl rfl (fun x hx => ?_) (fun x hx => ?_) (by simp) fun w12 h => ?_
    · simp only [List.mem_singleton] at hx; subst hx; omega
    · simp only [List.mem_singleton] at hx; subst hx; exact hpr
    generalize a.spawn [pt] = sp at h hK ⊢
    obtain ⟨a', e, err⟩ := sp
    dsimp only at h hK ⊢
    refine h.nw (c := [_, _]) fun xb w13 h => ?_
    refine h.st0 4 rfl (by simp) rfl fun w14 h => ?_
    refine h.st (n := 1) 4 rfl (by simp) rfl fun w15 h => ?_
    have h : Hp O w w15 [tW b a', tSl all 43 2 ent A, tBlk db 47 [.int .i64 d.1, .int .i64 d.2.1, .int .i64 d.2.2.1, .int .i64 d.2.2.2], tParts ⟨some ⟨b5, 0, none⟩, 1, 1⟩ [pt], tBlk xb 43 [.int .i64 e.1, .int .i64 e.2]] := h
    by_cases he : err = 0
    · simp only [if_pos he] at hK
      refine ifT (by simp [he]) ?_
      refine h.ld0 (k := .i .i64) (x := e.1) 4 rfl rfl ?_
      refine h.ld (n := 1) (k := .i .i64) (x := e.2) 4 rfl rfl ?_
      refine h.nwapp 1 e (c := [_, _]) rfl ent_len und35 i1 i3 i2 rfl rfl (by simp [ent, Value.oneCell']) (by rw [i4]; omega) (by omega) fun all2 w17 h _ _ => ?_
      exact hK all2 w17 (fin (more := [_, _, _]) h)
    · simp only [if_neg he] at hK
      exact ifF (by simp [he]) (hK all w15 (fin (more := [_, _, _]) h))
  · have hA0 : 0 < A.length := by
      cases A with
      | nil => exact absurd (.inr rfl) hc
      | cons x l => simp
    have hk0 : pk d.1 5 ≠ 0 := fun e => hc (.inl e)
    refine ifF (by simp [hk0]; omega) ?_
    refine h.ld (n := 1) (k := .i .i64) (x := d.2.1) 2 rfl rfl ?_
    refine FI.pick_spec (by omega) ?_
    obtain ⟨r0, r1⟩ := FI.pk_range (c := d.2.1) (n := (all.len : Int)) hd2 (by omega)
    have hdo : a.does A d = (let r := if pk d.1 5 = 1 then a.despawn (A.getD (pk d.2.1 A.length).toNat (0, 0)) else if pk d.1 5 = 2 then a.add (A.getD (pk d.2.1 A.length).toNat (0, 0)) (partL d.2.2.1 d.2.2.2) else if pk d.1 5 = 3 then a.remove (A.getD (pk d.2.1 A.length).toNat (0, 0)) (1 + pk d.2.2.1 4) else a.set (A.getD (pk d.2.1 A.length).toNat (0, 0)) (partL d.2.2.1 d.2.2.2); (r.1, A, r.2)) := by
      unfold WA.does; rw [if_neg hc]
    rw [hAl] at hdo
    generalize pk d.2.1 (all.len : Int) = r at r0 r1 hdo ⊢
    obtain ⟨r, rfl⟩ : ∃ n : Nat, r = n := ⟨r.toNat, by omega⟩
    have hrl : r < A.length := by omega
    have hy : A[r]? = some A[r] := by simp [hrl]
    rw [Int.toNat_natCast, List.getD_eq_getElem?_getD, hy] at hdo
    generalize A[r] = e at hy hdo
    dsimp only [Option.getD_some] at hdo
    refine h.ixr (s := all) (l := A) (f := ent) (n := 2) (e := 43) 1 rfl (by omega) (by rw [Int.toNat_natCast]; exact hy) ent_len fun ad2 hc2 => ?_
    refine ldR0 (k := .i .i64) (x := e.1) (hc2 0 (by omega)) rfl ?_
    refine ldR (k := .i .i64) (x := e.2) (hc2 1 (by omega)) rfl ?_
    refine h.nw (c := [_, _]) fun eb w2 h => ?_
    refine h.st0 3 rfl (by simp) rfl fun w3 h => ?_
    refine h.st (n := 1) 3 rfl (by simp) rfl fun w4 h => ?_
    have h : Hp O w w4 [tW b a, tSl all 43 2 ent A, tBlk db 47 [.int .i64 d.1, .int .i64 d.2.1, .int .i64 d.2.2.1, .int .i64 d.2.2.2], tBlk eb 43 [.int .i64 e.1, .int .i64 e.2]] := h
    refine h.ld0 (k := .i .i64) (x := d.1) 2 rfl rfl ?_
    refine FI.pick_spec (by decide) ?_
    by_cases h1 : pk d.1 5 = 1
    · rw [if_pos h1] at hdo
      rw [hdo] at hK
      refine ifT (by simp [h1]) ?_
      refine h.ld0 (k := .i .i64) (x := e.1) 3 rfl rfl ?_
      refine h.ld (n := 1) (k := .i .i64) (x := e.2) 3 rfl rfl ?_
      refine Despawn_W h 0 (e := e) rfl fun w5 h => ?_
      exact hK all w5 (fin (more := [_, _]) h)
    rw [if_neg h1] at hdo
    refine ifF (by simpa using h1) ?_
    by_cases h2 : pk d.1 5 = 2
    · rw [if_pos h2] at hdo
      rw [hdo] at hK
      refine ifT (by simp [h2]) ?_
      refine h.dr fun w5 h => ?_
      refine h.ld0 (k := .i .i64) (x := e.1) 3 rfl rfl ?_
      refine h.ld (n := 1) (k := .i .i64) (x := e.2) 3 rfl rfl ?_
      refine h.ld (n := 2) (k := .i .i64) (x := d.2.2.1) 2 rfl rfl ?_
      refine h.ld (n := 3) (k := .i .i64) (x := d.2.2.2) 2 rfl rfl ?_
      refine part_spec h hd3 fun vs w6 h => ?_
      obtain ⟨q1, q2⟩ := partL_kind d.2.2.1 d.2.2.2 hd3
      refine ⟨h.cel0 3 rfl rfl, h.cel (n := 1) 3 rfl rfl, ?_⟩
      refine Add_W h 0 4 (by decide) (e := e) (v := (partL d.2.2.1 d.2.2.2).2) rfl rfl (by omega) (by omega) (partL_rng _ _) fun w7 h => ?_
      exact hK all w7 (fin (more := [_, _, _]) h)
    rw [if_neg h2] at hdo
    refine ifF (by simpa using h2) ?_
    by_cases h3 : pk d.1 5 = 3
    · rw [if_pos h3] at hdo
      rw [hdo] at hK
      refine ifT (by simp [h3]) ?_
      refine h.dr fun w5 h => ?_
      refine h.ld0 (k := .i .i64) (x := e.1) 3 rfl rfl ?_
      refine h.ld (n := 1) (k := .i .i64) (x := e.2) 3 rfl rfl ?_
      refine h.ld (n := 2) (k := .i .i64) (x := d.2.2.1) 2 rfl rfl ?_
      refine FI.pick_spec (by decide) ?_
      obtain ⟨t0, t4⟩ := FI.pk_range (c := d.2.2.1) (n := 4) hd3 (by decide)
      refine ⟨h.cel0 3 rfl rfl, h.cel (n := 1) 3 rfl rfl, ?_⟩
      rw [wr64 (n := 1 + pk d.2.2.1 4) (by omega) (by omega)]
      refine Remove_W h 0 (e := e) rfl (by omega) (by omega) fun w6 h => ?_
      exact hK all w6 (fin (more := [_, _]) h)
    rw [if_neg h3] at hdo
    rw [hdo] at hK
    refine ifF (by simpa using h3) ?_
    refine h.dr fun w5 h => ?_
    refine h.ld0 (k := .i .i64) (x := e.1) 3 rfl rfl ?_
    refine h.ld (n := 1) (k := .i .i64) (x := e.2) 3 rfl rfl ?_
    refine h.ld (n := 2) (k := .i .i64) (x := d.2.2.1) 2 rfl rfl ?_
    refine h.ld (n := 3) (k := .i .i64) (x := d.2.2.2) 2 rfl rfl ?_
    refine part_spec h hd3 fun vs w6 h => ?_
    obtain ⟨q1, q2⟩ := partL_kind d.2.2.1 d.2.2.2 hd3
    refine ⟨h.cel0 3 rfl rfl, h.cel (n := 1) 3 rfl rfl, ?_⟩
    refine Set_W h 0 4 (by decide) (e := e) (v := (partL d.2.2.1 d.2.2.2).2) rfl rfl Hp.rdSl (by omega) (by omega) (partL_rng _ _) fun w7 h => ?_
    exact hK all w7 (fin (more := [_, _, _]) h)

end
end Go.Proofs.Ytcccjgmekakabaa.FW
end

section
set_option linter.unusedSimpArgs false
set_option linter.unusedVariables false
set_option maxRecDepth 100000
namespace Go.Proofs.Ytcccjgmekakabaa.FW
open Go.Proofs.Ytcccjgmekakabaa.F
open Go Go.Den Go.Proofs
open Go.Proofs.Ytcccjgmekakabaa.FI (PoolM tPool pk fromM)
open Go.Proofs.Ytcccjgmekakabaa.FT (TabM tTab Ent entV ent ent_len atI keyEnt iv iv_len)
open Go.Proofs.Ytcccjgmekakabaa.FP (putU zig zag encZ rowU tB putU_len encZ_len R64 RowOk Acc getU getI getU_put)
theorem RowOk.uniq {bs : List Int} {m : Int} {X X' : List Int} {s s' : Int} (h : RowOk bs m X s) (h' : RowOk bs m X' s') : X = X' ∧ s = s' := by
  by_cases h0 : s = 0
  · by_cases h0' : s' = 0
    · rw [h.1 h0, h'.1 h0', h0, h0']; exact ⟨rfl, rfl⟩
    · have := h.2.2 X' (h'.2.1 h0').1
      exact ⟨this.1, by rw [this.2, (h'.2.1 h0').2]⟩
  · have := h'.2.2 X (h.2.1 h0).1
    exact ⟨this.1.symm, by rw [(h.2.1 h0).2, this.2]⟩

open Classical in
/-- The row with which bytes begin, and how long it is. -/
noncomputable def getR (bs : List Int) (most : Int) : List Int × Int := if h : ∃ p : List Int × Int, RowOk bs most p.1 p.2 then Classical.choose h else ([], 0)

open Classical in
noncomputable def nums (bs : List Int) : Option (List Int × List Int) :=
  if (getR bs 200).2 = 0 ∨ ¬ (∀ x ∈ (getR bs 200).1, 0 ≤ x ∧ x ≤ 1000001) then none else some ((getR bs 200).1, bs.drop (getR bs 200).2.toNat)

def loadVals : Nat → List Int → Option (List Int × List Int)
  | 0, bs => some ([], bs)
  | n + 1, bs => if (getI bs).2 = 0 then none else (loadVals n (bs.drop (getI bs).2.toNat)).map fun r => ((getI bs).1 :: r.1, r.2)

/-- The parts that a set and its numbers make. -/
def plOf (ks : KD) (set : Int) (v : List Int) : PL := (List.range ks.length).map fun i => if bit set (i + 1) = 1 then some ((v.drop (atF ks set i)).take (((ks[i]?).map (·.2.length)).getD 0)) else none

def loadRows (ks : KD) : List Ent → List Int → (Ent → Option PL) → Option ((Ent → Option PL) × List Int)
  | [], bs, row => some (row, bs)
  | e :: es, bs, row =>
    if (getU bs).2 = 0 ∨ (getU bs).1 % 2 = 1 ∨ (getU bs).1 / 2 ^ (ks.length + 1) ≠ 0 then none
    else match loadVals (atF ks (getU bs).1 ks.length) (bs.drop (getU bs).2.toNat) with
      | none => none
      | some r => loadRows ks es r.2 (upd1 row e (some (plOf ks (getU bs).1 r.1)))

noncomputable def load (ks : KD) (bs : List Int) : Option WA × Int :=
  if ¬ mayOk ks then (none, 65) else match nums bs with
  | none => (none, 64)
  | some r1 => match nums r1.2 with
    | none => (none, 64)
    | some r2 => match fromM 200 r1.1 r2.1 with
      | none => (none, 64)
      | some m => match loadRows ks (m.allU m.gens.length) r2.2 (fun _ => none) with
        | none => (none, 64)
        | some r => if r.2 = [] then (some ⟨ks, m, r.1⟩, 0) else (none, 64)

section
variable {S : List Nat} {w0 w : World} {its : List Thing}
end
end Go.Proofs.Ytcccjgmekakabaa.FW
end

section
set_option linter.unusedSimpArgs false
set_option linter.unusedVariables false
set_option maxRecDepth 100000
namespace Go.Proofs.Ytcccjgmekakabaa.FW
open Go.Proofs.Ytcccjgmekakabaa.F
open Go Go.Den Go.Proofs
open Go.Proofs.Ytcccjgmekakabaa.FI (PoolM tPool pk fromM)
open Go.Proofs.Ytcccjgmekakabaa.FT (TabM tTab Ent entV ent ent_len atI keyEnt iv iv_len)
open Go.Proofs.Ytcccjgmekakabaa.FP (putU zig zag encZ rowU tB putU_len encZ_len R64 RowOk Acc getU getI getU_put rowU_bytes putU_bytes encZ_bytes)
theorem snap_bytes (a : WA) : Bytes a.snap := by
  intro x hx
  unfold WA.snap at hx
  rcases List.mem_append.1 hx with hx | hx
  · rcases List.mem_append.1 hx with hx | hx
    · exact rowU_bytes _ x hx
    · exact rowU_bytes _ x hx
  · obtain ⟨e, _, hx⟩ := List.mem_flatMap.1 hx
    unfold snapRow at hx
    rcases List.mem_append.1 hx with hx | hx
    · exact putU_bytes (setI_nn _) x hx
    · exact encZ_bytes _ x hx

theorem spawn_ks (a : WA) (ps : List Part) : (a.spawn ps).1.ks = a.ks := by
  unfold WA.spawn
  split
  · rfl
  · split <;> rfl

theorem does_ks (a : WA) (A : List Ent) (d : Deed) : (a.does A d).1.ks = a.ks := by
  unfold WA.does
  split
  · exact spawn_ks a _
  · dsimp only
    split
    · unfold WA.despawn; split <;> rfl
    · split
      · unfold WA.add; repeat' split
        all_goals rfl
      · split
        · unfold WA.remove; repeat' split
          all_goals rfl
        · unfold WA.set; repeat' split
          all_goals rfl

theorem does_len (a : WA) (A : List Ent) (d : Deed) : (a.does A d).2.1.length ≤ A.length + 1 := by
  unfold WA.does
  split
  · dsimp only
    split <;> simp
  · dsimp only; omega

def Deed.Ok (x : Deed) : Prop := (-9223372036854775808 ≤ x.1 ∧ x.1 ≤ 9223372036854775807) ∧ (-9223372036854775808 ≤ x.2.1 ∧ x.2.1 ≤ 9223372036854775807) ∧ (-9223372036854775808 ≤ x.2.2.1 ∧ x.2.2.1 ≤ 9223372036854775807)

theorem usual_sz : ∀ x ∈ usualK, x.1.size ≤ 1000000000000 ∧ ∀ y ∈ x.2, y.size ≤ 1000000000000 := fun x hx => by
  simp only [usualK, List.mem_cons, List.not_mem_nil, or_false] at hx
  rcases hx with rfl | rfl | rfl | rfl
  · exact ⟨by decide, by decide⟩
  · exact ⟨by decide, by decide⟩
  · exact ⟨by decide, by decide⟩
  · exact ⟨by decide, by decide⟩

section
variable {S : List Nat} {w0 w : World} {its : List Thing}
theorem nes_self {x y : Operand} {a b : Int} {w : World} {K : Bool → Prop} (hK : K false) : RunRo .b Try.prog (binSem .neq 43 x y (.agg #[.int .i64 a, .int .i64 b]) (.agg #[.int .i64 a, .int .i64 b])) w K :=
  FT.neEnt (by
    have : (!((a == a) && (b == b))) = false := by simp
    rw [this]; exact hK)

end
end Go.Proofs.Ytcccjgmekakabaa.FW
end

section
set_option linter.unusedSimpArgs false
set_option linter.unusedVariables false
set_option maxRecDepth 100000
namespace Go.Den.Hp
open Go Go.Den
variable {S : List Nat} {w0 w : World} {its : List Thing} {P : Program} {κ ν : Type} [DecidableEq κ] {ek : κ → Value} {ev : ν → Value} {g : κ → Option ν}
/-- How many entries a map has: two that give the same answers have as many. -/
theorem mlen2 (h : Hp S w0 w its) (i j : Nat) {b1 b2 : Nat} {mt kt vt ty : TypeId} {K : Int → Int → Prop} (hi : (its[i]?).map Thing.holds = some (tMp b1 ek ev g).holds) (hj : (its[j]?).map Thing.holds = some (tMp b2 ek ev g).holds) (hm : P.underlying mt = some (.map kt vt))
    (hK : ∀ n, K n n) : RunRo (.i .i64) P (Builtin.len_ #[mt] ty #[.map (some b1)]) w fun n => RunRo (.i .i64) P (Builtin.len_ #[mt] ty #[.map (some b2)]) w fun m => K n m := by
  obtain ⟨O1, l1, ⟨⟨es1, c1, hb1, he1, hs1⟩, _⟩, hn1, hg1⟩ := h.see' hi
  obtain ⟨O2, l2, ⟨⟨es2, c2, hb2, he2, hs2⟩, _⟩, hn2, hg2⟩ := h.see' hj
  have mem : ∀ (l : List (κ × ν)) (k : κ), k ∈ l.map (·.1) ↔ (mget l k).isSome = true := fun l k => by
    rw [mget_eq]
    constructor
    · intro hk
      obtain ⟨p, hp, rfl⟩ := List.mem_map.1 hk
      cases hf : l.find? (fun q => decide (q.1 = p.1)) with
      | none => have := List.find?_eq_none.1 hf p hp; simp at this
      | some q => rfl
    · intro hk
      obtain ⟨v, hv⟩ := Option.isSome_iff_exists.1 hk
      obtain ⟨p, hp, _⟩ := Option.map_eq_some_iff.1 hv
      have := List.find?_some hp
      simp only [decide_eq_true_eq] at this
      exact List.mem_map.2 ⟨p, List.mem_of_find?_eq_some hp, this⟩
  have hl : l1.length = l2.length := by
    have a1 := Go.Proofs.Ytcccjgmekakabaa.FW.nodup_sub (l1.map (·.1)) (l2.map (·.1)) hn1 (fun k hk => by rw [mem] at hk ⊢; rw [hg2, ← hg1]; exact hk)
    have a2 := Go.Proofs.Ytcccjgmekakabaa.FW.nodup_sub (l2.map (·.1)) (l1.map (·.1)) hn2 (fun k hk => by rw [mem] at hk ⊢; rw [hg1, ← hg2]; exact hk)
    simp only [List.length_map] at a1 a2
    omega
  have z1 : es1.size = l1.length := by have := congrArg List.length he1; simpa using this
  have z2 : es2.size = l2.length := by have := congrArg List.length he2; simpa using this
  have run : ∀ (b : Nat) (es : Array MapEntry) (c : Nat), w.heap[b]? = some (.map es c) → ∀ w', Ext w w' → (Builtin.len_ #[mt] ty #[.map (some b)]).run P w' = .ok (.int .i64 es.size) w' := fun b es c hb w' he => by
    have hb' : w'.heap[b]? = some (.map es c) := (he.2 b (Array.getElem?_eq_some_iff.1 hb).1).trans hb
    simp [Builtin.len_, run_underlying hm, Builtin.lenOf, MapKept.run_getObj_map hb', goInt]
  refine ⟨(es1.size : Int), run b1 es1 c1 hb1, (es2.size : Int), run b2 es2 c2 hb2, ?_⟩
  rw [z1, z2, hl]
  exact hK _

end Go.Den.Hp
namespace Go.Proofs.Ytcccjgmekakabaa.FW
open Go.Proofs.Ytcccjgmekakabaa.F
open Go Go.Den Go.Proofs
open Go.Proofs.Ytcccjgmekakabaa.FI (PoolM tPool pk fromM)
open Go.Proofs.Ytcccjgmekakabaa.FT (TabM tTab Ent entV ent ent_len atI keyEnt iv iv_len)
open Go.Proofs.Ytcccjgmekakabaa.FP (putU zig zag encZ rowU tB putU_len encZ_len R64)
def partsFor (c i : Int) (k : Nat) : List Part := (List.range k).filterMap fun j : Nat => if bit c j = 1 then some (partL j i) else none

def someIf (c i : Int) (k : Nat) : Option (List Int) := if bit c k = 1 then some (partL (k : Nat) i).2 else none

def tgt (c i : Int) : PL := (List.range 4).map (someIf c i)

theorem partsFor_succ (c i : Int) (k : Nat) : partsFor c i (k + 1) = partsFor c i k ++ if bit c k = 1 then [partL k i] else [] := by
  unfold partsFor
  rw [List.range_succ, List.filterMap_append]
  congr 1
  by_cases h : bit c k = 1
  · simp [h]
  · simp [h]

theorem put_tgt {c : Int} (h0 : 0 ≤ c) (h1 : c < 16) (i : Int) : putParts usualK (partsFor c i 4) (List.replicate usualK.length none) = (tgt c i, 0) := by
  have : c = 0 ∨ c = 1 ∨ c = 2 ∨ c = 3 ∨ c = 4 ∨ c = 5 ∨ c = 6 ∨ c = 7 ∨ c = 8 ∨ c = 9 ∨ c = 10 ∨ c = 11 ∨ c = 12 ∨ c = 13 ∨ c = 14 ∨ c = 15 := by omega
  rcases this with rfl | rfl | rfl | rfl | rfl | rfl | rfl | rfl | rfl | rfl | rfl | rfl | rfl | rfl | rfl | rfl <;> rfl

theorem partsFor_in {c i : Int} {k : Nat} (hk : k ≤ 4) {x : Part} (hx : x ∈ partsFor c i k) : 1 ≤ x.1 ∧ x.1 ≤ 4 ∧ R64 x.2 := by
  unfold partsFor at hx
  obtain ⟨j, hj, hjx⟩ := List.mem_filterMap.1 hx
  split at hjx
  · obtain rfl := Option.some.inj hjx
    have := partL_kind j i (by omega)
    exact ⟨this.1, this.2, partL_rng _ _⟩
  · cases hjx

theorem partL_small {k : Nat} (hk : k < 4) (i : Int) : (partL k i).1 = ((k + 1 : Nat) : Int) := by
  have : k = 0 ∨ k = 1 ∨ k = 2 ∨ k = 3 := by omega
  rcases this with rfl | rfl | rfl | rfl <;> rfl

theorem partL_cnt {k : Nat} (hk : k < 4) (i : Int) {x : ByteArray × List ByteArray} (hx : usualK[k]? = some x) : (partL k i).2.length = x.2.length := by
  have : k = 0 ∨ k = 1 ∨ k = 2 ∨ k = 3 := by omega
  rcases this with rfl | rfl | rfl | rfl <;> (obtain rfl := Option.some.inj hx; simp [partL]; decide)

/-- The row of somebody of whom so much has been given. -/
def rowD (D : Nat → Bool) (c i : Int) : PL := (List.range 4).map fun k => if D k = true then someIf c i k else none

theorem rowD_get (D : Nat → Bool) (c i : Int) {k : Nat} (hk : k < 4) : (rowD D c i)[k]? = some (if D k = true then someIf c i k else none) := by
  unfold rowD
  rw [List.getElem?_map, List.getElem?_range hk]; rfl

theorem rowD_ext {D D' : Nat → Bool} (c i : Int) (h : ∀ k, k < 4 → D k = D' k) : rowD D c i = rowD D' c i := by
  unfold rowD
  apply List.map_congr_left
  intro k hk
  rw [h k (List.mem_range.1 hk)]

theorem rowD_all (c i : Int) : rowD (fun _ => true) c i = tgt c i := by unfold rowD tgt; simp

theorem rowD_put {D : Nat → Bool} {c i : Int} {k : Nat} (hk : k < 4) (hb : bit c k = 1) : (rowD D c i).set k (some (partL k i).2) = rowD (fun j => D j || decide (j = k)) c i := by
  apply List.ext_getElem?
  intro j
  have hl : (rowD D c i).length = 4 := by simp [rowD]
  rw [List.getElem?_set]
  by_cases hj : j < 4
  · rw [rowD_get _ _ _ hj, rowD_get _ _ _ hj]
    by_cases hjk : k = j
    · subst hjk
      rw [if_pos rfl, if_pos (by omega)]
      simp only [decide_true, Bool.or_true, if_true]
      unfold someIf
      rw [if_pos hb]
    · have : decide (j = k) = false := decide_eq_false (fun e => hjk e.symm)
      rw [if_neg hjk]
      simp [this]
  · have h2 : (rowD (fun j => D j || decide (j = k)) c i).length = 4 := by simp [rowD]
    rw [List.getElem?_eq_none (l := rowD (fun j => D j || decide (j = k)) c i) (by omega)]
    by_cases hjk : k = j
    · omega
    · rw [if_neg hjk, List.getElem?_eq_none (by omega)]

theorem rowD_skip {D : Nat → Bool} {c i : Int} {k : Nat} (hb : bit c k ≠ 1) : rowD D c i = rowD (fun j => D j || decide (j = k)) c i := by
  unfold rowD
  apply List.map_congr_left
  intro j hj
  by_cases hjk : j = k
  · subst hjk
    have : someIf c i j = none := by unfold someIf; rw [if_neg hb]
    rw [this]; simp
  · simp [hjk]

/-- Which kinds have been given to the i-th of N when n steps are done; r: by how much its order is turned. -/
def doneD (N n i r : Nat) (k : Nat) : Bool := (List.range 4).any fun q => decide (4 * N + q * N + i < n) && decide ((q + r) % 4 = k)

theorem doneD_iff {N n i r k : Nat} : doneD N n i r k = true ↔ ∃ q, q < 4 ∧ 4 * N + q * N + i < n ∧ (q + r) % 4 = k := by
  unfold doneD
  rw [List.any_eq_true]
  constructor
  · rintro ⟨q, hq, h⟩
    have := Bool.and_eq_true_iff.1 h
    exact ⟨q, List.mem_range.1 hq, of_decide_eq_true this.1, of_decide_eq_true this.2⟩
  · rintro ⟨q, hq, h1, h2⟩
    exact ⟨q, List.mem_range.2 hq, by rw [decide_eq_true h1, decide_eq_true h2]; rfl⟩

theorem doneD_start {N i r k : Nat} : doneD N (4 * N) i r k = false := by
  cases h : doneD N (4 * N) i r k with
  | false => rfl
  | true =>
    obtain ⟨q, _, h1, _⟩ := doneD_iff.1 h
    omega

theorem doneD_end {N i r k : Nat} (hi : i < N) (hk : k < 4) : doneD N (8 * N) i r k = true := by
  refine doneD_iff.2 ⟨(k + 4 - r % 4) % 4, by omega, ?_, by omega⟩
  have hq : (k + 4 - r % 4) % 4 ≤ 3 := by omega
  have := Nat.mul_le_mul_right N hq
  omega

theorem step_at {N q i : Nat} (hi : i < N) : (4 * N + q * N + i) % N = i ∧ (4 * N + q * N + i) / N = 4 + q := by
  have e : 4 * N + q * N + i = i + N * (4 + q) := by rw [Nat.mul_add, Nat.mul_comm N 4, Nat.mul_comm N q]; omega
  rw [e]
  refine ⟨by rw [Nat.add_mul_mod_self_left, Nat.mod_eq_of_lt hi], ?_⟩
  rw [Nat.add_mul_div_left _ _ (by omega), Nat.div_eq_of_lt hi]; omega

theorem doneD_step {N n r : Nat} (h4 : 4 * N ≤ n) (h8 : n < 8 * N) (hN : 0 < N) {i k : Nat} (hi : i < N) :
    doneD N (n + 1) i r k = (doneD N n i r k || (decide (i = n % N) && decide (k = (n / N % 4 + r) % 4))) := by
  have hn := Nat.div_add_mod n N
  have hm := Nat.mod_lt n hN
  have hq0 : 4 ≤ n / N := (Nat.le_div_iff_mul_le hN).2 (by omega)
  have hq1 : n / N < 8 := (Nat.div_lt_iff_lt_mul hN).2 (by omega)
  obtain ⟨q, hq⟩ : ∃ q, n / N = 4 + q := ⟨n / N - 4, by omega⟩
  have hnq : n = 4 * N + q * N + n % N := by
    rw [hq, Nat.mul_add, Nat.mul_comm N 4, Nat.mul_comm N q] at hn
    omega
  have hm4 : (4 + q) % 4 = q := by omega
  rw [hq, hm4]
  apply Bool.eq_iff_iff.2
  rw [doneD_iff, Bool.or_eq_true, doneD_iff, Bool.and_eq_true, decide_eq_true_eq, decide_eq_true_eq]
  constructor
  · rintro ⟨p, hp, h1, h2⟩
    by_cases hlt : 4 * N + p * N + i < n
    · exact .inl ⟨p, hp, hlt, h2⟩
    · have he : n = 4 * N + p * N + i := by omega
      obtain ⟨s1, s2⟩ := step_at (q := p) hi
      rw [← he] at s1 s2
      have : p = q := by omega
      exact .inr ⟨s1.symm, by rw [← h2, this]⟩
  · rintro (⟨p, hp, h1, h2⟩ | ⟨h1, h2⟩)
    · exact ⟨p, hp, by omega, h2⟩
    · exact ⟨q, by omega, by rw [h1]; omega, h2.symm⟩

theorem doneD_new {N n r : Nat} (h4 : 4 * N ≤ n) (h8 : n < 8 * N) (hN : 0 < N) : doneD N n (n % N) r ((n / N % 4 + r) % 4) = false := by
  have hn := Nat.div_add_mod n N
  have hm := Nat.mod_lt n hN
  have hq0 : 4 ≤ n / N := (Nat.le_div_iff_mul_le hN).2 (by omega)
  have hq1 : n / N < 8 := (Nat.div_lt_iff_lt_mul hN).2 (by omega)
  cases h : doneD N n (n % N) r ((n / N % 4 + r) % 4) with
  | false => rfl
  | true =>
    obtain ⟨p, hp, h1, h2⟩ := doneD_iff.1 h
    obtain ⟨q, hq⟩ : ∃ q, n / N = 4 + q := ⟨n / N - 4, by omega⟩
    have hnq : n = 4 * N + q * N + n % N := by
      rw [hq, Nat.mul_add, Nat.mul_comm N 4, Nat.mul_comm N q] at hn
      omega
    rw [hq] at h2
    have : p = q := by omega
    subst this
    omega

end Go.Proofs.Ytcccjgmekakabaa.FW
end

section
set_option linter.unusedSimpArgs false
set_option linter.unusedVariables false
set_option maxRecDepth 100000
namespace Go.Proofs.Ytcccjgmekakabaa.FW
open Go.Proofs.Ytcccjgmekakabaa.F
open Go Go.Den Go.Proofs
open Go.Proofs.Ytcccjgmekakabaa.FI (PoolM tPool pk fromM)
open Go.Proofs.Ytcccjgmekakabaa.FT (TabM tTab Ent entV ent ent_len atI keyEnt iv iv_len)
open Go.Proofs.Ytcccjgmekakabaa.FP (putU zig zag encZ rowU tB putU_len encZ_len R64)
theorem tmN (a b : Nat) : Int.tmod (a : Int) (b : Int) = ((a % b : Nat) : Int) := by
  rw [Int.tmod_eq_emod_of_nonneg (Int.natCast_nonneg _)]; simp

theorem tdN (a b : Nat) : Int.tdiv (a : Int) (b : Int) = ((a / b : Nat) : Int) := by
  rw [Int.tdiv_eq_ediv_of_nonneg (Int.natCast_nonneg _)]; simp

theorem pk_small {c : Int} (h0 : 0 ≤ c) (h1 : c < 5) : pk c 5 = c := by
  have : c = 0 ∨ c = 1 ∨ c = 2 ∨ c = 3 ∨ c = 4 := by omega
  rcases this with rfl | rfl | rfl | rfl | rfl <;> rfl

theorem does_keep {a : WA} {A : List Ent} {d : Deed} (hA : A ≠ []) (h0 : pk d.1 5 ≠ 0) (h1 : pk d.1 5 ≠ 1) : (a.does A d).2.1 = A ∧ (a.does A d).1.pool = a.pool := by
  unfold WA.does
  rw [if_neg (by rintro (h | h) <;> contradiction)]
  dsimp only
  rw [if_neg h1]
  refine ⟨rfl, ?_⟩
  split
  · unfold WA.add; repeat' split
    all_goals rfl
  · split
    · unfold WA.remove; repeat' split
      all_goals rfl
    · unfold WA.set; repeat' split
      all_goals rfl

/-- What Remove leaves. -/
theorem remove_row {a : WA} {e : Ent} {p : PL} {k : Nat} {x : ByteArray × List ByteArray} (hr : a.row e = some p) (hk : a.ks[k]? = some x) (hl : k < p.length) :
    (a.remove e ((k + 1 : Nat) : Int)).1.pool = a.pool ∧ (a.remove e ((k + 1 : Nat) : Int)).1.ks = a.ks ∧ (a.remove e ((k + 1 : Nat) : Int)).1.row = upd1 a.row e (some (p.set k none)) := by
  have hask := ask_some (a := a) (e := e) hr hk
  unfold WA.remove
  rw [hask, if_neg (by simp)]
  dsimp only
  split
  · rename_i hn
    refine ⟨rfl, rfl, ?_⟩
    funext y
    unfold upd1
    split
    · rename_i hy
      rw [hy, hr]
      congr 1
      symm
      refine Hp.set_same' ?_
      rw [List.getD_eq_getElem?_getD, List.getElem?_eq_getElem hl] at hn
      rw [List.getElem?_eq_getElem hl]
      simpa using hn
    · rfl
  · exact ⟨rfl, rfl, rfl⟩

theorem add_row {a : WA} {e : Ent} {p : PL} {k : Nat} {x : ByteArray × List ByteArray} {v : List Int} (hr : a.row e = some p) (hk : a.ks[k]? = some x) (hn : p.getD k none = none) (hv : v.length = x.2.length) :
    a.add e (((k + 1 : Nat) : Int), v) = (a.put e (p.set k (some v)), 0) := by
  have hask := ask_some (a := a) (e := e) hr hk
  unfold WA.add
  dsimp only
  rw [hask, if_neg (by simp), if_neg (by rw [hn]; simp), if_neg (by simpa using hv)]

/-- The c of the i-th. -/
def cAt (xs : List Int) (j : Nat) : Int := pk (xs.getD j 0) 16

/-- By how much the i-th's order is turned. -/
def rAt (ys : List Int) (j : Nat) : Nat := if ys.length = 0 then 0 else (pk (ys.getD (j % ys.length) 0) 4).toNat

theorem cAt_rng {xs : List Int} (hx : R64 xs) (j : Nat) : 0 ≤ cAt xs j ∧ cAt xs j < 16 := by
  refine FI.pk_range ?_ (by decide)
  rw [List.getD_eq_getElem?_getD]
  cases h : xs[j]? with
  | none => simp
  | some x => simpa using (hx x (List.mem_of_getElem? h)).1

structure Ord1 (xs : List Int) (a b : WA) (A : List Ent) : Prop where
  ka : a.ks = usualK
  kb : b.ks = usualK
  pool : b.pool = a.pool
  most : a.pool.most = 200
  good : FI.Good a.pool A A A.length
  ra : ∀ (j : Nat) (e : Ent), A[j]? = some e → a.row e = some (tgt (cAt xs j) j)
  rb : ∀ e ∈ A, (b.row e).isSome = true
  new : A = [] → a = WA.new usualK

theorem spawn_good {a : WA} (hok : a.Ok) (hm : a.pool.most = 200) {A : List Ent} (hg : FI.Good a.pool A A A.length) (hA : A.length < 40) {ps : List Part} {p : PL} (hp : putParts a.ks ps a.emp = (p, 0)) :
    ∃ e pool', a.pool.takeM.2.2 = 0 ∧ a.pool.takeM.2.1 = e ∧ a.pool.takeM.1 = pool' ∧ a.spawn ps = (⟨a.ks, pool', upd1 a.row e (some p)⟩, e, 0) ∧ e ∉ A ∧ FI.Good pool' (A ++ [e]) (A ++ [e]) (A.length + 1) ∧ pool'.most = 200 := by
  rcases take_good hok.pok hg with ⟨t0, t1, t2, t3, t4⟩ | ⟨t0, t1⟩
  · refine ⟨_, _, t0, rfl, rfl, ?_, t1, t2, t4.trans hm⟩
    unfold WA.spawn
    rw [hp]
    dsimp only
    rw [if_neg (by simp), if_neg (by rw [t0]; simp)]
  · omega

section
variable {S : List Nat} {w0 w : World} {its : List Thing}
set_option maxHeartbeats 8000000 in
theorem order_spec {sets order between : Sl} {xs ys : List Int} {ds : List Deed} {oa ob oc : List Nat} {K : Bool → World → Prop} (has : SlR w sets 1 iv xs oa) (hbs : SlR w order 1 iv ys ob) (hcs : SlR w between 4 ddv ds oc) (hrx : R64 xs) (hry : R64 ys) (hrd : ∀ x ∈ ds, Deed.Ok x)
    (hK : ∀ w', Fr [] w w' → K true w') : c4 sets order between w K := by
  refine c4_of ?_
  unfold f4
  obtain ⟨inf2, i1, i2, i3, i4⟩ := FT.inf32
  obtain ⟨inf4, p1, p2, p3, p4⟩ := inf40
  obtain ⟨infi, n1, n2, n3, n4⟩ := FT.inf3
  have h := Hp.begin_ w
  have h := ((h.addRo (t := tRd sets 1 iv xs) has (by simp)).addRo (t := tRd order 1 iv ys) hbs (by simp)).addRo (t := tRd between 4 ddv ds) hcs (by simp)
  have hxl := h.lenR (s := sets) (n := 1) (f := iv) (l := xs) 0 rfl
  have hyl := h.lenR (s := order) (n := 1) (f := iv) (l := ys) 1 rfl
  have hdl := h.lenR (s := between) (n := 4) (f := ddv) (l := ds) 2 rfl
  refine shown_spec h fun w1 h => ?_
  refine usual_spec h fun sk w2 h => ?_
  refine New_W h 3 (s := sk) (l := usualK) rfl (by decide) usual_sz (fun _ ab w3 h => ?_) (fun hno => absurd usual_may hno)
  refine usual_spec h fun sk2 w4 h => ?_
  refine New_W h 5 (s := sk2) (l := usualK) rfl (by decide) usual_sz (fun _ bb w5 h => ?_) (fun hno => absurd usual_may hno)
  refine ifF (by simp) ?_
  have h := h.nil 43 2 ent
  have h := h.selL [0, 1, 2, 4, 6, 7] (by decide) (ts := [(tRd sets 1 iv xs).ro, (tRd order 1 iv ys).ro, (tRd between 4 ddv ds).ro, tW ab (WA.new usualK), tW bb (WA.new usualK), tSl ⟨none, 0, 0⟩ 43 2 ent []]) rfl
  refine ⟨fun all i mm w' => ∃ (k : Nat) (a b : WA) (A : List Ent), i = k ∧ k ≤ xs.length ∧ k ≤ 40 ∧ mm = xs.length - k ∧ A.length = k ∧ Ord1 xs a b A ∧ Hp [] w w' [(tRd sets 1 iv xs).ro, (tRd order 1 iv ys).ro, (tRd between 4 ddv ds).ro, tW ab a, tW bb b, tSl all 43 2 ent A],
    ⟨xs.length, 0, WA.new usualK, WA.new usualK, [], rfl, by omega, by omega, rfl, rfl, ⟨rfl, rfl, rfl, rfl, FI.Good.new, by simp, by simp, fun _ => rfl⟩, h⟩, ?_⟩
  clear h
  rintro all i mm w6 ⟨k, a, b, A, rfl, hk1, hk2, rfl, hAk, hO, h⟩
  have hAl := h.len (s := all) 5 rfl
  by_cases hlt : k < xs.length ∧ k < 40
  · -- one comes, in both worlds
    refine ifT (by simp; omega) ?_
    have hx : xs[k]? = some xs[k] := by simp [hlt.1]
    have hc : cAt xs k = pk xs[k] 16 := by unfold cAt; rw [List.getD_eq_getElem?_getD, hx]; rfl
    have hcr := cAt_rng hrx k
    have h := h.nest_nil 40 2 pdv tV pvis
    refine ⟨fun l k2 m3 w' => ∃ q : Nat, k2 = q ∧ q ≤ 4 ∧ m3 = 4 - q ∧ Hp [] w w' [(tRd sets 1 iv xs).ro, (tRd order 1 iv ys).ro, (tRd between 4 ddv ds).ro, tW ab a, tW bb b, tSl all 43 2 ent A, tParts l (partsFor (cAt xs k) k q)], ⟨4, 0, rfl, by omega, rfl, h⟩, ?_⟩
    clear h
    rintro l k2 m3 w7 ⟨q, rfl, hq, rfl, h⟩
    have hpl := h.nest_see (s := l) (l := partsFor (cAt xs k) k q) (e := 40) (n := 2) (cells := pdv) (sub := tV) (vis := pvis) 6 rfl
    have hpl4 : (partsFor (cAt xs k) k q).length ≤ q := by unfold partsFor; exact Nat.le_trans (List.length_filterMap_le _ _) (by simp)
    by_cases hq4 : q < 4
    · refine ifT (by simp; omega) ?_
      refine h.ixldR (k := .i .i64) (s := sets) (f := iv) (l := xs) (y := xs[k]) (x := xs[k]) 0 rfl (by omega) (by simp [hlt.1]) iv_len rfl ?_
      refine FI.pick_spec (by decide) ?_
      rw [← hc]
      have hbit := bit_eq (set := cAt xs k) (k := q) hcr.1 (by omega) (by omega)
      refine ⟨by omega, ?_⟩
      by_cases hb : bit (cAt xs k) q = 1
      · refine ifT (by rw [hbit, hb]; rfl) ?_
        refine part_spec h (by omega) fun vs w8 h => ?_
        refine h.nest_app 6 7 (by decide) (((partL q k).1, vs, (partL q k).2) : PV) rfl rfl rfl pdv_len und36 p1 p3 p2 rfl rfl (by simp [pdv, Value.oneCell']) (by rw [p4]; omega) (by omega) fun l2 w9 h _ => ?_
        refine ⟨4 - (q + 1), by omega, q + 1, by rw [wr64 (by omega) (by omega)]; omega, by omega, rfl, ?_⟩
        rw [partsFor_succ, if_pos hb]
        exact h.trim 7
      · refine ifF (by rw [hbit]; simpa using hb) ⟨4 - (q + 1), by omega, q + 1, by rw [wr64 (by omega) (by omega)]; omega, by omega, rfl, ?_⟩
        rw [partsFor_succ, if_neg hb, List.append_nil]
        exact h
    · refine ifF (by simp; omega) ?_
      obtain rfl : q = 4 := by omega
      obtain ⟨hoka, hfa⟩ := tW_ok h 3 rfl
      obtain ⟨hokb, hfb⟩ := tW_ok h 4 rfl
      have hput : putParts a.ks (partsFor (cAt xs k) k 4) a.emp = (tgt (cAt xs k) k, 0) := by
        unfold WA.emp; rw [hO.ka]; exact put_tgt hcr.1 hcr.2 k
      obtain ⟨e, pool', t0, te, tp, hsa, heA, hgood, hmost⟩ := spawn_good hoka hO.most hO.good (by omega) hput
      have hsb : b.spawn [] = (⟨b.ks, pool', upd1 b.row e (some b.emp)⟩, e, 0) := by
        unfold WA.spawn
        rw [hO.pool, t0, te, tp]
        rfl
      refine Spawn_W h 3 6 (by decide) rfl rfl (fun x hx => by have := partsFor_in (Nat.le_refl 4) hx; omega) (fun x hx => (partsFor_in (Nat.le_refl 4) hx).2.2) (by omega) fun w8 h => ?_
      rw [hsa] at h ⊢
      dsimp only at h ⊢
      refine h.nw (c := [_, _]) fun xb w9 h => ?_
      refine h.st0 7 rfl (by simp) rfl fun w10 h => ?_
      refine h.st (n := 1) 7 rfl (by simp) rfl fun w11 h => ?_
      have h := h.nest_nil 40 2 pdv tV pvis
      simp only [List.cons_append, List.nil_append, List.set_cons_zero, List.set_cons_succ] at h
      refine Spawn_W h 4 8 (by decide) (a := b) (ps := []) rfl rfl (by simp) (by simp) (by simp) fun w12 h => ?_
      rw [hsb] at h ⊢
      dsimp only at h ⊢
      refine h.nw (c := [_, _]) fun yb w13 h => ?_
      refine h.st0 9 rfl (by simp) rfl fun w14 h => ?_
      refine h.st (n := 1) 9 rfl (by simp) rfl fun w15 h => ?_
      simp only [List.cons_append, List.nil_append, List.set_cons_zero, List.set_cons_succ] at h
      refine h.ld0 (k := .i .i64) (x := e.1) 7 rfl rfl ?_
      refine h.ld (n := 1) (k := .i .i64) (x := e.2) 7 rfl rfl ?_
      refine h.ld0 (k := .i .i64) (x := e.1) 9 rfl rfl ?_
      refine h.ld (n := 1) (k := .i .i64) (x := e.2) 9 rfl rfl ?_
      refine nes_self (ifF (by simp) ?_)
      refine h.ld0 (k := .i .i64) (x := e.1) 9 rfl rfl ?_
      refine h.ld (n := 1) (k := .i .i64) (x := e.2) 9 rfl rfl ?_
      refine h.nwapp 5 e (c := [_, _]) rfl ent_len und35 i1 i3 i2 rfl rfl (by simp [ent, Value.oneCell']) (by rw [i4]; omega) (by omega) fun all2 w16 h _ _ => ?_
      refine ⟨xs.length - (k + 1), by omega, k + 1, ⟨a.ks, pool', upd1 a.row e (some (tgt (cAt xs k) k))⟩, ⟨b.ks, pool', upd1 b.row e (some b.emp)⟩, A ++ [e], by rw [wr64 (by omega) (by omega)]; omega, by omega, by omega, rfl, by simp [hAk], ⟨hO.ka, hO.kb, rfl, hmost, by rw [List.length_append]; exact hgood, fun j x hx => ?_, fun x hx => ?_, fun hn => by simp at hn⟩, h.trim 6⟩
      · show upd1 a.row e _ x = _
        unfold upd1
        by_cases hj : j < A.length
        · rw [List.getElem?_append_left hj] at hx
          rw [if_neg (fun he => heA (by rw [← he]; exact List.mem_of_getElem? hx))]
          exact hO.ra j x hx
        · rw [List.getElem?_append_right (by omega)] at hx
          have hj0 : j - A.length = 0 := by
            rcases Nat.eq_zero_or_pos (j - A.length) with h | h
            · exact h
            · rw [List.getElem?_eq_none (by simp; omega)] at hx; cases hx
          rw [hj0] at hx
          obtain rfl := Option.some.inj hx
          have : j = k := by omega
          subst this
          rw [if_pos rfl]
      · show (upd1 b.row e _ x).isSome = true
        unfold upd1
        split
        · rfl
        · rename_i hne
          rcases List.mem_append.1 hx with hx | hx
          · exact hO.rb x hx
          · simp only [List.mem_singleton] at hx; exact absurd hx hne
  -- all have come
  refine ifF (by simp; omega) ?_
  have hkk : k = xs.length ∨ k = 40 := by omega
  refine ⟨fun all3 i2 m5 w' => ∃ (k : Nat) (b : WA) (A' : List Ent), i2 = k ∧ k ≤ ds.length ∧ k ≤ 200 ∧ m5 = ds.length - k ∧ (A ≠ [] → A' = A ∧ b.pool = a.pool ∧ b.ks = usualK) ∧ A'.length ≤ 40 ∧ Hp [] w w' [(tRd sets 1 iv xs).ro, (tRd order 1 iv ys).ro, (tRd between 4 ddv ds).ro, tW ab a, tW bb b, tSl all3 43 2 ent A'],
    ⟨ds.length, 0, b, A, rfl, by omega, by omega, rfl, fun _ => ⟨rfl, hO.pool, hO.kb⟩, by omega, h⟩, ?_⟩
  clear h
  rintro all3 i2 m5 w7 ⟨k3, b, A', rfl, hk3, hk4, rfl, hA', hA40, h⟩
  have hAl' := h.len (s := all3) 5 rfl
  by_cases hlt3 : k3 < ds.length ∧ k3 < 200
  · refine ifT (by simp; omega) ?_
    have hx : ds[k3]? = some ds[k3] := by simp [hlt3.1]
    have hxr := hrd ds[k3] (List.getElem_mem hlt3.1)
    generalize ds[k3] = d at hx hxr
    refine h.ixrR (s := between) (l := ds) (f := ddv) (n := 4) 2 rfl (by omega) (by rw [Int.toNat_natCast]; exact hx) ddv_len fun ad hc => ?_
    refine ldR0 (k := .i .i64) (x := d.1) (hc 0 (by omega)) rfl ?_
    refine ldR (k := .i .i64) (x := d.2.1) (hc 1 (by omega)) rfl ?_
    refine ldR (k := .i .i64) (x := d.2.2.1) (hc 2 (by omega)) rfl ?_
    refine ldR (k := .i .i64) (x := d.2.2.2) (hc 3 (by omega)) rfl ?_
    refine h.nw (c := [_, _, _, _]) fun db w8 h => ?_
    refine h.st0 6 rfl (by simp) rfl fun w9 h => ?_
    refine h.st (n := 1) 6 rfl (by simp) rfl fun w10 h => ?_
    refine h.st (n := 2) 6 rfl (by simp) rfl fun w11 h => ?_
    refine h.st (n := 3) 6 rfl (by simp) rfl fun w12 h => ?_
    have h : Hp [] w w12 [(tRd sets 1 iv xs).ro, (tRd order 1 iv ys).ro, (tRd between 4 ddv ds).ro, tW ab a, tW bb b, tSl all3 43 2 ent A', tBlk db 47 [.int .i64 d.1, .int .i64 d.2.1, .int .i64 d.2.2.1, .int .i64 d.2.2.2]] := h
    refine h.ld0 (k := .i .i64) (x := d.1) 6 rfl rfl ?_
    refine FI.pick_spec (by decide) ?_
    obtain ⟨t0, t3⟩ := FI.pk_range (c := d.1) (n := 3) hxr.1.1 (by decide)
    generalize pk d.1 3 = t at t0 t3 ⊢
    refine h.st0 6 rfl (by simp) rfl fun w13 h => ?_
    rw [wr64 (n := 2 + t) (by omega) (by omega)] at h
    refine h.ld0 (k := .i .i64) (x := 2 + t) 6 rfl rfl ?_
    refine h.ld (n := 1) (k := .i .i64) (x := d.2.1) 6 rfl rfl ?_
    refine h.ld (n := 2) (k := .i .i64) (x := d.2.2.1) 6 rfl rfl ?_
    refine h.ld (n := 3) (k := .i .i64) (x := d.2.2.2) 6 rfl rfl ?_
    have hps : pk (2 + t) 5 = 2 + t := pk_small (by omega) (by omega)
    have hkeep : A' ≠ [] → (b.does A' (2 + t, d.2)).2.1 = A' ∧ (b.does A' (2 + t, d.2)).1.pool = b.pool := fun hne => does_keep hne (by show pk (2 + t) 5 ≠ 0; omega) (by show pk (2 + t) 5 ≠ 1; omega)
    have hks := does_ks b A' (2 + t, d.2)
    have hdlen := does_len b A' (2 + t, d.2)
    refine does_W h 4 5 (by decide) (a := b) (A := A') (d := (2 + t, d.2)) rfl rfl (by omega) (by show _ ≤ 2 + t; omega) hxr.2.1.1 hxr.2.2.1 fun all4 w14 h => ?_
    generalize b.does A' (2 + t, d.2) = r at hkeep hks hdlen h ⊢
    obtain ⟨b', A2, err⟩ := r
    dsimp only at hkeep hks hdlen h ⊢
    have hl4 := h.len (s := all4) 5 rfl
    have hA2 : A2.length ≤ 40 := by
      by_cases hne : A' = []
      · rw [hne] at hdlen; simp at hdlen; omega
      · rw [(hkeep hne).1]; exact hA40
    refine ifF (by simp; omega) ⟨ds.length - (k3 + 1), by omega, k3 + 1, b', A2, by rw [wr64 (by omega) (by omega)]; omega, by omega, by omega, rfl, fun hne => ?_, hA2, h.trim 6⟩
    obtain ⟨e1, e2, e3⟩ := hA' hne
    obtain ⟨g1, g2⟩ := hkeep (by rw [e1]; exact hne)
    exact ⟨g1.trans e1, g2.trans e2, hks.trans e3⟩
  refine ifF (by simp; omega) ?_
  by_cases hx0 : xs.length = 0
  · -- nobody at all
    refine ifT (by simp; omega) ?_
    have hA0 : A = [] := List.eq_nil_of_length_eq_zero (by omega)
    have hnew := hO.new hA0
    subst hnew
    have hstr : strL (strOf (WA.new usualK).snap) = (WA.new usualK).snap := strL_of (snap_bytes _)
    refine h.dr fun w8 h => ?_
    refine Snapshot_W h 3 rfl fun s1 w9 h => ?_
    refine h.rdb 6 (u := tB s1 (WA.new usualK).snap) rfl Hp.rdSl (strOf (WA.new usualK).snap) hstr ?_
    refine c17_of ?_
    unfold f17
    refine usual_spec h fun sk3 w10 h => ?_
    refine New_W h 7 (s := sk3) (l := usualK) rfl (by decide) usual_sz (fun _ eb w11 h => ?_) (fun hno => absurd usual_may hno)
    refine ⟨h.bat 6 (u := tB s1 (WA.new usualK).snap) rfl Hp.rdSl (strOf (WA.new usualK).snap) hstr, ?_⟩
    refine Snapshot_W h 8 rfl fun s2 w12 h => ?_
    refine ⟨h.bat 6 (u := tB s1 (WA.new usualK).snap) rfl Hp.rdSl (strOf (WA.new usualK).snap) hstr, ?_⟩
    refine h.rdb 9 (u := tB s2 (WA.new usualK).snap) rfl Hp.rdSl (strOf (WA.new usualK).snap) hstr ?_
    have e : ((strOf (WA.new usualK).snap).toList == (strOf (WA.new usualK).snap).toList) = true := by simp
    rw [e]; exact hK w12 h.1
  refine ifF (by simp; omega) ?_
  have hN : 0 < A.length := by omega
  have hne : A ≠ [] := fun e => by rw [e] at hN; simp at hN
  obtain ⟨rfl, hpool, hkb⟩ := hA' hne
  clear hA' hlt3 hk3 hk4
  obtain ⟨hoka, hfa⟩ := tW_ok h 3 rfl
  have hk4 : usualK.length = 4 := rfl
  have hget4 : ∀ k, k < 4 → ∃ x, usualK[k]? = some x := fun k hk => ⟨usualK[k]'(by rw [hk4]; exact hk), List.getElem?_eq_getElem _⟩
  have hAx : A'.length ≤ xs.length := by omega
  have hAnd : A'.Nodup := hO.good.nd
  have hAinj : ∀ (i j : Nat) (e : Ent), A'[i]? = some e → A'[j]? = some e → i = j := fun i j e hi hj => (List.getElem?_inj (i := i) (j := j) (List.getElem?_eq_some_iff.1 hi).1 hAnd).1 (by rw [hi, hj])
  have hrr4 : ∀ j, rAt ys j < 4 := fun j => by
    unfold rAt
    split
    · omega
    · have := FI.pk_range (c := ys.getD (j % ys.length) 0) (n := 4) (by
        rw [List.getD_eq_getElem?_getD]
        cases h : ys[j % ys.length]? with
        | none => simp
        | some x => simpa using (hry x (List.mem_of_getElem? h)).1) (by decide)
      omega
  obtain ⟨P1, hP1⟩ : ∃ P1 : Nat → WA → Prop, P1 = fun n b => ∀ (j : Nat) (e : Ent) (k : Nat) (p : PL), A'[j]? = some e → k < 4 → k * A'.length + j < n → b.row e = some p → p.getD k none = none := ⟨_, rfl⟩
  obtain ⟨P2, hP2⟩ : ∃ P2 : Nat → WA → Prop, P2 = fun n b => ∀ (j : Nat) (e : Ent), A'[j]? = some e → b.row e = some (rowD (doneD A'.length n j (rAt ys j)) (cAt xs j) j) := ⟨_, rfl⟩
  refine ⟨fun n_ m7 w' => ∃ (n : Nat) (b : WA), n_ = n ∧ n ≤ 8 * A'.length ∧ m7 = 8 * A'.length - n ∧ b.pool = a.pool ∧ b.ks = usualK ∧ ((n ≤ 4 * A'.length ∧ P1 n b) ∨ (4 * A'.length ≤ n ∧ P2 n b)) ∧ Hp [] w w' [(tRd sets 1 iv xs).ro, (tRd order 1 iv ys).ro, (tRd between 4 ddv ds).ro, tW ab a, tW bb b, tSl all3 43 2 ent A'],
    ⟨8 * A'.length, 0, b, rfl, by omega, rfl, hpool, hkb, .inl ⟨by omega, by rw [hP1]; intro j e k p _ _ h; omega⟩, h⟩, ?_⟩
  clear h hpool hkb
  rintro n_ m7 w8 ⟨n, b, rfl, hn8, rfl, hpool, hkb, hPP, h⟩
  obtain ⟨hokb, hfb⟩ := tW_ok h 4 rfl
  have hlive : ∀ e, e ∈ A' → (b.row e).isSome = true := fun e he => by rw [hokb.liv, hpool]; exact (hO.good.mem e).1 he
  have h2 : 4 * A'.length ≤ n → P2 n b := fun h4 => by
    rcases hPP with ⟨h1, hp⟩ | ⟨_, hp⟩
    · have hn4 : n = 4 * A'.length := by omega
      rw [hP1] at hp
      rw [hP2, hn4]
      intro j e hj
      obtain ⟨p, hpr⟩ := Option.isSome_iff_exists.1 (hlive e (List.mem_of_getElem? hj))
      have hpf := hfb e p hpr
      have hpl : p.length = 4 := by rw [hpf.1, hkb]; rfl
      have hjl := (List.getElem?_eq_some_iff.1 hj).1
      rw [hpr]
      congr 1
      apply List.ext_getElem?
      intro q
      by_cases hq : q < 4
      · rw [rowD_get _ _ _ hq, doneD_start]
        have hqN : q * A'.length ≤ 3 * A'.length := Nat.mul_le_mul_right _ (by omega)
        have := hp j e q p hj hq (by omega) hpr
        rw [List.getD_eq_getElem?_getD, List.getElem?_eq_getElem (by omega)] at this
        rw [List.getElem?_eq_getElem (by omega)]
        simpa using this
      · rw [List.getElem?_eq_none (by omega), List.getElem?_eq_none (by simp [rowD]; omega)]
    · exact hp
  have hw8 : IntKind.i64.wrap (8 * (all3.len : Int)) = ((8 * A'.length : Nat) : Int) := by rw [wr64 (by omega) (by omega)]; omega
  have hw4 : IntKind.i64.wrap (4 * (all3.len : Int)) = ((4 * A'.length : Nat) : Int) := by rw [wr64 (by omega) (by omega)]; omega
  rw [hw8, hw4]
  by_cases hnlt : n < 8 * A'.length
  · refine ifT (by simp; omega) ⟨by omega, by omega, by decide, ?_⟩
    have hall : (all3.len : Int) = (A'.length : Nat) := by omega
    rw [hall, tmN, tdN]
    have hi := Nat.mod_lt n hN
    have hdiv : n / A'.length < 8 := (Nat.div_lt_iff_lt_mul hN).2 hnlt
    have hwd : IntKind.i64.wrap ((n / A'.length : Nat) : Int) = ((n / A'.length : Nat) : Int) := by
      generalize n / A'.length = dv at hdiv ⊢
      exact wr64 (by omega) (by omega)
    rw [hwd]
    have htm4 : Int.tmod ((n / A'.length : Nat) : Int) 4 = ((n / A'.length % 4 : Nat) : Int) := tmN _ 4
    rw [htm4]
    obtain ⟨kk, hkk0⟩ : ∃ kk : Nat, kk = if 4 * A'.length ≤ n then (n / A'.length % 4 + rAt ys (n % A'.length)) % 4 else n / A'.length % 4 := ⟨_, rfl⟩
    have hkk4 : kk < 4 := by rw [hkk0]; split <;> omega
    have hy : A'[n % A'.length]? = some (A'[n % A'.length]'hi) := List.getElem?_eq_getElem _
    have hxc : xs[n % A'.length]? = some (xs[n % A'.length]'(by omega)) := List.getElem?_eq_getElem _
    have hcc : cAt xs (n % A'.length) = pk (xs[n % A'.length]'(by omega)) 16 := by unfold cAt; rw [List.getD_eq_getElem?_getD, hxc]; rfl
    have hcr := cAt_rng hrx (n % A'.length)
    refine ⟨fun k2 w' => k2 = ((kk : Nat) : Int) ∧ w' = w8, ?_, ?_⟩
    · by_cases hcond : 4 * A'.length ≤ n ∧ 0 < ys.length
      · refine ifT (by simp; omega) ⟨by omega, ?_⟩
        have hoy : (order.len : Int) = (ys.length : Nat) := by omega
        rw [hoy, tmN]
        have hyi := Nat.mod_lt (n % A'.length) hcond.2
        have hyy : ys[n % A'.length % ys.length]? = some (ys[n % A'.length % ys.length]'hyi) := List.getElem?_eq_getElem _
        have hrr : rAt ys (n % A'.length) = (pk (ys[n % A'.length % ys.length]'hyi) 4).toNat := by
          unfold rAt
          rw [if_neg (by omega), List.getD_eq_getElem?_getD, hyy]; rfl
        have hyr := (hry _ (List.getElem_mem hyi)).1
        generalize ys[n % A'.length % ys.length]'hyi = yv at hyy hrr hyr
        have := h.ixldR (k := .i .i64) (s := order) (f := iv) (l := ys) (y := yv) (x := yv) (j := ((n % A'.length % ys.length : Nat) : Int)) (K := fun x5 => c12 x5 4 w8 fun (r9 : Int) (w : World) => (4 : Int) ≠ 0 ∧ (Int.tmod (IntKind.i64.wrap (((n / A'.length % 4 : Nat) : Int) + r9)) 4 = ((kk : Nat) : Int) ∧ w = w8)) 1 rfl (by omega) (by rw [Int.toNat_natCast]; exact hyy) iv_len rfl (by
          refine FI.pick_spec (by decide) ⟨by decide, ?_, rfl⟩
          obtain ⟨g0, g1⟩ := FI.pk_range (c := yv) (n := 4) hyr (by decide)
          have e : pk yv 4 = ((rAt ys (n % A'.length) : Nat) : Int) := by rw [hrr]; omega
          rw [e, wr64 (by omega) (by omega)]
          have e2 : ((n / A'.length % 4 : Nat) : Int) + ((rAt ys (n % A'.length) : Nat) : Int) = ((n / A'.length % 4 + rAt ys (n % A'.length) : Nat) : Int) := by omega
          rw [e2, show (4 : Int) = ((4 : Nat) : Int) from rfl, tmN, hkk0, if_pos hcond.1])
        exact this
      · refine ifF (by simp; omega) ⟨?_, rfl⟩
        rw [hkk0]
        split
        · rename_i h4
          have h0 : ys.length = 0 := by omega
          have : rAt ys (n % A'.length) = 0 := by unfold rAt; rw [if_pos h0]
          rw [this]; omega
        · rfl
    rintro k2 _ ⟨rfl, rfl⟩
    by_cases hph : n < 4 * A'.length
    · -- it is taken away
      have hkkn : kk = n / A'.length := by
        have : n / A'.length < 4 := (Nat.div_lt_iff_lt_mul hN).2 hph
        rw [hkk0, if_neg (by omega)]; exact Nat.mod_eq_of_lt this
      refine ifT (by simp; omega) ?_
      generalize A'[n % A'.length]'hi = e at hy
      refine h.ixr (s := all3) (l := A') (f := ent) (n := 2) (e := 43) 5 rfl (by omega) (by rw [Int.toNat_natCast]; exact hy) ent_len fun ad2 hc2 => ?_
      refine ldR0 (k := .i .i64) (x := e.1) (hc2 0 (by omega)) rfl ?_
      refine ldR (k := .i .i64) (x := e.2) (hc2 1 (by omega)) rfl ?_
      have hw1 : IntKind.i64.wrap (((kk : Nat) : Int) + 1) = ((kk + 1 : Nat) : Int) := by rw [wr64 (by omega) (by omega)]; omega
      rw [hw1]
      obtain ⟨p, hpr⟩ := Option.isSome_iff_exists.1 (hlive e (List.mem_of_getElem? hy))
      have hpf := hfb e p hpr
      have hpl : p.length = 4 := by rw [hpf.1, hkb]; rfl
      obtain ⟨ux, hux⟩ := hget4 kk hkk4
      obtain ⟨g1, g2, g3⟩ := remove_row hpr (k := kk) (x := ux) (by rw [hkb]; exact hux) (by omega)
      refine Remove_W h 4 (a := b) (e := e) rfl (by omega) (by omega) fun w9 h => ?_
      refine ⟨8 * A'.length - (n + 1), by omega, n + 1, (b.remove e ((kk + 1 : Nat) : Int)).1, by rw [wr64 (by omega) (by omega)]; omega, by omega, rfl, g1.trans hpool, g2.trans hkb, .inl ⟨by omega, ?_⟩, h⟩
      have hp1 : P1 n b := by
        rcases hPP with ⟨_, hp⟩ | ⟨h4, _⟩
        · exact hp
        · omega
      rw [hP1] at hp1 ⊢
      intro j e' k' p' hj hk' hlt' hr'
      rw [g3] at hr'
      unfold upd1 at hr'
      by_cases hee : e' = e
      · rw [if_pos hee] at hr'
        obtain rfl := Option.some.inj hr'
        subst hee
        have hjn := hAinj j _ e' hj hy
        rw [getD_setL]
        by_cases hkk' : kk = k'
        · rw [if_pos ⟨hkk', by omega⟩]
        · rw [if_neg (fun hh => hkk' hh.1)]
          refine hp1 j e' k' p hj hk' ?_ hpr
          have hnm := Nat.div_add_mod n A'.length
          rw [← hkkn] at hnm
          have : k' * A'.length + j ≠ n := fun he => hkk' (by
            have h1 : (k' * A'.length + j) / A'.length = k' := by
              rw [Nat.add_comm, Nat.add_mul_div_right _ _ hN, Nat.div_eq_of_lt (by omega)]; omega
            rw [he] at h1
            omega)
          omega
      · rw [if_neg hee] at hr'
        refine hp1 j e' k' p' hj hk' ?_ hr'
        have hjl := (List.getElem?_eq_some_iff.1 hj).1
        have : k' * A'.length + j ≠ n := fun he => hee (by
          have h1 : (k' * A'.length + j) % A'.length = j := by
            rw [Nat.add_comm, Nat.add_mul_mod_self_right, Nat.mod_eq_of_lt hjl]
          rw [he] at h1
          rw [← h1, hy] at hj
          exact (Option.some.inj hj).symm)
        omega
    · -- it is given
      have h4 : 4 * A'.length ≤ n := by omega
      have hp2 := h2 h4
      rw [hP2] at hp2
      rw [if_pos h4] at hkk0
      refine ifF (by simp; omega) ?_
      generalize xs[n % A'.length]'(by omega) = xv at hxc hcc
      refine h.ixldR (k := .i .i64) (s := sets) (f := iv) (l := xs) (y := xv) (x := xv) 0 rfl (by omega) (by rw [Int.toNat_natCast]; exact hxc) iv_len rfl ?_
      refine FI.pick_spec (by decide) ?_
      rw [← hcc]
      have hbit := bit_eq (set := cAt xs (n % A'.length)) (k := kk) hcr.1 (by omega) (by omega)
      refine ⟨by omega, ?_⟩
      have hrowe := hp2 _ _ hy
      by_cases hb : bit (cAt xs (n % A'.length)) kk = 1
      · refine ifT (by rw [hbit, hb]; rfl) ?_
        refine h.dr fun w9 h => ?_
        generalize hge : A'[n % A'.length]'hi = e at hy hrowe
        have hsee := h.ixr (s := all3) (l := A') (f := ent) (n := 2) (e := 43) (j := ((n % A'.length : Nat) : Int)) (y := e) 5 rfl (by omega) (by rw [Int.toNat_natCast]; exact hy) ent_len (K := fun ad => w9.cell? (ad.add 0) = some (.int .i64 e.1) ∧ w9.cell? (ad.add 1) = some (.int .i64 e.2)) fun ad hc => ⟨hc 0 (by omega), hc 1 (by omega)⟩
        refine h.ixk 5 (u := tSl all3 43 2 ent A') rfl Hp.rdSl (by omega) (by rw [Int.toNat_natCast]; exact hi) fun ax hax => ?_
        refine h.ldk0 5 (u := tSl all3 43 2 ent A') (k := .i .i64) (v := e.1) rfl Hp.rdSl hax ent_len (by rw [Int.toNat_natCast]; exact hy) rfl ?_
        refine h.ldk 5 (u := tSl all3 43 2 ent A') (k := .i .i64) (v := e.2) rfl Hp.rdSl hax ent_len (by rw [Int.toNat_natCast]; exact hy) rfl ?_
        refine part_spec h (by omega) fun vs w10 h => ?_
        refine ⟨h.celk0 5 (u := tSl all3 43 2 ent A') rfl Hp.rdSl hax ent_len (by rw [Int.toNat_natCast]; exact hy) rfl, h.celk 5 (u := tSl all3 43 2 ent A') rfl Hp.rdSl hax ent_len (by rw [Int.toNat_natCast]; exact hy) rfl, ?_⟩
        obtain ⟨ux, hux⟩ := hget4 kk hkk4
        have hnone : (rowD (doneD A'.length n (n % A'.length) (rAt ys (n % A'.length))) (cAt xs (n % A'.length)) (n % A'.length : Nat)).getD kk none = none := by
          rw [List.getD_eq_getElem?_getD, rowD_get _ _ _ hkk4, hkk0, doneD_new h4 hnlt hN]; rfl
        have hadd := add_row (v := (partL kk ((n % A'.length : Nat) : Int)).2) hrowe (k := kk) (x := ux) (by rw [hkb]; exact hux) hnone (partL_cnt hkk4 _ hux)
        have hpk := partL_small hkk4 ((n % A'.length : Nat) : Int)
        rw [hpk]
        refine Add_W h 4 6 (by decide) (a := b) (e := e) (v := (partL kk ((n % A'.length : Nat) : Int)).2) rfl rfl (by omega) (by omega) (partL_rng _ _) fun w11 h => ?_
        rw [hadd] at h ⊢
        refine ifF (by simp) ⟨8 * A'.length - (n + 1), by omega, n + 1, b.put e ((rowD (doneD A'.length n (n % A'.length) (rAt ys (n % A'.length))) (cAt xs (n % A'.length)) (n % A'.length : Nat)).set kk (some (partL kk ((n % A'.length : Nat) : Int)).2)), by rw [wr64 (by omega) (by omega)]; omega, by omega, rfl, hpool, hkb, .inr ⟨by omega, ?_⟩, h.trim 6⟩
        rw [hP2]
        intro j e' hj
        have hjl := (List.getElem?_eq_some_iff.1 hj).1
        show upd1 b.row e _ e' = _
        unfold upd1
        by_cases hee : e' = e
        · subst hee
          obtain rfl := hAinj j _ e' hj hy
          rw [if_pos rfl, rowD_put hkk4 hb]
          congr 1
          refine rowD_ext _ _ fun q hq => ?_
          rw [doneD_step h4 hnlt hN hjl, decide_eq_true rfl, Bool.true_and, hkk0]
        · rw [if_neg hee, hp2 j e' hj]
          congr 1
          refine rowD_ext _ _ fun q hq => ?_
          rw [doneD_step h4 hnlt hN hjl, decide_eq_false (fun he => hee (by rw [he, hy] at hj; exact (Option.some.inj hj).symm)), Bool.false_and, Bool.or_false]
      · refine ifF (by rw [hbit]; simpa using hb) ⟨8 * A'.length - (n + 1), by omega, n + 1, b, by rw [wr64 (by omega) (by omega)]; omega, by omega, rfl, hpool, hkb, .inr ⟨by omega, ?_⟩, h⟩
        rw [hP2]
        intro j e' hj
        have hjl := (List.getElem?_eq_some_iff.1 hj).1
        rw [hp2 j e' hj]
        congr 1
        by_cases hjn : j = n % A'.length
        · subst hjn
          rw [rowD_skip hb]
          refine rowD_ext _ _ fun q hq => ?_
          rw [doneD_step h4 hnlt hN hjl, decide_eq_true rfl, Bool.true_and, hkk0]
        · refine rowD_ext _ _ fun q hq => ?_
          rw [doneD_step h4 hnlt hN hjl, decide_eq_false hjn, Bool.false_and, Bool.or_false]
  -- both worlds are one
  refine ifF (by simp; omega) ?_
  have hn : n = 8 * A'.length := by omega
  have hp2 := h2 (by omega)
  rw [hP2, hn] at hp2
  have hba : b = a := by
    have hrow : b.row = a.row := by
      funext e
      by_cases he : e ∈ A'
      · obtain ⟨j, hj⟩ := List.getElem?_of_mem he
        have hjl := (List.getElem?_eq_some_iff.1 hj).1
        rw [hp2 j e hj, hO.ra j e hj, ← rowD_all]
        congr 1
        exact rowD_ext _ _ fun q hq => doneD_end hjl hq
      · have h1 := hoka.liv e
        have h2 := hokb.liv e
        rw [hpool] at h2
        have h3 : a.pool.is e.1 e.2 = false := by
          cases hh : a.pool.is e.1 e.2 with
          | false => rfl
          | true => exact absurd ((hO.good.mem e).2 hh) he
        rw [h3] at h1 h2
        cases hx : a.row e with
        | some p => rw [hx] at h1; cases h1
        | none => cases hy : b.row e with
          | some p => rw [hy] at h2; cases h2
          | none => rfl
    obtain ⟨bk, bp, br⟩ := b
    obtain ⟨ak, ap, ar⟩ := a
    dsimp only at hpool hkb hrow
    have := hO.ka
    dsimp only at this
    subst hpool hrow
    rw [hkb, this]
  subst hba
  refine Rows_W h 3 rfl fun r12 w9 h => ?_
  refine Rows_W h 4 rfl fun r13 w10 h => ?_
  obtain ⟨O1, hO1⟩ := h.see (i := 6) rfl
  obtain ⟨O2, hO2⟩ := h.see (i := 7) rfl
  have hrl : b.rows.length ≤ 1000000000 := by
    have h1 := PoolM.allU_len b.pool b.pool.gens.length
    have h2 := hoka.pok.len200
    unfold WA.rows
    rw [List.length_map]
    show (b.pool.allU b.pool.gens.length).length ≤ _
    omega
  refine sameRows_spec (rdW_of hO1) (rdW_of hO2) hrl (fun x hx => ?_) fun w11 hf => ?_
  · obtain ⟨e, he, rfl⟩ := List.mem_map.1 hx
    obtain ⟨p, hp⟩ := all_lives hoka he
    have hpf := hfa e p hp
    have hpl : p.length = 4 := by rw [hpf.1, hkb]; rfl
    have : (b.rowT e).2 = partsOf p := by unfold WA.rowT; rw [hp]; rfl
    rw [this]
    refine ⟨by have := partsU_len p p.length; unfold partsOf; omega, fun y hy => ?_⟩
    have hin : ∀ k, ∀ y ∈ partsU p k, some y.2 ∈ p := by
      intro k
      induction k with
      | zero => simp [partsU]
      | succ k ih =>
        intro y hy
        rw [partsU] at hy
        rcases List.mem_append.1 hy with hy | hy
        · exact ih y hy
        · split at hy
          · rename_i v hv
            simp only [List.mem_singleton] at hy
            subst hy
            exact List.mem_of_getElem? (getD_some hv)
          · cases hy
    obtain ⟨i, hi⟩ := List.getElem?_of_mem (hin _ y hy)
    have hfl := flat_split hi
    have hl := congrArg List.length hfl
    simp only [List.length_append, Option.getD_some] at hl
    have h1 := hpf.all
    have h2 := atF_le hoka.four (setI p) b.ks.length
    rw [hkb] at h1 h2
    have h3 : usualK.length = 4 := rfl
    rw [h3] at h1 h2
    omega
  have h := h.keep hf
  rw [decide_eq_true rfl]
  refine Shapes_W h 3 rfl fun x7 w12 h => ?_
  refine Shapes_W h 4 rfl fun y2 w13 h => ?_
  have h : Hp [] w w13 [(tRd sets 1 iv xs).ro, (tRd order 1 iv ys).ro, (tRd between 4 ddv ds).ro, tW ab b, tW bb b, tSl all3 43 2 ent A', tRows r12 b.rows, tRows r13 b.rows, tMp x7 (Value.int .i64) (Value.int .i64) b.shape, tMp y2 (Value.int .i64) (Value.int .i64) b.shape] := h
  refine h.range_start (ek := Value.int .i64) (ev := Value.int .i64) (g := b.shape) 8 rfl und58 fun r N w14 h => ?_
  refine ⟨fun m9 w' => ∃ done : List Int, m9 = N - done.length ∧ Hp [] w w' [(tRd sets 1 iv xs).ro, (tRd order 1 iv ys).ro, (tRd between 4 ddv ds).ro, tW ab b, tW bb b, tSl all3 43 2 ent A', tRows r12 b.rows, tRows r13 b.rows, tRan x7 r (Value.int .i64) (Value.int .i64) b.shape N done, tMp y2 (Value.int .i64) (Value.int .i64) b.shape], ⟨N, [], rfl, h⟩, ?_⟩
  clear h
  rintro m9 w15 ⟨done, rfl, h⟩
  refine h.range_next 8 rfl (fun hall hN h => ?_) fun s v x1 x2 w16 hg hno hlt h => ?_
  · have h := h.range_stop (i := 8) rfl
    refine h.dr fun w17 h => ?_
    refine ifT rfl ?_
    refine h.mlen2 8 9 (ek := Value.int .i64) (ev := Value.int .i64) (g := b.shape) rfl rfl und58 fun nn => ?_
    refine ifT (by simp) ?_
    have hstr : strL (strOf b.snap) = b.snap := strL_of (snap_bytes b)
    refine Snapshot_W h 3 rfl fun s1 w18 h => ?_
    refine h.rdb 10 (u := tB s1 b.snap) rfl Hp.rdSl (strOf b.snap) hstr ?_
    refine Snapshot_W h 4 rfl fun s2 w19 h => ?_
    refine ⟨h.bat 10 (u := tB s1 b.snap) rfl Hp.rdSl (strOf b.snap) hstr, ?_⟩
    refine h.rdb 11 (u := tB s2 b.snap) rfl Hp.rdSl (strOf b.snap) hstr ?_
    have e : ((strOf b.snap).toList == (strOf b.snap).toList) = true := by simp
    rw [e]; exact hK w19 h.1
  · refine h.range_entry (k := s) (v := v) 8 rfl hg ?_
    refine view_int (view_int ?_)
    refine h.lookup1 (kd := .i .i64) (vk := id) (z := (0 : Int)) (ek := Value.int .i64) (ev := Value.int .i64) (g := b.shape) (k := s) 9 rfl rfl und58 key3 n1 n2 (fun _ => rfl) ?_
    rw [hg]
    dsimp only [id_eq]
    exact ifF (by simp) ⟨N - (done.length + 1), by omega, done ++ [s], by simp, h⟩

end
end Go.Proofs.Ytcccjgmekakabaa.FW
end

section
set_option linter.unusedSimpArgs false
set_option linter.unusedVariables false
set_option maxRecDepth 100000
namespace Go.Proofs.Ytcccjgmekakabaa.FW
open Go.Proofs.Ytcccjgmekakabaa.F
open Go Go.Den Go.Proofs Go.RowKit
theorem und47 : Try.prog.underlying 47 = some (.struct (Try.prog.fieldsOf 47)) := by kernel_rfl

theorem und29 : Try.prog.underlying 29 = some (.slice 47) := by kernel_rfl

theorem und2 : Try.prog.underlying 2 = some (.int .i64) := by kernel_rfl

theorem cel3 : Try.prog.cellsOf 3 = 1 := by kernel_rfl

theorem cel2 : Try.prog.cellsOf 2 = 1 := by kernel_rfl

theorem cel47 : Try.prog.cellsOf 47 = 4 := by kernel_rfl

def DeedOk (x : Deed) : Prop := (-9223372036854775808 ≤ x.1 ∧ x.1 ≤ 9223372036854775807) ∧ (-9223372036854775808 ≤ x.2.1 ∧ x.2.1 ≤ 9223372036854775807) ∧ (-9223372036854775808 ≤ x.2.2.1 ∧ x.2.2.1 ≤ 9223372036854775807)

theorem dec_deed {w : World} {B m : Nat} {ci : List Value} (hl : ci.length = 4) (h : RdV Try.prog w B m 47 ci) : ∃ x : Deed, ci = ddv x ∧ DeedOk x := by
  obtain ⟨_, q, hf⟩ := rd_struct und47 h
  match ci, hl with
  | [c0, c1, c2, c3], _ =>
    obtain ⟨m0, e0, k0⟩ := rd_int und3 (rd_field hf 0 (ft := 3) (off := 0) (sz := 1) (by kernel_rfl) cel3)
    obtain ⟨m1, e1, k1⟩ := rd_int und3 (rd_field hf 1 (ft := 3) (off := 1) (sz := 1) (by kernel_rfl) cel3)
    obtain ⟨m2, e2, k2⟩ := rd_int und3 (rd_field hf 2 (ft := 3) (off := 2) (sz := 1) (by kernel_rfl) cel3)
    obtain ⟨m3, e3, _⟩ := rd_int und2 (rd_field hf 3 (ft := 2) (off := 3) (sz := 1) (by kernel_rfl) cel2)
    simp only [List.drop_zero, List.drop_succ_cons, List.take_succ_cons, List.take_zero, List.cons.injEq, and_true] at e0 e1 e2 e3
    subst e0 e1 e2 e3
    have g0 : IntKind.i64.min ≤ m0 ∧ m0 ≤ IntKind.i64.max := by simpa [Lit.wf] using k0
    have g1 : IntKind.i64.min ≤ m1 ∧ m1 ≤ IntKind.i64.max := by simpa [Lit.wf] using k1
    have g2 : IntKind.i64.min ≤ m2 ∧ m2 ≤ IntKind.i64.max := by simpa [Lit.wf] using k2
    exact ⟨(m0, m1, m2, m3), rfl, g0, g1, g2⟩

theorem dec_deeds {w : World} {B n : Nat} {a : Option Addr} {len cap : Nat} (h : RdV Try.prog w B n 29 [.slice a len cap]) : ∃ (l : List Deed) (o : List Nat), SlR w ⟨a, len, cap⟩ 4 ddv l o ∧ ∀ x ∈ l, DeedOk x := by
  obtain ⟨s, l, o, h1, h2, h3, _⟩ := rd_slice (f := ddv) (G := DeedOk) und29 cel47 (by omega) (fun m ci hl hr => dec_deed hl hr) h
  simp only [List.cons.injEq, Value.slice.injEq, and_true] at h1
  obtain ⟨rfl, rfl, rfl⟩ := h1
  exact ⟨l, o, h2, h3⟩

end Go.Proofs.Ytcccjgmekakabaa.FW
end

section
set_option linter.unusedSimpArgs false
set_option linter.unusedVariables false
set_option maxRecDepth 100000
namespace Go.Proofs.Ytcccjgmekakabaa.FW
open Go.Proofs.Ytcccjgmekakabaa.F
open Go Go.Den Go.Proofs Go.RowKit
open Go.Proofs.Ytcccjgmekakabaa.FT (iv)
open Go.Proofs.Ytcccjgmekakabaa.FP (R64)
theorem und28 : Try.prog.underlying 28 = some (.slice 3) := by kernel_rfl

theorem dec_ints {w : World} {B n : Nat} {a : Option Addr} {len cap : Nat} (h : RdV Try.prog w B n 28 [.slice a len cap]) : ∃ (l : List Int) (o : List Nat), SlR w ⟨a, len, cap⟩ 1 iv l o ∧ R64 l := by
  obtain ⟨s, l, o, h1, h2, h3, _⟩ := rd_slice (f := iv) (G := fun x => -9223372036854775808 ≤ x ∧ x ≤ 9223372036854775807) und28 cel3 (by omega) (fun m ci _ hr => by
    obtain ⟨x, hx, k0⟩ := rd_int und3 hr
    have g0 : IntKind.i64.min ≤ x ∧ x ≤ IntKind.i64.max := by simpa [Lit.wf] using k0
    exact ⟨x, hx, g0⟩) h
  simp only [List.cons.injEq, Value.slice.injEq, and_true] at h1
  obtain ⟨rfl, rfl, rfl⟩ := h1
  exact ⟨l, o, h2, h3⟩

theorem order_call {w : World} {B n B' n' B2 n2 : Nat} {a a' a2 : Option Addr} {len cap len' cap' len2 cap2 : Nat} (h : RdV Try.prog w B n 28 [.slice a len cap]) (h' : RdV Try.prog w B' n' 28 [.slice a' len' cap']) (h2 : RdV Try.prog w B2 n2 29 [.slice a2 len2 cap2]) :
    Calls Try.prog 4 #[.slice a len cap, .slice a' len' cap', .slice a2 len2 cap2] w fun e w' => e = .returned (.bool true) ∧ Below w.heap.size w w' := by
  obtain ⟨l, o, g2, g3⟩ := dec_ints h
  obtain ⟨l', o', g2', g3'⟩ := dec_ints h'
  obtain ⟨l2, o2, g22, g32⟩ := dec_deeds h2
  exact calls_true (order_spec (sets := ⟨a, len, cap⟩) (order := ⟨a', len', cap'⟩) (between := ⟨a2, len2, cap2⟩) g2 g2' g22 g3 g3' (fun x hx => g32 x hx) fun w' hf => ⟨rfl, hf⟩)

end Go.Proofs.Ytcccjgmekakabaa.FW
end
