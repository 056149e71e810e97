/-
  Part 6 of the proof: WorldNew of layer 6 is true of the given program for every input that its guards let in (of bulk at most 1048576).
-/
import Derived.Test.YtcccjgmekakabaaPkE
import Derived.Lib.SliceRun
import Derived.Laws.IdiomRangeMap
set_option linter.unusedSimpArgs false
set_option linter.unusedVariables false
set_option maxRecDepth 100000
section
namespace Go.Proofs.Ytcccjgmekakabaa.FW
open F
open Go Go.Den Go.Proofs
open FI (PoolM tPool)
open FT (TabM tTab Ent entV ent ent_len atI keyEnt iv iv_len)
def WA.put (a : WA) (e : Ent) (p : PL) : WA := ⟨a.ks, a.pool, upd1 a.row e (some p)⟩
def WA.ask (a : WA) (e : Ent) (kind : Int) : (PL × Nat × Nat) × Int := match a.row e with
 | none => (([], 0, 0), 41)
 | some p => match fl a.ks kind with
  | none => (([], 0, 0), 60)
  | some n => ((p, (kind - 1).toNat, n), 0)
def WA.add (a : WA) (e : Ent) (x : Part) : WA × Int :=
 if (a.ask e x.1).2 ≠ 0 then (a, (a.ask e x.1).2) else
 if ((a.ask e x.1).1.1.getD (a.ask e x.1).1.2.1 none).isSome = true then (a, 61) else
 if x.2.length ≠ (a.ask e x.1).1.2.2 then (a, 63) else (a.put e ((a.ask e x.1).1.1.set (a.ask e x.1).1.2.1 (some x.2)), 0)
theorem ask_none {a : WA} {e : Ent} {kind : Int} (h : a.row e = none) : a.ask e kind = (([], 0, 0), 41) := by unfold WA.ask; rw [h]
theorem ask_kind {a : WA} {e : Ent} {kind : Int} {p : PL} (h : a.row e = some p) (hf : fl a.ks kind = none) : a.ask e kind = (([], 0, 0), 60) := by
 unfold WA.ask; rw [h]; dsimp only; rw [hf]
theorem ask_some {a : WA} {e : Ent} {p : PL} {i : Nat} {k : ByteArray × List ByteArray} (h : a.row e = some p) (hk : a.ks[i]? = some k) : a.ask e ((i + 1 : Nat) : Int) = ((p, i, k.2.length), 0) := by
 have hfl : fl a.ks ((i + 1 : Nat) : Int) = some k.2.length := by
  unfold fl
  rw [if_pos (by omega), show (((i + 1 : Nat) : Int) - 1).toNat = i by omega, hk]; rfl
 unfold WA.ask; rw [h]; dsimp only; rw [hfl, show (((i + 1 : Nat) : Int) - 1).toNat = i by omega]
theorem WA.put_ok {a : WA} (h : a.Ok) {e : Ent} (he : (a.row e).isSome = true) {p : PL} (hp : FP.R64 (flat p)) : (a.put e p).Ok := by
 refine ⟨h.pok2, h.most, h.may, fun x => ?_, fun x p' hx => ?_⟩
 ·show (upd1 a.row e (some p) x).isSome = a.pool.is x.1 x.2
  rw [← h.liv x]
  unfold upd1
  split
  ·rename_i hx; rw [hx, he]; rfl
  ·rfl
 ·have hx : upd1 a.row e (some p) x = some p' := hx
  unfold upd1 at hx
  split at hx
  ·obtain rfl := Option.some.inj hx; exact hp
  ·exact h.rng x p' hx
theorem upd_upd (row : Ent → Option PL) (e : Ent) (o o' : Option PL) : upd1 (upd1 row e o) e o' = upd1 row e o' := by
 funext x
 unfold upd1
 split <;> rfl
theorem upd_updI (sets : Ent → Option Int) (e : Ent) (o o' : Option Int) : upd1 (upd1 sets e o) e o' = upd1 sets e o' := by
 funext x
 unfold upd1
 split <;> rfl
theorem gone_few {a : WA} (h : a.Ok) {e : Ent} (he : (a.row e).isSome = true) : ∀ L : List Ent, L.Nodup → (∀ x ∈ L, (upd1 a.row e none x).isSome = true) → L.length < 200 := by
 intro L hnd hL
 have hin : ∀ x ∈ L, x ≠ e ∧ (a.row x).isSome = true := fun x hx => by
  have := hL x hx
  unfold upd1 at this
  split at this
  ·cases this
  ·rename_i hne; exact ⟨hne, this⟩
 have := pool_few h.pok (L := e :: L) (by
  rw [List.nodup_cons]
  exact ⟨fun hm => (hin e hm).1 rfl, hnd⟩) (fun x hx => by
  rw [← h.liv x]
  rcases List.mem_cons.1 hx with rfl | hx
  ·exact he
  ·exact (hin x hx).2)
 simp only [List.length_cons] at this
 omega
section
variable {S : List Nat} {w0 w : World} {its : List Thing}
set_option maxHeartbeats 4000000 in
theorem Add_W (h : Hp S w0 w its) (i j : Nat) (hij : i ≠ j) {b : Nat} {a : WA} {e : Ent} {kind : Int} {sv : Sl} {v : List Int} (hi : its[i]? = some (tW b a)) (hj : its[j]? = some (tSl sv 2 1 iv v)) (k1 : -9223372036854775808 ≤ kind) (k2 : kind ≤ 9223372036854775807) (hvr : FP.R64 v) {K : Int → World → Prop}
  (hK : ∀ w', Hp S w0 w' (its.set i (tW b (a.add e (kind, v)).1)) → K (a.add e (kind, v)).2 w') : c19 (some ⟨b, 0, none⟩) e.1 e.2 kind sv w K := by
 refine c19_of ?_
 unfold f19
 obtain ⟨O, h1, back⟩ := h.f2 hij hi hj rfl rfl
 clear h
 obtain ⟨q, hok, ht, hk, h⟩ := W_open h1
 have hkl : (kinds q.xs).length = q.xs.length := by simp [kinds]
 have hal := hok.len
 have h12 : q.xs.length ≤ 12 := by rw [hk] at hkl; omega
 have h4k := hok.four
 have h4 : ∀ x ∈ q.xs, x.2.2.length ≤ 4 := fun x hx => h4k (x.1, x.2.2) (by rw [← hk]; exact List.mem_map.2 ⟨x, hx, rfl⟩)
 have fin : ∀ {w' : World} {a' : WA}, Hp O w w' [tW b a', tSl sv 2 1 iv v] → Hp S w0 w' (its.set i (tW b a')) := fun {w' a'} h => by
  have := back (rest := []) rfl rfl rfl h
  rw [List.append_nil] at this
  have e : (its.set i (tW b a')).set j (tSl sv 2 1 iv v) = its.set i (tW b a') := Hp.set_same (by rw [List.getElem?_set_ne hij]; exact hj)
  rwa [e] at this
 have hvl := h.len (s := sv) 8 rfl
 refine h.nw (c := [_, _]) fun eb w1 h => ?_
 have h := h.up
 refine h.nw (c := [_, _]) fun pb w2 h => ?_
 have h := h.up
 refine h.ld0 (k := .i .i64) (x := e.1) 9 rfl rfl ?_
 refine h.ld (n := 1) (k := .i .i64) (x := e.2) 9 rfl rfl ?_
 refine h.ld0 (k := .i .i64) (x := kind) 8 rfl rfl ?_
 have same : ∀ {w3 : World}, Hp O w w3 (q.all b a.m tEmp ++ (tBlk pb 40 [.int .i64 kind, .slice sv.a sv.len sv.cap] :: tBlk eb 43 [.int .i64 e.1, .int .i64 e.2] :: [tSl sv 2 1 iv v])) → Hp S w0 w3 (its.set i (tW b a)) := fun {w3} h => by
  have h : Hp O w w3 (q.all b a.m tEmp ++ [tBlk pb 40 [.int .i64 kind, .slice sv.a sv.len sv.cap], tBlk eb 43 [.int .i64 e.1, .int .i64 e.2]] ++ [tSl sv 2 1 iv v]) := h
  exact fin (W_shut (rest := [_]) hok ht hk rfl rfl h.cutMid)
 refine asked_W h hok ht hk k1 k2 fun w3 h => ⟨fun hr => ?_, fun p hr hf => ?_, fun p r k hr hkind hkr => ?_⟩
 ·have hg : a.add e (kind, v) = (a, 41) := by unfold WA.add; rw [ask_none hr, if_pos (by decide)]
  rw [hg] at hK
  exact ifT rfl (hK w3 (same h))
 ·have hg : a.add e (kind, v) = (a, 60) := by unfold WA.add; rw [ask_kind hr hf, if_pos (by decide)]
  rw [hg] at hK
  exact ifT rfl (hK w3 (same h))
 ·subst hkind
  have hask := ask_some (a := a) (e := e) hr hkr
  refine ifF (by simp) ?_
  have hfit := ht.fit e p hr
  have hrl : r < p.length := by rw [hfit.1]; exact (List.getElem?_eq_some_iff.1 hkr).1
  have hp12 : p.length ≤ 12 := by rw [hfit.1]; omega
  have hs1 := setI_lt hp12
  have hs0 := setI_nn p
  by_cases hh : (p.getD r none).isSome = true
  ·have hg : a.add e (((r + 1 : Nat) : Int), v) = (a, 61) := by unfold WA.add; dsimp only; rw [hask, if_neg (by simp), if_pos hh]
   rw [hg] at hK
   exact ifT hh (hK w3 (same h))
  ·refine ifF hh ?_
   refine h.ld (n := 1) (k := .sl) (x := sv) 8 rfl rfl ?_
   by_cases hn : v.length = k.2.length
   ·refine ifF (by simp; omega) ?_
    have hg : a.add e (((r + 1 : Nat) : Int), v) = (a.put e (p.set r (some v)), 0) := by
     unfold WA.add; dsimp only; rw [hask, if_neg (by simp), if_neg hh, if_neg (by simpa using hn)]
    rw [hg] at hK
    have his : (a.row e).isSome = true := by rw [hr]; rfl
    have hok' := WA.put_ok hok his (flat_rng (hok.rng e p hr) r hvr)
    refine h.dr fun w4 h => ?_
    refine h.ld0 (k := .i .i64) (x := e.1) 9 rfl rfl ?_
    refine h.ld (n := 1) (k := .i .i64) (x := e.2) 9 rfl rfl ?_
    refine h.ld0 (k := .i .i64) (x := ((r + 1 : Nat) : Int)) 8 rfl rfl ?_
    refine h.ld (n := 1) (k := .sl) (x := sv) 8 rfl rfl ?_
    refine leave_W h (row := a.row) (p := p) (by rw [hk]; exact ht) hr fun s T' w5 ht' h => ?_
    have h := h.up
    refine ⟨h.cel (n := 1) 9 rfl rfl, h.cel0 9 rfl rfl, ?_⟩
    refine at_spec h 0 2 3 (cells := [_, _, _]) rfl rfl rfl h12 h4 hs0 (by omega) (q := r) (by show r ≤ q.xs.length; rw [hfit.1, ← hk, hkl] at hrl; omega) ?_
    refine ⟨h.cel (n := 1) 9 rfl rfl, ?_⟩
    show c46 _ ((atF (kinds q.xs) (setI p) r : Nat) : Int) _ _ _
    rw [hk]
    have hno : p.getD r none = none := by simpa using hh
    have hat := hfit.at (q := r) (by omega)
    have hall := hfit.all
    have hall4 := atF_le h4k (setI p) a.ks.length
    have hv4 := h4k _ (List.mem_of_getElem? hkr)
    have hle : atF a.ks (setI p) r ≤ (flat p).length := by
     have hpr : p[r]? = some none := by
      have : p[r]? = some p[r] := by simp [hrl]
      rw [this]; rw [List.getD_eq_getElem?_getD, this] at hno; simpa using hno
     rw [hat, flat_split hpr]; simp
    refine Insert_spec h 8 11 (by decide) (s := s) (v := sv) (l := flat p) (xs := v) rfl rfl hle (by omega) fun s' w6 h => ?_
    rw [← hfit.ins hrl hno v] at h
    refine h.dr fun w7 h => ?_
    refine h.ld0 (k := .i .i64) (x := e.1) 10 rfl rfl ?_
    refine h.ld (n := 1) (k := .i .i64) (x := e.2) 10 rfl rfl ?_
    refine h.ld0 (k := .i .i64) (x := ((r + 1 : Nat) : Int)) 9 rfl rfl ?_
    refine ⟨by omega, ?_⟩
    rw [setI_put hp12 hrl v]
    have h : Hp O w w7 (({ q with T := T' } : WH).all b { a.m with sets := upd1 a.m.sets e none } tEmp ++ (tSl s' 2 1 iv (flat (p.set r (some v))) :: [tBlk pb 40 [.int .i64 ((r + 1 : Nat) : Int), .slice sv.a sv.len sv.cap], tBlk eb 43 [.int .i64 e.1, .int .i64 e.2], tSl sv 2 1 iv v])) := h
    have h := all_swap h
    have hfit' : PL.fit a.ks (p.set r (some v)) := hfit.set hkr hn
    refine enter_W h (row := upd1 a.row e none) (e := e) (p := p.set r (some v)) ht' (by show mayOk (kinds q.xs); rw [hk]; exact hok.may) (by unfold upd1; rw [if_pos rfl]) (by show PL.fit (kinds q.xs) _; rw [hk]; exact hfit') (gone_few hok his) Hp.rdSl fun T2 w8 ht2 h => ?_
    have h : Hp O w w8 (({ q with T := T2 } : WH).all b { a.m with sets := upd1 (upd1 a.m.sets e none) e (some (setI (p.set r (some v)))) } (tSl s' 2 1 iv (flat (p.set r (some v)))) ++ [tEmp, tBlk pb 40 [.int .i64 ((r + 1 : Nat) : Int), .slice sv.a sv.len sv.cap], tBlk eb 43 [.int .i64 e.1, .int .i64 e.2]] ++ [tSl sv 2 1 iv v]) := h
    rw [upd_upd] at ht2
    refine hK w8 (fin (W_shut (rest := [_]) (m := { a.m with sets := upd1 (upd1 a.m.sets e none) e (some (setI (p.set r (some v)))) }) (q := { q with T := T2 }) hok' ?_ hk rfl ?_ h.cutMid))
    ·show Tabs a.ks (upd1 a.row e (some (p.set r (some v)))) (fun x => (upd1 a.row e (some (p.set r (some v))) x).map setI) _
     rw [upd_sets, ← hk]
     have : upd1 (upd1 a.m.sets e none) e (some (setI (p.set r (some v)))) = upd1 (fun x => (a.row x).map setI) e ((some (p.set r (some v))).map setI) := by rw [upd_updI]; rfl
     rw [← this]
     exact ht2
    ·show upd1 (upd1 a.m.sets e none) e _ = _
     rw [upd_updI]
     exact (upd_sets a.row e (some (p.set r (some v)))).symm
   ·have hg : a.add e (((r + 1 : Nat) : Int), v) = (a, 63) := by
     unfold WA.add; dsimp only; rw [hask, if_neg (by simp), if_neg hh, if_pos hn]
    rw [hg] at hK
    exact ifT (by simp; omega) (hK w3 (same h))
end
end Go.Proofs.Ytcccjgmekakabaa.FW
end

section
namespace Go.Proofs.Ytcccjgmekakabaa.FW
open F
open Go Go.Den Go.Proofs
open FI (PoolM tPool)
open FT (TabM tTab Ent entV ent ent_len atI keyEnt iv iv_len)
theorem Tabs.put {ks : KD} {row : Ent → Option PL} {sets : Ent → Option Int} {tabs : List (Int × TabM)} (h : Tabs ks row sets tabs) {e : Ent} {p p' : PL} (hr : row e = some p) (hfit : p'.fit ks) (hset : setI p' = setI p)
  {k r : Nat} {t t' : TabM} (hk : tabs[k]? = some (setI p, t)) (hrr : t.rows[r]? = some (e, flat p)) (hok : t'.Ok) (hn : t'.n = t.n) (hrows : t'.rows = t.rows.set r (e, flat p')) :
  Tabs ks (upd1 row e (some p')) sets (tabs.set k (setI p, t')) := by
 have hkl := (List.getElem?_eq_some_iff.1 hk).1
 have hrl := (List.getElem?_eq_some_iff.1 hrr).1
 have hmem := List.mem_of_getElem? hk
 obtain ⟨tk, tn, tne, tr⟩ := h.tok _ hmem
 have keyInj : ∀ {i j : Nat} {a b : Int × TabM}, tabs[i]? = some a → tabs[j]? = some b → a.1 = b.1 → i = j := fun {i j a b} hi hj he =>
  (List.getElem?_inj (i := i) (j := j) (l := tabs.map (·.1)) (by simpa using (List.getElem?_eq_some_iff.1 hi).1) h.nd).1 (by rw [List.getElem?_map, List.getElem?_map, hi, hj]; simp [he])
 have hin : ∀ x ∈ tabs.set k (setI p, t'), x = (setI p, t') ∨ (x ∈ tabs ∧ x.1 ≠ setI p) := by
  intro x hx
  obtain ⟨j, hj⟩ := List.getElem?_of_mem hx
  rw [List.getElem?_set] at hj
  by_cases hkj : k = j
  ·subst hkj; simp only [if_true, if_pos hkl, Option.some.injEq] at hj; exact .inl hj.symm
  ·rw [if_neg hkj] at hj
   exact .inr ⟨List.mem_of_getElem? hj, fun he => hkj (keyInj hk hj he.symm)⟩
 -- what is in the row's table
 have hrow : ∀ y ∈ t'.rows, y = (e, flat p') ∨ (y ∈ t.rows ∧ y.1 ≠ e) := by
  intro y hy
  rw [hrows] at hy
  obtain ⟨j, hj⟩ := List.getElem?_of_mem hy
  rw [List.getElem?_set] at hj
  by_cases hkj : r = j
  ·subst hkj; simp only [if_true, if_pos hrl, Option.some.injEq] at hj; exact .inl hj.symm
  ·rw [if_neg hkj] at hj
   refine .inr ⟨List.mem_of_getElem? hj, fun he => hkj ?_⟩
   exact (List.getElem?_inj (i := r) (j := j) (l := t.owners) (by unfold TabM.owners; simpa using hrl) tk.nd).1 (by unfold TabM.owners; rw [List.getElem?_map, List.getElem?_map, hrr, hj]; simp [he])
 refine ⟨?_, ?_, ?_, ?_, ?_⟩
 ·rw [h.sets]
  funext x
  show (row x).map setI = (upd1 row e (some p') x).map setI
  unfold upd1
  split
  ·rename_i hx; rw [hx, hr]; show some _ = some _; rw [hset]
  ·rfl
 ·have : (tabs.set k (setI p, t')).map (·.1) = tabs.map (·.1) := by
   rw [List.map_set]
   exact Hp.set_same' (by rw [List.getElem?_map, hk]; rfl)
  rw [this]; exact h.nd
 ·intro x hx
  rcases hin x hx with rfl | ⟨hx, hxp⟩
  ·refine ⟨hok, by rw [hn]; exact tn, fun e0 => ?_, fun y hy => ?_⟩
   ·have e0 : t'.rows = [] := e0
    have := congrArg List.length (hrows.symm.trans e0)
    rw [List.length_set, List.length_nil] at this; omega
   ·rcases hrow y hy with rfl | ⟨hy, hne⟩
    ·exact ⟨p', by unfold upd1; rw [if_pos rfl], hset, rfl⟩
    ·obtain ⟨p2, g1, g2, g3⟩ := tr y hy
     exact ⟨p2, by unfold upd1; rw [if_neg hne]; exact g1, g2, g3⟩
  ·obtain ⟨a1, a2, a3, a4⟩ := h.tok x hx
   refine ⟨a1, a2, a3, fun y hy => ?_⟩
   obtain ⟨p2, g1, g2, g3⟩ := a4 y hy
   refine ⟨p2, ?_, g2, g3⟩
   unfold upd1
   rw [if_neg (fun he => by rw [he, hr] at g1; obtain rfl := Option.some.inj g1; exact hxp g2.symm)]; exact g1
 ·intro e' p2 he'
  unfold upd1 at he'
  by_cases hee : e' = e
  ·rw [if_pos hee] at he'
   obtain rfl := Option.some.inj he'
   subst hee
   exact ⟨t', List.mem_of_getElem? (i := k) (by rw [List.getElem?_set_self hkl, hset]), by rw [hrows]; exact List.mem_of_getElem? (i := r) (by rw [List.getElem?_set_self hrl])⟩
  ·rw [if_neg hee] at he'
   obtain ⟨t2, h1, h2⟩ := h.has e' p2 he'
   by_cases hs : setI p2 = setI p
   ·obtain ⟨j, hj⟩ := List.getElem?_of_mem h1
    have hkj := keyInj hk hj hs.symm
    subst hkj
    rw [hk] at hj
    obtain ⟨_, rfl⟩ := Prod.mk.inj (Option.some.inj hj)
    obtain ⟨j2, hj2⟩ := List.getElem?_of_mem h2
    refine ⟨t', List.mem_of_getElem? (i := k) (by rw [List.getElem?_set_self hkl, hs]), ?_⟩
    rw [hrows]
    exact List.mem_of_getElem? (i := j2) (by rw [List.getElem?_set_ne (fun e0 => by subst e0; rw [hrr] at hj2; have := Option.some.inj hj2; exact hee (by rw [Prod.mk.injEq] at this; exact this.1.symm))]; exact hj2)
   ·obtain ⟨j, hj⟩ := List.getElem?_of_mem h1
    have hkj : k ≠ j := fun e0 => by subst e0; rw [hk] at hj; have := Option.some.inj hj; rw [Prod.mk.injEq] at this; exact hs this.1.symm
    exact ⟨t2, List.mem_of_getElem? (i := j) (by rw [List.getElem?_set_ne hkj]; exact hj), h2⟩
 ·intro e' p2 he'
  unfold upd1 at he'
  by_cases hee : e' = e
  ·rw [if_pos hee] at he'
   obtain rfl := Option.some.inj he'
   exact hfit
  ·rw [if_neg hee] at he'
   exact h.fit e' p2 he'
def WA.set (a : WA) (e : Ent) (x : Part) : WA × Int :=
 if (a.ask e x.1).2 ≠ 0 then (a, (a.ask e x.1).2) else
 if (a.ask e x.1).1.1.getD (a.ask e x.1).1.2.1 none = none then (a, 62) else
 if x.2.length ≠ (a.ask e x.1).1.2.2 then (a, 63) else (a.put e ((a.ask e x.1).1.1.set (a.ask e x.1).1.2.1 (some x.2)), 0)
section
variable {S : List Nat} {w0 w : World} {its : List Thing}
end
end Go.Proofs.Ytcccjgmekakabaa.FW
end

section
namespace Go.Proofs.Ytcccjgmekakabaa.FW
open F
open Go Go.Den Go.Proofs
open FI (PoolM tPool)
open FT (TabM tTab Ent entV ent ent_len atI keyEnt iv iv_len)
open FP (putU zig encZ rowU tB putU_len encZ_len R64)
def snapRow (p : PL) : List Int := putU (setI p) ++ encZ (flat p)
def WA.snap (a : WA) : List Int := rowU a.pool.stGens ++ rowU a.pool.free ++ a.all.flatMap fun e => snapRow ((a.row e).getD [])
theorem rowU_len (l : List Int) : (rowU l).length ≤ 21 + 10 * l.length := by
 have h1 := putU_len l.length
 have h2 := FP.bestU_len l
 unfold rowU
 rw [List.length_append]
 split
 ·simp only [List.length_nil]; omega
 ·omega
theorem enc_partsU (p : PL) : ∀ k, k ≤ p.length → (partsU p k).flatMap (fun x => encZ x.2) = encZ (flat (p.take k))
 | 0, _ => by simp [partsU, flat, encZ]
 | k + 1, hk => by
  have ih := enc_partsU p k (by omega)
  have hp : p[k]? = some p[k] := by simp [show k < p.length by omega]
  rw [partsU, List.flatMap_append, ih, flat_take hp]
  have ha : ∀ a b : List Int, encZ (a ++ b) = encZ a ++ encZ b := fun a b => by unfold encZ; rw [List.flatMap_append]
  rw [ha]
  congr 1
  have : p.getD k none = p[k] := by rw [List.getD_eq_getElem?_getD, hp]; rfl
  rw [this]
  cases p[k] with
  | none => rfl
  | some v => simp
theorem enc_parts (p : PL) : (partsOf p).flatMap (fun x => encZ x.2) = encZ (flat p) := by
 unfold partsOf
 rw [enc_partsU p p.length (Nat.le_refl _), List.take_length]
section
variable {S : List Nat} {w0 w : World} {its : List Thing}
theorem longs_spec (h : Hp S w0 w its) (j : Nat) {u : Thing} {s : Sl} {l : List Int} (hj : its[j]? = some u) (hu : Hp.Reads u s 1 iv l) (hl : l.length ≤ 1000000000) {K : Sl → World → Prop} (hK : ∀ r w', Hp S w0 w' (its ++ [tSl r 2 1 iv l]) → K r w') : c52 s w K := by
 refine c52_of ?_
 unfold f52
 obtain ⟨inf, q1, q2, q3, q4⟩ := FT.inf2
 have hlt0 := (List.getElem?_eq_some_iff.1 hj).1
 have hsl := h.lenU j (by rw [hj]; rfl) hu
 have h := h.nil 2 1 iv
 refine ⟨fun out t8 mm w' => ∃ k : Nat, t8 = k ∧ k ≤ l.length ∧ mm = l.length - k ∧ Hp S w0 w' (its ++ [tSl out 2 1 iv (l.take k)]), ⟨l.length, 0, rfl, by omega, rfl, h⟩, ?_⟩
 clear h
 rintro out t8 mm w2 ⟨k, rfl, hk, rfl, h⟩
 have hol := h.len (s := out) its.length (by rw [List.getElem?_concat_length]; rfl)
 rw [List.length_take] at hol
 by_cases hlt : k < l.length
 ·refine ifT (by simp; omega) ?_
  refine h.ixldU (k := .i .i64) (u := u) (y := l[k]) (x := l[k]) j (by rw [List.getElem?_append_left hlt0, hj]; rfl) hu (by omega) (by simp [hlt]) iv_len rfl ?_
  refine h.nwapp its.length (l[k]) (c := [_]) List.getElem?_concat_length iv_len FT.und34 q1 q3 q2 rfl rfl (by simp [iv, Value.oneCell']) (by rw [q4]; omega) (by omega) fun out2 w3 h _ _ => ?_
  rw [set_last, ← List.take_succ_eq_append_getElem hlt] at h
  exact ⟨l.length - (k + 1), by omega, k + 1, by rw [wr64 (by omega) (by omega)]; omega, by omega, rfl, h⟩
 ·refine ifF (by simp; omega) ?_
  rw [List.take_of_length_le (by omega)] at h
  exact hK out w2 h
theorem stGens_rng {m : PoolM} (hm : m.Ok) : R64 m.stGens ∧ m.stGens.length ≤ 200 ∧ R64 m.free ∧ m.free.length ≤ 200 := by
 have h200 := hm.len200
 refine ⟨fun x hx => ?_, by unfold PoolM.stGens; rw [List.length_mapIdx]; exact h200, fun x hx => ?_, FI.Ok.free200 hm⟩
 ·unfold PoolM.stGens at hx
  obtain ⟨i, hi, rfl⟩ := List.mem_mapIdx.1 hx
  have := hm.gens _ (List.getElem_mem hi)
  split <;> omega
 ·have := hm.free x hx
  omega
set_option maxHeartbeats 4000000 in
theorem Snapshot_o {b : Nat} {a : WA} {q : WH} {u : Thing} (h : Hp S w0 w (q.all b a.m u)) (hok : a.Ok) (ht : Tabs a.ks a.row a.m.sets q.tabs) (hk : kinds q.xs = a.ks) {K : Sl → World → Prop}
  (hK : ∀ s w', Hp S w0 w' (q.all b a.m u ++ [tB s a.snap]) → K s w') : c16 (some ⟨b, 0, none⟩) w K := by
 refine c16_of ?_
 unfold f16
 obtain ⟨inf', z1, z2, z3, z4⟩ := FT.inf3
 obtain ⟨g1, g2, g3, g4⟩ := stGens_rng hok.pok
 have hl12 := hok.len
 have h4k := hok.four
 refine nns ?_
 refine h.ld (n := 1) (k := .p) (x := some ⟨q.pb, 0, none⟩) 0 rfl rfl ?_
 refine FI.State_h h 4 (m := a.pool) hok.pok rfl fun gs fs w1 h => ?_
 have h : Hp S w0 w1 (q.all b a.m u ++ [tSl gs 3 1 iv a.pool.stGens, tSl fs 3 1 iv a.pool.free]) := h
 refine longs_spec h 8 (u := tSl gs 3 1 iv a.pool.stGens) rfl Hp.rdSl (by omega) fun r w2 h => ?_
 have h := h.nil 5 1 u8v
 have h : Hp S w0 w2 (q.all b a.m u ++ [tSl gs 3 1 iv a.pool.stGens, tSl fs 3 1 iv a.pool.free, tSl r 2 1 iv a.pool.stGens, tB ⟨none, 0, 0⟩ []]) := by
  simpa using h
 have l1 := rowU_len a.pool.stGens
 have l2 := rowU_len a.pool.free
 refine FP.PutRow_spec h 11 10 rfl Hp.rdSl rfl Hp.rdSl g1 (by omega) (by simp) fun r2 w3 h => ?_
 rw [List.nil_append] at h
 have h : Hp S w0 w3 (q.all b a.m u ++ [tSl gs 3 1 iv a.pool.stGens, tSl fs 3 1 iv a.pool.free, tSl r 2 1 iv a.pool.stGens, tB ⟨none, 0, 0⟩ []] ++ [tB r2 (rowU a.pool.stGens)]) := h
 refine longs_spec h 9 (u := tSl fs 3 1 iv a.pool.free) rfl Hp.rdSl (by omega) fun r3 w4 h => ?_
 refine FP.PutRow_spec h 12 13 rfl Hp.rdSl rfl Hp.rdSl g3 (by omega) (by omega) fun b0 w5 h => ?_
 have h : Hp S w0 w5 (q.all b a.m u ++ [tSl gs 3 1 iv a.pool.stGens, tSl fs 3 1 iv a.pool.free, tSl r 2 1 iv a.pool.stGens, tB ⟨none, 0, 0⟩ [], tB r2 (rowU a.pool.stGens), tSl r3 2 1 iv a.pool.free] ++ [tB b0 (rowU a.pool.stGens ++ rowU a.pool.free)]) := h
 have h := h.cutMid
 refine Rows_o h hok ht hk fun r4 w6 h => ?_
 obtain ⟨xs, hxs, h⟩ := h.nest_open (i := 9) (e := 65) (n := 3) (cells := rdv) (sub := tPs) (vis := rvis) (s := r4) (l := a.rows) rfl
 obtain ⟨pre, hpre⟩ : ∃ pre, pre = rowU a.pool.stGens ++ rowU a.pool.free := ⟨_, rfl⟩
 have hprel : pre.length ≤ 5000 := by rw [hpre, List.length_append]; omega
 have h : Hp S w0 w6 (q.all b a.m u ++ [tB b0 (pre ++ []), tSl r4 65 3 rdv xs, tAll (xs.map tPs)]) := by
  rw [List.append_nil, hpre]; exact h
 have hrl := h.len (s := r4) 9 rfl
 have hxl : xs.length = a.all.length := by
  have := congrArg List.length hxs
  unfold WA.rows at this
  simpa using this
 have hal : a.all.length ≤ 200 := by
  have h1 := PoolM.allU_len a.pool a.pool.gens.length
  have h2 := hok.pok.len200
  show (a.pool.allU a.pool.gens.length).length ≤ 200
  omega
 obtain ⟨acc, hacc⟩ : ∃ acc : Nat → List Int, acc = fun k => (a.all.take k).flatMap fun e => snapRow ((a.row e).getD []) := ⟨_, rfl⟩
 have haccl : ∀ k, (acc k).length ≤ 490 * k := by
  intro k
  rw [hacc]
  induction k with
  | zero => simp
  | succ k ih =>
   dsimp only at ih ⊢
   by_cases hkl : k < a.all.length
   ·rw [List.take_succ_eq_append_getElem hkl, List.flatMap_append, List.length_append]
    obtain ⟨p, hr⟩ := all_lives hok (List.getElem_mem hkl)
    simp only [List.flatMap_cons, List.flatMap_nil, List.append_nil, hr]
    unfold snapRow
    rw [List.length_append]
    have e1 := putU_len (setI p)
    have e2 := encZ_len (flat p)
    have e3 := (ht.fit _ p hr).all
    have e4 := atF_le h4k (setI p) a.ks.length
    have e5 : (putU (setI p)).length + (encZ (flat p)).length ≤ 490 := by omega
    have e6 : 490 * (k + 1) = 490 * k + 490 := rfl
    rw [e6]
    exact Nat.add_le_add ih e5
   ·rw [List.take_of_length_le (by omega)]
    rw [List.take_of_length_le (by omega)] at ih
    omega
 refine ⟨fun b2 t29 mm w' => ∃ k : Nat, t29 = k ∧ k ≤ xs.length ∧ mm = xs.length - k ∧ Hp S w0 w' (q.all b a.m u ++ [tB b2 (pre ++ acc k), tSl r4 65 3 rdv xs, tAll (xs.map tPs)]), ⟨xs.length, 0, rfl, by omega, rfl, by rw [hacc]; exact h⟩, ?_⟩
 clear h
 rintro b2 t29 mm w7 ⟨k, rfl, hkk, rfl, h⟩
 by_cases hlt : k < xs.length
 ·refine ifT (by simp; omega) ?_
  have hx : xs[k]? = some xs[k] := by simp [hlt]
  have hak : a.all[k]? = some (a.all[k]'(by omega)) := by simp [show k < a.all.length by omega]
  have hvis : rvis xs[k] = a.rowT (a.all[k]'(by omega)) := by
   have h1 : (xs.map rvis)[k]? = some (rvis xs[k]) := by rw [List.getElem?_map, hx]; rfl
   rw [hxs] at h1
   unfold WA.rows at h1
   rw [List.getElem?_map, hak] at h1
   exact (Option.some.inj h1).symm
  obtain ⟨p, hr⟩ := all_lives hok (List.getElem_mem (show k < a.all.length by omega))
  have hstep : acc (k + 1) = acc k ++ (putU (setI p) ++ encZ (flat p)) := by
   rw [hacc]
   dsimp only
   rw [List.take_succ_eq_append_getElem (show k < a.all.length by omega), List.flatMap_append]
   simp only [List.flatMap_cons, List.flatMap_nil, List.append_nil, hr]
   rfl
  generalize xs[k] = x at hx hvis
  generalize a.all[k]'(by omega) = e0 at hak hvis hr
  obtain ⟨e, ps, parts⟩ := x
  unfold rvis WA.rowT at hvis
  obtain ⟨rfl, hparts⟩ := Prod.mk.inj hvis
  rw [hr] at hparts
  have hparts : parts = partsOf p := hparts
  subst hparts
  have hfit := ht.fit e p hr
  have hp12 : p.length ≤ 12 := by rw [hfit.1]; omega
  have hs1 := setI_lt hp12
  have hs0 := setI_nn p
  have hset : a.m.sets e = some (setI p) := by show (a.row e).map setI = _; rw [hr]; rfl
  have hrng := hok.rng e p hr
  have hfl48 : (flat p).length ≤ 48 := by
   have := atF_le h4k (setI p) a.ks.length
   rw [hfit.all]; omega
  have hak2 := haccl k
  refine h.ixr (s := r4) (l := xs) (f := rdv) (n := 3) (e := 65) 9 rfl (by omega) (by rw [Int.toNat_natCast]; exact hx) rdv_len fun ad hc => ?_
  refine ldR0 (k := .i .i64) (x := e.1) (hc 0 (by omega)) rfl ?_
  refine ldR (k := .i .i64) (x := e.2) (hc 1 (by omega)) rfl ?_
  refine ldR (k := .sl) (x := ps) (hc 2 (by omega)) rfl ?_
  refine h.nw (c := [_, _, _]) fun rb w8 h => ?_
  have h := h.up
  refine h.st0 8 rfl (by simp) rfl fun w9 h => ?_
  refine h.st (n := 1) 8 rfl (by simp) rfl fun w10 h => ?_
  refine h.st (n := 2) 8 rfl (by simp) rfl fun w11 h => ?_
  have h : Hp S w0 w11 (q.all b a.m u ++ (tBlk rb 65 [.int .i64 e.1, .int .i64 e.2, .slice ps.a ps.len ps.cap] :: [tB b2 (pre ++ acc k), tSl r4 65 3 rdv xs, tAll (xs.map tPs)])) := h
  refine h.dr fun w12 h => ?_
  refine nns ?_
  refine h.ld (n := 2) (k := .m) (x := some q.ms) 0 rfl rfl ?_
  refine h.ld0 (k := .i .i64) (x := e.1) 8 rfl rfl ?_
  refine h.ld (n := 1) (k := .i .i64) (x := e.2) 8 rfl rfl ?_
  refine h.lookup1 (kd := .i .i64) (vk := id) (z := (0 : Int)) (ek := entV) (ev := Value.int .i64) (g := a.m.sets) (k := e) 5 rfl rfl und98 keyEnt z1 z2 (fun _ => rfl) ?_
  rw [hset]
  dsimp only [id_eq]
  rw [FP.w64, Int.emod_eq_of_lt hs0 (by omega)]
  refine FP.Put_spec h 9 rfl Hp.rdSl hs0 (by omega) (by rw [List.length_append]; omega) fun b3 w13 h => ?_
  have h := h.up
  have h : Hp S w0 w13 ((q.all b a.m u ++ [tB b3 (pre ++ acc k ++ putU (setI p)), tBlk rb 65 [.int .i64 e.1, .int .i64 e.2, .slice ps.a ps.len ps.cap]]) ++ [tB b2 (pre ++ acc k)] ++ [tSl r4 65 3 rdv xs, tAll (xs.map tPs)]) := h
  have h := h.cutMid
  refine h.ld (n := 2) (k := .sl) (x := ps) 9 rfl rfl ?_
  have h := h.pick (i := 11) (k := k) (t := tPs (e, ps, partsOf p)) rfl (by rw [List.getElem?_map, hx]; rfl) rfl
  obtain ⟨ys, hys, h⟩ := h.nest_open (i := 12) (e := 40) (n := 2) (cells := pdv) (sub := tV) (vis := pvis) (s := ps) (l := partsOf p) rfl
  obtain ⟨pre2, hpre2⟩ : ∃ pre2, pre2 = pre ++ acc k ++ putU (setI p) := ⟨_, rfl⟩
  have hpre2l : pre2.length ≤ 200000 := by
   have := putU_len (setI p)
   rw [hpre2, List.length_append, List.length_append]; omega
  obtain ⟨T', hT'⟩ : ∃ T', T' = tAll ((xs.map tPs).set k tEmp) := ⟨_, rfl⟩
  have h : Hp S w0 w13 (q.all b a.m u ++ [tB b3 (pre2 ++ []), tBlk rb 65 [.int .i64 e.1, .int .i64 e.2, .slice ps.a ps.len ps.cap], tSl r4 65 3 rdv xs, T', tSl ps 40 2 pdv ys, tAll (ys.map tV)]) := by
   rw [List.append_nil, hpre2, hT']; exact h
  have hpsl := h.len (s := ps) 12 rfl
  have hyl : ys.length = (partsOf p).length := by rw [← hys, List.length_map]
  have hpl12 : (partsOf p).length ≤ 12 := by have := partsU_len p p.length; unfold partsOf; omega
  have htotal := enc_parts p
  have hy4 : ∀ y ∈ partsOf p, y.2.length ≤ 48 ∧ R64 y.2 := by
   intro y hy
   have : ∀ k, ∀ y ∈ partsU p k, some y.2 ∈ p := by
    intro k
    induction k with
    | zero => simp [partsU]
    | succ k ih =>
     intro y hy
     rw [partsU] at hy
     rcases List.mem_append.1 hy with hy | hy
     ·exact ih y hy
     ·split at hy
      ·rename_i v hv
       simp only [List.mem_singleton] at hy
       subst hy
       exact List.mem_of_getElem? (getD_some hv)
      ·cases hy
   have hm := this _ y hy
   refine ⟨?_, fun z hz => hrng z (List.mem_flatMap.2 ⟨some y.2, hm, hz⟩)⟩
   obtain ⟨i, hi⟩ := List.getElem?_of_mem hm
   have := flat_split hi
   have hl := congrArg List.length this
   simp only [List.length_append, Option.getD_some] at hl
   omega
  obtain ⟨accP, haccP⟩ : ∃ accP : Nat → List Int, accP = fun j => ((partsOf p).take j).flatMap fun x => encZ x.2 := ⟨_, rfl⟩
  have haccPl : ∀ j, (accP j).length ≤ 480 * j := by
   intro j
   rw [haccP]
   induction j with
   | zero => simp
   | succ j ih =>
    dsimp only at ih ⊢
    by_cases hjl : j < (partsOf p).length
    ·rw [List.take_succ_eq_append_getElem hjl, List.flatMap_append, List.length_append]
     simp only [List.flatMap_cons, List.flatMap_nil, List.append_nil]
     have e1 := encZ_len ((partsOf p)[j]).2
     have e2 := (hy4 _ (List.getElem_mem hjl)).1
     omega
    ·rw [List.take_of_length_le (by omega)]
     rw [List.take_of_length_le (by omega)] at ih
     omega
  refine ⟨fun b4 t46 mm2 w' => ∃ j : Nat, t46 = j ∧ j ≤ ys.length ∧ mm2 = ys.length - j ∧ Hp S w0 w' (q.all b a.m u ++ [tB b4 (pre2 ++ accP j), tBlk rb 65 [.int .i64 e.1, .int .i64 e.2, .slice ps.a ps.len ps.cap], tSl r4 65 3 rdv xs, T', tSl ps 40 2 pdv ys, tAll (ys.map tV)]), ⟨ys.length, 0, rfl, by omega, rfl, by rw [haccP]; exact h⟩, ?_⟩
  clear h
  rintro b4 t46 mm2 w14 ⟨j, rfl, hjj, rfl, h⟩
  by_cases hjlt : j < ys.length
  ·refine ifT (by simp; omega) ?_
   have hy : ys[j]? = some ys[j] := by simp [hjlt]
   have hpj : (partsOf p)[j]? = some (pvis ys[j]) := by rw [← hys, List.getElem?_map, hy]; rfl
   generalize ys[j] = y at hy hpj
   obtain ⟨kd, sv, v⟩ := y
   have hpj : (partsOf p)[j]? = some (kd, v) := hpj
   have hstepP : accP (j + 1) = accP j ++ encZ v := by
    rw [haccP]
    dsimp only
    have hjl := (List.getElem?_eq_some_iff.1 hpj).1
    have hje := (List.getElem?_eq_some_iff.1 hpj).2
    rw [List.take_succ_eq_append_getElem hjl, List.flatMap_append, hje]
    simp
   have hv := hy4 _ (List.mem_of_getElem? hpj)
   have haj := haccPl j
   have hv1 : v.length ≤ 48 := hv.1
   refine h.ixr (s := ps) (l := ys) (f := pdv) (n := 2) (e := 40) 12 rfl (by omega) (by rw [Int.toNat_natCast]; exact hy) pdv_len fun ad2 hc2 => ?_
   refine ldR0 (k := .i .i64) (x := kd) (hc2 0 (by omega)) rfl ?_
   refine ldR (k := .sl) (x := sv) (hc2 1 (by omega)) rfl ?_
   refine h.nw (c := [_, _]) fun pb w15 h => ?_
   have h := h.up
   refine h.st0 8 rfl (by simp) rfl fun w16 h => ?_
   refine h.st (n := 1) 8 rfl (by simp) rfl fun w17 h => ?_
   have h : Hp S w0 w17 (q.all b a.m u ++ [tBlk pb 40 [.int .i64 kd, .slice sv.a sv.len sv.cap], tB b4 (pre2 ++ accP j ++ encZ (v.take 0)), tBlk rb 65 [.int .i64 e.1, .int .i64 e.2, .slice ps.a ps.len ps.cap], tSl r4 65 3 rdv xs, T', tSl ps 40 2 pdv ys, tAll (ys.map tV)]) := by
    have e0 : encZ (v.take 0) = [] := rfl
    rw [e0, List.append_nil]; exact h
   have hrd : Hp.Reads (tAll (ys.map tV)) sv 1 iv v := ⟨fun {w O} hO => by
    obtain ⟨O1, O2, g, _⟩ := tAll_pick (k := j) (t := tV (kd, sv, v)) (by rw [List.getElem?_map, hy]; rfl) hO
    exact ⟨O1, SlF.toR g⟩⟩
   have hvl := h.lenU 14 (u := tAll (ys.map tV)) rfl hrd
   refine h.ld (n := 1) (k := .sl) (x := sv) 8 rfl rfl ?_
   refine ⟨fun b5 t53 mm3 w' => ∃ i : Nat, t53 = i ∧ i ≤ v.length ∧ mm3 = v.length - i ∧ Hp S w0 w' (q.all b a.m u ++ [tBlk pb 40 [.int .i64 kd, .slice sv.a sv.len sv.cap], tB b5 (pre2 ++ accP j ++ encZ (v.take i)), tBlk rb 65 [.int .i64 e.1, .int .i64 e.2, .slice ps.a ps.len ps.cap], tSl r4 65 3 rdv xs, T', tSl ps 40 2 pdv ys, tAll (ys.map tV)]), ⟨v.length, 0, rfl, by omega, rfl, h⟩, ?_⟩
   clear h
   rintro b5 t53 mm3 w18 ⟨i, rfl, hii, rfl, h⟩
   by_cases hilt : i < v.length
   ·refine ifT (by simp; omega) ?_
    have hvi : v[i]? = some v[i] := by simp [hilt]
    have hsz : encZ (v.take (i + 1)) = encZ (v.take i) ++ putU (zig v[i]) := by
     unfold encZ
     rw [List.take_succ_eq_append_getElem hilt, List.flatMap_append]; simp
    have hvr := hv.2 v[i] (List.getElem_mem hilt)
    have hel := encZ_len (v.take i)
    rw [List.length_take] at hel
    generalize v[i] = z at hvi hsz hvr
    refine h.ixldU (k := .i .i64) (u := tAll (ys.map tV)) (y := z) (x := z) 14 rfl hrd (by omega) (by rw [Int.toNat_natCast]; exact hvi) iv_len rfl ?_
    refine FP.PutInt_spec h 9 rfl Hp.rdSl hvr.1 hvr.2 (by rw [List.length_append, List.length_append]; omega) fun b6 w19 h => ?_
    have h := h.up
    have h : Hp S w0 w19 ((q.all b a.m u ++ [tB b6 (pre2 ++ accP j ++ encZ (v.take i) ++ putU (zig z)), tBlk pb 40 [.int .i64 kd, .slice sv.a sv.len sv.cap]]) ++ [tB b5 (pre2 ++ accP j ++ encZ (v.take i))] ++ [tBlk rb 65 [.int .i64 e.1, .int .i64 e.2, .slice ps.a ps.len ps.cap], tSl r4 65 3 rdv xs, T', tSl ps 40 2 pdv ys, tAll (ys.map tV)]) := h
    have h := h.cutMid
    have h : Hp S w0 w19 (q.all b a.m u ++ [tB b6 (pre2 ++ accP j ++ encZ (v.take i) ++ putU (zig z))] ++ [tBlk pb 40 [.int .i64 kd, .slice sv.a sv.len sv.cap]] ++ [tBlk rb 65 [.int .i64 e.1, .int .i64 e.2, .slice ps.a ps.len ps.cap], tSl r4 65 3 rdv xs, T', tSl ps 40 2 pdv ys, tAll (ys.map tV)]) := h
    have h := h.mid
    refine ⟨v.length - (i + 1), by omega, i + 1, by rw [wr64 (by omega) (by omega)]; omega, by omega, rfl, ?_⟩
    rw [hsz, ← List.append_assoc]
    exact h
   ·refine ifF (by simp; omega) ?_
    rw [List.take_of_length_le (by omega)] at h
    have h : Hp S w0 w18 (q.all b a.m u ++ [tBlk pb 40 [.int .i64 kd, .slice sv.a sv.len sv.cap]] ++ [tB b5 (pre2 ++ accP j ++ encZ v), tBlk rb 65 [.int .i64 e.1, .int .i64 e.2, .slice ps.a ps.len ps.cap], tSl r4 65 3 rdv xs, T', tSl ps 40 2 pdv ys, tAll (ys.map tV)]) := h
    have h := h.cutMid
    refine ⟨ys.length - (j + 1), by omega, j + 1, by rw [wr64 (by omega) (by omega)]; omega, by omega, rfl, ?_⟩
    rw [hstepP, ← List.append_assoc]
    exact h
  ·refine ifF (by simp; omega) ?_
   have haP : accP j = encZ (flat p) := by
    rw [haccP]
    dsimp only
    rw [List.take_of_length_le (by omega), htotal]
   rw [haP, hT'] at h
   have h := h.nest_close (i := 12) (j := 13) (e := 40) (n := 2) (cells := pdv) (sub := tV) (vis := pvis) (s := ps) (xs := ys) (l := partsOf p) (by decide) rfl rfl hys
   have hkx : k < (xs.map tPs).length := by simpa using hlt
   have h := h.unpick (i := 11) (j := 12) (k := k) (ts := (xs.map tPs).set k tEmp) (t := tPs (e, ps, partsOf p)) (by decide) rfl rfl (by rw [List.getElem?_set_self hkx]) rfl
   rw [List.set_set] at h
   have eb : (xs.map tPs).set k (tPs (e, ps, partsOf p)) = xs.map tPs := Hp.set_same' (by rw [List.getElem?_map, hx]; rfl)
   rw [eb] at h
   have h : Hp S w0 w14 (q.all b a.m u ++ [tB b4 (pre2 ++ encZ (flat p)), tBlk rb 65 [.int .i64 e.1, .int .i64 e.2, .slice ps.a ps.len ps.cap], tSl r4 65 3 rdv xs, tAll (xs.map tPs)] ++ [tEmp, tEmp]) := h
   have h := h.front
   have h : Hp S w0 w14 ((q.all b a.m u ++ [tB b4 (pre2 ++ encZ (flat p))]) ++ [tBlk rb 65 [.int .i64 e.1, .int .i64 e.2, .slice ps.a ps.len ps.cap]] ++ [tSl r4 65 3 rdv xs, tAll (xs.map tPs)]) := h
   have h := h.cutMid
   refine ⟨xs.length - (k + 1), by omega, k + 1, by rw [wr64 (by omega) (by omega)]; omega, by omega, rfl, ?_⟩
   rw [hstep]
   rw [hpre2] at h
   simp only [List.append_assoc] at h ⊢
   exact h
 ·refine ifF (by simp; omega) ?_
  have hfin : pre ++ acc k = a.snap := by
   rw [hpre, hacc]
   dsimp only
   rw [List.take_of_length_le (by omega)]
   rfl
  rw [hfin] at h
  have h : Hp S w0 w7 (q.all b a.m u ++ [tB b2 a.snap] ++ [tSl r4 65 3 rdv xs, tAll (xs.map tPs)]) := h
  exact hK b2 w7 h.front
theorem Snapshot_W (h : Hp S w0 w its) (i : Nat) {b : Nat} {a : WA} (hi : its[i]? = some (tW b a)) {K : Sl → World → Prop}
  (hK : ∀ s w', Hp S w0 w' (its ++ [tB s a.snap]) → K s w') : c16 (some ⟨b, 0, none⟩) w K := by
 obtain ⟨O, h1, back⟩ := h.f1 hi rfl
 clear h
 obtain ⟨q, hok, ht, hk, h⟩ := W_open h1
 rw [List.append_nil] at h
 refine Snapshot_o h hok ht hk fun s w' h => ?_
 exact hK s w' (W_fin hi back rfl (W_shut (rest := [_]) (m := a.m) hok ht hk rfl rfl h))
end
end Go.Proofs.Ytcccjgmekakabaa.FW
end

section
namespace Go.Proofs.Ytcccjgmekakabaa.FW
open F
open Go Go.Den Go.Proofs
open FI (PoolM tPool)
open FT (TabM tTab Ent entV ent ent_len atI keyEnt iv iv_len)
open FP (putU zig encZ rowU tB putU_len encZ_len R64)
def kvis (x : KS) : ByteArray × List ByteArray := (x.1, x.2.2)
def tKinds (s : Sl) (l : KD) : Thing := tNest 94 2 kdv tF kvis s l
def WA.new (ks : KD) : WA := ⟨ks, ⟨200, [], [], []⟩, fun _ => none⟩
theorem WA.new_ok {ks : KD} (h : mayOk ks) : (WA.new ks).Ok := by
 refine ⟨FI.ok2_new (by decide) (by decide), rfl, h, fun e => ?_, fun e p hp => by cases hp⟩
 show false = PoolM.is ⟨200, [], [], []⟩ e.1 e.2
 unfold PoolM.is PoolM.lives
 simp
def usualK : KD := [(⟨#[80, 111, 115]⟩, [⟨#[120]⟩, ⟨#[121]⟩]), (⟨#[86, 101, 108]⟩, [⟨#[120]⟩]), (⟨#[68, 101, 97, 100]⟩, []), (⟨#[66, 111, 120]⟩, [⟨#[97]⟩, ⟨#[98]⟩, ⟨#[99]⟩, ⟨#[100]⟩])]
theorem words_of {L : List ByteArray} (h : (L.all fun x => decide (wordOk (strL x))) = true) (hn : L.Nodup) : wordsOk L := fun i hi => by
 refine ⟨of_decide_eq_true (List.all_eq_true.1 h _ (List.getElem_mem hi)), fun hm => ?_⟩
 obtain ⟨j, hj, he⟩ := List.mem_iff_getElem.1 hm
 rw [List.getElem_take] at he
 have := (List.getElem?_inj (i := j) (j := i) (by simp at hj; omega) hn).1 (by simp only [List.getElem?_eq_getElem (show j < L.length by simp at hj; omega), List.getElem?_eq_getElem hi, he])
 simp at hj; omega
theorem usual_may : mayOk usualK := by
 refine ⟨fun x hx => ?_, by decide, by decide, words_of (by decide) (by decide)⟩
 simp only [usualK, List.mem_cons, List.not_mem_nil, or_false] at hx
 rcases hx with rfl | rfl | rfl | rfl
 ·exact ⟨by decide, words_of (by decide) (by decide)⟩
 ·exact ⟨by decide, words_of (by decide) (by decide)⟩
 ·exact ⟨by decide, words_of (by decide) (by decide)⟩
 ·exact ⟨by decide, words_of (by decide) (by decide)⟩
section
variable {S : List Nat} {w0 w : World} {its : List Thing}
theorem New_W (h : Hp S w0 w its) (i : Nat) {s : Sl} {l : KD} (hi : its[i]? = some (tKinds s l)) (hl : l.length ≤ 1000000) (hsz : ∀ x ∈ l, x.1.size ≤ 1000000000000 ∧ ∀ y ∈ x.2, y.size ≤ 1000000000000) {K : Option Addr → Int → World → Prop}
  (hok : mayOk l → ∀ b w', Hp S w0 w' (its ++ [tW b (WA.new l)]) → K (some ⟨b, 0, none⟩) 0 w') (hno : ¬ mayOk l → ∀ w', Hp S w0 w' its → K none 65 w') : c10 s w K := by
 have hil := (List.getElem?_eq_some_iff.1 hi).1
 obtain ⟨xs, hxs, h⟩ := h.nest_open hi
 have hk : kinds xs = l := hxs
 have hxl : xs.length = l.length := by rw [← hxs, List.length_map]
 have e1 : (its.set i (tSl s 94 2 kdv xs) ++ [tAll (xs.map tF)])[i]? = some (tSl s 94 2 kdv xs) := by
  rw [List.getElem?_append_left (by simpa using hil), List.getElem?_set_self hil]
 have e2 : (its.set i (tSl s 94 2 kdv xs) ++ [tAll (xs.map tF)])[its.length]? = some (tAll (xs.map tF)) := by
  rw [List.getElem?_append_right (by simp)]; simp
 have back : ∀ {w' : World} {more : List Thing}, Hp S w0 w' (its.set i (tSl s 94 2 kdv xs) ++ [tAll (xs.map tF)] ++ more) → Hp S w0 w' (its ++ more) := fun {w' more} h => by
  have h := h.nest_close (i := i) (j := its.length) (e := 94) (n := 2) (cells := kdv) (sub := tF) (vis := kvis) (s := s) (xs := xs) (l := l) (by omega) (by rw [List.getElem?_append_left (by simp; omega)]; exact e1) (by rw [List.getElem?_append_left (by simp)]; exact e2) hxs
  have e3 : ((its.set i (tSl s 94 2 kdv xs) ++ [tAll (xs.map tF)] ++ more).set i (tNest 94 2 kdv tF kvis s l)).set its.length tEmp = its ++ [tEmp] ++ more := by
   rw [List.append_assoc, List.set_append_left _ _ (by simpa using hil), List.set_set, List.set_append_right _ _ (by simp), Hp.set_same' (x := tNest 94 2 kdv tF kvis s l) hi]
   simp
  rw [e3] at h
  exact h.cutMid
 refine New_spec h i its.length e1 e2 (by omega) (fun x hx => ?_) (fun hm b w' h => ?_) (fun hm w' h => ?_)
 ·have := hsz (x.1, x.2.2) (by rw [← hk]; exact List.mem_map.2 ⟨x, hx, rfl⟩)
  exact this
 ·rw [hk] at hm h
  refine hok hm b w' ?_
  have h := back h
  have h := h.putAnd (i := its.length) (p := (WA.new l).Ok ∧ Tabs l (fun _ => none) (WA.new l).m.sets []) ⟨WA.new_ok hm, Tabs.new l⟩ List.getElem?_concat_length rfl
  rw [set_last] at h
  have h := h.putEx (i := its.length) (f := fun T : List (Int × TabM) => tAnd ((WA.new l).Ok ∧ Tabs (WA.new l).ks (WA.new l).row (WA.new l).m.sets T) (tWorld b ⟨(WA.new l).ks, (WA.new l).pool, (WA.new l).m.sets, T⟩)) [] List.getElem?_concat_length rfl
  rw [set_last] at h
  exact h
 ·rw [hk] at hm
  refine hno hm w' ?_
  have h : Hp S w0 w' (its.set i (tSl s 94 2 kdv xs) ++ [tAll (xs.map tF)] ++ []) := by rw [List.append_nil]; exact h
  have := back h
  rwa [List.append_nil] at this
theorem usual_spec (h : Hp S w0 w its) {K : Sl → World → Prop} (hK : ∀ s w', Hp S w0 w' (its ++ [tKinds s usualK]) → K s w') : c11 w K := by
 refine c11_of ?_
 unfold f11
 refine h.nwS (l := [(⟨#[120]⟩ : ByteArray), ⟨#[121]⟩]) (f := sv) (n := 1) (c := [_, _]) rfl rfl sv_len fun b1 w1 h => ?_
 refine h.nwS (l := [(⟨#[120]⟩ : ByteArray)]) (f := sv) (n := 1) (c := [_]) rfl rfl sv_len fun b2 w2 h => ?_
 have h := h.nil 9 1 sv
 refine h.nwS (l := [(⟨#[97]⟩ : ByteArray), ⟨#[98]⟩, ⟨#[99]⟩, ⟨#[100]⟩]) (f := sv) (n := 1) (c := [_, _, _, _]) rfl rfl sv_len fun b3 w3 h => ?_
 refine h.nwS (l := [((⟨#[80, 111, 115]⟩, ⟨some ⟨b1, 0, none⟩, 2, 2⟩, [⟨#[120]⟩, ⟨#[121]⟩]) : KS), (⟨#[86, 101, 108]⟩, ⟨some ⟨b2, 0, none⟩, 1, 1⟩, [⟨#[120]⟩]), (⟨#[68, 101, 97, 100]⟩, ⟨none, 0, 0⟩, []), (⟨#[66, 111, 120]⟩, ⟨some ⟨b3, 0, none⟩, 4, 4⟩, [⟨#[97]⟩, ⟨#[98]⟩, ⟨#[99]⟩, ⟨#[100]⟩])]) (f := kdv) (n := 2) (c := [_, _, _, _, _, _, _, _]) rfl rfl kdv_len fun b4 w4 h => ?_
 have h : Hp S w0 w4 (its ++ [tSl ⟨some ⟨b1, 0, none⟩, 2, 2⟩ 9 1 sv [⟨#[120]⟩, ⟨#[121]⟩], tSl ⟨some ⟨b2, 0, none⟩, 1, 1⟩ 9 1 sv [⟨#[120]⟩], tSl ⟨none, 0, 0⟩ 9 1 sv [], tSl ⟨some ⟨b3, 0, none⟩, 4, 4⟩ 9 1 sv [⟨#[97]⟩, ⟨#[98]⟩, ⟨#[99]⟩, ⟨#[100]⟩]] ++ [tSl ⟨some ⟨b4, 0, none⟩, 4, 4⟩ 94 2 kdv [((⟨#[80, 111, 115]⟩, ⟨some ⟨b1, 0, none⟩, 2, 2⟩, [⟨#[120]⟩, ⟨#[121]⟩]) : KS), (⟨#[86, 101, 108]⟩, ⟨some ⟨b2, 0, none⟩, 1, 1⟩, [⟨#[120]⟩]), (⟨#[68, 101, 97, 100]⟩, ⟨none, 0, 0⟩, []), (⟨#[66, 111, 120]⟩, ⟨some ⟨b3, 0, none⟩, 4, 4⟩, [⟨#[97]⟩, ⟨#[98]⟩, ⟨#[99]⟩, ⟨#[100]⟩])]]) := by
  simpa using h
 have h := h.swap2
 rw [List.append_assoc] at h
 exact hK _ w4 (h.nest_make (vis := kvis) (sub := tF) rfl)
def exA : WA := ((WA.new usualK).spawn [(2, [7]), (1, [1, 2])]).1
def exB : WA := (exA.spawn []).1
def exC : WA := (exB.add (1, 1) (3, [])).1
def exD : WA := (exC.add (1, 1) (3, [])).1
def exE : WA := (exD.despawn (0, 1)).1
theorem ex1 : ((WA.new usualK).spawn [(2, [7]), (1, [1, 2])]).2 = ((0, 1), 0) := by decide
theorem ex2 : (exA.spawn []).2 = ((1, 1), 0) := by decide
theorem ex3 : (exB.add (1, 1) (3, [])).2 = 0 := by decide
theorem ex4 : (exC.add (1, 1) (3, [])).2 = 61 := by decide
theorem ex5 : (exD.despawn (0, 1)).2 = 0 := by decide
theorem ex6 : exE.snap = strL ⟨#[2, 0, 2, 2, 1, 0, 0, 8]⟩ := by decide
end
end Go.Proofs.Ytcccjgmekakabaa.FW
end

section
namespace Go.Proofs.Ytcccjgmekakabaa.FW
open F
open Go Go.Den Go.Proofs
open FI (PoolM tPool)
open FT (TabM tTab Ent entV ent ent_len atI keyEnt iv iv_len)
def RK (w : World) (O : List Nat) (s : Sl) (xs : List KS) : Prop := (∃ o, SlR w s 2 kdv xs o ∧ ∀ k ∈ o, k ∈ O) ∧ ∀ x ∈ xs, x.2.1.len ≤ x.2.1.cap ∧ ∃ o, SlR w x.2.1 1 sv x.2.2 o ∧ ∀ k ∈ o, k ∈ O
def tRK (s : Sl) (xs : List KS) : Thing :=
  { holds := fun w O => (∀ k ∈ O, k < w.heap.size) ∧ RK w O s xs
    fr := fun {S w w' O} h hf hn => ⟨fun k hk => by have := h.1 k hk; have := hf.size; omega, by
      obtain ⟨_, ⟨o, h1, h2⟩, h3⟩ := h
      refine ⟨⟨o, h1.fr hf (fun k hk => hn k (h2 k hk)), h2⟩, fun x hx => ?_⟩
      obtain ⟨q, o, h4, h5⟩ := h3 x hx
      exact ⟨q, o, h4.fr hf (fun k hk => hn k (h5 k hk)), h5⟩⟩
    lt := fun h => h.1 }
def RdK (w : World) (s : Sl) (l : KD) : Prop := ∃ (xs : List KS) (O : List Nat), kinds xs = l ∧ (tRK s xs).holds w O
theorem RdK.keep {w w' : World} {s : Sl} {l : KD} (h : RdK w s l) (hf : Fr [] w w') : RdK w' s l := by
 obtain ⟨xs, O, h1, h2⟩ := h
 exact ⟨xs, O, h1, (tRK s xs).fr h2 hf (by simp)⟩
theorem RdK.len {w : World} {s : Sl} {l : KD} (h : RdK w s l) : l.length = s.len := by
 obtain ⟨xs, O, rfl, _, ⟨o, h1, _⟩, _⟩ := h
 have := h1.1
 simpa [kinds] using this
theorem rk_readsu {u : Thing} {s : Sl} {xs : List KS} (hu : u.holds = (tRK s xs).holds) : Hp.Reads u s 2 kdv xs := ⟨fun {w O} h => by
 rw [hu] at h
 obtain ⟨_, ⟨o, h1, _⟩, _⟩ := h
 exact ⟨o, h1⟩⟩
theorem rk_reads {s : Sl} {xs : List KS} : Hp.Reads (tRK s xs) s 2 kdv xs := rk_readsu rfl
theorem rk_readsFu {u : Thing} {s : Sl} {xs : List KS} (hu : u.holds = (tRK s xs).holds) {k : Nat} {x : KS} (hx : xs[k]? = some x) : Hp.Reads u x.2.1 1 sv x.2.2 := ⟨fun {w O} h => by
 rw [hu] at h
 obtain ⟨_, _, h2⟩ := h
 obtain ⟨_, o, h3, _⟩ := h2 x (List.mem_of_getElem? hx)
 exact ⟨o, h3⟩⟩
theorem rk_readsF {s : Sl} {xs : List KS} {k : Nat} {x : KS} (hx : xs[k]? = some x) : Hp.Reads (tRK s xs) x.2.1 1 sv x.2.2 := rk_readsFu rfl hx
section
variable {S : List Nat} {w0 w : World} {its : List Thing}
theorem rk_cap (h : Hp S w0 w its) (i : Nat) {s : Sl} {xs : List KS} (hi : (its[i]?).map Thing.holds = some (tRK s xs).holds) : ∀ x ∈ xs, x.2.1.len ≤ x.2.1.cap ∧ x.2.2.length = x.2.1.len := fun x hx => by
 obtain ⟨O, _, _, h2⟩ := h.see' hi
 obtain ⟨q, o, h3, _⟩ := h2 x hx
 exact ⟨q, h3.1⟩
set_option maxHeartbeats 2000000 in
theorem may_u (h : Hp S w0 w its) (i : Nat) {s : Sl} {xs : List KS} (hi : (its[i]?).map Thing.holds = some (tRK s xs).holds) (hl : xs.length ≤ 1000000000) (hsz : ∀ x ∈ xs, x.1.size ≤ 1000000000000 ∧ ∀ y ∈ x.2.2, y.size ≤ 1000000000000) {K : Bool → World → Prop}
  (hK : ∀ w', Hp S w0 w' its → K (decide (mayOk (kinds xs))) w') : c42 s w K := by
 refine c42_of ?_
 unfold f42
 obtain ⟨inf, q1, q2, q3, q4⟩ := inf9
 have hsl := h.lenU i hi rk_reads
 have hcs := rk_cap h i hi
 have hn : ∀ {w}, Hp S w0 w its → Hp S w0 w (its ++ [tSl ⟨none, 0, 0⟩ 9 1 sv ([] : List ByteArray)]) := fun h => h.nil 9 1 sv
 refine ⟨fun names t m w' => ∃ k : Nat, t = k ∧ k ≤ xs.length ∧ m = xs.length - k ∧ (∀ q, (hq : q < xs.length) → q < k → (xs[q]).2.2.length ≤ 4 ∧ wordsOk (xs[q]).2.2) ∧ Hp S w0 w' (its ++ [tSl names 9 1 sv ((xs.take k).map (·.1))]), ⟨xs.length, 0, rfl, by omega, rfl, fun q _ h => by omega, by simpa using hn h⟩, ?_⟩
 clear h
 rintro names t m w2 ⟨k, rfl, hk, rfl, hall, h⟩
 have lft : ∀ {r : Nat} {t : Thing} {more : List Thing}, (its[r]?).map Thing.holds = some t.holds → ((its ++ more)[r]?).map Thing.holds = some t.holds := fun {r t more} hr => by
  have hlt : r < its.length := by
   rcases Nat.lt_or_ge r its.length with h | h
   ·exact h
   ·rw [List.getElem?_eq_none h] at hr; cases hr
  rw [List.getElem?_append_left hlt]; exact hr
 by_cases hlt : k < xs.length
 ·refine ifT (by simp; omega) ?_
  have hx : xs[k]? = some xs[k] := by simp [hlt]
  have hxz := hsz xs[k] (List.getElem_mem hlt)
  have htk : xs.take (k + 1) = xs.take k ++ [xs[k]] := List.take_succ_eq_append_getElem hlt
  have hmem : xs[k] ∈ xs := List.getElem_mem hlt
  have hallk : ∀ q, (hq : q < xs.length) → q = k → ((xs[k]).2.2.length ≤ 4 ∧ wordsOk (xs[k]).2.2) → (xs[q]).2.2.length ≤ 4 ∧ wordsOk (xs[q]).2.2 := fun q hq e h => by subst e; exact h
  have hcap := hcs _ hmem
  generalize xs[k] = x at hx hxz htk hmem hallk hcap
  have no : ¬ (x.2.2.length ≤ 4 ∧ wordsOk x.2.2) → ¬ mayOk (kinds xs) := fun hno hm => hno (hm.1 (x.1, x.2.2) (List.mem_map.2 ⟨x, hmem, rfl⟩))
  obtain ⟨O, hO⟩ := h.see' (lft hi)
  obtain ⟨o, hR⟩ := (rk_reads (s := s) (xs := xs)).rd hO
  refine SlR.ix kdv_len hR (by omega) (x := x) (by rw [Int.toNat_natCast]; exact hx) fun a hc => ?_
  refine ldR0 (k := .s) (x := x.1) (hc 0 (by omega)) rfl ?_
  refine ldR (k := .sl) (x := x.2.1) (hc 1 (by omega)) rfl ?_
  refine h.nw (c := [_, _]) fun kb w3 h => ?_
  have gk : ∀ {c : List Value} {t : Thing}, ((its ++ [t]) ++ [tBlk kb 94 c])[its.length + 1]? = some (tBlk kb 94 c) := fun {c t} => by rw [List.getElem?_append_right (by simp)]; simp
  have sk : ∀ {c c' : List Value} {t : Thing}, ((its ++ [t]) ++ [tBlk kb 94 c]).set (its.length + 1) (tBlk kb 94 c') = (its ++ [t]) ++ [tBlk kb 94 c'] := fun {c c' t} => by rw [List.set_append_right _ _ (by simp)]; simp
  refine h.st0 (its.length + 1) gk (by simp) rfl fun w4 h => ?_
  rw [sk] at h
  refine h.st (n := 1) (its.length + 1) gk (by simp) rfl fun w5 h => ?_
  rw [sk] at h
  have h : Hp S w0 w5 ((its ++ [tSl names 9 1 sv ((xs.take k).map (·.1))]) ++ [tBlk kb 94 [.string x.1, .slice x.2.1.a x.2.1.len x.2.1.cap]]) := h
  refine ⟨fun w' => (x.2.2.length ≤ 4 ∧ wordsOk x.2.2) ∧ Hp S w0 w' ((its ++ [tSl names 9 1 sv ((xs.take k).map (·.1))]) ++ [tBlk kb 94 [.string x.1, .slice x.2.1.a x.2.1.len x.2.1.cap]]), ?_, ?_⟩
  ·refine h.ld (n := 1) (k := .sl) (x := x.2.1) (its.length + 1) (by rw [gk]; rfl) rfl ?_
   by_cases h4 : x.2.1.len > 4
   ·refine ifT (by simp; omega) ?_
    have := hK _ h.front.front
    rwa [decide_eq_false (no fun hh => by omega)] at this
   refine ifF (by simp; omega) ?_
   refine h.ld (n := 1) (k := .sl) (x := x.2.1) (its.length + 1) (by rw [gk]; rfl) rfl ?_
   refine words_spec h i (u := tRK s xs) (by rw [List.append_assoc]; exact lft hi) (rk_readsF hx) (by omega) hcap.1 hxz.2 fun w6 h => ?_
   by_cases hw : wordsOk x.2.2
   ·exact ifF (by simpa using hw) ⟨⟨by omega, hw⟩, h⟩
   ·refine ifT (by simpa using hw) ?_
    have := hK _ h.front.front
    rwa [decide_eq_false (no fun hh => hw hh.2)] at this
  clear h
  rintro w6 ⟨hgood, h⟩
  refine h.ld0 (k := .s) (x := x.1) (its.length + 1) (by rw [gk]; rfl) rfl ?_
  have gn : ∀ {t : Thing} {more : List Thing}, ((its ++ [t]) ++ more)[its.length]? = some t := fun {t more} => by rw [List.append_assoc, List.getElem?_append_right (Nat.le_refl _)]; simp
  have hnl := h.len (s := names) (e := 9) (n := 1) (f := sv) (l := (xs.take k).map (·.1)) its.length (by rw [gn]; rfl)
  rw [List.length_map, List.length_take] at hnl
  refine h.nwapp (c := [_]) its.length x.1 gn sv_len und81 q1 q3 q2 rfl rfl (by simp [sv, Value.oneCell']) (by rw [q4]; omega) (by omega) fun names2 w7 h _ _ => ?_
  rw [List.append_assoc, List.set_append_right _ _ (Nat.le_refl _), Nat.sub_self] at h
  have h : Hp S w0 w7 ((its ++ [tSl names2 9 1 sv ((xs.take k).map (·.1) ++ [x.1])]) ++ [tBlk kb 94 [.string x.1, .slice x.2.1.a x.2.1.len x.2.1.cap]]) := by
   rw [List.append_assoc]; exact h
  refine ⟨xs.length - (k + 1), by omega, k + 1, by rw [wr64 (by omega) (by omega)]; omega, by omega, rfl, fun q hq hqk => ?_, ?_⟩
  ·by_cases hq2 : q < k
   ·exact hall q hq hq2
   ·exact hallk q hq (by omega) hgood
  ·rw [htk, List.map_append]
   exact h.front
 ·refine ifF (by simp; omega) ?_
  rw [List.take_of_length_le (by omega)] at h
  have hkl : (kinds xs).length = xs.length := by simp [kinds]
  have hnm : (kinds xs).map (·.1) = xs.map (·.1) := by simp [kinds]
  have gl : (its ++ [tSl names 9 1 sv (xs.map (·.1))])[its.length]? = some (tSl names 9 1 sv (xs.map (·.1))) := by simp
  by_cases h1 : 1 ≤ xs.length
  ·refine ifT (by simp; omega) ?_
   by_cases h12 : xs.length ≤ 12
   ·refine ifT (by simp; omega) ?_
    have hcap := h.cap its.length (s := names) (e := 9) (n := 1) (f := sv) (l := xs.map (·.1)) (by rw [gl]; rfl)
    refine words_spec h its.length (u := tSl names 9 1 sv (xs.map (·.1))) (by rw [gl]; rfl) Hp.rdSl (by simp; omega) hcap (fun y hy => by
     obtain ⟨x, hx, rfl⟩ := List.mem_map.1 hy
     exact (hsz x hx).1) fun w3 h => ?_
    have := hK _ h.front
    have e : mayOk (kinds xs) ↔ wordsOk (xs.map (·.1)) := by
     constructor
     ·intro hm; rw [← hnm]; exact hm.2.2.2
     ·intro hw
      refine ⟨fun y hy => ?_, by omega, by omega, by rw [hnm]; exact hw⟩
      obtain ⟨x, hx, rfl⟩ := List.mem_map.1 hy
      obtain ⟨q, hq, rfl⟩ := List.mem_iff_getElem.1 hx
      exact hall q hq (by omega)
    have e2 : decide (wordsOk (xs.map (·.1))) = decide (mayOk (kinds xs)) := by
     by_cases hw : wordsOk (xs.map (·.1))
     ·rw [decide_eq_true hw, decide_eq_true (e.2 hw)]
     ·rw [decide_eq_false hw, decide_eq_false (fun hm => hw (e.1 hm))]
    rw [e2]; exact this
   ·refine ifF (by simp; omega) ?_
    have := hK _ h.front
    rwa [decide_eq_false (fun hm => h12 (by have := hm.2.2.1; omega))] at this
  ·refine ifF (by simp; omega) ?_
   have := hK _ h.front
   rwa [decide_eq_false (fun hm => h1 (by have := hm.2.1; omega))] at this
theorem CloneK_u (h : Hp S w0 w its) (i : Nat) {u : Thing} {s : Sl} {xs : List KS} (hi : its[i]? = some u) (hu : Hp.Reads u s 2 kdv xs) (hl : xs.length ≤ 1000000) {K : Sl → World → Prop} (hK : ∀ r w', Hp S w0 w' (its ++ [tSl r 94 2 kdv xs]) → K r w') : c84 s w K := by
 refine c84_of ?_
 unfold f84
 obtain ⟨inf, q1, q2, q3, q4⟩ := inf94
 have hlt := (List.getElem?_eq_some_iff.1 hi).1
 have hsl := h.lenU i (by rw [hi]; rfl) hu
 by_cases hn : s.a.isNone = true
 ·refine ifT hn (hK _ _ ?_)
  have : xs = [] := by
   obtain ⟨O, hO⟩ := h.see hi
   obtain ⟨o, hR⟩ := hu.rd hO
   exact hR.isNil (by simpa using hn)
  rw [this]; exact h.nil 94 2 kdv
 ·refine ifF hn ?_
  refine h.nw (c := []) fun b w1 h => ?_
  have h := h.blkSl (i := its.length) (m := 0) (l := ([] : List KS)) (f := kdv) (n := 2) List.getElem?_concat_length rfl rfl kdv_len
  rw [set_last] at h
  refine h.appS its.length i (s := ⟨some ⟨b, 0, none⟩, 0, 0⟩) (s2 := s) List.getElem?_concat_length (by rw [List.getElem?_append_left hlt]; exact hi) hu kdv_len und22 q1 q3 q2 rfl (by simp [kdv, Value.oneCell']) (by rw [q4]; show (0 + s.len) * 40 ≤ _; omega) (by show 0 + s.len ≤ _; omega) fun r w2 h _ _ => ?_
  rw [set_last] at h
  exact hK r w2 h
theorem copied_u (h : Hp S w0 w its) (i : Nat) {s : Sl} {xs : List KS} {u : Thing} (hi : its[i]? = some u) (hu : u.holds = (tRK s xs).holds) (hl : xs.length ≤ 1000) (hlf : ∀ x ∈ xs, x.2.2.length ≤ 1000) {K : Sl → World → Prop}
  (hK : ∀ r ys w', kinds ys = kinds xs → Hp S w0 w' (its ++ [tSl r 94 2 kdv ys, tAll (ys.map tF)]) → K r w') : c44 s w K := by
 refine c44_of ?_
 unfold f44
 have hjl := (List.getElem?_eq_some_iff.1 hi).1
 refine CloneK_u h i hi (rk_readsu hu) (by omega) fun r w1 h => ?_
 have h := h.grow (Fr.refl _ _) (t := tAll (([] : List KS).map tF)) (O := []) rfl (by simp) rfl
 have hrl := h.len (s := r) (e := 94) (n := 2) (f := kdv) (l := xs) its.length (by simp)
 refine ⟨fun t m w' => ∃ (k : Nat) (ys : List KS), t = k ∧ k ≤ xs.length ∧ m = xs.length - k ∧ ys.length = k ∧ kinds ys = (kinds xs).take k ∧ Hp S w0 w' (its ++ [tSl r 94 2 kdv (ys ++ xs.drop k), tAll (ys.map tF)]), ⟨xs.length, 0, [], rfl, by omega, rfl, rfl, by simp [kinds], by simpa using h⟩, ?_⟩
 clear h
 rintro t m w2 ⟨k, ys, rfl, hk, rfl, hyl, hyk, h⟩
 have g0 : ∀ {a b : Thing} {more : List Thing}, (its ++ [a, b] ++ more)[its.length]? = some a := fun {a b more} => by rw [List.append_assoc, List.getElem?_append_right (Nat.le_refl _)]; simp
 have g0' : ∀ {a b : Thing}, (its ++ [a, b])[its.length]? = some a := fun {a b} => by rw [List.getElem?_append_right (Nat.le_refl _)]; simp
 have g1 : ∀ {a b c : Thing}, (its ++ [a, b] ++ [c])[its.length + 1]? = some b := fun {a b c} => by rw [List.append_assoc, List.getElem?_append_right (by omega)]; simp
 have g2 : ∀ {a b c : Thing}, (its ++ [a, b] ++ [c])[its.length + 2]? = some c := fun {a b c} => by rw [List.append_assoc, List.getElem?_append_right (by omega)]; simp
 by_cases hlt : k < xs.length
 ·refine ifT (by simp; omega) ?_
  have hx : xs[k]? = some xs[k] := by simp [hlt]
  have ed : xs.drop k = xs[k] :: xs.drop (k + 1) := List.drop_eq_getElem_cons hlt
  have hlx := hlf xs[k] (List.getElem_mem hlt)
  have hkk : (kinds xs).take (k + 1) = (kinds xs).take k ++ [(xs[k].1, xs[k].2.2)] := by
   rw [List.take_succ_eq_append_getElem (by simpa [kinds] using hlt)]; simp [kinds]
  generalize xs[k] = x at hx ed hlx hkk
  have hgx : (ys ++ xs.drop k)[((k : Nat) : Int).toNat]? = some x := by rw [Int.toNat_natCast, ed, List.getElem?_append_right (by omega), hyl, Nat.sub_self]; rfl
  refine h.ixr its.length (by rw [g0']; rfl) (by omega) hgx kdv_len fun a hc => ?_
  refine ldR (k := .sl) (x := x.2.1) (hc 1 (by omega)) rfl ?_
  refine CloneS_spec h i (u := u) (by rw [List.getElem?_append_left hjl]; exact hi) (rk_readsFu hu hx) (by omega) fun fs w3 h => ?_
  refine h.ixstm its.length (y := x) (y' := (x.1, fs, x.2.2)) (m := 1) g0 (by omega) hgx kdv_len (by omega) rfl rfl fun w4 h => ?_
  have e1 : (ys ++ xs.drop k).set ((k : Nat) : Int).toNat (x.1, fs, x.2.2) = ys ++ [(x.1, fs, x.2.2)] ++ xs.drop (k + 1) := by
   rw [Int.toNat_natCast, ed, List.set_append_right _ _ (by omega), hyl, Nat.sub_self, List.set_cons_zero]; simp
  rw [e1, List.append_assoc its, List.set_append_right _ _ (Nat.le_refl _), Nat.sub_self] at h
  have h : Hp S w0 w4 (its ++ [tSl r 94 2 kdv (ys ++ [(x.1, fs, x.2.2)] ++ xs.drop (k + 1)), tAll (ys.map tF)] ++ [tF (x.1, fs, x.2.2)]) := by rw [List.append_assoc]; exact h
  have h := all_moreF h (i := its.length + 1) (j := its.length + 2) (by omega) g1 g2
  have e2 : ((its ++ [tSl r 94 2 kdv (ys ++ [(x.1, fs, x.2.2)] ++ xs.drop (k + 1)), tAll (ys.map tF)] ++ [tF (x.1, fs, x.2.2)]).set (its.length + 1) (tAll ((ys ++ [(x.1, fs, x.2.2)]).map tF))).set (its.length + 2) tEmp = its ++ [tSl r 94 2 kdv (ys ++ [(x.1, fs, x.2.2)] ++ xs.drop (k + 1)), tAll ((ys ++ [(x.1, fs, x.2.2)]).map tF)] ++ [tEmp] := by
   rw [List.append_assoc, List.set_append_right _ _ (by omega), List.set_append_right _ _ (by omega)]
   simp
  rw [e2] at h
  refine ⟨xs.length - (k + 1), by omega, k + 1, ys ++ [(x.1, fs, x.2.2)], by rw [wr64 (by omega) (by omega)]; omega, by omega, rfl, by simp [hyl], ?_, h.front⟩
  rw [hkk, ← hyk]; simp [kinds]
 ·refine ifF (by simp; omega) ?_
  rw [List.drop_of_length_le (by omega), List.append_nil] at h
  refine hK r ys _ ?_ h
  rw [hyk, List.take_of_length_le (by simp [kinds]; omega)]
theorem New_u (h : Hp S w0 w its) (i : Nat) {s : Sl} {xs : List KS} {u : Thing} (hi : its[i]? = some u) (hu : u.holds = (tRK s xs).holds) (hl : xs.length ≤ 10000000) (hsz : ∀ x ∈ xs, x.1.size ≤ 1000000000000 ∧ ∀ y ∈ x.2.2, y.size ≤ 1000000000000) {K : Option Addr → Int → World → Prop}
  (hok : mayOk (kinds xs) → ∀ b w', Hp S w0 w' (its ++ [tWorld b ⟨kinds xs, ⟨200, [], [], []⟩, fun _ => none, []⟩]) → K (some ⟨b, 0, none⟩) 0 w') (hno : ¬ mayOk (kinds xs) → ∀ w', Hp S w0 w' its → K none 65 w') : c10 s w K := by
 refine c10_of ?_
 unfold f10
 refine may_u h i (by rw [hi]; exact congrArg some hu) (by omega) hsz fun w1 h => ?_
 by_cases hm : mayOk (kinds xs)
 ·rw [decide_eq_true hm]
  refine ifF (by simp) ?_
  have hil := (List.getElem?_eq_some_iff.1 hi).1
  have h4 : ∀ x ∈ xs, x.2.2.length ≤ 4 := fun x hx => (hm.1 (x.1, x.2.2) (List.mem_map.2 ⟨x, hx, rfl⟩)).1
  have h12 : xs.length ≤ 12 := by have := hm.2.2.1; simpa [kinds] using this
  refine FI.New_h h (n := 200) (by omega) (by omega) fun pb w2 h => ?_
  refine ifF (by simp) ?_
  refine copied_u h i (by rw [List.getElem?_append_left hil]; exact hi) hu (by omega) (fun x hx => by have := h4 x hx; omega) fun r ys w3 hys h => ?_
  refine h.nwMap fun ms w4 h => ?_
  refine h.nwMap fun mt w5 h => ?_
  refine h.nw (c := [_, _, _, _]) fun b w6 h => ?_
  have h := h.grow (Fr.refl _ _) (t := tAll (([] : List TT).map tT)) (O := []) rfl (by simp) rfl
  simp only [List.append_assoc, List.cons_append, List.nil_append] at h
  have getR : ∀ {l : List Thing} (k : Nat), (its ++ l)[its.length + k]? = l[k]? := fun {l} k => by rw [List.getElem?_append_right (by omega)]; simp
  have setR : ∀ {l : List Thing} (k : Nat) (t : Thing), (its ++ l).set (its.length + k) t = its ++ l.set k t := fun {l} k t => by rw [List.set_append_right _ _ (by omega)]; simp
  have h := h.newMp (i := its.length + 3) entV (Value.int .i64) (by rw [getR]; rfl)
  rw [setR] at h
  have h := h.newMp (i := its.length + 4) (Value.int .i64) pv (by rw [getR]; rfl)
  rw [setR] at h
  simp only [List.set_cons_zero, List.set_cons_succ] at h
  have et : (fun _ => none : Int → Option Nat) = tptr [] := rfl
  rw [et] at h
  have q : WH.fits ⟨kinds xs, ⟨200, [], [], []⟩, fun _ => none, []⟩ ⟨r, ys, pb, ms, mt, []⟩ := ⟨hys, rfl⟩
  have h := h.joinStar (i := its.length + 4) (j := its.length + 6) (by omega) (by rw [getR]; rfl) (by rw [getR]; rfl) rfl (tAll_own _)
  rw [setR, setR] at h
  simp only [List.set_cons_zero, List.set_cons_succ] at h
  have h := h.joinStar (i := its.length + 3) (j := its.length + 4) (by omega) (by rw [getR]; rfl) (by rw [getR]; rfl) rfl rfl
  rw [setR, setR] at h
  simp only [List.set_cons_zero, List.set_cons_succ] at h
  have h := h.joinStar (i := its.length + 0) (j := its.length + 3) (by omega) (by rw [getR]; rfl) (by rw [getR]; rfl) rfl rfl
  rw [setR, setR] at h
  simp only [List.set_cons_zero, List.set_cons_succ] at h
  have h := h.joinStar (i := its.length + 2) (j := its.length + 0) (by omega) (by rw [getR]; rfl) (by rw [getR]; rfl) (tAll_own _) rfl
  rw [setR, setR] at h
  simp only [List.set_cons_zero, List.set_cons_succ] at h
  have h := h.joinStar (i := its.length + 1) (j := its.length + 2) (by omega) (by rw [getR]; rfl) (by rw [getR]; rfl) rfl rfl
  rw [setR, setR] at h
  simp only [List.set_cons_zero, List.set_cons_succ] at h
  have h := h.joinStar (i := its.length + 5) (j := its.length + 1) (by omega) (by rw [getR]; rfl) (by rw [getR]; rfl) rfl rfl
  rw [setR, setR] at h
  simp only [List.set_cons_zero, List.set_cons_succ] at h
  have h := h.putAnd (i := its.length + 5) q (by rw [getR]; rfl) rfl
  rw [setR] at h
  simp only [List.set_cons_zero, List.set_cons_succ] at h
  have h := h.putEx (f := fun q : WH => tAnd (q.fits ⟨kinds xs, ⟨200, [], [], []⟩, fun _ => none, []⟩) (tStar (q.blk b) (tStar (tSl q.sk 94 2 kdv q.xs) (tStar (tAll (q.xs.map tF)) (tStar (tPool 149 q.pb ⟨200, [], [], []⟩) (tStar (tMp q.ms entV (Value.int .i64) (fun _ => none)) (tStar (tMp q.mt (Value.int .i64) pv (tptr q.T)) (tAll (q.T.map tT))))))))) (i := its.length + 5) ⟨r, ys, pb, ms, mt, []⟩ (by rw [getR]; rfl) rfl
  rw [setR] at h
  simp only [List.set_cons_zero, List.set_cons_succ] at h
  have h : Hp S w0 w6 (its ++ [tEmp, tEmp, tEmp, tEmp, tEmp] ++ [tWorld b ⟨kinds xs, ⟨200, [], [], []⟩, fun _ => none, []⟩] ++ [tEmp]) := by
   simp only [List.append_assoc, List.cons_append, List.nil_append]
   exact h
  exact hok hm b _ h.front.dropMid
 ·rw [decide_eq_false hm]
  exact ifT rfl (hno hm _ h)
theorem New_R (h : Hp S w0 w its) {s : Sl} {l : KD} (hr : RdK w s l) (hl : l.length ≤ 10000000) (hsz : ∀ x ∈ l, x.1.size ≤ 1000000000000 ∧ ∀ y ∈ x.2, y.size ≤ 1000000000000) {K : Option Addr → Int → World → Prop}
  (hok : mayOk l → ∀ b w', Hp S w0 w' (its ++ [tW b (WA.new l)]) → K (some ⟨b, 0, none⟩) 0 w') (hno : ¬ mayOk l → ∀ w', Hp S w0 w' its → K none 65 w') : c10 s w K := by
 obtain ⟨xs, O, rfl, hO⟩ := hr
 have h1 : Hp [] w w [(tRK s xs).ro] := (Hp.init w).addRo hO (by simp)
 refine New_u h1 0 rfl rfl (by simpa [kinds] using hl) (fun x hx => ?_) (fun hm b w' h1 => ?_) (fun hm w' h1 => hno hm w' (h.keep h1.1))
 ·exact hsz (x.1, x.2.2) (List.mem_map.2 ⟨x, hx, rfl⟩)
 ·refine hok hm b w' ?_
  have h1 := h1.putAnd (i := 1) (p := (WA.new (kinds xs)).Ok ∧ Tabs (kinds xs) (fun _ => none) (WA.new (kinds xs)).m.sets []) ⟨WA.new_ok hm, Tabs.new (kinds xs)⟩ rfl rfl
  have h1 := h1.putEx (i := 1) (f := fun T : List (Int × TabM) => tAnd ((WA.new (kinds xs)).Ok ∧ Tabs (WA.new (kinds xs)).ks (WA.new (kinds xs)).row (WA.new (kinds xs)).m.sets T) (tWorld b ⟨(WA.new (kinds xs)).ks, (WA.new (kinds xs)).pool, (WA.new (kinds xs)).m.sets, T⟩)) [] rfl rfl
  have h1 : Hp [] w w' [(tRK s xs).ro, tW b (WA.new (kinds xs))] := h1
  exact h.r0 (rest := [tW b (WA.new (kinds xs))]) rfl (h1.selL [1] (by decide) rfl)
end
end Go.Proofs.Ytcccjgmekakabaa.FW
end

section
namespace Go.Den
open Go
variable {κ ν : Type} [DecidableEq κ]
theorem nodup_lt' : ∀ (n : Nat) (L : List Nat), L.Nodup → (∀ x ∈ L, x < n) → L.length ≤ n
 | 0, L, _, h => by
  cases L with
  | nil => simp
  | cons x L => exact absurd (h x (by simp)) (by omega)
 | n + 1, L, hnd, h => by
  have h1 := nodup_lt' n (L.erase n) (hnd.erase n) (fun x hx => by
   have hm := (hnd.mem_erase_iff).1 hx
   have := h x hm.2
   have := hm.1
   omega)
  have h2 := List.length_erase (a := n) (l := L)
  split at h2 <;> omega
theorem nodup_all : ∀ (n : Nat) (L : List Nat), (∀ j, j < n → j ∈ L) → n ≤ L.length
 | 0, _, _ => Nat.zero_le _
 | n + 1, L, h => by
  have h1 := nodup_all n (L.erase n) (fun j hj => (List.mem_erase_of_ne (by omega)).2 (h j (by omega)))
  rw [List.length_erase_of_mem (h n (by omega))] at h1
  have : 0 < L.length := List.length_pos_of_mem (h n (by omega))
  omega
def MapIs (w : World) (b : Nat) (ek : κ → Value) (ev : ν → Value) (g : κ → Option ν) (es : Array MapEntry) (clock : Nat) (l : List (κ × ν)) : Prop :=
 w.heap[b]? = some (.map es clock) ∧ es.toList.map (fun e => (e.key, e.val)) = l.map (fun p => (ek p.1, ev p.2)) ∧ Stamps (es.toList.map (·.born)) clock ∧ (l.map (·.1)).Nodup ∧ ∀ k, mget l k = g k
def tRan (b r : Nat) (ek : κ → Value) (ev : ν → Value) (g : κ → Option ν) (N : Nat) (done : List κ) : Thing :=
  { holds := fun w O => O = [b, r] ∧ b ≠ r ∧ ∃ es clock l seen last, MapIs w b ek ev g es clock l ∧ w.heap[r]? = some (.mapIter (some b) clock seen last) ∧ clock ≤ last ∧ (done = [] ∨ last = clock) ∧ l.length = N ∧
      done.Nodup ∧ ∃ js : List Nat, js.length = done.length ∧ seen.toList = js.map (fun j => (es.toList.map (·.born)).getD j 0) ∧ (∀ n j : Nat, js[n]? = some j → ∃ p, l[j]? = some p ∧ done[n]? = some p.1)
    fr := fun {S w w' O} h hf hn => by
      obtain ⟨rfl, hbr, es, clock, l, seen, last, ⟨h1, h2⟩, h3, h4⟩ := h
      exact ⟨rfl, hbr, es, clock, l, seen, last, ⟨(hf.block b (Array.getElem?_eq_some_iff.1 h1).1 (hn b (by simp))).trans h1, h2⟩, (hf.block r (Array.getElem?_eq_some_iff.1 h3).1 (hn r (by simp))).trans h3, h4⟩
    lt := fun {w O} h k hk => by
      obtain ⟨rfl, hbr, es, clock, l, seen, last, ⟨h1, h2⟩, h3, h4⟩ := h
      simp only [List.mem_cons, List.not_mem_nil, or_false] at hk
      rcases hk with rfl | rfl
      · exact (Array.getElem?_eq_some_iff.1 h1).1
      · exact (Array.getElem?_eq_some_iff.1 h3).1 }
theorem run_next_at {P : Program} (w : World) (ty : TypeId) (r bm since c0 : Nat) (seen : Array Nat) (es : Array MapEntry) (clock : Nat) (hr : w.heap[r]? = some (.mapIter (some bm) since seen c0)) (hb : w.heap[bm]? = some (.map es clock)) (hold : ∀ x ∈ es.toList, x.born < since) (hsc : since ≤ c0) :
  ((leftOf es seen).size = 0 ∧ (Instr.next (.pointer (some ⟨r, 0, none⟩)) false ty).run P w = .ok (.tuple #[.bool false]) w) ∨
  ∃ e ∈ (leftOf es seen).toList, ∃ w1 : World, (w1 = w ∨ w1 = w.drew) ∧ (Instr.next (.pointer (some ⟨r, 0, none⟩)) false ty).run P w = .ok (.tuple #[.bool true, e.key, e.val]) ({ w1 with heap := w1.heap.setIfInBounds r (.mapIter (some bm) since (seen.push e.born) clock) }) := by
 simp only [Instr.next, getObj, Sem.run_bind, Sem.run, hr, hb, Result.andThen, next_test_false seen es since c0 hold hsc, Bool.false_eq_true, if_false]
 unfold leftOf
 have hmem : ∀ x ∈ (Array.filter (fun e => !seen.contains e.born) es).toList, x.born < since := fun x hx => hold x (by simp at hx ⊢; exact hx.1)
 generalize Array.filter (fun e => !seen.contains e.born) es = L at hmem ⊢
 have e1 : L.filter (fun x => decide (x.born < since)) = L := Array.filter_eq_self.2 (fun x hx => by simpa using hmem x (by simpa using hx))
 have e2 : L.filter (fun x => decide (x.born ≥ since)) = #[] := by
  rw [Array.filter_eq_empty_iff]
  intro x hx
  have := hmem x (by simpa using hx)
  simp
  omega
 simp only [e1, e2, Array.append_empty]
 by_cases h0 : L.size = 0
 ·left
  have : L = #[] := Array.eq_empty_of_size_eq_zero h0
  subst this
  refine ⟨rfl, ?_⟩
  simp [choose, Sem.run, Question.forced]
 ·right
  have hne : L.isEmpty = false := by simp [Array.isEmpty, h0]
  simp only [hne, Bool.false_eq_true, if_false, Array.empty_append, Array.size_map]
  have hch : ∃ (j : Nat) (w1 : World), j < L.size ∧ (w1 = w ∨ w1 = w.drew) ∧ (choose (Question.mapNext L.size)).run P w = .ok j w1 := by
   by_cases hf : L.size ≤ 1
   ·exact ⟨0, w, by omega, .inl rfl, by simp [choose, Sem.run, Question.forced, hf]⟩
   ·exact ⟨_, w.drew, Nat.mod_lt _ (by omega), .inr rfl, by
     simp only [choose, Sem.run, Question.forced, decide_eq_true_eq, hf, if_false, Question.cut]
     rfl⟩
  obtain ⟨j, w1, hj, hal, hrun⟩ := hch
  refine ⟨L[j], by simp, w1, hal, ?_⟩
  have hr1 : w1.heap[r]? = some (.mapIter (some bm) since seen c0) := by rcases hal with rfl | rfl <;> exact hr
  have hset : ∀ o' : Obj, (setObj r o').run P w1 = .ok () { w1 with heap := w1.heap.setIfInBounds r o' } := fun o' => by
   simp only [setObj, Sem.run]
   rw [hr1]
  simp only [hrun, Array.getElem?_map, Array.getElem?_eq_getElem hj, Option.map_some, Sem.run_bind, hset, Result.andThen]
  rfl
theorem left_at {es : Array MapEntry} {seen : Array Nat} {e : MapEntry} (he : e ∈ (leftOf es seen).toList) : ∃ j : Nat, es.toList[j]? = some e ∧ e.born ∉ seen.toList := by
 have := mem_left he
 obtain ⟨j, hj⟩ := List.getElem?_of_mem this.1
 refine ⟨j, hj, fun hm => ?_⟩
 have h2 := this.2
 simp only [Array.contains_eq_mem, decide_eq_false_iff_not] at h2
 exact h2 (Array.mem_toList_iff.1 hm)
namespace Hp
variable {S : List Nat} {w0 w : World} {its : List Thing} {P : Program} {ek : κ → Value} {ev : ν → Value} {g : κ → Option ν}
theorem range_start (h : Hp S w0 w its) (i : Nat) {b : Nat} {mt kt vt : TypeId} {K : Option Addr → World → Prop} (hi : its[i]? = some (tMp b ek ev g)) (hm : P.underlying mt = some (.map kt vt))
  (hK : ∀ r N w', Hp S w0 w' (its.set i (tRan b r ek ev g N [])) → K (some ⟨r, 0, none⟩) w') : Run .p P (Instr.range mt (.map (some b))) w K := by
 obtain ⟨O, ⟨l, ⟨⟨es, clock, hb, hes, hst⟩, rfl⟩, hnd, hg⟩, back⟩ := h.step hi rfl
 have hlt := (Array.getElem?_eq_some_iff.1 hb).1
 refine ⟨some ⟨w.heap.size, 0, none⟩, w.alloc (.mapIter (some b) clock #[] clock), run_range_map w mt kt vt b es clock hm hb, hK _ l.length _ ?_⟩
 refine back ((Fr.alloc w _).mono (by simp)) (t' := tRan b w.heap.size ek ev g l.length []) (O' := [b, w.heap.size]) ?_ (fun k hk => ?_) rfl
 ·refine ⟨rfl, by omega, es, clock, l, #[], clock, ⟨(heap_alloc_old w _ hlt).trans hb, hes, hst, hnd, hg⟩, heap_alloc_new w _, Nat.le_refl _, .inl rfl, rfl, by simp, [], rfl, rfl, by simp⟩
 ·simp only [List.mem_cons, List.not_mem_nil, or_false] at hk
  rcases hk with rfl | rfl
  ·exact .inl (by simp)
  ·exact .inr (Nat.le_refl _)
theorem range_next (h : Hp S w0 w its) (i : Nat) {b r N : Nat} {ty : TypeId} {done : List κ} {K0 : World → Prop} {K1 : Value → Value → World → Prop} (hi : its[i]? = some (tRan b r ek ev g N done))
  (h0 : (∀ k, (g k).isSome = true → k ∈ done) → done.length = N → Hp S w0 w its → K0 w)
  (h1 : ∀ k v x1 x2 w', g k = some v → k ∉ done → done.length < N → Hp S w0 w' (its.set i (tRan b r ek ev g N (done ++ [k]))) → K1 x1 x2 w') : NxM P (.pointer (some ⟨r, 0, none⟩)) ty w K0 K1 := by
 obtain ⟨O, ⟨rfl, hbr, es, clock, l, seen, last, ⟨hb, hes, hst, hnd, hg⟩, hr, hle, hlast, hN, hdn, js, hjl, hseen, hjs⟩, back⟩ := h.step hi rfl
 have hel : es.toList.length = l.length := by have := congrArg List.length hes; simpa using this
 have hold : ∀ x ∈ es.toList, x.born < clock := fun x hx => hst.2 _ (List.mem_map.2 ⟨x, hx, rfl⟩)
 have hbj : ∀ (j : Nat) (e : MapEntry), es.toList[j]? = some e → (es.toList.map (·.born)).getD j 0 = e.born := fun j e he => by
  rw [List.getD_eq_getElem?_getD, List.getElem?_map, he]; rfl
 have hinj : ∀ (i j : Nat), i < l.length → (es.toList.map (·.born)).getD i 0 = (es.toList.map (·.born)).getD j 0 → j < l.length → i = j := fun i j hi he hj => by
  refine (List.getElem?_inj (i := i) (j := j) (l := es.toList.map (·.born)) (by rw [List.length_map]; omega) hst.1).1 ?_
  rw [List.getD_eq_getElem?_getD, List.getD_eq_getElem?_getD] at he
  have a1 : (es.toList.map (·.born))[i]? = some ((es.toList.map (·.born))[i]'(by rw [List.length_map]; omega)) := List.getElem?_eq_getElem _
  have a2 : (es.toList.map (·.born))[j]? = some ((es.toList.map (·.born))[j]'(by rw [List.length_map]; omega)) := List.getElem?_eq_getElem _
  rw [a1, a2] at he ⊢
  simpa using he
 have keyInj : ∀ (i j : Nat) (p q : κ × ν), l[i]? = some p → l[j]? = some q → p.1 = q.1 → i = j := fun i j p q hi hj he =>
  (List.getElem?_inj (i := i) (j := j) (l := l.map (·.1)) (by simpa using (List.getElem?_eq_some_iff.1 hi).1) hnd).1 (by rw [List.getElem?_map, List.getElem?_map, hi, hj]; simp [he])
 have hjlt : ∀ n j : Nat, js[n]? = some j → j < l.length := fun n j hn => by
  obtain ⟨p, hp, _⟩ := hjs n j hn
  exact (List.getElem?_eq_some_iff.1 hp).1
 have hjnd : js.Nodup := by
  rw [List.nodup_iff_pairwise_ne, List.pairwise_iff_getElem]
  intro n m hn0 hm hnm he
  have hm' : js[m]? = some js[m] := List.getElem?_eq_getElem hm
  obtain ⟨p, hp, hd⟩ := hjs m _ hm'
  obtain ⟨p', hp', hd'⟩ := hjs n js[m] (by rw [List.getElem?_eq_getElem hn0, he])
  rw [hp] at hp'
  obtain rfl := Option.some.inj hp'
  have := (List.getElem?_inj (i := n) (j := m) (l := done) (by omega) hdn).1 (by rw [hd, hd'])
  omega
 have hdl : done.length ≤ l.length := by
  rw [← hjl]
  exact nodup_lt' l.length js hjnd (fun x hx => by
   obtain ⟨n, hn⟩ := List.getElem?_of_mem hx
   exact hjlt n x hn)
 rcases run_next_at (P := P) w ty r b clock last seen es clock hr hb hold hle with ⟨hz, hrun⟩ | ⟨e, he, w1, hw1, hrun⟩
 ·refine ⟨_, _, hrun, .inl ⟨rfl, h0 (fun k hk => ?_) ?_ h⟩⟩
  ·obtain ⟨v, hv⟩ := Option.isSome_iff_exists.1 hk
   rw [← hg, mget_eq] at hv
   obtain ⟨p, hp, rfl⟩ := Option.map_eq_some_iff.1 hv
   have hpk := List.find?_some hp
   simp only [decide_eq_true_eq] at hpk
   obtain ⟨j, hj⟩ := List.getElem?_of_mem (List.mem_of_find?_eq_some hp)
   have hjl2 := (List.getElem?_eq_some_iff.1 hj).1
   have hej : es.toList[j]? = some (es.toList[j]'(by omega)) := List.getElem?_eq_getElem _
   have hin : (es.toList[j]'(by omega)).born ∈ seen.toList := by
    refine Classical.byContradiction fun hno => ?_
    have hm : (es.toList[j]'(by omega)) ∈ (leftOf es seen).toList := by
     unfold leftOf
     rw [Array.toList_filter, List.mem_filter]
     refine ⟨List.getElem_mem _, ?_⟩
     simp only [Array.contains_eq_mem, Bool.not_eq_true', decide_eq_false_iff_not]
     exact fun hm => hno (Array.mem_toList_iff.2 hm)
    have : (leftOf es seen).toList = [] := by
     rw [← List.length_eq_zero_iff, Array.length_toList]; exact hz
    rw [this] at hm
    cases hm
   rw [hseen] at hin
   obtain ⟨j', hj', hbe⟩ := List.mem_map.1 hin
   obtain ⟨n, hn⟩ := List.getElem?_of_mem hj'
   have hlt' := hjlt n j' hn
   rw [← hbj j _ hej] at hbe
   have := hinj j' j hlt' hbe hjl2
   subst this
   obtain ⟨q, hq, hdq⟩ := hjs n j' hn
   rw [hj] at hq
   obtain rfl := Option.some.inj hq
   rw [hpk] at hdq
   exact List.mem_of_getElem? hdq
  ·-- all have come
   have hall : ∀ j, j < l.length → j ∈ js := fun j hj => by
    have hej : es.toList[j]? = some (es.toList[j]'(by omega)) := List.getElem?_eq_getElem _
    have hin : (es.toList[j]'(by omega)).born ∈ seen.toList := by
     refine Classical.byContradiction fun hno => ?_
     have hm : (es.toList[j]'(by omega)) ∈ (leftOf es seen).toList := by
      unfold leftOf
      rw [Array.toList_filter, List.mem_filter]
      refine ⟨List.getElem_mem _, ?_⟩
      simp only [Array.contains_eq_mem, Bool.not_eq_true', decide_eq_false_iff_not]
      exact fun hm => hno (Array.mem_toList_iff.2 hm)
     have : (leftOf es seen).toList = [] := by
      rw [← List.length_eq_zero_iff, Array.length_toList]; exact hz
     rw [this] at hm
     cases hm
    rw [hseen] at hin
    obtain ⟨j', hj', hbe⟩ := List.mem_map.1 hin
    obtain ⟨n, hn⟩ := List.getElem?_of_mem hj'
    rw [← hbj j _ hej] at hbe
    have := hinj j' j (hjlt n j' hn) hbe hj
    subst this
    exact hj'
   have := nodup_all l.length js hall
   omega
 ·obtain ⟨j, hej, hnew⟩ := left_at he
  have hjl2 : j < l.length := by have := (List.getElem?_eq_some_iff.1 hej).1; omega
  have hlj : l[j]? = some l[j] := List.getElem?_eq_getElem hjl2
  have hkv : e.key = ek (l[j]).1 ∧ e.val = ev (l[j]).2 := by
   have := congrArg (fun x => x[j]?) hes
   simp only [List.getElem?_map, hej, hlj, Option.map_some, Option.some.injEq, Prod.mk.injEq] at this
   exact this
  have hgk : g (l[j]).1 = some (l[j]).2 := by
   rw [← hg, mget_eq]
   have : l.find? (fun p => decide (p.1 = (l[j]).1)) = some l[j] := by
    cases hf : l.find? (fun p => decide (p.1 = (l[j]).1)) with
    | none =>
     have := List.find?_eq_none.1 hf l[j] (List.getElem_mem _)
     simp at this
    | some q =>
     have hq := List.find?_some hf
     simp only [decide_eq_true_eq] at hq
     obtain ⟨j', hj'⟩ := List.getElem?_of_mem (List.mem_of_find?_eq_some hf)
     have := keyInj j' j q _ hj' hlj hq
     subst this
     rw [hlj] at hj'
     exact hj'.symm
   rw [this]; rfl
  have hjno : j ∉ js := fun hm => hnew (by rw [hseen]; exact List.mem_map.2 ⟨j, hm, hbj j e hej⟩)
  have hkno : (l[j]).1 ∉ done := fun hm => by
   obtain ⟨n, hn⟩ := List.getElem?_of_mem hm
   have hnl := (List.getElem?_eq_some_iff.1 hn).1
   have hjn : js[n]? = some (js[n]'(by omega)) := List.getElem?_eq_getElem _
   obtain ⟨q, hq, hdq⟩ := hjs n _ hjn
   rw [hn] at hdq
   have := keyInj _ j q _ hq hlj (Option.some.inj hdq).symm
   rw [this] at hjn
   exact hjno (List.mem_of_getElem? hjn)
  have hlN : done.length < N := by
   have := nodup_lt' l.length (j :: js) (List.nodup_cons.2 ⟨hjno, hjnd⟩) (fun x hx => by
    rcases List.mem_cons.1 hx with rfl | hx
    ·exact hjl2
    ·obtain ⟨n, hn⟩ := List.getElem?_of_mem hx
     exact hjlt n x hn)
   simp only [List.length_cons] at this
   omega
  have hsz : w1.heap = w.heap ∧ w1.os = w.os ∧ w1.tape = w.tape ∧ w1.output = w.output := by rcases hw1 with rfl | rfl <;> exact ⟨rfl, rfl, rfl, rfl⟩
  have hrl := (Array.getElem?_eq_some_iff.1 hr).1
  have hbl := (Array.getElem?_eq_some_iff.1 hb).1
  refine ⟨_, _, hrun, .inr ⟨e.key, e.val, rfl, h1 (l[j]).1 (l[j]).2 _ _ _ hgk hkno hlN ?_⟩⟩
  refine back (w' := { w1 with heap := w1.heap.setIfInBounds r (.mapIter (some b) clock (seen.push e.born) clock) }) (t' := tRan b r ek ev g N (done ++ [(l[j]).1])) (O' := [b, r]) ⟨hsz.2.1, hsz.2.2.1, hsz.2.2.2, by show w.heap.size ≤ (w1.heap.setIfInBounds r _).size; simp [hsz.1], fun k hk hn => ?_⟩ ?_ (fun k hk => .inl hk) rfl
  ·show (w1.heap.setIfInBounds r _)[k]? = w.heap[k]?
   rw [hsz.1, Array.getElem?_setIfInBounds_ne (fun e => hn (by simp [e]))]
  ·refine ⟨rfl, hbr, es, clock, l, seen.push e.born, clock, ⟨?_, hes, hst, hnd, hg⟩, ?_, Nat.le_refl _, .inr rfl, hN, ?_, js ++ [j], by simp [hjl], ?_, ?_⟩
   ·show (w1.heap.setIfInBounds r _)[b]? = _
    rw [hsz.1, Array.getElem?_setIfInBounds_ne (fun e => hbr e.symm)]; exact hb
   ·show (w1.heap.setIfInBounds r _)[r]? = _
    rw [hsz.1, Array.getElem?_setIfInBounds_self_of_lt hrl]
   ·rw [List.nodup_append]
    exact ⟨hdn, by simp, fun a ha c hc => by simp only [List.mem_singleton] at hc; subst hc; exact fun e => hkno (e ▸ ha)⟩
   ·rw [Array.toList_push, List.map_append, hseen]
    simp only [List.map_cons, List.map_nil]
    rw [hbj j e hej]
   ·intro n m hn
    by_cases hlt : n < js.length
    ·rw [List.getElem?_append_left hlt] at hn
     obtain ⟨q, hq, hd⟩ := hjs n m hn
     exact ⟨q, hq, by rw [List.getElem?_append_left (by omega)]; exact hd⟩
    ·rw [List.getElem?_append_right (by omega)] at hn
     have h00 : n - js.length = 0 := by
      rcases Nat.eq_zero_or_pos (n - js.length) with h | h
      ·exact h
      ·rw [List.getElem?_eq_none (by simp; omega)] at hn; cases hn
     rw [h00] at hn
     obtain rfl := Option.some.inj hn
     refine ⟨_, hlj, ?_⟩
     rw [List.getElem?_append_right (by omega), show n - done.length = 0 by omega]; rfl
theorem range_entry (h : Hp S w0 w its) (i : Nat) {b r N : Nat} {done : List κ} {k : κ} {v : ν} {K : Value → Value → World → Prop} (hi : its[i]? = some (tRan b r ek ev g N (done ++ [k]))) (hgk : g k = some v) (hK : K (ek k) (ev v) w) : EnM P (.pointer (some ⟨r, 0, none⟩)) w K := by
 obtain ⟨O, rfl, hbr, es, clock, l, seen, last, ⟨hb, hes, hst, hnd, hg⟩, hr, hle, hlast, hN, hdn, js, hjl, hseen, hjs⟩ := h.see hi
 have hlast : last = clock := by
  rcases hlast with h | h
  ·simp at h
  ·exact h
 subst hlast
 have hn : js[done.length]? = some (js[done.length]'(by rw [hjl]; simp)) := List.getElem?_eq_getElem _
 obtain ⟨p, hp, hd⟩ := hjs _ _ hn
 have hpk : p.1 = k := by
  rw [List.getElem?_append_right (Nat.le_refl _), Nat.sub_self] at hd
  exact (Option.some.inj hd).symm
 generalize js[done.length]'(by rw [hjl]; simp) = j at hn hp hd
 have hjl2 := (List.getElem?_eq_some_iff.1 hp).1
 have hel : es.toList.length = l.length := by have := congrArg List.length hes; simpa using this
 have hej : es.toList[j]? = some (es.toList[j]'(by omega)) := List.getElem?_eq_getElem _
 have hkv : (es.toList[j]'(by omega)).key = ek p.1 ∧ (es.toList[j]'(by omega)).val = ev p.2 := by
  have := congrArg (fun x => x[j]?) hes
  simp only [List.getElem?_map, hej, hp, Option.map_some, Option.some.injEq, Prod.mk.injEq] at this
  exact this
 have hpv : p.2 = v := by
  have h1 : mget l k = some v := by rw [hg]; exact hgk
  rw [mget_eq] at h1
  obtain ⟨q, hq, hqv⟩ := Option.map_eq_some_iff.1 h1
  have hqk := List.find?_some hq
  simp only [decide_eq_true_eq] at hqk
  obtain ⟨j', hj'⟩ := List.getElem?_of_mem (List.mem_of_find?_eq_some hq)
  have : j' = j := (List.getElem?_inj (i := j') (j := j) (l := l.map (·.1)) (by simpa using (List.getElem?_eq_some_iff.1 hj').1) hnd).1 (by rw [List.getElem?_map, List.getElem?_map, hj', hp]; simp [hqk, hpk])
  subst this
  rw [hp] at hj'
  rw [Option.some.inj hj']; exact hqv
 generalize es.toList[j]'(by omega) = e at hej hkv
 have hback : seen.back? = some e.born := by
  have h1 : seen.toList.getLast? = some e.born := by
   rw [hseen]
   have hjs2 : js = js.take done.length ++ [j] := by
    have hl : js.length = done.length + 1 := by rw [hjl]; simp
    have h1 := List.take_succ_eq_append_getElem (l := js) (i := done.length) (by omega)
    have h2 : js.take (done.length + 1) = js := List.take_of_length_le (by omega)
    have h3 : js[done.length]'(by omega) = j := by
     rw [List.getElem?_eq_getElem (by omega)] at hn; exact Option.some.inj hn
    rw [h3] at h1
    exact h2.symm.trans h1
   rw [hjs2, List.map_append]
   simp only [List.map_cons, List.map_nil, List.getLast?_append, List.getLast?_singleton, Option.some_or]
   rw [List.getD_eq_getElem?_getD, List.getElem?_map, hej]; rfl
  rw [← Array.getLast?_toList]; exact h1
 have hf : es.find? (·.born == e.born) = some e := by rw [← Array.find?_toList]; exact find_born e es.toList hst.1 (List.mem_of_getElem? hej)
 refine ⟨e.key, e.val, ?_, ?_⟩
 ·simp only [Instr.entry, getObj, Sem.run_bind, Sem.run, hr, hb, Result.andThen, hback, bne_self_eq_false, Bool.false_eq_true, if_false, hf]
  rfl
 ·rw [hkv.1, hkv.2, hpk, hpv]; exact hK
theorem range_stop (h : Hp S w0 w its) {i b r N : Nat} {done : List κ} (hi : its[i]? = some (tRan b r ek ev g N done)) : Hp S w0 w (its.set i (tMp b ek ev g)) :=
 h.less hi rfl (fun w O hO => by
  obtain ⟨rfl, hbr, es, clock, l, seen, last, ⟨hb, hes, hst, hnd, hg⟩, _⟩ := hO
  exact ⟨[b], ⟨l, ⟨⟨es, clock, hb, hes, hst⟩, rfl⟩, hnd, hg⟩, by simp⟩) rfl
end Hp
namespace Hp
variable {S : List Nat} {w0 w : World} {its : List Thing}
end Hp
end Go.Den
end

section
namespace Go.Proofs.Ytcccjgmekakabaa.FW
open F
open Go Go.Den Go.Proofs
open FI (PoolM tPool)
open FT (TabM tTab Ent entV ent ent_len atI keyEnt iv iv_len)
theorem und58 : Try.prog.underlying 58 = some (.map 3 3) := by kernel_rfl
theorem nodup_sub {α : Type} [DecidableEq α] : ∀ (L M : List α), L.Nodup → (∀ x ∈ L, x ∈ M) → L.length ≤ M.length
 | [], _, _, _ => by simp
 | x :: L, M, hnd, h => by
  have hn := List.nodup_cons.1 hnd
  have h1 := nodup_sub L (M.erase x) hn.2 (fun y hy => (List.mem_erase_of_ne (fun e => hn.1 (by rw [← e]; exact hy))).2 (h y (List.mem_cons_of_mem _ hy)))
  have hm := h x (by simp)
  rw [List.length_erase_of_mem hm] at h1
  have : 0 < M.length := List.length_pos_of_mem hm
  simp only [List.length_cons]
  omega
def WA.who (a : WA) (s : Int) : List Ent := a.all.filter fun e => decide ((a.row e).map setI = some s)
def WA.shape (a : WA) (s : Int) : Option Int := if (a.who s).length = 0 then none else some (((a.who s).length : Nat) : Int)
theorem allU_mem (m : PoolM) {e : Ent} (h1 : m.lives e.1 = true) (h2 : m.gen e.1 = e.2) (h0 : 0 ≤ e.1) : ∀ k : Nat, e.1 < k → e ∈ m.allU k
 | 0, hk => by omega
 | k + 1, hk => by
  unfold PoolM.allU
  by_cases he : e.1 = (k : Int)
  ·rw [← he, if_pos h1, h2]; simp
  ·have := allU_mem m h1 h2 h0 k (by omega)
   split
   ·exact List.mem_append_left _ this
   ·exact this
theorem all_mem {a : WA} (hok : a.Ok) {e : Ent} : e ∈ a.all ↔ (a.row e).isSome = true := by
 constructor
 ·intro he
  obtain ⟨p, hp⟩ := all_lives hok he
  rw [hp]; rfl
 ·intro he
  rw [hok.liv e] at he
  obtain ⟨h1, h2⟩ := PoolM.is_iff.1 he
  obtain ⟨h3, h4⟩ := FI.lives_lt' hok.pok h1
  exact allU_mem a.pool h1 h2 h3 _ h4
theorem all_nodup (a : WA) : a.all.Nodup := by
 rw [List.nodup_iff_pairwise_ne]
 refine List.Pairwise.imp (fun {x y} h e => ?_) (FI.allU_get a.pool a.pool.gens.length).2
 rw [e] at h; omega
theorem who_mem {a : WA} (hok : a.Ok) {s : Int} {e : Ent} : e ∈ a.who s ↔ ∃ p, a.row e = some p ∧ setI p = s := by
 unfold WA.who
 rw [List.mem_filter, all_mem hok, decide_eq_true_eq]
 constructor
 ·rintro ⟨_, h⟩
  obtain ⟨p, hp, rfl⟩ := Option.map_eq_some_iff.1 h
  exact ⟨p, hp, rfl⟩
 ·rintro ⟨p, hp, rfl⟩
  exact ⟨by rw [hp]; rfl, by rw [hp]; rfl⟩
theorem shape_tab {a : WA} (hok : a.Ok) {T : List (Int × TabM)} (ht : Tabs a.ks a.row a.m.sets T) {s : Int} {t : TabM} (hm : (s, t) ∈ T) : a.shape s = some ((t.rows.length : Nat) : Int) := by
 obtain ⟨tk, tn, tne, tr⟩ := ht.tok _ hm
 have h1 : t.owners.length ≤ (a.who s).length := nodup_sub _ _ tk.nd (fun e he => by
  obtain ⟨r, hr, rfl⟩ := List.mem_map.1 he
  obtain ⟨p, hp, hs, _⟩ := tr r hr
  exact (who_mem hok).2 ⟨p, hp, hs⟩)
 have h2 : (a.who s).length ≤ t.owners.length := nodup_sub _ _ ((all_nodup a).filter _) (fun e he => by
  obtain ⟨p, hp, hs⟩ := (who_mem hok).1 he
  obtain ⟨t', g1, g2⟩ := ht.has e p hp
  obtain ⟨i, hi⟩ := List.getElem?_of_mem hm
  obtain ⟨j, hj⟩ := List.getElem?_of_mem g1
  have : j = i := (List.getElem?_inj (i := j) (j := i) (l := T.map (·.1)) (by simpa using (List.getElem?_eq_some_iff.1 hj).1) ht.nd).1 (by rw [List.getElem?_map, List.getElem?_map, hi, hj]; simp [hs])
  subst this
  rw [hi] at hj
  have := Option.some.inj hj
  rw [Prod.mk.injEq] at this
  rw [← this.2] at g2
  exact List.mem_map.2 ⟨_, g2, rfl⟩)
 rw [TabM.owners_len] at h1 h2
 have h3 : 0 < t.rows.length := List.length_pos_iff.2 tne
 unfold WA.shape
 rw [if_neg (by omega)]
 congr 2
 omega
theorem shape_none {a : WA} (hok : a.Ok) {T : List (Int × TabM)} (ht : Tabs a.ks a.row a.m.sets T) {s : Int} (hm : ∀ x ∈ T, x.1 ≠ s) : a.shape s = none := by
 unfold WA.shape
 rw [if_pos]
 rw [List.length_eq_zero_iff, List.eq_nil_iff_forall_not_mem]
 intro e he
 obtain ⟨p, hp, hs⟩ := (who_mem hok).1 he
 obtain ⟨t', g1, g2⟩ := ht.has e p hp
 exact hm _ g1 hs
theorem Tabs.same {ks : KD} {row : Ent → Option PL} {sets : Ent → Option Int} {T T' : List (Int × TabM)} (h : Tabs ks row sets T) (hnd : (T'.map (·.1)).Nodup) (hin : ∀ x, x ∈ T' ↔ x ∈ T) : Tabs ks row sets T' :=
 ⟨h.sets, hnd, fun x hx => h.tok x ((hin x).1 hx), fun e p hp => by
  obtain ⟨t, h1, h2⟩ := h.has e p hp
  exact ⟨t, (hin _).2 h1, h2⟩, h.fit⟩
section
variable {S : List Nat} {w0 w : World} {its : List Thing}
theorem len_tab (h : Hp S w0 w its) (i : Nat) {T : List TT} {k tb : Nat} {set : Int} {t : TabM} (hi : (its[i]?).map Thing.holds = some (tAll (T.map tT)).holds) (hk : T[k]? = some (set, tb, t)) {K : Int → World → Prop} (hK : K t.rows.length w) : c61 (some ⟨tb, 0, none⟩) w K :=
 FT.Len_spec (ro_tab h i hi hk) 0 rfl hK
theorem tabs_get {q : WH} (hnd : (q.tabs.map (·.1)).Nodup) {set : Int} {tb : Nat} (h : tptr q.T set = some tb) : ∃ (k : Nat) (t : TabM), q.T[k]? = some (set, tb, t) ∧ (set, t) ∈ q.tabs := by
 obtain ⟨k, t, hk⟩ := tptr_some h
 exact ⟨k, t, hk, List.mem_map.2 ⟨_, List.mem_of_getElem? hk, rfl⟩⟩
set_option maxHeartbeats 1000000 in
theorem Shapes_W (h : Hp S w0 w its) (i : Nat) {b : Nat} {a : WA} (hi : its[i]? = some (tW b a)) {K : Option Nat → World → Prop}
  (hK : ∀ ob w', Hp S w0 w' (its ++ [tMp ob (Value.int .i64) (Value.int .i64) a.shape]) → K (some ob) w') : c22 (some ⟨b, 0, none⟩) w K := by
 refine c22_of ?_
 unfold f22
 obtain ⟨O, h1, back⟩ := h.f1 hi rfl
 clear h
 obtain ⟨q, hok, ht, hk, h⟩ := W_open h1
 refine h.nwMap fun ob w1 h => ?_
 have h := h.newMp (i := 8) (Value.int .i64) (Value.int .i64) rfl
 refine nns ?_
 refine h.ld (n := 3) (k := .m) (x := some q.mt) 0 rfl rfl ?_
 refine h.range_start (ek := Value.int .i64) (ev := pv) (g := tptr q.T) 6 rfl und99 fun r N w2 h => ?_
 refine ⟨fun mm w' => ∃ (done : List Int) (f : Int → Option Int), mm = N - done.length ∧ (∀ s, f s = if s ∈ done then a.shape s else none) ∧ Hp O w w' [q.blk b, tEmp, tSl q.sk 94 2 kdv q.xs, tAll (q.xs.map tF), tPool 149 q.pb a.m.pool, tMp q.ms entV (Value.int .i64) a.m.sets, tRan q.mt r (Value.int .i64) pv (tptr q.T) N done, tAll (q.T.map tT), tMp ob (Value.int .i64) (Value.int .i64) f],
  ⟨N, [], fun _ => none, rfl, fun s => by simp, h⟩, ?_⟩
 clear h
 rintro mm w3 ⟨done, f, rfl, hf, h⟩
 refine h.range_next 6 rfl (fun hall hN h => ?_) fun k v x1 x2 w4 hg hno hlt h => ?_
 ·have h := h.range_stop (i := 6) rfl
  have ef : f = a.shape := by
   funext s
   rw [hf s]
   split
   ·rfl
   ·rename_i hs
    symm
    refine shape_none hok ht fun x hx he => hs (hall s ?_)
    obtain ⟨y, hy, rfl⟩ := List.mem_map.1 hx
    have he : y.1 = s := he
    cases hp : tptr q.T s with
    | some tb => rfl
    | none => exact absurd he (tptr_none hp y hy)
  rw [ef] at h
  exact hK ob _ (W_fin hi back (rest := [tMp ob (Value.int .i64) (Value.int .i64) a.shape]) rfl (W_shut (u := tEmp) (m := a.m) (q := q) (rest := [_]) hok ht hk rfl rfl h))
 ·obtain ⟨ki, t, hkT, htm⟩ := tabs_get ht.nd hg
  refine h.range_entry (k := k) (v := v) 6 rfl hg ?_
  show c61 (some ⟨v, 0, none⟩) _ _
  refine len_tab h 7 rfl hkT ?_
  refine h.update (ek := Value.int .i64) (ev := Value.int .i64) (g := f) (k := k) (v := (t.rows.length : Nat)) 8 rfl rfl und58 key3 rfl fun w5 h => ?_
  refine ⟨N - (done.length + 1), by omega, done ++ [k], upd1 f k (some ((t.rows.length : Nat) : Int)), by simp, fun s => ?_, h⟩
  unfold upd1
  by_cases hs : s = k
  ·rw [if_pos hs, if_pos (by simp [hs]), hs, shape_tab hok ht htm]
  ·rw [if_neg hs, hf s]
   by_cases hd : s ∈ done
   ·rw [if_pos hd, if_pos (by simp [hd])]
   ·rw [if_neg hd, if_neg (by simp [hd, hs])]
end
end Go.Proofs.Ytcccjgmekakabaa.FW
end

section
namespace Go.Proofs.Ytcccjgmekakabaa.FW
open F
open Go Go.Den Go.Proofs
open FI (PoolM tPool bv bv_len)
open FT (TabM tTab Ent entV ent ent_len atI keyEnt iv iv_len)
open FP (putU zig encZ rowU tB putU_len encZ_len R64)
theorem und61 : Try.prog.underlying 61 = some (.slice 4) := by kernel_rfl
section
variable {S : List Nat} {w0 w : World} {its : List Thing}
set_option maxHeartbeats 2000000 in
theorem shown_spec (h0 : Hp S w0 w its) {K : Bool → World → Prop} (hK : ∀ w', Hp S w0 w' its → K true w') : c7 w K := by
 refine c7_of ?_
 unfold f7
 have h := Hp.begin_ w
 refine usual_spec h fun sk w1 h => ?_
 refine New_W h 0 (s := sk) (l := usualK) rfl (by decide) (fun x hx => ?_) (fun _ b w2 h => ?_) (fun hno => absurd usual_may hno)
 ·simp only [usualK, List.mem_cons, List.not_mem_nil, or_false] at hx
  rcases hx with rfl | rfl | rfl | rfl
  ·exact ⟨by decide, by decide⟩
  ·exact ⟨by decide, by decide⟩
  ·exact ⟨by decide, by decide⟩
  ·exact ⟨by decide, by decide⟩
 refine ifF (by simp) ?_
 refine h.nwS (l := [(7 : Int)]) (f := iv) (n := 1) (c := [_]) rfl rfl iv_len fun b1 w3 h => ?_
 refine h.nwS (l := [(1 : Int), 2]) (f := iv) (n := 1) (c := [_, _]) rfl rfl iv_len fun b2 w4 h => ?_
 refine h.nwS (l := [((2, ⟨some ⟨b1, 0, none⟩, 1, 1⟩, [7]) : PV), (1, ⟨some ⟨b2, 0, none⟩, 2, 2⟩, [1, 2])]) (f := pdv) (n := 2) (c := [_, _, _, _]) rfl rfl pdv_len fun b3 w5 h => ?_
 have h : Hp [] w w5 ([tKinds sk usualK, tW b (WA.new usualK)] ++ [tSl ⟨some ⟨b1, 0, none⟩, 1, 1⟩ 2 1 iv [7], tSl ⟨some ⟨b2, 0, none⟩, 2, 2⟩ 2 1 iv [1, 2]] ++ [tSl ⟨some ⟨b3, 0, none⟩, 2, 2⟩ 40 2 pdv [((2, ⟨some ⟨b1, 0, none⟩, 1, 1⟩, [7]) : PV), (1, ⟨some ⟨b2, 0, none⟩, 2, 2⟩, [1, 2])]]) := h
 have h := h.swap2
 rw [List.append_assoc] at h
 have h := h.nest_make (vis := pvis) (sub := tV) rfl
 have h : Hp [] w w5 [tKinds sk usualK, tW b (WA.new usualK), tParts ⟨some ⟨b3, 0, none⟩, 2, 2⟩ [(2, [7]), (1, [1, 2])]] := h
 refine Spawn_W h 1 2 (by decide) rfl rfl (by simp) (by simp [R64]) (by decide) fun w6 h => ?_
 rw [ex1]
 have h : Hp [] w w6 [tKinds sk usualK, tW b exA, tParts ⟨some ⟨b3, 0, none⟩, 2, 2⟩ [(2, [7]), (1, [1, 2])]] := h
 refine h.nw (c := [_, _]) fun ab w7 h => ?_
 refine h.st0 3 rfl (by simp) rfl fun w8 h => ?_
 refine h.st (n := 1) 3 rfl (by simp) rfl fun w9 h => ?_
 have h := h.nest_nil 40 2 pdv tV pvis
 refine Spawn_W h 1 4 (by decide) (a := exA) rfl rfl (by simp) (by simp) (by decide) fun w10 h => ?_
 rw [ex2]
 have h : Hp [] w w10 [tKinds sk usualK, tW b exB, tParts ⟨some ⟨b3, 0, none⟩, 2, 2⟩ [(2, [7]), (1, [1, 2])], tBlk ab 43 [.int .i64 0, .int .i64 1], tParts ⟨none, 0, 0⟩ []] := h
 refine h.nw (c := [_, _]) fun bb w11 h => ?_
 refine h.st0 5 rfl (by simp) rfl fun w12 h => ?_
 refine h.st (n := 1) 5 rfl (by simp) rfl fun w13 h => ?_
 refine h.ld0 (k := .i .i64) (x := (1 : Int)) 5 rfl rfl ?_
 refine h.ld (n := 1) (k := .i .i64) (x := (1 : Int)) 5 rfl rfl ?_
 have h := h.nil 2 1 iv
 have h : Hp [] w w13 [tKinds sk usualK, tW b exB, tParts ⟨some ⟨b3, 0, none⟩, 2, 2⟩ [(2, [7]), (1, [1, 2])], tBlk ab 43 [.int .i64 0, .int .i64 1], tParts ⟨none, 0, 0⟩ [], tBlk bb 43 [.int .i64 1, .int .i64 1], tSl ⟨none, 0, 0⟩ 2 1 iv []] := h
 refine Add_W h 1 6 (by decide) (e := (1, 1)) (kind := 3) (v := []) (a := exB) rfl rfl (by decide) (by decide) (by simp [R64]) fun w14 h => ?_
 rw [ex3]
 have h : Hp [] w w14 [tKinds sk usualK, tW b exC, tParts ⟨some ⟨b3, 0, none⟩, 2, 2⟩ [(2, [7]), (1, [1, 2])], tBlk ab 43 [.int .i64 0, .int .i64 1], tParts ⟨none, 0, 0⟩ [], tBlk bb 43 [.int .i64 1, .int .i64 1], tSl ⟨none, 0, 0⟩ 2 1 iv []] := h
 refine h.ld0 (k := .i .i64) (x := (1 : Int)) 5 rfl rfl ?_
 refine h.ld (n := 1) (k := .i .i64) (x := (1 : Int)) 5 rfl rfl ?_
 refine Add_W h 1 6 (by decide) (e := (1, 1)) (kind := 3) (v := []) (a := exC) rfl rfl (by decide) (by decide) (by simp [R64]) fun w15 h => ?_
 rw [ex4]
 have h : Hp [] w w15 [tKinds sk usualK, tW b exD, tParts ⟨some ⟨b3, 0, none⟩, 2, 2⟩ [(2, [7]), (1, [1, 2])], tBlk ab 43 [.int .i64 0, .int .i64 1], tParts ⟨none, 0, 0⟩ [], tBlk bb 43 [.int .i64 1, .int .i64 1], tSl ⟨none, 0, 0⟩ 2 1 iv []] := h
 refine h.ld0 (k := .i .i64) (x := (0 : Int)) 3 rfl rfl ?_
 refine h.ld (n := 1) (k := .i .i64) (x := (1 : Int)) 3 rfl rfl ?_
 refine Despawn_W h 1 (e := (0, 1)) (a := exD) rfl fun w16 h => ?_
 rw [ex5]
 have h : Hp [] w w16 [tKinds sk usualK, tW b exE, tParts ⟨some ⟨b3, 0, none⟩, 2, 2⟩ [(2, [7]), (1, [1, 2])], tBlk ab 43 [.int .i64 0, .int .i64 1], tParts ⟨none, 0, 0⟩ [], tBlk bb 43 [.int .i64 1, .int .i64 1], tSl ⟨none, 0, 0⟩ 2 1 iv []] := h
 refine ifT rfl (ifT rfl ?_)
 refine h.ld0 (k := .i .i64) (x := (0 : Int)) 3 rfl rfl ?_
 refine h.ld (n := 1) (k := .i .i64) (x := (1 : Int)) 3 rfl rfl ?_
 refine FT.eqEnt (ifT rfl ?_)
 refine h.ld0 (k := .i .i64) (x := (1 : Int)) 5 rfl rfl ?_
 refine h.ld (n := 1) (k := .i .i64) (x := (1 : Int)) 5 rfl rfl ?_
 refine FT.eqEnt (ifT rfl ?_)
 refine ifT rfl (ifT rfl (ifT rfl ?_))
 refine Snapshot_W h 1 (a := exE) rfl fun s w17 h => ?_
 refine h.rdb 7 (u := tB s exE.snap) rfl Hp.rdSl ⟨#[2, 0, 2, 2, 1, 0, 0, 8]⟩ ex6.symm ?_
 have := h0.r0 (rest := []) rfl (h.trim 0)
 rw [List.append_nil] at this
 have e : ((⟨#[2, 0, 2, 2, 1, 0, 0, 8]⟩ : ByteArray).toList == (⟨#[2, 0, 2, 2, 1, 0, 0, 8]⟩ : ByteArray).toList) = true := by simp
 rw [e]
 exact hK w17 this
structure Stale (a : WA) (A : List Ent) (O : List Bool) (living : Int) (k : Nat) : Prop where
 ks : a.ks = usualK
 most : a.pool.most = 200
 good : ∃ L, FI.Good a.pool L A k ∧ living = L.length
 len : O.length = A.length
 on : ∀ (j : Nat) (x : Ent) (o : Bool), A[j]? = some x → O[j]? = some o → o = a.pool.is x.1 x.2
 nd : A.Nodup
end
end Go.Proofs.Ytcccjgmekakabaa.FW
end

section
namespace Go.Proofs.Ytcccjgmekakabaa.FW
open F
open Go Go.Den Go.Proofs
open FI (PoolM tPool)
open FT (TabM tTab Ent entV ent ent_len atI keyEnt iv iv_len)
def RdP (w : World) (s : Sl) (l : List Part) : Prop := ∃ xs : List PV, xs.map pvis = l ∧ (∃ o, SlR w s 2 pdv xs o) ∧ ∀ x ∈ xs, ∃ o, SlR w x.2.1 1 iv x.2.2 o
def RdW (w : World) (s : Sl) (l : List RowT) : Prop := ∃ xs : List RV, xs.map rvis = l ∧ (∃ o, SlR w s 3 rdv xs o) ∧ ∀ x ∈ xs, RdP w x.2.1 x.2.2
theorem SlR.keep {α : Type} {f : α → List Value} {n : Nat} {w w' : World} {s : Sl} {l : List α} (h : ∃ o, SlR w s n f l o) (hf : Fr [] w w') : ∃ o, SlR w' s n f l o := by
 obtain ⟨o, h⟩ := h
 exact ⟨o, h.fr hf (by simp)⟩
theorem RdP.keep {w w' : World} {s : Sl} {l : List Part} (h : RdP w s l) (hf : Fr [] w w') : RdP w' s l := by
 obtain ⟨xs, h1, h2, h3⟩ := h
 exact ⟨xs, h1, SlR.keep h2 hf, fun x hx => SlR.keep (h3 x hx) hf⟩
theorem RdW.keep {w w' : World} {s : Sl} {l : List RowT} (h : RdW w s l) (hf : Fr [] w w') : RdW w' s l := by
 obtain ⟨xs, h1, h2, h3⟩ := h
 exact ⟨xs, h1, SlR.keep h2 hf, fun x hx => (h3 x hx).keep hf⟩
theorem tAll_see {ts : List Thing} {t : Thing} {w : World} {O : List Nat} (h : (tAll ts).holds w O) (hm : t ∈ ts) : ∃ O', t.holds w O' := by
 obtain ⟨k, hk⟩ := List.getElem?_of_mem hm
 obtain ⟨O1, _, h1, _⟩ := tAll_pick hk h
 exact ⟨O1, h1⟩
theorem rdP_of {w : World} {s : Sl} {l : List Part} {O : List Nat} (h : (tParts s l).holds w O) : RdP w s l := by
 obtain ⟨xs, h1, O1, O2, h2, h3, _⟩ := h
 refine ⟨xs, h1, ⟨_, SlF.toR h2⟩, fun x hx => ?_⟩
 obtain ⟨O', h4⟩ := tAll_see h3 (List.mem_map.2 ⟨x, hx, rfl⟩)
 exact ⟨O', SlF.toR h4⟩
theorem rdW_of {w : World} {s : Sl} {l : List RowT} {O : List Nat} (h : (tRows s l).holds w O) : RdW w s l := by
 obtain ⟨xs, h1, O1, O2, h2, h3, _⟩ := h
 refine ⟨xs, h1, ⟨_, SlF.toR h2⟩, fun x hx => ?_⟩
 obtain ⟨O', h4⟩ := tAll_see h3 (List.mem_map.2 ⟨x, hx, rfl⟩)
 exact rdP_of h4
theorem dr0 {w : World} {K : World → Prop} (hK : ∀ w', Fr [] w w' → K w') : Dr w K := hK _ (Fr.refl [] w).drew
theorem eqL_step {α : Type} {l m : List α} {k : Nat} (h : l.take k = m.take k) (hl : k < l.length) (hm : k < m.length) (he : l[k] = m[k]) : l.take (k + 1) = m.take (k + 1) := by
 rw [List.take_succ_eq_append_getElem hl, List.take_succ_eq_append_getElem hm, h, he]
theorem sameValues_spec {a b : Sl} {la lb : List Int} {w : World} (ha : ∃ o, SlR w a 1 iv la o) (hb : ∃ o, SlR w b 1 iv lb o) (hla : la.length ≤ 1000000000) {K : Bool → World → Prop} (hK : ∀ w', Fr [] w w' → K (decide (la = lb)) w') : c97 a b w K := by
 refine c97_of ?_
 unfold f97
 have e1 : la.length = a.len := by obtain ⟨o, h⟩ := ha; exact h.1
 have e2 : lb.length = b.len := by obtain ⟨o, h⟩ := hb; exact h.1
 by_cases hl : a.len = b.len
 ·refine ifF (by simp [hl]) ?_
  refine ⟨fun i mm w' => ∃ k : Nat, i = k ∧ k ≤ la.length ∧ mm = la.length - k ∧ la.take k = lb.take k ∧ Fr [] w w', ⟨la.length, 0, rfl, by omega, rfl, by simp, Fr.refl _ _⟩, ?_⟩
  rintro i mm w1 ⟨k, rfl, hk, rfl, heq, hf⟩
  by_cases hlt : k < la.length
  ·refine ifT (by simp; omega) ?_
   refine dr0 fun w2 hf2 => ?_
   have hf := hf.trans hf2 (by simp)
   have hltb : k < lb.length := by omega
   obtain ⟨oa, ha2⟩ := SlR.keep ha hf
   obtain ⟨ob, hb2⟩ := SlR.keep hb hf
   refine SlR.ix iv_len ha2 (by omega) (x := la[k]) (by simp [hlt]) fun ad hc => ?_
   refine ldR0 (k := .i .i64) (x := la[k]) (hc 0 (by omega)) rfl ?_
   refine SlR.ix iv_len hb2 (by omega) (x := lb[k]) (by simp [hltb]) fun ad2 hc2 => ?_
   refine ldR0 (k := .i .i64) (x := lb[k]) (hc2 0 (by omega)) rfl ?_
   by_cases he : la[k] = lb[k]
   ·exact ifF (by simp [he]) ⟨la.length - (k + 1), by omega, k + 1, by rw [wr64 (by omega) (by omega)]; omega, by omega, rfl, eqL_step heq hlt hltb he, hf⟩
   ·refine ifT (by simp [he]) ?_
    have := hK w2 hf
    rwa [decide_eq_false (fun e => he (by simp [e]))] at this
  ·refine ifF (by simp; omega) ?_
   have := hK w1 hf
   rw [List.take_of_length_le (by omega), List.take_of_length_le (by omega)] at heq
   rwa [decide_eq_true heq] at this
 ·refine ifT (by simp; omega) ?_
  have := hK w (Fr.refl _ _)
  rwa [decide_eq_false (fun e => hl (by rw [← e1, ← e2, e]))] at this
theorem sameParts_spec {a b : Sl} {la lb : List Part} {w : World} (ha : RdP w a la) (hb : RdP w b lb) (hla : la.length ≤ 1000000000) (hv : ∀ x ∈ la, x.2.length ≤ 1000000000) {K : Bool → World → Prop} (hK : ∀ w', Fr [] w w' → K (decide (la = lb)) w') : c58 a b w K := by
 refine c58_of ?_
 unfold f58
 obtain ⟨xa, a1, a2, a3⟩ := ha
 obtain ⟨xb, b1, b2, b3⟩ := hb
 have e1 : xa.length = a.len := by obtain ⟨o, h⟩ := a2; exact h.1
 have e2 : xb.length = b.len := by obtain ⟨o, h⟩ := b2; exact h.1
 have e3 : la.length = xa.length := by rw [← a1, List.length_map]
 have e4 : lb.length = xb.length := by rw [← b1, List.length_map]
 by_cases hl : a.len = b.len
 ·refine ifF (by simp [hl]) ?_
  refine ⟨fun i mm w' => ∃ k : Nat, i = k ∧ k ≤ la.length ∧ mm = la.length - k ∧ la.take k = lb.take k ∧ Fr [] w w', ⟨la.length, 0, rfl, by omega, rfl, by simp, Fr.refl _ _⟩, ?_⟩
  rintro i mm w1 ⟨k, rfl, hk, rfl, heq, hf⟩
  by_cases hlt : k < la.length
  ·refine ifT (by simp; omega) ?_
   refine dr0 fun w2 hf2 => ?_
   have hf := hf.trans hf2 (by simp)
   have hltb : k < lb.length := by omega
   have hxa : xa[k]? = some (xa[k]'(by omega)) := List.getElem?_eq_getElem _
   have hxb : xb[k]? = some (xb[k]'(by omega)) := List.getElem?_eq_getElem _
   have g1 : la[k] = pvis (xa[k]'(by omega)) := by simp [← a1]
   have g2 : lb[k] = pvis (xb[k]'(by omega)) := by simp [← b1]
   have va := a3 _ (List.mem_of_getElem? hxa)
   have vb := b3 _ (List.mem_of_getElem? hxb)
   have hvk := hv la[k] (List.getElem_mem hlt)
   rw [g1] at hvk
   generalize xa[k]'(by omega) = x at hxa g1 va hvk
   generalize xb[k]'(by omega) = y at hxb g2 vb
   obtain ⟨oa, ha2⟩ := SlR.keep a2 hf
   obtain ⟨ob, hb2⟩ := SlR.keep b2 hf
   refine SlR.ix pdv_len ha2 (by omega) (x := x) (by rw [Int.toNat_natCast]; exact hxa) fun ad hc => ?_
   refine ldR (k := .sl) (x := x.2.1) (hc 1 (by omega)) rfl ?_
   refine SlR.ix pdv_len hb2 (by omega) (x := y) (by rw [Int.toNat_natCast]; exact hxb) fun ad2 hc2 => ?_
   refine ldR (k := .sl) (x := y.2.1) (hc2 1 (by omega)) rfl ?_
   refine sameValues_spec (SlR.keep va hf) (SlR.keep vb hf) hvk fun w3 hf3 => ?_
   refine dr0 fun w4 hf4 => ?_
   have hf := (hf.trans hf3 (by simp)).trans hf4 (by simp)
   by_cases hv : x.2.2 = y.2.2
   ·rw [decide_eq_true hv]
    refine ifF (by simp) ?_
    obtain ⟨oa, ha3⟩ := SlR.keep a2 hf
    obtain ⟨ob, hb3⟩ := SlR.keep b2 hf
    refine SlR.ix pdv_len ha3 (by omega) (x := x) (by rw [Int.toNat_natCast]; exact hxa) fun ad hc => ?_
    refine ldR0 (k := .i .i64) (x := x.1) (hc 0 (by omega)) rfl ?_
    refine SlR.ix pdv_len hb3 (by omega) (x := y) (by rw [Int.toNat_natCast]; exact hxb) fun ad2 hc2 => ?_
    refine ldR0 (k := .i .i64) (x := y.1) (hc2 0 (by omega)) rfl ?_
    by_cases he : x.1 = y.1
    ·refine ifF (by simp [he]) ⟨la.length - (k + 1), by omega, k + 1, by rw [wr64 (by omega) (by omega)]; omega, by omega, rfl, eqL_step heq hlt hltb ?_, hf⟩
     rw [g1, g2]
     exact Prod.ext he hv
    ·refine ifT (by simp [he]) ?_
     have := hK w4 hf
     rwa [decide_eq_false (fun e => he (by
      have : la[k] = lb[k] := by simp [e]
      rw [g1, g2] at this
      exact (Prod.mk.inj this).1))] at this
   ·rw [decide_eq_false hv]
    refine ifT rfl ?_
    have := hK w4 hf
    rwa [decide_eq_false (fun e => hv (by
     have : la[k] = lb[k] := by simp [e]
     rw [g1, g2] at this
     exact (Prod.mk.inj this).2))] at this
  ·refine ifF (by simp; omega) ?_
   have := hK w1 hf
   rw [List.take_of_length_le (by omega), List.take_of_length_le (by omega)] at heq
   rwa [decide_eq_true heq] at this
 ·refine ifT (by simp; omega) ?_
  have := hK w (Fr.refl _ _)
  rwa [decide_eq_false (fun e => hl (by rw [← e1, ← e2, ← e3, ← e4, e]))] at this
theorem sameRows_spec {a b : Sl} {la lb : List RowT} {w : World} (ha : RdW w a la) (hb : RdW w b lb) (hla : la.length ≤ 1000000000) (hv : ∀ x ∈ la, x.2.length ≤ 1000000000 ∧ ∀ y ∈ x.2, y.2.length ≤ 1000000000) {K : Bool → World → Prop} (hK : ∀ w', Fr [] w w' → K (decide (la = lb)) w') : c20 a b w K := by
 refine c20_of ?_
 unfold f20
 obtain ⟨xa, a1, a2, a3⟩ := ha
 obtain ⟨xb, b1, b2, b3⟩ := hb
 have e1 : xa.length = a.len := by obtain ⟨o, h⟩ := a2; exact h.1
 have e2 : xb.length = b.len := by obtain ⟨o, h⟩ := b2; exact h.1
 have e3 : la.length = xa.length := by rw [← a1, List.length_map]
 have e4 : lb.length = xb.length := by rw [← b1, List.length_map]
 by_cases hl : a.len = b.len
 ·refine ifF (by simp [hl]) ?_
  refine ⟨fun i mm w' => ∃ k : Nat, i = k ∧ k ≤ la.length ∧ mm = la.length - k ∧ la.take k = lb.take k ∧ Fr [] w w', ⟨la.length, 0, rfl, by omega, rfl, by simp, Fr.refl _ _⟩, ?_⟩
  rintro i mm w1 ⟨k, rfl, hk, rfl, heq, hf⟩
  by_cases hlt : k < la.length
  ·refine ifT (by simp; omega) ?_
   refine dr0 fun w2 hf2 => ?_
   have hf := hf.trans hf2 (by simp)
   have hltb : k < lb.length := by omega
   have hxa : xa[k]? = some (xa[k]'(by omega)) := List.getElem?_eq_getElem _
   have hxb : xb[k]? = some (xb[k]'(by omega)) := List.getElem?_eq_getElem _
   have g1 : la[k] = rvis (xa[k]'(by omega)) := by simp [← a1]
   have g2 : lb[k] = rvis (xb[k]'(by omega)) := by simp [← b1]
   have va := a3 _ (List.mem_of_getElem? hxa)
   have vb := b3 _ (List.mem_of_getElem? hxb)
   have hvk := hv la[k] (List.getElem_mem hlt)
   rw [g1] at hvk
   generalize xa[k]'(by omega) = x at hxa g1 va hvk
   generalize xb[k]'(by omega) = y at hxb g2 vb
   obtain ⟨oa, ha2⟩ := SlR.keep a2 hf
   obtain ⟨ob, hb2⟩ := SlR.keep b2 hf
   refine SlR.ix rdv_len ha2 (by omega) (x := x) (by rw [Int.toNat_natCast]; exact hxa) fun ad hc => ?_
   refine ldR (k := .sl) (x := x.2.1) (hc 2 (by omega)) rfl ?_
   refine SlR.ix rdv_len hb2 (by omega) (x := y) (by rw [Int.toNat_natCast]; exact hxb) fun ad2 hc2 => ?_
   refine ldR (k := .sl) (x := y.2.1) (hc2 2 (by omega)) rfl ?_
   refine sameParts_spec (va.keep hf) (vb.keep hf) hvk.1 hvk.2 fun w3 hf3 => ?_
   refine dr0 fun w4 hf4 => ?_
   have hf := (hf.trans hf3 (by simp)).trans hf4 (by simp)
   by_cases hv : x.2.2 = y.2.2
   ·rw [decide_eq_true hv]
    refine ifF (by simp) ?_
    obtain ⟨oa, ha3⟩ := SlR.keep a2 hf
    obtain ⟨ob, hb3⟩ := SlR.keep b2 hf
    refine SlR.ix rdv_len ha3 (by omega) (x := x) (by rw [Int.toNat_natCast]; exact hxa) fun ad hc => ?_
    refine ldR0 (k := .i .i64) (x := x.1.1) (hc 0 (by omega)) rfl ?_
    refine ldR (k := .i .i64) (x := x.1.2) (hc 1 (by omega)) rfl ?_
    refine SlR.ix rdv_len hb3 (by omega) (x := y) (by rw [Int.toNat_natCast]; exact hxb) fun ad2 hc2 => ?_
    refine ldR0 (k := .i .i64) (x := y.1.1) (hc2 0 (by omega)) rfl ?_
    refine ldR (k := .i .i64) (x := y.1.2) (hc2 1 (by omega)) rfl ?_
    refine FT.neEnt ?_
    by_cases he : x.1 = y.1
    ·refine ifF (by simp [he]) ⟨la.length - (k + 1), by omega, k + 1, by rw [wr64 (by omega) (by omega)]; omega, by omega, rfl, eqL_step heq hlt hltb ?_, hf⟩
     rw [g1, g2]
     exact Prod.ext he hv
    ·refine ifT ?_ ?_
     ·have : (x.1.1 == y.1.1 && x.1.2 == y.1.2) = false := by
       cases hh : (x.1.1 == y.1.1 && x.1.2 == y.1.2) with
       | false => rfl
       | true =>
        have := Bool.and_eq_true_iff.1 hh
        exact absurd (Prod.ext (by simpa using this.1) (by simpa using this.2)) he
      rw [this]; rfl
     have := hK w4 hf
     rwa [decide_eq_false (fun e => he (by
      have : la[k] = lb[k] := by simp [e]
      rw [g1, g2] at this
      exact (Prod.mk.inj this).1))] at this
   ·rw [decide_eq_false hv]
    refine ifT rfl ?_
    have := hK w4 hf
    rwa [decide_eq_false (fun e => hv (by
     have : la[k] = lb[k] := by simp [e]
     rw [g1, g2] at this
     exact (Prod.mk.inj this).2))] at this
  ·refine ifF (by simp; omega) ?_
   have := hK w1 hf
   rw [List.take_of_length_le (by omega), List.take_of_length_le (by omega)] at heq
   rwa [decide_eq_true heq] at this
 ·refine ifT (by simp; omega) ?_
  have := hK w (Fr.refl _ _)
  rwa [decide_eq_false (fun e => hl (by rw [← e1, ← e2, ← e3, ← e4, e]))] at this
section
variable {S : List Nat} {w0 w : World} {its : List Thing}
end
end Go.Proofs.Ytcccjgmekakabaa.FW
end

section
namespace Go.Proofs.Ytcccjgmekakabaa.FW
open F
open Go Go.Den Go.Proofs
open FI (PoolM tPool)
open FT (TabM tTab Ent entV ent ent_len atI keyEnt iv iv_len)
abbrev LM := Sl × Int
abbrev slm (x : LM) : List Value := [.slice x.1.a x.1.len x.1.cap]
abbrev mkm (x : LM) : List Value := [.int .i64 x.2]
theorem slm_len (x : LM) : (slm x).length = 1 := rfl
theorem mkm_len (x : LM) : (mkm x).length = 1 := rfl
abbrev g1 (m : Int) : List Value := [.int .i64 m, .slice none 0 0]
abbrev g2 (m : Int) : List Value := [.int .i64 m, .int .i64 0, .slice none 0 0]
theorem g1_len (x : Int) : (g1 x).length = 2 := rfl
theorem g2_len (x : Int) : (g2 x).length = 3 := rfl
theorem und82 : Try.prog.underlying 82 = some (.slice 38) := by kernel_rfl
theorem und83 : Try.prog.underlying 83 = some (.slice 36) := by kernel_rfl
theorem und84 : Try.prog.underlying 84 = some (.slice 56) := by kernel_rfl
theorem und38 : Try.prog.underlying 38 = some (.slice 2) := by kernel_rfl
theorem und28 : Try.prog.underlying 28 = some (.slice 3) := by kernel_rfl
theorem inf38 : ∃ inf : TypeInfo, Try.prog.info? 38 = some inf ∧ inf.zero = some (.slice none 0 0) ∧ inf.size = 1 ∧ inf.bytes = 24 := infoP (by kernel_rfl)
theorem inf36 : ∃ inf : TypeInfo, Try.prog.info? 36 = some inf ∧ inf.zero = some (.slice none 0 0) ∧ inf.size = 1 ∧ inf.bytes = 24 := infoP (by kernel_rfl)
theorem inf56 : ∃ inf : TypeInfo, Try.prog.info? 56 = some inf ∧ inf.zero = some (.slice none 0 0) ∧ inf.size = 1 ∧ inf.bytes = 24 := infoP (by kernel_rfl)
theorem inf2 : ∃ inf : TypeInfo, Try.prog.info? 2 = some inf ∧ inf.zero = some (.int .i64 0) ∧ inf.size = 1 ∧ inf.bytes = 8 := infoP (by kernel_rfl)
def OldAt (n : Nat) (g : Int → List Value) (w : World) (O : List Nat) (x : LM) : Prop := ∃ O1, SlR w x.1 n g (List.replicate x.1.len x.2) O1 ∧ ∀ k ∈ O1, k ∈ O
theorem OldAt.mono {n : Nat} {g : Int → List Value} {w : World} {O O' : List Nat} {x : LM} (h : OldAt n g w O x) (ho : ∀ k ∈ O, k ∈ O') : OldAt n g w O' x := by
 obtain ⟨O1, h3, h4⟩ := h
 exact ⟨O1, h3, fun k hk => ho k (h4 k hk)⟩
def tOld (n : Nat) (g : Int → List Value) (es : List LM) : Thing :=
  { holds := fun w O => (∀ k ∈ O, k < w.heap.size) ∧ ∀ x ∈ es, OldAt n g w O x
    fr := fun {S w w' O} h hf hn => ⟨fun k hk => by have := h.1 k hk; have := hf.size; omega, fun x hx => by
      obtain ⟨O1, h3, h4⟩ := h.2 x hx
      exact ⟨O1, h3.fr hf (fun k hk => hn k (h4 k hk)), h4⟩⟩
    lt := fun h => h.1 }
def pend (e : TypeId) (n : Nat) (g : Int → List Value) (x : LM) : Thing := tSl x.1 e n g (List.replicate x.1.len x.2)
structure Sh where
 v : Sl
 x : Sl
 old : List LM
 new : List LM
def tShelf (et em e : TypeId) (n : Nat) (g : Int → List Value) (q : Sh) : Thing :=
 tStar (tSl q.v et 1 slm (q.old ++ q.new)) (tStar (tSl q.x em 1 mkm (q.old ++ q.new)) (tStar (tOld n g q.old) (tAll (q.new.map (pend e n g)))))
def Sh.fits (q : Sh) (N M : Nat) : Prop := q.old.length ≤ N ∧ q.new.length ≤ M ∧ (∀ x ∈ q.old, x.1.len ≤ 20000) ∧ ∀ x ∈ q.new, x.1.len ≤ 10000
abbrev tShV := tShelf 38 2 2 1 iv
abbrev tShP := tShelf 36 3 40 2 g1
abbrev tShR := tShelf 56 3 65 3 g2
structure PC where
 a : Value
 b : Value
 k : Value
 g : Value
 o : Value
 s : Value
structure BK where
 V : Sh
 P : Sh
 R : Sh
abbrev BK.cells (q : BK) (p : PC) : List Value := [p.a, p.b, p.k, p.g, p.o, p.s, .slice q.V.v.a q.V.v.len q.V.v.cap, .slice q.P.v.a q.P.v.len q.P.v.cap, .slice q.R.v.a q.R.v.len q.R.v.cap,
 .slice q.V.x.a q.V.x.len q.V.x.cap, .slice q.P.x.a q.P.x.len q.P.x.cap, .slice q.R.x.a q.R.x.len q.R.x.cap, .int .i64 (q.V.old.length : Nat), .int .i64 (q.P.old.length : Nat), .int .i64 (q.R.old.length : Nat)]
def BK.fits (q : BK) (N M : Nat) : Prop := q.V.fits N M ∧ q.P.fits N M ∧ q.R.fits N M
def tBook (bp : Nat) (p : PC) (N M : Nat) : Thing := tEx fun q : BK => tAnd (q.fits N M) (tStar (tBlk bp 88 (q.cells p)) (tStar (tShV q.V) (tStar (tShP q.P) (tShR q.R))))
theorem Sh.fits.mono {q : Sh} {N M N' M' : Nat} (h : q.fits N M) (hn : N ≤ N') (hm : M ≤ M') : q.fits N' M' := ⟨by have := h.1; omega, by have := h.2.1; omega, h.2.2⟩
section
variable {S : List Nat} {w0 w : World} {its : List Thing}
theorem all_more {X : Type} {sub : X → Thing} (h : Hp S w0 w its) {i j : Nat} (hne : i ≠ j) {ys : List X} {y : X} (ho : (sub y).own = true) (hi : its[i]? = some (tAll (ys.map sub))) (hj : its[j]? = some (sub y)) : Hp S w0 w ((its.set i (tAll ((ys ++ [y]).map sub))).set j tEmp) :=
 h.join (c := tAll ((ys ++ [y]).map sub)) hne hi hj (tAll_own _) ho (tAll_own _) (fun w O1 O2 g1 g2 g3 => by
  rw [List.map_append]
  exact tAll_append g1 (us := [sub y]) (O2 := O2) ⟨O2, [], g2, rfl, by simp, by simp⟩ g3)
theorem tSl_re {α β : Type} {s : Sl} {e : TypeId} {n : Nat} {f : α → List Value} {g : β → List Value} {l : List α} {l' : List β} (h : Hp S w0 w its) {i : Nat} (hi : its[i]? = some (tSl s e n f l)) (hl : l.length = l'.length) (hf : l.flatMap f = l'.flatMap g) :
  Hp S w0 w (its.set i (tSl s e n g l')) :=
 h.weak hi rfl (fun w O hO => by
  have hO : SlF w s e n f l O := hO
  show SlF w s e n g l' O
  unfold SlF at hO ⊢
  rw [← hl, ← hf]; exact hO) rfl
theorem shelf_open {et em e : TypeId} {n : Nat} {g : Int → List Value} {q : Sh} (h : Hp S w0 w its) {i : Nat} (hi : its[i]? = some (tShelf et em e n g q)) :
  Hp S w0 w (its.set i (tSl q.v et 1 slm (q.old ++ q.new)) ++ [tSl q.x em 1 mkm (q.old ++ q.new), tOld n g q.old, tAll (q.new.map (pend e n g))]) := by
 have hl := (List.getElem?_eq_some_iff.1 hi).1
 have e1 : ∀ (l : List Thing) (t : Thing), (l ++ [t])[l.length]? = some t := fun l t => by simp
 have h := h.split hi rfl rfl
 have h := h.split (e1 _ _) rfl rfl
 rw [List.set_append_right _ _ (Nat.le_refl _), Nat.sub_self, List.set_cons_zero] at h
 have h := h.split (e1 _ _) rfl (tAll_own _)
 rw [List.set_append_right _ _ (Nat.le_refl _), Nat.sub_self, List.set_cons_zero] at h
 simpa using h
theorem shelf_close {et em e : TypeId} {n : Nat} {g : Int → List Value} (q : Sh) {rest : List Thing}
  (h : Hp S w0 w (tSl q.v et 1 slm (q.old ++ q.new) :: tSl q.x em 1 mkm (q.old ++ q.new) :: tOld n g q.old :: tAll (q.new.map (pend e n g)) :: rest)) : Hp S w0 w (tShelf et em e n g q :: rest) := by
 have h := h.joinStar (i := 2) (j := 3) (by omega) rfl rfl rfl (tAll_own _)
 have h := h.joinStar (i := 1) (j := 2) (by omega) rfl rfl rfl rfl
 have h := h.joinStar (i := 0) (j := 1) (by omega) rfl rfl rfl rfl
 have h : Hp S w0 w (tShelf et em e n g q :: tEmp :: tEmp :: tEmp :: rest) := h
 exact h.drop1.drop1.drop1
theorem book_open (h : Hp S w0 w its) {i bp : Nat} {p : PC} {N M : Nat} (hi : its[i]? = some (tBook bp p N M)) :
  ∃ q : BK, q.fits N M ∧ Hp S w0 w (its.set i (tBlk bp 88 (q.cells p)) ++ [tShV q.V, tShP q.P, tShR q.R]) := by
 have hl := (List.getElem?_eq_some_iff.1 hi).1
 have e1 : ∀ (l : List Thing) (t : Thing), (l ++ [t])[l.length]? = some t := fun l t => by simp
 obtain ⟨q, h⟩ := h.openEx hi (fun _ => rfl)
 obtain ⟨hq, h⟩ := h.openAnd (i := i) (by rw [List.getElem?_set_self hl]) rfl
 rw [List.set_set] at h
 have h := h.split (i := i) (by rw [List.getElem?_set_self hl]) rfl rfl
 rw [List.set_set] at h
 have h := h.split (e1 _ _) rfl rfl
 rw [List.set_append_right _ _ (Nat.le_refl _), Nat.sub_self, List.set_cons_zero] at h
 have h := h.split (e1 _ _) rfl rfl
 rw [List.set_append_right _ _ (Nat.le_refl _), Nat.sub_self, List.set_cons_zero] at h
 exact ⟨q, hq, by simpa using h⟩
theorem book_close {bp : Nat} {p : PC} {N M : Nat} (q : BK) (hq : q.fits N M) {rest : List Thing}
  (h : Hp S w0 w (tBlk bp 88 (q.cells p) :: tShV q.V :: tShP q.P :: tShR q.R :: rest)) : Hp S w0 w (tBook bp p N M :: rest) := by
 have h := h.joinStar (i := 2) (j := 3) (by omega) rfl rfl rfl rfl
 have h := h.joinStar (i := 1) (j := 2) (by omega) rfl rfl rfl rfl
 have h := h.joinStar (i := 0) (j := 1) (by omega) rfl rfl rfl rfl
 have h := h.putAnd (i := 0) hq rfl rfl
 have h := h.putEx (f := fun q : BK => tAnd (q.fits N M) (tStar (tBlk bp 88 (q.cells p)) (tStar (tShV q.V) (tStar (tShP q.P) (tShR q.R))))) (i := 0) q rfl rfl
 have h : Hp S w0 w (tBook bp p N M :: tEmp :: tEmp :: tEmp :: rest) := h
 exact h.drop1.drop1.drop1
theorem far_spec {n : Int} {K : Int → World → Prop} (hK : ∀ r : Nat, r ≤ 70 → K r w) : c82 n w K := by
 refine c82_of ?_
 unfold f82
 by_cases h : n < 4
 ·exact ifT (by simp [h]) (hK 70 (by omega))
 ·exact ifF (by simp [h]) (hK 9 (by omega))
theorem rep_set {α : Type} {l : List α} {m : α} {k : Nat} (hk : k < l.length) (ht : l.take k = List.replicate k m) : (l.set k m).take (k + 1) = List.replicate (k + 1) m := by
 rw [List.take_set, List.take_add_one, ht, List.getElem?_eq_getElem hk, List.replicate_succ']
 simp
theorem rep_all {α : Type} {l : List α} {m : α} {k : Nat} (hk : l.length ≤ k) (ht : l.take k = List.replicate k m) (hk2 : k ≤ l.length) : l = List.replicate l.length m := by
 rw [List.take_of_length_le hk] at ht
 have : k = l.length := by omega
 rw [this] at ht; exact ht
set_option maxHeartbeats 4000000 in
theorem values_spec (h : Hp S w0 w its) (i j : Nat) (hij : i ≠ j) {bp : Nat} {p : PC} {N M : Nat} {l : Sl} {xs : List Int} (hi : its[i]? = some (tBook bp p N M)) (hj : its[j]? = some (tSl l 2 1 iv xs)) (hN : N + M ≤ 1000000000) (hl : xs.length ≤ 10000)
  {K : World → Prop} (hK : ∀ w', Hp S w0 w' ((its.set i (tBook bp p N (M + 1))).set j tEmp) → K w') : c112 (some ⟨bp, 6, none⟩) l w K := by
 refine c112_of ?_
 unfold f112
 obtain ⟨inf2, i1, i2, i3, i4⟩ := inf2
 obtain ⟨inf38, j1, j2, j3, j4⟩ := inf38
 obtain ⟨O, h1, back⟩ := h.f2 hij hi hj rfl rfl
 clear h
 have h := h1
 clear h1
 obtain ⟨⟨⟨v, x, old, new⟩, P, R⟩, hq, h⟩ := book_open h (i := 0) rfl
 have h := shelf_open h (i := 2) rfl
 have h : Hp O w w [tBlk bp 88 (BK.cells ⟨⟨v, x, old, new⟩, P, R⟩ p), tSl l 2 1 iv xs, tSl v 38 1 slm (old ++ new), tShP P, tShR R, tSl x 2 1 mkm (old ++ new), tOld 1 iv old, tAll (new.map (pend 2 1 iv))] := h
 have hvl := h.len (s := v) 2 rfl
 have hxl := h.len (s := x) 5 rfl
 have hll := h.len (s := l) 1 rfl
 have hlen : (old ++ new).length ≤ N + M := by have := hq.1.1; have := hq.1.2.1; rw [List.length_append]; dsimp only at *; omega
 refine nns ?_
 refine h.ldv (k := .sl) (x := v) 0 rfl rfl ?_
 generalize IntKind.i64.wrap (1000000 + (v.len : Int)) = m
 refine ⟨fun t mm w' => ∃ (k : Nat) (ys : List Int), t = k ∧ k ≤ xs.length ∧ mm = xs.length - k ∧ ys.length = xs.length ∧ ys.take k = List.replicate k m ∧ Hp O w w' [tBlk bp 88 (BK.cells ⟨⟨v, x, old, new⟩, P, R⟩ p), tSl l 2 1 iv ys, tSl v 38 1 slm (old ++ new), tShP P, tShR R, tSl x 2 1 mkm (old ++ new), tOld 1 iv old, tAll (new.map (pend 2 1 iv))], ⟨xs.length, 0, xs, rfl, by omega, rfl, rfl, by simp, h⟩, ?_⟩
 clear h
 rintro t mm w2 ⟨k, ys, rfl, hk, rfl, hyl, hyt, h⟩
 by_cases hlt : k < xs.length
 ·refine ifT (by simp; omega) ?_
  refine h.ixst (y := m) 1 rfl (by omega) (by rw [Int.toNat_natCast]; omega) iv_len rfl rfl fun w3 h => ?_
  rw [Int.toNat_natCast] at h
  exact ⟨xs.length - (k + 1), by omega, k + 1, ys.set k m, by rw [wr64 (by omega) (by omega)]; omega, by omega, rfl, by simpa using hyl, rep_set (by omega) hyt, h⟩
 ·refine ifF (by simp; omega) ?_
  have hys : ys = List.replicate l.len m := by
   have := rep_all (k := k) (by omega) hyt (by omega)
   rw [hyl, hll] at this; exact this
  subst hys
  refine nns ?_
  refine h.ldv (k := .sl) (x := v) 0 rfl rfl ?_
  refine h.nwapp 2 ((l, m) : LM) (c := [_]) rfl slm_len und82 j1 j3 j2 rfl rfl (by simp [Value.oneCell']) (by rw [j4]; omega) (by omega) fun s w3 h hs _ => ?_
  refine nns ?_
  refine h.stv 0 rfl (by simp) rfl fun w4 h => ?_
  refine nns ?_
  refine h.lda (n := 6) (m := 3) (k := .sl) (x := x) 0 rfl rfl ?_
  refine h.nwapp 5 ((l, m) : LM) (c := [_]) rfl mkm_len und38 i1 i3 i2 rfl rfl (by simp [Value.oneCell']) (by rw [i4]; omega) (by omega) fun s2 w5 h hs2 _ => ?_
  refine nns ?_
  refine h.stq (m := 3) 0 rfl (by simp) rfl fun w6 h => ?_
  have h := all_more h (i := 7) (j := 1) (sub := pend 2 1 iv) (ys := new) (y := (l, m)) (by decide) rfl rfl rfl
  rw [List.append_assoc] at h
  have h : Hp O w w6 [tBlk bp 88 (BK.cells ⟨⟨s, s2, old, new ++ [(l, m)]⟩, P, R⟩ p), tEmp, tSl s 38 1 slm (old ++ (new ++ [(l, m)])), tShP P, tShR R, tSl s2 2 1 mkm (old ++ (new ++ [(l, m)])), tOld 1 iv old, tAll ((new ++ [(l, m)]).map (pend 2 1 iv))] := h
  have h : Hp O w w6 [tSl s 38 1 slm (old ++ (new ++ [(l, m)])), tSl s2 2 1 mkm (old ++ (new ++ [(l, m)])), tOld 1 iv old, tAll ((new ++ [(l, m)]).map (pend 2 1 iv)), tBlk bp 88 (BK.cells ⟨⟨s, s2, old, new ++ [(l, m)]⟩, P, R⟩ p), tShP P, tShR R, tEmp] := h.selL [2, 5, 6, 7, 0, 3, 4, 1] (by decide) rfl
  have h := shelf_close ⟨s, s2, old, new ++ [(l, m)]⟩ h
  have h : Hp O w w6 [tBlk bp 88 (BK.cells ⟨⟨s, s2, old, new ++ [(l, m)]⟩, P, R⟩ p), tShV ⟨s, s2, old, new ++ [(l, m)]⟩, tShP P, tShR R, tEmp] := h.selL [1, 0, 2, 3, 4] (by decide) rfl
  have h := book_close (N := N) (M := M + 1) ⟨⟨s, s2, old, new ++ [(l, m)]⟩, P, R⟩ ⟨⟨hq.1.1, by have := hq.1.2.1; dsimp only at this; simp only [List.length_append, List.length_cons, List.length_nil]; omega, hq.1.2.2.1, fun y hy => by
   rcases List.mem_append.1 hy with hy | hy
   ·exact hq.1.2.2.2 y hy
   ·simp only [List.mem_singleton] at hy
    subst hy
    show l.len ≤ 10000
    omega⟩, hq.2.1.mono (Nat.le_refl _) (by omega), hq.2.2.mono (Nat.le_refl _) (by omega)⟩ h
  have := back (rest := []) rfl rfl rfl h
  rw [List.append_nil] at this
  exact hK w6 this
theorem book_mono (h : Hp S w0 w its) {i bp : Nat} {p : PC} {N M N' M' : Nat} (hi : its[i]? = some (tBook bp p N M)) (hn : N ≤ N') (hm : M ≤ M') : Hp S w0 w (its.set i (tBook bp p N' M')) :=
 h.weak hi rfl (fun w O ⟨q, hq, hO⟩ => ⟨q, ⟨hq.1.mono hn hm, hq.2.1.mono hn hm, hq.2.2.mono hn hm⟩, hO⟩) rfl
set_option maxHeartbeats 4000000 in
theorem parts_spec (h : Hp S w0 w its) (i j : Nat) (hij : i ≠ j) {bp : Nat} {p : PC} {N M : Nat} {l : Sl} {ps : List Part} (hi : its[i]? = some (tBook bp p N M)) (hj : its[j]? = some (tParts l ps)) (hN : N + M + 1 * ps.length ≤ 1000000000) (hl : ps.length ≤ 10000) (hv : ∀ x ∈ ps, x.2.length ≤ 10000)
  {K : World → Prop} (hK : ∀ w', Hp S w0 w' ((its.set i (tBook bp p N (M + 1 * ps.length + 1))).set j tEmp) → K w') : c81 (some ⟨bp, 6, none⟩) l w K := by
 refine c81_of ?_
 unfold f81
 obtain ⟨inf2, i1, i2, i3, i4⟩ := FT.inf3
 obtain ⟨inf38, j1, j2, j3, j4⟩ := inf36
 obtain ⟨O, h1, back⟩ := h.f2 hij hi hj rfl rfl
 clear h
 have h := h1
 clear h1
 obtain ⟨xs, hxs, h⟩ := h.nest_open (i := 1) rfl
 have h : Hp O w w [tBook bp p N M, tSl l 40 2 pdv xs, tAll (xs.map tV)] := h
 have hll := h.len (s := l) 1 rfl
 have hpl : ps.length = xs.length := by rw [← hxs, List.length_map]
 obtain ⟨q, hq, h2⟩ := book_open h (i := 0) rfl
 have h2 : Hp O w w [tBlk bp 88 (q.cells p), tSl l 40 2 pdv xs, tAll (xs.map tV), tShV q.V, tShP q.P, tShR q.R] := h2
 refine nns ?_
 refine h2.lda (n := 6) (m := 1) (k := .sl) (x := q.P.v) 0 rfl rfl ?_
 have hlen : (q.P.old ++ q.P.new).length ≤ N + M := by have := hq.2.1.1; have := hq.2.1.2.1; rw [List.length_append]; omega
 have h3 := shelf_open h2 (i := 4) rfl
 have hpv : (q.P.v.len : Int) ≤ 1000000000 := by have := h3.len (s := q.P.v) (f := slm) (e := 36) (n := 1) (l := q.P.old ++ q.P.new) 4 rfl; omega
 generalize q.P.v.len = pl at hpv
 clear h3 hlen
 generalize IntKind.i64.wrap (1000000 + (pl : Int)) = m
 refine ⟨fun t mm w' => ∃ (k : Nat) (ys : List PV) (ts : List Thing), t = k ∧ k ≤ xs.length ∧ mm = xs.length - k ∧ ys.length = xs.length ∧ ys.take k = List.replicate k ((m, ⟨none, 0, 0⟩, []) : PV) ∧ ys.drop k = xs.drop k ∧ ts.drop k = (xs.map tV).drop k ∧ Hp O w w' [tBook bp p N (M + 1 * k), tSl l 40 2 pdv ys, tAll ts],
  ⟨xs.length, 0, xs, xs.map tV, rfl, by omega, rfl, rfl, by simp, rfl, rfl, h⟩, ?_⟩
 clear h
 rintro t mm w2 ⟨k, ys, ts, rfl, hk, rfl, hyl, hyt, hyd, htd, h⟩
 by_cases hlt : k < xs.length
 ·refine ifT (by simp; omega) ?_
  have hy : ys[k]? = some xs[k] := by
   have e := congrArg (fun L => L[0]?) hyd
   simpa [hlt] using e
  have ht : ts[k]? = some (tV xs[k]) := by
   have e := congrArg (fun L => L[0]?) htd
   simpa [hlt] using e
  have hxm : pvis xs[k] ∈ ps := by rw [← hxs]; exact List.mem_map_of_mem (List.getElem_mem hlt)
  have hvx := hv _ hxm
  generalize xs[k] = x at hy ht hvx
  refine h.ixr (s := l) (l := ys) (f := pdv) (n := 2) (e := 40) 1 rfl (by omega) (by rw [Int.toNat_natCast]; exact hy) pdv_len fun ad hc => ?_
  refine ldR (k := .sl) (x := x.2.1) (hc 1 (by omega)) rfl ?_
  have h := h.pick (i := 2) (k := k) rfl ht rfl
  have h : Hp O w w2 [tBook bp p N (M + 1 * k), tSl l 40 2 pdv ys, tAll (ts.set k tEmp), tSl x.2.1 2 1 iv x.2.2] := h
  refine values_spec h 0 3 (by decide) (l := x.2.1) rfl rfl (by omega) hvx fun w3 h => ?_
  have h : Hp O w w3 [tBook bp p N (M + 1 * k + 1), tSl l 40 2 pdv ys, tAll (ts.set k tEmp), tEmp] := h
  refine h.ixw (s := l) (l := ys) (f := pdv) (n := 2) 1 rfl (by omega) (by rw [Int.toNat_natCast]; omega) pdv_len fun wb off c hoff h hb => ?_
  refine h.stv 1 rfl (by omega) rfl fun w4 h => ?_
  refine h.stq (m := 1) 1 rfl (by simp; omega) rfl fun w5 h => ?_
  have h := hb ((m, ⟨none, 0, 0⟩, []) : PV) h rfl
  rw [Int.toNat_natCast] at h
  have h : Hp O w w5 [tBook bp p N (M + 1 * (k + 1)), tSl l 40 2 pdv (ys.set k ((m, ⟨none, 0, 0⟩, []) : PV)), tAll (ts.set k tEmp), tEmp] := h
  exact ⟨xs.length - (k + 1), by omega, k + 1, ys.set k ((m, ⟨none, 0, 0⟩, []) : PV), ts.set k tEmp, by rw [wr64 (by omega) (by omega)]; omega, by omega, rfl, by simpa using hyl, rep_set (by omega) hyt, by
   rw [List.drop_set_of_lt (by omega), ← List.drop_drop, hyd, List.drop_drop], by
   rw [List.drop_set_of_lt (by omega), ← List.drop_drop, htd, List.drop_drop], h.trim 3⟩
 ·refine ifF (by simp; omega) ?_
  obtain rfl : k = xs.length := by omega
  have hys : ys = List.replicate l.len ((m, ⟨none, 0, 0⟩, []) : PV) := by
   have := rep_all (k := xs.length) (by omega) hyt (by omega)
   rw [hyl, hll] at this; exact this
  subst hys
  have h := tSl_re h (i := 1) (g := g1) (l' := List.replicate l.len m) rfl (by simp) (by rw [List.flatMap_replicate, List.flatMap_replicate])
  obtain ⟨q, hq, h⟩ := book_open h (i := 0) rfl
  obtain ⟨V, ⟨v, x, old, new⟩, R⟩ := q
  have h := shelf_open h (i := 4) rfl
  have h : Hp O w w2 [tBlk bp 88 (BK.cells ⟨V, ⟨v, x, old, new⟩, R⟩ p), tSl l 40 2 g1 (List.replicate l.len m), tAll ts, tShV V, tSl v 36 1 slm (old ++ new), tShR R, tSl x 3 1 mkm (old ++ new), tOld 2 g1 old, tAll (new.map (pend 40 2 g1))] := h
  have hvl := h.len (s := v) 4 rfl
  have hxl := h.len (s := x) 6 rfl
  have hlen : (old ++ new).length ≤ N + (M + 1 * xs.length) := by have := hq.2.1.1; have := hq.2.1.2.1; rw [List.length_append]; dsimp only at *; omega
  refine nns ?_
  refine h.lda (n := 6) (m := 1) (k := .sl) (x := v) 0 rfl rfl ?_
  refine h.nwapp 4 ((l, m) : LM) (c := [_]) rfl slm_len und83 j1 j3 j2 rfl rfl (by simp [Value.oneCell']) (by rw [j4]; omega) (by omega) fun s w3 h hs _ => ?_
  refine nns ?_
  refine h.stq (m := 1) 0 rfl (by simp) rfl fun w4 h => ?_
  refine nns ?_
  refine h.lda (n := 6) (m := 4) (k := .sl) (x := x) 0 rfl rfl ?_
  refine h.nwapp 6 ((l, m) : LM) (c := [_]) rfl mkm_len und28 i1 i3 i2 rfl rfl (by simp [Value.oneCell']) (by rw [i4]; omega) (by omega) fun s2 w5 h hs2 _ => ?_
  refine nns ?_
  refine h.stq (m := 4) 0 rfl (by simp) rfl fun w6 h => ?_
  have h := all_more h (i := 8) (j := 1) (sub := pend 40 2 g1) (ys := new) (y := (l, m)) (by decide) rfl rfl rfl
  rw [List.append_assoc] at h
  have h : Hp O w w6 [tBlk bp 88 (BK.cells ⟨V, ⟨s, s2, old, new ++ [(l, m)]⟩, R⟩ p), tEmp, tAll ts, tShV V, tSl s 36 1 slm (old ++ (new ++ [(l, m)])), tShR R, tSl s2 3 1 mkm (old ++ (new ++ [(l, m)])), tOld 2 g1 old, tAll ((new ++ [(l, m)]).map (pend 40 2 g1))] := h
  have h : Hp O w w6 [tSl s 36 1 slm (old ++ (new ++ [(l, m)])), tSl s2 3 1 mkm (old ++ (new ++ [(l, m)])), tOld 2 g1 old, tAll ((new ++ [(l, m)]).map (pend 40 2 g1)), tBlk bp 88 (BK.cells ⟨V, ⟨s, s2, old, new ++ [(l, m)]⟩, R⟩ p), tShV V, tShR R, tEmp] := h.selL [4, 6, 7, 8, 0, 3, 5, 1] (by decide) rfl
  have h := shelf_close ⟨s, s2, old, new ++ [(l, m)]⟩ h
  have h : Hp O w w6 [tBlk bp 88 (BK.cells ⟨V, ⟨s, s2, old, new ++ [(l, m)]⟩, R⟩ p), tShV V, tShP ⟨s, s2, old, new ++ [(l, m)]⟩, tShR R, tEmp] := h.selL [1, 2, 0, 3, 4] (by decide) rfl
  have hn : Sh.fits ⟨s, s2, old, new ++ [(l, m)]⟩ N (M + 1 * xs.length + 1) := ⟨hq.2.1.1, by have := hq.2.1.2.1; dsimp only at this; simp only [List.length_append, List.length_cons, List.length_nil]; omega, hq.2.1.2.2.1, fun y hy => by
   rcases List.mem_append.1 hy with hy | hy
   ·exact hq.2.1.2.2.2 y hy
   ·simp only [List.mem_singleton] at hy
    subst hy
    show l.len ≤ 10000
    omega⟩
  have h := book_close (N := N) (M := M + 1 * xs.length + 1) ⟨V, ⟨s, s2, old, new ++ [(l, m)]⟩, R⟩ ⟨hq.1.mono (Nat.le_refl _) (by omega), hn, hq.2.2.mono (Nat.le_refl _) (by omega)⟩ h
  have := back (rest := []) rfl rfl rfl h
  rw [List.append_nil] at this
  rw [hpl] at hK
  exact hK w6 this
set_option maxHeartbeats 4000000 in
theorem rows_spec (h : Hp S w0 w its) (i j : Nat) (hij : i ≠ j) {bp : Nat} {p : PC} {N M : Nat} {l : Sl} {ps : List RowT} (hi : its[i]? = some (tBook bp p N M)) (hj : its[j]? = some (tRows l ps)) (hN : N + M + 14 * ps.length ≤ 1000000000) (hl : ps.length ≤ 10000) (hv : ∀ x ∈ ps, x.2.length ≤ 13 ∧ ∀ y ∈ x.2, y.2.length ≤ 10000)
  {K : World → Prop} (hK : ∀ w', Hp S w0 w' ((its.set i (tBook bp p N (M + 14 * ps.length + 1))).set j tEmp) → K w') : c40 (some ⟨bp, 6, none⟩) l w K := by
 refine c40_of ?_
 unfold f40
 obtain ⟨inf2, i1, i2, i3, i4⟩ := FT.inf3
 obtain ⟨inf38, j1, j2, j3, j4⟩ := inf56
 obtain ⟨O, h1, back⟩ := h.f2 hij hi hj rfl rfl
 clear h
 have h := h1
 clear h1
 obtain ⟨xs, hxs, h⟩ := h.nest_open (i := 1) rfl
 have h : Hp O w w [tBook bp p N M, tSl l 65 3 rdv xs, tAll (xs.map tPs)] := h
 have hll := h.len (s := l) 1 rfl
 have hpl : ps.length = xs.length := by rw [← hxs, List.length_map]
 obtain ⟨q, hq, h2⟩ := book_open h (i := 0) rfl
 have h2 : Hp O w w [tBlk bp 88 (q.cells p), tSl l 65 3 rdv xs, tAll (xs.map tPs), tShV q.V, tShP q.P, tShR q.R] := h2
 refine nns ?_
 refine h2.lda (n := 6) (m := 2) (k := .sl) (x := q.R.v) 0 rfl rfl ?_
 have hlen : (q.R.old ++ q.R.new).length ≤ N + M := by have := hq.2.2.1; have := hq.2.2.2.1; rw [List.length_append]; omega
 have h3 := shelf_open h2 (i := 5) rfl
 have hpv : (q.R.v.len : Int) ≤ 1000000000 := by have := h3.len (s := q.R.v) (f := slm) (e := 56) (n := 1) (l := q.R.old ++ q.R.new) 5 rfl; omega
 generalize q.R.v.len = pl at hpv
 clear h3 hlen
 generalize IntKind.i64.wrap (1000000 + (pl : Int)) = m
 refine ⟨fun t mm w' => ∃ (k : Nat) (ys : List RV) (ts : List Thing), t = k ∧ k ≤ xs.length ∧ mm = xs.length - k ∧ ys.length = xs.length ∧ ys.take k = List.replicate k (((m, 0), ⟨none, 0, 0⟩, []) : RV) ∧ ys.drop k = xs.drop k ∧ ts.drop k = (xs.map tPs).drop k ∧ Hp O w w' [tBook bp p N (M + 14 * k), tSl l 65 3 rdv ys, tAll ts],
  ⟨xs.length, 0, xs, xs.map tPs, rfl, by omega, rfl, rfl, by simp, rfl, rfl, h⟩, ?_⟩
 clear h
 rintro t mm w2 ⟨k, ys, ts, rfl, hk, rfl, hyl, hyt, hyd, htd, h⟩
 by_cases hlt : k < xs.length
 ·refine ifT (by simp; omega) ?_
  have hy : ys[k]? = some xs[k] := by
   have e := congrArg (fun L => L[0]?) hyd
   simpa [hlt] using e
  have ht : ts[k]? = some (tPs xs[k]) := by
   have e := congrArg (fun L => L[0]?) htd
   simpa [hlt] using e
  have hxm : rvis xs[k] ∈ ps := by rw [← hxs]; exact List.mem_map_of_mem (List.getElem_mem hlt)
  have hvx := hv _ hxm
  generalize xs[k] = x at hy ht hvx
  refine h.ixr (s := l) (l := ys) (f := rdv) (n := 3) (e := 65) 1 rfl (by omega) (by rw [Int.toNat_natCast]; exact hy) rdv_len fun ad hc => ?_
  refine ldR (k := .sl) (x := x.2.1) (hc 2 (by omega)) rfl ?_
  have h := h.pick (i := 2) (k := k) rfl ht rfl
  have h : Hp O w w2 [tBook bp p N (M + 14 * k), tSl l 65 3 rdv ys, tAll (ts.set k tEmp), tParts x.2.1 x.2.2] := h
  have hv13 : x.2.2.length ≤ 13 := hvx.1
  refine parts_spec h 0 3 (by decide) (l := x.2.1) (ps := x.2.2) rfl rfl (by omega) (by have := hvx.1; show x.2.2.length ≤ 10000; have : x.2.2.length ≤ 13 := this; omega) hvx.2 fun w3 h => ?_
  have h := book_mono h (i := 0) (N' := N) (M' := M + 14 * (k + 1)) rfl (Nat.le_refl _) (by have : x.2.2.length ≤ 13 := hvx.1; omega)
  have h : Hp O w w3 [tBook bp p N (M + 14 * (k + 1)), tSl l 65 3 rdv ys, tAll (ts.set k tEmp), tEmp] := h
  refine h.ixw (s := l) (l := ys) (f := rdv) (n := 3) 1 rfl (by omega) (by rw [Int.toNat_natCast]; omega) rdv_len fun wb off c hoff h hb => ?_
  refine h.stv 1 rfl (by omega) rfl fun w4 h => ?_
  refine h.stq (m := 1) 1 rfl (by simp; omega) rfl fun w5 h => ?_
  refine h.stq (m := 2) 1 rfl (by simp; omega) rfl fun w6 h => ?_
  have h := hb (((m, 0), ⟨none, 0, 0⟩, []) : RV) h rfl
  rw [Int.toNat_natCast] at h
  have h : Hp O w w6 [tBook bp p N (M + 14 * (k + 1)), tSl l 65 3 rdv (ys.set k (((m, 0), ⟨none, 0, 0⟩, []) : RV)), tAll (ts.set k tEmp), tEmp] := h
  exact ⟨xs.length - (k + 1), by omega, k + 1, ys.set k (((m, 0), ⟨none, 0, 0⟩, []) : RV), ts.set k tEmp, by rw [wr64 (by omega) (by omega)]; omega, by omega, rfl, by simpa using hyl, rep_set (by omega) hyt, by
   rw [List.drop_set_of_lt (by omega), ← List.drop_drop, hyd, List.drop_drop], by
   rw [List.drop_set_of_lt (by omega), ← List.drop_drop, htd, List.drop_drop], h.trim 3⟩
 ·refine ifF (by simp; omega) ?_
  obtain rfl : k = xs.length := by omega
  have hys : ys = List.replicate l.len (((m, 0), ⟨none, 0, 0⟩, []) : RV) := by
   have := rep_all (k := xs.length) (by omega) hyt (by omega)
   rw [hyl, hll] at this; exact this
  subst hys
  have h := tSl_re h (i := 1) (g := g2) (l' := List.replicate l.len m) rfl (by simp) (by rw [List.flatMap_replicate, List.flatMap_replicate])
  obtain ⟨q, hq, h⟩ := book_open h (i := 0) rfl
  obtain ⟨V, P, ⟨v, x, old, new⟩⟩ := q
  have h := shelf_open h (i := 5) rfl
  have h : Hp O w w2 [tBlk bp 88 (BK.cells ⟨V, P, ⟨v, x, old, new⟩⟩ p), tSl l 65 3 g2 (List.replicate l.len m), tAll ts, tShV V, tShP P, tSl v 56 1 slm (old ++ new), tSl x 3 1 mkm (old ++ new), tOld 3 g2 old, tAll (new.map (pend 65 3 g2))] := h
  have hvl := h.len (s := v) 5 rfl
  have hxl := h.len (s := x) 6 rfl
  have hlen : (old ++ new).length ≤ N + (M + 14 * xs.length) := by have := hq.2.2.1; have := hq.2.2.2.1; rw [List.length_append]; dsimp only at *; omega
  refine nns ?_
  refine h.lda (n := 6) (m := 2) (k := .sl) (x := v) 0 rfl rfl ?_
  refine h.nwapp 5 ((l, m) : LM) (c := [_]) rfl slm_len und84 j1 j3 j2 rfl rfl (by simp [Value.oneCell']) (by rw [j4]; omega) (by omega) fun s w3 h hs _ => ?_
  refine nns ?_
  refine h.stq (m := 2) 0 rfl (by simp) rfl fun w4 h => ?_
  refine nns ?_
  refine h.lda (n := 6) (m := 5) (k := .sl) (x := x) 0 rfl rfl ?_
  refine h.nwapp 6 ((l, m) : LM) (c := [_]) rfl mkm_len und28 i1 i3 i2 rfl rfl (by simp [Value.oneCell']) (by rw [i4]; omega) (by omega) fun s2 w5 h hs2 _ => ?_
  refine nns ?_
  refine h.stq (m := 5) 0 rfl (by simp) rfl fun w6 h => ?_
  have h := all_more h (i := 8) (j := 1) (sub := pend 65 3 g2) (ys := new) (y := (l, m)) (by decide) rfl rfl rfl
  rw [List.append_assoc] at h
  have h : Hp O w w6 [tBlk bp 88 (BK.cells ⟨V, P, ⟨s, s2, old, new ++ [(l, m)]⟩⟩ p), tEmp, tAll ts, tShV V, tShP P, tSl s 56 1 slm (old ++ (new ++ [(l, m)])), tSl s2 3 1 mkm (old ++ (new ++ [(l, m)])), tOld 3 g2 old, tAll ((new ++ [(l, m)]).map (pend 65 3 g2))] := h
  have h : Hp O w w6 [tSl s 56 1 slm (old ++ (new ++ [(l, m)])), tSl s2 3 1 mkm (old ++ (new ++ [(l, m)])), tOld 3 g2 old, tAll ((new ++ [(l, m)]).map (pend 65 3 g2)), tBlk bp 88 (BK.cells ⟨V, P, ⟨s, s2, old, new ++ [(l, m)]⟩⟩ p), tShV V, tShP P, tEmp] := h.selL [5, 6, 7, 8, 0, 3, 4, 1] (by decide) rfl
  have h := shelf_close ⟨s, s2, old, new ++ [(l, m)]⟩ h
  have h : Hp O w w6 [tBlk bp 88 (BK.cells ⟨V, P, ⟨s, s2, old, new ++ [(l, m)]⟩⟩ p), tShV V, tShP P, tShR ⟨s, s2, old, new ++ [(l, m)]⟩, tEmp] := h.selL [1, 2, 3, 0, 4] (by decide) rfl
  have hn : Sh.fits ⟨s, s2, old, new ++ [(l, m)]⟩ N (M + 14 * xs.length + 1) := ⟨hq.2.2.1, by have := hq.2.2.2.1; dsimp only at this; simp only [List.length_append, List.length_cons, List.length_nil]; omega, hq.2.2.2.2.1, fun y hy => by
   rcases List.mem_append.1 hy with hy | hy
   ·exact hq.2.2.2.2.2 y hy
   ·simp only [List.mem_singleton] at hy
    subst hy
    show l.len ≤ 10000
    omega⟩
  have h := book_close (N := N) (M := M + 14 * xs.length + 1) ⟨V, P, ⟨s, s2, old, new ++ [(l, m)]⟩⟩ ⟨hq.1.mono (Nat.le_refl _) (by omega), hq.2.1.mono (Nat.le_refl _) (by omega), hn⟩ h
  have := back (rest := []) rfl rfl rfl h
  rw [List.append_nil] at this
  rw [hpl] at hK
  exact hK w6 this
end
end Go.Proofs.Ytcccjgmekakabaa.FW
end

section
namespace Go.Proofs.Ytcccjgmekakabaa.FW
open F
open Go Go.Den Go.Proofs
theorem RdK.open {w : World} {s : Sl} {l : KD} (h : RdK w s l) : ∃ xs : List KS, kinds xs = l ∧ (∃ o, SlR w s 2 kdv xs o) ∧ ∀ x ∈ xs, x.2.1.len ≤ x.2.1.cap ∧ ∃ o, SlR w x.2.1 1 sv x.2.2 o := by
 obtain ⟨xs, O, h1, _, ⟨o, h2, _⟩, h3⟩ := h
 refine ⟨xs, h1, ⟨o, h2⟩, fun x hx => ?_⟩
 obtain ⟨q, o, h4, _⟩ := h3 x hx
 exact ⟨q, o, h4⟩
theorem ba_ne {x y : ByteArray} (h : x ≠ y) : (!(x.toList == y.toList)) = true := by
 rw [ba_eq, decide_eq_false h]; rfl
theorem ba_yes (x : ByteArray) : (x.toList == x.toList) = true := by simp
theorem ba_yes' (x : ByteArray) : ¬ (!(x.toList == x.toList)) = true := by simp
set_option maxHeartbeats 2000000 in
theorem SameKinds_spec {a b : Sl} {la lb : KD} {w : World} (ha : RdK w a la) (hb : RdK w b lb) (hla : la.length ≤ 1000000000) (hv : ∀ x ∈ la, x.2.length ≤ 1000000000) {K : Bool → World → Prop} (hK : ∀ w', Fr [] w w' → K (decide (la = lb)) w') : c39 a b w K := by
 refine c39_of ?_
 unfold f39
 obtain ⟨xa, a1, a2, a3⟩ := ha.open
 obtain ⟨xb, b1, b2, b3⟩ := hb.open
 have e1 : xa.length = a.len := by obtain ⟨o, h⟩ := a2; exact h.1
 have e2 : xb.length = b.len := by obtain ⟨o, h⟩ := b2; exact h.1
 have e3 : la.length = xa.length := by rw [← a1]; simp [kinds]
 have e4 : lb.length = xb.length := by rw [← b1]; simp [kinds]
 by_cases hl : a.len = b.len
 ·refine ifF (by simp [hl]) ?_
  refine ⟨fun i mm w' => ∃ k : Nat, i = k ∧ k ≤ la.length ∧ mm = la.length - k ∧ la.take k = lb.take k ∧ Fr [] w w', ⟨la.length, 0, rfl, by omega, rfl, by simp, Fr.refl _ _⟩, ?_⟩
  rintro i mm w1 ⟨k, rfl, hk, rfl, heq, hf⟩
  by_cases hlt : k < la.length
  ·refine ifT (by simp; omega) ?_
   have hltb : k < lb.length := by omega
   have hxa : xa[k]? = some (xa[k]'(by omega)) := List.getElem?_eq_getElem _
   have hxb : xb[k]? = some (xb[k]'(by omega)) := List.getElem?_eq_getElem _
   have g1 : la[k] = kvis (xa[k]'(by omega)) := by simp [← a1, kinds, kvis]
   have g2 : lb[k] = kvis (xb[k]'(by omega)) := by simp [← b1, kinds, kvis]
   have va := (a3 _ (List.mem_of_getElem? hxa)).2
   have vb := (b3 _ (List.mem_of_getElem? hxb)).2
   have hvk := hv la[k] (List.getElem_mem hlt)
   rw [g1] at hvk
   generalize xa[k]'(by omega) = x at hxa g1 va hvk
   generalize xb[k]'(by omega) = y at hxb g2 vb
   have hvk : x.2.2.length ≤ 1000000000 := hvk
   have l1 : x.2.2.length = x.2.1.len := by obtain ⟨o, h⟩ := va; exact h.1
   have l2 : y.2.2.length = y.2.1.len := by obtain ⟨o, h⟩ := vb; exact h.1
   have no : ∀ {w' : World}, Fr [] w w' → ¬ (x.1 = y.1 ∧ x.2.2 = y.2.2) → K false w' := fun hf hne => by
    have := hK _ hf
    rwa [decide_eq_false (fun e => hne (by
     have : la[k] = lb[k] := by simp [e]
     rw [g1, g2] at this
     exact ⟨(Prod.mk.inj this).1, (Prod.mk.inj this).2⟩))] at this
   refine ⟨fun w' => Fr [] w w' ∧ x.1 = y.1 ∧ x.2.1.len = y.2.1.len, ?_, ?_⟩
   ·refine dr0 fun w2 hf2 => ?_
    have hf := hf.trans hf2 (by simp)
    obtain ⟨oa, ha2⟩ := SlR.keep a2 hf
    obtain ⟨ob, hb2⟩ := SlR.keep b2 hf
    refine SlR.ix kdv_len ha2 (by omega) (x := x) (by rw [Int.toNat_natCast]; exact hxa) fun ad hc => ?_
    refine ldR0 (k := .s) (x := x.1) (hc 0 (by omega)) rfl ?_
    refine SlR.ix kdv_len hb2 (by omega) (x := y) (by rw [Int.toNat_natCast]; exact hxb) fun ad2 hc2 => ?_
    refine ldR0 (k := .s) (x := y.1) (hc2 0 (by omega)) rfl ?_
    by_cases hn : x.1 = y.1
    ·refine ifF (by rw [hn]; exact ba_yes' _) ?_
     refine SlR.ix kdv_len ha2 (by omega) (x := x) (by rw [Int.toNat_natCast]; exact hxa) fun ad hc => ?_
     refine ldR (k := .sl) (x := x.2.1) (hc 1 (by omega)) rfl ?_
     refine SlR.ix kdv_len hb2 (by omega) (x := y) (by rw [Int.toNat_natCast]; exact hxb) fun ad2 hc2 => ?_
     refine ldR (k := .sl) (x := y.2.1) (hc2 1 (by omega)) rfl ?_
     by_cases hll : x.2.1.len = y.2.1.len
     ·exact ifF (by simp [hll]) ⟨hf, hn, hll⟩
     ·refine ifT (by simp; omega) (no hf fun h => hll ?_)
      rw [← l1, ← l2, h.2]
    ·exact ifT (ba_ne hn) (no hf fun h => hn h.1)
   rintro w2 ⟨hf, hn, hll⟩
   refine ⟨fun i mm w' => ∃ q : Nat, i = q ∧ q ≤ x.2.2.length ∧ mm = x.2.2.length - q ∧ x.2.2.take q = y.2.2.take q ∧ Fr [] w w', ⟨x.2.2.length, 0, rfl, by omega, rfl, by simp, hf⟩, ?_⟩
   rintro i mm w3 ⟨q, rfl, hq, rfl, hqe, hf⟩
   obtain ⟨oa, ha2⟩ := SlR.keep a2 hf
   refine SlR.ix kdv_len ha2 (by omega) (x := x) (by rw [Int.toNat_natCast]; exact hxa) fun ad hc => ?_
   refine ldR (k := .sl) (x := x.2.1) (hc 1 (by omega)) rfl ?_
   by_cases hql : q < x.2.2.length
   ·refine ifT (by simp; omega) ?_
    refine dr0 fun w4 hf4 => ?_
    have hf := hf.trans hf4 (by simp)
    obtain ⟨oa, ha2⟩ := SlR.keep a2 hf
    obtain ⟨ob, hb2⟩ := SlR.keep b2 hf
    obtain ⟨ova, va2⟩ := SlR.keep va hf
    obtain ⟨ovb, vb2⟩ := SlR.keep vb hf
    have hqy : q < y.2.2.length := by omega
    refine SlR.ix kdv_len ha2 (by omega) (x := x) (by rw [Int.toNat_natCast]; exact hxa) fun ad hc => ?_
    refine ldR (k := .sl) (x := x.2.1) (hc 1 (by omega)) rfl ?_
    refine SlR.ix sv_len va2 (by omega) (x := x.2.2[q]) (by simp [hql]) fun ad3 hc3 => ?_
    refine ldR0 (k := .s) (x := x.2.2[q]) (hc3 0 (by omega)) rfl ?_
    refine SlR.ix kdv_len hb2 (by omega) (x := y) (by rw [Int.toNat_natCast]; exact hxb) fun ad2 hc2 => ?_
    refine ldR (k := .sl) (x := y.2.1) (hc2 1 (by omega)) rfl ?_
    refine SlR.ix sv_len vb2 (by omega) (x := y.2.2[q]) (by simp [hqy]) fun ad4 hc4 => ?_
    refine ldR0 (k := .s) (x := y.2.2[q]) (hc4 0 (by omega)) rfl ?_
    by_cases he : x.2.2[q] = y.2.2[q]
    ·exact ifF (by rw [he]; exact ba_yes' _) ⟨x.2.2.length - (q + 1), by omega, q + 1, by rw [wr64 (by omega) (by omega)]; omega, by omega, rfl, eqL_step hqe hql hqy he, hf⟩
    ·exact ifT (ba_ne he) (no hf fun h => he (by simp [h.2]))
   ·refine ifF (by simp; omega) ?_
    rw [List.take_of_length_le (by omega), List.take_of_length_le (by omega)] at hqe
    refine ⟨la.length - (k + 1), by omega, k + 1, by rw [wr64 (by omega) (by omega)]; omega, by omega, rfl, eqL_step heq hlt hltb ?_, hf⟩
    rw [g1, g2]
    exact Prod.ext hn hqe
  ·refine ifF (by simp; omega) ?_
   have := hK w1 hf
   rw [List.take_of_length_le (by omega), List.take_of_length_le (by omega)] at heq
   rwa [decide_eq_true heq] at this
 ·refine ifT (by simp; omega) ?_
  have := hK w (Fr.refl _ _)
  rwa [decide_eq_false (fun e => hl (by rw [← e1, ← e2, ← e3, ← e4, e]))] at this
def behindS : ByteArray := ⟨#[98, 101, 104, 105, 110, 100]⟩
def bh : KS := (behindS, ⟨none, 0, 0⟩, [])
def tFL (x : KS) : Thing := tSl ⟨x.2.1.a, x.2.1.len + 2, x.2.1.cap⟩ 9 1 sv (x.2.2 ++ [behindS, behindS])
def tLent (s : Sl) (xs : List KS) : Thing := tStar (tSl ⟨s.a, s.len + 2, s.cap⟩ 94 2 kdv (xs ++ [bh, bh])) (tAll (xs.map tFL))
section
variable {S : List Nat} {w0 w : World} {its : List Thing}
theorem cut0 {α : Type} {f : α → List Value} {e : TypeId} {n k : Nat} {l : List α} (h : Hp S w0 w its) (i : Nat) {s0 s : Sl} (hi : (its[i]?).map Thing.holds = some (tSl s0 e n f l).holds) (ha : s.a = s0.a) {b m : Int} {K : Sl → Prop} (h1 : 0 ≤ b) (h2 : b ≤ m) (h3 : m ≤ s.cap)
  (hK : K ⟨s.a, b.toNat, m.toNat⟩) : Cut s 0 b m k K := by
 obtain ⟨O, hO⟩ := h.see' hi
 refine ⟨by omega, h1, h2, h3, ?_⟩
 have e : (if m.toNat = (0 : Int).toNat then s.a else s.a.map (·.add ((0 : Int).toNat * k))) = s.a := by
  split
  ·rfl
  ·rw [ha]
   rcases hO.2 with ⟨q, _⟩ | ⟨b, off, c, q, _⟩
   ·rw [q]; rfl
   ·rw [q]
    simp [Addr.add_none]
 rw [e]
 exact hK
theorem SlF.pre {α : Type} {f : α → List Value} {e : TypeId} {n : Nat} (hf : ∀ x, (f x).length = n) {w : World} {s s' : Sl} {l l' : List α} {o : List Nat} (h : SlF w s' e n f (l ++ l') o) (hl : l.length = s.len) (ha : s.a = s'.a) : SlR w s n f l o ∨ s.len = 0 := by
 by_cases h0 : s.len = 0
 ·exact .inr h0
 ·refine .inl ⟨hl, .inr ?_⟩
  have hR := SlF.toR h
  have := hR.1
  rw [List.length_append] at this
  rcases hR.2 with ⟨q, _⟩ | ⟨x, q1, q2, q3, q4⟩
  ·omega
  ·refine ⟨x, by rw [ha]; exact q1, q2, q3, fun j u hj => q4 j u ?_⟩
   rw [List.flatMap_append, List.getElem?_append_left (List.getElem?_eq_some_iff.1 hj).1]
   exact hj
theorem SlF.pre' {α : Type} {f : α → List Value} {e : TypeId} {n : Nat} (hf : ∀ x, (f x).length = n) {w : World} {s s' : Sl} {l l' : List α} {o : List Nat} (h : SlF w s' e n f (l ++ l') o) (hl : l.length = s.len) (ha : s.a = s'.a) : ∃ o', SlR w s n f l o' ∧ ∀ k ∈ o', k ∈ o := by
 rcases SlF.pre hf h hl ha with h1 | h1
 ·exact ⟨o, h1, fun k hk => hk⟩
 ·have : l = [] := by apply List.eq_nil_of_length_eq_zero; omega
  subst this
  exact ⟨[], ⟨h1.symm ▸ rfl, .inl ⟨h1, rfl⟩⟩, by simp⟩
theorem lent_rk {w : World} {O : List Nat} {s : Sl} {xs : List KS} (h : (tLent s xs).holds w O) (hl : xs.length = s.len) (hx : ∀ x ∈ xs, x.2.2.length = x.2.1.len) : (tRK s xs).holds w O := by
 have hlt := (tLent s xs).lt h
 obtain ⟨O1, O2, h1, h2, h3, h4⟩ := h
 refine ⟨hlt, ?_, fun x hxm => ?_⟩
 ·obtain ⟨o, g1, g2⟩ := SlF.pre' kdv_len h1 hl rfl
  exact ⟨o, g1, fun k hk => (h4 k).2 (.inl (g2 k hk))⟩
 ·obtain ⟨k, hk, rfl⟩ := List.mem_iff_getElem.1 hxm
  obtain ⟨O3, O4, g1, _, _, g3⟩ := tAll_pick (k := k) (t := tFL xs[k]) (by simp [hk]) h2
  have g1 : SlF w ⟨xs[k].2.1.a, xs[k].2.1.len + 2, xs[k].2.1.cap⟩ 9 1 sv (xs[k].2.2 ++ [behindS, behindS]) O3 := g1
  obtain ⟨o, g4, g5⟩ := SlF.pre' sv_len g1 (hx _ (List.getElem_mem hk)) (s := xs[k].2.1) rfl
  refine ⟨?_, o, g4, fun q hq => (h4 q).2 (.inr ((g3 q).2 (.inl (g5 q hq))))⟩
  rcases g1.2 with ⟨_, q, _⟩ | ⟨_, _, _, _, _, _, q, _⟩
  ·cases q
  ·dsimp only at q; omega
set_option maxHeartbeats 4000000 in
theorem lentKinds_spec (h : Hp S w0 w its) {s : Sl} {l : KD} (hr : RdK w s l) (hl : l.length ≤ 10000000) (hv : ∀ x ∈ l, x.2.length ≤ 10000000) {K : Sl → World → Prop}
  (hK : ∀ r xs w', kinds xs = l → xs.length = r.len → (∀ x ∈ xs, x.2.2.length = x.2.1.len) → r.len + 2 ≤ r.cap → Hp S w0 w' (its ++ [tLent r xs]) → K r w') : c31 s w K := by
 refine c31_of ?_
 unfold f31
 obtain ⟨ys, O, rfl, hO⟩ := hr
 obtain ⟨inf9, i1, i2, i3, i4⟩ := inf9
 obtain ⟨inf94, j1, j2, j3, j4⟩ := inf94
 have h1 : Hp [] w w [(tRK s ys).ro] := (Hp.init w).addRo hO (by simp)
 have hsl := h1.lenU (u := tRK s ys) (s := s) (l := ys) (f := kdv) (n := 2) 0 rfl rk_reads
 have hkl : (kinds ys).length = ys.length := by simp [kinds]
 rw [hkl] at hl
 have h1 := h1.nil 94 2 kdv
 have h1 := h1.grow (Fr.refl _ _) (t := tAll (([] : List KS).map tFL)) (O := []) rfl (by simp) rfl
 refine ⟨fun out i mm w' => ∃ (k : Nat) (xs : List KS), i = k ∧ k ≤ ys.length ∧ mm = ys.length - k ∧ xs.length = k ∧ kinds xs = (kinds ys).take k ∧ (∀ x ∈ xs, x.2.2.length = x.2.1.len) ∧ Hp [] w w' [(tRK s ys).ro, tSl out 94 2 kdv xs, tAll (xs.map tFL)], ⟨ys.length, 0, [], rfl, by omega, rfl, rfl, by simp [kinds], by simp, h1⟩, ?_⟩
 clear h1
 rintro out i mm w1 ⟨k, xs, rfl, hk, rfl, hxl, hxk, hxx, h1⟩
 have hol := h1.len (s := out) 1 rfl
 by_cases hlt : k < ys.length
 ·refine ifT (by simp; omega) ?_
  have hy : ys[k]? = some ys[k] := by simp [hlt]
  have hyv : ys[k].2.2.length ≤ 10000000 := hv (ys[k].1, ys[k].2.2) (List.mem_map.2 ⟨ys[k], List.getElem_mem hlt, rfl⟩)
  have hkk : (kinds ys).take (k + 1) = (kinds ys).take k ++ [(ys[k].1, ys[k].2.2)] := by
   rw [List.take_succ_eq_append_getElem (by simpa [kinds] using hlt)]; simp [kinds]
  have hcy := (rk_cap h1 (s := s) (xs := ys) 0 rfl _ (List.getElem_mem hlt)).2
  generalize ys[k] = y at hy hyv hkk hcy
  have rdk : ∀ {w' : World} {l : List Thing}, Hp [] w w' ((tRK s ys).ro :: l) → ∃ o, SlR w' s 2 kdv ys o := fun {w' l} h => by
   obtain ⟨O, _, ⟨o, g, _⟩, _⟩ := h.see (i := 0) rfl
   exact ⟨o, g⟩
  obtain ⟨o, hR⟩ := rdk h1
  refine SlR.ix kdv_len hR (by omega) (x := y) (by rw [Int.toNat_natCast]; exact hy) fun ad hc => ?_
  refine ldR (k := .sl) (x := y.2.1) (hc 1 (by omega)) rfl ?_
  have h1 := h1.nil 9 1 sv
  have h1 : Hp [] w w1 [(tRK s ys).ro, tSl out 94 2 kdv xs, tAll (xs.map tFL), tSl ⟨none, 0, 0⟩ 9 1 sv []] := h1
  refine h1.appS 3 0 (s := ⟨none, 0, 0⟩) (s2 := y.2.1) (u := (tRK s ys).ro) rfl rfl (rk_readsFu (u := (tRK s ys).ro) (s := s) (xs := ys) rfl hy) sv_len und81 i1 i3 i2 rfl (by simp [sv, Value.oneCell']) (by rw [i4]; show (0 + y.2.1.len) * 16 ≤ _; omega) (by show 0 + y.2.1.len ≤ _; omega) fun f w2 h1 hfl _ => ?_
  refine h1.nwS (l := [behindS, behindS]) (f := sv) (n := 1) (c := [_, _]) rfl rfl sv_len fun b w3 h1 => ?_
  have h1 : Hp [] w w3 [(tRK s ys).ro, tSl out 94 2 kdv xs, tAll (xs.map tFL), tSl f 9 1 sv y.2.2, tSl ⟨some ⟨b, 0, none⟩, 2, 2⟩ 9 1 sv [behindS, behindS]] := h1
  have hfl2 : f.len = 0 + y.2.1.len := hfl
  refine h1.appS 3 4 (s := f) (s2 := ⟨some ⟨b, 0, none⟩, 2, 2⟩) rfl rfl Hp.rdSl sv_len und81 i1 i3 i2 rfl (by simp [sv, Value.oneCell']) (by rw [i4]; show (f.len + 2) * 16 ≤ _; omega) (by show f.len + 2 ≤ _; omega) fun f2 w4 h1 hf2 _ => ?_
  have h1 : Hp [] w w4 ([(tRK s ys).ro, tSl out 94 2 kdv xs, tAll (xs.map tFL), tSl f2 9 1 sv (y.2.2 ++ [behindS, behindS])] ++ [tSl ⟨some ⟨b, 0, none⟩, 2, 2⟩ 9 1 sv [behindS, behindS]]) := h1
  have h1 := h1.front
  have hf3 : f2.len = y.2.1.len + 2 := by have : f2.len = f.len + 2 := hf2; omega
  have hcap := h1.cap (s := f2) 3 rfl
  refine h1.dr fun w5 h1 => ?_
  obtain ⟨o, hR⟩ := rdk h1
  refine SlR.ix kdv_len hR (by omega) (x := y) (by rw [Int.toNat_natCast]; exact hy) fun ad hc => ?_
  refine ldR0 (k := .s) (x := y.1) (hc 0 (by omega)) rfl ?_
  refine SlR.ix kdv_len hR (by omega) (x := y) (by rw [Int.toNat_natCast]; exact hy) fun ad hc => ?_
  refine ldR (k := .sl) (x := y.2.1) (hc 1 (by omega)) rfl ?_
  refine cut0 h1 3 (s0 := f2) rfl rfl (by omega) (by omega) (by simp) ?_
  rw [Int.toNat_natCast, Int.toNat_natCast]
  refine h1.nwapp 1 ((y.1, ⟨f2.a, y.2.1.len, f2.cap⟩, y.2.2) : KS) (c := [_, _]) rfl kdv_len und22 j1 j3 j2 rfl rfl (by simp [kdv, Value.oneCell']) (by rw [j4]; omega) (by omega) fun out2 w6 h1 _ _ => ?_
  have e : tSl f2 9 1 sv (y.2.2 ++ [behindS, behindS]) = tFL (y.1, ⟨f2.a, y.2.1.len, f2.cap⟩, y.2.2) := by
   unfold tFL
   dsimp only
   rw [← hf3]
  rw [e] at h1
  have h1 := all_more h1 (i := 2) (j := 3) (sub := tFL) (ys := xs) (y := (y.1, ⟨f2.a, y.2.1.len, f2.cap⟩, y.2.2)) (by decide) rfl rfl rfl
  have h1 : Hp [] w w6 ([(tRK s ys).ro, tSl out2 94 2 kdv (xs ++ [((y.1, ⟨f2.a, y.2.1.len, f2.cap⟩, y.2.2) : KS)]), tAll ((xs ++ [((y.1, ⟨f2.a, y.2.1.len, f2.cap⟩, y.2.2) : KS)]).map tFL)] ++ [tEmp]) := h1
  refine ⟨ys.length - (k + 1), by omega, k + 1, xs ++ [(y.1, ⟨f2.a, y.2.1.len, f2.cap⟩, y.2.2)], by rw [wr64 (by omega) (by omega)]; omega, by omega, rfl, by simp [hxl], by rw [hkk, ← hxk]; simp [kinds], fun x hx => ?_, h1.front⟩
  rcases List.mem_append.1 hx with hx | hx
  ·exact hxx x hx
  ·simp only [List.mem_singleton] at hx
   subst hx
   exact hcy
 ·refine ifF (by simp; omega) ?_
  obtain rfl : k = ys.length := by omega
  rw [List.take_of_length_le (by omega)] at hxk
  refine h1.nwS (l := [bh, bh]) (f := kdv) (n := 2) (c := [_, _, _, _]) rfl rfl kdv_len fun b w3 h1 => ?_
  have h1 : Hp [] w w3 [(tRK s ys).ro, tSl out 94 2 kdv xs, tAll (xs.map tFL), tSl ⟨some ⟨b, 0, none⟩, 2, 2⟩ 94 2 kdv [bh, bh]] := h1
  refine h1.appS 1 3 (s := out) (s2 := ⟨some ⟨b, 0, none⟩, 2, 2⟩) rfl rfl Hp.rdSl kdv_len und22 j1 j3 j2 rfl (by simp [kdv, Value.oneCell']) (by rw [j4]; show (out.len + 2) * 40 ≤ _; omega) (by show out.len + 2 ≤ _; omega) fun out2 w4 h1 ho2 _ => ?_
  have ho2 : out2.len = out.len + 2 := ho2
  have h1 : Hp [] w w4 ([(tRK s ys).ro, tSl out2 94 2 kdv (xs ++ [bh, bh]), tAll (xs.map tFL)] ++ [tSl ⟨some ⟨b, 0, none⟩, 2, 2⟩ 94 2 kdv [bh, bh]]) := h1
  have h1 := h1.front
  have hcap := h1.cap (s := out2) 1 rfl
  refine cut0 h1 1 (s0 := out2) rfl rfl (by omega) (by omega) (by simp) ?_
  rw [Int.toNat_natCast, Int.toNat_natCast]
  have e : out2 = ⟨out2.a, s.len + 2, out2.cap⟩ := by
   have : out2.len = s.len + 2 := by omega
   rw [← this]
  have h1 : Hp [] w w4 [(tRK s ys).ro, tSl ⟨out2.a, s.len + 2, out2.cap⟩ 94 2 kdv (xs ++ [bh, bh]), tAll (xs.map tFL)] := by rw [← e]; exact h1
  have h1 := h1.joinStar (i := 1) (j := 2) (by omega) rfl rfl rfl (tAll_own _)
  have h1 : Hp [] w w4 [(tRK s ys).ro, tLent ⟨out2.a, s.len, out2.cap⟩ xs, tEmp] := h1
  refine hK ⟨out2.a, s.len, out2.cap⟩ xs w4 hxk (by dsimp only; omega) hxx (by dsimp only; omega) (h.r0 (rest := [tLent ⟨out2.a, s.len, out2.cap⟩ xs]) rfl (h1.selL [1] (by decide) rfl))
end
end Go.Proofs.Ytcccjgmekakabaa.FW
end

section
namespace Go.Proofs.Ytcccjgmekakabaa.FW
open F
open Go Go.Den Go.Proofs
open FI (PoolM tPool)
open FT (TabM tTab Ent entV ent ent_len atI keyEnt iv iv_len)
def overS : ByteArray := ⟨#[79, 118, 101, 114]⟩
def ov : KS := (overS, ⟨none, 0, 0⟩, [])
section
variable {S : List Nat} {w0 w : World} {its : List Thing}
theorem rk_rd {w : World} {O : List Nat} {s : Sl} {xs : List KS} (h : (tRK s xs).holds w O) : RdK w s (kinds xs) := ⟨xs, O, rfl, h⟩
set_option maxHeartbeats 4000000 in
theorem stillKinds_spec (h : Hp S w0 w its) (i j : Nat) (hij : i ≠ j) {s was : Sl} {xs ys : List KS} {u : Thing} (hi : its[i]? = some (tLent s xs)) (hxl : xs.length = s.len) (hxx : ∀ x ∈ xs, x.2.2.length = x.2.1.len) (hcap : s.len + 2 ≤ s.cap) (hj : its[j]? = some u) (hu : u.holds = (tRK was ys).holds) (hk : kinds xs = kinds ys)
  (hl : xs.length ≤ 10000000) (hv : ∀ x ∈ xs, x.2.2.length ≤ 10000000) {K : Bool → World → Prop} (hK : ∀ w', Hp S w0 w' (its.set i tEmp) → K true w') : c32 s was w K := by
 refine c32_of ?_
 unfold f32
 obtain ⟨O, h1, back⟩ := h.f1r hij hi hj rfl
 clear h
 have h := h1
 clear h1
 have hro : ∀ {w' : World} {t : Thing} {l : List Thing}, Hp O w w' (t :: u.ro :: l) → ∃ O', (tRK was ys).holds w' O' := fun {w' t l} h => by
  obtain ⟨O', g⟩ := h.see (i := 1) rfl
  have g : u.holds w' O' := g
  rw [hu] at g
  exact ⟨O', g⟩
 have hro2 : ∀ {w' : World} {t : Thing} {l : List Thing}, Hp O w w' (t :: u.ro :: l) → ∃ o, SlR w' was 2 kdv ys o := fun {w' t l} h => by
  obtain ⟨O', _, ⟨o, g, _⟩, _⟩ := hro h
  exact ⟨o, g⟩
 obtain ⟨OL, hOL⟩ := h.see (i := 0) rfl
 obtain ⟨OR, hOR⟩ := hro h
 have hwl : ys.length = was.len := by obtain ⟨o, g⟩ := hro2 h; exact g.1
 have hkl : xs.length = ys.length := by have := congrArg List.length hk; simpa [kinds] using this
 have hyx : ∀ (k : Nat) (y : KS), ys[k]? = some y → y.2.2.length = y.2.1.len ∧ ∃ x : KS, xs[k]? = some x ∧ x.2.2 = y.2.2 := fun k y hy => by
  refine ⟨?_, ?_⟩
  ·obtain ⟨_, _, g⟩ := hOR
   obtain ⟨_, o, g, _⟩ := g y (List.mem_of_getElem? hy)
   exact g.1
  ·have hlt := (List.getElem?_eq_some_iff.1 hy).1
   have e := congrArg (fun L => L[k]?) hk
   simp only [kinds, List.getElem?_map, hy, Option.map_some] at e
   obtain ⟨x, hx, he⟩ := Option.map_eq_some_iff.1 e
   exact ⟨x, hx, (Prod.mk.inj he).2⟩
 refine SameKinds_spec (rk_rd (lent_rk hOL hxl hxx)) (rk_rd hOR) (by simp [kinds]; omega) (fun x hx => ?_) fun w1 hf1 => ?_
 ·obtain ⟨y, hy, rfl⟩ := List.mem_map.1 hx
  have := hv y hy
  show y.2.2.length ≤ _
  omega
 rw [decide_eq_true hk]
 have h := h.keep hf1
 have h := h.split (i := 0) rfl rfl (tAll_own _)
 have h : Hp O w w1 [tSl ⟨s.a, s.len + 2, s.cap⟩ 94 2 kdv (xs ++ [bh, bh]), u.ro, tAll (xs.map tFL)] := h
 refine cut0 h 0 (s := s) (s0 := ⟨s.a, s.len + 2, s.cap⟩) (b := IntKind.i64.wrap ((was.len : Int) + 2)) (m := (s.cap : Nat)) rfl rfl (by rw [wr64 (by omega) (by omega)]; omega) (by rw [wr64 (by omega) (by omega)]; omega) (Int.le_refl _) ?_
 have e0 : (IntKind.i64.wrap ((was.len : Int) + 2)).toNat = s.len + 2 := by rw [wr64 (by omega) (by omega)]; omega
 rw [e0, Int.toNat_natCast]
 refine ⟨fun ok t mm w' => ∃ (k : Nat) (zs : List KS) (ts : List Thing), ok = true ∧ t = k ∧ k ≤ s.len + 2 ∧ mm = s.len + 2 - k ∧ zs.length = s.len + 2 ∧ zs.drop k = (xs ++ [bh, bh]).drop k ∧ ts.drop k = (xs.map tFL).drop k ∧ Hp O w w' [tSl ⟨s.a, s.len + 2, s.cap⟩ 94 2 kdv zs, u.ro, tAll ts],
  ⟨s.len + 2, 0, xs ++ [bh, bh], xs.map tFL, rfl, rfl, by omega, rfl, by simp [hxl], rfl, rfl, h⟩, ?_⟩
 clear h
 rintro ok t mm w2 ⟨k, zs, ts, rfl, rfl, hkk, rfl, hzl, hzd, htd, h⟩
 by_cases hlt : k < s.len + 2
 ·refine ifT (by simp; omega) ?_
  have hz : zs[k]? = (xs ++ [bh, bh])[k]? := by
   have e := congrArg (fun L => L[0]?) hzd
   simpa using e
  by_cases hge : s.len ≤ k
  ·refine ifT (by simp; omega) (ifT rfl ?_)
   have hz : zs[k]? = some bh := by
    rw [hz, List.getElem?_append_right (by omega)]
    rcases (by omega : k - xs.length = 0 ∨ k - xs.length = 1) with e | e
    ·rw [e]; rfl
    ·rw [e]; rfl
   refine h.ixr (s := ⟨s.a, s.len + 2, s.cap⟩) (l := zs) (f := kdv) (n := 2) (e := 94) 0 rfl (by omega) (by rw [Int.toNat_natCast]; exact hz) kdv_len fun ad hc => ?_
   refine ldR0 (k := .s) (x := behindS) (hc 0 (by omega)) rfl ?_
   refine ⟨s.len + 2 - (k + 1), by omega, k + 1, zs, ts, ba_yes behindS, by rw [wr64 (by omega) (by omega)]; omega, by omega, rfl, hzl, by rw [← List.drop_drop, hzd, List.drop_drop], by rw [← List.drop_drop, htd, List.drop_drop], h⟩
  ·refine ifF (by simp; omega) ?_
   have hky : ys[k]? = some (ys[k]'(by omega)) := List.getElem?_eq_getElem _
   generalize ys[k]'(by omega) = y at hky
   obtain ⟨hyl, x, hx, hxy⟩ := hyx k y hky
   have hxm := List.mem_of_getElem? hx
   have hxv := hv x hxm
   have hxc := hxx x hxm
   rw [List.getElem?_append_left (by omega), hx] at hz
   have ht : ts[k]? = some (tFL x) := by
    have e := congrArg (fun L => L[0]?) htd
    simpa [hx] using e
   have hfc : x.2.1.len + 2 ≤ x.2.1.cap := by
    have h2 := h.pick (i := 2) (k := k) rfl ht rfl
    exact h2.cap (s := ⟨x.2.1.a, x.2.1.len + 2, x.2.1.cap⟩) (e := 9) (n := 1) (f := sv) (l := x.2.2 ++ [behindS, behindS]) 3 rfl
   have rdz : ∀ {w' : World} {l : List Thing} {K : Sl → Prop}, Hp O w w' (tSl ⟨s.a, s.len + 2, s.cap⟩ 94 2 kdv zs :: l) → K x.2.1 → Ix s.a (s.len + 2) ((k : Nat) : Int) 2 fun (a : Addr) => Ld .sl w' (a.add 1) K := fun {w' l K} h hK => by
    refine h.ixr (s := ⟨s.a, s.len + 2, s.cap⟩) (l := zs) (f := kdv) (n := 2) (e := 94) 0 rfl (by omega) (by rw [Int.toNat_natCast]; exact hz) kdv_len fun ad hc => ?_
    exact ldR (k := .sl) (x := x.2.1) (hc 1 (by omega)) rfl hK
   have rdy : ∀ {w' : World} {t : Thing} {l : List Thing} {K : Sl → Prop}, Hp O w w' (t :: u.ro :: l) → K y.2.1 → Ix was.a was.len ((k : Nat) : Int) 2 fun (a : Addr) => Ld .sl w' (a.add 1) K := fun {w' t l K} h hK => by
    obtain ⟨o, hR⟩ := hro2 h
    refine SlR.ix kdv_len hR (by omega) (x := y) (by rw [Int.toNat_natCast]; exact hky) fun ad hc => ?_
    exact ldR (k := .sl) (x := y.2.1) (hc 1 (by omega)) rfl hK
   have hyx2 : y.2.1.len = x.2.1.len := by rw [← hyl, ← hxc, hxy]
   refine h.dr fun w3 h => ?_
   refine rdz h (rdy h ?_)
   refine ifF (by rw [wr64 (by omega) (by omega)]; simp; omega) ?_
   refine h.dr fun w4 h => ?_
   refine rdz h (rdy h ?_)
   have h := h.pick (i := 2) (k := k) rfl ht rfl
   have h : Hp O w w4 [tSl ⟨s.a, s.len + 2, s.cap⟩ 94 2 kdv zs, u.ro, tAll (ts.set k tEmp), tSl ⟨x.2.1.a, x.2.1.len + 2, x.2.1.cap⟩ 9 1 sv (x.2.2 ++ [behindS, behindS])] := h
   have e1 : IntKind.i64.wrap ((y.2.1.len : Int) + 2) = ((x.2.1.len + 2 : Nat) : Int) := by rw [wr64 (by omega) (by omega)]; omega
   rw [e1]
   refine cut0 h 3 (s := x.2.1) (s0 := ⟨x.2.1.a, x.2.1.len + 2, x.2.1.cap⟩) (b := ((x.2.1.len + 2 : Nat) : Int)) (m := (x.2.1.cap : Nat)) rfl rfl (by omega) (by omega) (Int.le_refl _) ?_
   rw [Int.toNat_natCast, Int.toNat_natCast]
   refine ⟨fun ok w' => ok = true ∧ Hp O w w' [tSl ⟨s.a, s.len + 2, s.cap⟩ 94 2 kdv zs, u.ro, tAll (ts.set k tEmp), tSl ⟨x.2.1.a, x.2.1.len + 2, x.2.1.cap⟩ 9 1 sv (x.2.2 ++ [behindS, behindS])], ?_, ?_⟩
   ·refine ifT rfl (rdy h ?_)
    refine h.ixld (k := .s) (s := ⟨x.2.1.a, x.2.1.len + 2, x.2.1.cap⟩) (y := behindS) (x := behindS) 3 rfl (by omega) (by rw [Int.toNat_natCast, List.getElem?_append_right (by omega), hyx2, hxc, Nat.sub_self]; rfl) sv_len rfl ?_
    refine ifT (ba_yes behindS) (rdy h ?_)
    refine h.ixld (k := .s) (s := ⟨x.2.1.a, x.2.1.len + 2, x.2.1.cap⟩) (y := behindS) (x := behindS) 3 rfl (by rw [wr64 (by omega) (by omega)]; omega) (by
     have e2 : (IntKind.i64.wrap ((y.2.1.len : Int) + 1)).toNat = x.2.2.length + 1 := by rw [wr64 (by omega) (by omega)]; omega
     rw [e2, List.getElem?_append_right (by omega), Nat.add_sub_cancel_left]; rfl) sv_len rfl ?_
    exact ⟨ba_yes behindS, h⟩
   clear h
   rintro ok3 w5 ⟨rfl, h⟩
   refine ⟨fun t mm w' => ∃ (q : Nat) (fs : List ByteArray), t = q ∧ q ≤ x.2.1.len + 2 ∧ mm = x.2.1.len + 2 - q ∧ fs.length = x.2.1.len + 2 ∧ Hp O w w' [tSl ⟨s.a, s.len + 2, s.cap⟩ 94 2 kdv zs, u.ro, tAll (ts.set k tEmp), tSl ⟨x.2.1.a, x.2.1.len + 2, x.2.1.cap⟩ 9 1 sv fs], ⟨x.2.1.len + 2, 0, x.2.2 ++ [behindS, behindS], rfl, by omega, rfl, by simp [hxc], h⟩, ?_⟩
   clear h
   rintro t mm w6 ⟨q, fs, rfl, hq, rfl, hfl, h⟩
   by_cases hql : q < x.2.1.len + 2
   ·refine ifT (by simp; omega) ?_
    refine h.ixst (s := ⟨x.2.1.a, x.2.1.len + 2, x.2.1.cap⟩) (y := overS) 3 rfl (by omega) (by rw [Int.toNat_natCast]; omega) sv_len rfl rfl fun w7 h => ?_
    exact ⟨x.2.1.len + 2 - (q + 1), by omega, q + 1, fs.set _ overS, by rw [wr64 (by omega) (by omega)]; omega, by omega, rfl, by simpa using hfl, h⟩
   ·refine ifF (by simp; omega) ?_
    refine h.ixst2 (s := ⟨s.a, s.len + 2, s.cap⟩) (y := ov) 0 rfl (by omega) (by rw [Int.toNat_natCast]; omega) kdv_len rfl rfl rfl fun w7 h => ?_
    rw [Int.toNat_natCast] at h
    refine ⟨s.len + 2 - (k + 1), by omega, k + 1, zs.set k ov, ts.set k tEmp, rfl, by rw [wr64 (by omega) (by omega)]; omega, by omega, rfl, by simpa using hzl, by
     rw [List.drop_set_of_lt (by omega), ← List.drop_drop, hzd, List.drop_drop], by
     rw [List.drop_set_of_lt (by omega), ← List.drop_drop, htd, List.drop_drop], h.trim 3⟩
 ·refine ifF (by simp; omega) ?_
  have h := (h.emp1).selL (ts := [tEmp]) [0] (by decide) rfl
  have := back (rest := []) rfl rfl h
  rw [List.append_nil] at this
  exact hK w2 this
theorem Kinds_W (h : Hp S w0 w its) (i : Nat) {b : Nat} {a : WA} (hi : its[i]? = some (tW b a)) {K : Sl → World → Prop}
  (hK : ∀ r w', Hp S w0 w' (its ++ [tKinds r a.ks]) → K r w') : c36 (some ⟨b, 0, none⟩) w K := by
 refine c36_of ?_
 unfold f36
 obtain ⟨O, h1, back⟩ := h.f1 hi rfl
 clear h
 obtain ⟨q, hok, ht, hk, h⟩ := W_open h1
 have hal := hok.len
 have hkl : (kinds q.xs).length = q.xs.length := by simp [kinds]
 have h12 : q.xs.length ≤ 12 := by rw [hk] at hkl; omega
 have h4 : ∀ x ∈ q.xs, x.2.2.length ≤ 4 := fun x hx => hok.four (x.1, x.2.2) (by rw [← hk]; exact List.mem_map.2 ⟨x, hx, rfl⟩)
 refine nns ?_
 refine h.ld0 (k := .sl) (x := q.sk) 0 rfl rfl ?_
 refine copied_spec h 2 3 (s := q.sk) (xs := q.xs) rfl rfl (by omega) (fun x hx => by have := h4 x hx; omega) fun r ys w3 hys h => ?_
 have h : Hp O w w3 [q.blk b, tEmp, tSl q.sk 94 2 kdv q.xs, tAll (q.xs.map tF), tPool 149 q.pb a.m.pool, tMp q.ms entV (Value.int .i64) a.m.sets, tMp q.mt (Value.int .i64) pv (tptr q.T), tAll (q.T.map tT), tSl r 94 2 kdv ys, tAll (ys.map tF)] := h
 have h := h.nest_close (i := 8) (j := 9) (e := 94) (n := 2) (cells := kdv) (sub := tF) (vis := kvis) (s := r) (xs := ys) (l := a.ks) (by decide) rfl rfl (by rw [← hk]; exact hys)
 have h : Hp O w w3 (q.all b a.m tEmp ++ [tKinds r a.ks] ++ [tEmp]) := h
 have h := h.front
 exact hK r w3 (W_fin hi back (rest := [tKinds r a.ks]) rfl (W_shut (u := tEmp) (m := a.m) (q := q) (rest := [_]) hok ht hk rfl rfl h))
theorem kinds_rd {w : World} {O : List Nat} {s : Sl} {l : KD} (h : (tKinds s l).holds w O) : RdK w s l := by
 obtain ⟨xs, hx, O1, O2, h1, h2, h3, h4⟩ := h
 refine ⟨xs, O, hx, fun k hk => ?_, ⟨O1, SlF.toR h1, fun k hk => (h4 k).2 (.inl hk)⟩, fun x hxm => ?_⟩
 ·rcases (h4 k).1 hk with hk | hk
  ·exact (tSl s 94 2 kdv xs).lt h1 k hk
  ·exact (tAll (xs.map tF)).lt h2 k hk
 ·obtain ⟨k, hk, rfl⟩ := List.mem_iff_getElem.1 hxm
  obtain ⟨O3, O4, g1, _, _, g3⟩ := tAll_pick (k := k) (t := tF xs[k]) (by simp [hk]) h2
  have g1 : SlF w xs[k].2.1 9 1 sv xs[k].2.2 O3 := g1
  refine ⟨?_, O3, SlF.toR g1, fun q hq => (h4 q).2 (.inr ((g3 q).2 (.inl hq)))⟩
  rcases g1.2 with ⟨_, q1, q2, _⟩ | ⟨_, _, _, _, _, _, q, _⟩
  ·omega
  ·exact q
abbrev shv (x : Int × Int) : List Value := [.int .i64 x.1, .int .i64 x.2]
theorem shv_len (x : Int × Int) : (shv x).length = 2 := rfl
theorem mget_key {l : List (Int × Int)} {k : Int} : k ∈ l.map (·.1) ↔ (mget l k).isSome = true := by
 rw [mget_eq, Option.isSome_map, List.find?_isSome]
 constructor
 ·intro h
  obtain ⟨x, hx, rfl⟩ := List.mem_map.1 h
  exact ⟨x, hx, by simp⟩
 ·rintro ⟨x, hx, he⟩
  exact List.mem_map.2 ⟨x, hx, by simpa using he⟩
theorem lenMp (h : Hp S w0 w its) (i : Nat) {b : Nat} {g : Int → Option Int} {mt ty kt vt : TypeId} {K : Int → Prop} (hi : (its[i]?).map Thing.holds = some (tMp b (Value.int .i64) (Value.int .i64) g).holds) (hm : Try.prog.underlying mt = some (.map kt vt))
  {xs : List (Int × Int)} (hnd : (xs.map (·.1)).Nodup) (hg : ∀ s, g s = mget xs s) (hK : K (xs.length : Nat)) : RunRo (.i .i64) Try.prog (Builtin.len_ #[mt] ty #[.map (some b)]) w K := by
 obtain ⟨O, l, ⟨⟨es, clock, hb, hes, _⟩, _⟩, hnl, hgl⟩ := h.see' hi
 have hb' : ∀ w', Ext w w' → w'.heap[b]? = some (.map es clock) := fun w' he => (he.2 b (Array.getElem?_eq_some_iff.1 hb).1).trans hb
 have hk : ∀ s, s ∈ l.map (·.1) ↔ s ∈ xs.map (·.1) := fun s => by rw [mget_key, mget_key, hgl, hg]
 have e1 := nodup_sub _ _ hnl (fun s hs => (hk s).1 hs)
 have e2 := nodup_sub _ _ hnd (fun s hs => (hk s).2 hs)
 have e3 : es.size = l.length := by
  have := congrArg List.length hes
  simpa using this
 simp only [List.length_map] at e1 e2
 refine ⟨(xs.length : Nat), fun w' he => ?_, hK⟩
 have : es.size = xs.length := by omega
 simp [Builtin.len_, Sem.run_bind, run_underlying hm, Result.andThen_ok, MapKept.run_getObj_map (hb' w' he), Sem.run_pure, goInt, this, Kd.inj]
theorem sameShapes_spec (h : Hp S w0 w its) (i j : Nat) {b : Nat} {g : Int → Option Int} {s : Sl} {xs : List (Int × Int)} {u : Thing} (hi : (its[i]?).map Thing.holds = some (tMp b (Value.int .i64) (Value.int .i64) g).holds) (hj : (its[j]?).map Thing.holds = some u.holds) (hu : Hp.Reads u s 2 shv xs)
  (hl : xs.length ≤ 1000000000) (hnd : (xs.map (·.1)).Nodup) (hg : ∀ s, g s = mget xs s) {K : Bool → World → Prop} (hK : ∀ w', Hp S w0 w' its → K true w') : c38 (some b) s w K := by
 refine c38_of ?_
 unfold f38
 have hsl := h.lenU j hj hu
 refine lenMp h i hi und58 hnd hg ?_
 refine ifF (by simp; omega) ?_
 refine ⟨fun t mm w' => ∃ k : Nat, t = k ∧ k ≤ xs.length ∧ mm = xs.length - k ∧ Hp S w0 w' its, ⟨xs.length, 0, rfl, by omega, rfl, h⟩, ?_⟩
 clear h
 rintro t mm w2 ⟨k, rfl, hk, rfl, h⟩
 by_cases hlt : k < xs.length
 ·refine ifT (by simp; omega) ?_
  have hx : xs[k]? = some xs[k] := by simp [hlt]
  have hgx : g xs[k].1 = some xs[k].2 := by
   rw [hg, mget_eq]
   have : xs.find? (fun p => decide (p.1 = xs[k].1)) = some xs[k] := by
    rw [List.find?_eq_some_iff_getElem]
    refine ⟨by simp, k, hlt, rfl, fun q hq => ?_⟩
    simp only [Bool.not_eq_eq_eq_not, Bool.not_true, decide_eq_false_iff_not]
    intro he
    have hn := List.pairwise_iff_getElem.1 hnd q k (by simp; omega) (by simpa using hlt) hq
    exact hn (by simpa using he)
   rw [this]; rfl
  generalize xs[k] = x at hx hgx
  obtain ⟨O, hO⟩ := h.see' hj
  obtain ⟨o, hR⟩ := hu.rd hO
  refine SlR.ix shv_len hR (by omega) (x := x) (by rw [Int.toNat_natCast]; exact hx) fun ad hc => ?_
  refine ldR0 (k := .i .i64) (x := x.1) (hc 0 (by omega)) rfl ?_
  refine h.lookup (kd := .i .i64) (vk := fun x => x) (z := (0 : Int)) i (k := x.1) rfl hi und58 key3 inf3.choose_spec.1 inf3.choose_spec.2.1 (fun _ => rfl) ?_
  rw [hgx]
  refine ifF (by simp) ?_
  refine SlR.ix shv_len hR (by omega) (x := x) (by rw [Int.toNat_natCast]; exact hx) fun ad hc => ?_
  refine ldR (k := .i .i64) (x := x.2) (hc 1 (by omega)) rfl ?_
  refine ifF (by simp) ?_
  exact ⟨xs.length - (k + 1), by omega, k + 1, by rw [wr64 (by omega) (by omega)]; omega, by omega, rfl, h⟩
 ·exact ifF (by simp; omega) (hK w2 h)
end
end Go.Proofs.Ytcccjgmekakabaa.FW
end

section
namespace Go.Proofs.Ytcccjgmekakabaa.FI
open F
open Go Go.Den Go.Proofs
section
variable {S : List Nat} {w0 w : World} {its : List Thing}
theorem RNew_h (h : Hp S w0 w its) {n : Int} (h1 : 1 ≤ n) (h2 : n ≤ 200) {K : Option Addr → Int → World → Prop} (hK : ∀ b w', Hp S w0 w' (its ++ [tPool 176 b ⟨n, [], [], []⟩]) → K (some ⟨b, 0, none⟩) 0 w') : c74 n w K := by
 refine c74_of ?_
 unfold f74
 have n1 : ¬ n < 1 := by omega
 have n2 : ¬ n > 200 := by omega
 refine ifF (by simp [n1, n2]) ?_
 refine (Hp.begin_ w).nw (c := [_, _, _, _]) fun b w1 h1 => ?_
 have h1 := h1.nil 3 1 iv
 have h1 := h1.nil 4 1 bv
 have h1 := h1.nil 3 1 iv
 exact hK b w1 (h.r0 rfl (pool_close (m := ⟨n, [], [], []⟩) (sg := ⟨none, 0, 0⟩) (sa := ⟨none, 0, 0⟩) (sf := ⟨none, 0, 0⟩) (rest := []) h1))
theorem alive_get {m : PoolM} (hm : m.Ok) {i : Int} (h0 : 0 ≤ i) (h1 : i < m.gens.length) : m.alive[i.toNat]? = some (m.lives i) := by
 have hl : i.toNat < m.alive.length := by rw [hm.len]; omega
 simp [PoolM.lives, h0, hl]
theorem gens_get {m : PoolM} {i : Int} (h0 : 0 ≤ i) (h1 : i < m.gens.length) : m.gens[i.toNat]? = some (m.gen i) := by
 have hl : i.toNat < m.gens.length := by omega
 simp [PoolM.gen, hl]
theorem rfree_h (h : Hp S w0 w its) (i : Nat) {b : Nat} {m : PoolM} (hl : m.free.length ≤ 1000000000) (hi : (its[i]?).map Thing.holds = some (tPool 176 b m).holds) {x : Int} {K : Bool → World → Prop}
  (hK : K (decide (x ∈ m.free)) w) : c124 (some ⟨b, 0, none⟩) x w K := by
 refine c124_of ?_
 unfold f124
 obtain ⟨sg, sa, sf, h1⟩ := pool_see h i hi
 have hl' := h1.len 3 rfl
 refine ⟨fun t mm w' => ∃ k : Nat, t = k ∧ k ≤ m.free.length ∧ mm = m.free.length - k ∧ x ∉ m.free.take k ∧ w' = w, ⟨m.free.length, 0, rfl, by omega, rfl, by simp, rfl⟩, ?_⟩
 rintro t mm w2 ⟨k, rfl, hk, rfl, hno, rfl⟩
 refine nns ?_
 refine h1.ld (x := sf) 0 rfl rfl ?_
 by_cases hlt : k < m.free.length
 ·refine ifT (by simp; omega) ?_
  refine nns ?_
  refine h1.ld (x := sf) 0 rfl rfl ?_
  refine h1.ixld (k := .i .i64) (y := m.free[k]) (x := m.free[k]) 3 rfl (by omega) (by simp [hlt]) iv_len rfl ?_
  by_cases he : m.free[k] = x
  ·refine ifT (by simpa using he) ?_
   have : x ∈ m.free := he ▸ List.getElem_mem hlt
   rw [decide_eq_true this] at hK
   exact hK
  ·refine ifF (by simpa using he) ?_
   refine ⟨m.free.length - (k + 1), by omega, k + 1, by rw [wr64 (by omega) (by omega)]; omega, by omega, rfl, ?_, rfl⟩
   rw [List.take_add_one, List.getElem?_eq_getElem hlt]
   simp only [Option.toList_some, List.mem_append, List.mem_singleton, not_or]
   exact ⟨hno, fun h => he h.symm⟩
 ·refine ifF (by simp; omega) ?_
  rw [List.take_of_length_le (by omega)] at hno
  rw [decide_eq_false hno] at hK
  exact hK
end
end Go.Proofs.Ytcccjgmekakabaa.FI
end

section
namespace Go.Proofs.Ytcccjgmekakabaa.FI
open F
open Go Go.Den Go.Proofs
section
variable {S : List Nat} {w0 w : World} {its : List Thing}
theorem RState_h (h : Hp S w0 w its) (i : Nat) {b : Nat} {m : PoolM} (hm : m.Ok2) (hi : (its[i]?).map Thing.holds = some (tPool 176 b m).holds) {K : Sl → Sl → World → Prop}
  (hK : ∀ g f w', Hp S w0 w' (its ++ [tSl g 3 1 iv m.stGens, tSl f 3 1 iv m.free]) → K g f w') : c108 (some ⟨b, 0, none⟩) w K := by
 refine c108_of ?_
 unfold f108
 have h200 := hm.len200
 have hlen := hm.len
 have hf200 := Ok.free200 hm.toOk
 obtain ⟨sg, sa, sf, h1⟩ := pool_see h i hi
 have hgl := h1.len 1 rfl
 have hfl := h1.len 3 rfl
 have h1 := h1.nil 3 1 iv
 obtain ⟨inf, q1, q2, q3, q4⟩ := inf3
 refine ⟨fun s t mm w' => ∃ k : Nat, t = k ∧ k ≤ m.gens.length ∧ mm = m.gens.length - k ∧ Hp [] w w' [(tBlk b 176 [.int .i64 m.most, .slice sg.a sg.len sg.cap, .slice sa.a sa.len sa.cap, .slice sf.a sf.len sf.cap]).ro, (tSl sg 3 1 iv m.gens).ro, (tSl sa 4 1 bv m.alive).ro, (tSl sf 3 1 iv m.free).ro, tSl s 3 1 iv (m.stGens.take k)], ⟨m.gens.length, 0, rfl, by omega, rfl, h1⟩, ?_⟩
 rintro s t mm w2 ⟨k, rfl, hk, rfl, h1⟩
 refine nns ?_
 refine h1.ld (x := sg) 0 rfl rfl ?_
 by_cases hlt : k < m.gens.length
 ·refine ifT (by simp; omega) ?_
  refine nns ?_
  refine h1.ld (x := sg) 0 rfl rfl ?_
  refine h1.ixld (k := .i .i64) (x := m.gen k) 1 rfl (by omega) (gens_get (by omega) (by omega)) iv_len rfl ?_
  refine rfree_h (h.keep h1.fr) i (by omega) hi ?_
  refine nns ?_
  refine h1.ld (x := sa) 0 rfl rfl ?_
  refine h1.ixld (k := .b) (x := m.lives k) 2 rfl (by omega) (alive_get hm.toOk (by omega) (by omega)) bv_len rfl ?_
  have hsl := h1.len 4 rfl
  simp only [List.length_take, stGens_len] at hsl
  have htk : ∀ x, m.stGens[k]? = some x → m.stGens.take (k + 1) = m.stGens.take k ++ [x] := fun x hx => by rw [List.take_add_one, hx]; rfl
  have hsg := stGens_get hlt
  have hge := hm.toOk.gen (i := (k : Int)) (by omega) (by omega)
  by_cases hc : m.lives k = false ∧ (k : Int) ∉ m.free
  ·refine ifT (by rw [hc.1, decide_eq_false hc.2]; rfl) ?_
   have hg : m.gen k = 1000000 := by
    refine Classical.byContradiction fun hne => hc.2 (hm.dead k (by omega) (by omega) hc.1 (by omega))
   rw [if_pos ⟨hg, hc.1⟩, hg] at hsg
   refine h1.nwapp (c := [_]) 4 1000001 rfl iv_len und22 q1 q3 q2 rfl rfl (by simp [iv, Value.oneCell']) (by rw [q4]; omega) (by omega) fun s2 w1 h1 _ _ => ?_
   refine ⟨m.gens.length - (k + 1), by omega, k + 1, by rw [wr64 (by omega) (by omega)]; omega, by omega, rfl, ?_⟩
   rw [htk _ hsg]
   exact h1
  ·refine ifF ?_ ?_
   ·cases hlv : m.lives k with
    | true => simp
    | false =>
     have : (k : Int) ∈ m.free := Classical.byContradiction fun hn => hc ⟨hlv, hn⟩
     rw [decide_eq_true this]; simp
   rw [if_neg] at hsg
   ·refine h1.nwapp (c := [_]) 4 (m.gen k) rfl iv_len und22 q1 q3 q2 rfl rfl (by simp [iv, Value.oneCell']) (by rw [q4]; omega) (by omega) fun s2 w1 h1 _ _ => ?_
    refine ⟨m.gens.length - (k + 1), by omega, k + 1, by rw [wr64 (by omega) (by omega)]; omega, by omega, rfl, ?_⟩
    rw [htk _ hsg]
    exact h1
   ·rintro ⟨g1, g2⟩
    refine hc ⟨g2, fun hin => ?_⟩
    have := (hm.free _ hin).2.2.2
    omega
 ·refine ifF (by simp; omega) ?_
  have hk' : m.stGens.take k = m.stGens := List.take_of_length_le (by rw [stGens_len]; omega)
  rw [hk'] at h1
  refine nns ?_
  refine h1.ld (x := sf) 0 rfl rfl ?_
  have h1 := h1.nil 3 1 iv
  refine h1.appS 5 3 (s := ⟨none, 0, 0⟩) rfl rfl (⟨Hp.rdSl.rd⟩ : Hp.Reads (tSl sf 3 1 iv m.free).ro sf 1 iv m.free) iv_len und22 q1 q3 q2 rfl (by simp [iv, Value.oneCell']) (by rw [q4]; show (0 + sf.len) * 8 ≤ _; omega) (by show 0 + sf.len ≤ _; omega) fun s' w' h1 _ _ => ?_
  exact hK s s' w' (h.r0 (rest := [_, _]) rfl (h1.sel2 4 5 (by omega) rfl rfl))
end
end Go.Proofs.Ytcccjgmekakabaa.FI
end

section
namespace Go.Proofs.Ytcccjgmekakabaa.FW
open F
open Go Go.Den Go.Proofs
open FI (PoolM tPool)
open FT (TabM tTab Ent entV ent ent_len atI keyEnt iv iv_len)
structure RH where
 K : Sl
 p : Nat
 L : Sl
abbrev RH.cells (q : RH) : List Value := [.slice q.K.a q.K.len q.K.cap, .pointer (some ⟨q.p, 0, none⟩), .slice q.L.a q.L.len q.L.cap]
def WA.fits (a : WA) : Prop := a.Ok ∧ ∀ e p, a.row e = some p → p.fit a.ks
def tRW (b : Nat) (a : WA) : Thing := tEx fun q : RH => tAnd a.fits (tStar (tBlk b 139 q.cells) (tStar (tKinds q.K a.ks) (tStar (tPool 176 q.p a.pool) (tRows q.L a.rows))))
theorem word_no {k : Nat} {c : Int} (hc : ¬ chrOk k c) : (cond (!(cond (cond (decide (c ≥ 97)) (decide (c ≤ 122)) false) true (cond (decide (c ≥ 65)) (decide (c ≤ 90)) false))) (cond (((k : Nat) : Int) == 0) true (!(cond (cond (decide (c ≥ 48)) (decide (c ≤ 57)) false) true (c == 95)))) false) = true := by
 unfold chrOk at hc
 have h1 : ¬ (c ≥ 97 ∧ c ≤ 122) := fun h => hc (.inl (.inl h))
 have h2 : ¬ (c ≥ 65 ∧ c ≤ 90) := fun h => hc (.inl (.inr h))
 have e1 : (cond (decide (c ≥ 97)) (decide (c ≤ 122)) false) = false := by by_cases g : c ≥ 97 <;> simp [g] <;> omega
 have e2 : (cond (decide (c ≥ 65)) (decide (c ≤ 90)) false) = false := by by_cases g : c ≥ 65 <;> simp [g] <;> omega
 rw [e1, e2]
 by_cases hk0 : k = 0
 ·simp [hk0]
 ·have h3 : ¬ (c = 95 ∨ (48 ≤ c ∧ c ≤ 57)) := fun h => hc (.inr ⟨hk0, h⟩)
  have : (((k : Nat) : Int) == 0) = false := by simpa using hk0
  have h4 : (c == 95) = false := by simp; omega
  have e3 : (cond (decide (c ≥ 48)) (decide (c ≤ 57)) false) = false := by by_cases g : c ≥ 48 <;> simp [g] <;> omega
  simp [this, h4, e3]
theorem word_yes {k : Nat} {c : Int} (hc : chrOk k c) : ¬ (cond (!(cond (cond (decide (c ≥ 97)) (decide (c ≤ 122)) false) true (cond (decide (c ≥ 65)) (decide (c ≤ 90)) false))) (cond (((k : Nat) : Int) == 0) true (!(cond (cond (decide (c ≥ 48)) (decide (c ≤ 57)) false) true (c == 95)))) false) = true := by
 unfold chrOk at hc
 by_cases h1 : c ≥ 97 ∧ c ≤ 122
 ·simp [h1.1, h1.2]
 ·by_cases h2 : c ≥ 65 ∧ c ≤ 90
  ·simp [h2.1, h2.2]
  ·obtain ⟨hk0, hc⟩ : k ≠ 0 ∧ (c = 95 ∨ (48 ≤ c ∧ c ≤ 57)) := by omega
   have : (((k : Nat) : Int) == 0) = false := by simpa using hk0
   rcases hc with rfl | ⟨h3, h4⟩
   ·simp [this]
   ·simp [this, h3, h4]
theorem Rword_spec {s : ByteArray} {w : World} {K : Bool → World → Prop} (hs : s.size ≤ 1000000000000) (hK : K (decide (wordOk (strL s))) w) : c123 s w K := by
 refine c123_of ?_
 unfold f123
 have hsl := strL_len s
 refine ⟨fun t m w' => ∃ k : Nat, t = k ∧ k ≤ s.size ∧ m = s.size - k ∧ (∀ i, (hi : i < (strL s).length) → i < k → chrOk i (strL s)[i]) ∧ w' = w, ⟨s.size, 0, rfl, by omega, rfl, fun i _ h => by omega, rfl⟩, ?_⟩
 rintro t m w2 ⟨k, rfl, hk, rfl, hall, rfl⟩
 by_cases hlt : k < s.size
 ·refine ifT (by simp; omega) ?_
  have hkl : k < (strL s).length := by omega
  have hb : s[((k : Nat) : Int).toNat]? = some (s[k]'hlt) := by rw [Int.toNat_natCast]; exact getElem?_pos s k hlt
  have hbe : (((s[k]'hlt).toNat : Nat) : Int) = (strL s)[k] := by simp [strL]; rfl
  refine ⟨by omega, s[k]'hlt, hb, ?_⟩
  rw [hbe]
  ·by_cases hc : chrOk k (strL s)[k]
   ·refine ifF (word_yes hc) ⟨s.size - (k + 1), by omega, k + 1, by rw [wr64 (by omega) (by omega)]; omega, by omega, rfl, fun i hi hik => ?_, rfl⟩
    by_cases hik2 : i < k
    ·exact hall i hi hik2
    ·obtain rfl : i = k := by omega
     exact hc
   ·refine ifT (word_no hc) ?_
    have hno : ¬ wordOk (strL s) := fun hw => hc (hw.1 k hkl)
    rwa [decide_eq_false hno] at hK
 ·refine ifF (by simp; omega) ?_
  have e : (cond (decide ((s.size : Int) ≥ 1)) (decide ((s.size : Int) ≤ 16)) false) = decide (wordOk (strL s)) := by
   by_cases he : 1 ≤ s.size
   ·by_cases h16 : s.size ≤ 16
    ·have : wordOk (strL s) := ⟨fun i hi => hall i hi (by omega), fun e => by rw [e] at hsl; simp at hsl; omega, by omega⟩
     simp [this]; omega
    ·have : ¬ wordOk (strL s) := fun hw => h16 (by have := hw.2.2; omega)
     simp [this]; omega
   ·have : ¬ wordOk (strL s) := fun hw => hw.2.1 (List.eq_nil_of_length_eq_zero (by omega))
    simp [this]; omega
  rw [e]; exact hK
section
variable {S : List Nat} {w0 w : World} {its : List Thing}
theorem Rwords_spec (h : Hp S w0 w its) (j : Nat) {u : Thing} {s : Sl} {L : List ByteArray} (hj : (its[j]?).map Thing.holds = some u.holds) (hu : Hp.Reads u s 1 sv L) (hl : L.length ≤ 1000000000) (hsz : ∀ x ∈ L, x.size ≤ 1000000000000) {K : Bool → World → Prop}
  (hK : ∀ w', Hp S w0 w' its → K (decide (wordsOk L)) w') : c106 s w K := by
 refine c106_of ?_
 unfold f106
 have hsl := h.lenU j hj hu
 refine ⟨fun t m w' => ∃ k : Nat, t = k ∧ k ≤ L.length ∧ m = L.length - k ∧ (∀ i, (hi : i < L.length) → i < k → wordOk (strL L[i]) ∧ L[i] ∉ L.take i) ∧ Hp S w0 w' its, ⟨L.length, 0, rfl, by omega, rfl, fun i _ h => by omega, h⟩, ?_⟩
 clear h
 rintro t m w2 ⟨k, rfl, hk, rfl, hall, h⟩
 by_cases hlt : k < L.length
 ·refine ifT (by simp; omega) ?_
  refine h.ixldU (k := .s) (u := u) (y := L[k]) (x := L[k]) j hj hu (by omega) (by simp [hlt]) sv_len rfl ?_
  refine Rword_spec (hsz _ (List.getElem_mem hlt)) ?_
  by_cases hw : wordOk (strL L[k])
  ·refine ifF (by simpa using hw) ?_
   refine ⟨fun t m w' => ∃ q : Nat, t = q ∧ q ≤ k ∧ m = k - q ∧ L[k] ∉ L.take q ∧ Hp S w0 w' its, ⟨k, 0, rfl, by omega, rfl, by simp, h⟩, ?_⟩
   clear h
   rintro t m w3 ⟨q, rfl, hq, rfl, hnq, h⟩
   by_cases hqk : q < k
   ·refine ifT (by simp; omega) ?_
    refine h.dr fun w4 h => ?_
    have hql : q < L.length := by omega
    refine h.ixldU (k := .s) (u := u) (y := L[q]) (x := L[q]) j hj hu (by omega) (by simp [hql]) sv_len rfl ?_
    refine h.ixldU (k := .s) (u := u) (y := L[k]) (x := L[k]) j hj hu (by omega) (by simp [hlt]) sv_len rfl ?_
    by_cases he : L[q] = L[k]
    ·refine ifT (by rw [he]; exact ba_yes _) ?_
     have := hK _ h
     have hno : ¬ wordsOk L := fun hw => (hw k hlt).2 (by rw [← he]; exact List.mem_take_iff_getElem.2 ⟨q, by omega, rfl⟩)
     rwa [decide_eq_false hno] at this
    ·refine ifF (by rw [ba_eq]; simpa using he) ⟨k - (q + 1), by omega, q + 1, by rw [wr64 (by omega) (by omega)]; omega, by omega, rfl, fun hm => ?_, h⟩
     rw [List.take_succ_eq_append_getElem hql] at hm
     rcases List.mem_append.1 hm with hm | hm
     ·exact hnq hm
     ·simp only [List.mem_singleton] at hm
      exact he hm.symm
   ·refine ifF (by simp; omega) ⟨L.length - (k + 1), by omega, k + 1, by rw [wr64 (by omega) (by omega)]; omega, by omega, rfl, fun i hi hik => ?_, h⟩
    by_cases hik2 : i < k
    ·exact hall i hi hik2
    ·obtain rfl : i = k := by omega
     obtain rfl : q = i := by omega
     exact ⟨hw, hnq⟩
  ·refine ifT (by simpa using hw) ?_
   have := hK _ h
   have hno : ¬ wordsOk L := fun h => hw (h k hlt).1
   rwa [decide_eq_false hno] at this
 ·refine ifF (by simp; omega) ?_
  have := hK _ h
  have hyes : wordsOk L := fun i hi => hall i hi (by omega)
  rwa [decide_eq_true hyes] at this
set_option maxHeartbeats 2000000 in
theorem Rmay_spec {s : Sl} {l : KD} (hr : RdK w s l) (hl : l.length ≤ 10000000) (hsz : ∀ x ∈ l, x.2.length ≤ 10000000 ∧ x.1.size ≤ 1000000000000 ∧ ∀ y ∈ x.2, y.size ≤ 1000000000000) {K : Bool → World → Prop}
  (hK : ∀ w', Fr [] w w' → K (decide (mayOk l)) w') : c73 s w K := by
 refine c73_of ?_
 unfold f73
 obtain ⟨inf9, i1, i2, i3, i4⟩ := inf9
 obtain ⟨ys, O, rfl, hO⟩ := hr
 have h : Hp [] w w [(tRK s ys).ro] := (Hp.init w).addRo hO (by simp)
 have hsl := h.lenU (u := tRK s ys) (s := s) (l := ys) (f := kdv) (n := 2) 0 rfl rk_reads
 have hkl : (kinds ys).length = ys.length := by simp [kinds]
 have hcs := rk_cap h (s := s) (xs := ys) 0 rfl
 rw [hkl] at hl
 have h := h.nil 9 1 sv
 refine ⟨fun names t mm w' => ∃ k : Nat, t = k ∧ k ≤ ys.length ∧ mm = ys.length - k ∧ (∀ q, (hq : q < ys.length) → q < k → (ys[q]).2.2.length ≤ 4 ∧ wordsOk (ys[q]).2.2) ∧ Hp [] w w' [(tRK s ys).ro, tSl names 9 1 sv ((ys.take k).map (·.1))], ⟨ys.length, 0, rfl, by omega, rfl, fun q _ h => by omega, h⟩, ?_⟩
 clear h
 rintro names t mm w2 ⟨k, rfl, hk, rfl, hall, h⟩
 by_cases hlt : k < ys.length
 ·refine ifT (by simp; omega) ?_
  have hx : ys[k]? = some ys[k] := by simp [hlt]
  have hmem : ys[k] ∈ ys := List.getElem_mem hlt
  have hxz := hsz (ys[k].1, ys[k].2.2) (List.mem_map.2 ⟨_, hmem, rfl⟩)
  have htk : ys.take (k + 1) = ys.take k ++ [ys[k]] := List.take_succ_eq_append_getElem hlt
  have hallk : ∀ q, (hq : q < ys.length) → q = k → ((ys[k]).2.2.length ≤ 4 ∧ wordsOk (ys[k]).2.2) → (ys[q]).2.2.length ≤ 4 ∧ wordsOk (ys[q]).2.2 := fun q hq e h => by subst e; exact h
  have hcap := hcs _ hmem
  generalize ys[k] = x at hx hxz htk hmem hallk hcap
  have hxz1 : x.2.2.length ≤ 10000000 := hxz.1
  have no : ¬ (x.2.2.length ≤ 4 ∧ wordsOk x.2.2) → ¬ mayOk (kinds ys) := fun hno hm => hno (hm.1 (x.1, x.2.2) (List.mem_map.2 ⟨x, hmem, rfl⟩))
  have rdk : ∀ {w' : World} {l : List Thing}, Hp [] w w' ((tRK s ys).ro :: l) → ∃ o, SlR w' s 2 kdv ys o := fun {w' l} h => by
   obtain ⟨O, _, ⟨o, g, _⟩, _⟩ := h.see (i := 0) rfl
   exact ⟨o, g⟩
  obtain ⟨o, hR⟩ := rdk h
  refine SlR.ix kdv_len hR (by omega) (x := x) (by rw [Int.toNat_natCast]; exact hx) fun ad hc => ?_
  refine ldR (k := .sl) (x := x.2.1) (hc 1 (by omega)) rfl ?_
  refine Rwords_spec h 0 (u := tRK s ys) rfl (rk_readsF hx) (by omega) hxz.2.2 fun w3 h => ?_
  refine ⟨fun w' => (x.2.2.length ≤ 4 ∧ wordsOk x.2.2) ∧ Hp [] w w' [(tRK s ys).ro, tSl names 9 1 sv ((ys.take k).map (·.1))], ?_, ?_⟩
  ·by_cases hw : wordsOk x.2.2
   ·refine ifF (by simpa using hw) ?_
    obtain ⟨o, hR⟩ := rdk h
    refine SlR.ix kdv_len hR (by omega) (x := x) (by rw [Int.toNat_natCast]; exact hx) fun ad hc => ?_
    refine ldR (k := .sl) (x := x.2.1) (hc 1 (by omega)) rfl ?_
    by_cases h4 : x.2.1.len > 4
    ·refine ifT (by simp; omega) ?_
     have := hK _ h.1
     rwa [decide_eq_false (no fun hh => by omega)] at this
    ·exact ifF (by simp; omega) ⟨⟨by omega, hw⟩, h⟩
   ·refine ifT (by simpa using hw) ?_
    have := hK _ h.1
    rwa [decide_eq_false (no fun hh => hw hh.2)] at this
  clear h hR
  rintro w6 ⟨hgood, h⟩
  obtain ⟨o, hR⟩ := rdk h
  refine SlR.ix kdv_len hR (by omega) (x := x) (by rw [Int.toNat_natCast]; exact hx) fun ad hc => ?_
  refine ldR0 (k := .s) (x := x.1) (hc 0 (by omega)) rfl ?_
  have hnl := h.len (s := names) (e := 9) (n := 1) (f := sv) (l := (ys.take k).map (·.1)) 1 rfl
  rw [List.length_map, List.length_take] at hnl
  refine h.nwapp (c := [_]) 1 x.1 rfl sv_len und81 i1 i3 i2 rfl rfl (by simp [sv, Value.oneCell']) (by rw [i4]; omega) (by omega) fun names2 w7 h _ _ => ?_
  refine ⟨ys.length - (k + 1), by omega, k + 1, by rw [wr64 (by omega) (by omega)]; omega, by omega, rfl, fun q hq hqk => ?_, ?_⟩
  ·by_cases hq2 : q < k
   ·exact hall q hq hq2
   ·exact hallk q hq (by omega) hgood
  ·rw [htk, List.map_append]
   exact h
 ·refine ifF (by simp; omega) ?_
  rw [List.take_of_length_le (by omega)] at h
  have hnm : (kinds ys).map (·.1) = ys.map (·.1) := by simp [kinds]
  refine Rwords_spec h 1 (u := tSl names 9 1 sv (ys.map (·.1))) rfl Hp.rdSl (by simp; omega) (fun y hy => by
   obtain ⟨x, hx, rfl⟩ := List.mem_map.1 hy
   exact (hsz (x.1, x.2.2) (List.mem_map.2 ⟨x, hx, rfl⟩)).2.1) fun w3 h => ?_
  have := hK _ h.1
  have e : (cond (cond (decide (wordsOk (ys.map (·.1)))) (decide ((s.len : Int) ≥ 1)) false) (decide ((s.len : Int) ≤ 12)) false) = decide (mayOk (kinds ys)) := by
   by_cases hm : mayOk (kinds ys)
   ·have h1 := hm.2.1
    have h2 := hm.2.2.1
    have h3 := hm.2.2.2
    rw [hnm] at h3
    rw [decide_eq_true hm, decide_eq_true h3]
    simp; omega
   ·rw [decide_eq_false hm]
    by_cases hw : wordsOk (ys.map (·.1))
    ·have : ¬ (1 ≤ ys.length ∧ ys.length ≤ 12) := fun hh => hm ⟨fun y hy => by
      obtain ⟨x, hx, rfl⟩ := List.mem_map.1 hy
      obtain ⟨q, hq, rfl⟩ := List.mem_iff_getElem.1 hx
      exact hall q hq (by omega), by omega, by omega, by rw [hnm]; exact hw⟩
     rw [decide_eq_true hw]
     by_cases h1 : 1 ≤ ys.length
     ·have : ¬ ys.length ≤ 12 := fun h => this ⟨h1, h⟩
      simp; omega
     ·simp; omega
    ·rw [decide_eq_false hw]; rfl
  rw [e]; exact this
end
end Go.Proofs.Ytcccjgmekakabaa.FW
end

section
namespace Go.Proofs.Ytcccjgmekakabaa.FW
open F
open Go Go.Den Go.Proofs
open FI (PoolM tPool)
open FT (TabM tTab Ent entV ent ent_len atI keyEnt iv iv_len)
def tRP (s : Sl) (xs : List PV) : Thing :=
  { holds := fun w O => (∀ k ∈ O, k < w.heap.size) ∧ (∃ o, SlR w s 2 pdv xs o ∧ ∀ k ∈ o, k ∈ O) ∧ ∀ x ∈ xs, ∃ o, SlR w x.2.1 1 iv x.2.2 o ∧ ∀ k ∈ o, k ∈ O
    fr := fun {S w w' O} h hf hn => ⟨fun k hk => by have := h.1 k hk; have := hf.size; omega, by
      obtain ⟨_, ⟨o, h1, h2⟩, h3⟩ := h
      refine ⟨⟨o, h1.fr hf (fun k hk => hn k (h2 k hk)), h2⟩, fun x hx => ?_⟩
      obtain ⟨o, h4, h5⟩ := h3 x hx
      exact ⟨o, h4.fr hf (fun k hk => hn k (h5 k hk)), h5⟩⟩
    lt := fun h => h.1 }
theorem rp_reads {u : Thing} {s : Sl} {xs : List PV} (hu : u.holds = (tRP s xs).holds) : Hp.Reads u s 2 pdv xs := ⟨fun {w O} h => by
 rw [hu] at h
 obtain ⟨_, ⟨o, h1, _⟩, _⟩ := h
 exact ⟨o, h1⟩⟩
theorem rp_readsV {u : Thing} {s : Sl} {xs : List PV} (hu : u.holds = (tRP s xs).holds) {x : PV} (hx : x ∈ xs) : Hp.Reads u x.2.1 1 iv x.2.2 := ⟨fun {w O} h => by
 rw [hu] at h
 obtain ⟨_, _, h2⟩ := h
 obtain ⟨o, h3, _⟩ := h2 x hx
 exact ⟨o, h3⟩⟩
theorem RdP.thing {w : World} {s : Sl} {l : List Part} (h : RdP w s l) : ∃ (xs : List PV) (O : List Nat), xs.map pvis = l ∧ (tRP s xs).holds w O := by
 obtain ⟨xs, h1, ⟨o, h2⟩, h3⟩ := h
 refine ⟨xs, List.range w.heap.size, h1, fun k hk => List.mem_range.1 hk, ⟨o, h2, fun k hk => List.mem_range.2 (h2.lt k hk)⟩, fun x hx => ?_⟩
 obtain ⟨o, h4⟩ := h3 x hx
 exact ⟨o, h4, fun k hk => List.mem_range.2 (h4.lt k hk)⟩
theorem RdP.len {w : World} {s : Sl} {l : List Part} (h : RdP w s l) : l.length = s.len := by
 obtain ⟨xs, h1, ⟨o, h2⟩, _⟩ := h
 rw [← h1, List.length_map]; exact h2.1
section
variable {S : List Nat} {w0 w : World} {its : List Thing}
theorem Rints_spec (h : Hp S w0 w its) {s : Sl} {l : List Int} (hr : ∃ o, SlR w s 1 iv l o) (hl : l.length ≤ 1000000000) {K : Sl → World → Prop} (hK : ∀ r w', Hp S w0 w' (its ++ [tSl r 2 1 iv l]) → K r w') : c107 s w K := by
 refine c107_of ?_
 unfold f107
 obtain ⟨inf, q1, q2, q3, q4⟩ := FT.inf2
 obtain ⟨o, hR⟩ := hr
 have hsl := hR.1
 have h1 : Hp [] w w [(tRd s 1 iv l).ro] := (Hp.init w).addRo hR (by simp)
 have h1 := h1.nil 2 1 iv
 refine h1.appS 1 0 (s := ⟨none, 0, 0⟩) (s2 := s) (u := (tRd s 1 iv l).ro) rfl rfl ⟨fun {w O} h => ⟨O, h⟩⟩ iv_len FT.und34 q1 q3 q2 rfl (by simp [iv, Value.oneCell']) (by rw [q4]; show (0 + s.len) * 8 ≤ _; omega) (by show 0 + s.len ≤ _; omega) fun r w2 h1 _ _ => ?_
 exact hK r w2 (h.r0 (rest := [tSl r 2 1 iv l]) rfl (h1.selL [1] (by decide) rfl))
theorem Rlongs_spec (h : Hp S w0 w its) (j : Nat) {u : Thing} {s : Sl} {l : List Int} (hj : its[j]? = some u) (hu : Hp.Reads u s 1 iv l) (hl : l.length ≤ 1000000000) {K : Sl → World → Prop} (hK : ∀ r w', Hp S w0 w' (its ++ [tSl r 2 1 iv l]) → K r w') : c110 s w K := by
 refine c110_of ?_
 unfold f110
 obtain ⟨inf, q1, q2, q3, q4⟩ := FT.inf2
 have hlt0 := (List.getElem?_eq_some_iff.1 hj).1
 have hsl := h.lenU j (by rw [hj]; rfl) hu
 have h := h.nil 2 1 iv
 refine ⟨fun out t8 mm w' => ∃ k : Nat, t8 = k ∧ k ≤ l.length ∧ mm = l.length - k ∧ Hp S w0 w' (its ++ [tSl out 2 1 iv (l.take k)]), ⟨l.length, 0, rfl, by omega, rfl, h⟩, ?_⟩
 clear h
 rintro out t8 mm w2 ⟨k, rfl, hk, rfl, h⟩
 have hol := h.len (s := out) its.length (by rw [List.getElem?_concat_length]; rfl)
 rw [List.length_take] at hol
 by_cases hlt : k < l.length
 ·refine ifT (by simp; omega) ?_
  refine h.ixldU (k := .i .i64) (u := u) (y := l[k]) (x := l[k]) j (by rw [List.getElem?_append_left hlt0, hj]; rfl) hu (by omega) (by simp [hlt]) iv_len rfl ?_
  refine h.nwapp its.length (l[k]) (c := [_]) List.getElem?_concat_length iv_len FT.und34 q1 q3 q2 rfl rfl (by simp [iv, Value.oneCell']) (by rw [q4]; omega) (by omega) fun out2 w3 h _ _ => ?_
  rw [set_last, ← List.take_succ_eq_append_getElem hlt] at h
  exact ⟨l.length - (k + 1), by omega, k + 1, by rw [wr64 (by omega) (by omega)]; omega, by omega, rfl, h⟩
 ·refine ifF (by simp; omega) ?_
  rw [List.take_of_length_le (by omega)] at h
  exact hK out w2 h
set_option maxHeartbeats 2000000 in
theorem CopiedParts_spec (h : Hp S w0 w its) {s : Sl} {l : List Part} (hr : RdP w s l) (hl : l.length ≤ 1000000000) (hv : ∀ x ∈ l, x.2.length ≤ 1000000000) {K : Sl → World → Prop} (hK : ∀ r w', Hp S w0 w' (its ++ [tParts r l]) → K r w') : c76 s w K := by
 refine c76_of ?_
 unfold f76
 obtain ⟨inf, i1, i2, i3, i4⟩ := inf40
 obtain ⟨xs, O, rfl, hO⟩ := hr.thing
 have h1 : Hp [] w w [(tRP s xs).ro] := (Hp.init w).addRo hO (by simp)
 have hsl := h1.lenU (u := tRP s xs) (s := s) (l := xs) (f := pdv) (n := 2) 0 rfl (rp_reads rfl)
 have h1 := h1.nest_nil 40 2 pdv tV pvis
 rw [List.length_map] at hl
 refine ⟨fun out t mm w' => ∃ k : Nat, t = k ∧ k ≤ xs.length ∧ mm = xs.length - k ∧ Hp [] w w' [(tRP s xs).ro, tParts out ((xs.take k).map pvis)], ⟨xs.length, 0, rfl, by omega, rfl, h1⟩, ?_⟩
 clear h1
 rintro out t mm w2 ⟨k, rfl, hk, rfl, h1⟩
 have hol := (h1.nest_see (s := out) (l := (xs.take k).map pvis) 1 rfl).1
 rw [List.length_map, List.length_take] at hol
 by_cases hlt : k < xs.length
 ·refine ifT (by simp; omega) ?_
  refine h1.dr fun w3 h1 => ?_
  have hx : xs[k]? = some xs[k] := by simp [hlt]
  have htk : xs.take (k + 1) = xs.take k ++ [xs[k]] := List.take_succ_eq_append_getElem hlt
  have hxm : xs[k] ∈ xs := List.getElem_mem hlt
  generalize xs[k] = x at hx htk hxm
  have hxv : x.2.2.length ≤ 1000000000 := hv (pvis x) (List.mem_map_of_mem hxm)
  have hu : (tRP s xs).ro.holds = (tRP s xs).holds := rfl
  refine h1.ixk (s := s) (l := xs) (f := pdv) (n := 2) 0 rfl (rp_reads hu) (by omega) (by rw [Int.toNat_natCast]; exact hlt) fun ad had => ?_
  rw [Int.toNat_natCast]
  refine h1.ldk0 (k := .i .i64) (v := x.1) 0 rfl (rp_reads hu) had pdv_len hx rfl ?_
  refine h1.ixk (s := s) (l := xs) (f := pdv) (n := 2) 0 rfl (rp_reads hu) (by omega) (by rw [Int.toNat_natCast]; exact hlt) fun ad2 had2 => ?_
  rw [Int.toNat_natCast]
  refine h1.ldk (m := 1) (k := .sl) (v := x.2.1) 0 rfl (rp_reads hu) had2 pdv_len hx rfl ?_
  have hRx : ∃ o, SlR w3 x.2.1 1 iv x.2.2 o := by
   obtain ⟨O', hO'⟩ := h1.see (i := 0) rfl
   exact (rp_readsV (u := (tRP s xs).ro) hu hxm).rd hO'
  refine Rints_spec h1 hRx hxv fun r w4 h1 => ?_
  refine ⟨h1.celk0 0 rfl (rp_reads hu) had pdv_len hx rfl, ?_⟩
  have h1 : Hp [] w w4 [(tRP s xs).ro, tParts out ((xs.take k).map pvis), tV (x.1, r, x.2.2)] := h1
  refine h1.nest_app 1 2 (by decide) (x.1, r, x.2.2) (c := [_, _]) rfl rfl rfl pdv_len und36 i1 i3 i2 rfl rfl (by simp [pdv, Value.oneCell']) (by rw [i4]; omega) (by omega) fun out2 w5 h1 ho2 => ?_
  have h1 : Hp [] w w5 ([(tRP s xs).ro, tParts out2 ((xs.take k).map pvis ++ [pvis (x.1, r, x.2.2)])] ++ [tEmp]) := h1
  have h1 := h1.front
  refine ⟨xs.length - (k + 1), by omega, k + 1, by rw [wr64 (by omega) (by omega)]; omega, by omega, rfl, ?_⟩
  rw [htk, List.map_append]
  exact h1
 ·refine ifF (by simp; omega) ?_
  rw [List.take_of_length_le (by omega)] at h1
  exact hK out w2 (h.r0 (rest := [tParts out (xs.map pvis)]) rfl (h1.selL [1] (by decide) rfl))
set_option maxHeartbeats 2000000 in
theorem Rcopied_spec (h : Hp S w0 w its) {s : Sl} {l : KD} (hr : RdK w s l) (hl : l.length ≤ 1000000000) (hv : ∀ x ∈ l, x.2.length ≤ 1000000000) {K : Sl → World → Prop} (hK : ∀ r w', Hp S w0 w' (its ++ [tKinds r l]) → K r w') : c75 s w K := by
 refine c75_of ?_
 unfold f75
 obtain ⟨inf9, j1, j2, j3, j4⟩ := inf9
 obtain ⟨inf, i1, i2, i3, i4⟩ := inf94
 obtain ⟨xs, O, rfl, hO⟩ := hr
 have h1 : Hp [] w w [(tRK s xs).ro] := (Hp.init w).addRo hO (by simp)
 have hu : (tRK s xs).ro.holds = (tRK s xs).holds := rfl
 have hsl := h1.lenU (u := tRK s xs) (s := s) (l := xs) (f := kdv) (n := 2) 0 rfl rk_reads
 have hcs := rk_cap h1 (s := s) (xs := xs) 0 rfl
 have hkl : (kinds xs).length = xs.length := by simp [kinds]
 rw [hkl] at hl
 have h1 := h1.nest_nil 94 2 kdv tF kvis
 refine ⟨fun out t mm w' => ∃ k : Nat, t = k ∧ k ≤ xs.length ∧ mm = xs.length - k ∧ Hp [] w w' [(tRK s xs).ro, tKinds out ((xs.take k).map kvis)], ⟨xs.length, 0, rfl, by omega, rfl, h1⟩, ?_⟩
 clear h1
 rintro out t mm w2 ⟨k, rfl, hk, rfl, h1⟩
 have hol := (h1.nest_see (s := out) (l := (xs.take k).map kvis) 1 rfl).1
 rw [List.length_map, List.length_take] at hol
 by_cases hlt : k < xs.length
 ·refine ifT (by simp; omega) ?_
  have hx : xs[k]? = some xs[k] := by simp [hlt]
  have htk : xs.take (k + 1) = xs.take k ++ [xs[k]] := List.take_succ_eq_append_getElem hlt
  have hxm : xs[k] ∈ xs := List.getElem_mem hlt
  generalize xs[k] = x at hx htk hxm
  have hxv : x.2.2.length ≤ 1000000000 := hv (x.1, x.2.2) (List.mem_map.2 ⟨x, hxm, rfl⟩)
  have hxc := (hcs x hxm).2
  have rdk : ∀ {w' : World} {l : List Thing}, Hp [] w w' ((tRK s xs).ro :: l) → ∃ o, SlR w' s 2 kdv xs o := fun {w' l} h => by
   obtain ⟨O, _, ⟨o, g, _⟩, _⟩ := h.see (i := 0) rfl
   exact ⟨o, g⟩
  obtain ⟨o, hR⟩ := rdk h1
  refine SlR.ix kdv_len hR (by omega) (x := x) (by rw [Int.toNat_natCast]; exact hx) fun ad hc => ?_
  refine ldR0 (k := .s) (x := x.1) (hc 0 (by omega)) rfl ?_
  refine h1.nw (c := [_, _]) fun kb w3 h1 => ?_
  refine h1.st0 2 rfl (by simp) rfl fun w4 h1 => ?_
  refine h1.st (n := 1) 2 rfl (by simp) rfl fun w5 h1 => ?_
  refine h1.dr fun w6 h1 => ?_
  have h1 : Hp [] w w6 [(tRK s xs).ro, tKinds out ((xs.take k).map kvis), tBlk kb 94 [.string x.1, .slice none 0 0]] := h1
  refine h1.ld (n := 1) (k := .sl) (x := ⟨none, 0, 0⟩) 2 rfl rfl ?_
  obtain ⟨o, hR⟩ := rdk h1
  refine SlR.ix kdv_len hR (by omega) (x := x) (by rw [Int.toNat_natCast]; exact hx) fun ad hc => ?_
  refine ldR (k := .sl) (x := x.2.1) (hc 1 (by omega)) rfl ?_
  have h1 := h1.nil 9 1 sv
  have h1 : Hp [] w w6 [(tRK s xs).ro, tKinds out ((xs.take k).map kvis), tBlk kb 94 [.string x.1, .slice none 0 0], tSl ⟨none, 0, 0⟩ 9 1 sv []] := h1
  refine h1.appS 3 0 (s := ⟨none, 0, 0⟩) (s2 := x.2.1) (u := (tRK s xs).ro) rfl rfl (rk_readsFu hu hx) sv_len und81 j1 j3 j2 rfl (by simp [sv, Value.oneCell']) (by rw [j4]; show (0 + x.2.1.len) * 16 ≤ _; omega) (by show 0 + x.2.1.len ≤ _; omega) fun f w7 h1 hfl _ => ?_
  refine h1.st (n := 1) 2 rfl (by simp) rfl fun w8 h1 => ?_
  have h1 : Hp [] w w8 [(tRK s xs).ro, tKinds out ((xs.take k).map kvis), tBlk kb 94 [.string x.1, .slice f.a f.len f.cap], tF (x.1, f, x.2.2)] := h1
  refine h1.ld0 (k := .s) (x := x.1) 2 rfl rfl ?_
  refine h1.ld (n := 1) (k := .sl) (x := f) 2 rfl rfl ?_
  refine h1.nest_app 1 3 (by decide) (x.1, f, x.2.2) (c := [_, _]) rfl rfl rfl kdv_len und22 i1 i3 i2 rfl rfl (by simp [kdv, Value.oneCell']) (by rw [i4]; omega) (by omega) fun out2 w9 h1 ho2 => ?_
  have h1 : Hp [] w w9 ([(tRK s xs).ro, tKinds out2 ((xs.take k).map kvis ++ [kvis (x.1, f, x.2.2)])] ++ [tBlk kb 94 [.string x.1, .slice f.a f.len f.cap], tEmp]) := h1
  have h1 := h1.front
  refine ⟨xs.length - (k + 1), by omega, k + 1, by rw [wr64 (by omega) (by omega)]; omega, by omega, rfl, ?_⟩
  rw [htk, List.map_append]
  exact h1
 ·refine ifF (by simp; omega) ?_
  rw [List.take_of_length_le (by omega)] at h1
  exact hK out w2 (h.r0 (rest := [tKinds out (kinds xs)]) rfl (h1.selL [1] (by decide) rfl))
theorem RW_open {b : Nat} {a : WA} {rest : List Thing} (h : Hp S w0 w (tRW b a :: rest)) :
  ∃ q : RH, a.fits ∧ Hp S w0 w (tBlk b 139 q.cells :: tKinds q.K a.ks :: tPool 176 q.p a.pool :: tRows q.L a.rows :: rest) := by
 obtain ⟨q, h⟩ := h.openEx (i := 0) rfl (fun _ => rfl)
 obtain ⟨hf, h⟩ := h.openAnd (i := 0) rfl rfl
 refine ⟨q, hf, ?_⟩
 have h := h.split (i := 0) rfl rfl rfl
 have h : Hp S w0 w ([tBlk b 139 q.cells] ++ rest ++ [tStar (tKinds q.K a.ks) (tStar (tPool 176 q.p a.pool) (tRows q.L a.rows))]) := h
 have h := h.up
 have h := h.split (i := 1) rfl rfl rfl
 have h : Hp S w0 w ([tBlk b 139 q.cells, tKinds q.K a.ks] ++ rest ++ [tStar (tPool 176 q.p a.pool) (tRows q.L a.rows)]) := h
 have h := h.up
 have h := h.split (i := 2) rfl rfl rfl
 have h : Hp S w0 w ([tBlk b 139 q.cells, tKinds q.K a.ks, tPool 176 q.p a.pool] ++ rest ++ [tRows q.L a.rows]) := h
 exact h.up
theorem RW_shut {b : Nat} {a : WA} (q : RH) {rest : List Thing} (hf : a.fits) (h : Hp S w0 w (tBlk b 139 q.cells :: tKinds q.K a.ks :: tPool 176 q.p a.pool :: tRows q.L a.rows :: rest)) : Hp S w0 w (tRW b a :: rest) := by
 have h := h.joinStar (i := 2) (j := 3) (by omega) rfl rfl rfl rfl
 have h := h.joinStar (i := 1) (j := 2) (by omega) rfl rfl rfl rfl
 have h := h.joinStar (i := 0) (j := 1) (by omega) rfl rfl rfl rfl
 have h := h.putAnd (i := 0) hf rfl rfl
 have h := h.putEx (f := fun q : RH => tAnd a.fits (tStar (tBlk b 139 q.cells) (tStar (tKinds q.K a.ks) (tStar (tPool 176 q.p a.pool) (tRows q.L a.rows))))) (i := 0) q rfl rfl
 have h : Hp S w0 w (tRW b a :: tEmp :: tEmp :: tEmp :: rest) := h
 exact h.drop1.drop1.drop1
theorem new_fits {l : KD} (hm : mayOk l) : (WA.new l).fits := ⟨WA.new_ok hm, fun e p hp => by cases hp⟩
theorem RNew_W (h : Hp S w0 w its) {s : Sl} {l : KD} (hr : RdK w s l) (hl : l.length ≤ 10000000) (hsz : ∀ x ∈ l, x.2.length ≤ 10000000 ∧ x.1.size ≤ 1000000000000 ∧ ∀ y ∈ x.2, y.size ≤ 1000000000000) {K : Option Addr → Int → World → Prop}
  (hok : mayOk l → ∀ b w', Hp S w0 w' (its ++ [tRW b (WA.new l)]) → K (some ⟨b, 0, none⟩) 0 w') (hno : ¬ mayOk l → ∀ w', Hp S w0 w' its → K none 65 w') : c33 s w K := by
 refine c33_of ?_
 unfold f33
 refine Rmay_spec hr hl hsz fun w1 hf => ?_
 have h := h.keep hf
 have hr := hr.keep hf
 by_cases hm : mayOk l
 ·rw [decide_eq_true hm]
  refine ifF (by simp) ?_
  have h1 : Hp [] w1 w1 [] := Hp.init w1
  refine FI.RNew_h h1 (n := 200) (by omega) (by omega) fun pb w2 h1 => ?_
  refine Rcopied_spec h1 (hr.keep h1.1) (by omega) (fun x hx => by have := (hsz x hx).1; omega) fun r w3 h1 => ?_
  have h1 := h1.nest_nil 65 3 rdv tPs rvis
  have h1 : Hp [] w1 w3 [tPool 176 pb ⟨200, [], [], []⟩, tKinds r l, tRows ⟨none, 0, 0⟩ []] := h1
  refine h1.nw (c := [_, _, _]) fun b w4 h1 => ?_
  have h1 : Hp [] w1 w4 [tBlk b 139 (RH.cells ⟨r, pb, ⟨none, 0, 0⟩⟩), tKinds r (WA.new l).ks, tPool 176 pb (WA.new l).pool, tRows ⟨none, 0, 0⟩ (WA.new l).rows] := h1.selL [3, 1, 0, 2] (by decide) rfl
  have h1 := RW_shut ⟨r, pb, ⟨none, 0, 0⟩⟩ (new_fits hm) h1
  exact hok hm b w4 (h.r0 (rest := [tRW b (WA.new l)]) rfl h1)
 ·rw [decide_eq_false hm]
  exact ifT rfl (hno hm w1 h)
end
end Go.Proofs.Ytcccjgmekakabaa.FW
end

section
namespace Go.Proofs.Ytcccjgmekakabaa.FW
open F
open Go Go.Den Go.Proofs
open FI (PoolM tPool fromM)
open FT (TabM tTab Ent entV ent ent_len atI keyEnt iv iv_len)
open FP (putU zig zag encZ rowU tB putU_len encZ_len R64 RowOk Acc getU getI getU_put)
theorem RowOk.uniq {bs : List Int} {m : Int} {X X' : List Int} {s s' : Int} (h : RowOk bs m X s) (h' : RowOk bs m X' s') : X = X' ∧ s = s' := by
 by_cases h0 : s = 0
 ·by_cases h0' : s' = 0
  ·rw [h.1 h0, h'.1 h0', h0, h0']; exact ⟨rfl, rfl⟩
  ·have := h.2.2 X' (h'.2.1 h0').1
   exact ⟨this.1, by rw [this.2, (h'.2.1 h0').2]⟩
 ·have := h'.2.2 X (h.2.1 h0).1
  exact ⟨this.1.symm, by rw [(h.2.1 h0).2, this.2]⟩
open Classical in
noncomputable def getR (bs : List Int) (most : Int) : List Int × Int := if h : ∃ p : List Int × Int, RowOk bs most p.1 p.2 then Classical.choose h else ([], 0)
open Classical in
noncomputable def nums (bs : List Int) : Option (List Int × List Int) :=
 if (getR bs 200).2 = 0 ∨ ¬ (∀ x ∈ (getR bs 200).1, 0 ≤ x ∧ x ≤ 1000001) then none else some ((getR bs 200).1, bs.drop (getR bs 200).2.toNat)
def loadVals : Nat → List Int → Option (List Int × List Int)
 | 0, bs => some ([], bs)
 | n + 1, bs => if (getI bs).2 = 0 then none else (loadVals n (bs.drop (getI bs).2.toNat)).map fun r => ((getI bs).1 :: r.1, r.2)
def plOf (ks : KD) (set : Int) (v : List Int) : PL := (List.range ks.length).map fun i => if bit set (i + 1) = 1 then some ((v.drop (atF ks set i)).take (((ks[i]?).map (·.2.length)).getD 0)) else none
def loadRows (ks : KD) : List Ent → List Int → (Ent → Option PL) → Option ((Ent → Option PL) × List Int)
 | [], bs, row => some (row, bs)
 | e :: es, bs, row =>
  if (getU bs).2 = 0 ∨ (getU bs).1 % 2 = 1 ∨ (getU bs).1 / 2 ^ (ks.length + 1) ≠ 0 then none
  else match loadVals (atF ks (getU bs).1 ks.length) (bs.drop (getU bs).2.toNat) with
   | none => none
   | some r => loadRows ks es r.2 (upd1 row e (some (plOf ks (getU bs).1 r.1)))
noncomputable def load (ks : KD) (bs : List Int) : Option WA × Int :=
 if ¬ mayOk ks then (none, 65) else match nums bs with
 | none => (none, 64)
 | some r1 => match nums r1.2 with
  | none => (none, 64)
  | some r2 => match fromM 200 r1.1 r2.1 with
   | none => (none, 64)
   | some m => match loadRows ks (m.allU m.gens.length) r2.2 (fun _ => none) with
    | none => (none, 64)
    | some r => if r.2 = [] then (some ⟨ks, m, r.1⟩, 0) else (none, 64)
section
variable {S : List Nat} {w0 w : World} {its : List Thing}
theorem rd_nil {u : Thing} {f : Int → List Value} {n : Nat} : Hp.Reads u ⟨none, 0, 0⟩ n f ([] : List Int) := ⟨fun {w O} _ => ⟨[], SlR.nil rfl⟩⟩
end
end Go.Proofs.Ytcccjgmekakabaa.FW
end

section
namespace Go.Proofs.Ytcccjgmekakabaa.FW
open F
open Go Go.Den Go.Proofs
open FI (PoolM tPool)
open FT (TabM tTab Ent entV ent ent_len atI keyEnt iv iv_len)
open FP (R64)
theorem partsU_mem (p : PL) : ∀ k, ∀ y ∈ partsU p k, ∃ i : Nat, y.1 = ((i + 1 : Nat) : Int) ∧ i < k ∧ p[i]? = some (some y.2)
 | 0, y, hy => by simp [partsU] at hy
 | k + 1, y, hy => by
  rw [partsU] at hy
  rcases List.mem_append.1 hy with hy | hy
  ·obtain ⟨i, h1, h2, h3⟩ := partsU_mem p k y hy
   exact ⟨i, h1, by omega, h3⟩
  ·split at hy
   ·rename_i v hv
    simp only [List.mem_singleton] at hy
    subst hy
    exact ⟨k, rfl, by omega, getD_some hv⟩
   ·cases hy
theorem part_fit {a : WA} {p : PL} (hl : a.ks.length ≤ 12) (h4 : ∀ x ∈ a.ks, x.2.length ≤ 4) (hf : p.fit a.ks) (hr : R64 (flat p)) : (partsOf p).length ≤ 12 ∧ ∀ y ∈ partsOf p, y.2.length ≤ 4 ∧ R64 y.2 ∧ 1 ≤ y.1 ∧ y.1 ≤ 12 := by
 have hpl := hf.1
 refine ⟨by have := partsU_len p p.length; unfold partsOf; omega, fun y hy => ?_⟩
 obtain ⟨i, h1, h2, h3⟩ := partsU_mem p _ y hy
 have hk : a.ks[i]? = some (a.ks[i]'(by omega)) := List.getElem?_eq_getElem _
 refine ⟨?_, fun z hz => hr z (List.mem_flatMap.2 ⟨some y.2, List.mem_of_getElem? h3, hz⟩), by omega, by omega⟩
 have := hf.2 i y.2 _ h3 hk
 have := h4 _ (List.mem_of_getElem? hk)
 omega
def setSum (l : List Part) : Int := (l.map fun x => (2 : Int) ^ x.1.toNat).sum
theorem setSum_app (l m : List Part) : setSum (l ++ m) = setSum l + setSum m := by simp [setSum]
theorem setN_app (p : PL) (o : Option (List Int)) : setN (p ++ [o]) = setN p + if o.isSome = true then 2 ^ p.length else 0 := by
 induction p with
 | nil => cases o <;> simp [setN]
 | cons x p ih =>
  rw [List.cons_append]
  simp only [setN, ih, List.length_cons, Nat.pow_succ]
  cases o <;> simp <;> omega
theorem setSum_partsU (p : PL) : ∀ k, k ≤ p.length → setSum (partsU p k) = (setN (none :: p.take k) : Nat)
 | 0, _ => by simp [partsU, setSum, setN]
 | k + 1, hk => by
  have ih := setSum_partsU p k (by omega)
  have hp : p[k]? = some p[k] := by simp [show k < p.length by omega]
  have hg : p.getD k none = p[k] := by rw [List.getD_eq_getElem?_getD, hp]; rfl
  rw [partsU, setSum_app, ih, List.take_succ_eq_append_getElem (by omega), ← List.cons_append, setN_app, hg]
  cases p[k] with
  | none => simp [setSum]
  | some v =>
   have hl : (p.take k).length = k := by rw [List.length_take]; omega
   simp [setSum, hl]
theorem setSum_parts (p : PL) : setSum (partsOf p) = setI p := by
 unfold partsOf setI
 rw [setSum_partsU p p.length (Nat.le_refl _), List.take_length]
theorem setSum_le {l : List Part} (h : ∀ y ∈ l, 1 ≤ y.1 ∧ y.1 ≤ 12) : 0 ≤ setSum l ∧ setSum l ≤ 4096 * l.length := by
 induction l with
 | nil => simp [setSum]
 | cons x l ih =>
  have := ih (fun y hy => h y (by simp [hy]))
  have hx := h x (by simp)
  have e : setSum (x :: l) = 2 ^ x.1.toNat + setSum l := by simp [setSum]
  have h1 : (2 : Nat) ^ x.1.toNat ≤ 2 ^ 12 := Nat.pow_le_pow_right (by omega) (by omega)
  have h2 : ((2 : Int) ^ x.1.toNat) = ((2 ^ x.1.toNat : Nat) : Int) := by simp
  rw [e, h2, List.length_cons]
  generalize 2 ^ x.1.toNat = q at h1
  omega
theorem all_few {a : WA} (hok : a.Ok) : a.all.length ≤ 200 := by
 have h1 := PoolM.allU_len a.pool a.pool.gens.length
 have h2 := hok.pok.len200
 show (a.pool.allU a.pool.gens.length).length ≤ 200
 omega
theorem rows_at {a : WA} (hf : a.fits) {r : RowT} (hr : r ∈ a.rows) : ∃ p, r.1 ∈ a.all ∧ a.row r.1 = some p ∧ r.2 = partsOf p ∧ p.fit a.ks ∧ R64 (flat p) := by
 obtain ⟨e, he, rfl⟩ := List.mem_map.1 hr
 obtain ⟨p, hp⟩ := all_lives hf.1 he
 refine ⟨p, he, hp, ?_, hf.2 _ p hp, hf.1.rng _ p hp⟩
 unfold WA.rowT
 rw [hp]; rfl
section
variable {S : List Nat} {w0 w : World} {its : List Thing}
theorem SetOf_spec {s : Sl} {l : List Part} (hr : RdP w s l) (hl : l.length ≤ 12) (hk : ∀ y ∈ l, 1 ≤ y.1 ∧ y.1 ≤ 12) {K : Int → World → Prop} (hK : K (setSum l) w) : c77 s w K := by
 refine c77_of ?_
 unfold f77
 have hsl := hr.len
 obtain ⟨xs, rfl, ⟨o, hR⟩, _⟩ := hr
 rw [List.length_map] at hl hsl
 refine ⟨fun n t mm w' => ∃ k : Nat, n = setSum ((xs.map pvis).take k) ∧ t = k ∧ k ≤ xs.length ∧ mm = xs.length - k ∧ w' = w, ⟨xs.length, 0, by simp [setSum], rfl, by omega, rfl, rfl⟩, ?_⟩
 rintro n t mm w2 ⟨k, rfl, rfl, hkl, rfl, rfl⟩
 by_cases hlt : k < xs.length
 ·refine ifT (by simp; omega) ?_
  have hx : xs[k]? = some xs[k] := by simp [hlt]
  have htk : (xs.map pvis).take (k + 1) = (xs.map pvis).take k ++ [pvis xs[k]] := by
   rw [List.take_succ_eq_append_getElem (by simpa using hlt)]; simp
  have hkx := hk (pvis xs[k]) (List.mem_map_of_mem (List.getElem_mem hlt))
  generalize xs[k] = x at hx htk hkx
  have hkx : 1 ≤ x.1 ∧ x.1 ≤ 12 := hkx
  refine SlR.ix pdv_len hR (by omega) (x := x) (by rw [Int.toNat_natCast]; exact hx) fun ad hc => ?_
  refine ldR0 (k := .i .i64) (x := x.1) (hc 0 (by omega)) rfl ?_
  refine ⟨by omega, xs.length - (k + 1), by omega, k + 1, ?_, by rw [wr64 (by omega) (by omega)]; omega, by omega, rfl, rfl⟩
  have hb := setSum_le (l := (xs.map pvis).take k) (fun y hy => hk y (List.mem_of_mem_take hy))
  rw [List.length_take] at hb
  have e : setSum ((xs.map pvis).take (k + 1)) = setSum ((xs.map pvis).take k) + 2 ^ x.1.toNat := by
   rw [htk, setSum_app]; simp [setSum, pvis]
  rw [e]
  have hm : min (Int.toNat x.1) 64 = x.1.toNat := by omega
  rw [hm]
  have h1 : (2 : Nat) ^ x.1.toNat ≤ 2 ^ 12 := Nat.pow_le_pow_right (by omega) (by omega)
  have h2 : ((2 : Int) ^ x.1.toNat) = ((2 ^ x.1.toNat : Nat) : Int) := by simp
  rw [h2]
  generalize 2 ^ x.1.toNat = q at h1
  generalize setSum ((xs.map pvis).take k) = z at hb
  rw [wr64 (n := (1 : Int) * (q : Int)) (by omega) (by omega), wr64 (by omega) (by omega)]
  omega
 ·refine ifF (by simp; omega) ?_
  rw [List.take_of_length_le (by simp; omega)]
  exact hK
set_option maxHeartbeats 2000000 in
theorem RRows_W (h : Hp S w0 w its) (i : Nat) {b : Nat} {a : WA} (hi : its[i]? = some (tRW b a)) {K : Sl → World → Prop} (hK : ∀ r w', Hp S w0 w' (its ++ [tRows r a.rows]) → K r w') : c34 (some ⟨b, 0, none⟩) w K := by
 refine c34_of ?_
 unfold f34
 obtain ⟨inf, i1, i2, i3, i4⟩ := inf65
 obtain ⟨O, h1, back⟩ := h.f1 hi rfl
 clear h
 obtain ⟨q, hf, h⟩ := RW_open h1
 clear h1
 have hrl : a.rows.length ≤ 200 := by have := all_few hf.1; unfold WA.rows; rw [List.length_map]; exact this
 obtain ⟨xs, hxs, h⟩ := h.nest_open (i := 3) rfl
 have h := h.nest_nil 65 3 rdv tPs rvis
 have h : Hp O w w [tBlk b 139 q.cells, tKinds q.K a.ks, tPool 176 q.p a.pool, tSl q.L 65 3 rdv xs, tAll (xs.map tPs), tRows ⟨none, 0, 0⟩ []] := h
 have hxl : xs.length = a.rows.length := by rw [← hxs, List.length_map]
 have hLl := h.len (s := q.L) 3 rfl
 refine ⟨fun out t mm w' => ∃ k : Nat, t = k ∧ k ≤ xs.length ∧ mm = xs.length - k ∧ Hp O w w' [tBlk b 139 q.cells, tKinds q.K a.ks, tPool 176 q.p a.pool, tSl q.L 65 3 rdv xs, tAll (xs.map tPs), tRows out ((xs.take k).map rvis)], ⟨xs.length, 0, rfl, by omega, rfl, h⟩, ?_⟩
 clear h
 rintro out t mm w2 ⟨k, rfl, hk, rfl, h⟩
 have hol := (h.nest_see (s := out) (l := (xs.take k).map rvis) (e := 65) (n := 3) (cells := rdv) (sub := tPs) (vis := rvis) 5 rfl).1
 rw [List.length_map, List.length_take] at hol
 refine nns ?_
 refine h.ld (n := 2) (k := .sl) (x := q.L) 0 rfl rfl ?_
 by_cases hlt : k < xs.length
 ·refine ifT (by simp; omega) ?_
  have hx : xs[k]? = some xs[k] := by simp [hlt]
  have htk : xs.take (k + 1) = xs.take k ++ [xs[k]] := List.take_succ_eq_append_getElem hlt
  have hxm : xs[k] ∈ xs := List.getElem_mem hlt
  generalize xs[k] = x at hx htk hxm
  obtain ⟨p, _, _, hxp, hpf, hpr⟩ := rows_at hf (r := rvis x) (by rw [← hxs]; exact List.mem_map_of_mem hxm)
  have hxp : x.2.2 = partsOf p := hxp
  obtain ⟨hp1, hp2⟩ := part_fit hf.1.len.2 hf.1.four hpf hpr
  refine h.dr fun w3 h => ?_
  refine nns ?_
  refine h.ld (n := 2) (k := .sl) (x := q.L) 0 rfl rfl ?_
  refine h.ixk (s := q.L) (l := xs) (f := rdv) (n := 3) (u := tSl q.L 65 3 rdv xs) 3 rfl Hp.rdSl (by omega) (by rw [Int.toNat_natCast]; exact hlt) fun ad had => ?_
  rw [Int.toNat_natCast]
  refine h.ldk0 (k := .i .i64) (v := x.1.1) (u := tSl q.L 65 3 rdv xs) 3 rfl Hp.rdSl had rdv_len hx rfl ?_
  refine h.ldk (m := 1) (k := .i .i64) (v := x.1.2) (u := tSl q.L 65 3 rdv xs) 3 rfl Hp.rdSl had rdv_len hx rfl ?_
  refine nns ?_
  refine h.ld (n := 2) (k := .sl) (x := q.L) 0 rfl rfl ?_
  refine h.ixk (s := q.L) (l := xs) (f := rdv) (n := 3) (u := tSl q.L 65 3 rdv xs) 3 rfl Hp.rdSl (by omega) (by rw [Int.toNat_natCast]; exact hlt) fun ad2 had2 => ?_
  rw [Int.toNat_natCast]
  refine h.ldk (m := 2) (k := .sl) (v := x.2.1) (u := tSl q.L 65 3 rdv xs) 3 rfl Hp.rdSl had2 rdv_len hx rfl ?_
  have hRx : RdP w3 x.2.1 x.2.2 := by
   obtain ⟨O', hO'⟩ := h.see (i := 4) rfl
   obtain ⟨O2, h4⟩ := tAll_see hO' (List.mem_map.2 ⟨x, hxm, rfl⟩)
   exact rdP_of h4
  refine CopiedParts_spec h hRx (by rw [hxp]; omega) (fun y hy => by rw [hxp] at hy; have := (hp2 y hy).1; omega) fun r w4 h => ?_
  refine ⟨h.celk0 (u := tSl q.L 65 3 rdv xs) 3 rfl Hp.rdSl had rdv_len hx rfl, h.celk (m := 1) (u := tSl q.L 65 3 rdv xs) 3 rfl Hp.rdSl had rdv_len hx rfl, h.cel (n := 2) 0 rfl rfl, ?_⟩
  have h : Hp O w w4 [tBlk b 139 q.cells, tKinds q.K a.ks, tPool 176 q.p a.pool, tSl q.L 65 3 rdv xs, tAll (xs.map tPs), tRows out ((xs.take k).map rvis), tPs (x.1, r, x.2.2)] := h
  refine h.nest_app 5 6 (by decide) (x.1, r, x.2.2) (c := [_, _, _]) rfl rfl rfl rdv_len und56 i1 i3 i2 rfl rfl (by simp [rdv, Value.oneCell']) (by rw [i4]; omega) (by omega) fun out2 w5 h ho2 => ?_
  have h : Hp O w w5 ([tBlk b 139 q.cells, tKinds q.K a.ks, tPool 176 q.p a.pool, tSl q.L 65 3 rdv xs, tAll (xs.map tPs), tRows out2 ((xs.take k).map rvis ++ [rvis (x.1, r, x.2.2)])] ++ [tEmp]) := h
  have h := h.front
  refine ⟨xs.length - (k + 1), by omega, k + 1, by rw [wr64 (by omega) (by omega)]; omega, by omega, rfl, ?_⟩
  rw [htk, List.map_append]
  exact h
 ·refine ifF (by simp; omega) ?_
  rw [List.take_of_length_le (by omega), hxs] at h
  have h := h.nest_close (i := 3) (j := 4) (e := 65) (n := 3) (cells := rdv) (sub := tPs) (vis := rvis) (s := q.L) (xs := xs) (l := a.rows) (by decide) rfl rfl hxs
  have h : Hp O w w2 (tBlk b 139 q.cells :: tKinds q.K a.ks :: tPool 176 q.p a.pool :: tRows q.L a.rows :: [tRows out a.rows]) := h.selL [0, 1, 2, 3, 5] (by decide) rfl
  have h := RW_shut q hf h
  have := back (rest := [tRows out a.rows]) rfl rfl h
  rw [Hp.set_same hi] at this
  exact hK out w2 this
end
end Go.Proofs.Ytcccjgmekakabaa.FW
end

section
namespace Go.Proofs.Ytcccjgmekakabaa.FW
open F
open Go Go.Den Go.Proofs
open FI (PoolM tPool)
open FT (TabM tTab Ent entV ent ent_len atI keyEnt iv iv_len)
open FP (R64 tB putU zig rowU encZ putU_len encZ_len)
theorem und89 : Try.prog.underlying 89 = some (.slice 143) := by kernel_rfl
theorem inf143 : ∃ inf : TypeInfo, Try.prog.info? 143 = some inf ∧ inf.zero = some (.agg #[.int .i64 0, .int .i64 0]) ∧ inf.size = 2 ∧ inf.bytes = 16 := infoP (by kernel_rfl)
abbrev RX := Ent × Sl × List PV
abbrev rxv (x : RX) : List Value := [.int .i64 x.1.1, .int .i64 x.1.2, .slice x.2.1.a x.2.1.len x.2.1.cap]
theorem rxv_len (x : RX) : (rxv x).length = 3 := rfl
def rxw (x : RX) : RowT := (x.1, x.2.2.map pvis)
def RRx (w : World) (O : List Nat) (x : RX) : Prop := (∃ o, SlR w x.2.1 2 pdv x.2.2 o ∧ ∀ k ∈ o, k ∈ O) ∧ ∀ y ∈ x.2.2, ∃ o, SlR w y.2.1 1 iv y.2.2 o ∧ ∀ k ∈ o, k ∈ O
def tRR (L : Sl) (xs : List RX) : Thing :=
  { holds := fun w O => (∀ k ∈ O, k < w.heap.size) ∧ (∃ o, SlR w L 3 rxv xs o ∧ ∀ k ∈ o, k ∈ O) ∧ ∀ x ∈ xs, RRx w O x
    fr := fun {S w w' O} h hf hn => ⟨fun k hk => by have := h.1 k hk; have := hf.size; omega, by
      obtain ⟨_, ⟨o, h1, h2⟩, h3⟩ := h
      refine ⟨⟨o, h1.fr hf (fun k hk => hn k (h2 k hk)), h2⟩, fun x hx => ?_⟩
      obtain ⟨⟨o, h4, h5⟩, h6⟩ := h3 x hx
      refine ⟨⟨o, h4.fr hf (fun k hk => hn k (h5 k hk)), h5⟩, fun y hy => ?_⟩
      obtain ⟨o, h7, h8⟩ := h6 y hy
      exact ⟨o, h7.fr hf (fun k hk => hn k (h8 k hk)), h8⟩⟩
    lt := fun h => h.1 }
theorem list_pick {α β : Type} {P : α → β → Prop} : ∀ l : List α, (∀ x ∈ l, ∃ y, P x y) → ∃ m : List β, m.length = l.length ∧ ∀ (i : Nat) (x : α), l[i]? = some x → ∃ y, m[i]? = some y ∧ P x y
 | [], _ => ⟨[], rfl, fun i x h => by simp at h⟩
 | x :: l, h => by
  obtain ⟨y, hy⟩ := h x (by simp)
  obtain ⟨m, h1, h2⟩ := list_pick l (fun z hz => h z (by simp [hz]))
  refine ⟨y :: m, by simp [h1], fun i z hz => ?_⟩
  cases i with
  | zero => simp only [List.getElem?_cons_zero, Option.some.injEq] at hz; subst hz; exact ⟨y, rfl, hy⟩
  | succ i => simpa using h2 i z (by simpa using hz)
theorem rows_rr {w : World} {L : Sl} {l : List RowT} (h : RdW w L l) : ∃ (xs : List RX) (O : List Nat), xs.map rxw = l ∧ (tRR L xs).holds w O := by
 obtain ⟨xs, rfl, ⟨o, h2⟩, h3⟩ := h
 obtain ⟨m, h4, h5⟩ := list_pick (P := fun (x : RV) (z : RX) => z.1 = x.1 ∧ z.2.1 = x.2.1 ∧ z.2.2.map pvis = x.2.2 ∧ RRx w (List.range w.heap.size) z) xs fun x hx => by
  obtain ⟨ys, q1, ⟨o, q2⟩, q3⟩ := h3 x hx
  refine ⟨(x.1, x.2.1, ys), rfl, rfl, q1, ⟨o, q2, fun k hk => List.mem_range.2 (q2.lt k hk)⟩, fun y hy => ?_⟩
  obtain ⟨o, q4⟩ := q3 y hy
  exact ⟨o, q4, fun k hk => List.mem_range.2 (q4.lt k hk)⟩
 have hget : ∀ (i : Nat) (z : RX), m[i]? = some z → ∃ x, xs[i]? = some x ∧ z.1 = x.1 ∧ z.2.1 = x.2.1 ∧ z.2.2.map pvis = x.2.2 ∧ RRx w (List.range w.heap.size) z := fun i z hz => by
  have hil := (List.getElem?_eq_some_iff.1 hz).1
  have hx : xs[i]? = some (xs[i]'(by omega)) := List.getElem?_eq_getElem _
  obtain ⟨z', hz', hp⟩ := h5 i _ hx
  obtain rfl : z = z' := Option.some.inj (hz.symm.trans hz')
  exact ⟨_, hx, hp⟩
 refine ⟨m, List.range w.heap.size, ?_, fun k hk => List.mem_range.1 hk, ⟨o, ?_, fun k hk => List.mem_range.2 (h2.lt k hk)⟩, fun z hz => ?_⟩
 ·apply List.ext_getElem?
  intro i
  rw [List.getElem?_map, List.getElem?_map]
  cases hm : m[i]? with
  | none =>
   have : xs[i]? = none := by rw [List.getElem?_eq_none_iff] at hm ⊢; omega
   rw [this]; rfl
  | some z =>
   obtain ⟨x, hx, q1, _, q3, _⟩ := hget i z hm
   rw [hx]
   show some (z.1, z.2.2.map pvis) = some (x.1, x.2.2)
   rw [q1, q3]
 ·have e : m.flatMap rxv = xs.flatMap rdv := by
   have : m.map rxv = xs.map rdv := by
    apply List.ext_getElem?
    intro i
    rw [List.getElem?_map, List.getElem?_map]
    cases hm : m[i]? with
    | none =>
     have : xs[i]? = none := by rw [List.getElem?_eq_none_iff] at hm ⊢; omega
     rw [this]; rfl
    | some z =>
     obtain ⟨x, hx, q1, q2, _, _⟩ := hget i z hm
     rw [hx]
     show some (rxv z) = some (rdv x)
     unfold rxv rdv
     rw [q1, q2]
   rw [List.flatMap_def, List.flatMap_def, this]
  unfold SlR at h2 ⊢
  rw [e, h4]; exact h2
 ·obtain ⟨i, hi, rfl⟩ := List.mem_iff_getElem.1 hz
  obtain ⟨_, _, _, _, _, q⟩ := hget i _ (List.getElem?_eq_getElem hi)
  exact q
theorem rr_reads {u : Thing} {L : Sl} {xs : List RX} (hu : u.holds = (tRR L xs).holds) : Hp.Reads u L 3 rxv xs := ⟨fun {w O} h => by
 rw [hu] at h
 obtain ⟨_, ⟨o, h1, _⟩, _⟩ := h
 exact ⟨o, h1⟩⟩
theorem rr_readsP {u : Thing} {L : Sl} {xs : List RX} (hu : u.holds = (tRR L xs).holds) {x : RX} (hx : x ∈ xs) : Hp.Reads u x.2.1 2 pdv x.2.2 := ⟨fun {w O} h => by
 rw [hu] at h
 obtain ⟨_, _, h2⟩ := h
 obtain ⟨⟨o, h3, _⟩, _⟩ := h2 x hx
 exact ⟨o, h3⟩⟩
theorem rr_readsV {u : Thing} {L : Sl} {xs : List RX} (hu : u.holds = (tRR L xs).holds) {x : RX} (hx : x ∈ xs) {y : PV} (hy : y ∈ x.2.2) : Hp.Reads u y.2.1 1 iv y.2.2 := ⟨fun {w O} h => by
 rw [hu] at h
 obtain ⟨_, _, h2⟩ := h
 obtain ⟨_, h3⟩ := h2 x hx
 obtain ⟨o, h4, _⟩ := h3 y hy
 exact ⟨o, h4⟩⟩
theorem rr_rdp {u : Thing} {L : Sl} {xs : List RX} (hu : u.holds = (tRR L xs).holds) {x : RX} (hx : x ∈ xs) {w : World} {O : List Nat} (h : u.holds w O) : RdP w x.2.1 (x.2.2.map pvis) :=
 ⟨x.2.2, rfl, (rr_readsP hu hx).rd h, fun y hy => (rr_readsV hu hx hy).rd h⟩
section
variable {S : List Nat} {w0 w : World} {its : List Thing}
theorem RW_read (h : Hp S w0 w its) (i : Nat) {b : Nat} {a : WA} (hi : (its[i]?).map Thing.holds = some (tRW b a).holds) :
  ∃ (q : RH) (xs : List RX), a.fits ∧ xs.map rxw = a.rows ∧ Hp [] w w [(tBlk b 139 q.cells).ro, (tPool 176 q.p a.pool).ro, (tRR q.L xs).ro] := by
 obtain ⟨O, q, hf, O1, O2, h1, ⟨O3, O4, h2, ⟨O5, O6, h3, h4, _⟩, _⟩, _⟩ := h.see' hi
 obtain ⟨xs, O7, h5, h6⟩ := rows_rr (rdW_of h4)
 exact ⟨q, xs, hf, h5, (((Hp.init w).addRo h1 (by simp)).addRo h3 (by simp)).addRo h6 (by simp)⟩
def shapeL (a : WA) (L : List Ent) (s : Int) : Option Int :=
 if (L.filter fun e => decide ((a.row e).map setI = some s)).length = 0 then none else some (((L.filter fun e => decide ((a.row e).map setI = some s)).length : Nat) : Int)
theorem mput_at {l : List (Int × Int)} {q : Nat} {k v : Int} (hq : q < l.length) (hne : ∀ (j : Nat) (hj : j < l.length), j < q → (l[j]).1 ≠ k) (hk : (l[q]).1 = k) : mput l k v = l.set q (k, v) ∧ mget l k = some (l[q]).2 := by
 have hf : (l.map (·.1)).findIdx? (fun b => decide (b = k)) = some q := by
  rw [List.findIdx?_eq_some_iff_getElem]
  refine ⟨by simpa using hq, by simpa using hk, fun j hj => ?_⟩
  simpa using hne j (by omega) hj
 unfold mput mget
 rw [hf]
 exact ⟨rfl, by simp [hq]⟩
theorem mput_out {l : List (Int × Int)} {k v : Int} (hne : ∀ (j : Nat) (hj : j < l.length), (l[j]).1 ≠ k) : mput l k v = l ++ [(k, v)] ∧ mget l k = none := by
 have hf : (l.map (·.1)).findIdx? (fun b => decide (b = k)) = none := by
  rw [List.findIdx?_eq_none_iff]
  intro x hx
  obtain ⟨y, hy, rfl⟩ := List.mem_map.1 hx
  obtain ⟨j, hj, rfl⟩ := List.mem_iff_getElem.1 hy
  simpa using hne j hj
 unfold mput mget
 rw [hf]
 exact ⟨rfl, rfl⟩
theorem shapeL_step {a : WA} {L : List Ent} {e : Ent} {p : PL} (hp : a.row e = some p) {f : Int → Option Int} (hf : ∀ s, f s = shapeL a L s) (s : Int) : shapeL a (L ++ [e]) s = if s = setI p then some ((f (setI p)).getD 0 + 1) else f s := by
 rw [hf, hf]
 unfold shapeL
 rw [List.filter_append]
 by_cases hs : s = setI p
 ·subst hs
  have e1 : [e].filter (fun e => decide ((a.row e).map setI = some (setI p))) = [e] := by simp [hp]
  rw [e1, if_pos rfl, List.length_append, if_neg (by simp)]
  split
  ·rename_i h0
   rw [h0]; rfl
  ·simp
 ·have e1 : [e].filter (fun e => decide ((a.row e).map setI = some s)) = [] := by simp [hp]; exact fun h => hs h.symm
  rw [e1, if_neg hs, List.append_nil]
set_option maxHeartbeats 4000000 in
theorem RShapes_W (h : Hp S w0 w its) (i : Nat) {b : Nat} {a : WA} (hi : (its[i]?).map Thing.holds = some (tRW b a).holds) {K : Sl → World → Prop}
  (hK : ∀ r zs w', (zs.map (·.1)).Nodup → (∀ s, a.shape s = mget zs s) → zs.length ≤ 200 → Hp S w0 w' (its ++ [tSl r 143 2 shv zs]) → K r w') : c35 (some ⟨b, 0, none⟩) w K := by
 refine c35_of ?_
 unfold f35
 obtain ⟨inf, i1, i2, i3, i4⟩ := inf143
 obtain ⟨q, xs, hf, hxs, h1⟩ := RW_read h i hi
 have hal := all_few hf.1
 have hrl : xs.length = a.all.length := by
  have := congrArg List.length hxs
  rw [List.length_map] at this
  unfold WA.rows at this
  rw [List.length_map] at this
  exact this
 have hu : (tRR q.L xs).ro.holds = (tRR q.L xs).holds := rfl
 have hLl := h1.lenU (u := tRR q.L xs) (s := q.L) (l := xs) (f := rxv) (n := 3) 2 rfl (rr_reads rfl)
 have h1 := h1.nil 143 2 shv
 refine ⟨fun out t mm w' => ∃ (k : Nat) (zs : List (Int × Int)), t = k ∧ k ≤ xs.length ∧ mm = xs.length - k ∧ zs.length ≤ k ∧ (zs.map (·.1)).Nodup ∧ (∀ s, mget zs s = shapeL a (a.all.take k) s) ∧ Hp [] w w' [(tBlk b 139 q.cells).ro, (tPool 176 q.p a.pool).ro, (tRR q.L xs).ro, tSl out 143 2 shv zs], ⟨xs.length, 0, [], rfl, by omega, rfl, by simp, by simp, fun s => by simp [shapeL, mget_nil], h1⟩, ?_⟩
 clear h1
 rintro out t mm w2 ⟨k, zs, rfl, hk, rfl, hzk, hznd, hzs, h1⟩
 have hol := h1.len (s := out) 3 rfl
 refine nns ?_
 refine h1.ld (n := 2) (k := .sl) (x := q.L) 0 rfl rfl ?_
 by_cases hlt : k < xs.length
 ·refine ifT (by simp; omega) ?_
  have hx : xs[k]? = some xs[k] := by simp [hlt]
  have hxm : xs[k] ∈ xs := List.getElem_mem hlt
  have hrx : a.rows[k]? = some (rxw xs[k]) := by rw [← hxs, List.getElem?_map, hx]; rfl
  generalize xs[k] = x at hx hxm hrx
  obtain ⟨p, hpa, hp, hxp, hpf, hpr⟩ := rows_at hf (r := rxw x) (List.mem_of_getElem? hrx)
  have hxp : x.2.2.map pvis = partsOf p := hxp
  have hp : a.row x.1 = some p := hp
  have hae : a.all[k]? = some x.1 := by
   unfold WA.rows at hrx
   rw [List.getElem?_map] at hrx
   obtain ⟨e, he, h3⟩ := Option.map_eq_some_iff.1 hrx
   have : e = x.1 := (Prod.mk.inj h3).1
   rw [he, this]
  have hatk : a.all.take (k + 1) = a.all.take k ++ [x.1] := by
   rw [List.take_add_one, hae]; rfl
  obtain ⟨hp1, hp2⟩ := part_fit hf.1.len.2 hf.1.four hpf hpr
  refine nns ?_
  refine h1.ld (n := 2) (k := .sl) (x := q.L) 0 rfl rfl ?_
  refine h1.ixk (s := q.L) (l := xs) (f := rxv) (n := 3) 2 rfl (rr_reads hu) (by omega) (by rw [Int.toNat_natCast]; exact hlt) fun ad had => ?_
  rw [Int.toNat_natCast]
  refine h1.ldk (m := 2) (k := .sl) (v := x.2.1) 2 rfl (rr_reads hu) had rxv_len hx rfl ?_
  obtain ⟨O', hO'⟩ := h1.see (i := 2) rfl
  refine SetOf_spec (rr_rdp (u := (tRR q.L xs).ro) hu hxm hO') (by rw [hxp]; exact hp1) (fun y hy => by rw [hxp] at hy; exact (hp2 y hy).2.2) ?_
  rw [hxp, setSum_parts]
  have hstep := shapeL_step (L := a.all.take k) hp hzs
  rw [← hatk] at hstep
  generalize setI p = set at hstep
  refine ⟨fun k2 w' => ∃ r : Nat, k2 = r ∧ r ≤ zs.length ∧ (∀ (j : Nat) (hj : j < zs.length), j < r → (zs[j]).1 ≠ set) ∧ (∀ hr : r < zs.length, (zs[r]).1 = set) ∧ Hp [] w w' [(tBlk b 139 q.cells).ro, (tPool 176 q.p a.pool).ro, (tRR q.L xs).ro, tSl out 143 2 shv zs], ?_, ?_⟩
  ·refine ⟨fun t mm w' => ∃ r : Nat, t = r ∧ r ≤ zs.length ∧ mm = zs.length - r ∧ (∀ (j : Nat) (hj : j < zs.length), j < r → (zs[j]).1 ≠ set) ∧ Hp [] w w' [(tBlk b 139 q.cells).ro, (tPool 176 q.p a.pool).ro, (tRR q.L xs).ro, tSl out 143 2 shv zs], ⟨zs.length, 0, rfl, by omega, rfl, fun j _ h => by omega, h1⟩, ?_⟩
   clear h1
   rintro t mm w3 ⟨r, rfl, hr, rfl, hno, h1⟩
   by_cases hrl : r < zs.length
   ·refine ifT (by simp; omega) ?_
    have hz : zs[r]? = some zs[r] := by simp [hrl]
    refine h1.ixr (s := out) (l := zs) (f := shv) (n := 2) (e := 143) 3 rfl (by omega) (by rw [Int.toNat_natCast]; exact hz) shv_len fun ad2 hc2 => ?_
    refine ldR0 (k := .i .i64) (x := (zs[r]).1) (hc2 0 (by omega)) rfl ?_
    by_cases he : (zs[r]).1 = set
    ·exact ifF (by simpa using he) ⟨r, rfl, hr, hno, fun _ => he, h1⟩
    ·refine ifT (by simpa using he) ⟨zs.length - (r + 1), by omega, r + 1, by rw [wr64 (by omega) (by omega)]; omega, by omega, rfl, fun j hj hjr => ?_, h1⟩
     by_cases hj2 : j < r
     ·exact hno j hj hj2
     ·obtain rfl : j = r := by omega
      exact he
   ·exact ifF (by simp; omega) ⟨r, rfl, hr, hno, fun h => absurd h hrl, h1⟩
  clear h1
  rintro k2 w3 ⟨r, rfl, hr, hno, hyes, h1⟩
  refine ⟨fun out3 w' => ∃ (zs3 : List (Int × Int)) (n : Nat), zs3[r]? = some (set, (n : Int)) ∧ zs3.set r (set, (n : Int) + 1) = mput zs set ((mget zs set).getD 0 + 1) ∧ n ≤ 200 ∧ Hp [] w w' [(tBlk b 139 q.cells).ro, (tPool 176 q.p a.pool).ro, (tRR q.L xs).ro, tSl out3 143 2 shv zs3], ?_, ?_⟩
  ·by_cases hrl : r < zs.length
   ·obtain ⟨e1, e2⟩ := mput_at (v := (mget zs set).getD 0 + 1) hrl hno (hyes hrl)
    have hn : ∃ n : Nat, (zs[r]).2 = n ∧ n ≤ 200 := by
     have := hzs set
     rw [e2] at this
     unfold shapeL at this
     split at this
     ·cases this
     ·have hle := List.length_filter_le (fun e => decide ((a.row e).map setI = some set)) (a.all.take k)
      rw [List.length_take] at hle
      exact ⟨_, Option.some.inj this, by omega⟩
    obtain ⟨n, hn1, hn2⟩ := hn
    have hz : zs[r]? = some (set, (n : Int)) := by rw [List.getElem?_eq_getElem hrl, ← hn1, ← hyes hrl]
    refine ifF (by simp; omega) ⟨zs, n, hz, ?_, hn2, h1⟩
    rw [e1, e2, Option.getD_some, hn1]
   ·obtain rfl : r = zs.length := by omega
    obtain ⟨e1, e2⟩ := mput_out (v := (mget zs set).getD 0 + 1) (fun j hj => hno j hj hj)
    refine ifT (by simp; omega) ?_
    refine h1.nwapp 3 ((set, (0 : Int)) : Int × Int) (c := [_, _]) rfl shv_len und89 i1 i3 i2 rfl rfl (by simp [shv, Value.oneCell']) (by rw [i4]; omega) (by omega) fun out2 w4 h1 _ _ => ?_
    exact ⟨zs ++ [(set, 0)], 0, by simp, by rw [e1, e2]; simp, by omega, h1⟩
  clear h1
  rintro out3 w4 ⟨zs3, n, hz, hset, hn, h1⟩
  refine h1.ixr (s := out3) (l := zs3) (f := shv) (n := 2) (e := 143) 3 rfl (by omega) (by rw [Int.toNat_natCast]; exact hz) shv_len fun ad2 hc2 => ?_
  refine ldR (k := .i .i64) (x := (n : Int)) (hc2 1 (by omega)) rfl ?_
  have hwn : IntKind.i64.wrap ((n : Int) + 1) = (n : Int) + 1 := wr64 (by omega) (by omega)
  rw [hwn]
  refine h1.ixstm 3 (y := ((set, (n : Int)) : Int × Int)) (y' := (set, (n : Int) + 1)) (m := 1) rfl (by omega) (by rw [Int.toNat_natCast]; exact hz) shv_len (by omega) rfl rfl fun w5 h1 => ?_
  rw [Int.toNat_natCast, hset] at h1
  have hml : (mput zs set ((mget zs set).getD 0 + 1)).length ≤ zs.length + 1 := by
   rw [← hset, List.length_set]
   by_cases hrl : r < zs.length
   ·obtain ⟨e1, e2⟩ := mput_at (v := (mget zs set).getD 0 + 1) hrl hno (hyes hrl)
    have := congrArg List.length hset
    rw [e1, List.length_set, List.length_set] at this
    omega
   ·obtain rfl : r = zs.length := by omega
    obtain ⟨e1, e2⟩ := mput_out (v := (mget zs set).getD 0 + 1) (fun j hj => hno j hj hj)
    have := congrArg List.length hset
    rw [e1, List.length_set, List.length_append] at this
    simp at this
    omega
  refine ⟨xs.length - (k + 1), by omega, k + 1, mput zs set ((mget zs set).getD 0 + 1), by rw [wr64 (by omega) (by omega)]; omega, by omega, rfl, by omega, mput_keys _ _ _ hznd, fun s => ?_, h1⟩
  rw [mget_put, hstep]
 ·refine ifF (by simp; omega) ?_
  have hsh : ∀ s, a.shape s = mget zs s := fun s => by
   rw [hzs, List.take_of_length_le (by omega)]
   rfl
  exact hK out zs w2 hznd hsh (by omega) (h.r0 (rest := [tSl out 143 2 shv zs]) rfl (h1.selL [3] (by decide) rfl))
end
end Go.Proofs.Ytcccjgmekakabaa.FW
end
