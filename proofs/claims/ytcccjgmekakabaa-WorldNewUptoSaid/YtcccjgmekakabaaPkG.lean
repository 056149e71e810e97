/-
  Part 7 of the proof: WorldNew of layer 6 is true of the given program for every input that its guards let in (of bulk at most 1048576).
-/
import Derived.Test.YtcccjgmekakabaaPkF
set_option linter.unusedSimpArgs false
set_option linter.unusedVariables false
set_option maxRecDepth 100000
section
namespace Go.Proofs.Ytcccjgmekakabaa.FW
open F
open Go Go.Den Go.Proofs
open FI (PoolM tPool)
open FT (TabM tTab Ent entV ent ent_len atI keyEnt iv iv_len)
open FP (R64 tB putU zig rowU encZ putU_len encZ_len)
section
variable {S : List Nat} {w0 w : World} {its : List Thing}
set_option maxHeartbeats 2000000 in
theorem Head_spec (h : Hp S w0 w its) (i j : Nat) {b : Nat} {q : RH} {m : PoolM} (hm : m.Ok2) (hi : (its[i]?).map Thing.holds = some (tBlk b 139 q.cells).holds) (hj : (its[j]?).map Thing.holds = some (tPool 176 q.p m).holds) {K : Sl → World → Prop}
  (hK : ∀ s w', Hp S w0 w' (its ++ [tB s (rowU m.stGens ++ rowU m.free)]) → K s w') : c78 (some ⟨b, 0, none⟩) w K := by
 refine c78_of ?_
 unfold f78
 obtain ⟨g1, g2, g3, g4⟩ := stGens_rng hm.toOk
 have r1 := rowU_len m.stGens
 have r2 := rowU_len m.free
 have get : ∀ {l : List Thing} (k : Nat), (its ++ l)[its.length + k]? = l[k]? := fun {l} k => by rw [List.getElem?_append_right (by omega)]; simp
 refine nns ?_
 refine h.ld (n := 1) (k := .p) (x := some ⟨q.p, 0, none⟩) i hi rfl ?_
 refine FI.RState_h h j hm hj fun g f w1 h => ?_
 refine Rlongs_spec h (its.length + 0) (u := tSl g 3 1 iv m.stGens) (by rw [get]; rfl) Hp.rdSl (by omega) fun r w2 h => ?_
 rw [List.append_assoc] at h
 refine FP.RPutRow_spec h (its.length + 0) (its.length + 2) (u := tSl g 3 1 iv m.stGens) (b := ⟨none, 0, 0⟩) (bs := []) (by rw [get]; rfl) rd_nil (u' := tSl r 2 1 iv m.stGens) (l := m.stGens) (by rw [get]; rfl) Hp.rdSl g1 (by omega) (by simp) fun s w3 h => ?_
 rw [List.append_assoc] at h
 refine Rlongs_spec h (its.length + 1) (u := tSl f 3 1 iv m.free) (by rw [get]; rfl) Hp.rdSl (by omega) fun r2' w4 h => ?_
 rw [List.append_assoc] at h
 refine FP.RPutRow_spec h (its.length + 3) (its.length + 4) (u := tB s ([] ++ rowU m.stGens)) (bs := rowU m.stGens) (by rw [get]; rfl) Hp.rdSl (u' := tSl r2' 2 1 iv m.free) (l := m.free) (by rw [get]; rfl) Hp.rdSl g3 (by omega) (by omega) fun s2 w5 h => ?_
 have h : Hp S w0 w5 (its ++ [tSl g 3 1 iv m.stGens, tSl f 3 1 iv m.free, tSl r 2 1 iv m.stGens, tB s ([] ++ rowU m.stGens), tSl r2' 2 1 iv m.free] ++ [tB s2 (rowU m.stGens ++ rowU m.free)]) := by
  simp only [List.append_assoc, List.cons_append, List.nil_append] at h ⊢
  exact h
 exact hK s2 w5 h.dropMid
def accR (l : List RowT) : List Int := l.flatMap fun r => putU (setSum r.2) ++ r.2.flatMap fun y => encZ y.2
theorem accR_app (l m : List RowT) : accR (l ++ m) = accR l ++ accR m := by unfold accR; rw [List.flatMap_append]
def accP (l : List Part) : List Int := l.flatMap fun y => encZ y.2
theorem accP_app (l m : List Part) : accP (l ++ m) = accP l ++ accP m := by unfold accP; rw [List.flatMap_append]
theorem accP_len {l : List Part} (h : ∀ y ∈ l, y.2.length ≤ 4) : (accP l).length ≤ 40 * l.length := by
 induction l with
 | nil => simp [accP]
 | cons y l ih =>
  have := ih (fun z hz => h z (by simp [hz]))
  have h1 := h y (by simp)
  have h2 := encZ_len y.2
  have e : accP (y :: l) = encZ y.2 ++ accP l := by simp [accP]
  rw [e, List.length_append, List.length_cons]
  omega
theorem accR_len {l : List RowT} (h : ∀ r ∈ l, r.2.length ≤ 12 ∧ ∀ y ∈ r.2, y.2.length ≤ 4) : (accR l).length ≤ 490 * l.length := by
 induction l with
 | nil => simp [accR]
 | cons r l ih =>
  have := ih (fun z hz => h z (by simp [hz]))
  obtain ⟨h1, h2⟩ := h r (by simp)
  have h3 := accP_len h2
  have h4 := putU_len (setSum r.2)
  have e : accR (r :: l) = (putU (setSum r.2) ++ accP r.2) ++ accR l := by simp [accR, accP]
  rw [e, List.length_append, List.length_append, List.length_cons]
  omega
theorem acc_all {a : WA} (hf : a.fits) : accR a.rows = a.all.flatMap fun e => snapRow ((a.row e).getD []) := by
 unfold accR WA.rows
 rw [List.flatMap_map]
 have key : ∀ L : List Ent, (∀ e ∈ L, e ∈ a.all) → (L.flatMap fun e => putU (setSum (a.rowT e).2) ++ (a.rowT e).2.flatMap fun y => encZ y.2) = L.flatMap fun e => snapRow ((a.row e).getD []) := by
  intro L
  induction L with
  | nil => simp
  | cons e L ih =>
   intro hL
   obtain ⟨p, hp⟩ := all_lives hf.1 (hL e (by simp))
   rw [List.flatMap_cons, List.flatMap_cons, ih (fun x hx => hL x (by simp [hx]))]
   congr 1
   have e1 : (a.rowT e).2 = partsOf p := by unfold WA.rowT; rw [hp]; rfl
   rw [e1, setSum_parts, enc_parts, hp]
   rfl
 exact key a.all (fun e he => he)
set_option maxHeartbeats 4000000 in
theorem RSnapshot_W (h : Hp S w0 w its) (i : Nat) {b : Nat} {a : WA} (hi : (its[i]?).map Thing.holds = some (tRW b a).holds) {K : Sl → World → Prop}
  (hK : ∀ s w', Hp S w0 w' (its ++ [tB s a.snap]) → K s w') : c37 (some ⟨b, 0, none⟩) w K := by
 refine c37_of ?_
 unfold f37
 obtain ⟨q, xs, hf, hxs, h1⟩ := RW_read h i hi
 have hal := all_few hf.1
 have hrl : xs.length = a.all.length := by
  have := congrArg List.length hxs
  rw [List.length_map] at this
  unfold WA.rows at this
  rw [List.length_map] at this
  exact this
 have hu : (tRR q.L xs).ro.holds = (tRR q.L xs).holds := rfl
 have hLl := h1.lenU (u := tRR q.L xs) (s := q.L) (l := xs) (f := rxv) (n := 3) 2 rfl (rr_reads rfl)
 have hfits : ∀ r ∈ a.rows, (r.2.length ≤ 12 ∧ ∀ y ∈ r.2, y.2.length ≤ 4) := fun r hr => by
  obtain ⟨p, hpa, hp, hxp, hpf, hpr⟩ := rows_at hf hr
  obtain ⟨hp1, hp2⟩ := part_fit hf.1.len.2 hf.1.four hpf hpr
  rw [hxp]
  exact ⟨hp1, fun y hy => (hp2 y hy).1⟩
 refine Head_spec h1 0 1 (m := a.pool) hf.1.pok2 rfl rfl fun s1 w1 h1 => ?_
 have hhd : (rowU a.pool.stGens ++ rowU a.pool.free).length ≤ 10000 := by
  obtain ⟨g1, g2, g3, g4⟩ := stGens_rng hf.1.pok
  have r1 := rowU_len a.pool.stGens
  have r2 := rowU_len a.pool.free
  rw [List.length_append]; omega
 have hsn : a.snap = rowU a.pool.stGens ++ rowU a.pool.free ++ accR a.rows := by rw [acc_all hf]; rfl
 rw [hsn] at hK
 generalize rowU a.pool.stGens ++ rowU a.pool.free = hd at h1 hhd hK
 refine ⟨fun s t mm w' => ∃ k : Nat, t = k ∧ k ≤ xs.length ∧ mm = xs.length - k ∧ Hp [] w w' [(tBlk b 139 q.cells).ro, (tPool 176 q.p a.pool).ro, (tRR q.L xs).ro, tB s (hd ++ accR (a.rows.take k))], ⟨xs.length, 0, rfl, by omega, rfl, by simpa [accR] using h1⟩, ?_⟩
 clear h1
 rintro s t mm w2 ⟨k, rfl, hk, rfl, h1⟩
 refine nns ?_
 refine h1.ld (n := 2) (k := .sl) (x := q.L) 0 rfl rfl ?_
 by_cases hlt : k < xs.length
 ·refine ifT (by simp; omega) ?_
  have hx : xs[k]? = some xs[k] := by simp [hlt]
  have hxm : xs[k] ∈ xs := List.getElem_mem hlt
  have hrx : a.rows[k]? = some (rxw xs[k]) := by rw [← hxs, List.getElem?_map, hx]; rfl
  generalize xs[k] = x at hx hxm hrx
  obtain ⟨p, hpa, hp, hxp, hpf, hpr⟩ := rows_at hf (r := rxw x) (List.mem_of_getElem? hrx)
  have hxp : x.2.2.map pvis = partsOf p := hxp
  have hrtk : a.rows.take (k + 1) = a.rows.take k ++ [rxw x] := by rw [List.take_add_one, hrx]; rfl
  obtain ⟨hp1, hp2⟩ := part_fit hf.1.len.2 hf.1.four hpf hpr
  have hacc := accR_len (l := a.rows.take k) (fun r hr => hfits r (List.mem_of_mem_take hr))
  rw [List.length_take] at hacc
  refine nns ?_
  refine h1.ld (n := 2) (k := .sl) (x := q.L) 0 rfl rfl ?_
  refine h1.ixk (s := q.L) (l := xs) (f := rxv) (n := 3) 2 rfl (rr_reads hu) (by omega) (by rw [Int.toNat_natCast]; exact hlt) fun ad had => ?_
  rw [Int.toNat_natCast]
  refine h1.ldk (m := 2) (k := .sl) (v := x.2.1) 2 rfl (rr_reads hu) had rxv_len hx rfl ?_
  obtain ⟨O', hO'⟩ := h1.see (i := 2) rfl
  refine SetOf_spec (rr_rdp (u := (tRR q.L xs).ro) hu hxm hO') (by rw [hxp]; exact hp1) (fun y hy => by rw [hxp] at hy; exact (hp2 y hy).2.2) ?_
  have hs0 := setI_nn p
  have hs1 := setI_lt (p := p) (by rw [hpf.1]; exact hf.1.len.2)
  have e0 : setSum (x.2.2.map pvis) = setI p := by rw [hxp, setSum_parts]
  have e1 : IntKind.u64.wrap (setSum (x.2.2.map pvis)) = setI p := by rw [e0, FP.w64]; omega
  rw [e1]
  refine FP.RPut_spec h1 3 (u := tB s (hd ++ accR (a.rows.take k))) (l := hd ++ accR (a.rows.take k)) rfl Hp.rdSl hs0 (by omega) (by rw [List.length_append]; omega) fun s2 w3 h1 => ?_
  have h1 : Hp [] w w3 [(tBlk b 139 q.cells).ro, (tPool 176 q.p a.pool).ro, (tRR q.L xs).ro, tB s2 (hd ++ accR (a.rows.take k) ++ putU (setI p))] := h1.selL [0, 1, 2, 4] (by decide) rfl
  have hput := putU_len (setI p)
  have hpre : (hd ++ accR (a.rows.take k) ++ putU (setI p)).length ≤ 200000 := by rw [List.length_append, List.length_append]; omega
  have hfin : hd ++ accR (a.rows.take k) ++ putU (setI p) ++ accP (x.2.2.map pvis) = hd ++ accR (a.rows.take (k + 1)) := by
   rw [hrtk, accR_app]
   have : accR [rxw x] = putU (setI p) ++ accP (x.2.2.map pvis) := by
    rw [← e0]; simp [accR, accP, rxw]
   rw [this]; simp
  generalize hd ++ accR (a.rows.take k) ++ putU (setI p) = pre at h1 hpre hfin
  have hpsl := h1.lenU (s := x.2.1) (l := x.2.2) (f := pdv) (n := 2) (u := (tRR q.L xs).ro) 2 rfl (rr_readsP hu hxm)
  have hyl : x.2.2.length ≤ 12 := by rw [← hxp, List.length_map] at hp1; exact hp1
  have hy4 : ∀ y ∈ x.2.2, y.2.2.length ≤ 4 ∧ R64 y.2.2 := fun y hy => by
   have := hp2 (pvis y) (by rw [← hxp]; exact List.mem_map_of_mem hy)
   exact ⟨this.1, this.2.1⟩
  refine ⟨fun s t mm w' => ∃ j : Nat, t = j ∧ j ≤ x.2.2.length ∧ mm = x.2.2.length - j ∧ Hp [] w w' [(tBlk b 139 q.cells).ro, (tPool 176 q.p a.pool).ro, (tRR q.L xs).ro, tB s (pre ++ accP ((x.2.2.map pvis).take j))], ⟨x.2.2.length, 0, rfl, by omega, rfl, by simpa [accP] using h1⟩, ?_⟩
  clear h1
  rintro s3 t mm w4 ⟨j, rfl, hj, rfl, h1⟩
  by_cases hjl : j < x.2.2.length
  ·refine ifT (by simp; omega) ?_
   have hy : x.2.2[j]? = some x.2.2[j] := by simp [hjl]
   have hym : x.2.2[j] ∈ x.2.2 := List.getElem_mem hjl
   have htk : (x.2.2.map pvis).take (j + 1) = (x.2.2.map pvis).take j ++ [pvis x.2.2[j]] := by
    rw [List.take_succ_eq_append_getElem (by simpa using hjl)]; simp
   generalize x.2.2[j] = y at hy hym htk
   obtain ⟨hv4, hvr⟩ := hy4 y hym
   have hal2 := accP_len (l := (x.2.2.map pvis).take j) (fun z hz => by
    obtain ⟨z', hz', rfl⟩ := List.mem_map.1 (List.mem_of_mem_take hz)
    exact (hy4 z' hz').1)
   rw [List.length_take] at hal2
   have hvl := h1.lenU (s := y.2.1) (l := y.2.2) (f := iv) (n := 1) (u := (tRR q.L xs).ro) 2 rfl (rr_readsV hu hxm hym)
   refine ⟨fun s t mm w' => ∃ r : Nat, t = r ∧ r ≤ y.2.2.length ∧ mm = y.2.2.length - r ∧ Hp [] w w' [(tBlk b 139 q.cells).ro, (tPool 176 q.p a.pool).ro, (tRR q.L xs).ro, tB s (pre ++ accP ((x.2.2.map pvis).take j) ++ encZ (y.2.2.take r))], ⟨y.2.2.length, 0, rfl, by omega, rfl, by simpa [encZ] using h1⟩, ?_⟩
   clear h1
   rintro s4 t mm w5 ⟨r, rfl, hr, rfl, h1⟩
   have rdy : ∀ {K : Sl → Prop}, K y.2.1 → Ix x.2.1.a x.2.1.len ((j : Nat) : Int) 2 fun (a2 : Addr) => Ld .sl w5 (a2.add 1) K := fun {K} hK => by
    refine h1.ixk (s := x.2.1) (l := x.2.2) (f := pdv) (n := 2) (u := (tRR q.L xs).ro) 2 rfl (rr_readsP hu hxm) (by omega) (by rw [Int.toNat_natCast]; exact hjl) fun ad had => ?_
    rw [Int.toNat_natCast]
    exact h1.ldk (m := 1) (k := .sl) (v := y.2.1) (u := (tRR q.L xs).ro) 2 rfl (rr_readsP hu hxm) had pdv_len hy rfl hK
   refine rdy ?_
   by_cases hrl2 : r < y.2.2.length
   ·refine ifT (by simp; omega) (rdy ?_)
    have hz : y.2.2[r]? = some y.2.2[r] := by simp [hrl2]
    have hzr := hvr _ (List.getElem_mem hrl2)
    have hsz : encZ (y.2.2.take (r + 1)) = encZ (y.2.2.take r) ++ putU (zig y.2.2[r]) := by
     unfold encZ
     rw [List.take_succ_eq_append_getElem hrl2, List.flatMap_append]; simp
    have hel := encZ_len (y.2.2.take r)
    rw [List.length_take] at hel
    generalize y.2.2[r] = z at hz hzr hsz
    refine h1.ixldU (k := .i .i64) (u := (tRR q.L xs).ro) (y := z) (x := z) 2 rfl (rr_readsV hu hxm hym) (by omega) (by rw [Int.toNat_natCast]; exact hz) iv_len rfl ?_
    refine FP.RPutInt_spec h1 3 rfl Hp.rdSl hzr.1 hzr.2 (by rw [List.length_append, List.length_append]; omega) fun s5 w6 h1 => ?_
    have h1 : Hp [] w w6 [(tBlk b 139 q.cells).ro, (tPool 176 q.p a.pool).ro, (tRR q.L xs).ro, tB s5 (pre ++ accP ((x.2.2.map pvis).take j) ++ encZ (y.2.2.take r) ++ putU (zig z))] := h1.selL [0, 1, 2, 4] (by decide) rfl
    refine ⟨y.2.2.length - (r + 1), by omega, r + 1, by rw [wr64 (by omega) (by omega)]; omega, by omega, rfl, ?_⟩
    rw [hsz, ← List.append_assoc]
    exact h1
   ·refine ifF (by simp; omega) ⟨x.2.2.length - (j + 1), by omega, j + 1, by rw [wr64 (by omega) (by omega)]; omega, by omega, rfl, ?_⟩
    rw [List.take_of_length_le (l := y.2.2) (by omega)] at h1
    rw [htk, accP_app]
    have : accP [pvis y] = encZ y.2.2 := by simp [accP, pvis]
    rw [this, ← List.append_assoc]
    exact h1
  ·refine ifF (by simp; omega) ⟨xs.length - (k + 1), by omega, k + 1, by rw [wr64 (by omega) (by omega)]; omega, by omega, rfl, ?_⟩
   rw [List.take_of_length_le (by simp; omega), hfin] at h1
   exact h1
 ·refine ifF (by simp; omega) ?_
  have hrl2 : a.rows.length = xs.length := by rw [← hxs, List.length_map]
  rw [List.take_of_length_le (by omega)] at h1
  exact hK s w2 (h.r0 (rest := [tB s (hd ++ accR a.rows)]) rfl (h1.selL [3] (by decide) rfl))
end
end Go.Proofs.Ytcccjgmekakabaa.FW
end

section
namespace Go.Proofs.Ytcccjgmekakabaa.FW
open F
open Go Go.Den Go.Proofs
open FT (iv iv_len)
section
variable {S : List Nat} {w0 w : World} {its : List Thing}
theorem old_more {n : Nat} {g : Int → List Value} {D : List LM} {l c : Sl} {m : Int} {p r : Nat} (h : Hp S w0 w its) {i j : Nat} (hne : i ≠ j) (hi : its[i]? = some (tOld n g D)) (hj : its[j]? = some (tShare (tRd l n g (List.replicate p m)) (tRd c n g (List.replicate r m)))) (hp : l.len = p) (hr : c.len = r) :
  Hp S w0 w ((its.set i (tOld n g (D ++ [(l, m), (c, m)]))).set j tEmp) :=
 h.join (c := tOld n g (D ++ [(l, m), (c, m)])) hne hi hj rfl rfl rfl (fun w O1 O2 q1 q2 q3 => by
  obtain ⟨O3, O4, r1, r2, r3⟩ := q2
  refine ⟨fun k hk => ?_, fun x hx => ?_⟩
  ·rcases List.mem_append.1 hk with hk | hk
   ·exact q1.1 k hk
   ·rcases (r3 k).1 hk with hk | hk
    ·exact (tRd l n g (List.replicate p m)).lt r1 k hk
    ·exact (tRd c n g (List.replicate r m)).lt r2 k hk
  ·rcases List.mem_append.1 hx with hx | hx
   ·exact (q1.2 x hx).mono fun k hk => List.mem_append_left _ hk
   ·simp only [List.mem_cons, List.not_mem_nil, or_false] at hx
    rcases hx with rfl | rfl
    ·exact ⟨O3, by rw [hp]; exact r1, fun k hk => List.mem_append_right _ ((r3 k).2 (.inl hk))⟩
    ·exact ⟨O4, by rw [hr]; exact r2, fun k hk => List.mem_append_right _ ((r3 k).2 (.inr hk))⟩)
theorem old_less {n : Nat} {g : Int → List Value} {D D' : List LM} (h : Hp S w0 w its) {i : Nat} (hi : its[i]? = some (tOld n g D)) (hd : ∀ x ∈ D', x ∈ D) : Hp S w0 w (its.set i (tOld n g D')) :=
 h.weak hi rfl (fun w O hO => ⟨hO.1, fun x hx => hO.2 x (hd x hx)⟩) rfl
structure GS (n : Nat) (old new G D : List LM) (ts us : List Thing) (k : Nat) : Prop where
 hk : k ≤ new.length
 g : G.length = k
 d : ∀ x ∈ old ++ new.take k ++ G, x ∈ D
 t : ts.drop k = us.drop k
 l : ∀ x ∈ G, x.1.len ≤ 20000
set_option maxHeartbeats 16000000 in
theorem grows_spec (h : Hp S w0 w its) (i : Nat) {bp : Nat} {p : PC} {N M : Nat} (hi : its[i]? = some (tBook bp p N M)) (hN : N + 2 * M ≤ 1000000000)
  {K : World → Prop} (hK : ∀ w', Hp S w0 w' (its.set i (tBook bp p (N + 2 * M) 0)) → K w') : c41 (some ⟨bp, 6, none⟩) w K := by
 refine c41_of ?_
 unfold f41
 obtain ⟨infV, a1, a2, a3, a4⟩ := inf38
 obtain ⟨infP', b1, b2, b3, b4⟩ := inf36
 obtain ⟨infR, d1, d2, d3, d4⟩ := inf56
 obtain ⟨infI, i1, i2, i3, i4⟩ := FT.inf3
 obtain ⟨infJ, j1, j2, j3, j4⟩ := inf2
 obtain ⟨infE1, e1, e2, e3, e4⟩ := inf40
 obtain ⟨infE2, u1, u2, u3, u4⟩ := inf65
 obtain ⟨O, h1, back⟩ := h.f1 hi rfl
 clear h
 have h := h1
 clear h1
 obtain ⟨⟨⟨vV, xV, oldV, newV⟩, ⟨vP, xP, oldP, newP⟩, ⟨vR, xR, oldR, newR⟩⟩, ⟨⟨fV1, fV2, fV3, fV4⟩, ⟨fP1, fP2, fP3, fP4⟩, ⟨fR1, fR2, fR3, fR4⟩⟩, h⟩ := book_open h (i := 0) rfl
 dsimp only at fV1 fV2 fV3 fV4 fP1 fP2 fP3 fP4 fR1 fR2 fR3 fR4
 -- phase V
 have h := shelf_open h (i := 1) rfl
 have h : Hp O w w [tBlk bp 88 (BK.cells ⟨⟨vV, xV, oldV, newV⟩, ⟨vP, xP, oldP, newP⟩, ⟨vR, xR, oldR, newR⟩⟩ p), tSl vV 38 1 slm (oldV ++ newV), tShP ⟨vP, xP, oldP, newP⟩, tShR ⟨vR, xR, oldR, newR⟩, tSl xV 2 1 mkm (oldV ++ newV), tOld 1 iv oldV, tAll (newV.map (pend 2 1 iv))] := h
 have hvl := h.len (s := vV) 1 rfl
 have hxl := h.len (s := xV) 4 rfl
 rw [List.length_append] at hvl hxl
 refine nns ?_
 refine h.ldv (k := .sl) (x := vV) 0 rfl rfl ?_
 refine nns ?_
 refine h.lda (n := 6) (m := 6) (k := .i .i64) (x := (oldV.length : Nat)) 0 rfl rfl ?_
 refine ⟨fun t mm w' => ∃ (k : Nat) (v x : Sl) (G D : List LM) (ts : List Thing), t = ((oldV.length + k : Nat) : Int) ∧ GS 1 oldV newV G D ts (newV.map (pend 2 1 iv)) k ∧ mm = newV.length - k ∧ Hp O w w' [tBlk bp 88 (BK.cells ⟨⟨v, x, oldV, newV⟩, ⟨vP, xP, oldP, newP⟩, ⟨vR, xR, oldR, newR⟩⟩ p), tSl v 38 1 slm (oldV ++ newV ++ G), tShP ⟨vP, xP, oldP, newP⟩, tShR ⟨vR, xR, oldR, newR⟩, tSl x 2 1 mkm (oldV ++ newV ++ G), tOld 1 iv D, tAll ts],
  ⟨newV.length, 0, vV, xV, [], oldV, newV.map (pend 2 1 iv), rfl, ⟨by omega, rfl, by simp, rfl, by simp⟩, rfl, by rw [List.append_nil]; exact h⟩, ?_⟩
 clear h
 rintro t mm w2 ⟨k, v, x, G, D, ts, rfl, hg, rfl, h⟩
 by_cases hlt : k < newV.length
 ·refine ifT (by simp; omega) ?_
  have hgk := hg.g
  have hvl2 := h.len (s := v) 1 rfl
  have hxl2 := h.len (s := x) 4 rfl
  rw [List.length_append, List.length_append] at hvl2 hxl2
  have hx : (oldV ++ newV ++ G)[oldV.length + k]? = some newV[k] := by
   rw [List.getElem?_append_left (by rw [List.length_append]; omega), List.getElem?_append_right (by omega), Nat.add_sub_cancel_left]; simp [hlt]
  have ht : ts[k]? = some (pend 2 1 iv newV[k]) := by
   have e := congrArg (fun L => L[0]?) hg.t
   simpa [hlt] using e
  have hnl := fV4 _ (List.getElem_mem hlt)
  have htk : newV.take (k + 1) = newV.take k ++ [newV[k]] := by rw [List.take_add_one]; simp [hlt]
  generalize newV[k] = y at hx ht hnl htk
  obtain ⟨l, m⟩ := y
  dsimp only at hnl
  refine nns ?_
  refine h.ldv (k := .sl) (x := v) 0 rfl rfl ?_
  refine h.ixld (k := .sl) (y := ((l, m) : LM)) (x := l) 1 rfl (by omega) (by rw [Int.toNat_natCast]; exact hx) slm_len rfl ?_
  have h := h.pick (i := 6) (k := k) rfl ht rfl
  have h := h.lc_start (j := 7) (l := l) (e := 2) (n := 1) (f := iv) (y := m) (p := l.len) rfl
  have h : Hp O w w2 [tBlk bp 88 (BK.cells ⟨⟨v, x, oldV, newV⟩, ⟨vP, xP, oldP, newP⟩, ⟨vR, xR, oldR, newR⟩⟩ p), tSl v 38 1 slm (oldV ++ newV ++ G), tShP ⟨vP, xP, oldP, newP⟩, tShR ⟨vR, xR, oldR, newR⟩, tSl x 2 1 mkm (oldV ++ newV ++ G), tOld 1 iv D, tAll (ts.set k tEmp), tLC 2 1 iv l l m l.len l.len] := h
  refine ⟨fun l2 t mm w' => ∃ q : Nat, t = q ∧ q ≤ 70 ∧ mm + q = 70 ∧ Hp O w w' [tBlk bp 88 (BK.cells ⟨⟨v, x, oldV, newV⟩, ⟨vP, xP, oldP, newP⟩, ⟨vR, xR, oldR, newR⟩⟩ p), tSl v 38 1 slm (oldV ++ newV ++ G), tShP ⟨vP, xP, oldP, newP⟩, tShR ⟨vR, xR, oldR, newR⟩, tSl x 2 1 mkm (oldV ++ newV ++ G), tOld 1 iv D, tAll (ts.set k tEmp), tLC 2 1 iv l l2 m l.len (l.len + q)], ⟨70, 0, rfl, by omega, by omega, h⟩, ?_⟩
  clear h
  rintro l2 t mm w3 ⟨q, rfl, hq, hmm, h⟩
  have fin : NN (some ⟨bp, 6, none⟩) fun (b_6 : Addr) =>
 Ld .sl w3 b_6 fun (v3 : Sl) =>
 Nw (.cells #[.slice l2.a l2.len l2.cap] 38) w3 fun (b3 : Addr) (wz : World) =>
 Run .sl Try.prog (Builtin.append_ #[82, 82] 82 #[.slice v3.a v3.len v3.cap, .slice (some b3) 1 1]) wz fun (s : Sl) (wz : World) =>
 NN (some ⟨bp, 6, none⟩) fun (b_7 : Addr) =>
 St b_7 (.slice s.a s.len s.cap) wz fun (wz : World) =>
 Dr wz fun (wz : World) =>
 NN (some ⟨bp, 6, none⟩) fun (b_8 : Addr) =>
 Ld .sl wz (b_8.add 3) fun (x3 : Sl) =>
 NN (some ⟨bp, 6, none⟩) fun (b_9 : Addr) =>
 Ld .sl wz (b_9.add 3) fun (x4 : Sl) =>
 Ix x4.a x4.len ((oldV.length + k : Nat) : Int) 1 fun (a3 : Addr) =>
 Ld (.i .i64) wz a3 fun (x5 : Int) =>
 Nw (.cells #[.int .i64 x5] 2) wz fun (b4 : Addr) (wz : World) =>
 Run .sl Try.prog (Builtin.append_ #[38, 38] 38 #[.slice x3.a x3.len x3.cap, .slice (some b4) 1 1]) wz fun (s2 : Sl) (wz : World) =>
 NN (some ⟨bp, 6, none⟩) fun (b_10 : Addr) =>
 St (b_10.add 3) (.slice s2.a s2.len s2.cap) wz fun (wz : World) =>
 ∃ m2 : Nat, m2 < newV.length - k ∧ ∃ (k' : Nat) (v x : Sl) (G D : List LM) (ts : List Thing), IntKind.i64.wrap (((oldV.length + k : Nat) : Int) + 1) = ((oldV.length + k' : Nat) : Int) ∧ GS 1 oldV newV G D ts (newV.map (pend 2 1 iv)) k' ∧ m2 = newV.length - k' ∧ Hp O w wz [tBlk bp 88 (BK.cells ⟨⟨v, x, oldV, newV⟩, ⟨vP, xP, oldP, newP⟩, ⟨vR, xR, oldR, newR⟩⟩ p), tSl v 38 1 slm (oldV ++ newV ++ G), tShP ⟨vP, xP, oldP, newP⟩, tShR ⟨vR, xR, oldR, newR⟩, tSl x 2 1 mkm (oldV ++ newV ++ G), tOld 1 iv D, tAll ts] := by
   have hcl := (h.lc_len (e := 2) (n := 1) (f := iv) (l := l) (c := l2) (y := m) (p := l.len) (m := l.len + q) 7 rfl).1
   have h := h.lc_done (j := 7) (e := 2) (n := 1) (f := iv) (l := l) (c := l2) (y := m) (p := l.len) (m := l.len + q) rfl
   have h := old_more h (i := 5) (j := 7) (by decide) rfl rfl rfl hcl
   refine nns ?_
   refine h.ldv (k := .sl) (x := v) 0 rfl rfl ?_
   refine h.nwapp 1 ((l2, m) : LM) (c := [_]) rfl slm_len und82 a1 a3 a2 rfl rfl (by simp [Value.oneCell']) (by rw [a4]; omega) (by omega) fun s wa h hs _ => ?_
   refine nns ?_
   refine h.stv 0 rfl (by simp) rfl fun wb h => ?_
   refine h.dr fun wc h => ?_
   refine nns ?_
   refine h.lda (n := 6) (m := 3) (k := .sl) (x := x) 0 rfl rfl ?_
   refine nns ?_
   refine h.lda (n := 6) (m := 3) (k := .sl) (x := x) 0 rfl rfl ?_
   refine h.ixld (k := .i .i64) (y := ((l, m) : LM)) (x := m) 4 rfl (by omega) (by rw [Int.toNat_natCast]; exact hx) mkm_len rfl ?_
   refine h.nwapp 4 ((l2, m) : LM) (c := [_]) rfl mkm_len und38 j1 j3 j2 rfl rfl (by simp [Value.oneCell']) (by rw [j4]; omega) (by omega) fun s2 wd h hs2 _ => ?_
   refine nns ?_
   refine h.stq (m := 3) 0 rfl (by simp) rfl fun we h => ?_
   rw [List.append_assoc (oldV ++ newV) G] at h
   have h : Hp O w we [tBlk bp 88 (BK.cells ⟨⟨s, s2, oldV, newV⟩, ⟨vP, xP, oldP, newP⟩, ⟨vR, xR, oldR, newR⟩⟩ p), tSl s 38 1 slm (oldV ++ newV ++ (G ++ [(l2, m)])), tShP ⟨vP, xP, oldP, newP⟩, tShR ⟨vR, xR, oldR, newR⟩, tSl s2 2 1 mkm (oldV ++ newV ++ (G ++ [(l2, m)])), tOld 1 iv (D ++ [(l, m), (l2, m)]), tAll (ts.set k tEmp)] := h.trim 7
   refine ⟨newV.length - (k + 1), by omega, k + 1, s, s2, G ++ [(l2, m)], D ++ [(l, m), (l2, m)], ts.set k tEmp, by rw [wr64 (by omega) (by omega)]; omega, ⟨by omega, by simp [hgk], fun y hy => ?_, by
    rw [List.drop_set_of_lt (by omega), ← List.drop_drop, hg.t, List.drop_drop], fun y hy => ?_⟩, rfl, h⟩
   ·rw [htk] at hy
    simp only [List.mem_append, List.mem_cons, List.not_mem_nil, or_false] at hy ⊢
    have := hg.d y
    simp only [List.mem_append] at this
    rcases hy with (hy | hy | hy) | hy | hy
    ·exact .inl (this (.inl (.inl hy)))
    ·exact .inl (this (.inl (.inr hy)))
    ·exact .inr (.inl hy)
    ·exact .inl (this (.inr hy))
    ·exact .inr (.inr hy)
   ·rcases List.mem_append.1 hy with hy | hy
    ·exact hg.l y hy
    ·simp only [List.mem_singleton] at hy
     subst hy
     show l2.len ≤ 20000
     omega
  refine nns ?_
  refine h.lda (n := 6) (m := 6) (k := .i .i64) (x := (oldV.length : Nat)) 0 rfl rfl ?_
  refine far_spec fun r hr => ?_
  by_cases hqr : q < r
  ·refine ifT (by simp; omega) ?_
   refine nns ?_
   refine h.lda (n := 6) (m := 3) (k := .sl) (x := x) 0 rfl rfl ?_
   refine h.ixld (k := .i .i64) (y := ((l, m) : LM)) (x := m) 4 rfl (by omega) (by rw [Int.toNat_natCast]; exact hx) mkm_len rfl ?_
   refine h.lc_app 7 m (e' := 2) (c' := 1) (l := l) (c := l2) (p := l.len) (m := l.len + q) (cs := iv m) rfl iv_len und38 j1 j3 j2 rfl rfl (by simp [iv, Value.oneCell']) (by rw [j4]; omega) (by omega) fun l3 wb h => ?_
   exact ⟨69 - q, by omega, q + 1, by rw [wr64 (by omega) (by omega)]; omega, by omega, by omega, h⟩
  ·exact ifF (by simp; omega) fin
 ·refine ifF (by simp; omega) ?_
  have hgk := hg.g
  obtain rfl : k = newV.length := by have := hg.hk; omega
  have hvl2 := h.len (s := v) 1 rfl
  refine nns ?_
  refine h.ldv (k := .sl) (x := v) 0 rfl rfl ?_
  refine nns ?_
  refine h.stq (m := 6) 0 rfl (by simp) rfl fun w4 h => ?_
  have h := h.lose (i := 6) rfl (tAll_own _)
  have h := old_less h (i := 5) (n := 1) (g := iv) (D := D) (D' := oldV ++ newV ++ G) rfl (fun y hy => hg.d y (by rw [List.take_of_length_le (Nat.le_refl _)]; exact hy))
  have hlo : (oldV ++ newV ++ G).length = v.len := by have := h.len (s := v) 1 rfl; exact this
  have hfit : Sh.fits ⟨v, x, oldV ++ newV ++ G, []⟩ (N + 2 * M) 0 := ⟨by simp only [List.length_append]; omega, by simp, fun y hy => by
   rcases List.mem_append.1 hy with hy | hy
   ·rcases List.mem_append.1 hy with hy | hy
    ·exact fV3 y hy
    ·have := fV4 y hy; omega
   ·exact hg.l y hy, fun y hy => by cases hy⟩
  have h : Hp O w w4 [tBlk bp 88 (BK.cells ⟨⟨v, x, oldV ++ newV ++ G, []⟩, ⟨vP, xP, oldP, newP⟩, ⟨vR, xR, oldR, newR⟩⟩ p), tSl v 38 1 slm (oldV ++ newV ++ G), tShP ⟨vP, xP, oldP, newP⟩, tShR ⟨vR, xR, oldR, newR⟩, tSl x 2 1 mkm (oldV ++ newV ++ G), tOld 1 iv (oldV ++ newV ++ G), tEmp] := by
   have e : (BK.cells ⟨⟨v, x, oldV ++ newV ++ G, []⟩, ⟨vP, xP, oldP, newP⟩, ⟨vR, xR, oldR, newR⟩⟩ p) = ((BK.cells ⟨⟨v, x, oldV, newV⟩, ⟨vP, xP, oldP, newP⟩, ⟨vR, xR, oldR, newR⟩⟩ p).set 12 (.int .i64 (v.len : Int))) := by
    show [_, _, _, _, _, _, _, _, _, _, _, _, _, _, _] = [_, _, _, _, _, _, _, _, _, _, _, _, _, _, _]
    rw [hlo]
   rw [e]; exact h
  have h : Hp O w w4 [tSl v 38 1 slm (oldV ++ newV ++ G ++ []), tSl x 2 1 mkm (oldV ++ newV ++ G ++ []), tOld 1 iv (oldV ++ newV ++ G), tAll (([] : List LM).map (pend 2 1 iv)), tBlk bp 88 (BK.cells ⟨⟨v, x, oldV ++ newV ++ G, []⟩, ⟨vP, xP, oldP, newP⟩, ⟨vR, xR, oldR, newR⟩⟩ p), tShP ⟨vP, xP, oldP, newP⟩, tShR ⟨vR, xR, oldR, newR⟩] := by
   rw [List.append_nil]; exact h.selL [1, 4, 5, 6, 0, 2, 3] (by decide) rfl
  have h := shelf_close ⟨v, x, oldV ++ newV ++ G, []⟩ h
  have h : Hp O w w4 [tBlk bp 88 (BK.cells ⟨⟨v, x, oldV ++ newV ++ G, []⟩, ⟨vP, xP, oldP, newP⟩, ⟨vR, xR, oldR, newR⟩⟩ p), tShP ⟨vP, xP, oldP, newP⟩, tShV ⟨v, x, oldV ++ newV ++ G, []⟩, tShR ⟨vR, xR, oldR, newR⟩] := h.selL [1, 2, 0, 3] (by decide) rfl
  clear hlo
  generalize oldV ++ newV ++ G = oldV at hfit h
  generalize v = vV at hfit h
  generalize x = xV at hfit h
  have hfV := hfit
  clear hfit
  -- phase P
  have h := shelf_open h (i := 1) rfl
  have h : Hp O w w4 [tBlk bp 88 (BK.cells ⟨⟨vV, xV, oldV, []⟩, ⟨vP, xP, oldP, newP⟩, ⟨vR, xR, oldR, newR⟩⟩ p), tSl vP 36 1 slm (oldP ++ newP), tShV ⟨vV, xV, oldV, []⟩, tShR ⟨vR, xR, oldR, newR⟩, tSl xP 3 1 mkm (oldP ++ newP), tOld 2 g1 oldP, tAll (newP.map (pend 40 2 g1))] := h
  have hvl := h.len (s := vP) 1 rfl
  have hxl := h.len (s := xP) 4 rfl
  rw [List.length_append] at hvl hxl
  refine nns ?_
  refine h.lda (n := 6) (m := 1) (k := .sl) (x := vP) 0 rfl rfl ?_
  refine nns ?_
  refine h.lda (n := 6) (m := 7) (k := .i .i64) (x := (oldP.length : Nat)) 0 rfl rfl ?_
  refine ⟨fun t mm w' => ∃ (k : Nat) (v x : Sl) (G D : List LM) (ts : List Thing), t = ((oldP.length + k : Nat) : Int) ∧ GS 2 oldP newP G D ts (newP.map (pend 40 2 g1)) k ∧ mm = newP.length - k ∧ Hp O w w' [tBlk bp 88 (BK.cells ⟨⟨vV, xV, oldV, []⟩, ⟨v, x, oldP, newP⟩, ⟨vR, xR, oldR, newR⟩⟩ p), tSl v 36 1 slm (oldP ++ newP ++ G), tShV ⟨vV, xV, oldV, []⟩, tShR ⟨vR, xR, oldR, newR⟩, tSl x 3 1 mkm (oldP ++ newP ++ G), tOld 2 g1 D, tAll ts],
   ⟨newP.length, 0, vP, xP, [], oldP, newP.map (pend 40 2 g1), rfl, ⟨by omega, rfl, by simp, rfl, by simp⟩, rfl, by rw [List.append_nil]; exact h⟩, ?_⟩
  clear h
  rintro t mm w5 ⟨k, v, x, G, D, ts, rfl, hg, rfl, h⟩
  by_cases hlt : k < newP.length
  ·refine ifT (by simp; omega) ?_
   have hgk := hg.g
   have hvl2 := h.len (s := v) 1 rfl
   have hxl2 := h.len (s := x) 4 rfl
   rw [List.length_append, List.length_append] at hvl2 hxl2
   have hx : (oldP ++ newP ++ G)[oldP.length + k]? = some newP[k] := by
    rw [List.getElem?_append_left (by rw [List.length_append]; omega), List.getElem?_append_right (by omega), Nat.add_sub_cancel_left]; simp [hlt]
   have ht : ts[k]? = some (pend 40 2 g1 newP[k]) := by
    have e := congrArg (fun L => L[0]?) hg.t
    simpa [hlt] using e
   have hnl := fP4 _ (List.getElem_mem hlt)
   have htk : newP.take (k + 1) = newP.take k ++ [newP[k]] := by rw [List.take_add_one]; simp [hlt]
   generalize newP[k] = y at hx ht hnl htk
   obtain ⟨l, m⟩ := y
   dsimp only at hnl
   refine nns ?_
   refine h.lda (n := 6) (m := 1) (k := .sl) (x := v) 0 rfl rfl ?_
   refine h.ixld (k := .sl) (y := ((l, m) : LM)) (x := l) 1 rfl (by omega) (by rw [Int.toNat_natCast]; exact hx) slm_len rfl ?_
   have h := h.pick (i := 6) (k := k) rfl ht rfl
   have h := h.lc_start (j := 7) (l := l) (e := 40) (n := 2) (f := g1) (y := m) (p := l.len) rfl
   have h : Hp O w w5 [tBlk bp 88 (BK.cells ⟨⟨vV, xV, oldV, []⟩, ⟨v, x, oldP, newP⟩, ⟨vR, xR, oldR, newR⟩⟩ p), tSl v 36 1 slm (oldP ++ newP ++ G), tShV ⟨vV, xV, oldV, []⟩, tShR ⟨vR, xR, oldR, newR⟩, tSl x 3 1 mkm (oldP ++ newP ++ G), tOld 2 g1 D, tAll (ts.set k tEmp), tLC 40 2 g1 l l m l.len l.len] := h
   refine ⟨fun l2 t mm w' => ∃ q : Nat, t = q ∧ q ≤ 70 ∧ mm + q = 70 ∧ Hp O w w' [tBlk bp 88 (BK.cells ⟨⟨vV, xV, oldV, []⟩, ⟨v, x, oldP, newP⟩, ⟨vR, xR, oldR, newR⟩⟩ p), tSl v 36 1 slm (oldP ++ newP ++ G), tShV ⟨vV, xV, oldV, []⟩, tShR ⟨vR, xR, oldR, newR⟩, tSl x 3 1 mkm (oldP ++ newP ++ G), tOld 2 g1 D, tAll (ts.set k tEmp), tLC 40 2 g1 l l2 m l.len (l.len + q)], ⟨70, 0, rfl, by omega, by omega, h⟩, ?_⟩
   clear h
   rintro l2 t mm w6 ⟨q, rfl, hq, hmm, h⟩
   have fin : NN (some ⟨bp, 6, none⟩) fun (b_6 : Addr) =>
  Ld .sl w6 (b_6.add 1) fun (p3 : Sl) =>
  Nw (.cells #[.slice l2.a l2.len l2.cap] 36) w6 fun (b6 : Addr) (wz : World) =>
  Run .sl Try.prog (Builtin.append_ #[83, 83] 83 #[.slice p3.a p3.len p3.cap, .slice (some b6) 1 1]) wz fun (s3 : Sl) (wz : World) =>
  NN (some ⟨bp, 6, none⟩) fun (b_19 : Addr) =>
  St (b_19.add 1) (.slice s3.a s3.len s3.cap) wz fun (wz : World) =>
  Dr wz fun (wz : World) =>
  NN (some ⟨bp, 6, none⟩) fun (b_20 : Addr) =>
  Ld .sl wz (b_20.add 4) fun (y2 : Sl) =>
  NN (some ⟨bp, 6, none⟩) fun (b_21 : Addr) =>
  Ld .sl wz (b_21.add 4) fun (y3 : Sl) =>
  Ix y3.a y3.len ((oldP.length + k : Nat) : Int) 1 fun (a6 : Addr) =>
  Ld (.i .i64) wz a6 fun (x7 : Int) =>
  Nw (.cells #[.int .i64 x7] 3) wz fun (b7 : Addr) (wz : World) =>
  Run .sl Try.prog (Builtin.append_ #[28, 28] 28 #[.slice y2.a y2.len y2.cap, .slice (some b7) 1 1]) wz fun (s4 : Sl) (wz : World) =>
  NN (some ⟨bp, 6, none⟩) fun (b_22 : Addr) =>
  St (b_22.add 4) (.slice s4.a s4.len s4.cap) wz fun (wz : World) =>
  ∃ m2 : Nat, m2 < newP.length - k ∧ ∃ (k' : Nat) (v x : Sl) (G D : List LM) (ts : List Thing), IntKind.i64.wrap (((oldP.length + k : Nat) : Int) + 1) = ((oldP.length + k' : Nat) : Int) ∧ GS 2 oldP newP G D ts (newP.map (pend 40 2 g1)) k' ∧ m2 = newP.length - k' ∧ Hp O w wz [tBlk bp 88 (BK.cells ⟨⟨vV, xV, oldV, []⟩, ⟨v, x, oldP, newP⟩, ⟨vR, xR, oldR, newR⟩⟩ p), tSl v 36 1 slm (oldP ++ newP ++ G), tShV ⟨vV, xV, oldV, []⟩, tShR ⟨vR, xR, oldR, newR⟩, tSl x 3 1 mkm (oldP ++ newP ++ G), tOld 2 g1 D, tAll ts] := by
    have hcl := (h.lc_len (e := 40) (n := 2) (f := g1) (l := l) (c := l2) (y := m) (p := l.len) (m := l.len + q) 7 rfl).1
    have h := h.lc_done (j := 7) (e := 40) (n := 2) (f := g1) (l := l) (c := l2) (y := m) (p := l.len) (m := l.len + q) rfl
    have h := old_more h (i := 5) (j := 7) (by decide) rfl rfl rfl hcl
    refine nns ?_
    refine h.lda (n := 6) (m := 1) (k := .sl) (x := v) 0 rfl rfl ?_
    refine h.nwapp 1 ((l2, m) : LM) (c := [_]) rfl slm_len und83 b1 b3 b2 rfl rfl (by simp [Value.oneCell']) (by rw [b4]; omega) (by omega) fun s wa h hs _ => ?_
    refine nns ?_
    refine h.stq (m := 1) 0 rfl (by simp) rfl fun wb h => ?_
    refine h.dr fun wc h => ?_
    refine nns ?_
    refine h.lda (n := 6) (m := 4) (k := .sl) (x := x) 0 rfl rfl ?_
    refine nns ?_
    refine h.lda (n := 6) (m := 4) (k := .sl) (x := x) 0 rfl rfl ?_
    refine h.ixld (k := .i .i64) (y := ((l, m) : LM)) (x := m) 4 rfl (by omega) (by rw [Int.toNat_natCast]; exact hx) mkm_len rfl ?_
    refine h.nwapp 4 ((l2, m) : LM) (c := [_]) rfl mkm_len und28 i1 i3 i2 rfl rfl (by simp [Value.oneCell']) (by rw [i4]; omega) (by omega) fun s2 wd h hs2 _ => ?_
    refine nns ?_
    refine h.stq (m := 4) 0 rfl (by simp) rfl fun we h => ?_
    rw [List.append_assoc (oldP ++ newP) G] at h
    have h : Hp O w we [tBlk bp 88 (BK.cells ⟨⟨vV, xV, oldV, []⟩, ⟨s, s2, oldP, newP⟩, ⟨vR, xR, oldR, newR⟩⟩ p), tSl s 36 1 slm (oldP ++ newP ++ (G ++ [(l2, m)])), tShV ⟨vV, xV, oldV, []⟩, tShR ⟨vR, xR, oldR, newR⟩, tSl s2 3 1 mkm (oldP ++ newP ++ (G ++ [(l2, m)])), tOld 2 g1 (D ++ [(l, m), (l2, m)]), tAll (ts.set k tEmp)] := h.trim 7
    refine ⟨newP.length - (k + 1), by omega, k + 1, s, s2, G ++ [(l2, m)], D ++ [(l, m), (l2, m)], ts.set k tEmp, by rw [wr64 (by omega) (by omega)]; omega, ⟨by omega, by simp [hgk], fun y hy => ?_, by
     rw [List.drop_set_of_lt (by omega), ← List.drop_drop, hg.t, List.drop_drop], fun y hy => ?_⟩, rfl, h⟩
    ·rw [htk] at hy
     simp only [List.mem_append, List.mem_cons, List.not_mem_nil, or_false] at hy ⊢
     have := hg.d y
     simp only [List.mem_append] at this
     rcases hy with (hy | hy | hy) | hy | hy
     ·exact .inl (this (.inl (.inl hy)))
     ·exact .inl (this (.inl (.inr hy)))
     ·exact .inr (.inl hy)
     ·exact .inl (this (.inr hy))
     ·exact .inr (.inr hy)
    ·rcases List.mem_append.1 hy with hy | hy
     ·exact hg.l y hy
     ·simp only [List.mem_singleton] at hy
      subst hy
      show l2.len ≤ 20000
      omega
   refine nns ?_
   refine h.lda (n := 6) (m := 7) (k := .i .i64) (x := (oldP.length : Nat)) 0 rfl rfl ?_
   refine far_spec fun r hr => ?_
   by_cases hqr : q < r
   ·refine ifT (by simp; omega) ?_
    refine nns ?_
    refine h.lda (n := 6) (m := 4) (k := .sl) (x := x) 0 rfl rfl ?_
    refine h.ixld (k := .i .i64) (y := ((l, m) : LM)) (x := m) 4 rfl (by omega) (by rw [Int.toNat_natCast]; exact hx) mkm_len rfl ?_
    refine h.lc_app 7 m (e' := 40) (c' := 1) (l := l) (c := l2) (p := l.len) (m := l.len + q) (cs := g1 m) rfl g1_len und36 e1 e3 e2 rfl rfl (by simp [Value.oneCell']) (by rw [e4]; omega) (by omega) fun l3 wb h => ?_
    exact ⟨69 - q, by omega, q + 1, by rw [wr64 (by omega) (by omega)]; omega, by omega, by omega, h⟩
   ·exact ifF (by simp; omega) fin
  ·refine ifF (by simp; omega) ?_
   have hgk := hg.g
   obtain rfl : k = newP.length := by have := hg.hk; omega
   have hvl2 := h.len (s := v) 1 rfl
   refine nns ?_
   refine h.lda (n := 6) (m := 1) (k := .sl) (x := v) 0 rfl rfl ?_
   refine nns ?_
   refine h.stq (m := 7) 0 rfl (by simp) rfl fun w7 h => ?_
   have h := h.lose (i := 6) rfl (tAll_own _)
   have h := old_less h (i := 5) (n := 2) (g := g1) (D := D) (D' := oldP ++ newP ++ G) rfl (fun y hy => hg.d y (by rw [List.take_of_length_le (Nat.le_refl _)]; exact hy))
   have hlo : (oldP ++ newP ++ G).length = v.len := by have := h.len (s := v) 1 rfl; exact this
   have hfit : Sh.fits ⟨v, x, oldP ++ newP ++ G, []⟩ (N + 2 * M) 0 := ⟨by simp only [List.length_append]; omega, by simp, fun y hy => by
    rcases List.mem_append.1 hy with hy | hy
    ·rcases List.mem_append.1 hy with hy | hy
     ·exact fP3 y hy
     ·have := fP4 y hy; omega
    ·exact hg.l y hy, fun y hy => by cases hy⟩
   have h : Hp O w w7 [tBlk bp 88 (BK.cells ⟨⟨vV, xV, oldV, []⟩, ⟨v, x, oldP ++ newP ++ G, []⟩, ⟨vR, xR, oldR, newR⟩⟩ p), tSl v 36 1 slm (oldP ++ newP ++ G), tShV ⟨vV, xV, oldV, []⟩, tShR ⟨vR, xR, oldR, newR⟩, tSl x 3 1 mkm (oldP ++ newP ++ G), tOld 2 g1 (oldP ++ newP ++ G), tEmp] := by
    have e : (BK.cells ⟨⟨vV, xV, oldV, []⟩, ⟨v, x, oldP ++ newP ++ G, []⟩, ⟨vR, xR, oldR, newR⟩⟩ p) = ((BK.cells ⟨⟨vV, xV, oldV, []⟩, ⟨v, x, oldP, newP⟩, ⟨vR, xR, oldR, newR⟩⟩ p).set 13 (.int .i64 (v.len : Int))) := by
     show [_, _, _, _, _, _, _, _, _, _, _, _, _, _, _] = [_, _, _, _, _, _, _, _, _, _, _, _, _, _, _]
     rw [hlo]
    rw [e]; exact h
   have h : Hp O w w7 [tSl v 36 1 slm (oldP ++ newP ++ G ++ []), tSl x 3 1 mkm (oldP ++ newP ++ G ++ []), tOld 2 g1 (oldP ++ newP ++ G), tAll (([] : List LM).map (pend 40 2 g1)), tBlk bp 88 (BK.cells ⟨⟨vV, xV, oldV, []⟩, ⟨v, x, oldP ++ newP ++ G, []⟩, ⟨vR, xR, oldR, newR⟩⟩ p), tShV ⟨vV, xV, oldV, []⟩, tShR ⟨vR, xR, oldR, newR⟩] := by
    rw [List.append_nil]; exact h.selL [1, 4, 5, 6, 0, 2, 3] (by decide) rfl
   have h := shelf_close ⟨v, x, oldP ++ newP ++ G, []⟩ h
   have h : Hp O w w7 [tBlk bp 88 (BK.cells ⟨⟨vV, xV, oldV, []⟩, ⟨v, x, oldP ++ newP ++ G, []⟩, ⟨vR, xR, oldR, newR⟩⟩ p), tShR ⟨vR, xR, oldR, newR⟩, tShV ⟨vV, xV, oldV, []⟩, tShP ⟨v, x, oldP ++ newP ++ G, []⟩] := h.selL [1, 3, 2, 0] (by decide) rfl
   clear hlo
   generalize oldP ++ newP ++ G = oldP at hfit h
   generalize v = vP at hfit h
   generalize x = xP at hfit h
   have hfP := hfit
   clear hfit
   -- phase R
   have h := shelf_open h (i := 1) rfl
   have h : Hp O w w7 [tBlk bp 88 (BK.cells ⟨⟨vV, xV, oldV, []⟩, ⟨vP, xP, oldP, []⟩, ⟨vR, xR, oldR, newR⟩⟩ p), tSl vR 56 1 slm (oldR ++ newR), tShV ⟨vV, xV, oldV, []⟩, tShP ⟨vP, xP, oldP, []⟩, tSl xR 3 1 mkm (oldR ++ newR), tOld 3 g2 oldR, tAll (newR.map (pend 65 3 g2))] := h
   have hvl := h.len (s := vR) 1 rfl
   have hxl := h.len (s := xR) 4 rfl
   rw [List.length_append] at hvl hxl
   refine nns ?_
   refine h.lda (n := 6) (m := 2) (k := .sl) (x := vR) 0 rfl rfl ?_
   refine nns ?_
   refine h.lda (n := 6) (m := 8) (k := .i .i64) (x := (oldR.length : Nat)) 0 rfl rfl ?_
   refine ⟨fun t mm w' => ∃ (k : Nat) (v x : Sl) (G D : List LM) (ts : List Thing), t = ((oldR.length + k : Nat) : Int) ∧ GS 3 oldR newR G D ts (newR.map (pend 65 3 g2)) k ∧ mm = newR.length - k ∧ Hp O w w' [tBlk bp 88 (BK.cells ⟨⟨vV, xV, oldV, []⟩, ⟨vP, xP, oldP, []⟩, ⟨v, x, oldR, newR⟩⟩ p), tSl v 56 1 slm (oldR ++ newR ++ G), tShV ⟨vV, xV, oldV, []⟩, tShP ⟨vP, xP, oldP, []⟩, tSl x 3 1 mkm (oldR ++ newR ++ G), tOld 3 g2 D, tAll ts],
    ⟨newR.length, 0, vR, xR, [], oldR, newR.map (pend 65 3 g2), rfl, ⟨by omega, rfl, by simp, rfl, by simp⟩, rfl, by rw [List.append_nil]; exact h⟩, ?_⟩
   clear h
   rintro t mm w8 ⟨k, v, x, G, D, ts, rfl, hg, rfl, h⟩
   by_cases hlt : k < newR.length
   ·refine ifT (by simp; omega) ?_
    have hgk := hg.g
    have hvl2 := h.len (s := v) 1 rfl
    have hxl2 := h.len (s := x) 4 rfl
    rw [List.length_append, List.length_append] at hvl2 hxl2
    have hx : (oldR ++ newR ++ G)[oldR.length + k]? = some newR[k] := by
     rw [List.getElem?_append_left (by rw [List.length_append]; omega), List.getElem?_append_right (by omega), Nat.add_sub_cancel_left]; simp [hlt]
    have ht : ts[k]? = some (pend 65 3 g2 newR[k]) := by
     have e := congrArg (fun L => L[0]?) hg.t
     simpa [hlt] using e
    have hnl := fR4 _ (List.getElem_mem hlt)
    have htk : newR.take (k + 1) = newR.take k ++ [newR[k]] := by rw [List.take_add_one]; simp [hlt]
    generalize newR[k] = y at hx ht hnl htk
    obtain ⟨l, m⟩ := y
    dsimp only at hnl
    refine nns ?_
    refine h.lda (n := 6) (m := 2) (k := .sl) (x := v) 0 rfl rfl ?_
    refine h.ixld (k := .sl) (y := ((l, m) : LM)) (x := l) 1 rfl (by omega) (by rw [Int.toNat_natCast]; exact hx) slm_len rfl ?_
    have h := h.pick (i := 6) (k := k) rfl ht rfl
    have h := h.lc_start (j := 7) (l := l) (e := 65) (n := 3) (f := g2) (y := m) (p := l.len) rfl
    have h : Hp O w w8 [tBlk bp 88 (BK.cells ⟨⟨vV, xV, oldV, []⟩, ⟨vP, xP, oldP, []⟩, ⟨v, x, oldR, newR⟩⟩ p), tSl v 56 1 slm (oldR ++ newR ++ G), tShV ⟨vV, xV, oldV, []⟩, tShP ⟨vP, xP, oldP, []⟩, tSl x 3 1 mkm (oldR ++ newR ++ G), tOld 3 g2 D, tAll (ts.set k tEmp), tLC 65 3 g2 l l m l.len l.len] := h
    refine ⟨fun l2 t mm w' => ∃ q : Nat, t = q ∧ q ≤ 70 ∧ mm + q = 70 ∧ Hp O w w' [tBlk bp 88 (BK.cells ⟨⟨vV, xV, oldV, []⟩, ⟨vP, xP, oldP, []⟩, ⟨v, x, oldR, newR⟩⟩ p), tSl v 56 1 slm (oldR ++ newR ++ G), tShV ⟨vV, xV, oldV, []⟩, tShP ⟨vP, xP, oldP, []⟩, tSl x 3 1 mkm (oldR ++ newR ++ G), tOld 3 g2 D, tAll (ts.set k tEmp), tLC 65 3 g2 l l2 m l.len (l.len + q)], ⟨70, 0, rfl, by omega, by omega, h⟩, ?_⟩
    clear h
    rintro l2 t mm w9 ⟨q, rfl, hq, hmm, h⟩
    have fin : NN (some ⟨bp, 6, none⟩) fun (b_6 : Addr) =>
   Ld .sl w9 (b_6.add 2) fun (r5 : Sl) =>
   Nw (.cells #[.slice l2.a l2.len l2.cap] 56) w9 fun (b9 : Addr) (wz : World) =>
   Run .sl Try.prog (Builtin.append_ #[84, 84] 84 #[.slice r5.a r5.len r5.cap, .slice (some b9) 1 1]) wz fun (s5 : Sl) (wz : World) =>
   NN (some ⟨bp, 6, none⟩) fun (b_30 : Addr) =>
   St (b_30.add 2) (.slice s5.a s5.len s5.cap) wz fun (wz : World) =>
   Dr wz fun (wz : World) =>
   NN (some ⟨bp, 6, none⟩) fun (b_31 : Addr) =>
   Ld .sl wz (b_31.add 5) fun (z2 : Sl) =>
   NN (some ⟨bp, 6, none⟩) fun (b_32 : Addr) =>
   Ld .sl wz (b_32.add 5) fun (z3 : Sl) =>
   Ix z3.a z3.len ((oldR.length + k : Nat) : Int) 1 fun (a9 : Addr) =>
   Ld (.i .i64) wz a9 fun (x9 : Int) =>
   Nw (.cells #[.int .i64 x9] 3) wz fun (b10 : Addr) (wz : World) =>
   Run .sl Try.prog (Builtin.append_ #[28, 28] 28 #[.slice z2.a z2.len z2.cap, .slice (some b10) 1 1]) wz fun (s6 : Sl) (wz : World) =>
   NN (some ⟨bp, 6, none⟩) fun (b_33 : Addr) =>
   St (b_33.add 5) (.slice s6.a s6.len s6.cap) wz fun (wz : World) =>
   ∃ m2 : Nat, m2 < newR.length - k ∧ ∃ (k' : Nat) (v x : Sl) (G D : List LM) (ts : List Thing), IntKind.i64.wrap (((oldR.length + k : Nat) : Int) + 1) = ((oldR.length + k' : Nat) : Int) ∧ GS 3 oldR newR G D ts (newR.map (pend 65 3 g2)) k' ∧ m2 = newR.length - k' ∧ Hp O w wz [tBlk bp 88 (BK.cells ⟨⟨vV, xV, oldV, []⟩, ⟨vP, xP, oldP, []⟩, ⟨v, x, oldR, newR⟩⟩ p), tSl v 56 1 slm (oldR ++ newR ++ G), tShV ⟨vV, xV, oldV, []⟩, tShP ⟨vP, xP, oldP, []⟩, tSl x 3 1 mkm (oldR ++ newR ++ G), tOld 3 g2 D, tAll ts] := by
     have hcl := (h.lc_len (e := 65) (n := 3) (f := g2) (l := l) (c := l2) (y := m) (p := l.len) (m := l.len + q) 7 rfl).1
     have h := h.lc_done (j := 7) (e := 65) (n := 3) (f := g2) (l := l) (c := l2) (y := m) (p := l.len) (m := l.len + q) rfl
     have h := old_more h (i := 5) (j := 7) (by decide) rfl rfl rfl hcl
     refine nns ?_
     refine h.lda (n := 6) (m := 2) (k := .sl) (x := v) 0 rfl rfl ?_
     refine h.nwapp 1 ((l2, m) : LM) (c := [_]) rfl slm_len und84 d1 d3 d2 rfl rfl (by simp [Value.oneCell']) (by rw [d4]; omega) (by omega) fun s wa h hs _ => ?_
     refine nns ?_
     refine h.stq (m := 2) 0 rfl (by simp) rfl fun wb h => ?_
     refine h.dr fun wc h => ?_
     refine nns ?_
     refine h.lda (n := 6) (m := 5) (k := .sl) (x := x) 0 rfl rfl ?_
     refine nns ?_
     refine h.lda (n := 6) (m := 5) (k := .sl) (x := x) 0 rfl rfl ?_
     refine h.ixld (k := .i .i64) (y := ((l, m) : LM)) (x := m) 4 rfl (by omega) (by rw [Int.toNat_natCast]; exact hx) mkm_len rfl ?_
     refine h.nwapp 4 ((l2, m) : LM) (c := [_]) rfl mkm_len und28 i1 i3 i2 rfl rfl (by simp [Value.oneCell']) (by rw [i4]; omega) (by omega) fun s2 wd h hs2 _ => ?_
     refine nns ?_
     refine h.stq (m := 5) 0 rfl (by simp) rfl fun we h => ?_
     rw [List.append_assoc (oldR ++ newR) G] at h
     have h : Hp O w we [tBlk bp 88 (BK.cells ⟨⟨vV, xV, oldV, []⟩, ⟨vP, xP, oldP, []⟩, ⟨s, s2, oldR, newR⟩⟩ p), tSl s 56 1 slm (oldR ++ newR ++ (G ++ [(l2, m)])), tShV ⟨vV, xV, oldV, []⟩, tShP ⟨vP, xP, oldP, []⟩, tSl s2 3 1 mkm (oldR ++ newR ++ (G ++ [(l2, m)])), tOld 3 g2 (D ++ [(l, m), (l2, m)]), tAll (ts.set k tEmp)] := h.trim 7
     refine ⟨newR.length - (k + 1), by omega, k + 1, s, s2, G ++ [(l2, m)], D ++ [(l, m), (l2, m)], ts.set k tEmp, by rw [wr64 (by omega) (by omega)]; omega, ⟨by omega, by simp [hgk], fun y hy => ?_, by
      rw [List.drop_set_of_lt (by omega), ← List.drop_drop, hg.t, List.drop_drop], fun y hy => ?_⟩, rfl, h⟩
     ·rw [htk] at hy
      simp only [List.mem_append, List.mem_cons, List.not_mem_nil, or_false] at hy ⊢
      have := hg.d y
      simp only [List.mem_append] at this
      rcases hy with (hy | hy | hy) | hy | hy
      ·exact .inl (this (.inl (.inl hy)))
      ·exact .inl (this (.inl (.inr hy)))
      ·exact .inr (.inl hy)
      ·exact .inl (this (.inr hy))
      ·exact .inr (.inr hy)
     ·rcases List.mem_append.1 hy with hy | hy
      ·exact hg.l y hy
      ·simp only [List.mem_singleton] at hy
       subst hy
       show l2.len ≤ 20000
       omega
    by_cases hqr : q < 70
    ·refine ifT (by simp; omega) ?_
     refine nns ?_
     refine h.lda (n := 6) (m := 5) (k := .sl) (x := x) 0 rfl rfl ?_
     refine h.ixld (k := .i .i64) (y := ((l, m) : LM)) (x := m) 4 rfl (by omega) (by rw [Int.toNat_natCast]; exact hx) mkm_len rfl ?_
     refine h.lc_app 7 m (e' := 65) (c' := 1) (l := l) (c := l2) (p := l.len) (m := l.len + q) (cs := g2 m) rfl g2_len und56 u1 u3 u2 rfl rfl (by simp [Value.oneCell']) (by rw [u4]; omega) (by omega) fun l3 wb h => ?_
     exact ⟨69 - q, by omega, q + 1, by rw [wr64 (by omega) (by omega)]; omega, by omega, by omega, h⟩
    ·exact ifF (by simp; omega) fin
   ·refine ifF (by simp; omega) ?_
    have hgk := hg.g
    obtain rfl : k = newR.length := by have := hg.hk; omega
    have hvl2 := h.len (s := v) 1 rfl
    refine nns ?_
    refine h.lda (n := 6) (m := 2) (k := .sl) (x := v) 0 rfl rfl ?_
    refine nns ?_
    refine h.stq (m := 8) 0 rfl (by simp) rfl fun w10 h => ?_
    have h := h.lose (i := 6) rfl (tAll_own _)
    have h := old_less h (i := 5) (n := 3) (g := g2) (D := D) (D' := oldR ++ newR ++ G) rfl (fun y hy => hg.d y (by rw [List.take_of_length_le (Nat.le_refl _)]; exact hy))
    have hlo : (oldR ++ newR ++ G).length = v.len := by have := h.len (s := v) 1 rfl; exact this
    have hfit : Sh.fits ⟨v, x, oldR ++ newR ++ G, []⟩ (N + 2 * M) 0 := ⟨by simp only [List.length_append]; omega, by simp, fun y hy => by
     rcases List.mem_append.1 hy with hy | hy
     ·rcases List.mem_append.1 hy with hy | hy
      ·exact fR3 y hy
      ·have := fR4 y hy; omega
     ·exact hg.l y hy, fun y hy => by cases hy⟩
    have h : Hp O w w10 [tBlk bp 88 (BK.cells ⟨⟨vV, xV, oldV, []⟩, ⟨vP, xP, oldP, []⟩, ⟨v, x, oldR ++ newR ++ G, []⟩⟩ p), tSl v 56 1 slm (oldR ++ newR ++ G), tShV ⟨vV, xV, oldV, []⟩, tShP ⟨vP, xP, oldP, []⟩, tSl x 3 1 mkm (oldR ++ newR ++ G), tOld 3 g2 (oldR ++ newR ++ G), tEmp] := by
     have e : (BK.cells ⟨⟨vV, xV, oldV, []⟩, ⟨vP, xP, oldP, []⟩, ⟨v, x, oldR ++ newR ++ G, []⟩⟩ p) = ((BK.cells ⟨⟨vV, xV, oldV, []⟩, ⟨vP, xP, oldP, []⟩, ⟨v, x, oldR, newR⟩⟩ p).set 14 (.int .i64 (v.len : Int))) := by
      show [_, _, _, _, _, _, _, _, _, _, _, _, _, _, _] = [_, _, _, _, _, _, _, _, _, _, _, _, _, _, _]
      rw [hlo]
     rw [e]; exact h
    have h : Hp O w w10 [tSl v 56 1 slm (oldR ++ newR ++ G ++ []), tSl x 3 1 mkm (oldR ++ newR ++ G ++ []), tOld 3 g2 (oldR ++ newR ++ G), tAll (([] : List LM).map (pend 65 3 g2)), tBlk bp 88 (BK.cells ⟨⟨vV, xV, oldV, []⟩, ⟨vP, xP, oldP, []⟩, ⟨v, x, oldR ++ newR ++ G, []⟩⟩ p), tShV ⟨vV, xV, oldV, []⟩, tShP ⟨vP, xP, oldP, []⟩] := by
     rw [List.append_nil]; exact h.selL [1, 4, 5, 6, 0, 2, 3] (by decide) rfl
    have h := shelf_close ⟨v, x, oldR ++ newR ++ G, []⟩ h
    have h : Hp O w w10 [tBlk bp 88 (BK.cells ⟨⟨vV, xV, oldV, []⟩, ⟨vP, xP, oldP, []⟩, ⟨v, x, oldR ++ newR ++ G, []⟩⟩ p), tShV ⟨vV, xV, oldV, []⟩, tShP ⟨vP, xP, oldP, []⟩, tShR ⟨v, x, oldR ++ newR ++ G, []⟩] := h.selL [1, 2, 3, 0] (by decide) rfl
    have h := book_close (N := N + 2 * M) (M := 0) ⟨⟨vV, xV, oldV, []⟩, ⟨vP, xP, oldP, []⟩, ⟨v, x, oldR ++ newR ++ G, []⟩⟩ ⟨hfV, hfP, hfit⟩ h
    have := back (rest := []) rfl rfl h
    rw [List.append_nil] at this
    exact hK w10 this
end
end Go.Proofs.Ytcccjgmekakabaa.FW
end

section
namespace Go.Proofs.Ytcccjgmekakabaa.FW
open F
open Go Go.Den Go.Proofs
open FI (PoolM tPool)
open FT (TabM tTab Ent entV ent ent_len atI keyEnt iv iv_len)
open FP (R64 tB putU zig rowU encZ putU_len encZ_len)
theorem shelf_none {et em e : TypeId} {n : Nat} {g : Int → List Value} {w : World} : (tShelf et em e n g ⟨⟨none, 0, 0⟩, ⟨none, 0, 0⟩, [], []⟩).holds w [] :=
 ⟨[], [], SlF.nil, ⟨[], [], SlF.nil, ⟨[], [], ⟨by simp, by simp⟩, rfl, by simp, by simp⟩, by simp, by simp⟩, by simp, by simp⟩
def pcOf (ab bb : Nat) (ks gv od ws : Sl) : PC := ⟨.pointer (some ⟨ab, 0, none⟩), .pointer (some ⟨bb, 0, none⟩), .slice ks.a ks.len ks.cap, .slice gv.a gv.len gv.cap, .slice od.a od.len od.cap, .slice ws.a ws.len ws.cap⟩
section
variable {S : List Nat} {w0 w : World} {its : List Thing}
theorem book_new (h : Hp S w0 w its) {i bp : Nat} {p : PC} (hi : its[i]? = some (tBlk bp 88 [p.a, p.b, p.k, p.g, p.o, p.s, .slice none 0 0, .slice none 0 0, .slice none 0 0, .slice none 0 0, .slice none 0 0, .slice none 0 0, .int .i64 0, .int .i64 0, .int .i64 0])) : Hp S w0 w (its.set i (tBook bp p 0 0)) :=
 h.weak hi rfl (fun w O hO => by
  have hf : Sh.fits ⟨⟨none, 0, 0⟩, ⟨none, 0, 0⟩, [], []⟩ 0 0 := ⟨by simp, by simp, by simp, by simp⟩
  refine ⟨⟨⟨⟨none, 0, 0⟩, ⟨none, 0, 0⟩, [], []⟩, ⟨⟨none, 0, 0⟩, ⟨none, 0, 0⟩, [], []⟩, ⟨⟨none, 0, 0⟩, ⟨none, 0, 0⟩, [], []⟩⟩, ⟨hf, hf, hf⟩, O, [], hO, ⟨[], [], shelf_none, ⟨[], [], shelf_none, shelf_none, by simp, by simp⟩, by simp, by simp⟩, by simp, by simp⟩) rfl
theorem book_ld (h : Hp S w0 w its) (i : Nat) {bp c N M : Nat} {p : PC} {k : Kd} {x : k.T} {K : k.T → Prop} (hi : (its[i]?).map Thing.holds = some (tBook bp p N M).holds) (hc : [p.a, p.b, p.k, p.g, p.o, p.s][c]? = some (k.inj x)) (hK : K x) : Ld k w ((⟨bp, 0, none⟩ : Addr).add c) K := by
 obtain ⟨O, q, hq, O1, O2, ⟨hb, _⟩, _⟩ := h.see' hi
 have hlt := (List.getElem?_eq_some_iff.1 hc).1
 have e : (q.cells p)[c]? = some (k.inj x) := by
  show ([p.a, p.b, p.k, p.g, p.o, p.s] ++ _)[c]? = _
  rw [List.getElem?_append_left hlt]; exact hc
 rw [Addr.add_none, Nat.zero_add]
 exact Go.Den.ld hb e hK
theorem book_ld0 (h : Hp S w0 w its) (i : Nat) {bp N M : Nat} {p : PC} {k : Kd} {x : k.T} {K : k.T → Prop} (hi : (its[i]?).map Thing.holds = some (tBook bp p N M).holds) (hc : p.a = k.inj x) (hK : K x) : Ld k w ⟨bp, 0, none⟩ K := by
 have := book_ld h i (c := 0) (k := k) (x := x) hi (by rw [hc]; rfl) hK
 rwa [Addr.add_none, Nat.zero_add] at this
theorem f3r (h : Hp S w0 w its) {i i' i'' j : Nat} (hne : [i, i', i''].Nodup) (hj : j ∉ [i, i', i'']) {t u v x : Thing} (hi : its[i]? = some t) (hi' : its[i']? = some u) (hi'' : its[i'']? = some v) (hx : its[j]? = some x) (ho : t.own = true) (ho' : u.own = true) (ho'' : v.own = true) :
  ∃ O, Hp O w w [t, u, v, x.ro] ∧ ∀ {w' : World} {t' u' v' : Thing} {rest : List Thing}, t'.own = true → u'.own = true → v'.own = true → Hp.owns rest = true → Hp O w w' (t' :: u' :: v' :: rest) → Hp S w0 w' (((its.set i t').set i' u').set i'' v' ++ rest) := by
 obtain ⟨O, h1, h2⟩ := h.frame [i, i', i''] [j] hne (fun k hk hk' => by simp only [List.mem_singleton] at hk'; subst hk'; exact hj hk) (ts := [t, u, v]) (us := [x]) rfl rfl (Hp.getL3 hi hi' hi'') (Hp.getL1 hx) (by simp [ho, ho', ho''])
 exact ⟨O, by simpa using h1, fun {w' t' u' v' rest} q1 q2 q3 hr hp => h2 (ts' := [t', u', v']) rfl (by simp [q1, q2, q3]) (Hp.of_owns hr) (by simpa using hp)⟩
set_option maxHeartbeats 2000000 in
theorem made_spec (h : Hp S w0 w its) (j : Nat) {ks : Sl} {ys : List KS} {u : Thing} (hj : its[j]? = some u) (hu : u.holds = (tRK ks ys).holds) (hl : ys.length ≤ 10000000) (hsz : ∀ x ∈ ys, x.2.2.length ≤ 10000000 ∧ x.1.size ≤ 1000000000000 ∧ ∀ y ∈ x.2.2, y.size ≤ 1000000000000) {K : Option Addr → Bool → World → Prop}
  (hok : mayOk (kinds ys) → ∀ bp ab bb w', Hp S w0 w' (its ++ [tBook bp (pcOf ab bb ks ⟨none, 0, 0⟩ ⟨none, 0, 0⟩ ⟨none, 0, 0⟩) 0 0, tW ab (WA.new (kinds ys)), tRW bb (WA.new (kinds ys))]) → K (some ⟨bp, 0, none⟩) true w') (hno : ¬ mayOk (kinds ys) → ∀ w', Hp S w0 w' its → K none true w') : c8 ks w K := by
 refine c8_of ?_
 unfold f8
 have hjl := (List.getElem?_eq_some_iff.1 hj).1
 have hkl : (kinds ys).length = ys.length := by simp [kinds]
 have rd : ∀ {w' : World} {l : List Thing}, Hp S w0 w' (its ++ l) → RdK w' ks (kinds ys) := fun {w' l} h => by
  obtain ⟨O, hO⟩ := h.see (i := j) (by rw [List.getElem?_append_left hjl]; exact hj)
  rw [hu] at hO
  exact rk_rd hO
 have rd0 : RdK w ks (kinds ys) := rd (l := []) (by rw [List.append_nil]; exact h)
 have hsz2 : ∀ x ∈ kinds ys, x.2.length ≤ 10000000 ∧ x.1.size ≤ 1000000000000 ∧ ∀ y ∈ x.2, y.size ≤ 1000000000000 := fun x hx => by
  obtain ⟨y, hy, rfl⟩ := List.mem_map.1 hx
  exact hsz y hy
 refine lentKinds_spec h rd0 (by omega) (fun x hx => (hsz2 x hx).1) fun l xs w1 hxk hxl hxx hcap h => ?_
 have g0 : ∀ {t : Thing} {more : List Thing}, (its ++ t :: more)[its.length]? = some t := fun {t more} => by rw [List.getElem?_append_right (Nat.le_refl _)]; simp
 have hxl2 : xs.length = ys.length := by have := congrArg List.length hxk; simpa [kinds] using this
 obtain ⟨OL, hOL⟩ := h.see (i := its.length) g0
 have rdl : RdK w1 l (kinds ys) := by rw [← hxk]; exact rk_rd (lent_rk hOL hxl hxx)
 have hv : ∀ x ∈ xs, x.2.2.length ≤ 10000000 := fun x hx => (hsz2 (x.1, x.2.2) (by rw [← hxk]; exact List.mem_map.2 ⟨x, hx, rfl⟩)).1
 have tail : ∀ {w2 : World} {more : List Thing} {K : Bool → World → Prop}, Hp S w0 w2 (its ++ tLent l xs :: more) → (∀ w', Hp S w0 w' (its ++ tEmp :: more) → K true w') → c32 l ks w2 K := fun {w2 more K} h hK => by
  refine stillKinds_spec h its.length j (by omega) (s := l) (was := ks) (xs := xs) (ys := ys) (u := u) g0 hxl hxx hcap (by rw [List.getElem?_append_left hjl]; exact hj) hu hxk (by omega) hv fun w' h => hK w' ?_
  rw [List.set_append_right _ _ (Nat.le_refl _), Nat.sub_self, List.set_cons_zero] at h
  exact h
 refine New_R h rdl (by omega) (fun x hx => (hsz2 x hx).2) (fun hm ab w2 h => ?_) (fun hm w2 h => ?_)
 ·have h : Hp S w0 w2 (its ++ tLent l xs :: [tW ab (WA.new (kinds ys))]) := by simpa using h
  refine tail h fun w3 h => ?_
  refine RNew_W h (rd h) (by omega) hsz2 (fun _ bb w4 h => ?_) (fun hm2 => absurd hm hm2)
  refine ifF (by simp) (ifF (by simp) ?_)
  refine h.nw (c := [_, _, _, _, _, _, _, _, _, _, _, _, _, _, _]) fun bp w5 h => ?_
  have h : Hp S w0 w5 (its ++ [tEmp] ++ [tW ab (WA.new (kinds ys)), tRW bb (WA.new (kinds ys)), tBlk bp 88 [(pcOf ab bb ks ⟨none, 0, 0⟩ ⟨none, 0, 0⟩ ⟨none, 0, 0⟩).a, (pcOf ab bb ks ⟨none, 0, 0⟩ ⟨none, 0, 0⟩ ⟨none, 0, 0⟩).b, (pcOf ab bb ks ⟨none, 0, 0⟩ ⟨none, 0, 0⟩ ⟨none, 0, 0⟩).k, (pcOf ab bb ks ⟨none, 0, 0⟩ ⟨none, 0, 0⟩ ⟨none, 0, 0⟩).g, (pcOf ab bb ks ⟨none, 0, 0⟩ ⟨none, 0, 0⟩ ⟨none, 0, 0⟩).o, (pcOf ab bb ks ⟨none, 0, 0⟩ ⟨none, 0, 0⟩ ⟨none, 0, 0⟩).s, .slice none 0 0, .slice none 0 0, .slice none 0 0, .slice none 0 0, .slice none 0 0, .slice none 0 0, .int .i64 0, .int .i64 0, .int .i64 0]]) := by
   simp only [List.append_assoc, List.cons_append, List.nil_append] at h ⊢
   exact h
  have h := h.cutMid
  have e : (its.length + 2) - its.length = 2 := by omega
  have h := book_new h (i := its.length + 2) (p := pcOf ab bb ks ⟨none, 0, 0⟩ ⟨none, 0, 0⟩ ⟨none, 0, 0⟩) (by rw [List.getElem?_append_right (by omega), e]; rfl)
  rw [List.set_append_right _ _ (by omega), e] at h
  have h : Hp S w0 w5 (its ++ [tW ab (WA.new (kinds ys)), tRW bb (WA.new (kinds ys))] ++ [tBook bp (pcOf ab bb ks ⟨none, 0, 0⟩ ⟨none, 0, 0⟩ ⟨none, 0, 0⟩) 0 0]) := by
   rw [List.append_assoc]; exact h
  exact hok hm bp ab bb w5 h.up
 ·refine tail h fun w3 h => ?_
  refine RNew_W h (rd h) (by omega) hsz2 (fun hm2 => absurd hm2 hm) (fun _ w4 h => ?_)
  exact ifF (by simp) (ifT (by simp) (hno hm w4 h.front))
end
end Go.Proofs.Ytcccjgmekakabaa.FW
end

section
namespace Go.Proofs.Ytcccjgmekakabaa.FW
open F
open Go Go.Den Go.Proofs
open FI (PoolM tPool)
open FT (TabM tTab Ent entV ent ent_len atI keyEnt iv iv_len)
open FP (R64 tB putU zig rowU encZ putU_len encZ_len)
def overL : ByteArray := ⟨#[111, 118, 101, 114]⟩
theorem snap_bytes' (a : WA) : Bytes a.snap := by
 intro x hx
 unfold WA.snap at hx
 rcases List.mem_append.1 hx with hx | hx
 ·rcases List.mem_append.1 hx with hx | hx
  ·exact FP.rowU_bytes _ x hx
  ·exact FP.rowU_bytes _ x hx
 ·obtain ⟨e, _, hx⟩ := List.mem_flatMap.1 hx
  unfold snapRow at hx
  rcases List.mem_append.1 hx with hx | hx
  ·exact FP.putU_bytes (setI_nn _) x hx
  ·exact FP.encZ_bytes _ x hx
theorem snap_len' {a : WA} (hf : a.fits) : a.snap.length ≤ 1000000 := by
 obtain ⟨g1, g2, g3, g4⟩ := stGens_rng hf.1.pok
 have r1 := rowU_len a.pool.stGens
 have r2 := rowU_len a.pool.free
 have hal := all_few hf.1
 have h := accR_len (l := a.rows) fun r hr => by
  obtain ⟨p, hpa, hp, hxp, hpf, hpr⟩ := rows_at hf hr
  obtain ⟨hp1, hp2⟩ := part_fit hf.1.len.2 hf.1.four hpf hpr
  rw [hxp]
  exact ⟨hp1, fun y hy => (hp2 y hy).1⟩
 have hrl : a.rows.length = a.all.length := by unfold WA.rows; rw [List.length_map]
 have e : a.snap = rowU a.pool.stGens ++ rowU a.pool.free ++ accR a.rows := by rw [acc_all hf]; rfl
 rw [e, List.length_append, List.length_append]
 omega
section
variable {S : List Nat} {w0 w : World} {its : List Thing}
set_option maxHeartbeats 16000000 in
theorem all_spec (h : Hp S w0 w its) (i i' i'' j : Nat) (hne : [i, i', i''].Nodup) (hjn : j ∉ [i, i', i'']) {bp ab bb N : Nat} {ks gv od ws : Sl} {a : WA} {ys : List KS} {u : Thing} (hi : its[i]? = some (tBook bp (pcOf ab bb ks gv od ws) N 0)) (hi' : its[i']? = some (tW ab a)) (hi'' : its[i'']? = some (tRW bb a)) (hj : its[j]? = some u) (hu : u.holds = (tRK ks ys).holds) (hk : kinds ys = a.ks) (hN : N ≤ 100000000)
  {K : Bool → World → Prop} (hK : ∀ w', Hp S w0 w' (its.set i (tBook bp (pcOf ab bb ks gv od ws) (N + 12000) 0)) → K true w') : c9 (some ⟨bp, 0, none⟩) w K := by
 refine c9_of ?_
 unfold f9
 obtain ⟨infS, s1, s2, s3, s4⟩ := inf9
 obtain ⟨infK, k1, k2, k3, k4⟩ := inf94
 obtain ⟨infB, b1, b2, b3, b4⟩ := FP.inf5
 obtain ⟨O, h1, back⟩ := f3r h hne hjn hi hi' hi'' hj rfl rfl rfl
 have fin : ∀ {w' : World} {more : List Thing}, Hp O w w' ([tBook bp (pcOf ab bb ks gv od ws) (N + 12000) 0, tW ab a, tRW bb a] ++ more) → K true w' := fun {w' more} h2 => by
  have := back (rest := []) rfl rfl rfl rfl h2.front
  rw [List.append_nil] at this
  have e1 : (its.set i (tBook bp (pcOf ab bb ks gv od ws) (N + 12000) 0)).set i' (tW ab a) = its.set i (tBook bp (pcOf ab bb ks gv od ws) (N + 12000) 0) := Hp.set_same (by
   have : i ≠ i' := by simp at hne; exact hne.1.1
   rw [List.getElem?_set_ne this]; exact hi')
  have e2 : (its.set i (tBook bp (pcOf ab bb ks gv od ws) (N + 12000) 0)).set i'' (tRW bb a) = its.set i (tBook bp (pcOf ab bb ks gv od ws) (N + 12000) 0) := Hp.set_same (by
   have : i ≠ i'' := by simp at hne; exact hne.1.2
   rw [List.getElem?_set_ne this]; exact hi'')
  rw [e1, e2] at this
  exact hK w' this
 clear h
 have h := h1
 clear h1 hK
 obtain ⟨hok, hfit⟩ := tW_ok h 1 rfl
 have hf : a.fits := ⟨hok, hfit⟩
 have hro : ∀ {w' : World} {t1 t2 t3 : Thing} {l : List Thing}, Hp O w w' (t1 :: t2 :: t3 :: u.ro :: l) → RdK w' ks a.ks := fun {w' t1 t2 t3 l} h => by
  obtain ⟨O', g⟩ := h.see (i := 3) rfl
  have g : u.holds w' O' := g
  rw [hu] at g
  rw [← hk]
  exact rk_rd g
 have hksl : a.ks.length = ks.len := (hro h).len
 have hks12 := hok.len
 have hks4 := hok.four
 have hsb := snap_bytes' a
 have hsl := snap_len' hf
 have hstr : strL (strOf a.snap) = a.snap := strL_of hsb
 have hrl : a.rows.length ≤ 200 := by have := all_few hok; unfold WA.rows; rw [List.length_map]; exact this
 have hrv : ∀ r ∈ a.rows, r.2.length ≤ 12 ∧ ∀ y ∈ r.2, y.2.length ≤ 4 := fun r hr => by
  obtain ⟨p, hpa, hp, hxp, hpf, hpr⟩ := rows_at hf hr
  obtain ⟨hp1, hp2⟩ := part_fit hok.len.2 hok.four hpf hpr
  rw [hxp]
  exact ⟨hp1, fun y hy => (hp2 y hy).1⟩
 refine nns ?_
 refine book_ld0 h 0 (k := .p) (x := some ⟨ab, 0, none⟩) rfl rfl ?_
 refine Rows_W h 1 rfl fun r w1 h => ?_
 refine nns ?_
 refine book_ld0 h 0 (k := .p) (x := some ⟨ab, 0, none⟩) rfl rfl ?_
 refine Rows_W h 1 rfl fun s w2 h => ?_
 refine nns ?_
 refine book_ld h 0 (c := 1) (k := .p) (x := some ⟨bb, 0, none⟩) rfl rfl ?_
 refine RRows_W h 2 rfl fun t w3 h => ?_
 refine nns ?_
 refine book_ld0 h 0 (k := .p) (x := some ⟨ab, 0, none⟩) rfl rfl ?_
 refine Shapes_W h 1 rfl fun x w4 h => ?_
 refine nns ?_
 refine book_ld0 h 0 (k := .p) (x := some ⟨ab, 0, none⟩) rfl rfl ?_
 refine Shapes_W h 1 rfl fun y w5 h => ?_
 refine nns ?_
 refine book_ld h 0 (c := 1) (k := .p) (x := some ⟨bb, 0, none⟩) rfl rfl ?_
 refine RShapes_W h 2 rfl fun z zs w6 hznd hzs hzl h => ?_
 refine nns ?_
 refine book_ld0 h 0 (k := .p) (x := some ⟨ab, 0, none⟩) rfl rfl ?_
 refine Kinds_W h 1 rfl fun k w7 h => ?_
 refine nns ?_
 refine book_ld0 h 0 (k := .p) (x := some ⟨ab, 0, none⟩) rfl rfl ?_
 refine Kinds_W h 1 rfl fun l w8 h => ?_
 refine nns ?_
 refine book_ld0 h 0 (k := .p) (x := some ⟨ab, 0, none⟩) rfl rfl ?_
 refine Snapshot_W h 1 rfl fun m w9 h => ?_
 refine nns ?_
 refine book_ld0 h 0 (k := .p) (x := some ⟨ab, 0, none⟩) rfl rfl ?_
 refine Snapshot_W h 1 rfl fun n w10 h => ?_
 refine nns ?_
 refine book_ld h 0 (c := 1) (k := .p) (x := some ⟨bb, 0, none⟩) rfl rfl ?_
 refine RSnapshot_W h 2 rfl fun r2 w11 h => ?_
 have h : Hp O w w11 [tBook bp (pcOf ab bb ks gv od ws) N 0, tW ab a, tRW bb a, u.ro, tRows r a.rows, tRows s a.rows, tRows t a.rows, tMp x (Value.int .i64) (Value.int .i64) a.shape, tMp y (Value.int .i64) (Value.int .i64) a.shape, tSl z 143 2 shv zs, tKinds k a.ks, tKinds l a.ks, tB m a.snap, tB n a.snap, tB r2 a.snap] := h
 refine h.rdb 14 (u := tB r2 a.snap) rfl Hp.rdSl (strOf a.snap) hstr ?_
 have same : ∀ {w' : World} {p1 p2 : Sl} {K : Bool → World → Prop} {its' : List Thing} (i1 i2 : Nat), Hp O w w' its' → (its'[i1]?).map Thing.holds = some (tRows p1 a.rows).holds → (its'[i2]?).map Thing.holds = some (tRows p2 a.rows).holds → (∀ w2, Hp O w w2 its' → K true w2) → c20 p1 p2 w' K := fun {w' p1 p2 K its'} i1 i2 h e1 e2 hK => by
  obtain ⟨O1, hO1⟩ := h.see' e1
  obtain ⟨O2, hO2⟩ := h.see' e2
  refine sameRows_spec (rdW_of hO1) (rdW_of hO2) (by omega) (fun r hr => ⟨by have := (hrv r hr).1; omega, fun y hy => by have := (hrv r hr).2 y hy; omega⟩) fun w2 hf2 => ?_
  rw [decide_eq_true rfl]
  exact hK w2 (h.keep hf2)
 refine same 4 6 h rfl rfl fun w12 h => ?_
 refine sameShapes_spec h 7 9 (u := tSl z 143 2 shv zs) rfl rfl Hp.rdSl (by omega) hznd hzs fun w13 h => ?_
 have kin : ∀ {w' : World} {p1 : Sl} {K : Bool → World → Prop} {t1 t2 t3 : Thing} {l : List Thing} (i1 : Nat), Hp O w w' (t1 :: t2 :: t3 :: u.ro :: l) → ((t1 :: t2 :: t3 :: u.ro :: l)[i1]?).map Thing.holds = some (tKinds p1 a.ks).holds → (∀ w2, Hp O w w2 (t1 :: t2 :: t3 :: u.ro :: l) → K true w2) → c39 p1 ks w' K := fun {w' p1 K t1 t2 t3 l} i1 h e1 hK => by
  obtain ⟨O1, hO1⟩ := h.see' e1
  refine SameKinds_spec (kinds_rd hO1) (hro h) (by omega) (fun x hx => by have := hks4 x hx; omega) fun w2 hf2 => ?_
  rw [decide_eq_true rfl]
  exact hK w2 (h.keep hf2)
 refine nns ?_
 refine book_ld h 0 (c := 2) (k := .sl) (x := ks) rfl rfl ?_
 refine kin 10 h rfl fun w14 h => ?_
 refine ⟨fun w' => Hp O w w' [tBook bp (pcOf ab bb ks gv od ws) N 0, tW ab a, tRW bb a, u.ro, tRows r a.rows, tRows s a.rows, tRows t a.rows, tMp x (Value.int .i64) (Value.int .i64) a.shape, tMp y (Value.int .i64) (Value.int .i64) a.shape, tSl z 143 2 shv zs, tKinds k a.ks, tKinds l a.ks, tB m a.snap, tB n a.snap, tB r2 a.snap], ?_, ?_⟩
 ·refine ifF (by simp) (ifF (by simp) (ifF (by simp) ?_))
  refine h.rdb 12 (u := tB m a.snap) rfl Hp.rdSl (strOf a.snap) hstr ?_
  exact ifF (by simp) h
 clear h
 rintro w15 h
 refine nns ?_
 have rv14 : ∀ r ∈ a.rows, r.2.length ≤ 13 ∧ ∀ y ∈ r.2, y.2.length ≤ 10000 := fun r hr => ⟨by have := (hrv r hr).1; omega, fun y hy => by have := (hrv r hr).2 y hy; omega⟩
 have eb : ((⟨bp, 0, none⟩ : Addr).add 6) = ⟨bp, 6, none⟩ := by rw [Addr.add_none]
 rw [eb]
 refine rows_spec h 0 4 (by decide) (l := r) (ps := a.rows) rfl rfl (by omega) (by omega) rv14 fun w16 h => ?_
 refine nns ?_
 rw [eb]
 refine grows_spec h 0 (N := N) (M := 0 + 14 * a.rows.length + 1) rfl (by omega) fun w17 h => ?_
 have h : Hp O w w17 [tBook bp (pcOf ab bb ks gv od ws) (N + 2 * (0 + 14 * a.rows.length + 1)) 0, tW ab a, tRW bb a, u.ro, tEmp, tRows s a.rows, tRows t a.rows, tMp x (Value.int .i64) (Value.int .i64) a.shape, tMp y (Value.int .i64) (Value.int .i64) a.shape, tSl z 143 2 shv zs, tKinds k a.ks, tKinds l a.ks, tB m a.snap, tB n a.snap, tB r2 a.snap] := h
 have h := book_mono h (i := 0) (N' := N + 6000) (M' := 0) rfl (by omega) (by omega)
 have h : Hp O w w17 [tBook bp (pcOf ab bb ks gv od ws) (N + 6000) 0, tW ab a, tRW bb a, u.ro, tEmp, tRows s a.rows, tRows t a.rows, tMp x (Value.int .i64) (Value.int .i64) a.shape, tMp y (Value.int .i64) (Value.int .i64) a.shape, tSl z 143 2 shv zs, tKinds k a.ks, tKinds l a.ks, tB m a.snap, tB n a.snap, tB r2 a.snap] := h
 refine ⟨fun w' => Hp O w w' [tBook bp (pcOf ab bb ks gv od ws) (N + 6000) 0, tW ab a, tRW bb a, u.ro, tRows s a.rows, tRows t a.rows, tMp y (Value.int .i64) (Value.int .i64) a.shape, tSl z 143 2 shv zs, tKinds k a.ks, tKinds l a.ks, tB m a.snap, tB n a.snap], ?_, ?_⟩
 ·refine ifT (by simp) ?_
  refine h.update (ek := Value.int .i64) (ev := Value.int .i64) (g := a.shape) (k := -1) (v := 7) 7 rfl rfl und58 key3 rfl fun w18 h => ?_
  refine h.update (ek := Value.int .i64) (ev := Value.int .i64) (k := 2) (v := 1000) 7 rfl rfl und58 key3 rfl fun w19 h => ?_
  exact h.selL [0, 1, 2, 3, 5, 6, 8, 9, 10, 11, 12, 13] (by decide) rfl
 clear h
 rintro w18 h
 obtain ⟨vs, hvs, h⟩ := h.nest_open (i := 8) rfl
 have hvl : vs.length = a.ks.length := by rw [← hvs, List.length_map]
 have h : Hp O w w18 [tBook bp (pcOf ab bb ks gv od ws) (N + 6000) 0, tW ab a, tRW bb a, u.ro, tRows s a.rows, tRows t a.rows, tMp y (Value.int .i64) (Value.int .i64) a.shape, tSl z 143 2 shv zs, tSl k 94 2 kdv vs, tKinds l a.ks, tB m a.snap, tB n a.snap, tAll (vs.map tF)] := h
 have hkl := h.len (s := k) 8 rfl
 refine ⟨fun t0 mm w' => ∃ (q : Nat) (us : List KS) (ts : List Thing), t0 = q ∧ q ≤ vs.length ∧ mm = vs.length - q ∧ us.length = vs.length ∧ us.drop q = vs.drop q ∧ ts.drop q = (vs.map tF).drop q ∧ Hp O w w' [tBook bp (pcOf ab bb ks gv od ws) (N + 6000) 0, tW ab a, tRW bb a, u.ro, tRows s a.rows, tRows t a.rows, tMp y (Value.int .i64) (Value.int .i64) a.shape, tSl z 143 2 shv zs, tSl k 94 2 kdv us, tKinds l a.ks, tB m a.snap, tB n a.snap, tAll ts],
  ⟨vs.length, 0, vs, vs.map tF, rfl, by omega, rfl, rfl, rfl, rfl, h⟩, ?_⟩
 clear h
 rintro t0 mm w19 ⟨q, us, ts, rfl, hq, rfl, hul, hud, htd, h⟩
 by_cases hlt : q < vs.length
 ·refine ifT (by simp; omega) ?_
  have hy : us[q]? = some vs[q] := by
   have e := congrArg (fun L => L[0]?) hud
   simpa [hlt] using e
  have ht : ts[q]? = some (tF vs[q]) := by
   have e := congrArg (fun L => L[0]?) htd
   simpa [hlt] using e
  have hv4 : vs[q].2.2.length ≤ 4 := hks4 (kvis vs[q]) (by rw [← hvs]; exact List.mem_map_of_mem (List.getElem_mem hlt))
  generalize vs[q] = v at hy ht hv4
  refine h.ixr (s := k) (l := us) (f := kdv) (n := 2) (e := 94) 8 rfl (by omega) (by rw [Int.toNat_natCast]; exact hy) kdv_len fun ad hc => ?_
  refine ldR (k := .sl) (x := v.2.1) (hc 1 (by omega)) rfl ?_
  have h := h.pick (i := 12) (k := q) rfl ht rfl
  have h : Hp O w w19 [tBook bp (pcOf ab bb ks gv od ws) (N + 6000) 0, tW ab a, tRW bb a, u.ro, tRows s a.rows, tRows t a.rows, tMp y (Value.int .i64) (Value.int .i64) a.shape, tSl z 143 2 shv zs, tSl k 94 2 kdv us, tKinds l a.ks, tB m a.snap, tB n a.snap, tAll (ts.set q tEmp), tSl v.2.1 9 1 sv v.2.2] := h
  have hfl := h.len (s := v.2.1) 13 rfl
  refine ⟨fun t0 mm w' => ∃ (p : Nat) (fs : List ByteArray), t0 = p ∧ p ≤ v.2.1.len ∧ mm = v.2.1.len - p ∧ fs.length = v.2.1.len ∧ Hp O w w' [tBook bp (pcOf ab bb ks gv od ws) (N + 6000) 0, tW ab a, tRW bb a, u.ro, tRows s a.rows, tRows t a.rows, tMp y (Value.int .i64) (Value.int .i64) a.shape, tSl z 143 2 shv zs, tSl k 94 2 kdv us, tKinds l a.ks, tB m a.snap, tB n a.snap, tAll (ts.set q tEmp), tSl v.2.1 9 1 sv fs], ⟨v.2.1.len, 0, v.2.2, rfl, by omega, rfl, hfl, h⟩, ?_⟩
  clear h
  rintro t0 mm w20 ⟨p, fs, rfl, hp, rfl, hfsl, h⟩
  by_cases hpl : p < v.2.1.len
  ·refine ifT (by simp; omega) ?_
   refine h.ixst (s := v.2.1) (y := overL) 13 rfl (by omega) (by rw [Int.toNat_natCast]; omega) sv_len rfl rfl fun w21 h => ?_
   exact ⟨v.2.1.len - (p + 1), by omega, p + 1, fs.set _ overL, by rw [wr64 (by omega) (by omega)]; omega, by omega, rfl, by simpa using hfsl, h⟩
  ·refine ifF (by simp; omega) ?_
   refine h.nwS (l := [overL, overL, overL, overL, overL]) (f := sv) (n := 1) (c := [_, _, _, _, _]) rfl rfl sv_len fun b w21 h => ?_
   refine h.appS 13 14 (s := v.2.1) (s2 := ⟨some ⟨b, 0, none⟩, 5, 5⟩) rfl rfl Hp.rdSl sv_len und81 s1 s3 s2 rfl (by simp [sv, Value.oneCell']) (by rw [s4]; show (v.2.1.len + 5) * 16 ≤ _; omega) (by show v.2.1.len + 5 ≤ _; omega) fun f w22 h _ _ => ?_
   refine h.ixst2 (s := k) (l := us) (y := ((overL, f, []) : KS)) 8 rfl (by omega) (by rw [Int.toNat_natCast]; omega) kdv_len rfl rfl rfl fun w23 h => ?_
   rw [Int.toNat_natCast] at h
   refine ⟨vs.length - (q + 1), by omega, q + 1, us.set q (overL, f, []), ts.set q tEmp, by rw [wr64 (by omega) (by omega)]; omega, by omega, rfl, by simpa using hul, by
    rw [List.drop_set_of_lt (by omega), ← List.drop_drop, hud, List.drop_drop], by
    rw [List.drop_set_of_lt (by omega), ← List.drop_drop, htd, List.drop_drop], h.trim 13⟩
 ·refine ifF (by simp; omega) ?_
  refine h.nwS (l := [((overL, ⟨none, 0, 0⟩, []) : KS), (overL, ⟨none, 0, 0⟩, [])]) (f := kdv) (n := 2) (c := [_, _, _, _]) rfl rfl kdv_len fun b w20 h => ?_
  refine h.appS 8 13 (s := k) (s2 := ⟨some ⟨b, 0, none⟩, 2, 2⟩) rfl rfl Hp.rdSl kdv_len und22 k1 k3 k2 rfl (by simp [kdv, Value.oneCell']) (by rw [k4]; show (k.len + 2) * 40 ≤ _; omega) (by show k.len + 2 ≤ _; omega) fun k2 w21 h hk2 _ => ?_
  have hk2 : k2.len = k.len + 2 := hk2
  have h : Hp O w w21 [tBook bp (pcOf ab bb ks gv od ws) (N + 6000) 0, tW ab a, tRW bb a, u.ro, tRows s a.rows, tRows t a.rows, tMp y (Value.int .i64) (Value.int .i64) a.shape, tSl z 143 2 shv zs, tKinds l a.ks, tB n a.snap, tB m a.snap] := h.selL [0, 1, 2, 3, 4, 5, 6, 7, 9, 11, 10] (by decide) rfl
  have hml := h.len (s := m) 10 rfl
  refine ⟨fun t0 mm w' => ∃ (q : Nat) (us : List Int), t0 = q ∧ q ≤ m.len ∧ mm = m.len - q ∧ us.length = m.len ∧ Hp O w w' [tBook bp (pcOf ab bb ks gv od ws) (N + 6000) 0, tW ab a, tRW bb a, u.ro, tRows s a.rows, tRows t a.rows, tMp y (Value.int .i64) (Value.int .i64) a.shape, tSl z 143 2 shv zs, tKinds l a.ks, tB n a.snap, tB m us], ⟨m.len, 0, a.snap, rfl, by omega, rfl, hml, h⟩, ?_⟩
  clear h
  rintro t0 mm w22 ⟨q, us, rfl, hq, rfl, hul, h⟩
  by_cases hlt2 : q < m.len
  ·refine ifT (by simp; omega) ?_
   refine h.ixst (s := m) (y := 201) 10 rfl (by omega) (by rw [Int.toNat_natCast]; omega) u8v_len rfl rfl fun w23 h => ?_
   exact ⟨m.len - (q + 1), by omega, q + 1, us.set _ 201, by rw [wr64 (by omega) (by omega)]; omega, by omega, rfl, by simpa using hul, h⟩
  refine ifF (by simp; omega) ?_
  refine ⟨fun m9 t0 mm w' => ∃ (q : Nat) (us : List Int), t0 = q ∧ q ≤ 70 ∧ mm + q = 70 ∧ us.length = m.len + q ∧ Hp O w w' [tBook bp (pcOf ab bb ks gv od ws) (N + 6000) 0, tW ab a, tRW bb a, u.ro, tRows s a.rows, tRows t a.rows, tMp y (Value.int .i64) (Value.int .i64) a.shape, tSl z 143 2 shv zs, tKinds l a.ks, tB n a.snap, tB m9 us], ⟨70, 0, us, rfl, by omega, by omega, hul, h⟩, ?_⟩
  clear h
  rintro m9 t0 mm w23 ⟨q2, us2, rfl, hq2, hmm, hul2, h⟩
  by_cases hlt3 : q2 < 70
  ·refine ifT (by simp; omega) ?_
   have hm9 := h.len (s := m9) 10 rfl
   refine h.nwapp 10 (201 : Int) (c := [_]) rfl u8v_len und50 b1 b3 b2 rfl rfl (by simp [Value.oneCell']) (by rw [b4]; omega) (by omega) fun m11 w24 h _ _ => ?_
   exact ⟨69 - q2, by omega, q2 + 1, us2 ++ [201], by rw [wr64 (by omega) (by omega)]; omega, by omega, by omega, by simp [hul2]; omega, h⟩
  refine ifF (by simp; omega) ?_
  refine same 4 5 h rfl rfl fun w24 h => ?_
  refine sameShapes_spec h 6 7 (u := tSl z 143 2 shv zs) rfl rfl Hp.rdSl (by omega) hznd hzs fun w25 h => ?_
  refine nns ?_
  refine book_ld h 0 (c := 2) (k := .sl) (x := ks) rfl rfl ?_
  refine kin 8 h rfl fun w26 h => ?_
  refine nns ?_
  rw [eb]
  refine rows_spec h 0 4 (by decide) (l := s) (ps := a.rows) rfl rfl (by omega) (by omega) rv14 fun w27 h => ?_
  refine nns ?_
  rw [eb]
  refine grows_spec h 0 (N := N + 6000) (M := 0 + 14 * a.rows.length + 1) rfl (by omega) fun w28 h => ?_
  have h := book_mono h (i := 0) (N' := N + 12000) (M' := 0) rfl (by omega) (by omega)
  have h : Hp O w w28 [tBook bp (pcOf ab bb ks gv od ws) (N + 12000) 0, tW ab a, tRW bb a, u.ro, tEmp, tRows t a.rows, tMp y (Value.int .i64) (Value.int .i64) a.shape, tSl z 143 2 shv zs, tKinds l a.ks, tB n a.snap, tB m9 us2] := h
  refine ⟨fun w' => Hp O w w' [tBook bp (pcOf ab bb ks gv od ws) (N + 12000) 0, tW ab a, tRW bb a, tB n a.snap], ?_, ?_⟩
  ·refine ifT (by simp) ?_
   refine h.update (ek := Value.int .i64) (ev := Value.int .i64) (g := a.shape) (k := -2) (v := 8) 6 rfl rfl und58 key3 rfl fun w29 h => ?_
   exact h.selL [0, 1, 2, 9] (by decide) rfl
  clear h
  rintro w29 h
  refine ifT rfl (ifT rfl (ifT rfl ?_))
  refine h.rdb 3 (u := tB n a.snap) rfl Hp.rdSl (strOf a.snap) hstr ?_
  refine ifT (by simp) ?_
  refine nns ?_
  refine book_ld h 0 (c := 2) (k := .sl) (x := ks) rfl rfl ?_
  have e : ((k2.len : Int) == IntKind.i64.wrap ((ks.len : Int) + 2)) = true := by
   rw [wr64 (by omega) (by omega)]
   simp; omega
  rw [e]
  exact fin (more := [tB n a.snap]) h
end
end Go.Proofs.Ytcccjgmekakabaa.FW
end

section
namespace Go.Proofs.Ytcccjgmekakabaa.FW
open F
open Go Go.Den Go.Proofs Go.RowKit
theorem new_spec {w : World} {ks : Sl} {ys : List KS} {O : List Nat} (hr : (tRK ks ys).holds w O) (hl : ys.length ≤ 10000000) (hsz : ∀ x ∈ ys, x.2.2.length ≤ 10000000 ∧ x.1.size ≤ 1000000000000 ∧ ∀ y ∈ x.2.2, y.size ≤ 1000000000000) {K : Bool → World → Prop} (hK : ∀ w', Fr [] w w' → K true w') : c3 ks w K := by
 refine c3_of ?_
 unfold f3
 have h := Hp.begin_ w
 have h := h.addRo (t := tRK ks ys) hr (by simp)
 refine shown_spec h fun w1 h => ?_
 refine made_spec h 0 (u := (tRK ks ys).ro) rfl rfl hl hsz (fun hm bp ab bb w2 h => ?_) (fun hm w2 h => ?_)
 ·refine ifF (by simp) (ifF (by simp) ?_)
  refine all_spec h 1 2 3 0 (by decide) (by decide) (N := 0) (u := (tRK ks ys).ro) (ys := ys) rfl rfl rfl rfl rfl rfl (by omega) fun w3 h => ?_
  exact hK w3 h.1
 ·exact ifF (by simp) (ifT (by simp) (hK w2 h.1))
theorem und94 : Try.prog.underlying 94 = some (.struct (Try.prog.fieldsOf 94)) := by kernel_rfl
theorem cel9 : Try.prog.cellsOf 9 = 1 := by kernel_rfl
theorem cel81 : Try.prog.cellsOf 81 = 1 := by kernel_rfl
theorem cel94 : Try.prog.cellsOf 94 = 2 := by kernel_rfl
theorem dec_strs {w : World} {B n : Nat} {cs : List Value} (h : RdV Try.prog w B n 81 cs) : ∃ (s : Sl) (l : List ByteArray) (o : List Nat), cs = [.slice s.a s.len s.cap] ∧ SlR w s 1 sv l o ∧ l.length ≤ B ∧ s.len ≤ s.cap ∧ ∀ x ∈ l, x.size ≤ B := by
 obtain ⟨s, l, o, h1, h2, h3, _, h4, h5⟩ := rd_slice (f := sv) (G := fun x => x.size ≤ B) und81 cel9 (by omega) (fun m ci _ hr => by
  obtain ⟨x, hx, _, h⟩ := rd_string und9 hr
  exact ⟨x, hx, h⟩) h
 exact ⟨s, l, o, h1, h2, h4, h5, h3⟩
theorem dec_kind {w : World} {B m : Nat} {ci : List Value} (hl : ci.length = 2) (h : RdV Try.prog w B m 94 ci) :
  ∃ x : KS, ci = kdv x ∧ x.2.1.len ≤ x.2.1.cap ∧ (∃ o, SlR w x.2.1 1 sv x.2.2 o) ∧ x.2.2.length ≤ B ∧ x.1.size ≤ B ∧ ∀ y ∈ x.2.2, y.size ≤ B := by
 obtain ⟨_, q, hf⟩ := rd_struct und94 h
 match ci, hl with
 | [c0, c1], _ =>
  obtain ⟨m0, e0, _, h0⟩ := rd_string und9 (rd_field hf 0 (ft := 9) (off := 0) (sz := 1) (by kernel_rfl) cel9)
  obtain ⟨s, l, o, e1, h1, h2, h3, h4⟩ := dec_strs (rd_field hf 1 (ft := 81) (off := 1) (sz := 1) (by kernel_rfl) cel81)
  simp only [List.drop_zero, List.drop_succ_cons, List.take_succ_cons, List.take_zero, List.cons.injEq, and_true] at e0 e1
  subst e0 e1
  exact ⟨(m0, s, l), rfl, h3, ⟨o, h1⟩, h2, h0, h4⟩
theorem dec_kinds {w : World} {B n : Nat} {a : Option Addr} {len cap : Nat} (h : RdV Try.prog w B n 22 [.slice a len cap]) :
  ∃ (ys : List KS) (O : List Nat), (tRK ⟨a, len, cap⟩ ys).holds w O ∧ ys.length ≤ B ∧ ∀ x ∈ ys, x.2.2.length ≤ B ∧ x.1.size ≤ B ∧ ∀ y ∈ x.2.2, y.size ≤ B := by
 obtain ⟨s, l, o, h1, h2, h3, _, h4, h5⟩ := rd_slice (f := kdv) (G := fun x => x.2.1.len ≤ x.2.1.cap ∧ (∃ o, SlR w x.2.1 1 sv x.2.2 o) ∧ x.2.2.length ≤ B ∧ x.1.size ≤ B ∧ ∀ y ∈ x.2.2, y.size ≤ B) und22 cel94 (by omega) (fun m ci hl hr => dec_kind hl hr) h
 simp only [List.cons.injEq, Value.slice.injEq, and_true] at h1
 obtain ⟨rfl, rfl, rfl⟩ := h1
 refine ⟨l, List.range w.heap.size, ⟨fun k hk => List.mem_range.1 hk, ⟨o, h2, fun k hk => List.mem_range.2 (h2.lt k hk)⟩, fun x hx => ?_⟩, h4, fun x hx => (h3 x hx).2.2⟩
 obtain ⟨q1, ⟨o', q2⟩, _⟩ := h3 x hx
 exact ⟨q1, o', q2, fun k hk => List.mem_range.2 (q2.lt k hk)⟩
theorem new_call {w : World} {n : Nat} {a : Option Addr} {len cap : Nat} (h : RdV Try.prog w 1048576 n 22 [.slice a len cap]) :
  Calls Try.prog 3 #[.slice a len cap] w fun e w' => e = .returned (.bool true) ∧ Below w.heap.size w w' := by
 obtain ⟨ys, O, h1, h2, h3⟩ := dec_kinds h
 exact calls_true (new_spec (ks := ⟨a, len, cap⟩) h1 (by omega) (fun x hx => ⟨by have := (h3 x hx).1; omega, by have := (h3 x hx).2.1; omega, fun y hy => by have := (h3 x hx).2.2 y hy; omega⟩) fun w' hf => ⟨rfl, hf⟩)
end Go.Proofs.Ytcccjgmekakabaa.FW
end
