/-
  Part 6 of the proof: WorldStale of layer 6 is true of the given program for every input that its guards let in.
-/
import Derived.Test.YtcccjgmekakabaaPkE
section
set_option linter.unusedSimpArgs false
set_option linter.unusedVariables false
set_option maxRecDepth 100000
namespace Go.Proofs.Ytcccjgmekakabaa.FW
open Go.Proofs.Ytcccjgmekakabaa.F
open Go Go.Den Go.Proofs
open Go.Proofs.Ytcccjgmekakabaa.FI (PoolM tPool pk bv bv_len)
open Go.Proofs.Ytcccjgmekakabaa.FT (TabM tTab Ent entV ent ent_len atI keyEnt iv iv_len)
open Go.Proofs.Ytcccjgmekakabaa.FP (putU zig encZ rowU tB putU_len encZ_len R64)
theorem take_good {m : PoolM} {L A : List Ent} {k : Nat} (hm : m.Ok) (h : FI.Good m L A k) :
    (m.takeM.2.2 = 0 ∧ m.takeM.2.1 ∉ A ∧ FI.Good m.takeM.1 (L ++ [m.takeM.2.1]) (A ++ [m.takeM.2.1]) (k + 1) ∧ (L.length : Int) < m.most ∧ m.takeM.1.most = m.most) ∨ (m.takeM.2.2 = 40 ∧ (L.length : Int) = m.most) := by
  unfold PoolM.takeM
  cases hf : m.free with
  | cons i rest =>
    obtain ⟨h1, h2, h3⟩ := h.takeFree hm hf
    exact .inl ⟨rfl, h1, h2, h3, rfl⟩
  | nil =>
    by_cases hl : (m.gens.length : Int) < m.most
    · obtain ⟨h1, h2, h3⟩ := h.takeNew hm hf hl
      simp only [if_pos hl]
      exact .inl ⟨trivial, h1, h2, h3, rfl⟩
    · simp only [if_neg hl]
      have := hm.le
      exact .inr ⟨trivial, h.full hf (by omega)⟩

theorem usual_puts (what v : Int) (hw : -9223372036854775808 ≤ what) : (putParts usualK [partL what v] (List.replicate usualK.length none)).2 = 0 := by
  obtain ⟨p0, p4⟩ := FI.pk_range (c := what) (n := 4) hw (by decide)
  unfold partL
  generalize pk what 4 = k at p0 p4 ⊢
  obtain ⟨n, rfl⟩ : ∃ n : Nat, k = n := ⟨k.toNat, by omega⟩
  match n, p4 with
  | 0, _ => rfl
  | 1, _ => rfl
  | 2, _ => rfl
  | 3, _ => rfl
  | n + 4, p4 => omega

theorem partL_kind (what v : Int) (hw : -9223372036854775808 ≤ what) : 1 ≤ (partL what v).1 ∧ (partL what v).1 ≤ 4 := by
  obtain ⟨p0, p4⟩ := FI.pk_range (c := what) (n := 4) hw (by decide)
  show 1 ≤ pk what 4 + 1 ∧ pk what 4 + 1 ≤ 4
  omega

theorem spawn_usual {a : WA} (hk : a.ks = usualK) (what v : Int) (hw : -9223372036854775808 ≤ what) : ∃ p, a.spawn [partL what v] = if a.pool.takeM.2.2 ≠ 0 then (a, (0, 0), a.pool.takeM.2.2) else (⟨a.ks, a.pool.takeM.1, upd1 a.row a.pool.takeM.2.1 (some p)⟩, a.pool.takeM.2.1, 0) := by
  refine ⟨(putParts a.ks [partL what v] a.emp).1, ?_⟩
  unfold WA.spawn
  have : (putParts a.ks [partL what v] a.emp).2 = 0 := by unfold WA.emp; rw [hk]; exact usual_puts what v hw
  rw [if_neg (by rw [this]; simp)]

abbrev Deed := Int × Int × Int × Int

abbrev ddv (x : Deed) : List Value := [.int .i64 x.1, .int .i64 x.2.1, .int .i64 x.2.2.1, .int .i64 x.2.2.2]

theorem ddv_len (x : Deed) : (ddv x).length = 4 := rfl

theorem und61 : Try.prog.underlying 61 = some (.slice 4) := by kernel_rfl

theorem und35 : Try.prog.underlying 35 = some (.slice 43) := by kernel_rfl

section
variable {S : List Nat} {w0 w : World} {its : List Thing}
set_option maxHeartbeats 2000000 in
theorem shown_spec (h0 : Hp S w0 w its) {K : Bool → World → Prop} (hK : ∀ w', Hp S w0 w' its → K true w') : c7 w K := by
  refine c7_of ?_
  unfold f7
  have h := Hp.begin_ w
  refine usual_spec h fun sk w1 h => ?_
  refine New_W h 0 (s := sk) (l := usualK) rfl (by decide) (fun x hx => ?_) (fun _ b w2 h => ?_) (fun hno => absurd usual_may hno)
  · simp only [usualK, List.mem_cons, List.not_mem_nil, or_false] at hx
    rcases hx with rfl | rfl | rfl | rfl
    · exact ⟨by decide, by decide⟩
    · exact ⟨by decide, by decide⟩
    · exact ⟨by decide, by decide⟩
    · exact ⟨by decide, by decide⟩
  refine ifF (by simp) ?_
  refine h.nwS (l := [(7 : Int)]) (f := iv) (n := 1) (c := [_]) rfl rfl iv_len fun b1 w3 h => ?_
  refine h.nwS (l := [(1 : Int), 2]) (f := iv) (n := 1) (c := [_, _]) rfl rfl iv_len fun b2 w4 h => ?_
  refine h.nwS (l := [((2, ⟨some ⟨b1, 0, none⟩, 1, 1⟩, [7]) : PV), (1, ⟨some ⟨b2, 0, none⟩, 2, 2⟩, [1, 2])]) (f := pdv) (n := 2) (c := [_, _, _, _]) rfl rfl pdv_len fun b3 w5 h => ?_
  have h : Hp [] w w5 ([tKinds sk usualK, tW b (WA.new usualK)] ++ [tSl ⟨some ⟨b1, 0, none⟩, 1, 1⟩ 2 1 iv [7], tSl ⟨some ⟨b2, 0, none⟩, 2, 2⟩ 2 1 iv [1, 2]] ++ [tSl ⟨some ⟨b3, 0, none⟩, 2, 2⟩ 40 2 pdv [((2, ⟨some ⟨b1, 0, none⟩, 1, 1⟩, [7]) : PV), (1, ⟨some ⟨b2, 0, none⟩, 2, 2⟩, [1, 2])]]) := h
  have h := h.swap2
  rw [List.append_assoc] at h
  have h := h.nest_make (vis := pvis) (sub := tV) rfl
  have h : Hp [] w w5 [tKinds sk usualK, tW b (WA.new usualK), tParts ⟨some ⟨b3, 0, none⟩, 2, 2⟩ [(2, [7]), (1, [1, 2])]] := h
  refine Spawn_W h 1 2 (by decide) rfl rfl (by simp) (by simp [R64]) (by decide) fun w6 h => ?_
  rw [ex1]
  have h : Hp [] w w6 [tKinds sk usualK, tW b exA, tParts ⟨some ⟨b3, 0, none⟩, 2, 2⟩ [(2, [7]), (1, [1, 2])]] := h
  refine h.nw (c := [_, _]) fun ab w7 h => ?_
  refine h.st0 3 rfl (by simp) rfl fun w8 h => ?_
  refine h.st (n := 1) 3 rfl (by simp) rfl fun w9 h => ?_
  have h := h.nest_nil 40 2 pdv tV pvis
  refine Spawn_W h 1 4 (by decide) (a := exA) rfl rfl (by simp) (by simp) (by decide) fun w10 h => ?_
  rw [ex2]
  have h : Hp [] w w10 [tKinds sk usualK, tW b exB, tParts ⟨some ⟨b3, 0, none⟩, 2, 2⟩ [(2, [7]), (1, [1, 2])], tBlk ab 43 [.int .i64 0, .int .i64 1], tParts ⟨none, 0, 0⟩ []] := h
  refine h.nw (c := [_, _]) fun bb w11 h => ?_
  refine h.st0 5 rfl (by simp) rfl fun w12 h => ?_
  refine h.st (n := 1) 5 rfl (by simp) rfl fun w13 h => ?_
  refine h.ld0 (k := .i .i64) (x := (1 : Int)) 5 rfl rfl ?_
  refine h.ld (n := 1) (k := .i .i64) (x := (1 : Int)) 5 rfl rfl ?_
  have h := h.nil 2 1 iv
  have h : Hp [] w w13 [tKinds sk usualK, tW b exB, tParts ⟨some ⟨b3, 0, none⟩, 2, 2⟩ [(2, [7]), (1, [1, 2])], tBlk ab 43 [.int .i64 0, .int .i64 1], tParts ⟨none, 0, 0⟩ [], tBlk bb 43 [.int .i64 1, .int .i64 1], tSl ⟨none, 0, 0⟩ 2 1 iv []] := h
  refine Add_W h 1 6 (by decide) (e := (1, 1)) (kind := 3) (v := []) (a := exB) rfl rfl (by decide) (by decide) (by simp [R64]) fun w14 h => ?_
  rw [ex3]
  have h : Hp [] w w14 [tKinds sk usualK, tW b exC, tParts ⟨some ⟨b3, 0, none⟩, 2, 2⟩ [(2, [7]), (1, [1, 2])], tBlk ab 43 [.int .i64 0, .int .i64 1], tParts ⟨none, 0, 0⟩ [], tBlk bb 43 [.int .i64 1, .int .i64 1], tSl ⟨none, 0, 0⟩ 2 1 iv []] := h
  refine h.ld0 (k := .i .i64) (x := (1 : Int)) 5 rfl rfl ?_
  refine h.ld (n := 1) (k := .i .i64) (x := (1 : Int)) 5 rfl rfl ?_
  refine Add_W h 1 6 (by decide) (e := (1, 1)) (kind := 3) (v := []) (a := exC) rfl rfl (by decide) (by decide) (by simp [R64]) fun w15 h => ?_
  rw [ex4]
  have h : Hp [] w w15 [tKinds sk usualK, tW b exD, tParts ⟨some ⟨b3, 0, none⟩, 2, 2⟩ [(2, [7]), (1, [1, 2])], tBlk ab 43 [.int .i64 0, .int .i64 1], tParts ⟨none, 0, 0⟩ [], tBlk bb 43 [.int .i64 1, .int .i64 1], tSl ⟨none, 0, 0⟩ 2 1 iv []] := h
  refine h.ld0 (k := .i .i64) (x := (0 : Int)) 3 rfl rfl ?_
  refine h.ld (n := 1) (k := .i .i64) (x := (1 : Int)) 3 rfl rfl ?_
  refine Despawn_W h 1 (e := (0, 1)) (a := exD) rfl fun w16 h => ?_
  rw [ex5]
  have h : Hp [] w w16 [tKinds sk usualK, tW b exE, tParts ⟨some ⟨b3, 0, none⟩, 2, 2⟩ [(2, [7]), (1, [1, 2])], tBlk ab 43 [.int .i64 0, .int .i64 1], tParts ⟨none, 0, 0⟩ [], tBlk bb 43 [.int .i64 1, .int .i64 1], tSl ⟨none, 0, 0⟩ 2 1 iv []] := h
  refine ifT rfl (ifT rfl ?_)
  refine h.ld0 (k := .i .i64) (x := (0 : Int)) 3 rfl rfl ?_
  refine h.ld (n := 1) (k := .i .i64) (x := (1 : Int)) 3 rfl rfl ?_
  refine FT.eqEnt (ifT rfl ?_)
  refine h.ld0 (k := .i .i64) (x := (1 : Int)) 5 rfl rfl ?_
  refine h.ld (n := 1) (k := .i .i64) (x := (1 : Int)) 5 rfl rfl ?_
  refine FT.eqEnt (ifT rfl ?_)
  refine ifT rfl (ifT rfl (ifT rfl ?_))
  refine Snapshot_W h 1 (a := exE) rfl fun s w17 h => ?_
  refine h.rdb 7 (u := tB s exE.snap) rfl Hp.rdSl ⟨#[2, 0, 2, 2, 1, 0, 0, 8]⟩ ex6.symm ?_
  have := h0.r0 (rest := []) rfl (h.trim 0)
  rw [List.append_nil] at this
  have e : ((⟨#[2, 0, 2, 2, 1, 0, 0, 8]⟩ : ByteArray).toList == (⟨#[2, 0, 2, 2, 1, 0, 0, 8]⟩ : ByteArray).toList) = true := by simp
  rw [e]
  exact hK w17 this

/-- What is known of all that were given. -/
structure Stale (a : WA) (A : List Ent) (O : List Bool) (living : Int) (k : Nat) : Prop where
  ks : a.ks = usualK
  most : a.pool.most = 200
  good : ∃ L, FI.Good a.pool L A k ∧ living = L.length
  len : O.length = A.length
  on : ∀ (j : Nat) (x : Ent) (o : Bool), A[j]? = some x → O[j]? = some o → o = a.pool.is x.1 x.2
  nd : A.Nodup

set_option maxHeartbeats 4000000 in
theorem stale_spec {deeds : Sl} {xs : List Deed} {oa : List Nat} {K : Bool → World → Prop} (has : SlR w deeds 4 ddv xs oa)
    (hrange : ∀ x ∈ xs, (-9223372036854775808 ≤ x.1 ∧ x.1 ≤ 9223372036854775807) ∧ (-9223372036854775808 ≤ x.2.1 ∧ x.2.1 ≤ 9223372036854775807) ∧ (-9223372036854775808 ≤ x.2.2.1 ∧ x.2.2.1 ≤ 9223372036854775807))
    (hK : ∀ w', Fr [] w w' → K true w') : c5 deeds w K := by
  refine c5_of ?_
  unfold f5
  obtain ⟨inf2, i1, i2, i3, i4⟩ := FT.inf32
  obtain ⟨inf4, b1, b2, b3, b4⟩ := FI.bytes4
  have h := Hp.begin_ w
  have h := h.addRo (t := tRd deeds 4 ddv xs) has (by simp)
  have hxl := h.lenR (s := deeds) (n := 4) (f := ddv) (l := xs) 0 rfl
  refine shown_spec h fun w1 h => ?_
  refine usual_spec h fun sk w2 h => ?_
  refine New_W h 1 (s := sk) (l := usualK) rfl (by decide) (fun x hx => ?_) (fun _ b w3 h => ?_) (fun hno => absurd usual_may hno)
  · simp only [usualK, List.mem_cons, List.not_mem_nil, or_false] at hx
    rcases hx with rfl | rfl | rfl | rfl
    · exact ⟨by decide, by decide⟩
    · exact ⟨by decide, by decide⟩
    · exact ⟨by decide, by decide⟩
    · exact ⟨by decide, by decide⟩
  refine ifF (by simp) ?_
  have h := (h.nil 43 2 ent).nil 4 1 bv
  have h : Hp [] w w3 ([(tRd deeds 4 ddv xs).ro] ++ [tKinds sk usualK] ++ [tW b (WA.new usualK), tSl ⟨none, 0, 0⟩ 43 2 ent [], tSl ⟨none, 0, 0⟩ 4 1 bv []]) := h
  have h := h.cutMid
  refine ⟨fun all on living i mm w' => ∃ (k : Nat) (a : WA) (A : List Ent) (O : List Bool), i = k ∧ k ≤ deeds.len ∧ k ≤ 300 ∧ mm = deeds.len - k ∧ Stale a A O living k ∧ Hp [] w w' [(tRd deeds 4 ddv xs).ro, tW b a, tSl all 43 2 ent A, tSl on 4 1 bv O],
    ⟨deeds.len, 0, WA.new usualK, [], [], rfl, by omega, by omega, rfl, ⟨rfl, rfl, ⟨[], FI.Good.new, rfl⟩, rfl, fun j x o hx => by simp at hx, by simp⟩, h⟩, ?_⟩
  clear h
  rintro all on living i mm w4 ⟨k, a, A, O, rfl, hk1, hk2, rfl, hS, h⟩
  obtain ⟨L, hG, rfl⟩ := hS.good
  have hAl := h.len (s := all) 2 rfl
  have hOl := h.len (s := on) 3 rfl
  have hAk := hG.lenA
  have hok := (tW_ok h 1 rfl).1
  have hL200 : L.length ≤ 200 := pool_few hok.pok hG.nd (fun x hx => (hG.mem x).1 hx)
  have hOA := hS.len
  by_cases hlt : k < deeds.len ∧ k < 300
  · refine ifT (by simp; omega) ?_
    have hkl : k < xs.length := by omega
    have hx : xs[k]? = some xs[k] := by simp [hkl]
    have hxr := hrange xs[k] (List.getElem_mem hkl)
    generalize xs[k] = d at hx hxr
    refine h.ixrR (s := deeds) (l := xs) (f := ddv) (n := 4) 0 rfl (by omega) (by rw [Int.toNat_natCast]; exact hx) ddv_len fun ad hc => ?_
    refine ldR0 (k := .i .i64) (x := d.1) (hc 0 (by omega)) rfl ?_
    refine ldR (k := .i .i64) (x := d.2.1) (hc 1 (by omega)) rfl ?_
    refine ldR (k := .i .i64) (x := d.2.2.1) (hc 2 (by omega)) rfl ?_
    refine ldR (k := .i .i64) (x := d.2.2.2) (hc 3 (by omega)) rfl ?_
    refine h.nw (c := [_, _, _, _]) fun db w5 h => ?_
    refine h.st0 4 rfl (by simp) rfl fun w6 h => ?_
    refine h.st (n := 1) 4 rfl (by simp) rfl fun w7 h => ?_
    refine h.st (n := 2) 4 rfl (by simp) rfl fun w8 h => ?_
    refine h.st (n := 3) 4 rfl (by simp) rfl fun w9 h => ?_
    have h : Hp [] w w9 [(tRd deeds 4 ddv xs).ro, tW b a, tSl all 43 2 ent A, tSl on 4 1 bv O, tBlk db 47 [.int .i64 d.1, .int .i64 d.2.1, .int .i64 d.2.2.1, .int .i64 d.2.2.2]] := h
    refine h.ld0 (k := .i .i64) (x := d.1) 4 rfl rfl ?_
    refine FI.pick_spec (by decide) ?_
    by_cases hp : pk d.1 3 > 0 ∨ A.length = 0
    · refine ifT (by rcases hp with hp | hp
                     · simp [hp]
                     · simp [← hAl, hp]) ?_
      refine h.ld (n := 2) (k := .i .i64) (x := d.2.2.1) 4 rfl rfl ?_
      refine h.ld (n := 3) (k := .i .i64) (x := d.2.2.2) 4 rfl rfl ?_
      refine part_spec h hxr.2.2.1 fun vs w10 h => ?_
      obtain ⟨q1, q2⟩ := partL_kind d.2.2.1 d.2.2.2 hxr.2.2.1
      have hpr := partL_rng d.2.2.1 d.2.2.2
      obtain ⟨p, hsp⟩ := spawn_usual hS.ks d.2.2.1 d.2.2.2 hxr.2.2.1
      generalize partL d.2.2.1 d.2.2.2 = pt at q1 q2 hpr h hsp ⊢
      refine h.nwS (l := [((pt.1, vs, pt.2) : PV)]) (f := pdv) (n := 2) (c := [_, _]) rfl rfl pdv_len fun b5 w11 h => ?_
      have h : Hp [] w w11 ([(tRd deeds 4 ddv xs).ro, tW b a, tSl all 43 2 ent A, tSl on 4 1 bv O, tBlk db 47 [.int .i64 d.1, .int .i64 d.2.1, .int .i64 d.2.2.1, .int .i64 d.2.2.2]] ++ [tSl vs 2 1 iv pt.2] ++ [tSl ⟨some ⟨b5, 0, none⟩, 1, 1⟩ 40 2 pdv [((pt.1, vs, pt.2) : PV)]]) := h
      have h := h.swap2
      rw [List.append_assoc] at h
      have h := h.nest_make (vis := pvis) (sub := tV) (xs := [((pt.1, vs, pt.2) : PV)]) rfl
      have h : Hp [] w w11 [(tRd deeds 4 ddv xs).ro, tW b a, tSl all 43 2 ent A, tSl on 4 1 bv O, tBlk db 47 [.int .i64 d.1, .int .i64 d.2.1, .int .i64 d.2.2.1, .int .i64 d.2.2.2], tParts ⟨some ⟨b5, 0, none⟩, 1, 1⟩ [pt]] := h
      refine Spawn_W h 1 5 (by decide) rfl rfl (fun x hx => ?_) (fun x hx => ?_) (by simp) fun w12 h => ?_
      · simp only [List.mem_singleton] at hx; subst hx; omega
      · simp only [List.mem_singleton] at hx; subst hx; exact hpr
      refine h.nw (c := [_, _]) fun xb w13 h => ?_
      refine h.st0 6 rfl (by simp) rfl fun w14 h => ?_
      refine h.st (n := 1) 6 rfl (by simp) rfl fun w15 h => ?_
      rcases take_good hok.pok hG with ⟨t0, t1, t2, t3, t4⟩ | ⟨t0, t1⟩
      · -- one comes
        rw [if_neg (by rw [t0]; simp)] at hsp
        obtain ⟨tk1, tk2, tk3⟩ := (take_liv hok.pok).2 t0
        rw [hsp] at h ⊢
        dsimp only at h ⊢
        generalize a.pool.takeM.2.1 = e at t1 t2 tk2 tk3 h hsp ⊢
        generalize a.pool.takeM.1 = pool' at t2 t4 tk1 tk3 h hsp ⊢
        have hm := hS.most
        have hlv : (L.length : Int) < 200 := by omega
        refine ifF (by simp [hlv]) (ifT rfl ?_)
        have h : Hp [] w w15 [(tRd deeds 4 ddv xs).ro, tW b ⟨a.ks, pool', upd1 a.row e (some p)⟩, tSl all 43 2 ent A, tSl on 4 1 bv O, tBlk db 47 [.int .i64 d.1, .int .i64 d.2.1, .int .i64 d.2.2.1, .int .i64 d.2.2.2], tParts ⟨some ⟨b5, 0, none⟩, 1, 1⟩ [pt], tBlk xb 43 [.int .i64 e.1, .int .i64 e.2]] := h
        refine ⟨fun q m3 w' => ∃ j : Nat, q = j ∧ j ≤ A.length ∧ m3 = A.length - j ∧ Hp [] w w' [(tRd deeds 4 ddv xs).ro, tW b ⟨a.ks, pool', upd1 a.row e (some p)⟩, tSl all 43 2 ent A, tSl on 4 1 bv O, tBlk db 47 [.int .i64 d.1, .int .i64 d.2.1, .int .i64 d.2.2.1, .int .i64 d.2.2.2], tParts ⟨some ⟨b5, 0, none⟩, 1, 1⟩ [pt], tBlk xb 43 [.int .i64 e.1, .int .i64 e.2]],
          ⟨A.length, 0, rfl, by omega, rfl, h⟩, ?_⟩
        clear h
        rintro q m3 w16 ⟨j, rfl, hj, rfl, h⟩
        by_cases hjl : j < A.length
        · refine ifT (by simp; omega) ?_
          refine h.dr fun w17 h => ?_
          have hy : A[j]? = some A[j] := by simp [hjl]
          have hne : A[j] ≠ e := fun he => t1 (by rw [← he]; exact List.getElem_mem hjl)
          generalize A[j] = y at hy hne
          refine h.ixr (s := all) (l := A) (f := ent) (n := 2) (e := 43) 2 rfl (by omega) (by rw [Int.toNat_natCast]; exact hy) ent_len fun ad2 hc2 => ?_
          refine ldR0 (k := .i .i64) (x := y.1) (hc2 0 (by omega)) rfl ?_
          refine ldR (k := .i .i64) (x := y.2) (hc2 1 (by omega)) rfl ?_
          refine h.ld0 (k := .i .i64) (x := e.1) 6 rfl rfl ?_
          refine h.ld (n := 1) (k := .i .i64) (x := e.2) 6 rfl rfl ?_
          refine FT.eqEnt (ifF ?_ ⟨A.length - (j + 1), by omega, j + 1, by rw [wr64 (by omega) (by omega)]; omega, by omega, rfl, h⟩)
          intro hh
          have := Bool.and_eq_true_iff.1 hh
          exact hne (Prod.ext (by simpa using this.1) (by simpa using this.2))
        · refine ifF (by simp; omega) ?_
          refine h.ld0 (k := .i .i64) (x := e.1) 6 rfl rfl ?_
          refine h.ld (n := 1) (k := .i .i64) (x := e.2) 6 rfl rfl ?_
          refine h.nwapp 2 e (c := [_, _]) rfl ent_len und35 i1 i3 i2 rfl rfl (by simp [ent, Value.oneCell']) (by rw [i4]; omega) (by omega) fun all2 w17 h _ _ => ?_
          refine h.nwapp 3 true (c := [_]) rfl bv_len und61 b1 b3 b2 rfl rfl (by simp [bv, Value.oneCell']) (by rw [b4]; omega) (by omega) fun on2 w18 h _ _ => ?_
          have h : Hp [] w w18 ([(tRd deeds 4 ddv xs).ro, tW b ⟨a.ks, pool', upd1 a.row e (some p)⟩, tSl all2 43 2 ent (A ++ [e]), tSl on2 4 1 bv (O ++ [true])] ++ [tBlk db 47 [.int .i64 d.1, .int .i64 d.2.1, .int .i64 d.2.2.1, .int .i64 d.2.2.2], tParts ⟨some ⟨b5, 0, none⟩, 1, 1⟩ [pt], tBlk xb 43 [.int .i64 e.1, .int .i64 e.2]]) := h
          refine ⟨deeds.len - (k + 1), by omega, k + 1, ⟨a.ks, pool', upd1 a.row e (some p)⟩, A ++ [e], O ++ [true], by rw [wr64 (by omega) (by omega)]; omega, by omega, by omega, rfl, ⟨hS.ks, by show pool'.most = 200; omega, ⟨L ++ [e], t2, by rw [wr64 (by omega) (by omega)]; simp⟩, by simp [hOA], fun j x o hx ho => ?_, ?_⟩, h.front⟩
          · show o = pool'.is x.1 x.2
            rw [tk3 x]
            by_cases hjl2 : j < A.length
            · rw [List.getElem?_append_left hjl2] at hx
              rw [List.getElem?_append_left (by omega)] at ho
              rw [if_neg (fun he => t1 (by rw [← he]; exact List.mem_of_getElem? hx))]
              exact hS.on j x o hx ho
            · rw [List.getElem?_append_right (by omega)] at hx ho
              have hj0 : j - A.length = 0 := by
                rcases Nat.eq_zero_or_pos (j - A.length) with h | h
                · exact h
                · rw [List.getElem?_eq_none (by simp; omega)] at hx; cases hx
              rw [hj0] at hx
              rw [hOA, hj0] at ho
              obtain rfl := Option.some.inj hx
              obtain rfl := Option.some.inj ho
              rw [if_pos rfl]
          · rw [List.nodup_append]
            exact ⟨hS.nd, by simp, fun x hx y hy => by simp only [List.mem_singleton] at hy; subst hy; exact fun he => t1 (he ▸ hx)⟩
      · -- no room
        rw [if_pos (by rw [t0]; simp)] at hsp
        rw [hsp, t0] at h ⊢
        dsimp only at h ⊢
        have hm := hS.most
        have hlv : ¬ ((L.length : Int) < 200) := by omega
        refine ifF (by simp [hlv]) (ifF (by decide) ?_)
        have h : Hp [] w w15 ([(tRd deeds 4 ddv xs).ro, tW b a, tSl all 43 2 ent A, tSl on 4 1 bv O] ++ [tBlk db 47 [.int .i64 d.1, .int .i64 d.2.1, .int .i64 d.2.2.1, .int .i64 d.2.2.2], tParts ⟨some ⟨b5, 0, none⟩, 1, 1⟩ [pt], tBlk xb 43 [.int .i64 0, .int .i64 0]]) := h
        exact ⟨deeds.len - (k + 1), by omega, k + 1, a, A, O, by rw [wr64 (by omega) (by omega)]; omega, by omega, by omega, rfl, ⟨hS.ks, hS.most, ⟨L, hG.step, rfl⟩, hS.len, hS.on, hS.nd⟩, h.front⟩
    · refine ifF (by simp; omega) ?_
      refine h.ld (n := 1) (k := .i .i64) (x := d.2.1) 4 rfl rfl ?_
      have hA0 : 0 < A.length := by omega
      refine FI.pick_spec (by omega) ?_
      obtain ⟨r0, r1⟩ := FI.pk_range (c := d.2.1) (n := (all.len : Int)) hxr.2.1.1 (by omega)
      generalize pk d.2.1 (all.len : Int) = r at r0 r1 ⊢
      obtain ⟨r, rfl⟩ : ∃ n : Nat, r = n := ⟨r.toNat, by omega⟩
      have hrl : r < A.length := by omega
      have hy : A[r]? = some A[r] := by simp [hrl]
      have ho : O[r]? = some (O[r]'(by omega)) := by simp [show r < O.length by omega]
      have hyo := hS.on r _ _ hy ho
      have hrinj : ∀ j, A[j]? = some A[r] → j = r := fun j hj => (List.getElem?_inj (i := j) (j := r) (List.getElem?_eq_some_iff.1 hj).1 hS.nd).1 (by rw [hj, hy])
      generalize A[r] = y at hy hyo hrinj
      generalize O[r]'(by omega) = o at ho hyo
      refine h.ixr (s := all) (l := A) (f := ent) (n := 2) (e := 43) 2 rfl (by omega) (by rw [Int.toNat_natCast]; exact hy) ent_len fun ad2 hc2 => ?_
      refine ldR0 (k := .i .i64) (x := y.1) (hc2 0 (by omega)) rfl ?_
      refine ldR (k := .i .i64) (x := y.2) (hc2 1 (by omega)) rfl ?_
      refine Despawn_W h 1 (e := y) rfl fun w10 h => ?_
      have ho' : O[((r : Nat) : Int).toNat]? = some o := by rw [Int.toNat_natCast]; exact ho
      cases o with
      | true =>
        have hd : a.despawn y = (⟨a.ks, a.pool.give y.1 y.2, upd1 a.row y none⟩, 0) := by unfold WA.despawn; rw [if_pos hyo.symm]
        rw [hd] at h ⊢
        dsimp only at h ⊢
        refine h.ixld (k := .b) (s := on) (y := true) (x := true) 3 rfl (by omega) ho' bv_len rfl ?_
        refine ifF (by simp) ?_
        refine h.ixld (k := .b) (s := on) (y := true) (x := true) 3 rfl (by omega) ho' bv_len rfl ?_
        refine ifT rfl ?_
        refine h.ixst (s := on) (y := false) 3 rfl (by omega) (by omega) bv_len rfl rfl fun w11 h => ?_
        obtain ⟨kk, hkk⟩ := List.getElem?_of_mem ((hG.mem y).2 hyo.symm)
        have hkl2 := (List.getElem?_eq_some_iff.1 hkk).1
        have hke := (List.getElem?_eq_some_iff.1 hkk).2
        obtain ⟨g1, g2, g3⟩ := hG.give hok.pok hkl2 (by omega)
        rw [hke] at g1 g2 g3
        have h : Hp [] w w11 ([(tRd deeds 4 ddv xs).ro, tW b ⟨a.ks, a.pool.give y.1 y.2, upd1 a.row y none⟩, tSl all 43 2 ent A, tSl on 4 1 bv (O.set r false)] ++ [tBlk db 47 [.int .i64 d.1, .int .i64 d.2.1, .int .i64 d.2.2.1, .int .i64 d.2.2.2]]) := h
        refine ⟨deeds.len - (k + 1), by omega, k + 1, ⟨a.ks, a.pool.give y.1 y.2, upd1 a.row y none⟩, A, O.set r false, by rw [wr64 (by omega) (by omega)]; omega, by omega, by omega, rfl, ⟨hS.ks, hS.most, ⟨_, g3, ?_⟩, by rw [List.length_set]; exact hS.len, fun j x o hx ho2 => ?_, hS.nd⟩, h.front⟩
        · rw [wr64 (by omega) (by omega), List.length_append, List.length_take, List.length_drop]; omega
        · show o = (a.pool.give y.1 y.2).is x.1 x.2
          rw [give_liv hok.pok hyo.symm]
          rw [List.getElem?_set] at ho2
          by_cases hj : r = j
          · subst hj
            rw [hy] at hx
            obtain rfl := Option.some.inj hx
            rw [if_pos rfl, if_pos (by omega)] at ho2
            obtain rfl := Option.some.inj ho2
            rw [if_pos rfl]
          · rw [if_neg hj] at ho2
            rw [if_neg (fun he => hj (by subst he; exact (hrinj j hx).symm))]
            exact hS.on j x o hx ho2
      | false =>
        have hd : a.despawn y = (a, 41) := by unfold WA.despawn; rw [if_neg (by rw [← hyo]; simp)]
        rw [hd] at h ⊢
        dsimp only at h ⊢
        refine h.ixld (k := .b) (s := on) (y := false) (x := false) 3 rfl (by omega) ho' bv_len rfl ?_
        refine ifF (by decide) ?_
        refine h.ixld (k := .b) (s := on) (y := false) (x := false) 3 rfl (by omega) ho' bv_len rfl ?_
        refine ifF (by simp) ?_
        have h : Hp [] w w10 ([(tRd deeds 4 ddv xs).ro, tW b a, tSl all 43 2 ent A, tSl on 4 1 bv O] ++ [tBlk db 47 [.int .i64 d.1, .int .i64 d.2.1, .int .i64 d.2.2.1, .int .i64 d.2.2.2]]) := h
        exact ⟨deeds.len - (k + 1), by omega, k + 1, a, A, O, by rw [wr64 (by omega) (by omega)]; omega, by omega, by omega, rfl, ⟨hS.ks, hS.most, ⟨L, hG.step, rfl⟩, hS.len, hS.on, hS.nd⟩, h.front⟩
  · refine ifF (by simp; omega) ?_
    refine ⟨fun q m5 w' => ∃ j : Nat, q = j ∧ j ≤ A.length ∧ m5 = A.length - j ∧ Hp [] w w' [(tRd deeds 4 ddv xs).ro, tW b a, tSl all 43 2 ent A, tSl on 4 1 bv O], ⟨A.length, 0, rfl, by omega, rfl, h⟩, ?_⟩
    clear h
    rintro q m5 w5 ⟨j, rfl, hj, rfl, h⟩
    by_cases hjl : j < A.length
    · refine ifT (by simp; omega) ?_
      have hy : A[j]? = some A[j] := by simp [hjl]
      have ho : O[j]? = some (O[j]'(by omega)) := by simp [show j < O.length by omega]
      have hyo := hS.on j _ _ hy ho
      generalize A[j] = y at hy hyo
      generalize O[j]'(by omega) = o at ho hyo
      have hlv := hok.liv y
      rw [← hyo] at hlv
      have hfl : fl a.ks 9 = none := by rw [hS.ks]; rfl
      have ho' : O[((j : Nat) : Int).toNat]? = some o := by rw [Int.toNat_natCast]; exact ho
      have hget : (a.get y 9).2 = if o = true then 60 else 41 := by
        unfold WA.get
        cases hr : a.row y with
        | none => rw [hr] at hlv; simp at hlv; subst hlv; rfl
        | some p => rw [hr] at hlv; simp at hlv; subst hlv; dsimp only; rw [hfl]; rfl
      have hask : a.ask y 9 = (([], 0, 0), if o = true then 60 else 41) := by
        unfold WA.ask
        cases hr : a.row y with
        | none => rw [hr] at hlv; simp at hlv; subst hlv; rfl
        | some p => rw [hr] at hlv; simp at hlv; subst hlv; dsimp only; rw [hfl]; rfl
      have hne : (if o = true then (60 : Int) else 41) ≠ 0 := by cases o <;> decide
      have hset : a.set y (9, []) = (a, if o = true then 60 else 41) := by unfold WA.set; dsimp only; rw [hask, if_pos hne]
      have hrem : a.remove y 9 = (a, if o = true then 60 else 41) := by unfold WA.remove; rw [hask, if_pos hne]
      have hadd : a.add y (9, []) = (a, if o = true then 60 else 41) := by unfold WA.add; dsimp only; rw [hask, if_pos hne]
      have hrow : (a.rowE y).2 = if o = true then 0 else 41 := by
        unfold WA.rowE
        cases hr : a.row y with
        | none => rw [hr] at hlv; simp at hlv; subst hlv; rfl
        | some p => rw [hr] at hlv; simp at hlv; subst hlv; rfl
      have ldy : ∀ {w' : World} {more : List Thing} {K : Int → Int → Prop}, Hp [] w w' ([(tRd deeds 4 ddv xs).ro, tW b a, tSl all 43 2 ent A, tSl on 4 1 bv O] ++ more) → K y.1 y.2 → Ix all.a all.len ((j : Nat) : Int) 2 fun (ad : Addr) => Ld (.i .i64) w' ad fun (i1 : Int) => Ld (.i .i64) w' (ad.add 1) fun (i2 : Int) => K i1 i2 := fun {w' more K} h hK => by
        refine h.ixr (s := all) (l := A) (f := ent) (n := 2) (e := 43) 2 rfl (by omega) (by rw [Int.toNat_natCast]; exact hy) ent_len fun ad2 hc2 => ?_
        refine ldR0 (k := .i .i64) (x := y.1) (hc2 0 (by omega)) rfl ?_
        exact ldR (k := .i .i64) (x := y.2) (hc2 1 (by omega)) rfl hK
      refine ldy (more := []) h ?_
      refine Lives_W h 1 (e := y) rfl fun w6 h => ?_
      rw [hlv]
      refine ldy (more := []) h ?_
      refine Row_W h 1 (e := y) rfl fun s1 w7 h => ?_
      refine h.nw (c := [_, _, _]) fun x1 w8 h => ?_
      refine h.st0 5 rfl (by simp) rfl fun w9 h => ?_
      refine h.st (n := 1) 5 rfl (by simp) rfl fun w10 h => ?_
      refine h.st (n := 2) 5 rfl (by simp) rfl fun w11 h => ?_
      have h : Hp [] w w11 ([(tRd deeds 4 ddv xs).ro, tW b a, tSl all 43 2 ent A, tSl on 4 1 bv O] ++ [tParts s1 (a.rowE y).1.2, tBlk x1 65 [.int .i64 (a.rowE y).1.1.1, .int .i64 (a.rowE y).1.1.2, .slice s1.a s1.len s1.cap]]) := h
      have h := h.front
      refine ldy (more := []) h ?_
      refine Get_W h 1 (e := y) rfl (by decide) (by decide) fun s2 w12 h => ?_
      refine h.nw (c := [_, _]) fun x2 w13 h => ?_
      refine h.st0 5 rfl (by simp) rfl fun w14 h => ?_
      refine h.st (n := 1) 5 rfl (by simp) rfl fun w15 h => ?_
      have h : Hp [] w w15 ([(tRd deeds 4 ddv xs).ro, tW b a, tSl all 43 2 ent A, tSl on 4 1 bv O] ++ [tSl s2 2 1 iv (a.get y 9).1, tBlk x2 40 [.int .i64 (if (a.get y 9).2 = 0 then 9 else 0), .slice s2.a s2.len s2.cap]]) := h
      have h := h.front.nil 2 1 iv
      refine ldy (more := [_]) h ?_
      refine Set_W h 1 4 (by decide) (e := y) (v := []) rfl rfl Hp.rdSl (by decide) (by decide) (by simp [R64]) fun w16 h => ?_
      rw [hset] at h ⊢
      refine ldy (more := [_]) h ?_
      refine Remove_W h 1 (e := y) (a := a) rfl (by decide) (by decide) fun w17 h => ?_
      rw [hrem] at h ⊢
      refine ldy (more := [_]) h ?_
      refine Add_W h 1 4 (by decide) (e := y) (v := []) (a := a) rfl rfl (by decide) (by decide) (by simp [R64]) fun w18 h => ?_
      rw [hadd] at h ⊢
      dsimp only
      have h : Hp [] w w18 ([(tRd deeds 4 ddv xs).ro, tW b a, tSl all 43 2 ent A, tSl on 4 1 bv O] ++ [tSl ⟨none, 0, 0⟩ 2 1 iv []]) := h
      have h := h.front
      refine ⟨fun want w' => want = (if o = true then (60 : Int) else 41) ∧ w' = w18, ?_, ?_⟩
      · refine h.ixld (k := .b) (s := on) (y := o) (x := o) 3 rfl (by omega) ho' bv_len rfl ?_
        cases o with
        | true => exact ifF (by decide) ⟨rfl, rfl⟩
        | false => exact ifT rfl ⟨rfl, rfl⟩
      rintro want _ ⟨rfl, rfl⟩
      refine h.ixld (k := .b) (s := on) (y := o) (x := o) 3 rfl (by omega) ho' bv_len rfl ?_
      refine ifF (by simp) ?_
      refine h.ixld (k := .b) (s := on) (y := o) (x := o) 3 rfl (by omega) ho' bv_len rfl ?_
      refine ifF (by rw [hrow]; cases o <;> decide) ?_
      refine ifF (by rw [hget]; simp) ?_
      refine ifF (by simp) (ifF (by simp) (ifF (by simp) ?_))
      exact ⟨A.length - (j + 1), by omega, j + 1, by rw [wr64 (by omega) (by omega)]; omega, by omega, rfl, h⟩
    · refine ifF (by simp; omega) ?_
      refine Rows_W h 1 rfl fun rs w6 h => ?_
      have hrl := h.nest_see (s := rs) (l := a.rows) (e := 65) (n := 3) (cells := rdv) (sub := tPs) (vis := rvis) 4 rfl
      have hcnt : a.rows.length = L.length := by
        unfold WA.rows WA.all
        rw [List.length_map, FI.allU_count _ _ (by rw [hok.pok.len]; exact Nat.le_refl _), hG.lenL, ← hok.pok.len, List.take_length]
      have e : ((rs.len : Int) == ((L.length : Nat) : Int)) = true := by simp; omega
      rw [e]
      exact hK w6 h.1

end
end Go.Proofs.Ytcccjgmekakabaa.FW
end

section
set_option linter.unusedSimpArgs false
set_option linter.unusedVariables false
set_option maxRecDepth 100000
namespace Go.Proofs.Ytcccjgmekakabaa.FW
open Go.Proofs.Ytcccjgmekakabaa.F
open Go Go.Den Go.Proofs Go.RowKit
theorem und47 : Try.prog.underlying 47 = some (.struct (Try.prog.fieldsOf 47)) := by kernel_rfl

theorem und29 : Try.prog.underlying 29 = some (.slice 47) := by kernel_rfl

theorem und2 : Try.prog.underlying 2 = some (.int .i64) := by kernel_rfl

theorem cel3 : Try.prog.cellsOf 3 = 1 := by kernel_rfl

theorem cel2 : Try.prog.cellsOf 2 = 1 := by kernel_rfl

theorem cel47 : Try.prog.cellsOf 47 = 4 := by kernel_rfl

def DeedOk (x : Deed) : Prop := (-9223372036854775808 ≤ x.1 ∧ x.1 ≤ 9223372036854775807) ∧ (-9223372036854775808 ≤ x.2.1 ∧ x.2.1 ≤ 9223372036854775807) ∧ (-9223372036854775808 ≤ x.2.2.1 ∧ x.2.2.1 ≤ 9223372036854775807)

theorem dec_deed {w : World} {B m : Nat} {ci : List Value} (hl : ci.length = 4) (h : RdV Try.prog w B m 47 ci) : ∃ x : Deed, ci = ddv x ∧ DeedOk x := by
  obtain ⟨_, q, hf⟩ := rd_struct und47 h
  match ci, hl with
  | [c0, c1, c2, c3], _ =>
    obtain ⟨m0, e0, k0⟩ := rd_int und3 (rd_field hf 0 (ft := 3) (off := 0) (sz := 1) (by kernel_rfl) cel3)
    obtain ⟨m1, e1, k1⟩ := rd_int und3 (rd_field hf 1 (ft := 3) (off := 1) (sz := 1) (by kernel_rfl) cel3)
    obtain ⟨m2, e2, k2⟩ := rd_int und3 (rd_field hf 2 (ft := 3) (off := 2) (sz := 1) (by kernel_rfl) cel3)
    obtain ⟨m3, e3, _⟩ := rd_int und2 (rd_field hf 3 (ft := 2) (off := 3) (sz := 1) (by kernel_rfl) cel2)
    simp only [List.drop_zero, List.drop_succ_cons, List.take_succ_cons, List.take_zero, List.cons.injEq, and_true] at e0 e1 e2 e3
    subst e0 e1 e2 e3
    have g0 : IntKind.i64.min ≤ m0 ∧ m0 ≤ IntKind.i64.max := by simpa [Lit.wf] using k0
    have g1 : IntKind.i64.min ≤ m1 ∧ m1 ≤ IntKind.i64.max := by simpa [Lit.wf] using k1
    have g2 : IntKind.i64.min ≤ m2 ∧ m2 ≤ IntKind.i64.max := by simpa [Lit.wf] using k2
    exact ⟨(m0, m1, m2, m3), rfl, g0, g1, g2⟩

theorem dec_deeds {w : World} {B n : Nat} {a : Option Addr} {len cap : Nat} (h : RdV Try.prog w B n 29 [.slice a len cap]) : ∃ (l : List Deed) (o : List Nat), SlR w ⟨a, len, cap⟩ 4 ddv l o ∧ ∀ x ∈ l, DeedOk x := by
  obtain ⟨s, l, o, h1, h2, h3, _⟩ := rd_slice (f := ddv) (G := DeedOk) und29 cel47 (by omega) (fun m ci hl hr => dec_deed hl hr) h
  simp only [List.cons.injEq, Value.slice.injEq, and_true] at h1
  obtain ⟨rfl, rfl, rfl⟩ := h1
  exact ⟨l, o, h2, h3⟩

theorem stale_call {w : World} {B n : Nat} {a : Option Addr} {len cap : Nat} (h : RdV Try.prog w B n 29 [.slice a len cap]) :
    Calls Try.prog 5 #[.slice a len cap] w fun e w' => e = .returned (.bool true) ∧ Below w.heap.size w w' := by
  obtain ⟨l, o, h2, h3⟩ := dec_deeds h
  exact calls_true (stale_spec (deeds := ⟨a, len, cap⟩) h2 (fun x hx => h3 x hx) fun w' hf => ⟨rfl, hf⟩)

end Go.Proofs.Ytcccjgmekakabaa.FW
end
