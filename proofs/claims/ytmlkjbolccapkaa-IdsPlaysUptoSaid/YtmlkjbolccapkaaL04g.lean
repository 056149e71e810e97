/-
  The walk of IdsPlays: the law itself.
-/
import Derived.Test.YtmlkjbolccapkaaL04f
set_option linter.unusedSimpArgs false
set_option linter.unusedVariables false
set_option maxRecDepth 100000
namespace Go.Proofs.Ytmlkjbolccapkaa.F
open Go Go.Den Go.Proofs

structure OpM where
  kind : Int
  n : Int
  a : Int
  ei : Int
  eg : Int
  gens : Sl
  free : Sl
def opc (x : OpM) : List Value := [.int .i64 x.kind, .int .i64 x.n, .int .i64 x.a, .int .i64 x.ei, .int .i64 x.eg, .slice x.gens.a x.gens.len x.gens.cap, .slice x.free.a x.free.len x.free.cap]
theorem opc_len (x : OpM) : (opc x).length = 7 := rfl

def OpAt (w : World) (x : OpM) : Prop :=
  -9223372036854775808 ≤ x.n ∧ -9223372036854775808 ≤ x.a ∧ (∃ (gs : List Int) (o : List Nat), SlR w x.gens 1 iv gs o ∧ gs.length ≤ 1000000000) ∧ ∃ (fs : List Int) (o : List Nat), SlR w x.free 1 iv fs o ∧ fs.length ≤ 1000000000

abbrev nilP : Value := .pointer none

/-- The first k pairs are made. -/
def Made (k : Nat) (ps : List Value) (R : List Thing) : Prop :=
  (k = 0 ∧ ps = [nilP, nilP, nilP, nilP] ∧ R = []) ∨
  (k = 1 ∧ ∃ b c m, m.Ok2 ∧ ps = [ptr b, ptr c, nilP, nilP] ∧ R = [tPool 60 b m, tPool 63 c m]) ∨
  (k = 2 ∧ ∃ b c m b' c' m', m.Ok2 ∧ m'.Ok2 ∧ ps = [ptr b, ptr c, ptr b', ptr c'] ∧ R = [tPool 60 b m, tPool 63 c m, tPool 60 b' m', tPool 63 c' m'])

theorem Made.len {k : Nat} {ps : List Value} {R : List Thing} (h : Made k ps R) : ps.length = 4 := by
  rcases h with ⟨_, rfl, _⟩ | ⟨_, _, _, _, _, rfl, _⟩ | ⟨_, _, _, _, _, _, _, _, _, rfl, _⟩ <;> rfl

theorem Made.next {k : Nat} {ps : List Value} {R : List Thing} (h : Made k ps R) (hk : k < 2) {b c : Nat} {m : PoolM} (hm : m.Ok2) : Made (k + 1) ((ps.set (k * 2) (ptr b)).set (k * 2 + 1) (ptr c)) (R ++ [tPool 60 b m, tPool 63 c m]) := by
  rcases h with ⟨rfl, rfl, rfl⟩ | ⟨rfl, b0, c0, m0, h0, rfl, rfl⟩ | ⟨rfl, _⟩
  · exact .inr (.inl ⟨rfl, b, c, m, hm, rfl, rfl⟩)
  · exact .inr (.inr ⟨rfl, b0, c0, m0, b, c, m, h0, hm, rfl, rfl⟩)
  · omega

set_option maxHeartbeats 2000000 in
theorem plays_spec {one two : Int} {script : Sl} {xs : List OpM} {o : List Nat} {w : World} {K : Bool → World → Prop} (hs : SlR w script 7 opc xs o) (hx : ∀ x ∈ xs, OpAt w x)
    (hK : ∀ w', Fr [] w w' → K true w') : f4 one two script w K := by
  unfold f4
  refine shown_spec fun w1 f1 => ?_
  have h := (Hp.begin_ w).keep f1
  refine h.nw (c := [_, _, _, _, _]) fun bw w2 h => ?_
  have h := h.nil 70 3 lsv
  have h := h.grow (Fr.refl _ _) (t := tBag []) (O := []) ⟨by simp, by simp⟩ (by simp) rfl
  simp only [List.cons_append, List.nil_append] at h
  have h := world_close (ps := [nilP, nilP, nilP, nilP]) (es := []) (ls := nilS) (rest := []) h
  refine h.nw (c := [_, _]) fun bb w2 h => ?_
  have h := h.blkSl (i := 1) (m := 2) (l := [one, two]) (f := iv) (n := 1) rfl rfl rfl iv_len
  simp only [List.cons_append, List.nil_append, List.set_cons_zero, List.set_cons_succ] at h
  refine ⟨fun t mm w' => ∃ (k : Nat) (ps : List Value) (R : List Thing), t = k ∧ k ≤ 2 ∧ mm = 2 - k ∧ Made k ps R ∧ Hp [] w w' (tWorld bw ps [] :: tSl ⟨some ⟨bb, 0, none⟩, 2, 2⟩ 3 1 iv [one, two] :: R),
    ⟨2, 0, _, [], rfl, by omega, rfl, .inl ⟨rfl, rfl, rfl⟩, h⟩, ?_⟩
  rintro t mm w3 ⟨k, ps, R, rfl, hk, rfl, hM, h⟩
  by_cases hlt : k < 2
  · refine ifT (by simp; omega) ?_
    have hpl := hM.len
    obtain ⟨x, hxk⟩ : ∃ x, [one, two][((k : Int)).toNat]? = some x := ⟨_, List.getElem?_eq_getElem (by simpa using hlt)⟩
    refine h.ixld (k := .i .i64) (s := ⟨some ⟨bb, 0, none⟩, 2, 2⟩) (y := x) (x := x) 1 rfl (by omega) hxk iv_len rfl ?_
    have fin : ∀ {w' : World} {b c : Nat} {m : PoolM} {K' : World → Prop}, m.Ok2 → Hp [] w w' (tWorld bw ps [] :: tSl ⟨some ⟨bb, 0, none⟩, 2, 2⟩ 3 1 iv [one, two] :: (R ++ [tPool 60 b m, tPool 63 c m])) →
        (∀ w'', Hp [] w w'' (tWorld bw ((ps.set (k * 2) (ptr b)).set (k * 2 + 1) (ptr c)) [] :: tSl ⟨some ⟨bb, 0, none⟩, 2, 2⟩ 3 1 iv [one, two] :: (R ++ [tPool 60 b m, tPool 63 c m])) → K' w'') →
        IxA ⟨bw, 0, none⟩ 2 (k : Int) 2 fun a => St a (ptr b) w' fun w => St (a.add 1) (ptr c) w K' := by
      intro w' b c m K' hm h hK'
      refine h.ixa (by omega) (by omega) ?_
      rw [Int.toNat_natCast]
      obtain ⟨O, h1, back⟩ := h.f1 (i := 0) rfl rfl
      obtain ⟨ls, h1⟩ := world_open h1 (i := 0) rfl
      refine h1.stv 0 rfl (by simp [hpl]; omega) rfl fun w1 h1 => ?_
      refine h1.stq 0 rfl (by simp [hpl]; omega) rfl fun w1 h1 => ?_
      simp only [List.cons_append, List.nil_append, List.set_cons_zero, List.set_cons_succ] at h1
      rw [List.set_append_left _ _ (by omega), List.set_append_left _ _ (by simp; omega)] at h1
      have h3 := back (rest := []) rfl rfl (world_close (rest := []) h1)
      rw [List.append_nil] at h3
      exact hK' _ h3
    by_cases hv : 1 ≤ x ∧ x ≤ 200
    · refine New_h h hv.1 hv.2 fun b w4 h => ?_
      refine h.ixld (k := .i .i64) (s := ⟨some ⟨bb, 0, none⟩, 2, 2⟩) (y := x) (x := x) 1 rfl (by omega) hxk iv_len rfl ?_
      refine RNew_h h hv.1 hv.2 fun c w4 h => ?_
      refine ifF (by simp) ?_
      simp only [List.cons_append, List.append_assoc, List.nil_append] at h
      refine ⟨fun p r w' => p = some ⟨b, 0, none⟩ ∧ r = some ⟨c, 0, none⟩ ∧ w' = w4, ifF (by simp) ⟨rfl, rfl, rfl⟩, ?_⟩
      rintro p r w5 ⟨rfl, rfl, rfl⟩
      refine fin (ok2_new hv.1 hv.2) h fun w6 h => ?_
      exact ⟨2 - (k + 1), by omega, k + 1, _, _, by rw [wr64 (by omega) (by omega)]; omega, by omega, rfl, hM.next hlt (ok2_new hv.1 hv.2), h⟩
    · refine New_bad (by omega) ?_
      refine h.ixld (k := .i .i64) (s := ⟨some ⟨bb, 0, none⟩, 2, 2⟩) (y := x) (x := x) 1 rfl (by omega) hxk iv_len rfl ?_
      refine RNew_bad (by omega) ?_
      refine ifF (by simp) ?_
      refine ⟨fun p r w' => ∃ b c, p = some ⟨b, 0, none⟩ ∧ r = some ⟨c, 0, none⟩ ∧ Hp [] w w' (tWorld bw ps [] :: tSl ⟨some ⟨bb, 0, none⟩, 2, 2⟩ 3 1 iv [one, two] :: (R ++ [tPool 60 b ⟨5, [], [], []⟩, tPool 63 c ⟨5, [], [], []⟩])), ifT rfl ?_, ?_⟩
      · refine New_h h (by omega) (by omega) fun b w4 h => ?_
        refine RNew_h h (by omega) (by omega) fun c w4 h => ?_
        simp only [List.cons_append, List.append_assoc, List.nil_append] at h
        exact ifF (by simp) ⟨b, c, rfl, rfl, h⟩
      · rintro p r w5 ⟨b, c, rfl, rfl, h⟩
        refine fin (ok2_new (by omega) (by omega)) h fun w6 h => ?_
        exact ⟨2 - (k + 1), by omega, k + 1, _, _, by rw [wr64 (by omega) (by omega)]; omega, by omega, rfl, hM.next hlt (ok2_new (by omega) (by omega)), h⟩
  refine ifF (by simp; omega) ?_
  obtain rfl : k = 2 := by omega
  obtain ⟨b, c, m, b', c', m', hm, hm', rfl, rfl⟩ : ∃ b c m b' c' m', m.Ok2 ∧ m'.Ok2 ∧ ps = [ptr b, ptr c, ptr b', ptr c'] ∧ R = [tPool 60 b m, tPool 63 c m, tPool 60 b' m', tPool 63 c' m'] := by
    rcases hM with ⟨h, _⟩ | ⟨h, _⟩ | ⟨_, h⟩
    · omega
    · omega
    · exact h
  have hst : St4 [] w w3 bw 0 0 := ⟨[], b, c, m, b', c', m', Nat.le_refl _, hm, hm', h.sel5 0 2 3 4 5 (by decide) rfl rfl rfl rfl rfl⟩
  refine ⟨fun t mm w' => ∃ k : Nat, t = k ∧ k ≤ 400 ∧ k ≤ xs.length ∧ mm + k = 400 ∧ St4 [] w w' bw (8 * k) 0, ⟨400, 0, rfl, by omega, by omega, by omega, hst⟩, ?_⟩
  clear hst h hM hm hm' m m' b c b' c'
  rintro t mm w4 ⟨k, rfl, hk, hkx, hmm, es, b, c, m, b', c', m', hes, hm, hm', h⟩
  have hsl : xs.length = script.len := hs.1
  by_cases hlt : k < xs.length ∧ k < 400
  · refine ifT (by simp; omega) ?_
    have hxk : xs[((k : Int)).toNat]? = some xs[k] := by simp [hlt.1]
    obtain ⟨r1, r2, ⟨gs, og, hg, hgl⟩, fs, of_, hf, hfl⟩ := hx xs[k] (List.getElem_mem hlt.1)
    generalize xs[k] = x at hxk r1 r2 hg hf
    have hsc := h.addRo (t := tRd script 7 opc xs) hs (by simp)
    refine hsc.ixrR 5 (n := 7) (f := opc) (y := x) rfl (by omega) hxk opc_len fun a ha => ?_
    refine ldR0 (k := .i .i64) (x := x.kind) (ha 0 (by omega)) rfl ?_
    refine ldR (k := .i .i64) (x := x.n) (ha 1 (by omega)) rfl ?_
    refine ldR (k := .i .i64) (x := x.a) (ha 2 (by omega)) rfl ?_
    refine ldR (k := .i .i64) (x := x.ei) (ha 3 (by omega)) rfl ?_
    refine ldR (k := .i .i64) (x := x.eg) (ha 4 (by omega)) rfl ?_
    refine ldR (k := .sl) (x := x.gens) (ha 5 (by omega)) rfl ?_
    refine ldR (k := .sl) (x := x.free) (ha 6 (by omega)) rfl ?_
    have h := h.addRo (t := tRd x.gens 1 iv gs) hg (by simp)
    have h := h.addRo (t := tRd x.free 1 iv fs) hf (by simp)
    simp only [List.cons_append, List.nil_append] at h
    refine step_spec (N := 8 * k) r1 r2 (by omega) hes hm hm' h ⟨Hp.rdRd.rd⟩ ⟨Hp.rdRd.rd⟩ hgl hfl fun w5 hst => ?_
    obtain ⟨es, b, c, m, b', c', m', hes, hm, hm', h⟩ := hst
    refine looks_spec h 0 (psN_len _ _ _ _ _) rfl (by omega) fun w5 h => ?_
    refine ifF (by simp) ?_
    exact ⟨mm - 1, by omega, k + 1, by rw [wr64 (by omega) (by omega)]; omega, by omega, by omega, by omega, es, b, c, m, b', c', m', by omega, hm, hm', h⟩
  · refine ifF (by simp; omega) ?_
    refine h.ixa (by omega) (by omega) ?_
    obtain ⟨ls, O, hw, _⟩ := world_see h 0 rfl
    refine hw.ldv (k := .p) (x := some ⟨b, 0, none⟩) 0 rfl rfl ?_
    rw [Addr.add_none]
    refine hw.ldv (k := .p) (x := some ⟨c, 0, none⟩) 0 rfl rfl ?_
    refine state_spec h 0 1 2 (by omega) (by omega) (psN_len _ _ _ _ _) hm rfl rfl rfl (by omega) fun es2 w5 hl2 h => ?_
    simp only [List.set_cons_zero] at h
    refine h.ixa (by omega) (by omega) ?_
    obtain ⟨ls, O, hw, _⟩ := world_see h 0 rfl
    refine hw.ldv (k := .p) (x := some ⟨b', 0, none⟩) 0 rfl rfl ?_
    rw [Addr.add_none]
    refine hw.ldv (k := .p) (x := some ⟨c', 0, none⟩) 0 rfl rfl ?_
    refine state_spec h 0 3 4 (by omega) (by omega) (psN_len _ _ _ _ _) hm' rfl rfl rfl (by omega) fun es3 w6 hl3 h => ?_
    have := hK w6 h.fr
    simpa using this
end Go.Proofs.Ytmlkjbolccapkaa.F
