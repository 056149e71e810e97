/-
  The law's own functions of IdsPlays: one step, walked.
-/
import Derived.Test.YtmlkjbolccapkaaL04e
set_option linter.unusedSimpArgs false
set_option linter.unusedVariables false
set_option maxRecDepth 100000
namespace Go.Proofs.Ytmlkjbolccapkaa.F
open Go Go.Den Go.Proofs

section
variable {S : List Nat} {w0 w : World} {its : List Thing}

set_option maxHeartbeats 4000000 in
theorem step_spec {bw N b c b' c' : Nat} {m m' : PoolM} {es : List Ls} {o1 o2 o3 o4 o5 : Int} {g f : Sl} {gens free : List Int} {ug uf : Thing} (ho2 : -9223372036854775808 ≤ o2) (ho3 : -9223372036854775808 ≤ o3) (hN : N ≤ 90000)
    (hes : es.length ≤ N) (hm0 : m.Ok2) (hm0' : m'.Ok2) (h : Hp S w0 w [tWorld bw (psN 0 (ptr b) (ptr c) (ptr b') (ptr c')) es, tPool 60 b m, tPool 63 c m, tPool 60 b' m', tPool 63 c' m', ug, uf])
    (hug : Hp.Reads ug g 1 iv gens) (huf : Hp.Reads uf f 1 iv free) (hgl : gens.length ≤ 1000000000) (hfl : free.length ≤ 1000000000) {K : Bool → World → Prop}
    (hK : ∀ w', St4 S w0 w' bw (N + 8) 0 → K true w') : c16 (some ⟨bw, 0, none⟩) o1 o2 o3 o4 o5 g f w K := by
  refine c16_of ?_
  unfold f16
  refine h.nw (c := [_, _, _, _, _, _, _]) fun o w1 h1 => ?_
  refine h1.ld (x := o2) 7 rfl rfl ?_
  refine pick_spec (by omega) ?_
  obtain ⟨r0, r1⟩ := pk_range (n := 2) ho2 (by omega)
  obtain ⟨n, hn⟩ : ∃ n : Nat, pk o2 2 = n := ⟨(pk o2 2).toNat, by omega⟩
  rw [hn] at r0 r1 ⊢
  have hn2 : n < 2 := by omega
  obtain ⟨es, b, c, m, b', c', m', hes, hm, hm', h1⟩ : ∃ es b c m b' c' m', es.length ≤ N ∧ m.Ok2 ∧ m'.Ok2 ∧ Hp S w0 w1 [tWorld bw (psN n (ptr b) (ptr c) (ptr b') (ptr c')) es, tPool 60 b m, tPool 63 c m, tPool 60 b' m', tPool 63 c' m', ug, uf, tBlk o 55 [.int .i64 o1, .int .i64 o2, .int .i64 o3, .int .i64 o4, .int .i64 o5, .slice g.a g.len g.cap, .slice f.a f.len f.cap]] := by
    match n, hn2 with
    | 0, _ => exact ⟨es, b, c, m, b', c', m', hes, hm0, hm0', h1⟩
    | 1, _ => exact ⟨es, b', c', m', b, c, m, hes, hm0', hm0, sel8 h1 0 3 4 1 2 5 6 7 (by decide) rfl rfl rfl rfl rfl rfl rfl rfl⟩
  clear hm0 hm0' h
  have fin : ∀ {w' : World}, St4 S w0 w' bw (N + 8) n → K true w' := fun h => hK _ (h.swap hn2)
  have hpl := psN_len n (ptr b) (ptr c) (ptr b') (ptr c')
  refine nns ?_
  obtain ⟨ls, Ob, hs, _⟩ := world_see h1 0 rfl
  refine h1.ixa (by omega) (by omega) ?_
  rw [Int.toNat_natCast]
  refine hs.ldv (k := .p) (x := some ⟨b, 0, none⟩) 0 rfl (psN_0 hn2 _ _ _ _ _) ?_
  rw [Addr.add_none]
  refine hs.ldv (k := .p) (x := some ⟨c, 0, none⟩) 0 rfl (psN_1 hn2 _ _ _ _ _) ?_
  refine h1.nw (c := [_, _]) fun x w1 h1 => ?_
  refine h1.st0 8 rfl (by simp) rfl fun w1 h1 => ?_
  refine h1.st 8 rfl (by simp) rfl fun w1 h1 => ?_
  simp only [List.cons_append, List.nil_append, List.set_cons_zero, List.set_cons_succ] at h1
  refine h1.ld0 (x := o1) 7 rfl rfl ?_
  by_cases k1 : o1 = 1
  · refine ifT (by simpa using k1) ?_
    refine h1.ld0 (k := .p) (x := some ⟨b, 0, none⟩) 8 rfl rfl ?_
    refine Take_h h1 1 hm.toOk rfl fun w1 h1 => ?_
    refine h1.nw (c := [_, _]) fun a w1 h1 => ?_
    refine h1.st0 9 rfl (by simp) rfl fun w1 h1 => ?_
    refine h1.st 9 rfl (by simp) rfl fun w1 h1 => ?_
    simp only [List.cons_append, List.nil_append, List.set_cons_zero, List.set_cons_succ] at h1
    refine h1.ld (k := .p) (x := some ⟨c, 0, none⟩) 8 rfl rfl ?_
    refine RTake_h h1 2 hm.toOk rfl fun w1 h1 => ?_
    refine h1.nw (c := [_, _]) fun a2 w1 h1 => ?_
    refine h1.st0 10 rfl (by simp) rfl fun w1 h1 => ?_
    refine h1.st 10 rfl (by simp) rfl fun w1 h1 => ?_
    simp only [List.cons_append, List.nil_append, List.set_cons_zero, List.set_cons_succ] at h1
    refine h1.ld0 (x := m.takeM.2.1.1) 9 rfl rfl ?_
    refine h1.ld (x := m.takeM.2.1.2) 9 rfl rfl ?_
    refine h1.ld0 (x := m.takeM.2.1.1) 10 rfl rfl ?_
    refine h1.ld (x := m.takeM.2.1.2) 10 rfl rfl ?_
    refine eqEnt ?_
    have := fin ⟨es, b, c, m.takeM.1, b', c', m', by omega, (takeM_ok hm).1, hm', h1.sel5 0 1 2 3 4 (by decide) rfl rfl rfl rfl rfl⟩
    simpa using this
  refine ifF (by simpa using k1) ?_
  by_cases k2 : o1 = 2
  · refine ifT (by simpa using k2) ?_
    refine h1.dr fun w1 h1 => ?_
    refine h1.ld0 (k := .p) (x := some ⟨b, 0, none⟩) 8 rfl rfl ?_
    refine h1.ld (x := o4) 7 rfl rfl ?_
    refine h1.lda (x := o5) 7 rfl rfl ?_
    refine h1.ld (k := .p) (x := some ⟨c, 0, none⟩) 8 rfl rfl ?_
    refine h1.ld (x := o4) 7 rfl rfl ?_
    refine h1.lda (x := o5) 7 rfl rfl ?_
    refine Give_h h1 1 hm.toOk rfl fun w1 h1 => ⟨h1.cel 7 rfl rfl, h1.cela 7 rfl rfl, h1.cel 8 rfl rfl, ?_⟩
    refine RGive_h h1 2 hm.toOk rfl fun w1 h1 => ?_
    have := fin ⟨es, b, c, (m.giveM o4 o5).1, b', c', m', by omega, (giveM_ok hm _ _).1, hm', h1.sel5 0 1 2 3 4 (by decide) rfl rfl rfl rfl rfl⟩
    simpa using this
  refine ifF (by simpa using k2) ?_
  by_cases k3 : o1 = 3
  · refine ifT (by simpa using k3) ?_
    refine h1.ld (k := .p) (x := some ⟨c, 0, none⟩) 8 rfl rfl ?_
    refine RAll_h h1 2 hm.toOk rfl fun l w1 h1 => ?_
    have hal := PoolM.allU_len m m.gens.length
    have h200 := hm.toOk.len200
    have hll := h1.len 9 rfl
    generalize m.allU m.gens.length = L at hal hll h1
    by_cases hz : l.len = 0
    · refine ifT (by simpa using hz) ?_
      exact fin ⟨es, b, c, m, b', c', m', by omega, hm, hm', h1.sel5 0 1 2 3 4 (by decide) rfl rfl rfl rfl rfl⟩
    refine ifF (by simpa using hz) ?_
    refine h1.ld (x := o3) 7 rfl rfl ?_
    refine pick_spec (by omega) ?_
    obtain ⟨s0, s1⟩ := pk_range (n := (l.len : Int)) ho3 (by omega)
    generalize pk o3 (l.len : Int) = q at s0 s1 ⊢
    have hql : q.toNat < L.length := by omega
    refine h1.ixld2 (k := .i .i64) (k' := .i .i64) (y := L[q.toNat]) (x := L[q.toNat].1) (x' := L[q.toNat].2) 9 rfl s0 (by simp [hql]) ent_len rfl rfl ?_
    generalize L[q.toNat] = y
    refine h1.nw (c := [_, _]) fun a w1 h1 => ?_
    refine h1.st0 10 rfl (by simp) rfl fun w1 h1 => ?_
    refine h1.st 10 rfl (by simp) rfl fun w1 h1 => ?_
    simp only [List.cons_append, List.nil_append, List.set_cons_zero, List.set_cons_succ] at h1
    refine h1.dr fun w1 h1 => ?_
    refine h1.ld0 (k := .p) (x := some ⟨b, 0, none⟩) 8 rfl rfl ?_
    refine h1.ld0 (x := y.1) 10 rfl rfl ?_
    refine h1.ld (x := y.2) 10 rfl rfl ?_
    refine h1.ld (k := .p) (x := some ⟨c, 0, none⟩) 8 rfl rfl ?_
    refine h1.ld0 (x := y.1) 10 rfl rfl ?_
    refine h1.ld (x := y.2) 10 rfl rfl ?_
    refine Give_h h1 1 hm.toOk rfl fun w1 h1 => ⟨h1.cel0 10 rfl rfl, h1.cel 10 rfl rfl, h1.cel 8 rfl rfl, ?_⟩
    refine RGive_h h1 2 hm.toOk rfl fun w1 h1 => ?_
    have := fin ⟨es, b, c, (m.giveM y.1 y.2).1, b', c', m', by omega, (giveM_ok hm _ _).1, hm', h1.sel5 0 1 2 3 4 (by decide) rfl rfl rfl rfl rfl⟩
    simpa using this
  refine ifF (by simpa using k3) ?_
  by_cases k4 : o1 = 4
  · refine ifT (by simpa using k4) ?_
    refine h1.ld0 (k := .p) (x := some ⟨b, 0, none⟩) 8 rfl rfl ?_
    refine h1.ld (k := .p) (x := some ⟨c, 0, none⟩) 8 rfl rfl ?_
    refine h1.ld0 (x := o1) 7 rfl rfl ?_
    refine h1.ld (x := o2) 7 rfl rfl ?_
    refine h1.ld (x := o3) 7 rfl rfl ?_
    refine h1.ld (x := o4) 7 rfl rfl ?_
    refine h1.ld (x := o5) 7 rfl rfl ?_
    refine h1.ld (k := .sl) (x := g) 7 rfl rfl ?_
    refine h1.ld (k := .sl) (x := f) 7 rfl rfl ?_
    refine look_spec h1 0 1 2 (by omega) (by omega) hpl hm rfl rfl rfl (by omega) fun es2 w1 hl2 h1 => ?_
    exact fin ⟨es2, b, c, m, b', c', m', by omega, hm, hm', h1.sel5 0 1 2 3 4 (by decide) rfl rfl rfl rfl rfl⟩
  refine ifF (by simpa using k4) ?_
  by_cases k5 : o1 = 5
  · refine ifT (by simpa using k5) ?_
    refine h1.ld0 (k := .p) (x := some ⟨b, 0, none⟩) 8 rfl rfl ?_
    refine h1.ld (k := .p) (x := some ⟨c, 0, none⟩) 8 rfl rfl ?_
    refine state_spec h1 0 1 2 (by omega) (by omega) hpl hm rfl rfl rfl (by omega) fun es2 w1 hl2 h1 => ?_
    exact fin ⟨es2, b, c, m, b', c', m', by omega, hm, hm', h1.sel5 0 1 2 3 4 (by decide) rfl rfl rfl rfl rfl⟩
  refine ifF (by simpa using k5) ?_
  by_cases k6 : o1 = 6
  · refine ifT (by simpa using k6) ?_
    refine h1.ld (x := o3) 7 rfl rfl ?_
    refine h1.ld (k := .sl) (x := g) 7 rfl rfl ?_
    refine h1.ld (k := .sl) (x := f) 7 rfl rfl ?_
    refine from_spec h1 5 6 (u := ug) (v := uf) rfl rfl hug huf hgl hfl (fun w1 _ h1 => ?_) (fun mm p r w1 hfm h1 => ?_)
    · refine h1.nw (c := [_, _]) fun y w1 h1 => ?_
      refine h1.st0 9 rfl (by simp) rfl fun w1 h1 => ?_
      refine h1.st 9 rfl (by simp) rfl fun w1 h1 => ?_
      simp only [List.cons_append, List.nil_append, List.set_cons_zero, List.set_cons_succ] at h1
      have h5 := h1.sel5 0 1 2 3 4 (by decide) rfl rfl rfl rfl rfl
      refine ⟨fun t w' => t = false ∧ w' = w1, ifT rfl ?_, ?_⟩
      · exact h1.ld (k := .p) (x := none) 9 rfl rfl ⟨rfl, rfl⟩
      · rintro t w2 ⟨rfl, rfl⟩
        exact ifF (by simp) (fin ⟨es, b, c, m, b', c', m', by omega, hm, hm', h5⟩)
    · obtain ⟨hmm, _⟩ := fromM_ok hfm
      refine h1.nw (c := [_, _]) fun y w1 h1 => ?_
      refine h1.st0 11 rfl (by simp) rfl fun w1 h1 => ?_
      refine h1.st 11 rfl (by simp) rfl fun w1 h1 => ?_
      simp only [List.cons_append, List.nil_append, List.set_cons_zero, List.set_cons_succ] at h1
      refine ⟨fun t w' => t = true ∧ w' = w1, ifT rfl ?_, ?_⟩
      · exact h1.ld (k := .p) (x := some ⟨r, 0, none⟩) 11 rfl rfl ⟨rfl, rfl⟩
      · rintro t w2 ⟨rfl, rfl⟩
        refine ifT rfl ?_
        refine h1.dr fun w1 h1 => ?_
        refine h1.ld0 (k := .p) (x := some ⟨p, 0, none⟩) 11 rfl rfl ?_
        refine h1.ld (k := .p) (x := some ⟨r, 0, none⟩) 11 rfl rfl ?_
        refine nns ?_
        have h7 := sel7 h1 0 1 2 3 4 9 10 (by decide) rfl rfl rfl rfl rfl rfl rfl
        exact put_n (a := 0) (N := N + 8) hn2 (by omega) hm' hmm h7 fun w' hs => fin hs
  refine ifF (by simpa using k6) ?_
  by_cases k7 : o1 = 7
  · refine ifT (by simpa using k7) ?_
    refine h1.dr fun w1 h1 => ?_
    refine h1.ld0 (k := .p) (x := some ⟨b, 0, none⟩) 8 rfl rfl ?_
    refine h1.ld (k := .p) (x := some ⟨c, 0, none⟩) 8 rfl rfl ?_
    have h1 := h1.opt 46 [.pointer none, .pointer none]
    simp only [List.cons_append, List.nil_append, List.set_cons_zero, List.set_cons_succ] at h1
    refine h1.fls 9 rfl fun y w1 h1 => ?_
    refine Clone_h h1 1 hm.toOk rfl fun p w1 h1 => ⟨h1.cel 8 rfl rfl, ?_⟩
    refine h1.fls 9 rfl fun y w1 h1 => ?_
    refine RClone_h h1 2 hm.toOk rfl fun r w1 h1 => ?_
    refine h1.fls 9 rfl fun y w1 h1 => ?_
    refine h1.need 9 rfl fun by_ h1 => ?_
    simp only [List.cons_append, List.nil_append, List.set_cons_zero, List.set_cons_succ] at h1
    refine h1.st0 9 rfl (by simp) rfl fun w1 h1 => ?_
    refine h1.st 9 rfl (by simp) rfl fun w1 h1 => ?_
    simp only [List.cons_append, List.nil_append, List.set_cons_zero, List.set_cons_succ] at h1
    refine h1.ld0 (k := .p) (x := some ⟨p, 0, none⟩) 9 rfl rfl ?_
    refine ifF (by simp) ?_
    refine h1.dr fun w1 h1 => ?_
    refine h1.ld0 (k := .p) (x := some ⟨p, 0, none⟩) 9 rfl rfl ?_
    refine h1.ld (k := .p) (x := some ⟨r, 0, none⟩) 9 rfl rfl ?_
    refine nns ?_
    have h7 := sel7 h1 0 1 2 3 4 10 11 (by decide) rfl rfl rfl rfl rfl rfl rfl
    exact put_o (a := 0) (N := N + 8) hn2 (by omega) hm hm h7 (by rw [wr64 (by omega) (by omega)]; omega) fun w' hs => fin hs
  refine ifF (by simpa using k7) ?_
  by_cases k8 : o1 = 8
  · refine ifT (by simpa using k8) ?_
    refine h1.ld0 (k := .p) (x := some ⟨b, 0, none⟩) 8 rfl rfl ?_
    refine State_h h1 1 hm.toOk rfl fun gs fr w1 h1 => ?_
    have hsl := stl hm.toOk
    have hf2 := Ok.free200 hm.toOk
    refine h1.dr fun w1 h1 => ?_
    refine h1.ld (k := .p) (x := some ⟨c, 0, none⟩) 8 rfl rfl ?_
    refine nns ?_
    obtain ⟨sg, sa, sf, hp⟩ := pool_see h1 2 rfl
    refine hp.ld0 (x := m.most) 0 rfl rfl ?_
    have most_at : ∀ {w' : World} {its' : List Thing}, Hp S w0 w' its' → (its'[2]?).map Thing.holds = some (tPool 63 c m).holds → w'.cell? (⟨c, 0, none⟩ : Addr) = some (.int .i64 m.most) := by
      intro w' its' h' hi'
      obtain ⟨sg, sa, sf, hp⟩ := pool_see h' 2 hi'
      exact hp.cel0 0 rfl rfl
    have hgl2 := h1.len 9 rfl
    have hfl2 := h1.len 10 rfl
    have h1 := h1.opt 3 []
    have h1 := h1.opt 3 []
    have h1 := h1.opt 46 [.pointer none, .pointer none]
    simp only [List.cons_append, List.nil_append, List.set_cons_zero, List.set_cons_succ] at h1
    refine h1.fls3 11 12 13 (by omega) (by omega) (by omega) rfl rfl rfl fun y1 y2 y3 w1 h1 => ?_
    refine h1.need 11 rfl fun a7 h1 => ?_
    refine h1.fls2 12 13 (by omega) rfl rfl fun y2 y3 w1 h1 => ?_
    simp only [List.cons_append, List.nil_append, List.set_cons_zero, List.set_cons_succ] at h1
    obtain ⟨inf, q1, q2, q3, q4⟩ := inf3
    have h1 := h1.blkSl (i := 11) (m := 0) (l := ([] : List Int)) (f := iv) (n := 1) rfl rfl rfl iv_len
    refine h1.appS 11 9 (s := ⟨some ⟨a7, 0, none⟩, 0, 0⟩) rfl rfl Hp.rdSl iv_len und22 q1 q3 q2 rfl (by simp [iv, Value.oneCell']) (by rw [q4]; show (0 + gs.len) * 8 ≤ _; omega) (by show 0 + gs.len ≤ _; omega) fun s1 w1 h1 _ _ => ?_
    simp only [List.cons_append, List.nil_append, List.set_cons_zero, List.set_cons_succ] at h1
    refine ⟨most_at h1 rfl, h1.cel 8 rfl rfl, ?_⟩
    refine h1.fls2 12 13 (by omega) rfl rfl fun y2 y3 w1 h1 => ?_
    refine h1.need 12 rfl fun a8 h1 => ?_
    refine h1.fls 13 rfl fun y3 w1 h1 => ?_
    simp only [List.cons_append, List.nil_append, List.set_cons_zero, List.set_cons_succ] at h1
    have h1 := h1.blkSl (i := 12) (m := 0) (l := ([] : List Int)) (f := iv) (n := 1) rfl rfl rfl iv_len
    refine h1.appS 12 10 (s := ⟨some ⟨a8, 0, none⟩, 0, 0⟩) rfl rfl Hp.rdSl iv_len und22 q1 q3 q2 rfl (by simp [iv, Value.oneCell']) (by rw [q4]; show (0 + fr.len) * 8 ≤ _; omega) (by show 0 + fr.len ≤ _; omega) fun s2 w1 h1 _ _ => ?_
    simp only [List.cons_append, List.nil_append, List.set_cons_zero, List.set_cons_succ] at h1
    refine ⟨most_at h1 rfl, h1.cel 8 rfl rfl, ?_⟩
    refine h1.fls 13 rfl fun y3 w1 h1 => ?_
    simp only [List.cons_append, List.nil_append, List.set_cons_zero, List.set_cons_succ] at h1
    refine from_spec h1 11 12 rfl rfl Hp.rdSl Hp.rdSl (by omega) (by omega) (fun w1 hno h1 => absurd hno (from_own hm)) (fun mm p r w1 hfm h1 => ?_)
    obtain ⟨hmm, _⟩ := fromM_ok hfm
    refine h1.fls 13 rfl fun y3 w1 h1 => ?_
    refine h1.need 13 rfl fun a16 h1 => ?_
    simp only [List.cons_append, List.nil_append, List.set_cons_zero, List.set_cons_succ] at h1
    refine h1.st0 13 rfl (by simp) rfl fun w1 h1 => ?_
    refine h1.st 13 rfl (by simp) rfl fun w1 h1 => ?_
    simp only [List.cons_append, List.nil_append, List.set_cons_zero, List.set_cons_succ] at h1
    refine ⟨fun w' => w' = w1, ifF (by simp) ?_, ?_⟩
    · refine h1.ld (k := .p) (x := some ⟨r, 0, none⟩) 13 rfl rfl ?_
      exact ifF (by simp) rfl
    · rintro w2 rfl
      refine h1.dr fun w1 h1 => ?_
      refine h1.ld0 (k := .p) (x := some ⟨p, 0, none⟩) 13 rfl rfl ?_
      refine h1.ld (k := .p) (x := some ⟨r, 0, none⟩) 13 rfl rfl ?_
      refine nns ?_
      have h7 := sel7 h1 0 1 2 3 4 14 15 (by decide) rfl rfl rfl rfl rfl rfl rfl
      exact put_n (a := 0) (N := N + 8) hn2 (by omega) hm' hmm h7 fun w' hs => fin hs
  refine ifF (by simpa using k8) ?_
  exact fin ⟨es, b, c, m, b', c', m', by omega, hm, hm', h1.sel5 0 1 2 3 4 (by decide) rfl rfl rfl rfl rfl⟩
end
end Go.Proofs.Ytmlkjbolccapkaa.F
