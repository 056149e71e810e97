/-
  Contracts of the document's own pool, second part: Take, Give, State, Clone.
-/
import Derived.Test.YtmlkjbolccapkaaC04e
set_option linter.unusedSimpArgs false
set_option linter.unusedVariables false
namespace Go.Proofs.Ytmlkjbolccapkaa.F
open Go Go.Den Go.Proofs

section
variable {S : List Nat} {w0 w : World} {its : List Thing}

theorem RTake_h (h : Hp S w0 w its) (i : Nat) {b : Nat} {m : PoolM} (hm : m.Ok) (hi : its[i]? = some (tPool 63 b m)) {K : Int → Int → Int → World → Prop}
    (hK : ∀ w', Hp S w0 w' (its.set i (tPool 63 b m.takeM.1)) → K m.takeM.2.1.1 m.takeM.2.1.2 m.takeM.2.2 w') : c20 (some ⟨b, 0, none⟩) w K := by
  refine c20_of ?_
  unfold f20
  obtain ⟨O, h1, back⟩ := h.f1 hi rfl
  obtain ⟨sg, sa, sf, h1⟩ := pool_open h1 (i := 0) rfl
  have hgl := h1.len 1 rfl
  have hal := h1.len 2 rfl
  have hfl := h1.len 3 rfl
  have hfc := h1.cap 3 rfl
  have h200 := hm.len200
  have hlen := hm.len
  unfold PoolM.takeM at hK
  refine h1.nw (c := [_, _]) fun a w1 h1 => ?_
  refine nns ?_
  refine h1.ld (x := sf) 0 rfl rfl ?_
  cases hf : m.free with
  | cons x rest =>
    simp only [hf] at hK
    rw [hf] at h1 hfl
    simp only [List.length_cons] at hfl
    obtain ⟨x0, x1, x2, x3⟩ := hm.free x (by rw [hf]; simp)
    refine ifT (by simp; omega) ?_
    refine nns ?_
    refine h1.ld (x := sf) 0 rfl rfl ?_
    refine h1.ixld (k := .i .i64) (y := x) (x := x) 3 rfl (by omega) rfl iv_len rfl ?_
    refine nns ?_
    refine h1.ld (x := sf) 0 rfl rfl ?_
    refine h1.cut 3 (s := sf) rfl iv_len (by omega) (by omega) (by omega) (by omega) (by omega) fun s h1 hsl hsc _ => ?_
    have e0 : ((x :: rest).take ((sf.len : Int)).toNat).drop (1 : Int).toNat = rest := by
      rw [List.take_of_length_le (by simp; omega)]; rfl
    rw [e0] at h1
    refine nns ?_
    refine h1.st 0 rfl (by simp) rfl fun w1 h1 => ?_
    refine nns ?_
    refine h1.ld (x := sg) 0 rfl rfl ?_
    refine h1.ixld (k := .i .i64) (x := m.gen x) 1 rfl x0 (gens_get x0 x1) iv_len rfl ?_
    refine h1.ixst 1 rfl x0 (by omega) iv_len (y := IntKind.i64.wrap (m.gen x + 1)) rfl rfl fun w1 h1 => ?_
    have hge := hm.gen x0 x1
    have ew : IntKind.i64.wrap (m.gen x + 1) = m.gen x + 1 := wr64 (by omega) (by omega)
    rw [ew] at h1
    refine nns ?_
    refine h1.ld (x := sa) 0 rfl rfl ?_
    refine h1.ixst 2 rfl x0 (by omega) bv_len (y := true) rfl rfl fun w1 h1 => ?_
    refine nns ?_
    refine h1.ld (x := sg) 0 rfl rfl ?_
    refine h1.ixld (k := .i .i64) (y := m.gen x + 1) (x := m.gen x + 1) 1 rfl x0 (by rw [List.getElem?_set_self (by omega)]) iv_len rfl ?_
    simp only [List.cons_append, List.nil_append, List.set_cons_zero, List.set_cons_succ] at h1
    refine h1.st0 4 rfl (by simp) rfl fun w1 h1 => ?_
    refine h1.st 4 rfl (by simp) rfl fun w1 h1 => ?_
    refine h1.ld0 (x := x) 4 rfl rfl ?_
    refine h1.ld (x := m.gen x + 1) 4 rfl rfl ?_
    have h3 := back (t' := tPool 63 b (m.takeFree x rest)) (rest := []) rfl rfl (pool_close (m := m.takeFree x rest) (rest := []) (h1.sel4 0 1 2 3 (by decide) rfl rfl rfl rfl))
    rw [List.append_nil] at h3
    exact hK _ h3
  | nil =>
    simp only [hf] at hK
    rw [hf] at hfl
    simp only [List.length_nil] at hfl
    refine ifF (by simp; omega) ?_
    refine h1.dr fun w1 h1 => ?_
    refine nns ?_
    refine h1.ld (x := sg) 0 rfl rfl ?_
    refine nns ?_
    refine h1.ld0 (x := m.most) 0 rfl rfl ?_
    by_cases hl : (m.gens.length : Int) < m.most
    · simp only [if_pos hl] at hK
      refine ifF (by simp; omega) ?_
      obtain ⟨inf, q1, q2, q3, q4⟩ := inf3
      obtain ⟨inf', r1, r2, r3, r4⟩ := bytes4
      refine nns ?_
      refine h1.ld (x := sg) 0 rfl rfl ?_
      refine h1.nwapp (c := [_]) 1 1 rfl iv_len und22 q1 q3 q2 rfl rfl (by simp [iv, Value.oneCell']) (by rw [q4]; omega) (by omega) fun s2 w1 h1 hs2 _ => ?_
      refine nns ?_
      refine h1.st 0 rfl (by simp) rfl fun w1 h1 => ?_
      refine nns ?_
      refine h1.ld (x := sa) 0 rfl rfl ?_
      refine h1.nwapp (c := [_]) 2 true rfl bv_len und58 r1 r3 r2 rfl rfl (by simp [bv, Value.oneCell']) (by rw [r4]; omega) (by omega) fun s3 w1 h1 hs3 _ => ?_
      refine nns ?_
      refine h1.st 0 rfl (by simp) rfl fun w1 h1 => ?_
      refine nns ?_
      refine h1.ld (x := s2) 0 rfl rfl ?_
      simp only [List.cons_append, List.nil_append, List.set_cons_zero, List.set_cons_succ] at h1
      have ew : IntKind.i64.wrap ((s2.len : Int) - 1) = m.gens.length := by rw [wr64 (by omega) (by omega)]; omega
      rw [ew]
      refine h1.st0 4 rfl (by simp) rfl fun w1 h1 => ?_
      refine h1.st 4 rfl (by simp) rfl fun w1 h1 => ?_
      refine h1.ld0 (x := (m.gens.length : Int)) 4 rfl rfl ?_
      refine h1.ld (x := (1 : Int)) 4 rfl rfl ?_
      have h4 := h1.sel4 0 1 2 3 (by decide) rfl rfl rfl rfl
      have h3 := back (t' := tPool 63 b m.takeNew) (rest := []) rfl rfl (pool_close (m := m.takeNew) (rest := []) h4)
      rw [List.append_nil] at h3
      exact hK _ h3
    · simp only [if_neg hl] at hK
      refine ifT (by simp; omega) ?_
      refine h1.st0 4 rfl (by simp) rfl fun w1 h1 => ?_
      refine h1.st 4 rfl (by simp) rfl fun w1 h1 => ?_
      refine h1.ld0 (x := (0 : Int)) 4 rfl rfl ?_
      refine h1.ld (x := (0 : Int)) 4 rfl rfl ?_
      simp only [List.cons_append, List.nil_append, List.set_cons_zero, List.set_cons_succ] at h1
      have h4 := h1.sel4 0 1 2 3 (by decide) rfl rfl rfl rfl
      have h3 := back (t' := tPool 63 b m) (rest := []) rfl rfl (pool_close (m := m) (rest := []) h4)
      rw [List.append_nil] at h3
      exact hK _ h3

theorem RGive_h (h : Hp S w0 w its) (i : Nat) {b : Nat} {m : PoolM} (hm : m.Ok) (hi : its[i]? = some (tPool 63 b m)) {x g : Int} {K : Int → World → Prop}
    (hK : ∀ w', Hp S w0 w' (its.set i (tPool 63 b (m.giveM x g).1)) → K (m.giveM x g).2 w') : c21 (some ⟨b, 0, none⟩) x g w K := by
  refine c21_of ?_
  unfold f21
  have h200 := hm.len200
  have hlen := hm.len
  have hf200 := Ok.free200 hm
  obtain ⟨O, h1, back⟩ := h.f1 hi rfl
  refine h1.nw (c := [_, _]) fun e w1 h1 => ?_
  refine h1.ld0 (x := x) 1 rfl rfl ?_
  refine h1.ld (x := g) 1 rfl rfl ?_
  refine RLives_h h1 0 hm rfl fun w1 h1 => ?_
  unfold PoolM.giveM at hK
  cases his : m.is x g with
  | false =>
    simp only [his, Bool.false_eq_true, if_false] at hK
    refine ifT rfl ?_
    have h3 := back (rest := []) rfl rfl (h1.sel1 0 rfl)
    rw [List.append_nil] at h3
    exact hK _ h3
  | true =>
    simp only [his, if_true] at hK
    refine ifF (by simp) ?_
    obtain ⟨hlv, hg⟩ := PoolM.is_iff.1 his
    obtain ⟨x0, x1⟩ := lives_lt' hm hlv
    refine h1.dr fun w1 h1 => ?_
    obtain ⟨sg, sa, sf, h1⟩ := pool_open h1 (i := 0) rfl
    have hfl := h1.len 4 rfl
    simp only [List.cons_append, List.nil_append, List.set_cons_zero, List.set_cons_succ] at h1
    refine nns ?_
    refine h1.ld (x := sa) 0 rfl rfl ?_
    refine h1.ld0 (x := x) 1 rfl rfl ?_
    refine h1.ixst 3 rfl x0 (by omega) bv_len (y := false) rfl rfl fun w1 h1 => ?_
    refine h1.ld (x := g) 1 rfl rfl ?_
    by_cases hgm : g < 1000000
    · refine ifT (by simpa using hgm) ?_
      refine nns ?_
      refine h1.ld (x := sf) 0 rfl rfl ?_
      have h1 := h1.nil 3 1 iv
      obtain ⟨inf, q1, q2, q3, q4⟩ := inf3
      refine h1.appS 5 4 (s := ⟨none, 0, 0⟩) rfl rfl Hp.rdSl iv_len und22 q1 q3 q2 rfl (by simp [iv, Value.oneCell']) (by rw [q4]; show (0 + sf.len) * 8 ≤ _; omega) (by show 0 + sf.len ≤ _; omega) fun r w1 h1 hrl _ => ?_
      have hrl' : r.len = sf.len := by rw [hrl]; exact Nat.zero_add _
      refine h1.ld0 (x := x) 1 rfl rfl ?_
      refine h1.nwapp (c := [_]) 5 x rfl iv_len und22 q1 q3 q2 rfl rfl (by simp [iv, Value.oneCell']) (by rw [q4]; omega) (by omega) fun s w1 h1 _ _ => ?_
      refine nns ?_
      refine h1.st 0 rfl (by simp) rfl fun w1 h1 => ?_
      simp only [List.cons_append, List.nil_append, List.set_cons_zero, List.set_cons_succ] at h1
      have h4 := h1.sel4 0 2 3 5 (by decide) rfl rfl rfl rfl
      have em : (m.give x g).free = m.free ++ [x] := by unfold PoolM.give; rw [if_pos hgm]
      have h4 : Hp O w w1 [tBlk b 63 [.int .i64 (m.give x g).most, .slice sg.a sg.len sg.cap, .slice sa.a sa.len sa.cap, .slice s.a s.len s.cap], tSl sg 3 1 iv (m.give x g).gens, tSl sa 4 1 bv (m.give x g).alive, tSl s 3 1 iv (m.give x g).free] := by
        rw [em]; exact h4
      have h3 := back (rest := []) rfl rfl (pool_close (m := m.give x g) (rest := []) h4)
      rw [List.append_nil] at h3
      exact hK _ h3
    · refine ifF (by simpa using hgm) ?_
      have h4 := h1.sel4 0 2 3 4 (by decide) rfl rfl rfl rfl
      have em : (m.give x g).free = m.free := by unfold PoolM.give; rw [if_neg hgm]
      have h4 : Hp O w w1 [tBlk b 63 [.int .i64 (m.give x g).most, .slice sg.a sg.len sg.cap, .slice sa.a sa.len sa.cap, .slice sf.a sf.len sf.cap], tSl sg 3 1 iv (m.give x g).gens, tSl sa 4 1 bv (m.give x g).alive, tSl sf 3 1 iv (m.give x g).free] := by
        rw [em]; exact h4
      have h3 := back (rest := []) rfl rfl (pool_close (m := m.give x g) (rest := []) h4)
      rw [List.append_nil] at h3
      exact hK _ h3

theorem stGens_len (m : PoolM) : m.stGens.length = m.gens.length := by simp [PoolM.stGens]
theorem stGens_get {m : PoolM} {k : Nat} (hk : k < m.gens.length) : m.stGens[k]? = some (if m.gen k = 1000000 ∧ m.lives k = false then m.gen k + 1 else m.gen k) := by
  simp [PoolM.stGens, List.getElem?_mapIdx, hk, PoolM.gen]

theorem RState_h (h : Hp S w0 w its) (i : Nat) {b : Nat} {m : PoolM} (hm : m.Ok2) (hi : (its[i]?).map Thing.holds = some (tPool 63 b m).holds) {K : Sl → Sl → World → Prop}
    (hK : ∀ g f w', Hp S w0 w' (its ++ [tSl g 3 1 iv m.stGens, tSl f 3 1 iv m.free]) → K g f w') : c27 (some ⟨b, 0, none⟩) w K := by
  refine c27_of ?_
  unfold f27
  have h200 := hm.len200
  have hlen := hm.len
  have hf200 := Ok.free200 hm.toOk
  obtain ⟨sg, sa, sf, h1⟩ := pool_see h i hi
  have hgl := h1.len 1 rfl
  have hfl := h1.len 3 rfl
  have h1 := h1.nil 3 1 iv
  obtain ⟨inf, q1, q2, q3, q4⟩ := inf3
  refine ⟨fun s t mm w' => ∃ k : Nat, t = k ∧ k ≤ m.gens.length ∧ mm = m.gens.length - k ∧ Hp [] w w' [(tBlk b 63 [.int .i64 m.most, .slice sg.a sg.len sg.cap, .slice sa.a sa.len sa.cap, .slice sf.a sf.len sf.cap]).ro, (tSl sg 3 1 iv m.gens).ro, (tSl sa 4 1 bv m.alive).ro, (tSl sf 3 1 iv m.free).ro, tSl s 3 1 iv (m.stGens.take k)], ⟨m.gens.length, 0, rfl, by omega, rfl, h1⟩, ?_⟩
  rintro s t mm w2 ⟨k, rfl, hk, rfl, h1⟩
  refine nns ?_
  refine h1.ld (x := sg) 0 rfl rfl ?_
  by_cases hlt : k < m.gens.length
  · refine ifT (by simp; omega) ?_
    refine nns ?_
    refine h1.ld (x := sg) 0 rfl rfl ?_
    refine h1.ixld (k := .i .i64) (x := m.gen k) 1 rfl (by omega) (gens_get (by omega) (by omega)) iv_len rfl ?_
    refine rfree_h (h.keep h1.fr) i (by omega) hi ?_
    refine nns ?_
    refine h1.ld (x := sa) 0 rfl rfl ?_
    refine h1.ixld (k := .b) (x := m.lives k) 2 rfl (by omega) (alive_get hm.toOk (by omega) (by omega)) bv_len rfl ?_
    have hsl := h1.len 4 rfl
    simp only [List.length_take, stGens_len] at hsl
    have htk : ∀ x, m.stGens[k]? = some x → m.stGens.take (k + 1) = m.stGens.take k ++ [x] := fun x hx => by rw [List.take_add_one, hx]; rfl
    have hsg := stGens_get hlt
    have hge := hm.toOk.gen (i := (k : Int)) (by omega) (by omega)
    by_cases hc : m.lives k = false ∧ (k : Int) ∉ m.free
    · refine ifT (by rw [hc.1, decide_eq_false hc.2]; rfl) ?_
      have hg : m.gen k = 1000000 := by
        refine Classical.byContradiction fun hne => hc.2 (hm.dead k (by omega) (by omega) hc.1 (by omega))
      rw [if_pos ⟨hg, hc.1⟩, hg] at hsg
      refine h1.nwapp (c := [_]) 4 1000001 rfl iv_len und22 q1 q3 q2 rfl rfl (by simp [iv, Value.oneCell']) (by rw [q4]; omega) (by omega) fun s2 w1 h1 _ _ => ?_
      refine ⟨m.gens.length - (k + 1), by omega, k + 1, by rw [wr64 (by omega) (by omega)]; omega, by omega, rfl, ?_⟩
      rw [htk _ hsg]
      exact h1
    · refine ifF ?_ ?_
      · cases hlv : m.lives k with
        | true => simp
        | false =>
          have : (k : Int) ∈ m.free := Classical.byContradiction fun hn => hc ⟨hlv, hn⟩
          rw [decide_eq_true this]; simp
      rw [if_neg] at hsg
      · refine h1.nwapp (c := [_]) 4 (m.gen k) rfl iv_len und22 q1 q3 q2 rfl rfl (by simp [iv, Value.oneCell']) (by rw [q4]; omega) (by omega) fun s2 w1 h1 _ _ => ?_
        refine ⟨m.gens.length - (k + 1), by omega, k + 1, by rw [wr64 (by omega) (by omega)]; omega, by omega, rfl, ?_⟩
        rw [htk _ hsg]
        exact h1
      · rintro ⟨g1, g2⟩
        refine hc ⟨g2, fun hin => ?_⟩
        have := (hm.free _ hin).2.2.2
        omega
  · refine ifF (by simp; omega) ?_
    have hk' : m.stGens.take k = m.stGens := List.take_of_length_le (by rw [stGens_len]; omega)
    rw [hk'] at h1
    refine nns ?_
    refine h1.ld (x := sf) 0 rfl rfl ?_
    have h1 := h1.nil 3 1 iv
    refine h1.appS 5 3 (s := ⟨none, 0, 0⟩) rfl rfl (⟨Hp.rdSl.rd⟩ : Hp.Reads (tSl sf 3 1 iv m.free).ro sf 1 iv m.free) iv_len und22 q1 q3 q2 rfl (by simp [iv, Value.oneCell']) (by rw [q4]; show (0 + sf.len) * 8 ≤ _; omega) (by show 0 + sf.len ≤ _; omega) fun s' w' h1 _ _ => ?_
    exact hK s s' w' (h.r0 (rest := [_, _]) rfl (h1.sel2 4 5 (by omega) rfl rfl))

theorem RClone_h (h : Hp S w0 w its) (i : Nat) {b : Nat} {m : PoolM} (hm : m.Ok) (hi : (its[i]?).map Thing.holds = some (tPool 63 b m).holds) {K : Option Addr → World → Prop}
    (hK : ∀ a w', Hp S w0 w' (its ++ [tPool 63 a m]) → K (some ⟨a, 0, none⟩) w') : c26 (some ⟨b, 0, none⟩) w K := by
  refine c26_of ?_
  unfold f26
  have hl1 := hm.len200
  have hl2 := hm.len
  have hl3 := Ok.free200 hm
  obtain ⟨sg, sa, sf, h1⟩ := pool_see h i hi
  have hgl := h1.len 1 rfl
  have hal := h1.len 2 rfl
  have hfl := h1.len 3 rfl
  obtain ⟨inf, q1, q2, q3, q4⟩ := inf3
  obtain ⟨inf', r1, r2, r3, r4⟩ := bytes4
  refine nns ?_
  refine h1.ld0 (x := m.most) 0 rfl rfl ?_
  refine h1.nw (c := [_, _, _, _]) fun q w1 h1 => ?_
  have h1 := h1.nil 3 1 iv
  have h1 := h1.nil 4 1 bv
  have h1 := h1.nil 3 1 iv
  simp only [List.cons_append, List.nil_append, List.set_cons_zero, List.set_cons_succ] at h1
  refine h1.dr fun w1 h1 => ?_
  refine h1.ld (k := .sl) (x := ⟨none, 0, 0⟩) 4 rfl rfl ?_
  refine nns ?_
  refine h1.ld (x := sg) 0 rfl rfl ?_
  refine h1.appS 5 1 (s := ⟨none, 0, 0⟩) rfl rfl (⟨Hp.rdSl.rd⟩ : Hp.Reads (tSl sg 3 1 iv m.gens).ro sg 1 iv m.gens) iv_len und22 q1 q3 q2 rfl (by simp [iv, Value.oneCell']) (by rw [q4]; show (0 + sg.len) * 8 ≤ _; omega) (by show 0 + sg.len ≤ _; omega) fun s1 w1 h1 _ _ => ?_
  refine h1.st 4 rfl (by simp) rfl fun w1 h1 => ?_
  refine h1.dr fun w1 h1 => ?_
  refine h1.ld (k := .sl) (x := ⟨none, 0, 0⟩) 4 rfl rfl ?_
  refine nns ?_
  refine h1.ld (x := sa) 0 rfl rfl ?_
  refine h1.appS 6 2 (s := ⟨none, 0, 0⟩) rfl rfl (⟨Hp.rdSl.rd⟩ : Hp.Reads (tSl sa 4 1 bv m.alive).ro sa 1 bv m.alive) bv_len und58 r1 r3 r2 rfl (by simp [bv, Value.oneCell']) (by rw [r4]; show (0 + sa.len) * 1 ≤ _; omega) (by show 0 + sa.len ≤ _; omega) fun s2 w1 h1 _ _ => ?_
  refine h1.st 4 rfl (by simp) rfl fun w1 h1 => ?_
  refine h1.dr fun w1 h1 => ?_
  refine h1.ld (k := .sl) (x := ⟨none, 0, 0⟩) 4 rfl rfl ?_
  refine nns ?_
  refine h1.ld (x := sf) 0 rfl rfl ?_
  simp only [List.cons_append, List.nil_append, List.set_cons_zero, List.set_cons_succ] at h1
  refine h1.appS 7 3 (s := ⟨none, 0, 0⟩) rfl rfl (⟨Hp.rdSl.rd⟩ : Hp.Reads (tSl sf 3 1 iv m.free).ro sf 1 iv m.free) iv_len und22 q1 q3 q2 rfl (by simp [iv, Value.oneCell']) (by rw [q4]; show (0 + sf.len) * 8 ≤ _; omega) (by show 0 + sf.len ≤ _; omega) fun s3 w1 h1 _ _ => ?_
  refine h1.st 4 rfl (by simp) rfl fun w1 h1 => ?_
  simp only [List.cons_append, List.nil_append, List.set_cons_zero, List.set_cons_succ] at h1
  exact hK q w1 (h.r0 rfl (pool_close (m := m) (sg := s1) (sa := s2) (sf := s3) (rest := []) (h1.sel4 4 5 6 7 (by decide) rfl rfl rfl rfl)))
end
end Go.Proofs.Ytmlkjbolccapkaa.F
