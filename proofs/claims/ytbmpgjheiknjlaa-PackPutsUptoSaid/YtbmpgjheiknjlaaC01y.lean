/-
  Contracts of the document's own: rows are written.
-/
import Derived.Test.YtbmpgjheiknjlaaC01x
set_option linter.unusedSimpArgs false
set_option linter.unusedVariables false
set_option maxRecDepth 100000
namespace Go.Proofs.Ytbmpgjheiknjlaa.F
open Go Go.Den Go.Proofs

/-- The number ahead of the i-th. -/
def prevO (l : List Int) (i : Nat) : Option Int := if i = 0 then none else l[i - 1]?

theorem runT_cons (p : Option Int) (x : Int) (r : List Int) : runT p (x :: r) = if p = some x then runT (some x) r else (((cnt x r + 1 : Nat) : Int), x) :: runT (some x) r := by rw [runT]

section
variable {S : List Nat} {w0 w : World} {its : List Thing}

set_option maxHeartbeats 2000000 in
theorem forms_spec (h : Hp S w0 w its) (j : Nat) {u : Thing} {v : Sl} {l : List Int} (hj : (its[j]?).map Thing.holds = some u.holds) (hu : Hp.Reads u v 1 iv l) (hr : R64 l) (hl : l.length ≤ 1000000000000) {K : Sl → Sl → Sl → World → Prop}
    (hK : ∀ p s r w', Hp S w0 w' (its ++ [tB p (0 :: formU 0 l), tB s (1 :: formU 1 l), tB r (2 :: formU 2 l)]) → K p s r w') : c47 v w K := by
  refine c47_of ?_
  unfold f47
  have hvl := h.lenU j hj hu
  have h1 := h.ro1 hj
  have hu' : Hp.Reads u.ro v 1 iv l := ⟨hu.rd⟩
  obtain ⟨inf, q1, q2, q3, q4⟩ := inf5
  refine h1.nw (c := [_, _, _]) fun a w1 h1 => ?_
  refine h1.nw (c := [_]) fun b w1 h1 => ?_
  refine h1.nw (c := [_]) fun b2 w1 h1 => ?_
  refine h1.nw (c := [_]) fun b3 w1 h1 => ?_
  have h1 := h1.blkSl (i := 2) (m := 1) (l := [(0 : Int)]) (f := u8v) (n := 1) rfl rfl rfl u8v_len
  have h1 := h1.blkSl (i := 3) (m := 1) (l := [(1 : Int)]) (f := u8v) (n := 1) rfl rfl rfl u8v_len
  have h1 := h1.blkSl (i := 4) (m := 1) (l := [(2 : Int)]) (f := u8v) (n := 1) rfl rfl rfl u8v_len
  have h1 := h1.nil 5 1 u8v
  simp only [List.cons_append, List.nil_append, List.set_cons_zero, List.set_cons_succ] at h1
  refine ⟨fun plain steps each many last t m w' => ∃ (i : Nat) (P Q E : List Int), t = i ∧ i ≤ l.length ∧ m = l.length - i ∧ P ++ encZ (l.drop i) = 0 :: encZ l ∧ P.length ≤ 1 + 10 * i ∧
      Q ++ encS last (l.drop i) = 1 :: encS 0 l ∧ Q.length ≤ 1 + 10 * i ∧ E ++ (runT (prevO l i) (l.drop i)).flatMap encP = (runsL l).flatMap encP ∧ E.length ≤ 20 * i ∧ 0 ≤ many ∧ many + ((runT (prevO l i) (l.drop i)).length : Int) = ((runsL l).length : Int) ∧
      Hp [] w w' [u.ro, tBlk a 71 [.slice none 0 0, .slice none 0 0, .slice none 0 0], tB plain P, tB steps Q, tB ⟨some ⟨b3, 0, none⟩, 1, 1⟩ [2], tB each E],
    ⟨l.length, 0, [0], [1], [], rfl, by omega, rfl, rfl, by simp, rfl, by simp, rfl, by simp, by omega, by simp [runsL, prevO], h1⟩, ?_⟩
  rintro plain steps each many last t m w2 ⟨i, P, Q, E, rfl, hi, rfl, hP, hPl, hQ, hQl, hE, hEl, hm0, hmany, h1⟩
  by_cases hlt : i < l.length
  · refine ifT (by simp; omega) ?_
    have hd : l.drop i = l[i] :: l.drop (i + 1) := List.drop_eq_getElem_cons hlt
    have hget : l[((i : Int)).toNat]? = some l[i] := by simp [hlt]
    have hx := hr l[i] (List.getElem_mem hlt)
    have hpv : prevO l (i + 1) = some l[i] := by unfold prevO; rw [if_neg (by omega)]; simp [hlt]
    have hprev : i ≠ 0 → prevO l i = some (l.getD (i - 1) 0) ∧ l[i - 1]? = some (l.getD (i - 1) 0) := fun h0 => by
      have hl1 : i - 1 < l.length := by omega
      unfold prevO
      rw [if_neg h0]
      simp [hl1]
    rw [hd] at hP hQ hE hmany
    rw [encS] at hQ
    rw [runT_cons] at hE hmany
    generalize hxe : l[i] = x at hd hget hx hpv hP hQ hE hmany
    refine h1.ixldU (k := .i .i64) (u := u.ro) (y := x) (x := x) 0 rfl hu' (by omega) hget iv_len rfl ?_
    refine RPutInt_spec h1 2 rfl Hp.rdSl hx.1 hx.2 (by omega) fun plain2 w3 h1 => ?_
    refine h1.ixldU (k := .i .i64) (u := u.ro) (y := x) (x := x) 0 rfl hu' (by omega) hget iv_len rfl ?_
    refine RPutInt_spec h1 3 rfl Hp.rdSl (wr64lo _) (wr64hi _) (by omega) fun steps2 w3 h1 => ?_
    refine h1.ixldU (k := .i .i64) (u := u.ro) (y := x) (x := x) 0 rfl hu' (by omega) hget iv_len rfl ?_
    simp only [List.cons_append, List.nil_append] at h1
    have h1 := h1.sel6 0 1 6 7 4 5 (by decide) rfl rfl rfl rfl rfl rfl
    have hzl := putU_len (zig x)
    have hzl2 := putU_len (zig (IntKind.i64.wrap (x - last)))
    have hP' : (P ++ putU (zig x)) ++ encZ (l.drop (i + 1)) = 0 :: encZ l := by rw [← hP]; simp [encZ]
    have hQ' : (Q ++ putU (zig (IntKind.i64.wrap (x - last)))) ++ encS x (l.drop (i + 1)) = 1 :: encS 0 l := by rw [← hQ]; simp
    have ewi : IntKind.i64.wrap ((i : Int) + 1) = ((i + 1 : Nat) : Int) := by rw [wr64 (by omega) (by omega)]; omega
    refine ⟨fun t51 w' => t51 = !(decide (prevO l i = some x)) ∧ Hp [] w w' [u.ro, tBlk a 71 [.slice none 0 0, .slice none 0 0, .slice none 0 0], tB plain2 (P ++ putU (zig x)), tB steps2 (Q ++ putU (zig (IntKind.i64.wrap (x - last)))), tB ⟨some ⟨b3, 0, none⟩, 1, 1⟩ [2], tB each E], ?_, ?_⟩
    · refine h1.dr fun w4 h1 => ?_
      by_cases hi0 : i = 0
      · subst hi0
        refine ifT (by simp) ⟨?_, h1⟩
        simp [prevO]
      · refine ifF (by simp; omega) ?_
        obtain ⟨e1, e2⟩ := hprev hi0
        have ew : IntKind.i64.wrap ((i : Int) - 1) = ((i - 1 : Nat) : Int) := by rw [wr64 (by omega) (by omega)]; omega
        rw [ew]
        refine h1.ixldU (k := .i .i64) (u := u.ro) (y := l.getD (i - 1) 0) (x := l.getD (i - 1) 0) 0 rfl hu' (by omega) (by rw [Int.toNat_natCast]; exact e2) iv_len rfl ?_
        refine h1.ixldU (k := .i .i64) (u := u.ro) (y := x) (x := x) 0 rfl hu' (by omega) hget iv_len rfl ?_
        refine ⟨?_, h1⟩
        rw [e1]
        by_cases hy : l.getD (i - 1) 0 = x
        · rw [hy]; simp
        · have : ¬ (some (l.getD (i - 1) 0) = some x) := fun h => hy (by injection h)
          rw [decide_eq_false this]
          simpa using hy
    · rintro t51 w4 ⟨rfl, h1⟩
      by_cases hp : prevO l i = some x
      · rw [if_pos hp] at hE hmany
        refine ifF (by simp [hp]) ?_
        refine ⟨l.length - (i + 1), by omega, i + 1, _, _, E, ewi, by omega, rfl, hP', by simp only [List.length_append]; omega, hQ', by simp only [List.length_append]; omega, ?_, by omega, hm0, ?_, h1⟩
        · rw [hpv]; exact hE
        · rw [hpv]; exact hmany
      · rw [if_neg hp] at hE hmany
        refine ifT (by simp [hp]) ?_
        have hcl := cnt_le x (l.drop (i + 1))
        rw [List.length_drop] at hcl
        refine ⟨fun n w' => n = ((cnt x (l.drop (i + 1)) + 1 : Nat) : Int) ∧ Hp [] w w' [u.ro, tBlk a 71 [.slice none 0 0, .slice none 0 0, .slice none 0 0], tB plain2 (P ++ putU (zig x)), tB steps2 (Q ++ putU (zig (IntKind.i64.wrap (x - last)))), tB ⟨some ⟨b3, 0, none⟩, 1, 1⟩ [2], tB each E], ?_, ?_⟩
        · refine ⟨fun n m w' => ∃ q : Nat, n = q ∧ 1 ≤ q ∧ i + q ≤ l.length ∧ cnt x (l.drop (i + 1)) + 1 = q + cnt x (l.drop (i + q)) ∧ m = l.length - (i + q) ∧ Hp [] w w' [u.ro, tBlk a 71 [.slice none 0 0, .slice none 0 0, .slice none 0 0], tB plain2 (P ++ putU (zig x)), tB steps2 (Q ++ putU (zig (IntKind.i64.wrap (x - last)))), tB ⟨some ⟨b3, 0, none⟩, 1, 1⟩ [2], tB each E], ⟨l.length - (i + 1), 1, rfl, by omega, by omega, by omega, rfl, h1⟩, ?_⟩
          rintro n m w5 ⟨q, rfl, q1, q2, hq, rfl, h1⟩
          refine h1.dr fun w6 h1 => ?_
          have ewq : IntKind.i64.wrap ((i : Int) + (q : Int)) = ((i + q : Nat) : Int) := by rw [wr64 (by omega) (by omega)]; omega
          rw [ewq]
          by_cases hlq : i + q < l.length
          · refine ifT (by simp; omega) ?_
            have hd2 : l.drop (i + q) = l[i + q] :: l.drop (i + q + 1) := List.drop_eq_getElem_cons hlq
            refine h1.ixldU (k := .i .i64) (u := u.ro) (y := l[i + q]) (x := l[i + q]) 0 rfl hu' (by omega) (by rw [Int.toNat_natCast]; simp [hlq]) iv_len rfl ?_
            refine h1.ixldU (k := .i .i64) (u := u.ro) (y := x) (x := x) 0 rfl hu' (by omega) hget iv_len rfl ?_
            rw [hd2, cnt] at hq
            by_cases hy : l[i + q] = x
            · refine ifT (by simpa using hy) ?_
              rw [if_pos hy] at hq
              exact ⟨l.length - (i + (q + 1)), by omega, q + 1, by rw [wr64 (by omega) (by omega)]; omega, by omega, by omega, by rw [show i + (q + 1) = i + q + 1 by omega]; omega, rfl, h1⟩
            · refine ifF (by simpa using hy) ⟨?_, h1⟩
              rw [if_neg hy] at hq
              omega
          · refine ifF (by simp; omega) ⟨?_, h1⟩
            have e0 : cnt x (l.drop (i + q)) = 0 := by rw [List.drop_of_length_le (by omega), cnt]
            omega
        · rintro n w5 ⟨rfl, h1⟩
          have ewn : IntKind.u64.wrap ((cnt x (l.drop (i + 1)) + 1 : Nat) : Int) = ((cnt x (l.drop (i + 1)) + 1 : Nat) : Int) := by rw [w64]; omega
          rw [ewn]
          generalize hcn : cnt x (l.drop (i + 1)) + 1 = n at *
          refine RPut_spec h1 5 rfl Hp.rdSl (by omega) (by omega) (by omega) fun each2 w6 h1 => ?_
          have hnl := putU_len (n : Int)
          refine h1.ixldU (k := .i .i64) (u := u.ro) (y := x) (x := x) 0 rfl hu' (by omega) hget iv_len rfl ?_
          refine RPutInt_spec h1 6 rfl Hp.rdSl hx.1 hx.2 (by simp only [List.length_append]; omega) fun each3 w6 h1 => ?_
          simp only [List.cons_append, List.nil_append] at h1
          have h1 := h1.sel6 0 1 2 3 4 7 (by decide) rfl rfl rfl rfl rfl rfl
          simp only [List.length_cons] at hmany
          have hrl := runsL_len l
          refine ⟨l.length - (i + 1), by omega, i + 1, _, _, _, ewi, by omega, rfl, hP', by simp only [List.length_append]; omega, hQ', by simp only [List.length_append]; omega, ?_, by simp only [List.length_append]; omega, by rw [wr64 (by omega) (by omega)]; omega, ?_, h1⟩
          · rw [hpv, ← hE]
            simp [encP]
          · rw [hpv, wr64 (by omega) (by omega)]; omega
  · refine ifF (by simp; omega) ?_
    obtain rfl : i = l.length := by omega
    rw [List.drop_length] at hP hQ hE hmany
    have hP : P = 0 :: formU 0 l := by
      have e0 : formU 0 l = encZ l := rfl
      rw [e0]
      simpa [encZ] using hP
    have hQ : Q = 1 :: formU 1 l := by
      rw [encS, List.append_nil] at hQ
      exact hQ
    have hE : E = (runsL l).flatMap encP := by simpa [runT] using hE
    have hmany : many = ((runsL l).length : Int) := by simpa [runT] using hmany
    have hrl := runsL_len l
    have hRl := encRs_len (runsL l)
    have ewm : IntKind.u64.wrap many = ((runsL l).length : Int) := by rw [w64]; omega
    rw [ewm]
    refine RPut_spec h1 4 rfl Hp.rdSl (by omega) (by omega) (by simp) fun r w3 h1 => ?_
    have hpl := putU_len (runsL l).length
    have hrl2 := h1.len (s := r) 6 rfl
    have hel := h1.len (s := each) 5 rfl
    simp only [List.length_append, List.length_cons, List.length_nil] at hrl2
    refine h1.appS 6 5 (s := r) rfl rfl Hp.rdSl u8v_len und22 q1 q3 q2 rfl (by simp [Value.oneCell']) (by rw [q4]; omega) (by omega) fun runs w3 h1 _ _ => ?_
    simp only [List.cons_append, List.nil_append, List.set_cons_zero, List.set_cons_succ] at h1
    refine h1.st0 1 rfl (by simp) rfl fun w3 h1 => ?_
    refine h1.st 1 rfl (by simp) rfl fun w3 h1 => ?_
    refine h1.st 1 rfl (by simp) rfl fun w3 h1 => ?_
    simp only [List.cons_append, List.nil_append, List.set_cons_zero, List.set_cons_succ] at h1
    refine h1.ld0 (k := .sl) (x := plain) 1 rfl rfl ?_
    refine h1.ld (k := .sl) (x := steps) 1 rfl rfl ?_
    refine h1.ld (k := .sl) (x := runs) 1 rfl rfl ?_
    have e : 2 :: (putU ((runsL l).length : Int) ++ E) = 2 :: formU 2 l := by rw [hE]; rfl
    rw [hP, hQ, e] at h1
    exact hK plain steps runs w3 (h.r0 (rest := [_, _, _]) rfl (h1.sel3 2 3 6 (by decide) rfl rfl rfl))

theorem shortest_spec (h : Hp S w0 w its) (j : Nat) {u : Thing} {v : Sl} {l : List Int} (hj : (its[j]?).map Thing.holds = some u.holds) (hu : Hp.Reads u v 1 iv l) (hr : R64 l) (hl : l.length ≤ 1000000000000) {K : Sl → World → Prop}
    (hK : ∀ s w', Hp S w0 w' (its ++ [tB s (bestU l)]) → K s w') : c39 v w K := by
  refine c39_of ?_
  unfold f39
  have h1 := h.ro1 hj
  refine forms_spec h1 0 (u := u.ro) rfl ⟨hu.rd⟩ hr hl fun p s r w1 h1 => ?_
  refine h1.nw (c := [_, _, _]) fun f w1 h1 => ?_
  refine h1.st0 4 rfl (by simp) rfl fun w1 h1 => ?_
  refine h1.st 4 rfl (by simp) rfl fun w1 h1 => ?_
  refine h1.st 4 rfl (by simp) rfl fun w1 h1 => ?_
  simp only [List.cons_append, List.nil_append, List.set_cons_zero, List.set_cons_succ] at h1
  refine h1.ixa (by omega) (by omega) ?_
  refine h1.ldv (k := .sl) (x := p) 4 rfl rfl ?_
  generalize hIt : [u.ro, tB p (0 :: formU 0 l), tB s (1 :: formU 1 l), tB r (2 :: formU 2 l), tBlk f 71 [.slice p.a p.len p.cap, .slice s.a s.len s.cap, .slice r.a r.len r.cap]] = It at h1
  refine ⟨fun best t m w' => ∃ k q : Nat, t = k ∧ 1 ≤ k ∧ k ≤ 3 ∧ m = 3 - k ∧ It[q]? = some (tB best (bk l k)) ∧ Hp [] w w' It, ⟨2, 1, 1, rfl, by omega, by omega, rfl, by rw [← hIt]; rfl, h1⟩, ?_⟩
  rintro best t m w2 ⟨k, q, rfl, k1, k3, rfl, hq, h1⟩
  have fin : ∀ {x : Sl}, It[k + 1]? = some (tB x ((k : Int) :: formU k l)) → k < 3 → ∀ {K2 : World → Prop} {K3 : World → Prop},
      (∀ q' : Nat, It[q']? = some (tB x (bk l (k + 1))) → K2 w2) → ((∀ q' : Nat, It[q']? = some (tB best (bk l (k + 1))) → K3 w2)) → if (decide ((x.len : Int) < (best.len : Int))) = true then K2 w2 else K3 w2 := by
    intro x hx hk K2 K3 h2 h3
    have l1 := h1.len (s := best) q (by rw [hq]; rfl)
    have l2 := h1.len (s := x) (k + 1) (by rw [hx]; rfl)
    have hs := bk_step l k1 hk
    by_cases hsh : ((k : Int) :: formU k l).length < (bk l k).length
    · refine ifT (by simp only [decide_eq_true_eq]; omega) (h2 (k + 1) ?_)
      have e : bk l (k + 1) = (k : Int) :: formU k l := by rw [hs]; unfold shorter; rw [if_pos hsh]
      rw [e]; exact hx
    · refine ifF (by simp only [decide_eq_true_eq]; omega) (h3 q ?_)
      have e : bk l (k + 1) = bk l k := by rw [hs]; unfold shorter; rw [if_neg hsh]
      rw [e]; exact hq
  by_cases hlt : k < 3
  · refine ifT (by simp; omega) ?_
    refine h1.ixa (by omega) (by omega) ?_
    have ewk : IntKind.i64.wrap ((k : Int) + 1) = ((k + 1 : Nat) : Int) := by rw [wr64 (by omega) (by omega)]; omega
    rw [ewk]
    have hk : k = 1 ∨ k = 2 := by omega
    rcases hk with rfl | rfl
    · refine h1.ldv (k := .sl) (x := s) 4 (by rw [← hIt]; rfl) rfl ?_
      refine fin (x := s) (by rw [← hIt]; rfl) hlt (K2 := fun w => _) (K3 := fun w => _) ?_ ?_
      · intro q' hq'
        refine h1.ixa (by omega) (by omega) ?_
        refine h1.ldv (k := .sl) (x := s) 4 (by rw [← hIt]; rfl) rfl ?_
        exact ⟨1, by omega, 2, q', rfl, by omega, by omega, rfl, hq', h1⟩
      · intro q' hq'
        exact ⟨1, by omega, 2, q', rfl, by omega, by omega, rfl, hq', h1⟩
    · refine h1.ldv (k := .sl) (x := r) 4 (by rw [← hIt]; rfl) rfl ?_
      refine fin (x := r) (by rw [← hIt]; rfl) hlt (K2 := fun w => _) (K3 := fun w => _) ?_ ?_
      · intro q' hq'
        refine h1.ixa (by omega) (by omega) ?_
        refine h1.ldv (k := .sl) (x := r) 4 (by rw [← hIt]; rfl) rfl ?_
        exact ⟨0, by omega, 3, q', rfl, by omega, by omega, rfl, hq', h1⟩
      · intro q' hq'
        exact ⟨0, by omega, 3, q', rfl, by omega, by omega, rfl, hq', h1⟩
  · refine ifF (by simp; omega) ?_
    obtain rfl : k = 3 := by omega
    exact hK best _ (h.r0 rfl (h1.sel1 q hq))

theorem RPutRow_spec (h : Hp S w0 w its) (j j' : Nat) {u u' : Thing} {b v : Sl} {bs l : List Int} (hj : its[j]? = some u) (hu : Hp.Reads u b 1 u8v bs) (hj' : its[j']? = some u') (hu' : Hp.Reads u' v 1 iv l) (hr : R64 l) (hl : l.length ≤ 1000000000000) (hb : bs.length ≤ 10000000000000) {K : Sl → World → Prop}
    (hK : ∀ s w', Hp S w0 w' (its ++ [tB s (bs ++ rowU l)]) → K s w') : c17 b v w K := by
  refine c17_of ?_
  unfold f17
  have hvl := h.lenU j' (by rw [hj']; rfl) hu'
  have hjl := (List.getElem?_eq_some_iff.1 hj').1
  have ew : IntKind.u64.wrap (v.len : Int) = (l.length : Int) := by rw [w64]; omega
  rw [ew]
  refine RPut_spec h j hj hu (by omega) (by omega) (by omega) fun out w1 h => ?_
  have hpl := putU_len l.length
  by_cases hz : l = []
  · refine ifT (by rw [hz] at hvl; simp at hvl ⊢; omega) ?_
    have e : rowU l = putU l.length := by unfold rowU; rw [if_pos hz, List.append_nil]
    have := hK out w1
    rw [e] at this
    exact this h
  have hlp : 1 ≤ l.length := by cases l with | nil => exact absurd rfl hz | cons _ _ => simp
  refine ifF (by simp; omega) ?_
  have hrow : rowU l = putU l.length ++ bestU l := by unfold rowU; rw [if_neg hz]
  rw [hrow, ← List.append_assoc] at hK
  refine shortest_spec h j' (by rw [List.getElem?_append_left hjl, hj']; rfl) hu' hr hl fun r w1 h => ?_
  have hbl := bestU_len l
  have hol := h.len (s := out) its.length (by rw [List.append_assoc, List.getElem?_append_right (Nat.le_refl _), Nat.sub_self]; rfl)
  have hrl := h.len (s := r) (its.length + 1) (by rw [List.getElem?_append_right (by simp)]; simp; rfl)
  simp only [List.length_append] at hol
  obtain ⟨inf, q1, q2, q3, q4⟩ := inf5
  refine h.appS its.length (its.length + 1) (s := out) (by rw [List.append_assoc, List.getElem?_append_right (Nat.le_refl _), Nat.sub_self]; rfl) (by rw [List.getElem?_append_right (by simp)]; simp; rfl) Hp.rdSl u8v_len und22 q1 q3 q2 rfl (by simp [Value.oneCell']) (by rw [q4]; omega) (by omega) fun s w1 h _ _ => ?_
  have e : ∀ t t' q : Thing, (its ++ [t] ++ [t']).set its.length q = its ++ [q] ++ [t'] := fun t t' q => by
    rw [List.append_assoc, List.set_append_right _ _ (Nat.le_refl _), Nat.sub_self]; simp
  rw [e] at h
  exact hK s w1 h.front
end
end Go.Proofs.Ytbmpgjheiknjlaa.F
