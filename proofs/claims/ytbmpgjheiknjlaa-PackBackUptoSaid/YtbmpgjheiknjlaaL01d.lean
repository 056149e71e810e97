/-
  The walk of PackBack: the law itself.
-/
import Derived.Test.YtbmpgjheiknjlaaL01b
set_option linter.unusedSimpArgs false
set_option linter.unusedVariables false
set_option maxRecDepth 100000
namespace Go.Proofs.Ytbmpgjheiknjlaa.F
open Go Go.Den Go.Proofs

theorem rowU_short (l : List Int) (hl : l.length ≤ 100000) : (rowU l).length ≤ 5 + 10 * l.length := by
  have hz := encZ_len l
  have hs : ∀ a b : List Int, (shorter a b).length ≤ a.length := fun a b => by unfold shorter; split <;> omega
  have h1 := hs (0 :: formU 0 l) (1 :: formU 1 l)
  have h2 := hs (shorter (0 :: formU 0 l) (1 :: formU 1 l)) (2 :: formU 2 l)
  have h3 : (0 :: formU 0 l).length = 1 + (encZ l).length := by
    have e : formU 0 l = encZ l := rfl
    rw [e]; simp; omega
  have h4 : (putU (l.length : Int)).length ≤ 3 := by
    unfold putU
    rw [putF_more 2 _ (by omega) (by simp only [Nat.reduceAdd, Int.reducePow]; omega) 9 (by omega)]
    exact putF_len 3 _
  unfold rowU
  rw [List.length_append]
  split
  · simp; omega
  · unfold bestU; omega

set_option maxHeartbeats 4000000 in
theorem backs_spec {b lS : Sl} {bl lx : List Int} {n m : Int} {s : ByteArray} {o1 o2 : List Nat} {w : World} {K : Bool → World → Prop} (hs : SlR w b 1 u8v bl o1) (hcap : b.len ≤ b.cap) (hb : Bytes bl) (hbl : bl.length ≤ 1048576) (hl : SlR w lS 1 iv lx o2) (hr : R64 lx) (hll : lx.length ≤ 1048576) (hss : s.size ≤ 1048576)
    (n0 : 0 ≤ n) (n1 : n < 18446744073709551616) (m0 : -9223372036854775808 ≤ m) (m1 : m ≤ 9223372036854775807) (hK : ∀ w', Fr [] w w' → K true w') : f6 n m s lS b w K := by
  unfold f6
  refine shown_spec fun w1 f1 => ?_
  refine ifF (by simp) ?_
  have h := (Hp.begin_ w).keep f1
  have h := h.addRo (t := tRd b 1 u8v bl) hs (by simp)
  have h := h.addRo (t := tRd lS 1 iv lx) hl (by simp)
  have hu : Hp.Reads (tRd b 1 u8v bl).ro b 1 u8v bl := ⟨Hp.rdRd.rd⟩
  have hv : Hp.Reads (tRd lS 1 iv lx).ro lS 1 iv lx := ⟨Hp.rdRd.rd⟩
  have h := h.nil 5 1 u8v
  simp only [List.cons_append, List.nil_append] at h
  have hbl' := h.lenU 0 rfl hu
  have hll' := h.lenU 1 rfl hv
  obtain ⟨inf, q1, q2, q3, q4⟩ := inf5
  have hpn := putU_len n
  have hpm := putU_len (zig m)
  have hps := putU_len (s.size : Int)
  have hzm := zig_range m0 m1
  have hsl := strL_len s
  refine Put_spec h 2 (b := ⟨none, 0, 0⟩) (l := []) rfl Hp.rdSl n0 n1 (by simp) fun r w2 h => ?_
  simp only [List.cons_append, List.nil_append] at h
  have hrl := h.len (s := r) 3 rfl
  refine h.appS 3 0 (s := r) rfl rfl hu u8v_len und22 q1 q3 q2 rfl (by simp [Value.oneCell']) (by rw [q4]; omega) (by omega) fun s2 w2 h _ _ => ?_
  simp only [List.set_cons_zero, List.set_cons_succ] at h
  refine Get_spec h 3 rfl Hp.rdSl (bytes_app (putU_bytes n0) hb) (by simp only [List.length_append]; omega) ?_
  rw [getU_put n0 n1]
  refine PutInt_spec h 2 (b := ⟨none, 0, 0⟩) (l := []) rfl Hp.rdSl m0 m1 (by simp) fun r2 w2 h => ?_
  simp only [List.cons_append, List.nil_append] at h
  have hrl2 := h.len (s := r2) 4 rfl
  refine h.appS 4 0 (s := r2) rfl rfl hu u8v_len und22 q1 q3 q2 rfl (by simp [Value.oneCell']) (by rw [q4]; omega) (by omega) fun s3 w2 h _ _ => ?_
  simp only [List.set_cons_zero, List.set_cons_succ] at h
  refine GetInt_spec h 4 rfl Hp.rdSl (bytes_app (putU_bytes hzm.1) hb) (by simp only [List.length_append]; omega) ?_
  have ei : getI (putU (zig m) ++ bl) = (m, ((putU (zig m)).length : Int)) := by
    unfold getI; rw [getU_put hzm.1 hzm.2, zag_zig]
  rw [ei]
  refine PutText_spec h 2 (b := ⟨none, 0, 0⟩) (l := []) rfl Hp.rdSl (by simp; omega) fun r3 w2 h => ?_
  simp only [List.cons_append, List.nil_append] at h
  have hrl3 := h.len (s := r3) 5 rfl
  rw [List.length_append] at hrl3
  refine h.appS 5 0 (s := r3) rfl rfl hu u8v_len und22 q1 q3 q2 rfl (by simp [Value.oneCell']) (by rw [q4]; omega) (by omega) fun s4 w2 h _ _ => ?_
  simp only [List.set_cons_zero, List.set_cons_succ] at h
  have hc4 := h.cap (s := s4) 5 rfl
  refine GetText_spec h 5 rfl Hp.rdSl (bytes_app (bytes_app (putU_bytes (by omega)) (strL_bytes s)) hb) (by simp only [List.length_append]; omega) hc4 ?_
  have et : getT (putU (s.size : Int) ++ strL s ++ bl) = (strL s, ((putU (s.size : Int)).length : Int) + s.size) := by
    have := getT_put (strL s) bl (by omega)
    rw [hsl] at this
    rw [List.append_assoc]; exact this
  rw [et]
  dsimp only
  have h := h.trim 3
  simp only [List.take_succ_cons, List.take_zero] at h
  refine ⟨fun w' => Hp [] w w' [(tRd b 1 u8v bl).ro, (tRd lS 1 iv lx).ro, tB ⟨none, 0, 0⟩ []], ?_, ?_⟩
  · refine ifF (by simp) ?_
    refine ifF (by simp) ?_
    refine ifF (by rw [str_beq, strL_of (strL_bytes s)]; simp) ?_
    refine Put_spec h 2 (b := ⟨none, 0, 0⟩) (l := []) rfl Hp.rdSl n0 n1 (by simp) fun r4 w2 h => ?_
    have l4 := h.len (s := r4) 3 rfl
    refine ifF (by simp at l4 ⊢; omega) ?_
    refine PutInt_spec h 2 (b := ⟨none, 0, 0⟩) (l := []) rfl Hp.rdSl m0 m1 (by simp) fun r5 w2 h => ?_
    have l5 := h.len (s := r5) 4 rfl
    refine ifF (by simp at l5 ⊢; omega) ?_
    refine PutText_spec h 2 (b := ⟨none, 0, 0⟩) (l := []) rfl Hp.rdSl (by simp; omega) fun r6 w2 h => ?_
    have l6 := h.len (s := r6) 5 rfl
    refine ifF (by simp only [List.length_append, List.length_nil] at l6; simp; omega) ?_
    exact h.trim 3
  rintro w3 h
  refine ⟨fun w' => Hp [] w w' [(tRd b 1 u8v bl).ro, (tRd lS 1 iv lx).ro, tB ⟨none, 0, 0⟩ []], ?_, ?_⟩
  · by_cases hsm : lx.length ≤ 100000
    · refine ifT (by simp; omega) ?_
      have hrs := rowU_short lx hsm
      refine PutRow_spec h 2 1 (b := ⟨none, 0, 0⟩) (bs := []) rfl Hp.rdSl rfl hv hr (by omega) (by simp) fun wr w4 h => ?_
      simp only [List.cons_append, List.nil_append] at h
      have hwl := h.len (s := wr) 3 rfl
      have hwc := h.cap (s := wr) 3 rfl
      refine h.nw (c := []) fun b2 w4 h => ?_
      have h := h.blkSl (i := 4) (m := 0) (l := ([] : List Int)) (f := u8v) (n := 1) rfl rfl rfl u8v_len
      simp only [List.cons_append, List.nil_append, List.set_cons_zero, List.set_cons_succ] at h
      refine h.appS 4 3 (s := ⟨some ⟨b2, 0, none⟩, 0, 0⟩) rfl rfl Hp.rdSl u8v_len und22 q1 q3 q2 rfl (by simp [Value.oneCell']) (by rw [q4]; show (0 + wr.len) * 1 ≤ _; omega) (by show 0 + wr.len ≤ _; omega) fun s5 w4 h _ _ => ?_
      simp only [List.nil_append, List.set_cons_zero, List.set_cons_succ] at h
      have h5l := h.len (s := s5) 4 rfl
      refine h.appS 4 0 (s := s5) rfl rfl hu u8v_len und22 q1 q3 q2 rfl (by simp [Value.oneCell']) (by rw [q4]; omega) (by omega) fun s6 w4 h _ _ => ?_
      simp only [List.set_cons_zero, List.set_cons_succ] at h
      have h6c := h.cap (s := s6) 4 rfl
      refine GetRow_spec h 4 rfl Hp.rdSl (bytes_app (rowU_bytes lx) hb) (by simp only [List.length_append]; omega) h6c fun r7 X size w5 hrow h => ?_
      obtain ⟨rfl, hsz⟩ := hrow.2.2 lx ⟨by omega, by omega, hsm, hr, bl, rfl⟩
      simp only [List.cons_append, List.nil_append] at h
      have h7l := h.len (s := r7) 5 rfl
      refine ifF (by rw [hsz]; simp; omega) ?_
      refine ⟨fun t mm w' => ∃ k : Nat, t = k ∧ k ≤ X.length ∧ mm = X.length - k ∧ Hp [] w w' [(tRd b 1 u8v bl).ro, (tRd lS 1 iv X).ro, tB ⟨none, 0, 0⟩ [], tB wr (rowU X), tB s6 (rowU X ++ bl), tSl r7 2 1 iv X], ⟨X.length, 0, rfl, by omega, rfl, h⟩, ?_⟩
      rintro t mm w6 ⟨k, rfl, hk, rfl, h⟩
      by_cases hlt : k < X.length
      · refine ifT (by simp; omega) ?_
        refine h.dr fun w7 h => ?_
        refine h.ixld (k := .i .i64) (y := X[k]) (x := X[k]) 5 rfl (by omega) (by simp [hlt]) iv_len rfl ?_
        refine h.ixldU (k := .i .i64) (u := (tRd lS 1 iv X).ro) (y := X[k]) (x := X[k]) 1 rfl hv (by omega) (by simp [hlt]) iv_len rfl ?_
        refine ifF (by simp) ?_
        exact ⟨X.length - (k + 1), by omega, k + 1, by rw [wr64 (by omega) (by omega)]; omega, by omega, rfl, h⟩
      refine ifF (by simp; omega) ?_
      refine GetRow_spec h 3 rfl Hp.rdSl (rowU_bytes X) (by omega) hwc fun sh Y nn w7 hrow2 h => ?_
      have hnn : nn = 0 := by
        refine Classical.byContradiction fun hne => ?_
        obtain ⟨hacc, _⟩ := hrow2.2.1 hne
        have g1 := hacc.head.1
        have g2 := (show Acc (rowU X) 100000 X from ⟨by omega, by omega, hsm, hr, [], by simp⟩).head.1
        rw [g1] at g2
        have g3 : (Y.length : Int) = X.length := congrArg Prod.fst g2
        have g4 := hacc.2.1
        rw [wr64 (by omega) (by omega)] at g4
        omega
      have hY := hrow2.1 hnn
      have hshl := h.len (s := sh) 6 rfl
      rw [hY] at hshl
      refine ifF ?_ ?_
      · have e1 : ¬ ((wr.len : Int) > IntKind.i64.wrap (5 + IntKind.i64.wrap (10 * (lS.len : Int)))) := by
          rw [wr64 (n := 10 * (lS.len : Int)) (by omega) (by omega), wr64 (by omega) (by omega)]; omega
        have e2 : sh.len = 0 := by simpa using hshl.symm
        rw [decide_eq_false e1, hnn, e2]
        simp
      · exact h.trim 3
    · exact ifF (by simp; omega) h
  rintro w4 h
  refine Get_spec h 0 rfl hu hb (by omega) ?_
  refine GetInt_spec h 0 rfl hu hb (by omega) ?_
  refine GetText_spec h 0 rfl hu hb (by omega) hcap ?_
  refine GetRow_spec h 0 rfl hu hb (by omega) hcap fun r8 X size2 w5 hrow h => ?_
  obtain ⟨r0, r1, r2, r3, r4, r5⟩ := getU_range hb
  have hT : 0 ≤ (getT bl).2 ∧ (getT bl).2 ≤ bl.length := by
    by_cases hz : (getT bl).2 = 0
    · omega
    · exact (getT_back hb hz).2
  have hS : 0 ≤ size2 ∧ size2 ≤ bl.length := by
    by_cases hz : size2 = 0
    · omega
    · obtain ⟨⟨_, _, _, _, rest, hl2⟩, hs2⟩ := hrow.2.1 hz
      have := congrArg List.length hl2
      rw [List.length_append] at this
      omega
  have eI : (getI bl).2 = (getU bl).2 := rfl
  refine ifF ?_ ?_
  · have a1 : ¬ (getU bl).2 < 0 := by omega
    have a2 : ¬ (getT bl).2 < 0 := by omega
    have a3 : ¬ size2 < 0 := by omega
    have a4 : ¬ (getU bl).2 > (b.len : Int) := by omega
    have a5 : ¬ (getT bl).2 > (b.len : Int) := by omega
    have a6 : ¬ size2 > (b.len : Int) := by omega
    rw [eI, decide_eq_false a1, decide_eq_false a2, decide_eq_false a3, decide_eq_false a4, decide_eq_false a5, decide_eq_false a6]
    simp
  · refine h.dr fun w6 h => ?_
    exact d1_spec h 0 3 rfl hu hb (by omega) hcap rfl hrow fun w' h => hK w' h.fr
end Go.Proofs.Ytbmpgjheiknjlaa.F
