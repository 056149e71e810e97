/-
  Part 6 of the proof: WorldGoesOn of layer 6 is true of the given program for every input that its guards let in.
-/
import Derived.Test.YtcccjgmekakabaaPkE
import Derived.Lib.SliceRun
import Derived.Laws.IdiomRangeMap
section
set_option linter.unusedSimpArgs false
set_option linter.unusedVariables false
set_option maxRecDepth 100000
namespace Go.Proofs.Ytcccjgmekakabaa.FP
open Go.Proofs.Ytcccjgmekakabaa.F
open Go Go.Den Go.Proofs
def expand (D : List (Int × Int)) : List Int := D.flatMap fun x => List.replicate x.1.toNat x.2

theorem expand_runT : ∀ (r : List Int) (y : Int), List.replicate (cnt y r) y ++ expand (runT (some y) r) = r
  | [], y => by simp [cnt, runT, expand]
  | x :: r, y => by
    by_cases h : x = y
    · subst h
      rw [runT_cons, if_pos rfl, cnt, if_pos rfl, List.replicate_succ, List.cons_append, expand_runT r x]
    · rw [runT_cons, if_neg (by simpa using Ne.symm h), cnt, if_neg h]
      have := expand_runT r x
      unfold expand at this ⊢
      rw [List.flatMap_cons]
      simp only [Int.toNat_natCast, List.replicate_succ, List.replicate_zero, List.nil_append, List.cons_append]
      rw [this]

theorem expand_runsL (l : List Int) : expand (runsL l) = l := by
  cases l with
  | nil => rfl
  | cons x r =>
    unfold runsL
    rw [runT_cons, if_neg (by simp)]
    have := expand_runT r x
    unfold expand at this ⊢
    rw [List.flatMap_cons]
    simp only [Int.toNat_natCast, List.replicate_succ, List.cons_append]
    rw [this]

abbrev rdB (s : Sl) (bad : Bool) : List Value := [.slice s.a s.len s.cap, .bool bad]

section
variable {S : List Nat} {w0 w : World} {its : List Thing}
theorem number_spec {u : Thing} {br : Nat} {s : Sl} {bad : Bool} {cur : List Int} {R : List Thing} (h : Hp S w0 w (u :: tBlk br 188 (rdB s bad) :: R)) (hu : Hp.Reads u s 1 u8v cur) (hb : Bytes cur) (hl : cur.length ≤ 9000000000000000) (hcap : s.len ≤ s.cap) {K : Int → World → Prop}
    (hK : ∀ s' w', Hp.Reads u s' 1 u8v (cur.drop (getU cur).2.toNat) → s'.len ≤ s'.cap → Hp S w0 w' (u :: tBlk br 188 (rdB s' (cond bad true ((getU cur).2 == 0))) :: R) → K (getU cur).1 w') : c120 (some ⟨br, 0, none⟩) w K := by
  refine c120_of ?_
  unfold f120
  obtain ⟨r0, r1, r2, r3, r4, r5⟩ := getU_range hb
  have hsl := h.lenU 0 rfl hu
  refine nns ?_
  refine h.ld0 (k := .sl) (x := s) 1 rfl rfl ?_
  refine Get_spec h 0 (u := u) rfl hu hb hl ?_
  refine nns ?_
  refine h.ld (k := .b) (x := bad) 1 rfl rfl ?_
  refine nns ?_
  refine h.st 1 rfl (by simp) rfl fun w1 h => ?_
  refine nns ?_
  simp only [List.set_cons_zero, List.set_cons_succ] at h
  refine h.ld0 (k := .sl) (x := s) 1 rfl rfl ?_
  refine Hp.cutv (s := s) hu hsl u8v_len r2 (by omega) (by omega) (Int.le_refl _) (by omega) fun s' hs' hl' hc' => ?_
  refine nns ?_
  refine h.st0 1 rfl (by simp) rfl fun w1 h => ?_
  simp only [List.set_cons_zero, List.set_cons_succ] at h
  have e : (cur.take ((s.len : Int)).toNat).drop (getU cur).2.toNat = cur.drop (getU cur).2.toNat := by
    rw [List.take_of_length_le (by omega)]
  rw [e] at hs'
  exact hK s' w1 hs' (by omega) h

/-- What reading leaves: a rest of the bytes. -/
def Suf (cur cur' : List Int) : Prop := ∃ p, cur = p ++ cur'

theorem Suf.refl (c : List Int) : Suf c c := ⟨[], rfl⟩

theorem Suf.drop {c c' : List Int} (h : Suf c c') (n : Nat) : Suf c (c'.drop n) := by
  obtain ⟨p, rfl⟩ := h
  exact ⟨p ++ c'.take n, by rw [List.append_assoc, List.take_append_drop]⟩

theorem Suf.bytes {c c' : List Int} (h : Suf c c') (hb : Bytes c) : Bytes c' := by
  obtain ⟨p, rfl⟩ := h
  exact fun x hx => hb x (by simp [hx])

theorem Suf.len {c c' : List Int} (h : Suf c c') : c'.length ≤ c.length := by
  obtain ⟨p, rfl⟩ := h
  simp

/-- After reading: X is what a canonical text of n numbers holds. -/
def Says (form n : Int) (cur : List Int) (X cur' : List Int) (bad : Bool) : Prop :=
  ∀ l rest, cur = formU form l ++ rest → (l.length : Int) = n → R64 l → X = l ∧ cur' = rest ∧ bad = false

theorem drop_num (a b : List Int) {k : Int} (h : k = (a.length : Int)) : (a ++ b).drop k.toNat = b := by
  subst h
  rw [Int.toNat_natCast, List.drop_left]

set_option maxHeartbeats 4000000 in
theorem read_spec {u : Thing} {br : Nat} {s : Sl} {cur : List Int} {form n : Int} (h : Hp S w0 w [u, tBlk br 188 (rdB s false)]) (hu : Hp.Reads u s 1 u8v cur) (hb : Bytes cur) (hl : cur.length ≤ 9000000000000000) (hcap : s.len ≤ s.cap)
    (hf0 : 0 ≤ form) (hn0 : 0 < n) (hn1 : n ≤ 100000) {K : Sl → World → Prop}
    (hK : ∀ out s' X cur' bad w', Hp.Reads u s' 1 u8v cur' → s'.len ≤ s'.cap → Suf cur cur' → R64 X → (X.length : Int) ≤ n → (2 < form → bad = true) → (form = 0 ∨ form = 1 ∨ form = 2 → Says form n cur X cur' bad) → Hp S w0 w' [u, tBlk br 188 (rdB s' bad), tSl out 2 1 iv X] → K out w') : c121 (some ⟨br, 0, none⟩) form n w K := by
  refine c121_of ?_
  unfold f121
  obtain ⟨inf, q1, q2, q3, q4⟩ := inf2
  have h := h.nil 2 1 iv
  simp only [List.cons_append, List.nil_append] at h
  have hwn : ∀ X : List Int, (X.length : Int) ≤ n → ∀ o : Sl, X.length = o.len → IntKind.u64.wrap (o.len : Int) = (X.length : Int) := fun X hX o ho => by rw [w64]; omega
  -- the first loop
  refine ⟨fun out w' => ∃ X cur1 s1 bad1, Hp.Reads u s1 1 u8v cur1 ∧ s1.len ≤ s1.cap ∧ Suf cur cur1 ∧ R64 X ∧ (X.length : Int) ≤ n ∧ (2 ≤ form → bad1 = false ∧ X = [] ∧ cur1 = cur) ∧ (form = 0 ∨ form = 1 → Says form n cur X cur1 bad1) ∧ Hp S w0 w' [u, tBlk br 188 (rdB s1 bad1), tSl out 2 1 iv X], ?_, ?_⟩
  · refine ⟨fun out last m w' => ∃ X cur1 s1 bad1, Hp.Reads u s1 1 u8v cur1 ∧ s1.len ≤ s1.cap ∧ Suf cur cur1 ∧ R64 X ∧ (X.length : Int) ≤ n ∧ (2 ≤ form → bad1 = false ∧ X = [] ∧ cur1 = cur) ∧ m = n.toNat - X.length ∧
        (∀ l rest, (form = 0 ∨ form = 1) → cur = formU form l ++ rest → (l.length : Int) = n → R64 l → bad1 = false ∧ ∃ k, X = l.take k ∧ k ≤ l.length ∧ cur1 = (if form = 0 then encZ (l.drop k) else encS last (l.drop k)) ++ rest) ∧
        Hp S w0 w' [u, tBlk br 188 (rdB s1 bad1), tSl out 2 1 iv X],
      ⟨n.toNat, [], cur, s, false, hu, hcap, Suf.refl _, (by intro x hx; cases hx), (by simp; omega), fun _ => ⟨rfl, rfl, rfl⟩, by simp, ?_, h⟩, ?_⟩
    · intro l rest hf hc hln hr
      refine ⟨rfl, 0, rfl, by omega, ?_⟩
      rw [hc]
      rcases hf with rfl | rfl <;> rfl
    rintro out last m w1 ⟨X, cur1, s1, bad1, hr1, hc1, hsuf, hX, hXn, h2f, rfl, hsay, h⟩
    have hol := h.len (s := out) 2 rfl
    -- what it means to end here
    have done : (n ≤ X.length ∨ bad1 = true ∨ 2 ≤ form) → ∃ X cur1 s1 bad1, Hp.Reads u s1 1 u8v cur1 ∧ s1.len ≤ s1.cap ∧ Suf cur cur1 ∧ R64 X ∧ (X.length : Int) ≤ n ∧ (2 ≤ form → bad1 = false ∧ X = [] ∧ cur1 = cur) ∧ (form = 0 ∨ form = 1 → Says form n cur X cur1 bad1) ∧ Hp S w0 w1 [u, tBlk br 188 (rdB s1 bad1), tSl out 2 1 iv X] := by
      intro hend
      refine ⟨X, cur1, s1, bad1, hr1, hc1, hsuf, hX, hXn, h2f, ?_, h⟩
      intro hf l rest hc hln hr
      obtain ⟨g1, k, g2, g3, g4⟩ := hsay l rest hf hc hln hr
      have hXl : X.length = k := by rw [g2, List.length_take]; omega
      have hkl : k = l.length := by
        rcases hend with h | h | h
        · omega
        · rw [g1] at h; cases h
        · omega
      subst hkl
      rw [List.take_length] at g2
      rw [List.drop_length] at g4
      refine ⟨g2, ?_, g1⟩
      rw [g4]
      rcases hf with rfl | rfl <;> simp [encZ, encS]
    refine ⟨fun w' => w' = w1 ∧ (X.length : Int) < n ∧ bad1 = false ∧ form < 2, ?_, ?_⟩
    · rw [hwn X hXn out hol]
      by_cases c1 : (X.length : Int) < n
      · refine ifT (by simpa using c1) ?_
        refine nns ?_
        refine h.ld (k := .b) (x := bad1) 1 rfl rfl ?_
        cases hbad : bad1 with
        | true => subst hbad; exact ifF (by simp) (done (.inr (.inl rfl)))
        | false =>
          subst hbad
          refine ifT (by simp) ?_
          by_cases c2 : form < 2
          · exact ifT (by simpa using c2) ⟨rfl, c1, rfl, c2⟩
          · exact ifF (by simpa using c2) (done (.inr (.inr (by omega))))
      · exact ifF (by simpa using c1) (done (.inl (by omega)))
    · rintro w2 ⟨rfl, c1, rfl, c2⟩
      have hb1 := hsuf.bytes hb
      have hl1 := hsuf.len
      obtain ⟨r0, r1, r2, r3, r4, r5⟩ := getU_range hb1
      refine number_spec h hr1 hb1 (by omega) hc1 fun s2 w3 hr2 hc2 h => ?_
      refine plain_spec r0 r1 ?_
      have hz := zag_range r0 r1
      -- the number that is put
      have step : ∀ (y last2 : Int) (hy : -9223372036854775808 ≤ y ∧ y ≤ 9223372036854775807), y = (if form = 1 then IntKind.i64.wrap (zag (getU cur1).1 + last) else zag (getU cur1).1) → (form = 1 → last2 = y) →
          ∀ s3 w4, Hp S w0 w4 [u, tBlk br 188 (rdB s2 (cond false true ((getU cur1).2 == 0))), tSl s3 2 1 iv (X ++ [y])] →
          ∃ m2 : Nat, m2 < n.toNat - X.length ∧ ∃ X cur1 s1 bad1, Hp.Reads u s1 1 u8v cur1 ∧ s1.len ≤ s1.cap ∧ Suf cur cur1 ∧ R64 X ∧ (X.length : Int) ≤ n ∧ (2 ≤ form → bad1 = false ∧ X = [] ∧ cur1 = cur) ∧ m2 = n.toNat - X.length ∧
            (∀ l rest, (form = 0 ∨ form = 1) → cur = formU form l ++ rest → (l.length : Int) = n → R64 l → bad1 = false ∧ ∃ k, X = l.take k ∧ k ≤ l.length ∧ cur1 = (if form = 0 then encZ (l.drop k) else encS last2 (l.drop k)) ++ rest) ∧
            Hp S w0 w4 [u, tBlk br 188 (rdB s1 bad1), tSl s3 2 1 iv X] := by
        intro y last2 hy hye hlast s3 w4 h
        refine ⟨n.toNat - (X.length + 1), by omega, X ++ [y], _, s2, _, hr2, hc2, hsuf.drop _, ?_, by simp; omega, by intro; omega, by simp, ?_, h⟩
        · intro z hz
          rcases List.mem_append.1 hz with hz | hz
          · exact hX z hz
          · simp only [List.mem_singleton] at hz; subst hz; exact hy
        · intro l rest hf hc hln hr
          obtain ⟨g1, k, g2, g3, g4⟩ := hsay l rest hf hc hln hr
          have hXl : X.length = k := by rw [g2, List.length_take]; omega
          have hkl : k < l.length := by omega
          have hd : l.drop k = l[k] :: l.drop (k + 1) := List.drop_eq_getElem_cons hkl
          have htk : l.take (k + 1) = l.take k ++ [l[k]] := List.take_succ_eq_append_getElem hkl
          have hxr := hr l[k] (List.getElem_mem hkl)
          rw [hd] at g4
          generalize l[k] = x at hd htk hxr g4
          rcases hf with rfl | rfl
          · have e : cur1 = putU (zig x) ++ (encZ (l.drop (k + 1)) ++ rest) := by
              rw [g4, if_pos rfl]; simp [encZ]
            have hg := getI_put hxr.1 hxr.2 (encZ (l.drop (k + 1)) ++ rest)
            rw [← e] at hg
            have hp := putU_pos (zig x)
            rw [if_neg (by omega)] at hye
            rw [hg, zag_zig] at hye
            refine ⟨by rw [hg]; simp; intro h0; rw [h0] at hp; simp at hp, k + 1, by rw [htk, ← g2, hye], by omega, ?_⟩
            rw [hg, if_pos rfl, e]
            exact drop_num _ _ rfl
          · have e : cur1 = putU (zig (IntKind.i64.wrap (x - last))) ++ (encS x (l.drop (k + 1)) ++ rest) := by
              rw [g4, if_neg (by omega), encS]; simp
            have hg := getI_put (wr64lo (x - last)) (wr64hi (x - last)) (encS x (l.drop (k + 1)) ++ rest)
            rw [← e] at hg
            have hp := putU_pos (zig (IntKind.i64.wrap (x - last)))
            rw [if_pos rfl, hg, zag_zig] at hye
            have hyx : y = x := by
              rw [hye, wi64, wi64]
              split <;> split <;> omega
            have hl2 := hlast rfl
            refine ⟨by rw [hg]; simp; intro h0; rw [h0] at hp; simp at hp, k + 1, by rw [htk, ← g2, hyx], by omega, ?_⟩
            rw [hg, if_neg (by omega), hl2, hyx, e]
            exact drop_num _ _ rfl
      by_cases c3 : form = 1
      · refine ifT (by simpa using c3) ?_
        refine h.nwapp (c := [_]) 2 (IntKind.i64.wrap (zag (getU cur1).1 + last)) rfl iv_len und24 q1 q3 q2 rfl rfl (by simp [Value.oneCell']) (by rw [q4]; omega) (by omega) fun s3 w4 h _ _ => ?_
        exact step _ _ ⟨wr64lo _, wr64hi _⟩ (by rw [if_pos c3]) (fun _ => rfl) s3 w4 h
      · refine ifF (by simpa using c3) ?_
        refine h.nwapp (c := [_]) 2 (zag (getU cur1).1) rfl iv_len und24 q1 q3 q2 rfl rfl (by simp [Value.oneCell']) (by rw [q4]; omega) (by omega) fun s3 w4 h _ _ => ?_
        exact step _ _ hz (by rw [if_neg c3]) (fun hf => absurd hf c3) s3 w4 h
  · rintro out w1 ⟨X, cur1, s1, bad1, hr1, hc1, hsuf, hX, hXn, h2f, hsay, h⟩
    by_cases hf2 : form = 2
    · subst hf2
      obtain ⟨rfl, rfl, hcc⟩ := h2f (by omega)
      have hcc := hcc.symm
      subst hcc
      refine ifF (by simp) ?_
      obtain ⟨r0, r1, r2, r3, r4, r5⟩ := getU_range hb
      refine number_spec h hr1 hb hl hc1 fun s2 w2 hr2 hc2 h => ?_
      refine ⟨fun out5 k2 m w' => ∃ X cur1 s1 bad1, Hp.Reads u s1 1 u8v cur1 ∧ s1.len ≤ s1.cap ∧ Suf cur cur1 ∧ R64 X ∧ (X.length : Int) ≤ n ∧ 0 ≤ k2 ∧ k2 < 18446744073709551616 ∧ m = 2 * cur1.length + (if bad1 = true then 0 else 1) ∧
          (∀ l rest, cur = formU 2 l ++ rest → (l.length : Int) = n → R64 l → bad1 = false ∧ ∃ D T, runsL l = D ++ T ∧ X = expand D ∧ cur1 = T.flatMap encP ++ rest ∧ k2 = T.length) ∧
          Hp S w0 w' [u, tBlk br 188 (rdB s1 bad1), tSl out5 2 1 iv X],
        ⟨_, [], _, s2, _, hr2, hc2, (Suf.refl _).drop _, (by intro x hx; cases hx), (by simp; omega), r0, r1, rfl, ?_, h⟩, ?_⟩
      · intro l rest hc hln hr
        have hrl := runsL_len l
        have e : cur = putU ((runsL l).length : Int) ++ ((runsL l).flatMap encP ++ rest) := by
          rw [hc]; show encR l ++ rest = _; simp [encR]
        have hg := getU_put (n := ((runsL l).length : Int)) (by omega) (by omega) ((runsL l).flatMap encP ++ rest)
        rw [← e] at hg
        have hp := putU_pos ((runsL l).length : Int)
        refine ⟨by rw [hg]; simp; intro h0; rw [h0] at hp; simp at hp, [], runsL l, rfl, rfl, ?_, by rw [hg]⟩
        rw [hg, e]
        exact drop_num _ _ rfl
      clear r0 r1 r2 r3 r4 r5 hr2 hc2 h hr1 hc1 hsuf hX hXn hsay h2f
      rintro out5 k2 m w3 ⟨X, cur1, s1, bad1, hr1, hc1, hsuf, hX, hXn, k0, k1, rfl, hsay, h⟩
      have hol := h.len (s := out5) 2 rfl
      have done : (k2 = 0 ∨ bad1 = true) → K out5 w3 := by
        intro hend
        refine hK out5 s1 X cur1 bad1 w3 hr1 hc1 hsuf hX hXn (by omega) ?_ h
        intro _ l rest hc hln hr
        obtain ⟨g1, D, T, g2, g3, g4, g5⟩ := hsay l rest hc hln hr
        have hT : T = [] := by
          rcases hend with h | h
          · exact List.eq_nil_of_length_eq_zero (by omega)
          · rw [g1] at h; cases h
        subst hT
        rw [List.append_nil] at g2
        refine ⟨by rw [g3, ← g2, expand_runsL], by rw [g4]; rfl, g1⟩
      refine ⟨fun w' => w' = w3 ∧ 0 < k2 ∧ bad1 = false, ?_, ?_⟩
      · by_cases c1 : k2 > 0
        · refine ifT (by simpa using c1) ?_
          refine nns ?_
          refine h.ld (k := .b) (x := bad1) 1 rfl rfl ?_
          cases hbad : bad1 with
          | true => subst hbad; exact ifF (by simp) (done (.inr rfl))
          | false => subst hbad; exact ifT (by simp) ⟨rfl, c1, rfl⟩
        · exact ifF (by simpa using c1) (done (.inl (by omega)))
      · rintro w4 ⟨rfl, c1, rfl⟩
        have hb1 := hsuf.bytes hb
        have hl1 := hsuf.len
        obtain ⟨a0, a1, a2, a3, a4, a5⟩ := getU_range hb1
        refine number_spec h hr1 hb1 (by omega) hc1 fun s2 w5 hr2 hc2 h => ?_
        have hsuf2 := hsuf.drop (getU cur1).2.toNat
        have hb2 := hsuf2.bytes hb
        have hl2 := hsuf2.len
        have hlen2 : (cur1.drop (getU cur1).2.toNat).length = cur1.length - (getU cur1).2.toNat := List.length_drop
        generalize hcur2 : cur1.drop (getU cur1).2.toNat = cur2 at *
        obtain ⟨b0, b1, b2, b3, b4, b5⟩ := getU_range hb2
        refine number_spec h hr2 hb2 (by omega) hc2 fun s3 w6 hr3 hc3 h => ?_
        refine plain_spec b0 b1 ?_
        have hz := zag_range b0 b1
        have hsuf3 := hsuf2.drop (getU cur2).2.toNat
        have hlen3 : (cur2.drop (getU cur2).2.toNat).length = cur2.length - (getU cur2).2.toNat := List.length_drop
        refine nns ?_
        refine h.ld (k := .b) 1 rfl rfl ?_
        refine nns ?_
        refine h.st 1 rfl (by simp) rfl fun w6 h => ?_
        simp only [List.set_cons_zero, List.set_cons_succ] at h
        have ewn : IntKind.u64.wrap (n - IntKind.u64.wrap (out5.len : Int)) = n - X.length := by
          rw [hwn X hXn out5 hol, w64]; omega
        rw [ewn] at h
        generalize hbd : (cond (cond (cond false true ((getU cur1).2 == 0)) true ((getU cur2).2 == 0)) true (decide ((getU cur1).1 > n - (X.length : Int)))) = bad' at h
        have hbd' : bad' = false → (getU cur1).2 ≠ 0 ∧ (getU cur1).1 ≤ n - X.length := by
          intro hb'
          rw [hb'] at hbd
          cases h1 : ((getU cur1).2 == 0) with
          | true => rw [h1] at hbd; cases h2 : ((getU cur2).2 == 0) <;> rw [h2] at hbd <;> simp at hbd
          | false =>
            refine ⟨by simpa using h1, ?_⟩
            rw [h1] at hbd
            cases h2 : ((getU cur2).2 == 0) with
            | true => rw [h2] at hbd; simp at hbd
            | false => rw [h2] at hbd; simpa using hbd
        -- the canonical one
        have canon : ∀ l rest, cur = formU 2 l ++ rest → (l.length : Int) = n → R64 l → bad' = false ∧ ∃ D T, runsL l = D ++ T ∧ X ++ List.replicate (getU cur1).1.toNat (zag (getU cur2).1) = expand D ∧ cur2.drop (getU cur2).2.toNat = T.flatMap encP ++ rest ∧ k2 - 1 = T.length := by
          intro l rest hc hln hr
          obtain ⟨g1, D, T, g2, g3, g4, g5⟩ := hsay l rest hc hln hr
          match T, g2, g4, g5 with
          | [], g2, g4, g5 => simp at g5; omega
          | (q, y) :: T, g2, g4, g5 =>
            have hmem := runT_mem none l (q, y) (by show (q, y) ∈ runsL l; rw [g2]; simp)
            have hyr := hr y hmem.2.2
            obtain ⟨m1, m2, _⟩ := hmem
            dsimp only at m1 m2
            have e1 : cur1 = putU q ++ (putU (zig y) ++ (T.flatMap encP ++ rest)) := by rw [g4]; simp [encP]
            have hg1 := getU_put (n := q) (by omega) (by omega) (putU (zig y) ++ (T.flatMap encP ++ rest))
            rw [← e1] at hg1
            have e2 : cur2 = putU (zig y) ++ (T.flatMap encP ++ rest) := by
              rw [← hcur2, hg1, e1]; exact drop_num _ _ rfl
            have hg2 := getI_put hyr.1 hyr.2 (T.flatMap encP ++ rest)
            rw [← e2] at hg2
            have hp1 := putU_pos q
            have hp2 := putU_pos (zig y)
            have hexp := expand_runsL l
            rw [g2] at hexp
            have hlen : X.length + q.toNat ≤ l.length := by
              rw [← hexp, g3]
              simp only [expand, List.flatMap_append, List.flatMap_cons, List.length_append, List.length_replicate]
              omega
            refine ⟨?_, D ++ [(q, y)], T, by rw [g2]; simp, ?_, ?_, ?_⟩
            · rw [← hbd, hg1, hg2]
              have n1 : (((putU q).length : Int) == 0) = false := by simp; intro h0; rw [h0] at hp1; simp at hp1
              have n2 : (((putU (zig y)).length : Int) == 0) = false := by simp; intro h0; rw [h0] at hp2; simp at hp2
              have n3 : ¬ (q > n - (X.length : Int)) := by omega
              dsimp only
              rw [n1, n2, decide_eq_false n3]; rfl
            · rw [hg1, hg2, zag_zig, g3]
              simp [expand]
            · rw [hg2, e2]; exact drop_num _ _ rfl
            · simp only [List.length_cons] at g5; omega
        refine ⟨fun out6 many2 m w' => ∃ X', R64 X' ∧ (X'.length : Int) ≤ n ∧ 0 ≤ many2 ∧ many2 < 18446744073709551616 ∧ m = many2.toNat ∧ (bad' = false → (X'.length : Int) + many2 ≤ n ∧ X' ++ List.replicate many2.toNat (zag (getU cur2).1) = X ++ List.replicate (getU cur1).1.toNat (zag (getU cur2).1)) ∧
            Hp S w0 w' [u, tBlk br 188 (rdB s3 bad'), tSl out6 2 1 iv X'],
          ⟨_, X, hX, hXn, a0, a1, rfl, fun hb' => ⟨by have := (hbd' hb').2; omega, rfl⟩, h⟩, ?_⟩
        rintro out6 many2 m w7 ⟨X', hX', hXn', n0, n1, rfl, hgo, h⟩
        have hol' := h.len (s := out6) 2 rfl
        have next : (many2 = 0 ∨ bad' = true) → ∃ m4 : Nat, m4 < 2 * cur1.length + (if false = true then 0 else 1) ∧ ∃ X cur1 s1 bad1, Hp.Reads u s1 1 u8v cur1 ∧ s1.len ≤ s1.cap ∧ Suf cur cur1 ∧ R64 X ∧ (X.length : Int) ≤ n ∧ 0 ≤ IntKind.u64.wrap (k2 - 1) ∧ IntKind.u64.wrap (k2 - 1) < 18446744073709551616 ∧ m4 = 2 * cur1.length + (if bad1 = true then 0 else 1) ∧
            (∀ l rest, cur = formU 2 l ++ rest → (l.length : Int) = n → R64 l → bad1 = false ∧ ∃ D T, runsL l = D ++ T ∧ X = expand D ∧ cur1 = T.flatMap encP ++ rest ∧ IntKind.u64.wrap (k2 - 1) = T.length) ∧
            Hp S w0 w7 [u, tBlk br 188 (rdB s1 bad1), tSl out6 2 1 iv X] := by
          intro hend
          have ewk : IntKind.u64.wrap (k2 - 1) = k2 - 1 := by rw [w64]; omega
          rw [ewk]
          refine ⟨2 * (cur2.drop (getU cur2).2.toNat).length + (if bad' = true then 0 else 1), ?_, X', _, s3, bad', hr3, hc3, hsuf3, hX', hXn', by omega, by omega, rfl, ?_, h⟩
          · cases hb' : bad' with
            | true => simp; omega
            | false =>
              have := (hbd' hb').1
              simp; omega
          · intro l rest hc hln hr
            obtain ⟨g1, D, T, g2, g3, g4, g5⟩ := canon l rest hc hln hr
            obtain ⟨_, g6⟩ := hgo g1
            have hm : many2 = 0 := by
              rcases hend with h | h
              · exact h
              · rw [g1] at h; cases h
            rw [hm] at g6
            simp only [Int.toNat_zero, List.replicate_zero, List.append_nil] at g6
            exact ⟨g1, D, T, g2, by rw [g6, g3], g4, g5⟩
        refine ⟨fun w' => w' = w7 ∧ 0 < many2 ∧ bad' = false, ?_, ?_⟩
        · by_cases c2 : many2 > 0
          · refine ifT (by simpa using c2) ?_
            refine nns ?_
            refine h.ld (k := .b) (x := bad') 1 rfl rfl ?_
            cases hb' : bad' with
            | true => exact ifF (by simp) (next (.inr hb'))
            | false => exact ifT (by simp) ⟨rfl, c2, rfl⟩
          · exact ifF (by simpa using c2) (next (.inl (by omega)))
        · rintro w8 ⟨rfl, c2, hb'⟩
          obtain ⟨g1, g2⟩ := hgo hb'
          refine h.nwapp (c := [_]) 2 (zag (getU cur2).1) rfl iv_len und24 q1 q3 q2 rfl rfl (by simp [Value.oneCell']) (by rw [q4]; omega) (by omega) fun s4 w9 h _ _ => ?_
          have ewm : IntKind.u64.wrap (many2 - 1) = many2 - 1 := by rw [w64]; omega
          rw [ewm]
          refine ⟨(many2 - 1).toNat, by omega, X' ++ [zag (getU cur2).1], ?_, by simp; omega, by omega, by omega, rfl, fun _ => ⟨by simp; omega, ?_⟩, h⟩
          · intro z hz'
            rcases List.mem_append.1 hz' with hz' | hz'
            · exact hX' z hz'
            · simp only [List.mem_singleton] at hz'; subst hz'; exact hz
          · rw [← g2, show many2.toNat = (many2 - 1).toNat + 1 by omega, List.replicate_succ]
            simp
    · refine ifT (by simpa using hf2) ?_
      refine nns ?_
      refine h.ld (k := .b) (x := bad1) 1 rfl rfl ?_
      refine nns ?_
      refine h.st 1 rfl (by simp) rfl fun w2 h => ?_
      simp only [List.set_cons_zero, List.set_cons_succ] at h
      refine hK out s1 X cur1 (cond bad1 true (decide (form > 2))) w2 hr1 hc1 hsuf hX hXn ?_ ?_ h
      · intro hlt; rw [decide_eq_true (show form > 2 from hlt)]; cases bad1 <;> rfl
      · intro hf l rest hc hln hr
        have hf' : form = 0 ∨ form = 1 := by omega
        obtain ⟨g1, g2, g3⟩ := hsay hf' l rest hc hln hr
        have : ¬ form > 2 := by omega
        exact ⟨g1, g2, by rw [g3]; simp [this]⟩

end
end Go.Proofs.Ytcccjgmekakabaa.FP
end

section
set_option linter.unusedSimpArgs false
set_option linter.unusedVariables false
set_option maxRecDepth 100000
namespace Go.Proofs.Ytcccjgmekakabaa.FP
open Go.Proofs.Ytcccjgmekakabaa.F
open Go Go.Den Go.Proofs
/-- Bytes begin with a row of so many numbers at most. -/
def Acc (bs : List Int) (most : Int) (l : List Int) : Prop := 0 ≤ most ∧ (l.length : Int) ≤ most ∧ l.length ≤ 100000 ∧ R64 l ∧ ∃ rest, bs = rowU l ++ rest

/-- What GetRow must answer. -/
def RowOk (bs : List Int) (most : Int) (X : List Int) (size : Int) : Prop :=
  (size = 0 → X = []) ∧ (size ≠ 0 → Acc bs most X ∧ size = ((rowU X).length : Int)) ∧ ∀ l, Acc bs most l → X = l ∧ size = ((rowU l).length : Int)

theorem bestU_form (l : List Int) : ∃ f : Int, (f = 0 ∨ f = 1 ∨ f = 2) ∧ bestU l = f :: formU f l := by
  unfold bestU
  have hs : ∀ a b : List Int, shorter a b = a ∨ shorter a b = b := fun a b => by unfold shorter; split <;> simp
  rcases hs (shorter (0 :: formU 0 l) (1 :: formU 1 l)) (2 :: formU 2 l) with h | h
  · rcases hs (0 :: formU 0 l) (1 :: formU 1 l) with h2 | h2
    · exact ⟨0, .inl rfl, by rw [h, h2]⟩
    · exact ⟨1, .inr (.inl rfl), by rw [h, h2]⟩
  · exact ⟨2, .inr (.inr rfl), h⟩

theorem putU_bytes {n : Int} (h : 0 ≤ n) : Bytes (putU n) := putF_byte 10 n h

theorem zig_nn (n : Int) : 0 ≤ zig n := by unfold zig; split <;> omega

theorem bytes_app {a b : List Int} (ha : Bytes a) (hb : Bytes b) : Bytes (a ++ b) := fun x hx => (List.mem_append.1 hx).elim (ha x) (hb x)

theorem encZ_bytes (l : List Int) : Bytes (encZ l) := by
  intro x hx
  obtain ⟨y, _, hy⟩ := List.mem_flatMap.1 hx
  exact putU_bytes (zig_nn y) x hy

theorem encS_bytes : ∀ (last : Int) (l : List Int), Bytes (encS last l)
  | _, [] => by intro x hx; cases hx
  | last, x :: r => bytes_app (putU_bytes (zig_nn _)) (encS_bytes x r)

theorem encR_bytes (l : List Int) : Bytes (encR l) := by
  refine bytes_app (putU_bytes (by omega)) ?_
  intro x hx
  obtain ⟨y, hm, hy⟩ := List.mem_flatMap.1 hx
  have := (runT_mem none l y hm).1
  exact bytes_app (putU_bytes (by omega)) (putU_bytes (zig_nn _)) x hy

theorem formU_bytes (f : Int) (l : List Int) : Bytes (formU f l) := by
  unfold formU
  split
  · exact encZ_bytes l
  · split
    · exact encS_bytes 0 l
    · exact encR_bytes l

theorem bestU_bytes (l : List Int) : Bytes (bestU l) := by
  obtain ⟨f, hf, e⟩ := bestU_form l
  rw [e]
  intro x hx
  rcases List.mem_cons.1 hx with rfl | hx
  · omega
  · exact formU_bytes f l x hx

theorem rowU_bytes (l : List Int) : Bytes (rowU l) := by
  unfold rowU
  refine bytes_app (putU_bytes (by omega)) ?_
  split
  · intro x hx; cases hx
  · exact bestU_bytes l

theorem Acc.head {bs : List Int} {most : Int} {l : List Int} (h : Acc bs most l) : getU bs = ((l.length : Int), ((putU l.length).length : Int)) ∧ ∃ rest, bs = rowU l ++ rest ∧ bs.drop (putU (l.length : Int)).length = (if l = [] then [] else bestU l) ++ rest := by
  obtain ⟨_, _, h1, _, rest, rfl⟩ := h
  have e : rowU l ++ rest = putU (l.length : Int) ++ ((if l = [] then [] else bestU l) ++ rest) := by unfold rowU; rw [List.append_assoc]
  exact ⟨by rw [e]; exact getU_put (by omega) (by omega) _, rest, rfl, by rw [e, List.drop_left]⟩

theorem no_row {bs : List Int} {most : Int} (h : ∀ l, ¬ Acc bs most l) : RowOk bs most [] 0 :=
  ⟨fun _ => rfl, fun h => (h rfl).elim, fun l hl => absurd hl (h l)⟩

theorem rowU_pos (l : List Int) : 1 ≤ (rowU l).length := by
  have := putU_pos l.length
  unfold rowU; rw [List.length_append]; omega

section
variable {S : List Nat} {w0 w : World} {its : List Thing}
theorem w100 {most : Int} (h : 0 ≤ most) : IntKind.u64.wrap (if 100000 < most then 100000 else most) = (if 100000 < most then 100000 else most) := by
  rw [w64]; split <;> omega

set_option maxHeartbeats 2000000 in
theorem GetRow_spec (h : Hp S w0 w its) (j : Nat) {u : Thing} {b : Sl} {bs : List Int} {most : Int} (hj : (its[j]?).map Thing.holds = some u.holds) (hu : Hp.Reads u b 1 u8v bs) (hb : Bytes bs) (hl : bs.length ≤ 9000000000000000) (hcap : b.len ≤ b.cap) {K : Sl → Int → World → Prop}
    (hK : ∀ s X size w', RowOk bs most X size → Hp S w0 w' (its ++ [tSl s 2 1 iv X]) → K s size w') : c101 b most w K := by
  refine c101_of ?_
  unfold f101
  have hbl := h.lenU j hj hu
  have h1 := h.ro1 hj
  have hu' : Hp.Reads u.ro b 1 u8v bs := ⟨hu.rd⟩
  obtain ⟨r0, r1, r2, r3, r4, r5⟩ := getU_range hb
  have none_ : (∀ l, ¬ Acc bs most l) → ∀ {w' : World}, Fr [] w w' → K ⟨none, 0, 0⟩ 0 w' := fun hn w' hf => hK _ _ _ _ (no_row hn) ((h.keep hf).nil 2 1 iv)
  refine h1.nw (c := [_, _]) fun r w1 h1 => ?_
  refine number_spec (S := []) (w0 := w) (R := []) h1 hu' hb hl hcap fun s2 w2 hr2 hc2 h1 => ?_
  have hbad : (cond false true ((getU bs).2 == 0)) = ((getU bs).2 == 0) := rfl
  rw [hbad] at h1
  refine ⟨fun w' => w' = w2 ∧ (getU bs).2 ≠ 0 ∧ 0 ≤ most ∧ (getU bs).1 ≤ (if 100000 < most then 100000 else most), ?_, ?_⟩
  · refine h1.ld (k := .b) (x := ((getU bs).2 == 0)) 1 rfl rfl ?_
    by_cases hz : (getU bs).2 = 0
    · refine ifT (by simpa using hz) (none_ ?_ h1.fr)
      intro l hl'
      have := hl'.head.1
      rw [this] at hz
      have := putU_pos l.length
      dsimp only at hz
      omega
    refine ifF (by simpa using hz) ?_
    by_cases hm : most < 0
    · refine ifT (by simpa using hm) (none_ ?_ h1.fr)
      intro l hl'
      have := hl'.1
      omega
    refine ifF (by simpa using hm) ?_
    rw [w100 (by omega)]
    by_cases hn : (getU bs).1 > (if 100000 < most then 100000 else most)
    · refine ifT (by simpa using hn) (none_ ?_ h1.fr)
      intro l hl'
      have h2 := hl'.head.1
      rw [h2] at hn
      obtain ⟨_, a1, a2, _⟩ := hl'
      dsimp only at hn
      split at hn <;> omega
    · exact ifF (by simpa using hn) ⟨rfl, hz, by omega, by omega⟩
  rintro w3 ⟨rfl, hz, hm, hn⟩
  have hmm : (getU bs).1 ≤ most ∧ (getU bs).1 ≤ 100000 := by split at hn <;> omega
  have hback := getU_back hb hz
  by_cases hn0 : (getU bs).1 = 0
  · refine ifT (by simpa using hn0) ?_
    rw [hn0] at hback
    have e0 : putU 0 = [0] := by decide
    rw [e0] at hback
    refine hK _ [] 1 _ ⟨fun h => by omega, fun _ => ⟨⟨hm, by simpa using hm, by simp, (by intro x hx; cases hx), bs.drop (getU bs).2.toNat, ?_⟩, ?_⟩, ?_⟩ ((h.keep h1.fr).nil 2 1 iv)
    · have e1 : rowU [] = [0] := by decide
      rw [e1, hback, List.take_append_drop]
    · decide
    · intro l hl'
      have h2 := hl'.head.1
      rw [h2] at hn0
      have : l = [] := List.eq_nil_of_length_eq_zero (by dsimp only at hn0; omega)
      subst this
      exact ⟨rfl, by decide⟩
  refine ifF (by simpa using hn0) ?_
  have hlen2 : (bs.drop (getU bs).2.toNat).length = bs.length - (getU bs).2.toNat := List.length_drop
  have hs2l := h1.lenU 0 rfl hr2
  -- whoever is accepted stands behind the head
  have accF : ∀ l, Acc bs most l → (l.length : Int) = (getU bs).1 ∧ l ≠ [] ∧ ∃ rest, bs = rowU l ++ rest ∧ bs.drop (getU bs).2.toNat = bestU l ++ rest := by
    intro l hl'
    obtain ⟨g1, rest, g2, g3⟩ := hl'.head
    have hl0 : l ≠ [] := by
      rintro rfl
      rw [g1] at hn0
      exact hn0 rfl
    rw [if_neg hl0] at g3
    refine ⟨by rw [g1], hl0, rest, g2, ?_⟩
    rw [g1]
    exact g3
  refine h1.ld0 (k := .sl) (x := s2) 1 rfl rfl ?_
  by_cases he : s2.len = 0
  · refine ifT (by simpa using he) (none_ ?_ h1.fr)
    intro l hl'
    obtain ⟨_, _, rest, _, g⟩ := accF l hl'
    have hp := bestU_pos l
    have := congrArg List.length g
    simp only [List.length_append] at this
    omega
  refine ifF (by simpa using he) ?_
  refine h1.ld0 (k := .sl) (x := s2) 1 rfl rfl ?_
  obtain ⟨form, cur, hcur⟩ : ∃ form cur, bs.drop (getU bs).2.toNat = form :: cur := by
    cases hc : bs.drop (getU bs).2.toNat with
    | nil => rw [hc] at hs2l; simp at hs2l; omega
    | cons x y => exact ⟨x, y, rfl⟩
  rw [hcur] at hr2 hs2l
  simp only [List.length_cons] at hs2l
  have hbc : Bytes (form :: cur) := by rw [← hcur]; exact bytes_drop hb _
  have hf := hbc form (by simp)
  refine h1.ixldU (k := .i .u8) (u := u.ro) (y := form) (x := form) 0 rfl hr2 (by omega) rfl u8v_len rfl ?_
  refine h1.ld0 (k := .sl) (x := s2) 1 rfl rfl ?_
  refine Hp.cutv (s := s2) hr2 (by simp; omega) u8v_len (by omega) (by omega) (by omega) (Int.le_refl _) (by omega) fun s3 hs3 hl3 hc3 => ?_
  have e3 : (((form :: cur).take ((s2.len : Int)).toNat).drop (1 : Int).toNat) = cur := by
    rw [List.take_of_length_le (by simp; omega)]; rfl
  rw [e3] at hs3
  refine h1.st0 1 rfl (by simp) rfl fun w4 h1 => ?_
  simp only [List.set_cons_zero, List.set_cons_succ] at h1
  have hz' : ((getU bs).2 == 0) = false := by simpa using hz
  rw [hz'] at h1
  have hcl : cur.length ≤ bs.length := by
    have := congrArg List.length hcur
    simp only [List.length_cons] at this
    omega
  refine read_spec h1 hs3 (fun x hx => hbc x (by simp [hx])) (by omega) (by omega) hf.1 (by omega) (by omega) fun out s' X cur' bad' w5 hr' hc' hsuf hX hXn hf3 hsay h1 => ?_
  refine h1.ld0 (k := .sl) (x := s') 1 rfl rfl ?_
  refine h1.dr fun w6 h1 => ?_
  refine h1.ld (k := .b) (x := bad') 1 rfl rfl ?_
  have hol := h1.len (s := out) 2 rfl
  have hs'l := h1.lenU 0 rfl hr'
  -- what a canonical text was read as
  have accS : ∀ l, Acc bs most l → X = l ∧ bad' = false ∧ bs = rowU l ++ cur' := by
    intro l hl'
    obtain ⟨g0, g1, rest, g2, g3⟩ := accF l hl'
    obtain ⟨f, hf', hfe⟩ := bestU_form l
    rw [hcur, hfe] at g3
    injection g3 with g4 g5
    subst g4
    obtain ⟨e1, e2, e3⟩ := hsay hf' l rest g5 g0 hl'.2.2.2.1
    exact ⟨e1, e3, by rw [g2, e2]⟩
  cases hb' : bad' with
  | true =>
    refine ifT rfl (none_ ?_ h1.fr)
    intro l hl'
    obtain ⟨_, g, _⟩ := accS l hl'
    rw [hb'] at g; cases g
  | false =>
  refine ifF (by simp) ?_
  have ewo : IntKind.u64.wrap (out.len : Int) = (X.length : Int) := by rw [w64]; omega
  rw [ewo]
  by_cases hXl : (X.length : Int) = (getU bs).1
  · refine ifF (by simpa using hXl) ?_
    obtain ⟨p, hp⟩ := hsuf
    have hlens := congrArg List.length hcur
    simp only [List.length_cons] at hlens
    have hcl' : cur.length = p.length + cur'.length := by rw [hp]; simp
    have ews : IntKind.i64.wrap ((b.len : Int) - (s'.len : Int)) = (bs.length : Int) - cur'.length := by rw [wr64 (by omega) (by omega)]; omega
    rw [ews]
    refine Hp.cutv (s := b) hu' (by omega) u8v_len (by omega) (by omega) (by omega) (Int.le_refl _) (by omega) fun s4 hs4 _ _ => ?_
    have hpre : (bs.take ((bs.length : Int) - cur'.length).toNat).drop (0 : Int).toNat = bs.take (bs.length - cur'.length) := by
      rw [show ((bs.length : Int) - cur'.length).toNat = bs.length - cur'.length by omega]; rfl
    rw [hpre] at hs4
    have hsplit : bs = bs.take (bs.length - cur'.length) ++ cur' := by
      have e1 : bs = bs.take (getU bs).2.toNat ++ (form :: (p ++ cur')) := by rw [← hp, ← hcur, List.take_append_drop]
      have e2 : bs.drop (bs.length - cur'.length) = cur' := by
        conv => lhs; rw [e1]
        rw [show bs.take (getU bs).2.toNat ++ (form :: (p ++ cur')) = (bs.take (getU bs).2.toNat ++ (form :: p)) ++ cur' by simp]
        rw [List.length_append, Nat.add_sub_cancel, List.drop_left]
      conv => lhs; rw [← List.take_append_drop (bs.length - cur'.length) bs]
      rw [e2]
    have hb4 : Bytes (bs.take (bs.length - cur'.length)) := bytes_take hb _
    refine h1.rdb 0 (u := u.ro) rfl hs4 _ (strL_of hb4) ?_
    refine row_spec h1 2 rfl Hp.rdSl hX (by omega) fun r2 w7 h1 => ⟨h1.bat 0 (u := u.ro) rfl hs4 _ (strL_of hb4), ?_⟩
    have hrb := rowU_bytes X
    refine h1.rdb 3 rfl Hp.rdSl _ (strL_of hrb) ?_
    rw [str_beq, strL_of hrb, strL_of hb4]
    by_cases heq : rowU X = bs.take (bs.length - cur'.length)
    · refine ifF (by simpa using heq) ?_
      have hlen : ((bs.length : Int) - cur'.length) = ((rowU X).length : Int) := by
        rw [heq, List.length_take]; omega
      rw [hlen]
      have hpos := rowU_pos X
      refine hK out X _ w7 ⟨fun h => by omega, fun _ => ⟨⟨hm, by omega, by omega, hX, cur', by rw [heq]; exact hsplit⟩, rfl⟩, ?_⟩ (h.r0 rfl (h1.sel1 2 rfl))
      intro l hl'
      obtain ⟨g, _, _⟩ := accS l hl'
      rw [g]; exact ⟨rfl, rfl⟩
    · refine ifT (by simpa using heq) (none_ ?_ h1.fr)
      intro l hl'
      obtain ⟨g, _, g2⟩ := accS l hl'
      apply heq
      rw [g]
      conv => rhs; rw [g2]
      simp
  · refine ifT (by simpa using hXl) (none_ ?_ h1.fr)
    intro l hl'
    obtain ⟨g, _, _⟩ := accS l hl'
    have := (accF l hl').1
    rw [g] at hXl
    exact hXl this

end
end Go.Proofs.Ytcccjgmekakabaa.FP
end

section
set_option linter.unusedSimpArgs false
set_option linter.unusedVariables false
namespace Go.Den
open Go
/-- A slice whose elements hold things of their own: the model of an element is what is seen of it. -/
def tNest {X α : Type} (e : TypeId) (n : Nat) (cells : X → List Value) (sub : X → Thing) (vis : X → α) (s : Sl) (l : List α) : Thing :=
  tEx fun xs : List X => tAnd (xs.map vis = l) (tStar (tSl s e n cells xs) (tAll (xs.map sub)))

namespace Hp
section
variable {S : List Nat} {w0 w : World} {its : List Thing}
theorem rot {A B C : List Thing} (h : Hp S w0 w (A ++ B ++ C)) : Hp S w0 w (B ++ A ++ C) := by
  obtain ⟨f, hf⟩ : ∃ f : Nat → Nat, f = fun n => if n < B.length then A.length + n else if n < A.length + B.length then n - B.length else n := ⟨_, rfl⟩
  have hinj : ∀ x y, f x = f y → x = y := by
    intro x y
    rw [hf]
    dsimp only
    repeat' split
    all_goals omega
  refine h.sel ((List.range (A.length + B.length + C.length)).map f) ?_ (by simp; omega) fun n j hn => ?_
  · rw [List.nodup_iff_pairwise_ne, List.pairwise_map]
    exact List.Pairwise.imp (fun {a b} hne he => hne (hinj a b he)) (List.nodup_iff_pairwise_ne.1 List.nodup_range)
  · rw [List.getElem?_map] at hn
    obtain ⟨m, hm, rfl⟩ := Option.map_eq_some_iff.1 hn
    have hml := (List.getElem?_eq_some_iff.1 hm).1
    rw [List.getElem?_range (by simpa using hml)] at hm
    obtain rfl := Option.some.inj hm
    rw [hf]
    dsimp only
    simp only [List.length_range] at hml
    by_cases h1 : n < B.length
    · rw [if_pos h1, List.getElem?_append_left (by simp; omega), List.getElem?_append_right (by omega), List.getElem?_append_left (by simp; omega), List.getElem?_append_left h1]
      congr 1; omega
    · rw [if_neg h1]
      by_cases h2 : n < A.length + B.length
      · rw [if_pos h2, List.getElem?_append_left (by simp; omega), List.getElem?_append_left (by omega), List.getElem?_append_left (by simp; omega), List.getElem?_append_right (by omega)]
      · rw [if_neg h2, List.getElem?_append_right (by simp; omega), List.getElem?_append_right (by simp; omega)]
        congr 1; simp; omega

/-- What came last goes behind the first ones. -/
theorem up {A B : List Thing} {t : Thing} (h : Hp S w0 w (A ++ B ++ [t])) : Hp S w0 w (A ++ t :: B) := by
  have h : Hp S w0 w (A ++ B ++ [t] ++ []) := by rw [List.append_nil]; exact h
  rw [List.append_assoc A] at h
  have h := h.rot (A := A) (B := B ++ [t]) (C := [])
  rw [List.append_nil] at h
  have h := h.rot (A := B) (B := [t]) (C := A)
  have h : Hp S w0 w (([t] ++ B) ++ A ++ []) := by rw [List.append_nil]; exact h
  have h := h.rot (A := [t] ++ B) (B := A) (C := [])
  rw [List.append_nil] at h
  exact h

theorem mid {A B C D : List Thing} (h : Hp S w0 w (A ++ B ++ C ++ D)) : Hp S w0 w (A ++ C ++ B ++ D) := by
  have h : Hp S w0 w (A ++ (B ++ C) ++ D) := by simpa using h
  have h := h.rot
  have h : Hp S w0 w (B ++ C ++ (A ++ D)) := by simpa using h
  have h := h.rot
  have h : Hp S w0 w ((C ++ B) ++ A ++ D) := by simpa using h
  have h := h.rot
  simpa using h

theorem comm {A B : List Thing} (h : Hp S w0 w (A ++ B)) : Hp S w0 w (B ++ A) := by
  have h : Hp S w0 w (A ++ B ++ []) := by rw [List.append_nil]; exact h
  have := h.rot
  rwa [List.append_nil] at this

theorem emp1 (h : Hp S w0 w its) : Hp S w0 w (tEmp :: its) :=
  (h.grow (Fr.refl _ _) (t := tEmp) (O := []) rfl (by simp) rfl).comm

theorem cutMid {A B C : List Thing} (h : Hp S w0 w (A ++ B ++ C)) : Hp S w0 w (A ++ C) := by
  have h := h.rot
  rw [List.append_assoc] at h
  exact h.comm.front

theorem down {A B : List Thing} {t : Thing} (h : Hp S w0 w (A ++ t :: B)) : Hp S w0 w (A ++ B ++ [t]) := by
  have h : Hp S w0 w (A ++ [t] ++ B) := by simpa using h
  have h := h.rot
  rw [List.append_assoc] at h
  exact h.comm

theorem set_same' {α : Type} {l : List α} {i : Nat} {x : α} (h : l[i]? = some x) : l.set i x = l := by
  apply List.ext_getElem?
  intro j
  rw [List.getElem?_set]
  split
  · rename_i hj
    subst hj
    rw [if_pos (List.getElem?_eq_some_iff.1 h).1, h]
  · rfl

theorem swap2 {A B C : List Thing} (h : Hp S w0 w (A ++ B ++ C)) : Hp S w0 w (A ++ C ++ B) := by
  have h : Hp S w0 w (A ++ B ++ C ++ []) := by rw [List.append_nil]; exact h
  have h := h.mid
  rwa [List.append_nil] at h

/-- A new row, as a slice of all of it. -/
theorem nwS {α : Type} {f : α → List Value} {n m : Nat} {e : TypeId} {c : List Value} (h : Hp S w0 w its) {l : List α} (hc : c = l.flatMap f) (hm : l.length = m) (hf : ∀ x, (f x).length = n) {K : Addr → World → Prop}
    (hK : ∀ b w', Hp S w0 w' (its ++ [tSl ⟨some ⟨b, 0, none⟩, m, m⟩ e n f l]) → K ⟨b, 0, none⟩ w') : Nw (.cells c.toArray e) w K := by
  refine h.nw fun b w' h => ?_
  have h := h.blkSl (i := its.length) (m := m) (l := l) (f := f) (n := n) List.getElem?_concat_length hc hm hf
  rw [List.set_append_right _ _ (Nat.le_refl _), Nat.sub_self, List.set_cons_zero] at h
  exact hK b w' h

theorem gather : ∀ (ts : List Thing) {A : List Thing}, owns ts = true → Hp S w0 w (A ++ ts) → Hp S w0 w (A ++ [tAll ts])
  | [], A, _, h => by
    rw [List.append_nil] at h
    exact h.grow (Fr.refl _ _) (t := tEmp) (O := []) rfl (by simp) rfl
  | t :: ts, A, ho, h => by
    have ho1 : t.own = true ∧ owns ts = true := by simpa [owns] using ho
    have h : Hp S w0 w ((A ++ [t]) ++ ts) := by simpa using h
    have h := gather ts ho1.2 h
    have h : Hp S w0 w (A ++ [t, tAll ts]) := by simpa using h
    have h := h.joinStar (i := A.length) (j := A.length + 1) (a := t) (b := tAll ts) (by omega) (by simp) (by rw [List.getElem?_append_right (by omega)]; simp) ho1.1 (tAll_own _)
    rw [List.set_append_right _ _ (Nat.le_refl _), List.set_append_right _ _ (by omega)] at h
    have h : Hp S w0 w (A ++ [tStar t (tAll ts)] ++ [tEmp]) := by simpa using h
    exact h.front

section
variable {X α : Type} {e : TypeId} {n : Nat} {cells : X → List Value} {sub : X → Thing} {vis : X → α} {s : Sl} {l : List α}
theorem nest_open (h : Hp S w0 w its) {i : Nat} (hi : its[i]? = some (tNest e n cells sub vis s l)) : ∃ xs : List X, xs.map vis = l ∧ Hp S w0 w (its.set i (tSl s e n cells xs) ++ [tAll (xs.map sub)]) := by
  have hl := (List.getElem?_eq_some_iff.1 hi).1
  obtain ⟨xs, h⟩ := h.openEx hi (fun _ => rfl)
  obtain ⟨hx, h⟩ := h.openAnd (i := i) (by rw [List.getElem?_set_self hl]) rfl
  rw [List.set_set] at h
  have h := h.split (i := i) (by rw [List.getElem?_set_self hl]) rfl (tAll_own _)
  rw [List.set_set] at h
  exact ⟨xs, hx, h⟩

theorem nest_close (h : Hp S w0 w its) {i j : Nat} (hne : i ≠ j) {xs : List X} (hi : its[i]? = some (tSl s e n cells xs)) (hj : its[j]? = some (tAll (xs.map sub))) (hx : xs.map vis = l) :
    Hp S w0 w ((its.set i (tNest e n cells sub vis s l)).set j tEmp) := by
  have hl := (List.getElem?_eq_some_iff.1 hi).1
  have h := h.joinStar hne hi hj rfl (tAll_own _)
  have h := h.putAnd (i := i) hx (by rw [List.getElem?_set_ne (fun e => hne e.symm), List.getElem?_set_self hl]) rfl
  have e1 : ((its.set i (tStar (tSl s e n cells xs) (tAll (xs.map sub)))).set j tEmp).set i (tAnd (xs.map vis = l) (tStar (tSl s e n cells xs) (tAll (xs.map sub)))) = (its.set i (tAnd (xs.map vis = l) (tStar (tSl s e n cells xs) (tAll (xs.map sub))))).set j tEmp := by
    rw [List.set_comm _ _ (fun e => hne e.symm), List.set_set]
  rw [e1] at h
  have h := h.putEx (i := i) (f := fun xs : List X => tAnd (xs.map vis = l) (tStar (tSl s e n cells xs) (tAll (xs.map sub)))) xs (by rw [List.getElem?_set_ne (fun e => hne e.symm), List.getElem?_set_self hl]) rfl
  rw [List.set_comm _ _ (fun e => hne e.symm), List.set_set] at h
  exact h

theorem nest_nil (h : Hp S w0 w its) (e : TypeId) (n : Nat) (cells : X → List Value) (sub : X → Thing) (vis : X → α) : Hp S w0 w (its ++ [tNest e n cells sub vis ⟨none, 0, 0⟩ []]) :=
  h.grow (Fr.refl _ _) (O := []) ⟨[], rfl, [], [], SlF.nil, rfl, by simp, by simp⟩ (by simp) rfl

theorem nest_see (h : Hp S w0 w its) (i : Nat) (hi : (its[i]?).map Thing.holds = some (tNest e n cells sub vis s l).holds) : l.length = s.len ∧ s.len ≤ s.cap := by
  obtain ⟨O, xs, hx, O1, O2, h1, _⟩ := h.see' hi
  refine ⟨by rw [← hx, List.length_map]; exact h1.1, ?_⟩
  rcases h1.2 with ⟨_, a, b, _⟩ | ⟨b, off, c, _, _, _, a, _⟩
  · omega
  · exact a

theorem nest_make {A : List Thing} {xs : List X} (ho : owns (xs.map sub) = true) (h : Hp S w0 w (A ++ (tSl s e n cells xs :: xs.map sub))) : Hp S w0 w (A ++ [tNest e n cells sub vis s (xs.map vis)]) := by
  have h : Hp S w0 w ((A ++ [tSl s e n cells xs]) ++ xs.map sub) := by simpa using h
  have h := gather _ ho h
  have h : Hp S w0 w (A ++ [tSl s e n cells xs, tAll (xs.map sub)]) := by simpa using h
  have h := h.nest_close (i := A.length) (j := A.length + 1) (e := e) (n := n) (cells := cells) (sub := sub) (vis := vis) (s := s) (xs := xs) (l := xs.map vis) (by omega) (by simp) (by rw [List.getElem?_append_right (by omega)]; simp) rfl
  rw [List.set_append_right _ _ (Nat.le_refl _), List.set_append_right _ _ (by omega)] at h
  have h : Hp S w0 w (A ++ [tNest e n cells sub vis s (xs.map vis)] ++ [tEmp]) := by simpa using h
  exact h.front

/-- One more element, whose things stand at j. -/
theorem nest_app (h : Hp S w0 w its) (i j : Nat) (hne : i ≠ j) (x : X) {P : Program} {t ty e' : TypeId} {inf : TypeInfo} {z : Value} {c' : Nat} {c : List Value} {K : Sl → World → Prop} (hi : its[i]? = some (tNest e n cells sub vis s l)) (hj : its[j]? = some (sub x)) (ho : (sub x).own = true) (hf : ∀ x, (cells x).length = n)
    (ht : P.underlying t = some (.slice e)) (hinf : P.info? e = some inf) (hsz : inf.size = n) (hz : inf.zero = some z) (hz1 : z.cells.size = n) (hc : c = cells x) (h1 : ∀ u ∈ cells x, u.oneCell' = true)
    (hb : (s.len + 1) * inf.bytes ≤ 140737488355328) (hn : s.len + 1 ≤ 140737488355328)
    (hK : ∀ s' w', Hp S w0 w' ((its.set i (tNest e n cells sub vis s' (l ++ [vis x]))).set j tEmp) → s'.len = s.len + 1 → K s' w') :
    Nw (.cells c.toArray e') w fun b w => Run .sl P (Builtin.append_ #[t, t] ty #[.slice s.a s.len s.cap, .slice (some b) 1 c']) w K := by
  have hil := (List.getElem?_eq_some_iff.1 hi).1
  have hjl := (List.getElem?_eq_some_iff.1 hj).1
  obtain ⟨xs, hx, h⟩ := h.nest_open hi
  refine h.nwapp i x (by rw [List.getElem?_append_left (by simpa using hil), List.getElem?_set_self hil]) hf ht hinf hsz hz hz1 hc h1 hb hn fun s' w' h h2 _ => hK s' w' ?_ h2
  have e1 : (its.set i (tSl s e n cells xs) ++ [tAll (xs.map sub)]).set i (tSl s' e n cells (xs ++ [x])) = its.set i (tSl s' e n cells (xs ++ [x])) ++ [tAll (xs.map sub)] := by
    rw [List.set_append_left _ _ (by simpa using hil), List.set_set]
  rw [e1] at h
  have hlast : (its.set i (tSl s' e n cells (xs ++ [x])) ++ [tAll (xs.map sub)])[its.length]? = some (tAll (xs.map sub)) := by
    rw [List.getElem?_append_right (by simp)]; simp
  have h := h.join (i := its.length) (j := j) (a := tAll (xs.map sub)) (b := sub x) (c := tAll ((xs ++ [x]).map sub)) (by omega) hlast (by rw [List.getElem?_append_left (by simpa using hjl), List.getElem?_set_ne hne]; exact hj) (tAll_own _) ho (tAll_own _) (fun w O1 O2 g1 g2 g3 => by
    rw [List.map_append]
    exact tAll_append g1 (us := [sub x]) (O2 := O2) ⟨O2, [], g2, rfl, by simp, by simp⟩ g3)
  have e2 : ((its.set i (tSl s' e n cells (xs ++ [x])) ++ [tAll (xs.map sub)]).set its.length (tAll ((xs ++ [x]).map sub))).set j tEmp = (its.set i (tSl s' e n cells (xs ++ [x]))).set j tEmp ++ [tAll ((xs ++ [x]).map sub)] := by
    rw [List.set_append_right _ _ (by simp), List.length_set, Nat.sub_self, List.set_append_left _ _ (by simpa using hjl)]; rfl
  rw [e2] at h
  have h := h.nest_close (i := i) (j := its.length) (s := s') (xs := xs ++ [x]) (e := e) (n := n) (cells := cells) (sub := sub) (vis := vis) (l := l ++ [vis x]) (by omega)
    (by rw [List.getElem?_append_left (by simpa using hil), List.getElem?_set_ne (fun e => hne e.symm), List.getElem?_set_self hil]) (by rw [List.getElem?_append_right (by simp)]; simp) (by rw [List.map_append, hx]; rfl)
  have e3 : (((its.set i (tSl s' e n cells (xs ++ [x]))).set j tEmp ++ [tAll ((xs ++ [x]).map sub)]).set i (tNest e n cells sub vis s' (l ++ [vis x]))).set its.length tEmp = (its.set i (tNest e n cells sub vis s' (l ++ [vis x]))).set j tEmp ++ [tEmp] := by
    rw [List.set_append_left _ _ (by simpa using hil), List.set_comm _ _ (fun e => hne e.symm), List.set_set, List.set_append_right _ _ (by simp)]
    simp
  rw [e3] at h
  exact h.front

end
end
end Hp
end Go.Den
end

section
set_option linter.unusedSimpArgs false
set_option linter.unusedVariables false
set_option maxRecDepth 100000
namespace Go.Proofs.Ytcccjgmekakabaa.FW
open Go.Proofs.Ytcccjgmekakabaa.F
open Go Go.Den Go.Proofs
open Go.Proofs.Ytcccjgmekakabaa.FI (PoolM tPool)
open Go.Proofs.Ytcccjgmekakabaa.FT (TabM tTab Ent entV ent atI keyEnt iv)
structure WA where
  ks : KD
  pool : PoolM
  row : Ent → Option PL

structure WA.Ok (a : WA) : Prop where
  pok2 : a.pool.Ok2
  most : a.pool.most = 200
  may : mayOk a.ks
  liv : ∀ e : Ent, (a.row e).isSome = a.pool.is e.1 e.2
  rng : ∀ (e : Ent) (p : PL), a.row e = some p → FP.R64 (flat p)

def WA.m (a : WA) : WM := ⟨a.ks, a.pool, fun e => (a.row e).map setI, []⟩

def WH.tabs (q : WH) : List (Int × TabM) := q.T.map fun x => (x.1, x.2.2)

def tW (b : Nat) (a : WA) : Thing := tEx fun T : List (Int × TabM) => tAnd (a.Ok ∧ Tabs a.ks a.row a.m.sets T) (tWorld b ⟨a.ks, a.pool, a.m.sets, T⟩)

theorem WA.Ok.pok {a : WA} (h : a.Ok) : a.pool.Ok := h.pok2.toOk

theorem WA.Ok.len {a : WA} (h : a.Ok) : 1 ≤ a.ks.length ∧ a.ks.length ≤ 12 := ⟨h.may.2.1, h.may.2.2.1⟩

theorem WA.Ok.four {a : WA} (h : a.Ok) : ∀ x ∈ a.ks, x.2.length ≤ 4 := fun x hx => (h.may.1 x hx).1

theorem pool_few {m : PoolM} (hm : m.Ok) {L : List Ent} (hnd : L.Nodup) (h : ∀ x ∈ L, m.is x.1 x.2 = true) : L.length ≤ 200 := by
  have hin : ∀ x ∈ L, 0 ≤ x.1 ∧ x.1 < m.gens.length ∧ m.gen x.1 = x.2 := fun x hx => by
    obtain ⟨h1, h2⟩ := PoolM.is_iff.1 (h x hx)
    have := FI.lives_lt' hm h1
    exact ⟨this.1, this.2, h2⟩
  have := nodup_lt m.gens.length (L.map fun x => x.1.toNat) (by
    rw [List.nodup_iff_pairwise_ne, List.pairwise_map]
    refine List.Pairwise.imp_of_mem (fun {a b} ha hb hne he => hne ?_) (List.nodup_iff_pairwise_ne.1 hnd)
    have h1 := hin a ha
    have h2 := hin b hb
    have : a.1 = b.1 := by omega
    exact Prod.ext this (by rw [← h1.2.2, ← h2.2.2, this])) (fun x hx => by
    obtain ⟨y, hy, rfl⟩ := List.mem_map.1 hx
    have := hin y hy
    omega)
  rw [List.length_map] at this
  have := hm.len200
  omega

section
variable {S : List Nat} {w0 w : World} {its : List Thing}
theorem W_open {b : Nat} {a : WA} {rest : List Thing} (h : Hp S w0 w (tW b a :: rest)) :
    ∃ q : WH, a.Ok ∧ Tabs a.ks a.row a.m.sets q.tabs ∧ kinds q.xs = a.ks ∧ Hp S w0 w (q.all b a.m tEmp ++ rest) := by
  obtain ⟨T, h⟩ := h.openEx (i := 0) rfl (fun _ => rfl)
  obtain ⟨⟨hok, ht⟩, h⟩ := h.openAnd (i := 0) rfl rfl
  obtain ⟨q, hq, h⟩ := w_open h (i := 0) rfl
  refine ⟨q, hok, ?_, hq.1, ?_⟩
  · have : q.tabs = T := hq.2
    rw [this]; exact ht
  have h : Hp S w0 w ((q.blk b :: rest) ++ q.rest ⟨a.ks, a.pool, a.m.sets, T⟩) := h
  have h := h.comm
  have h : Hp S w0 w (q.rest ⟨a.ks, a.pool, a.m.sets, T⟩ ++ [q.blk b] ++ rest) := by rw [List.append_assoc]; exact h
  have h := h.rot.emp1
  have h : Hp S w0 w ([tEmp] ++ [q.blk b] ++ (q.rest ⟨a.ks, a.pool, a.m.sets, T⟩ ++ rest)) := by
    simp only [List.cons_append, List.nil_append, List.append_assoc] at h ⊢
    exact h
  exact h.rot

theorem W_shut {b : Nat} {a : WA} {m : WM} {q : WH} {u : Thing} {rest : List Thing} (hok : a.Ok) (ht : Tabs a.ks a.row a.m.sets q.tabs) (hk : kinds q.xs = a.ks) (hp : m.pool = a.pool) (hs : m.sets = a.m.sets) (h : Hp S w0 w (q.all b m u ++ rest)) : Hp S w0 w (tW b a :: rest) := by
  have h : Hp S w0 w (q.blk b :: u :: (q.rest m ++ rest)) := h
  have h := h.drop1
  have e : q.rest m = q.rest ⟨a.ks, a.pool, a.m.sets, q.tabs⟩ := by
    unfold WH.rest
    rw [hp, hs]
  rw [e] at h
  have h := w_close (m := ⟨a.ks, a.pool, a.m.sets, q.tabs⟩) ⟨hk, rfl⟩ h
  have h := h.putAnd (i := 0) (p := a.Ok ∧ Tabs a.ks a.row a.m.sets q.tabs) ⟨hok, ht⟩ rfl rfl
  exact h.putEx (i := 0) (f := fun T : List (Int × TabM) => tAnd (a.Ok ∧ Tabs a.ks a.row a.m.sets T) (tWorld b ⟨a.ks, a.pool, a.m.sets, T⟩)) q.tabs rfl rfl

theorem tW_ok (h : Hp S w0 w its) (i : Nat) {b : Nat} {a : WA} (hi : (its[i]?).map Thing.holds = some (tW b a).holds) : a.Ok ∧ ∀ e p, a.row e = some p → p.fit a.ks := by
  obtain ⟨O, T, hx, _⟩ := h.see' hi
  exact ⟨hx.1, hx.2.fit⟩

theorem leave_W {b : Nat} {m : WM} {q : WH} {u : Thing} {more : List Thing} (h : Hp S w0 w (q.all b m u ++ more)) {row : Ent → Option PL} {e : Ent} {p : PL} (ht : Tabs (kinds q.xs) row m.sets q.tabs) (hr : row e = some p) {K : Sl → World → Prop}
    (hK : ∀ s T' w', Tabs (kinds q.xs) (upd1 row e none) (upd1 m.sets e none) ({ q with T := T' } : WH).tabs → Hp S w0 w' (({ q with T := T' } : WH).all b { m with sets := upd1 m.sets e none } u ++ more ++ [tSl s 2 1 iv (flat p)]) → K s w') : c57 (some ⟨b, 0, none⟩) e.1 e.2 w K := by
  obtain ⟨k, r, t, hk, tk, hat, hrr⟩ := ht.find hr
  unfold WH.tabs at hk
  rw [List.getElem?_map] at hk
  obtain ⟨⟨s0, tb, t0⟩, hkT, he⟩ := Option.map_eq_some_iff.1 hk
  obtain ⟨rfl, rfl⟩ := Prod.mk.inj he
  have hset : m.sets e = some (setI p) := by rw [ht.sets]; show (row e).map setI = _; rw [hr]; rfl
  refine leave_spec h (e := e) (set := setI p) (k := k) (tb := tb) (row := r) (t := t0) (vals := flat p) hset (by have := ht.nd; unfold WH.tabs at this; rw [List.map_map] at this; exact this) hkT tk hat hrr fun s T' w' hT h => hK s T' w' ?_ h
  refine ht.leave hr (k := k) (r := r) (t := t0) (by unfold WH.tabs; rw [List.getElem?_map, hkT]; rfl) hrr ?_
  rcases hT with ⟨hz, rfl⟩ | ⟨hz, rfl⟩
  · exact .inl ⟨hz, by unfold WH.tabs; rw [List.map_set]⟩
  · exact .inr ⟨hz, by unfold WH.tabs; rw [map_eraseIdx']⟩

theorem enter_W {b : Nat} {m : WM} {q : WH} {u : Thing} {more : List Thing} (h : Hp S w0 w (q.all b m u ++ more)) {row : Ent → Option PL} {e : Ent} {p : PL} (ht : Tabs (kinds q.xs) row m.sets q.tabs) (hm : mayOk (kinds q.xs)) (hr : row e = none) (hp : p.fit (kinds q.xs))
    (hb : ∀ L : List Ent, L.Nodup → (∀ x ∈ L, (row x).isSome = true) → L.length < 200) {vs : Sl} (hu : Hp.Reads u vs 1 iv (flat p)) {K : World → Prop}
    (hK : ∀ T' w', Tabs (kinds q.xs) (upd1 row e (some p)) (upd1 m.sets e (some (setI p))) ({ q with T := T' } : WH).tabs → Hp S w0 w' (({ q with T := T' } : WH).all b { m with sets := upd1 m.sets e (some (setI p)) } u ++ more) → K w') : c49 (some ⟨b, 0, none⟩) e.1 e.2 (setI p) vs w K := by
  have hkl : (kinds q.xs).length = q.xs.length := by simp [kinds]
  have h12 : q.xs.length ≤ 12 := by have := hm.2.2.1; omega
  have h4k : ∀ x ∈ kinds q.xs, x.2.length ≤ 4 := fun x hx => (hm.1 x hx).1
  have h4 : ∀ x ∈ q.xs, x.2.2.length ≤ 4 := fun x hx => h4k (x.1, x.2.2) (List.mem_map.2 ⟨x, hx, rfl⟩)
  have hpl : p.length ≤ 12 := by rw [hp.1]; omega
  have hs1 := setI_lt hpl
  refine enter_spec h h12 h4 (fun x hx => (ht.tok (x.1, x.2.2) (List.mem_map.2 ⟨x, hx, rfl⟩)).1) (setI_nn p) (by omega) hu fun T1 k tb t w' hT hk h => ?_
  have hT1 : T1.map (fun x => (x.1, x.2.2)) = q.tabs ∨ (T1.map (fun x => (x.1, x.2.2)) = q.tabs ++ [(setI p, ⟨atF (kinds q.xs) (setI p) (kinds q.xs).length, []⟩)] ∧ ∀ x ∈ q.tabs, x.1 ≠ setI p) := by
    rcases hT with rfl | ⟨rfl, hno⟩
    · exact .inl rfl
    · refine .inr ⟨by unfold WH.tabs; rw [List.map_append, hkl]; rfl, fun x hx => ?_⟩
      obtain ⟨y, hy, rfl⟩ := List.mem_map.1 hx
      exact hno y hy
  obtain ⟨e1, e2⟩ := ht.enter hr hp hb h4k (by omega) hT1 (k := k) (t := t) (by rw [List.getElem?_map, hk]; rfl)
  rw [e1] at h
  refine hK _ w' ?_ h
  unfold WH.tabs
  rw [List.map_set]
  exact e2

def WA.despawn (a : WA) (e : Ent) : WA × Int := if a.pool.is e.1 e.2 = true then (⟨a.ks, a.pool.give e.1 e.2, upd1 a.row e none⟩, 0) else (a, 41)

theorem upd_sets (row : Ent → Option PL) (e : Ent) (o : Option PL) : (fun x => (upd1 row e o x).map setI) = upd1 (fun x => (row x).map setI) e (o.map setI) := by
  funext x
  unfold upd1
  split <;> rfl

theorem give_liv {m : PoolM} (hm : m.Ok) {e x : Ent} (he : m.is e.1 e.2 = true) : (m.give e.1 e.2).is x.1 x.2 = if x = e then false else m.is x.1 x.2 := by
  obtain ⟨h1, h2⟩ := PoolM.is_iff.1 he
  obtain ⟨a1, a2⟩ := FI.lives_lt' hm h1
  have hl := hm.len
  unfold PoolM.is
  rw [PoolM.lives_give m a1 (by omega), PoolM.gen_give]
  by_cases hx : x = e
  · subst hx; simp
  · rw [if_neg hx]
    by_cases h0 : x.1 = e.1
    · rw [if_pos h0]
      have : m.gen x.1 ≠ x.2 := fun hg => hx (Prod.ext h0 (by rw [← hg, h0, h2]))
      simp [this]
    · rw [if_neg h0]

theorem flat_rng {p : PL} (h : FP.R64 (flat p)) (i : Nat) {v : List Int} (hv : FP.R64 v) : FP.R64 (flat (p.set i (some v))) := by
  intro x hx
  obtain ⟨o, ho, hx⟩ := List.mem_flatMap.1 hx
  rcases List.mem_or_eq_of_mem_set ho with ho | rfl
  · exact h x (List.mem_flatMap.2 ⟨o, ho, hx⟩)
  · exact hv x hx

theorem flat_rngOff {p : PL} (h : FP.R64 (flat p)) (i : Nat) : FP.R64 (flat (p.set i none)) := by
  intro x hx
  obtain ⟨o, ho, hx⟩ := List.mem_flatMap.1 hx
  rcases List.mem_or_eq_of_mem_set ho with ho | rfl
  · exact h x (List.mem_flatMap.2 ⟨o, ho, hx⟩)
  · cases hx

theorem WA.despawn_ok {a : WA} (h : a.Ok) (e : Ent) : (a.despawn e).1.Ok := by
  unfold WA.despawn
  split
  · rename_i he
    refine ⟨by have := (FI.giveM_ok h.pok2 e.1 e.2).1; unfold PoolM.giveM at this; rw [if_pos he] at this; exact this, h.most, h.may, fun x => ?_, fun x p hx => ?_⟩
    · show (upd1 a.row e none x).isSome = _
      rw [give_liv h.pok he]
      unfold upd1
      split
      · rfl
      · exact h.liv x
    · have hx : upd1 a.row e none x = some p := hx
      unfold upd1 at hx
      split at hx
      · cases hx
      · exact h.rng x p hx
  · exact h

set_option maxHeartbeats 1000000 in
theorem Despawn_W (h : Hp S w0 w its) (i : Nat) {b : Nat} {a : WA} (hi : its[i]? = some (tW b a)) {e : Ent} {K : Int → World → Prop} (hK : ∀ w', Hp S w0 w' (its.set i (tW b (a.despawn e).1)) → K (a.despawn e).2 w') : c23 (some ⟨b, 0, none⟩) e.1 e.2 w K := by
  refine c23_of ?_
  unfold f23
  obtain ⟨O, h1, back⟩ := h.f1 hi rfl
  clear h
  obtain ⟨q, hok, ht, hk, h⟩ := W_open h1
  have hok' := WA.despawn_ok hok e
  refine h.nw (c := [_, _]) fun eb w1 h => ?_
  rw [List.append_nil] at h
  have h : Hp O w w1 (q.all b a.m tEmp ++ [tBlk eb 43 [.int .i64 e.1, .int .i64 e.2]]) := h
  refine h.dr fun w2 h => ?_
  refine nns ?_
  refine h.ld (n := 1) (k := .p) (x := some ⟨q.pb, 0, none⟩) 0 rfl rfl ?_
  refine h.ld0 (k := .i .i64) (x := e.1) 8 rfl rfl ?_
  refine h.ld (n := 1) (k := .i .i64) (x := e.2) 8 rfl rfl ?_
  refine FI.Give_h h 4 (m := a.pool) hok.pok rfl fun w3 h => ?_
  have hl := hok.liv e
  have fin : ∀ {w' : World} {a' : WA}, Hp O w w' [tW b a'] → Hp S w0 w' (its.set i (tW b a')) := fun {w' a'} h => by
    have := back (rest := []) rfl rfl h
    rwa [List.append_nil] at this
  unfold PoolM.giveM at h ⊢
  by_cases he : a.pool.is e.1 e.2 = true
  · simp only [if_pos he] at h ⊢
    have e0 : a.despawn e = (⟨a.ks, a.pool.give e.1 e.2, upd1 a.row e none⟩, 0) := by unfold WA.despawn; rw [if_pos he]
    rw [e0] at hK hok'
    refine ifF (by simp) ?_
    have h : Hp O w w3 (q.all b { a.m with pool := a.pool.give e.1 e.2 } tEmp ++ [tBlk eb 43 [.int .i64 e.1, .int .i64 e.2]]) := h
    refine h.ld0 (k := .i .i64) (x := e.1) 8 rfl rfl ?_
    refine h.ld (n := 1) (k := .i .i64) (x := e.2) 8 rfl rfl ?_
    rw [he] at hl
    obtain ⟨p, hr⟩ := Option.isSome_iff_exists.1 hl
    refine leave_W h (row := a.row) (p := p) (by rw [hk]; exact ht) hr fun s T' w4 ht' h => hK w4 (fin ?_)
    refine W_shut (rest := []) (u := tEmp) (m := { a.m with pool := a.pool.give e.1 e.2, sets := upd1 a.m.sets e none }) (q := { q with T := T' }) hok' ?_ hk rfl ?_ ?_
    · show Tabs a.ks (upd1 a.row e none) (fun x => (upd1 a.row e none x).map setI) _
      rw [upd_sets, ← hk]
      exact ht'
    · exact (upd_sets a.row e none).symm
    · have h := h.front.front
      rw [List.append_nil]; exact h
  · simp only [if_neg he] at h ⊢
    have e0 : a.despawn e = (a, 41) := by unfold WA.despawn; rw [if_neg he]
    rw [e0] at hK
    refine ifT rfl (hK w3 (fin ?_))
    refine W_shut (rest := []) (u := tEmp) (m := a.m) (q := q) hok ht hk rfl rfl ?_
    have h : Hp O w w3 (q.all b a.m tEmp ++ [tBlk eb 43 [.int .i64 e.1, .int .i64 e.2]]) := h
    rw [List.append_nil]; exact h.front

end
end Go.Proofs.Ytcccjgmekakabaa.FW
end

section
set_option linter.unusedSimpArgs false
set_option linter.unusedVariables false
set_option maxRecDepth 100000
namespace Go.Proofs.Ytcccjgmekakabaa.FW
open Go.Proofs.Ytcccjgmekakabaa.F
open Go Go.Den Go.Proofs
open Go.Proofs.Ytcccjgmekakabaa.FI (PoolM tPool)
open Go.Proofs.Ytcccjgmekakabaa.FT (TabM tTab Ent entV ent atI keyEnt iv iv_len)
section
variable {S : List Nat} {w0 w : World} {its : List Thing}
theorem ro_tab (h : Hp S w0 w its) (i : Nat) {T : List TT} {k tb : Nat} {set : Int} {t : TabM} (hi : (its[i]?).map Thing.holds = some (tAll (T.map tT)).holds) (hk : T[k]? = some (set, tb, t)) : Hp [] w w [(tTab tb t).ro] := by
  have h1 := h.ro1 hi
  obtain ⟨O, hO, put⟩ := h1.roSee (i := 0) rfl
  obtain ⟨O1, O2, g1, g2, g3, g4⟩ := tAll_pick (k := k) (t := tT (set, tb, t)) (by rw [List.getElem?_map, hk]; rfl) hO
  exact (put g1 (fun x hx => (g4 x).2 (.inl hx))).sel1 1 rfl

theorem tFind (h : Hp S w0 w its) (i : Nat) {T : List TT} {k tb : Nat} {set : Int} {t : TabM} (hi : (its[i]?).map Thing.holds = some (tAll (T.map tT)).holds) (hk : T[k]? = some (set, tb, t)) {e : Ent} {r : Nat} (hat : atI t e = some (r : Int)) {K : Int → World → Prop}
    (hK : ∀ w', Hp S w0 w' its → K r w') : c66 (some ⟨tb, 0, none⟩) e.1 e.2 w K :=
  FT.Find_spec (ro_tab h i hi hk) 0 rfl fun w' h' => by
    rw [hat]
    exact hK w' (by have := h.r0 (rest := []) rfl (h'.trim 0); rwa [List.append_nil] at this)

theorem tRow (h : Hp S w0 w its) (i : Nat) {T : List TT} {k tb : Nat} {set : Int} {t : TabM} (hok : t.Ok) (hi : (its[i]?).map Thing.holds = some (tAll (T.map tT)).holds) (hk : T[k]? = some (set, tb, t)) {e : Ent} {vals : List Int} {r : Nat} (hrr : t.rows[r]? = some (e, vals)) {K : Int → Int → Sl → Int → World → Prop}
    (hK : ∀ s w', Hp S w0 w' (its ++ [tSl s 2 1 iv vals]) → K e.1 e.2 s 0 w') : c95 (some ⟨tb, 0, none⟩) (r : Int) w K :=
  FT.Row_spec (ro_tab h i hi hk) 0 hok rfl fun s w' => ⟨fun x hx0 hx h' => by
    have hx : t.rows[r]? = some x := hx
    rw [hrr] at hx
    obtain rfl := Option.some.inj hx
    exact hK s w' (h.r0 (rest := [tSl s 2 1 iv vals]) rfl (h'.sel1 1 rfl)), fun hno => absurd ⟨by omega, by have := (List.getElem?_eq_some_iff.1 hrr).1; omega⟩ hno⟩

theorem CloneR_spec (h : Hp S w0 w its) (i : Nat) {u : Thing} {s : Sl} {L : List Int} (hi : its[i]? = some u) (hu : Hp.Reads u s 1 iv L) (hl : L.length ≤ 1000000) {K : Sl → World → Prop} (hK : ∀ r w', Hp S w0 w' (its ++ [tSl r 2 1 iv L]) → K r w') : c99 s w K := by
  refine c99_of ?_
  unfold f99
  obtain ⟨inf, q1, q2, q3, q4⟩ := FT.inf2
  have hlt := (List.getElem?_eq_some_iff.1 hi).1
  have hsl := h.lenU i (by rw [hi]; rfl) hu
  by_cases hn : s.a.isNone = true
  · refine ifT hn (hK _ _ ?_)
    have : L = [] := by
      obtain ⟨O, hO⟩ := h.see hi
      obtain ⟨o, hR⟩ := hu.rd hO
      exact hR.isNil (by simpa using hn)
    rw [this]; exact h.nil 2 1 iv
  · refine ifF hn ?_
    refine h.nw (c := []) fun b w1 h => ?_
    have h := h.blkSl (i := its.length) (m := 0) (l := ([] : List Int)) (f := iv) (n := 1) List.getElem?_concat_length rfl rfl iv_len
    rw [set_last] at h
    refine h.appS its.length i (s := ⟨some ⟨b, 0, none⟩, 0, 0⟩) (s2 := s) List.getElem?_concat_length (by rw [List.getElem?_append_left hlt]; exact hi) hu iv_len FT.und34 q1 q3 q2 rfl (by simp [iv, Value.oneCell']) (by rw [q4]; show (0 + s.len) * 8 ≤ _; omega) (by show 0 + s.len ≤ _; omega) fun r w2 h _ _ => ?_
    rw [set_last] at h
    exact hK r w2 h

theorem q_cap (h : Hp S w0 w its) (i : Nat) {s : Sl} {l : List Int} (hi : its[i]? = some (tSl s 2 1 iv l)) : l.length = s.len ∧ s.len ≤ s.cap := ⟨h.len i (by rw [hi]; rfl), h.cap i (by rw [hi]; rfl)⟩

set_option maxHeartbeats 1000000 in
theorem part_W {b : Nat} {m : WM} {q : WH} {u : Thing} {more : List Thing} (h : Hp S w0 w (q.all b m u ++ more)) {row : Ent → Option PL} {e : Ent} {p : PL} (ht : Tabs (kinds q.xs) row m.sets q.tabs) (hm : mayOk (kinds q.xs)) (hr : row e = some p) {i : Nat} {v : List Int} (hp : p[i]? = some (some v)) {K : Int → Sl → World → Prop}
    (hK : ∀ s w', Hp S w0 w' (q.all b m u ++ more ++ [tSl s 2 1 iv v]) → K ((i + 1 : Nat) : Int) s w') : c64 (some ⟨b, 0, none⟩) e.1 e.2 (setI p) ((i + 1 : Nat) : Int) w K := by
  refine c64_of ?_
  unfold f64
  obtain ⟨inf', r1, r2, r3, r4⟩ := inf121
  have hkl : (kinds q.xs).length = q.xs.length := by simp [kinds]
  have h12 : q.xs.length ≤ 12 := by have := hm.2.2.1; omega
  have h4k : ∀ x ∈ kinds q.xs, x.2.length ≤ 4 := fun x hx => (hm.1 x hx).1
  have h4 : ∀ x ∈ q.xs, x.2.2.length ≤ 4 := fun x hx => h4k (x.1, x.2.2) (List.mem_map.2 ⟨x, hx, rfl⟩)
  have hfit := ht.fit e p hr
  have hil := (List.getElem?_eq_some_iff.1 hp).1
  have hs1 := setI_lt (show p.length ≤ 12 by rw [hfit.1]; omega)
  obtain ⟨k, r, t, hk, tk, hat, hrr⟩ := ht.find hr
  unfold WH.tabs at hk
  rw [List.getElem?_map] at hk
  obtain ⟨⟨s0, tb, t0⟩, hkT, he⟩ := Option.map_eq_some_iff.1 hk
  obtain ⟨rfl, rfl⟩ := Prod.mk.inj he
  have hnd : (q.T.map (·.1)).Nodup := by have := ht.nd; unfold WH.tabs at this; rw [List.map_map] at this; exact this
  have hkd : (kinds q.xs)[i]? = some ((kinds q.xs)[i]'(by rw [← hfit.1]; exact hil)) := List.getElem?_eq_getElem _
  have hvl := hfit.2 i v _ hp hkd
  refine h.nw (c := [_, _]) fun eb w1 h => ?_
  have h := h.up
  refine h.nw (c := [_, _]) fun ab w2 h => ?_
  have h := h.up
  refine nns ?_
  refine h.ld (n := 3) (k := .m) (x := some q.mt) 0 rfl rfl ?_
  refine h.lookup1 (kd := .p) (vk := fun tb => some ⟨tb, 0, none⟩) (z := (none : Option Addr)) (ek := Value.int .i64) (ev := pv) (g := tptr q.T) (k := setI p) 6 rfl rfl und99 key3 r1 r2 (fun _ => rfl) ?_
  rw [tptr_at hnd hkT]
  refine h.ld0 (k := .i .i64) (x := e.1) 9 rfl rfl ?_
  refine h.ld (n := 1) (k := .i .i64) (x := e.2) 9 rfl rfl ?_
  refine tFind h 7 rfl hkT hat fun w3 h => ?_
  refine tRow h 7 tk rfl hkT hrr fun s w4 h => ?_
  have h := h.up
  refine h.nw (c := [_, _]) fun xb w5 h => ?_
  have h := h.up
  refine h.st0 8 rfl (by simp) rfl fun w6 h => ?_
  refine h.st (n := 1) 8 rfl (by simp) rfl fun w7 h => ?_
  have h : Hp S w0 w7 (q.all b m u ++ (tBlk xb 43 [.int .i64 e.1, .int .i64 e.2] :: tSl s 2 1 iv (flat p) :: tBlk ab 40 [.int .i64 0, .slice none 0 0] :: tBlk eb 43 [.int .i64 e.1, .int .i64 e.2] :: more)) := h
  refine at_spec h 0 2 3 (cells := [_, _, _]) rfl rfl rfl h12 h4 (setI_nn p) (by omega) (q := i) (by rw [hfit.1, hkl] at hil; omega) ?_
  have hil12 : i < 12 := by rw [hfit.1] at hil; omega
  refine fields_spec h 0 2 3 (cells := [_, _, _]) rfl rfl rfl (by omega) (by omega) (by omega) ?_
  have hfl : fl (kinds q.xs) ((i + 1 : Nat) : Int) = some v.length := by
    unfold fl
    rw [if_pos (by omega), show (((i + 1 : Nat) : Int) - 1).toNat = i by omega, hkd, hvl]; rfl
  rw [hfl]
  dsimp only
  have hsl := q_cap h 9 rfl
  have hall := hfit.all
  have hle := hfit.at (q := i) (by omega)
  have hgt := hfit.get hp
  have hsum : atF (kinds q.xs) (setI p) i + v.length ≤ s.len := by
    rw [← hsl.1, flat_split hp, hle]; simp
  have hle2 := atF_le h4k (setI p) i
  have hv4 := h4k _ (List.mem_of_getElem? hkd)
  rw [wr64 (n := (atF (kinds q.xs) (setI p) i : Int) + (v.length : Int)) (by omega) (by omega)]
  refine Hp.cutv (s := s) (u := tSl s 2 1 iv (flat p)) (l := flat p) Hp.rdSl hsl.1 iv_len (by omega) (by omega) (by omega) (Int.le_refl _) (by omega) fun s2 hs2 _ _ => ?_
  have e1 : ((flat p).take ((atF (kinds q.xs) (setI p) i : Int) + (v.length : Int)).toNat).drop ((atF (kinds q.xs) (setI p) i : Nat) : Int).toNat = v := by
    rw [Int.toNat_natCast, show ((atF (kinds q.xs) (setI p) i : Int) + (v.length : Int)).toNat = atF (kinds q.xs) (setI p) i + v.length by omega]
    exact hgt
  rw [e1] at hs2
  refine CloneR_spec h 9 rfl hs2 (by omega) fun s3 w8 h => ?_
  refine h.st0 10 rfl (by simp) rfl fun w9 h => ?_
  refine h.st (n := 1) 10 rfl (by simp) rfl fun w10 h => ?_
  have h : Hp S w0 w10 (q.all b m u ++ [tBlk xb 43 [.int .i64 e.1, .int .i64 e.2], tSl s 2 1 iv (flat p), tBlk ab 40 [.int .i64 ((i + 1 : Nat) : Int), .slice s3.a s3.len s3.cap], tBlk eb 43 [.int .i64 e.1, .int .i64 e.2]] ++ (more ++ [tSl s3 2 1 iv v])) := h
  refine h.ld0 (k := .i .i64) (x := ((i + 1 : Nat) : Int)) 10 rfl rfl ?_
  refine h.ld (n := 1) (k := .sl) (x := s3) 10 rfl rfl ?_
  have h := h.cutMid
  rw [← List.append_assoc] at h
  exact hK s3 w10 h

theorem fl_at {ks : KD} {kind : Int} {n : Nat} (hf : fl ks kind = some n) : ∃ (i : Nat) (k : ByteArray × List ByteArray), kind = ((i + 1 : Nat) : Int) ∧ ks[i]? = some k ∧ k.2.length = n := by
  unfold fl at hf
  by_cases h1 : 1 ≤ kind
  · rw [if_pos h1] at hf
    obtain ⟨k, hk, rfl⟩ := Option.map_eq_some_iff.1 hf
    exact ⟨(kind - 1).toNat, k, by omega, hk, rfl⟩
  · rw [if_neg h1] at hf; cases hf

/-- What is asked of an entity and a kind. -/
theorem asked_W {b : Nat} {a : WA} {q : WH} {u : Thing} {more : List Thing} (h : Hp S w0 w (q.all b a.m u ++ more)) (hok : a.Ok) (ht : Tabs a.ks a.row a.m.sets q.tabs) (hk : kinds q.xs = a.ks) {e : Ent} {kind : Int} (k1 : -9223372036854775808 ≤ kind) (k2 : kind ≤ 9223372036854775807) {K : Int → Bool → Int → Int → World → Prop}
    (hK : ∀ w', Hp S w0 w' (q.all b a.m u ++ more) → (a.row e = none → K 0 false 0 41 w') ∧ (∀ p, a.row e = some p → fl a.ks kind = none → K 0 false 0 60 w') ∧ (∀ p i k, a.row e = some p → kind = ((i + 1 : Nat) : Int) → a.ks[i]? = some k → K (setI p) (p.getD i none).isSome (k.2.length : Nat) 0 w')) :
    c55 (some ⟨b, 0, none⟩) e.1 e.2 kind w K := by
  have hkl : (kinds q.xs).length = q.xs.length := by simp [kinds]
  have hl := hok.len
  have hlv := hok.liv e
  refine asked_spec h hok.pok (by rw [← hkl, hk]; omega) (fun s hs => ?_) k1 k2 fun w' h => ⟨fun hno => ?_, fun his hf => ?_, fun n his hf => ?_⟩
  · obtain ⟨p, hp, rfl⟩ := Option.map_eq_some_iff.1 hs
    have := setI_lt (show p.length ≤ 12 by rw [(ht.fit e p hp).1]; omega)
    exact ⟨setI_nn p, by omega⟩
  · refine (hK w' h).1 ?_
    have hno : a.pool.is e.1 e.2 = false := hno
    rw [hno] at hlv
    cases hr : a.row e with
    | none => rfl
    | some p => rw [hr] at hlv; cases hlv
  · have his : a.pool.is e.1 e.2 = true := his
    rw [his] at hlv
    obtain ⟨p, hp⟩ := Option.isSome_iff_exists.1 hlv
    exact (hK w' h).2.1 p hp (by rw [← hk]; exact hf)
  · have his : a.pool.is e.1 e.2 = true := his
    rw [his] at hlv
    obtain ⟨p, hp⟩ := Option.isSome_iff_exists.1 hlv
    rw [hk] at hf
    obtain ⟨i, k, rfl, hki, rfl⟩ := fl_at hf
    have := (hK w' h).2.2 p i k hp rfl hki
    have e1 : (a.m.sets e).getD 0 = setI p := by show ((a.row e).map setI).getD 0 = _; rw [hp]; rfl
    rw [e1, Int.toNat_natCast, bit_setI]
    have e2 : (((if (p.getD i none).isSome = true then 1 else 0) : Int) == 1) = (p.getD i none).isSome := by
      cases (p.getD i none).isSome <;> rfl
    rw [e2]
    exact this

/-- Get's answer. -/
def WA.get (a : WA) (e : Ent) (kind : Int) : List Int × Int := match a.row e with
  | none => ([], 41)
  | some p => match fl a.ks kind with
    | none => ([], 60)
    | some _ => match p.getD (kind - 1).toNat none with
      | none => ([], 62)
      | some v => (v, 0)

theorem W_fin {O : List Nat} {b : Nat} {a : WA} {w' : World} {rest : List Thing} {i : Nat} (hi : its[i]? = some (tW b a)) (back : ∀ {w' : World} {t' : Thing} {rest : List Thing}, t'.own = true → Hp.owns rest = true → Hp O w w' (t' :: rest) → Hp S w0 w' (its.set i t' ++ rest)) (ho : Hp.owns rest = true) (h : Hp O w w' (tW b a :: rest)) : Hp S w0 w' (its ++ rest) := by
  have := back rfl ho h
  rwa [Hp.set_same hi] at this

end
end Go.Proofs.Ytcccjgmekakabaa.FW
end

section
set_option linter.unusedSimpArgs false
set_option linter.unusedVariables false
set_option maxRecDepth 100000
namespace Go.Proofs.Ytcccjgmekakabaa.FW
open Go.Proofs.Ytcccjgmekakabaa.F
open Go Go.Den Go.Proofs
open Go.Proofs.Ytcccjgmekakabaa.FI (PoolM tPool)
open Go.Proofs.Ytcccjgmekakabaa.FT (TabM tTab Ent entV ent ent_len atI keyEnt iv iv_len)
theorem und36 : Try.prog.underlying 36 = some (.slice 40) := by kernel_rfl

theorem und56 : Try.prog.underlying 56 = some (.slice 65) := by kernel_rfl

theorem inf40 : ∃ inf : TypeInfo, Try.prog.info? 40 = some inf ∧ inf.zero = some (.agg #[.int .i64 0, .slice none 0 0]) ∧ inf.size = 2 ∧ inf.bytes = 32 := infoP (by kernel_rfl)

theorem inf65 : ∃ inf : TypeInfo, Try.prog.info? 65 = some inf ∧ inf.zero = some (.agg #[.int .i64 0, .int .i64 0, .slice none 0 0]) ∧ inf.size = 3 ∧ inf.bytes = 40 := infoP (by kernel_rfl)

/-- A part: its kind, its numbers. -/
abbrev Part := Int × List Int

abbrev PV := Int × Sl × List Int

abbrev pdv (x : PV) : List Value := [.int .i64 x.1, .slice x.2.1.a x.2.1.len x.2.1.cap]

theorem pdv_len (x : PV) : (pdv x).length = 2 := rfl

def tV (x : PV) : Thing := tSl x.2.1 2 1 iv x.2.2

def pvis (x : PV) : Part := (x.1, x.2.2)

def tParts (s : Sl) (l : List Part) : Thing := tNest 40 2 pdv tV pvis s l

abbrev RowT := Ent × List Part

abbrev RV := Ent × Sl × List Part

abbrev rdv (x : RV) : List Value := [.int .i64 x.1.1, .int .i64 x.1.2, .slice x.2.1.a x.2.1.len x.2.1.cap]

theorem rdv_len (x : RV) : (rdv x).length = 3 := rfl

def tPs (x : RV) : Thing := tParts x.2.1 x.2.2

def rvis (x : RV) : RowT := (x.1, x.2.2)

def tRows (s : Sl) (l : List RowT) : Thing := tNest 65 3 rdv tPs rvis s l

/-- The parts of the first kinds. -/
def partsU (p : PL) : Nat → List Part
  | 0 => []
  | k + 1 => partsU p k ++ match p.getD k none with
    | some v => [(((k + 1 : Nat) : Int), v)]
    | none => []

def partsOf (p : PL) : List Part := partsU p p.length

theorem partsU_len (p : PL) : ∀ k, (partsU p k).length ≤ k
  | 0 => by simp [partsU]
  | k + 1 => by
    have := partsU_len p k
    rw [partsU, List.length_append]
    split <;> simp <;> omega

def WA.all (a : WA) : List Ent := a.pool.allU a.pool.gens.length

def WA.rowT (a : WA) (e : Ent) : RowT := (e, partsOf ((a.row e).getD []))

def WA.rows (a : WA) : List RowT := a.all.map a.rowT

theorem getD_some {p : PL} {j : Nat} {v : List Int} (hp : p.getD j none = some v) : p[j]? = some (some v) := by
  rw [List.getD_eq_getElem?_getD] at hp
  cases hx : p[j]? with
  | none => rw [hx] at hp; cases hp
  | some o => rw [hx] at hp; simpa using hp

section
variable {S : List Nat} {w0 w : World} {its : List Thing}
set_option maxHeartbeats 2000000 in
theorem row_W {b : Nat} {m : WM} {q : WH} {u : Thing} {more : List Thing} (h : Hp S w0 w (q.all b m u ++ more)) {row : Ent → Option PL} {e : Ent} {p : PL} (ht : Tabs (kinds q.xs) row m.sets q.tabs) (hm : mayOk (kinds q.xs)) (hr : row e = some p) {K : Int → Int → Sl → World → Prop}
    (hK : ∀ s w', Hp S w0 w' (q.all b m u ++ more ++ [tParts s (partsOf p)]) → K e.1 e.2 s w') : c60 (some ⟨b, 0, none⟩) e.1 e.2 w K := by
  refine c60_of ?_
  unfold f60
  obtain ⟨inf', r1, r2, r3, r4⟩ := FT.inf3
  obtain ⟨inf, q1, q2, q3, q4⟩ := inf40
  have hkl : (kinds q.xs).length = q.xs.length := by simp [kinds]
  have h12 : q.xs.length ≤ 12 := by have := hm.2.2.1; omega
  have hfit := ht.fit e p hr
  have hpl : p.length = q.xs.length := by rw [hfit.1, hkl]
  have hs1 := setI_lt (show p.length ≤ 12 by omega)
  have hs0 := setI_nn p
  have hset : m.sets e = some (setI p) := by rw [ht.sets]; show (row e).map setI = _; rw [hr]; rfl
  refine h.nw (c := [_, _]) fun eb w1 h => ?_
  have h := h.up
  refine h.nw (c := [_, _, _]) fun ab w2 h => ?_
  have h := h.up
  refine h.ld0 (k := .i .i64) (x := e.1) 9 rfl rfl ?_
  refine h.ld (n := 1) (k := .i .i64) (x := e.2) 9 rfl rfl ?_
  refine h.nw (c := [_, _, _]) fun rb w3 h => ?_
  have h := h.up
  refine h.st0 8 rfl (by simp) rfl fun w4 h => ?_
  refine h.st (n := 1) 8 rfl (by simp) rfl fun w5 h => ?_
  refine h.st (n := 2) 8 rfl (by simp) rfl fun w6 h => ?_
  have h : Hp S w0 w6 (q.all b m u ++ (tBlk rb 65 [.int .i64 e.1, .int .i64 e.2, .slice none 0 0] :: tBlk ab 65 [.int .i64 0, .int .i64 0, .slice none 0 0] :: tBlk eb 43 [.int .i64 e.1, .int .i64 e.2] :: more)) := h
  refine h.dr fun w7 h => ?_
  refine nns ?_
  refine h.ld (n := 2) (k := .m) (x := some q.ms) 0 rfl rfl ?_
  refine h.ld0 (k := .i .i64) (x := e.1) 10 rfl rfl ?_
  refine h.ld (n := 1) (k := .i .i64) (x := e.2) 10 rfl rfl ?_
  refine h.lookup1 (kd := .i .i64) (vk := id) (z := (0 : Int)) (ek := entV) (ev := Value.int .i64) (g := m.sets) (k := e) 5 rfl rfl und98 keyEnt r1 r2 (fun _ => rfl) ?_
  rw [hset]
  dsimp only [id_eq]
  refine nns ?_
  refine h.ld0 (k := .sl) (x := q.sk) 0 rfl rfl ?_
  have hsk := h.len (s := q.sk) 2 rfl
  have h := (h.nest_nil 40 2 pdv tV pvis).up
  refine ⟨fun t21 mm w' => ∃ (k : Nat) (s : Sl), t21 = k ∧ k ≤ p.length ∧ mm = p.length - k ∧ Hp S w0 w' (q.all b m u ++ (tParts s (partsU p k) :: tBlk rb 65 [.int .i64 e.1, .int .i64 e.2, .slice s.a s.len s.cap] :: tBlk ab 65 [.int .i64 0, .int .i64 0, .slice none 0 0] :: tBlk eb 43 [.int .i64 e.1, .int .i64 e.2] :: more)), ⟨p.length, 0, ⟨none, 0, 0⟩, rfl, by omega, rfl, h⟩, ?_⟩
  clear h
  rintro t21 mm w8 ⟨k, s, rfl, hk, rfl, h⟩
  have hplen := h.nest_see (s := s) (l := partsU p k) (e := 40) (n := 2) (cells := pdv) (sub := tV) (vis := pvis) 8 rfl
  have hpu := partsU_len p k
  by_cases hlt : k < p.length
  · refine ifT (by simp; omega) ?_
    rw [show IntKind.i64.wrap ((k : Int) + 1) = ((k + 1 : Nat) : Int) by rw [wr64 (by omega) (by omega)]; omega]
    refine ⟨by omega, ?_⟩
    have hbit := (bit_eq (set := setI p) (k := k + 1) hs0 (by omega) (by omega)).trans (bit_setI p k)
    cases hp : p.getD k none with
    | some v =>
      refine ifT (by rw [hbit, hp]; rfl) ?_
      refine h.dr fun w9 h => ?_
      refine h.ld (n := 2) (k := .sl) (x := s) 9 rfl rfl ?_
      refine h.ld0 (k := .i .i64) (x := e.1) 11 rfl rfl ?_
      refine h.ld (n := 1) (k := .i .i64) (x := e.2) 11 rfl rfl ?_
      refine part_W h ht hm hr (getD_some hp) fun sv w10 h => ?_
      have h := h.up
      refine ⟨h.cel (n := 2) 10 rfl rfl, ?_⟩
      refine h.nest_app 9 8 (by omega) ((((k + 1 : Nat) : Int), sv, v) : PV) rfl rfl rfl pdv_len und36 q1 q3 q2 rfl rfl (by simp [pdv, Value.oneCell']) (by rw [q4]; omega) (by omega) fun s' w11 h hl' => ?_
      have h : Hp S w0 w11 (q.all b m u ++ [tEmp] ++ (tParts s' (partsU p k ++ [(((k + 1 : Nat) : Int), v)]) :: tBlk rb 65 [.int .i64 e.1, .int .i64 e.2, .slice s.a s.len s.cap] :: tBlk ab 65 [.int .i64 0, .int .i64 0, .slice none 0 0] :: tBlk eb 43 [.int .i64 e.1, .int .i64 e.2] :: more)) := h
      have h := h.cutMid
      refine h.st (n := 2) 9 rfl (by simp) rfl fun w12 h => ?_
      refine ⟨p.length - (k + 1), by omega, k + 1, s', rfl, by omega, rfl, ?_⟩
      have e1 : partsU p (k + 1) = partsU p k ++ [(((k + 1 : Nat) : Int), v)] := by rw [partsU, hp]
      rw [e1]
      exact h
    | none =>
      refine ifF (by rw [hbit, hp]; decide) ?_
      refine ⟨p.length - (k + 1), by omega, k + 1, s, rfl, by omega, rfl, ?_⟩
      have e1 : partsU p (k + 1) = partsU p k := by rw [partsU, hp]; simp
      rw [e1]
      exact h
  · refine ifF (by simp; omega) ?_
    obtain rfl : k = p.length := by omega
    refine h.ld0 (k := .i .i64) (x := e.1) 9 rfl rfl ?_
    refine h.ld (n := 1) (k := .i .i64) (x := e.2) 9 rfl rfl ?_
    refine h.ld (n := 2) (k := .sl) (x := s) 9 rfl rfl ?_
    refine h.st0 10 rfl (by simp) rfl fun w9 h => ?_
    refine h.st (n := 1) 10 rfl (by simp) rfl fun w10 h => ?_
    refine h.st (n := 2) 10 rfl (by simp) rfl fun w11 h => ?_
    have h : Hp S w0 w11 (q.all b m u ++ (tParts s (partsOf p) :: ([tBlk rb 65 [.int .i64 e.1, .int .i64 e.2, .slice s.a s.len s.cap], tBlk ab 65 [.int .i64 e.1, .int .i64 e.2, .slice s.a s.len s.cap], tBlk eb 43 [.int .i64 e.1, .int .i64 e.2]] ++ more))) := h
    refine h.ld0 (k := .i .i64) (x := e.1) 10 rfl rfl ?_
    refine h.ld (n := 1) (k := .i .i64) (x := e.2) 10 rfl rfl ?_
    refine h.ld (n := 2) (k := .sl) (x := s) 10 rfl rfl ?_
    have h := h.down
    have h : Hp S w0 w11 (q.all b m u ++ [tBlk rb 65 [.int .i64 e.1, .int .i64 e.2, .slice s.a s.len s.cap], tBlk ab 65 [.int .i64 e.1, .int .i64 e.2, .slice s.a s.len s.cap], tBlk eb 43 [.int .i64 e.1, .int .i64 e.2]] ++ (more ++ [tParts s (partsOf p)])) := by
      simpa using h
    have h := h.cutMid
    rw [← List.append_assoc] at h
    exact hK s w11 h

theorem all_lives {a : WA} (hok : a.Ok) {e : Ent} (he : e ∈ a.all) : ∃ p, a.row e = some p := by
  obtain ⟨h1, _⟩ := FI.allU_get a.pool a.pool.gens.length
  obtain ⟨_, _, h2, h3⟩ := h1 e he
  have := hok.liv e
  rw [PoolM.is_iff.2 ⟨h2, h3⟩] at this
  exact Option.isSome_iff_exists.1 this

set_option maxHeartbeats 2000000 in
theorem Rows_o {b : Nat} {a : WA} {q : WH} {u : Thing} {more : List Thing} (h : Hp S w0 w (q.all b a.m u ++ more)) (hok : a.Ok) (ht : Tabs a.ks a.row a.m.sets q.tabs) (hk : kinds q.xs = a.ks) {K : Sl → World → Prop}
    (hK : ∀ s w', Hp S w0 w' (q.all b a.m u ++ more ++ [tRows s a.rows]) → K s w') : c21 (some ⟨b, 0, none⟩) w K := by
  refine c21_of ?_
  unfold f21
  obtain ⟨inf, q1, q2, q3, q4⟩ := inf65
  have hal : a.all.length ≤ 200 := by
    have h1 := PoolM.allU_len a.pool a.pool.gens.length
    have h2 := hok.pok.len200
    show (a.pool.allU a.pool.gens.length).length ≤ 200
    omega
  refine nns ?_
  refine h.ld (n := 1) (k := .p) (x := some ⟨q.pb, 0, none⟩) 0 rfl rfl ?_
  refine FI.All_h h 4 (m := a.pool) hok.pok rfl fun r w1 h => ?_
  have h := h.up
  have h : Hp S w0 w1 (q.all b a.m u ++ (tSl r 43 2 ent a.all :: more)) := h
  have hrl := h.len (s := r) 8 rfl
  have h := (h.nest_nil 65 3 rdv tPs rvis).up
  refine ⟨fun out t12 mm w' => ∃ k : Nat, t12 = k ∧ k ≤ a.all.length ∧ mm = a.all.length - k ∧ Hp S w0 w' (q.all b a.m u ++ (tRows out ((a.all.take k).map a.rowT) :: tSl r 43 2 ent a.all :: more)), ⟨a.all.length, 0, rfl, by omega, rfl, h⟩, ?_⟩
  clear h
  rintro out t12 mm w2 ⟨k, rfl, hkk, rfl, h⟩
  have hplen := h.nest_see (s := out) (l := (a.all.take k).map a.rowT) (e := 65) (n := 3) (cells := rdv) (sub := tPs) (vis := rvis) 8 rfl
  rw [List.length_map, List.length_take] at hplen
  by_cases hlt : k < a.all.length
  · refine ifT (by simp; omega) ?_
    have hx : a.all[k]? = some a.all[k] := by simp [hlt]
    obtain ⟨p, hr⟩ := all_lives hok (List.getElem_mem hlt)
    have htk : (a.all.take (k + 1)).map a.rowT = (a.all.take k).map a.rowT ++ [(a.all[k], partsOf p)] := by
      rw [List.take_succ_eq_append_getElem hlt, List.map_append]
      show _ ++ [a.rowT a.all[k]] = _
      unfold WA.rowT
      rw [hr]; rfl
    generalize a.all[k] = e at hx hr htk
    refine h.ixr (s := r) (l := a.all) (f := ent) (n := 2) (e := 43) 9 rfl (by omega) (by rw [Int.toNat_natCast]; exact hx) ent_len fun ad hc => ?_
    refine ldR0 (k := .i .i64) (x := e.1) (hc 0 (by omega)) rfl ?_
    refine ldR (k := .i .i64) (x := e.2) (hc 1 (by omega)) rfl ?_
    refine h.nw (c := [_, _]) fun eb w3 h => ?_
    have h := h.up
    refine h.st0 8 rfl (by simp) rfl fun w4 h => ?_
    refine h.st (n := 1) 8 rfl (by simp) rfl fun w5 h => ?_
    have h : Hp S w0 w5 (q.all b a.m u ++ (tBlk eb 43 [.int .i64 e.1, .int .i64 e.2] :: tRows out ((a.all.take k).map a.rowT) :: tSl r 43 2 ent a.all :: more)) := h
    refine h.ld0 (k := .i .i64) (x := e.1) 8 rfl rfl ?_
    refine h.ld (n := 1) (k := .i .i64) (x := e.2) 8 rfl rfl ?_
    refine row_W h (row := a.row) (by rw [hk]; exact ht) (by rw [hk]; exact hok.may) hr fun s w6 h => ?_
    have h := h.up
    refine h.nest_app 10 8 (by omega) ((e, s, partsOf p) : RV) rfl rfl rfl rdv_len und56 q1 q3 q2 rfl rfl (by simp [rdv, Value.oneCell']) (by rw [q4]; omega) (by omega) fun s' w7 h hl' => ?_
    have h : Hp S w0 w7 (q.all b a.m u ++ [tEmp, tBlk eb 43 [.int .i64 e.1, .int .i64 e.2]] ++ (tRows s' ((a.all.take k).map a.rowT ++ [(e, partsOf p)]) :: tSl r 43 2 ent a.all :: more)) := h
    have h := h.cutMid
    refine ⟨a.all.length - (k + 1), by omega, k + 1, by rw [wr64 (by omega) (by omega)]; omega, by omega, rfl, ?_⟩
    rw [htk]
    exact h
  · refine ifF (by simp; omega) ?_
    rw [List.take_of_length_le (by omega)] at h
    have h := h.down
    have h : Hp S w0 w2 (q.all b a.m u ++ [tSl r 43 2 ent a.all] ++ (more ++ [tRows out (a.all.map a.rowT)])) := by
      simpa using h
    have h := h.cutMid
    rw [← List.append_assoc] at h
    exact hK out w2 h

end
end Go.Proofs.Ytcccjgmekakabaa.FW
end

section
set_option linter.unusedSimpArgs false
set_option linter.unusedVariables false
set_option maxRecDepth 100000
namespace Go.Proofs.Ytcccjgmekakabaa.FW
open Go.Proofs.Ytcccjgmekakabaa.F
open Go Go.Den Go.Proofs
open Go.Proofs.Ytcccjgmekakabaa.FI (PoolM tPool)
open Go.Proofs.Ytcccjgmekakabaa.FT (TabM tTab Ent entV ent ent_len atI keyEnt iv iv_len)
/-- The parts that are handed in, one by one; what is wrong with them. -/
def putParts (ks : KD) : List Part → PL → PL × Int
  | [], p => (p, 0)
  | x :: ps, p => match fl ks x.1 with
    | none => (p, 60)
    | some n => if (p.getD (x.1 - 1).toNat none).isSome = true then (p, 61) else if x.2.length ≠ n then (p, 63) else putParts ks ps (p.set (x.1 - 1).toNat (some x.2))

def WA.emp (a : WA) : PL := List.replicate a.ks.length none

def WA.spawn (a : WA) (ps : List Part) : WA × Ent × Int :=
  if (putParts a.ks ps a.emp).2 ≠ 0 then (a, (0, 0), (putParts a.ks ps a.emp).2) else
  if a.pool.takeM.2.2 ≠ 0 then (a, (0, 0), a.pool.takeM.2.2) else (⟨a.ks, a.pool.takeM.1, upd1 a.row a.pool.takeM.2.1 (some (putParts a.ks ps a.emp).1)⟩, a.pool.takeM.2.1, 0)

theorem take_liv {m : PoolM} (hm : m.Ok) : (m.takeM.2.2 ≠ 0 → m.takeM = (m, (0, 0), 40)) ∧ (m.takeM.2.2 = 0 → m.takeM.1.Ok ∧ m.is m.takeM.2.1.1 m.takeM.2.1.2 = false ∧ ∀ x : Ent, m.takeM.1.is x.1 x.2 = if x = m.takeM.2.1 then true else m.is x.1 x.2) := by
  have hneg : ∀ (q : PoolM) (x : Ent), x.1 < 0 → q.is x.1 x.2 = false := fun q x hx => by
    unfold PoolM.is PoolM.lives
    rw [decide_eq_false (by omega)]; rfl
  unfold PoolM.takeM
  cases hf : m.free with
  | cons i rest =>
    dsimp only
    refine ⟨fun h => absurd rfl h, fun _ => ⟨hm.takeFree hf, ?_, fun x => ?_⟩⟩
    · obtain ⟨a1, a2, a3, a4⟩ := hm.free i (by rw [hf]; simp)
      unfold PoolM.is; rw [a3]; rfl
    · obtain ⟨a1, a2, a3, a4⟩ := hm.free i (by rw [hf]; simp)
      have hl := hm.len
      by_cases hx0 : x.1 < 0
      · rw [hneg _ x hx0, hneg _ x hx0, if_neg (fun e => by rw [e] at hx0; dsimp only at hx0; omega)]
      · unfold PoolM.is
        rw [PoolM.lives_takeFree m a1 (by omega), PoolM.gen_takeFree m a1 (by omega) (by omega)]
        by_cases hx : x.1 = i
        · rw [if_pos hx, if_pos hx, hx, a3]
          by_cases hx2 : x = (i, m.gen i + 1)
          · rw [if_pos hx2, hx2]; simp
          · rw [if_neg hx2]
            have : m.gen i + 1 ≠ x.2 := fun e => hx2 (Prod.ext hx e.symm)
            simp [this]
        · rw [if_neg hx, if_neg hx, if_neg (fun e => hx (by rw [e]))]
  | nil =>
    by_cases hl : (m.gens.length : Int) < m.most
    · simp only [if_pos hl]
      refine ⟨fun h => absurd rfl h, fun _ => ⟨hm.takeNew hf hl, ?_, fun x => ?_⟩⟩
      · unfold PoolM.is PoolM.lives
        have := hm.len
        rw [List.getD_eq_getElem?_getD, List.getElem?_eq_none (by simp; omega)]; simp
      · have hl := hm.len
        have hdead : m.lives (m.gens.length : Int) = false := by
          unfold PoolM.lives
          rw [List.getD_eq_getElem?_getD, List.getElem?_eq_none (by simp; omega)]; simp
        by_cases hx0 : x.1 < 0
        · rw [hneg _ x hx0, hneg _ x hx0, if_neg (fun e => by rw [e] at hx0; dsimp only at hx0; omega)]
        · unfold PoolM.is
          rw [PoolM.lives_takeNew m hl, PoolM.gen_takeNew m (by omega)]
          by_cases hx : x.1 = m.gens.length
          · rw [if_pos hx, if_pos hx, hx, hdead]
            by_cases hx2 : x = ((m.gens.length : Int), 1)
            · rw [if_pos hx2, hx2]; simp
            · rw [if_neg hx2]
              have : (1 : Int) ≠ x.2 := fun e => hx2 (Prod.ext hx e.symm)
              simp [this]
          · rw [if_neg hx, if_neg hx, if_neg (fun e => hx (by rw [e]))]
    · simp only [if_neg hl]
      exact ⟨fun _ => trivial, fun h => absurd h (by decide)⟩

theorem putParts_rng {ks : KD} : ∀ (ps : List Part) {p : PL}, (∀ x ∈ ps, FP.R64 x.2) → FP.R64 (flat p) → FP.R64 (flat (putParts ks ps p).1)
  | [], p, _, h => h
  | x :: ps, p, hp, h => by
    unfold putParts
    cases hf : fl ks x.1 with
    | none => exact h
    | some n =>
      dsimp only
      split
      · exact h
      · split
        · exact h
        · exact putParts_rng ps (fun y hy => hp y (List.mem_cons_of_mem _ hy)) (flat_rng h _ (hp x (by simp)))

theorem WA.spawn_ok {a : WA} (h : a.Ok) (ps : List Part) (hps : ∀ x ∈ ps, FP.R64 x.2) : (a.spawn ps).1.Ok := by
  unfold WA.spawn
  split
  · exact h
  · split
    · exact h
    · rename_i ht
      obtain ⟨t1, t2, t3⟩ := (take_liv h.pok).2 (by simpa using ht)
      refine ⟨(FI.takeM_ok h.pok2).1, (FI.takeM_ok h.pok2).2.trans h.most, h.may, fun x => ?_, fun x p hx => ?_⟩
      · show (upd1 a.row a.pool.takeM.2.1 _ x).isSome = _
        rw [t3 x]
        unfold upd1
        split
        · rfl
        · exact h.liv x
      · have hx : upd1 a.row a.pool.takeM.2.1 _ x = some p := hx
        unfold upd1 at hx
        split at hx
        · obtain rfl := Option.some.inj hx
          exact putParts_rng ps hps (by unfold WA.emp; rw [flat_new]; intro x hx; cases hx)
        · exact h.rng x p hx

theorem spawn_few {a : WA} (h : a.Ok) (ht : a.pool.takeM.2.2 = 0) : a.row a.pool.takeM.2.1 = none ∧ ∀ L : List Ent, L.Nodup → (∀ x ∈ L, (a.row x).isSome = true) → L.length < 200 := by
  obtain ⟨t1, t2, t3⟩ := (take_liv h.pok).2 ht
  have hne : a.row a.pool.takeM.2.1 = none := by
    have := h.liv a.pool.takeM.2.1
    rw [t2] at this
    cases hr : a.row a.pool.takeM.2.1 with
    | none => rfl
    | some p => rw [hr] at this; cases this
  refine ⟨hne, fun L hnd hL => ?_⟩
  have := pool_few t1 (L := a.pool.takeM.2.1 :: L) (by
    rw [List.nodup_cons]
    exact ⟨fun hm => (by have := hL _ hm; rw [hne] at this; cases this), hnd⟩) (fun x hx => by
    rw [t3 x]
    split
    · rfl
    · rcases List.mem_cons.1 hx with rfl | hx
      · rename_i h; exact absurd rfl h
      · rw [← h.liv x]; exact hL x hx)
  simp only [List.length_cons] at this
  omega

section
variable {S : List Nat} {w0 w : World} {its : List Thing}
theorem all_swap {b : Nat} {m : WM} {q : WH} {u v : Thing} {more : List Thing} (h : Hp S w0 w (q.all b m u ++ (v :: more))) : Hp S w0 w (q.all b m v ++ (u :: more)) := by
  have h : Hp S w0 w ([q.blk b] ++ (u :: q.rest m) ++ [v] ++ more) := by simpa [WH.all, WH.rest] using h
  have h := h.mid
  have h : Hp S w0 w ([q.blk b, v] ++ [u] ++ q.rest m ++ more) := by simpa using h
  have h := h.mid
  simpa [WH.all, WH.rest] using h

theorem shut_parts {b : Nat} {a : WA} {m : WM} {q : WH} {u : Thing} {B : List Thing} {s : Sl} {xs : List PV} (hok : a.Ok) (ht : Tabs a.ks a.row a.m.sets q.tabs) (hk : kinds q.xs = a.ks) (hp : m.pool = a.pool) (hs : m.sets = a.m.sets)
    (h : Hp S w0 w (q.all b m u ++ B ++ [tSl s 40 2 pdv xs, tAll (xs.map tV)])) : Hp S w0 w [tW b a, tParts s (xs.map pvis)] := by
  have h := W_shut (rest := [_, _]) hok ht hk hp hs h.cutMid
  have h := h.nest_close (i := 1) (j := 2) (e := 40) (n := 2) (cells := pdv) (sub := tV) (vis := pvis) (s := s) (xs := xs) (l := xs.map pvis) (by decide) rfl rfl rfl
  have h : Hp S w0 w ([tW b a, tParts s (xs.map pvis)] ++ [tEmp]) := h
  exact h.front

set_option maxHeartbeats 4000000 in
theorem Spawn_W (h : Hp S w0 w its) (i j : Nat) (hij : i ≠ j) {b : Nat} {a : WA} {s : Sl} {ps : List Part} (hi : its[i]? = some (tW b a)) (hj : its[j]? = some (tParts s ps)) (hps : ∀ x ∈ ps, -9223372036854775808 ≤ x.1 ∧ x.1 ≤ 9223372036854775807) (hpr : ∀ x ∈ ps, FP.R64 x.2) (hpl : ps.length ≤ 1000000) {K : Int → Int → Int → World → Prop}
    (hK : ∀ w', Hp S w0 w' (its.set i (tW b (a.spawn ps).1)) → K (a.spawn ps).2.1.1 (a.spawn ps).2.1.2 (a.spawn ps).2.2 w') : c14 (some ⟨b, 0, none⟩) s w K := by
  refine c14_of ?_
  unfold f14
  obtain ⟨O, h1, back⟩ := h.f2 hij hi hj rfl rfl
  clear h
  obtain ⟨q, hok, ht, hk, h⟩ := W_open h1
  obtain ⟨xs, hxs, h⟩ := h.nest_open (i := 8) rfl
  have hok' := WA.spawn_ok hok ps hpr
  have h : Hp O w w (q.all b a.m tEmp ++ [tSl s 40 2 pdv xs, tAll (xs.map tV)]) := h
  have hkl : (kinds q.xs).length = q.xs.length := by simp [kinds]
  have hal := hok.len
  have h12 : q.xs.length ≤ 12 := by rw [hk] at hkl; omega
  have h4k := hok.four
  have h4 : ∀ x ∈ q.xs, x.2.2.length ≤ 4 := fun x hx => h4k (x.1, x.2.2) (by rw [← hk]; exact List.mem_map.2 ⟨x, hx, rfl⟩)
  have hxl : xs.length = ps.length := by rw [← hxs, List.length_map]
  have fin : ∀ {w' : World} {a' : WA}, Hp O w w' [tW b a', tParts s (xs.map pvis)] → Hp S w0 w' (its.set i (tW b a')) := fun {w' a'} h => by
    rw [hxs] at h
    have := back (rest := []) rfl rfl rfl h
    rw [List.append_nil] at this
    have e : (its.set i (tW b a')).set j (tParts s ps) = its.set i (tW b a') := Hp.set_same (by rw [List.getElem?_set_ne hij]; exact hj)
    rwa [e] at this
  have hsl := h.len (s := s) 8 rfl
  refine h.nw (c := [_, _]) fun ab w1 h => ?_
  have h := h.up
  have h := (h.nil 2 1 iv).up
  refine ⟨fun sset values t16 mm w' => ∃ (k : Nat) (p : PL), sset = setI p ∧ t16 = k ∧ k ≤ xs.length ∧ mm = xs.length - k ∧ p.fit a.ks ∧ putParts a.ks (ps.drop k) p = putParts a.ks ps a.emp ∧ Hp O w w' (q.all b a.m tEmp ++ [tSl values 2 1 iv (flat p), tBlk ab 43 [.int .i64 0, .int .i64 0]] ++ [tSl s 40 2 pdv xs, tAll (xs.map tV)]), ⟨xs.length, 0, a.emp, by unfold WA.emp; rw [setI_new], rfl, by omega, rfl, fit_new _, rfl, by unfold WA.emp; rw [flat_new]; exact h⟩, ?_⟩
  clear h
  rintro sset values t16 mm w2 ⟨k, p, rfl, rfl, hkk, rfl, hfit, hput, h⟩
  have hs1 := setI_lt (show p.length ≤ 12 by rw [hfit.1]; omega)
  have hs0 := setI_nn p
  by_cases hlt : k < xs.length
  · refine ifT (by simp; omega) ?_
    have hx : xs[k]? = some xs[k] := by simp [hlt]
    have hpx : ps[k]? = some (pvis xs[k]) := by rw [← hxs, List.getElem?_map, hx]; rfl
    generalize xs[k] = x at hx hpx
    obtain ⟨kd, sv, v⟩ := x
    have hpx : ps[k]? = some (kd, v) := hpx
    have hkd := hps _ (List.mem_of_getElem? hpx)
    dsimp only at hkd
    have hdr : ps.drop k = (kd, v) :: ps.drop (k + 1) := by
      have hl := (List.getElem?_eq_some_iff.1 hpx).1
      have he := (List.getElem?_eq_some_iff.1 hpx).2
      rw [← he]; exact List.drop_eq_getElem_cons hl
    rw [hdr] at hput
    refine h.ixr (s := s) (l := xs) (f := pdv) (n := 2) (e := 40) 10 rfl (by omega) (by rw [Int.toNat_natCast]; exact hx) pdv_len fun ad hc => ?_
    refine ldR0 (k := .i .i64) (x := kd) (hc 0 (by omega)) rfl ?_
    refine ldR (k := .sl) (x := sv) (hc 1 (by omega)) rfl ?_
    refine h.nw (c := [_, _]) fun pb w3 h => ?_
    have h : Hp O w w3 (q.all b a.m tEmp ++ [tSl values 2 1 iv (flat p), tBlk ab 43 [.int .i64 0, .int .i64 0], tSl s 40 2 pdv xs, tAll (xs.map tV)] ++ [tBlk pb 40 [.int .i64 0, .slice none 0 0]]) := h
    have h := h.up
    refine h.st0 8 rfl (by simp) rfl fun w4 h => ?_
    refine h.st (n := 1) 8 rfl (by simp) rfl fun w5 h => ?_
    have h : Hp O w w5 (q.all b a.m tEmp ++ [tBlk pb 40 [.int .i64 kd, .slice sv.a sv.len sv.cap], tSl values 2 1 iv (flat p), tBlk ab 43 [.int .i64 0, .int .i64 0]] ++ [tSl s 40 2 pdv xs, tAll (xs.map tV)]) := h
    -- a refusal
    have bad : ∀ {w6 : World} {err : Int}, err ≠ 0 → (putParts a.ks ps a.emp).2 = err → Hp O w w6 (q.all b a.m tEmp ++ [tBlk pb 40 [.int .i64 kd, .slice sv.a sv.len sv.cap], tSl values 2 1 iv (flat p), tBlk ab 43 [.int .i64 0, .int .i64 0]] ++ [tSl s 40 2 pdv xs, tAll (xs.map tV)]) →
        (St ⟨ab, 0, none⟩ (.int .i64 0) w6 fun (w : World) => St ((⟨ab, 0, none⟩ : Addr).add 1) (.int .i64 0) w fun (w : World) => Ld (.i .i64) w ⟨ab, 0, none⟩ fun (r_Index : Int) => Ld (.i .i64) w ((⟨ab, 0, none⟩ : Addr).add 1) fun (r_Gen : Int) => K r_Index r_Gen err w) := by
      intro w6 err hne hpe h
      refine h.st0 10 rfl (by simp) rfl fun w7 h => ?_
      refine h.st (n := 1) 10 rfl (by simp) rfl fun w8 h => ?_
      refine h.ld0 (k := .i .i64) (x := (0 : Int)) 10 rfl rfl ?_
      refine h.ld (n := 1) (k := .i .i64) (x := (0 : Int)) 10 rfl rfl ?_
      have hsp : a.spawn ps = (a, (0, 0), err) := by unfold WA.spawn; rw [if_pos (by rw [hpe]; exact hne), hpe]
      rw [hsp] at hK
      have h : Hp O w w8 (q.all b a.m tEmp ++ [tBlk pb 40 [.int .i64 kd, .slice sv.a sv.len sv.cap], tSl values 2 1 iv (flat p), tBlk ab 43 [.int .i64 0, .int .i64 0]] ++ [tSl s 40 2 pdv xs, tAll (xs.map tV)]) := h
      exact hK w8 (fin (shut_parts hok ht hk rfl rfl h))
    refine h.ld0 (k := .i .i64) (x := kd) 8 rfl rfl ?_
    refine fields_spec h 0 2 3 (cells := [_, _, _]) rfl rfl rfl (by omega) hkd.1 hkd.2 ?_
    rw [hk]
    cases hf : fl a.ks kd with
    | none =>
      dsimp only
      refine ifT rfl (bad (by decide) ?_ h)
      rw [← hput]; unfold putParts; dsimp only; rw [hf]
    | some n =>
      dsimp only
      refine ifF (by simp) ?_
      refine h.ld0 (k := .i .i64) (x := kd) 8 rfl rfl ?_
      obtain ⟨r, kk, rfl, hkr, hkn⟩ := fl_at hf
      have hrl : r < p.length := by rw [hfit.1]; exact (List.getElem?_eq_some_iff.1 hkr).1
      have hp12 : p.length ≤ 12 := by rw [hfit.1]; omega
      have er : ((((r + 1 : Nat) : Int)) - 1).toNat = r := by omega
      have hbit := (bit_eq (set := setI p) (k := r + 1) hs0 (by omega) (by omega)).trans (bit_setI p r)
      refine ⟨by omega, ?_⟩
      by_cases hh : (p.getD r none).isSome = true
      · refine ifT (by rw [hbit, hh]; rfl) (bad (by decide) ?_ h)
        rw [← hput]; unfold putParts; dsimp only; rw [hf]; dsimp only; rw [er, if_pos hh]
      · refine ifF (by rw [hbit, if_neg hh]; decide) ?_
        refine h.ld (n := 1) (k := .sl) (x := sv) 8 rfl rfl ?_
        have hvl : v.length = sv.len := by
          have := h.see (i := 12) rfl
          obtain ⟨O', hO'⟩ := this
          obtain ⟨O1, O2, g1, _⟩ := tAll_pick (k := k) (t := tV (((r + 1 : Nat) : Int), sv, v)) (by rw [List.getElem?_map, hx]; rfl) hO'
          exact g1.1
        by_cases hn : v.length = n
        · refine ifF (by simp; omega) ?_
          refine h.dr fun w6 h => ?_
          refine h.ld0 (k := .i .i64) (x := ((r + 1 : Nat) : Int)) 8 rfl rfl ?_
          refine h.ld (n := 1) (k := .sl) (x := sv) 8 rfl rfl ?_
          refine at_spec h 0 2 3 (cells := [_, _, _]) rfl rfl rfl h12 h4 hs0 (by omega) (q := r) (by rw [hfit.1, ← hk, hkl] at hrl; omega) ?_
          refine ⟨h.cel (n := 1) 8 rfl rfl, ?_⟩
          rw [hk]
          have hno : p.getD r none = none := by simpa using hh
          have hat := hfit.at (q := r) (by omega)
          have hat4 := atF_le h4k (setI p) r
          have hall := hfit.all
          have hall4 := atF_le h4k (setI p) a.ks.length
          have hv4 := h4k _ (List.mem_of_getElem? hkr)
          have hle : atF a.ks (setI p) r ≤ (flat p).length := by
            have hpr : p[r]? = some none := by
              have : p[r]? = some p[r] := by simp [hrl]
              rw [this]; rw [List.getD_eq_getElem?_getD, this] at hno; simpa using hno
            rw [hat, flat_split hpr]; simp
          have h := h.pick (i := 12) (k := k) (t := tV (((r + 1 : Nat) : Int), sv, v)) rfl (by rw [List.getElem?_map, hx]; rfl) rfl
          refine Insert_spec h 9 13 (by decide) (s := values) (v := sv) (l := flat p) (xs := v) rfl rfl hle (by omega) fun s' w7 h => ?_
          rw [← hfit.ins hrl hno v] at h
          have hkx : k < (xs.map tV).length := by simpa using hlt
          have h := h.unpick (i := 12) (j := 13) (k := k) (ts := (xs.map tV).set k tEmp) (t := tV (((r + 1 : Nat) : Int), sv, v)) (by decide) rfl rfl (by rw [List.getElem?_set_self hkx]) rfl
          rw [List.set_set] at h
          have eb : (xs.map tV).set k (tV (((r + 1 : Nat) : Int), sv, v)) = xs.map tV := Hp.set_same (by rw [List.getElem?_map, hx]; rfl)
          rw [eb] at h
          have h : Hp O w w7 (q.all b a.m tEmp ++ [tBlk pb 40 [.int .i64 ((r + 1 : Nat) : Int), .slice sv.a sv.len sv.cap], tSl s' 2 1 iv (flat (p.set r (some v))), tBlk ab 43 [.int .i64 0, .int .i64 0], tSl s 40 2 pdv xs, tAll (xs.map tV)] ++ [tEmp]) := h
          have h := h.front
          refine h.ld0 (k := .i .i64) (x := ((r + 1 : Nat) : Int)) 8 rfl rfl ?_
          refine ⟨by omega, xs.length - (k + 1), by omega, k + 1, p.set r (some v), setI_put hp12 hrl v, by rw [wr64 (by omega) (by omega)]; omega, by omega, rfl, hfit.set hkr (by rw [hkn]; exact hn), ?_, ?_⟩
          · rw [← hput]
            conv => rhs; unfold putParts
            dsimp only
            rw [hf]
            dsimp only
            rw [er, if_neg hh, if_neg (by simpa using hn)]
          · have h : Hp O w w7 (q.all b a.m tEmp ++ [tBlk pb 40 [.int .i64 ((r + 1 : Nat) : Int), .slice sv.a sv.len sv.cap]] ++ [tSl s' 2 1 iv (flat (p.set r (some v))), tBlk ab 43 [.int .i64 0, .int .i64 0], tSl s 40 2 pdv xs, tAll (xs.map tV)]) := h
            exact h.cutMid
        · refine ifT (by simp; omega) (bad (by decide) ?_ h)
          rw [← hput]; unfold putParts; dsimp only; rw [hf]; dsimp only; rw [er, if_neg hh, if_pos hn]
  · refine ifF (by simp; omega) ?_
    have hput : (p, (0 : Int)) = putParts a.ks ps a.emp := by
      rw [List.drop_of_length_le (by omega)] at hput
      exact hput
    refine nns ?_
    refine h.ld (n := 1) (k := .p) (x := some ⟨q.pb, 0, none⟩) 0 rfl rfl ?_
    refine FI.Take_h h 4 (m := a.pool) hok.pok rfl fun w3 h => ?_
    have h : Hp O w w3 (q.all b { a.m with pool := a.pool.takeM.1 } tEmp ++ [tSl values 2 1 iv (flat p), tBlk ab 43 [.int .i64 0, .int .i64 0], tSl s 40 2 pdv xs, tAll (xs.map tV)]) := h
    have hsp0 : (putParts a.ks ps a.emp).2 = 0 := by rw [← hput]
    have hsp1 : (putParts a.ks ps a.emp).1 = p := by rw [← hput]
    refine h.nw (c := [_, _]) fun eb w4 h => ?_
    have h := h.up
    refine h.st0 8 rfl (by simp) rfl fun w5 h => ?_
    refine h.st (n := 1) 8 rfl (by simp) rfl fun w6 h => ?_
    have hsp : a.spawn ps = if a.pool.takeM.2.2 ≠ 0 then (a, (0, 0), a.pool.takeM.2.2) else (⟨a.ks, a.pool.takeM.1, upd1 a.row a.pool.takeM.2.1 (some p)⟩, a.pool.takeM.2.1, 0) := by
      unfold WA.spawn; rw [if_neg (by rw [hsp0]; simp), hsp1]
    by_cases hb : a.pool.takeM.2.2 = 0
    · rw [if_neg (by simpa using hb)] at hsp
      rw [hsp] at hK hok'
      dsimp only at hK hok'
      obtain ⟨hrn, hfew⟩ := spawn_few hok hb
      generalize a.pool.takeM.2.1 = e at hK hrn hok' h ⊢
      generalize a.pool.takeM.1 = pool' at hK hok' h ⊢
      refine ifF (by rw [hb]; simp) ?_
      have h : Hp O w w6 (q.all b { a.m with pool := pool' } tEmp ++ [tBlk eb 43 [.int .i64 e.1, .int .i64 e.2]] ++ [tSl values 2 1 iv (flat p)] ++ [tBlk ab 43 [.int .i64 0, .int .i64 0], tSl s 40 2 pdv xs, tAll (xs.map tV)]) := h
      have h := h.mid
      refine h.ld0 (k := .i .i64) (x := e.1) 9 rfl rfl ?_
      refine h.ld (n := 1) (k := .i .i64) (x := e.2) 9 rfl rfl ?_
      have h : Hp O w w6 (q.all b { a.m with pool := pool' } tEmp ++ (tSl values 2 1 iv (flat p) :: [tBlk eb 43 [.int .i64 e.1, .int .i64 e.2], tBlk ab 43 [.int .i64 0, .int .i64 0], tSl s 40 2 pdv xs, tAll (xs.map tV)])) := h
      have h := all_swap h
      refine enter_W h (row := a.row) (e := e) (p := p) (by rw [hk]; exact ht) (by rw [hk]; exact hok.may) hrn (by rw [hk]; exact hfit) hfew Hp.rdSl fun T' w7 ht' h => ?_
      refine h.ld0 (k := .i .i64) (x := e.1) 9 rfl rfl ?_
      refine h.ld (n := 1) (k := .i .i64) (x := e.2) 9 rfl rfl ?_
      refine h.st0 10 rfl (by simp) rfl fun w8 h => ?_
      refine h.st (n := 1) 10 rfl (by simp) rfl fun w9 h => ?_
      refine h.ld0 (k := .i .i64) (x := e.1) 10 rfl rfl ?_
      refine h.ld (n := 1) (k := .i .i64) (x := e.2) 10 rfl rfl ?_
      refine hK w9 (fin ?_)
      refine shut_parts (B := [tEmp, tBlk eb 43 [.int .i64 e.1, .int .i64 e.2], tBlk ab 43 [.int .i64 e.1, .int .i64 e.2]]) (m := { a.m with pool := pool', sets := upd1 a.m.sets e (some (setI p)) }) (q := { q with T := T' }) (u := tSl values 2 1 iv (flat p)) hok' ?_ hk rfl ?_ h
      · show Tabs a.ks (upd1 a.row e (some p)) (fun x => (upd1 a.row e (some p) x).map setI) _
        rw [upd_sets, ← hk]
        exact ht'
      · exact (upd_sets a.row e (some p)).symm
    · rw [if_pos hb] at hsp
      have htk := (take_liv hok.pok).1 hb
      rw [hsp] at hK
      rw [htk] at hK h ⊢
      refine ifT (by simp) ?_
      refine h.st0 10 rfl (by simp) rfl fun w8 h => ?_
      refine h.st (n := 1) 10 rfl (by simp) rfl fun w9 h => ?_
      refine h.ld0 (k := .i .i64) (x := (0 : Int)) 10 rfl rfl ?_
      refine h.ld (n := 1) (k := .i .i64) (x := (0 : Int)) 10 rfl rfl ?_
      have h : Hp O w w9 (q.all b a.m tEmp ++ [tBlk eb 43 [.int .i64 0, .int .i64 0], tSl values 2 1 iv (flat p), tBlk ab 43 [.int .i64 0, .int .i64 0]] ++ [tSl s 40 2 pdv xs, tAll (xs.map tV)]) := h
      exact hK w9 (fin (shut_parts hok ht hk rfl rfl h))

end
end Go.Proofs.Ytcccjgmekakabaa.FW
end

section
set_option linter.unusedSimpArgs false
set_option linter.unusedVariables false
set_option maxRecDepth 100000
namespace Go.Proofs.Ytcccjgmekakabaa.FW
open Go.Proofs.Ytcccjgmekakabaa.F
open Go Go.Den Go.Proofs
open Go.Proofs.Ytcccjgmekakabaa.FI (PoolM tPool)
open Go.Proofs.Ytcccjgmekakabaa.FT (TabM tTab Ent entV ent ent_len atI keyEnt iv iv_len)
def WA.put (a : WA) (e : Ent) (p : PL) : WA := ⟨a.ks, a.pool, upd1 a.row e (some p)⟩

/-- What Add and Set look at: who has what, where the kind stands, how many numbers it has; or what is wrong. -/
def WA.ask (a : WA) (e : Ent) (kind : Int) : (PL × Nat × Nat) × Int := match a.row e with
  | none => (([], 0, 0), 41)
  | some p => match fl a.ks kind with
    | none => (([], 0, 0), 60)
    | some n => ((p, (kind - 1).toNat, n), 0)

def WA.add (a : WA) (e : Ent) (x : Part) : WA × Int :=
  if (a.ask e x.1).2 ≠ 0 then (a, (a.ask e x.1).2) else
  if ((a.ask e x.1).1.1.getD (a.ask e x.1).1.2.1 none).isSome = true then (a, 61) else
  if x.2.length ≠ (a.ask e x.1).1.2.2 then (a, 63) else (a.put e ((a.ask e x.1).1.1.set (a.ask e x.1).1.2.1 (some x.2)), 0)

theorem ask_none {a : WA} {e : Ent} {kind : Int} (h : a.row e = none) : a.ask e kind = (([], 0, 0), 41) := by unfold WA.ask; rw [h]

theorem ask_kind {a : WA} {e : Ent} {kind : Int} {p : PL} (h : a.row e = some p) (hf : fl a.ks kind = none) : a.ask e kind = (([], 0, 0), 60) := by
  unfold WA.ask; rw [h]; dsimp only; rw [hf]

theorem ask_some {a : WA} {e : Ent} {p : PL} {i : Nat} {k : ByteArray × List ByteArray} (h : a.row e = some p) (hk : a.ks[i]? = some k) : a.ask e ((i + 1 : Nat) : Int) = ((p, i, k.2.length), 0) := by
  have hfl : fl a.ks ((i + 1 : Nat) : Int) = some k.2.length := by
    unfold fl
    rw [if_pos (by omega), show (((i + 1 : Nat) : Int) - 1).toNat = i by omega, hk]; rfl
  unfold WA.ask; rw [h]; dsimp only; rw [hfl, show (((i + 1 : Nat) : Int) - 1).toNat = i by omega]

theorem WA.put_ok {a : WA} (h : a.Ok) {e : Ent} (he : (a.row e).isSome = true) {p : PL} (hp : FP.R64 (flat p)) : (a.put e p).Ok := by
  refine ⟨h.pok2, h.most, h.may, fun x => ?_, fun x p' hx => ?_⟩
  · show (upd1 a.row e (some p) x).isSome = a.pool.is x.1 x.2
    rw [← h.liv x]
    unfold upd1
    split
    · rename_i hx; rw [hx, he]; rfl
    · rfl
  · have hx : upd1 a.row e (some p) x = some p' := hx
    unfold upd1 at hx
    split at hx
    · obtain rfl := Option.some.inj hx; exact hp
    · exact h.rng x p' hx

theorem upd_upd (row : Ent → Option PL) (e : Ent) (o o' : Option PL) : upd1 (upd1 row e o) e o' = upd1 row e o' := by
  funext x
  unfold upd1
  split <;> rfl

theorem upd_updI (sets : Ent → Option Int) (e : Ent) (o o' : Option Int) : upd1 (upd1 sets e o) e o' = upd1 sets e o' := by
  funext x
  unfold upd1
  split <;> rfl

theorem gone_few {a : WA} (h : a.Ok) {e : Ent} (he : (a.row e).isSome = true) : ∀ L : List Ent, L.Nodup → (∀ x ∈ L, (upd1 a.row e none x).isSome = true) → L.length < 200 := by
  intro L hnd hL
  have hin : ∀ x ∈ L, x ≠ e ∧ (a.row x).isSome = true := fun x hx => by
    have := hL x hx
    unfold upd1 at this
    split at this
    · cases this
    · rename_i hne; exact ⟨hne, this⟩
  have := pool_few h.pok (L := e :: L) (by
    rw [List.nodup_cons]
    exact ⟨fun hm => (hin e hm).1 rfl, hnd⟩) (fun x hx => by
    rw [← h.liv x]
    rcases List.mem_cons.1 hx with rfl | hx
    · exact he
    · exact (hin x hx).2)
  simp only [List.length_cons] at this
  omega

section
variable {S : List Nat} {w0 w : World} {its : List Thing}
set_option maxHeartbeats 4000000 in
theorem Add_W (h : Hp S w0 w its) (i j : Nat) (hij : i ≠ j) {b : Nat} {a : WA} {e : Ent} {kind : Int} {sv : Sl} {v : List Int} (hi : its[i]? = some (tW b a)) (hj : its[j]? = some (tSl sv 2 1 iv v)) (k1 : -9223372036854775808 ≤ kind) (k2 : kind ≤ 9223372036854775807) (hvr : FP.R64 v) {K : Int → World → Prop}
    (hK : ∀ w', Hp S w0 w' (its.set i (tW b (a.add e (kind, v)).1)) → K (a.add e (kind, v)).2 w') : c19 (some ⟨b, 0, none⟩) e.1 e.2 kind sv w K := by
  refine c19_of ?_
  unfold f19
  obtain ⟨O, h1, back⟩ := h.f2 hij hi hj rfl rfl
  clear h
  obtain ⟨q, hok, ht, hk, h⟩ := W_open h1
  have hkl : (kinds q.xs).length = q.xs.length := by simp [kinds]
  have hal := hok.len
  have h12 : q.xs.length ≤ 12 := by rw [hk] at hkl; omega
  have h4k := hok.four
  have h4 : ∀ x ∈ q.xs, x.2.2.length ≤ 4 := fun x hx => h4k (x.1, x.2.2) (by rw [← hk]; exact List.mem_map.2 ⟨x, hx, rfl⟩)
  have fin : ∀ {w' : World} {a' : WA}, Hp O w w' [tW b a', tSl sv 2 1 iv v] → Hp S w0 w' (its.set i (tW b a')) := fun {w' a'} h => by
    have := back (rest := []) rfl rfl rfl h
    rw [List.append_nil] at this
    have e : (its.set i (tW b a')).set j (tSl sv 2 1 iv v) = its.set i (tW b a') := Hp.set_same (by rw [List.getElem?_set_ne hij]; exact hj)
    rwa [e] at this
  have hvl := h.len (s := sv) 8 rfl
  refine h.nw (c := [_, _]) fun eb w1 h => ?_
  have h := h.up
  refine h.nw (c := [_, _]) fun pb w2 h => ?_
  have h := h.up
  refine h.ld0 (k := .i .i64) (x := e.1) 9 rfl rfl ?_
  refine h.ld (n := 1) (k := .i .i64) (x := e.2) 9 rfl rfl ?_
  refine h.ld0 (k := .i .i64) (x := kind) 8 rfl rfl ?_
  have same : ∀ {w3 : World}, Hp O w w3 (q.all b a.m tEmp ++ (tBlk pb 40 [.int .i64 kind, .slice sv.a sv.len sv.cap] :: tBlk eb 43 [.int .i64 e.1, .int .i64 e.2] :: [tSl sv 2 1 iv v])) → Hp S w0 w3 (its.set i (tW b a)) := fun {w3} h => by
    have h : Hp O w w3 (q.all b a.m tEmp ++ [tBlk pb 40 [.int .i64 kind, .slice sv.a sv.len sv.cap], tBlk eb 43 [.int .i64 e.1, .int .i64 e.2]] ++ [tSl sv 2 1 iv v]) := h
    exact fin (W_shut (rest := [_]) hok ht hk rfl rfl h.cutMid)
  refine asked_W h hok ht hk k1 k2 fun w3 h => ⟨fun hr => ?_, fun p hr hf => ?_, fun p r k hr hkind hkr => ?_⟩
  · have hg : a.add e (kind, v) = (a, 41) := by unfold WA.add; rw [ask_none hr, if_pos (by decide)]
    rw [hg] at hK
    exact ifT rfl (hK w3 (same h))
  · have hg : a.add e (kind, v) = (a, 60) := by unfold WA.add; rw [ask_kind hr hf, if_pos (by decide)]
    rw [hg] at hK
    exact ifT rfl (hK w3 (same h))
  · subst hkind
    have hask := ask_some (a := a) (e := e) hr hkr
    refine ifF (by simp) ?_
    have hfit := ht.fit e p hr
    have hrl : r < p.length := by rw [hfit.1]; exact (List.getElem?_eq_some_iff.1 hkr).1
    have hp12 : p.length ≤ 12 := by rw [hfit.1]; omega
    have hs1 := setI_lt hp12
    have hs0 := setI_nn p
    by_cases hh : (p.getD r none).isSome = true
    · have hg : a.add e (((r + 1 : Nat) : Int), v) = (a, 61) := by unfold WA.add; dsimp only; rw [hask, if_neg (by simp), if_pos hh]
      rw [hg] at hK
      exact ifT hh (hK w3 (same h))
    · refine ifF hh ?_
      refine h.ld (n := 1) (k := .sl) (x := sv) 8 rfl rfl ?_
      by_cases hn : v.length = k.2.length
      · refine ifF (by simp; omega) ?_
        have hg : a.add e (((r + 1 : Nat) : Int), v) = (a.put e (p.set r (some v)), 0) := by
          unfold WA.add; dsimp only; rw [hask, if_neg (by simp), if_neg hh, if_neg (by simpa using hn)]
        rw [hg] at hK
        have his : (a.row e).isSome = true := by rw [hr]; rfl
        have hok' := WA.put_ok hok his (flat_rng (hok.rng e p hr) r hvr)
        refine h.dr fun w4 h => ?_
        refine h.ld0 (k := .i .i64) (x := e.1) 9 rfl rfl ?_
        refine h.ld (n := 1) (k := .i .i64) (x := e.2) 9 rfl rfl ?_
        refine h.ld0 (k := .i .i64) (x := ((r + 1 : Nat) : Int)) 8 rfl rfl ?_
        refine h.ld (n := 1) (k := .sl) (x := sv) 8 rfl rfl ?_
        refine leave_W h (row := a.row) (p := p) (by rw [hk]; exact ht) hr fun s T' w5 ht' h => ?_
        have h := h.up
        refine ⟨h.cel (n := 1) 9 rfl rfl, h.cel0 9 rfl rfl, ?_⟩
        refine at_spec h 0 2 3 (cells := [_, _, _]) rfl rfl rfl h12 h4 hs0 (by omega) (q := r) (by show r ≤ q.xs.length; rw [hfit.1, ← hk, hkl] at hrl; omega) ?_
        refine ⟨h.cel (n := 1) 9 rfl rfl, ?_⟩
        show c46 _ ((atF (kinds q.xs) (setI p) r : Nat) : Int) _ _ _
        rw [hk]
        have hno : p.getD r none = none := by simpa using hh
        have hat := hfit.at (q := r) (by omega)
        have hall := hfit.all
        have hall4 := atF_le h4k (setI p) a.ks.length
        have hv4 := h4k _ (List.mem_of_getElem? hkr)
        have hle : atF a.ks (setI p) r ≤ (flat p).length := by
          have hpr : p[r]? = some none := by
            have : p[r]? = some p[r] := by simp [hrl]
            rw [this]; rw [List.getD_eq_getElem?_getD, this] at hno; simpa using hno
          rw [hat, flat_split hpr]; simp
        refine Insert_spec h 8 11 (by decide) (s := s) (v := sv) (l := flat p) (xs := v) rfl rfl hle (by omega) fun s' w6 h => ?_
        rw [← hfit.ins hrl hno v] at h
        refine h.dr fun w7 h => ?_
        refine h.ld0 (k := .i .i64) (x := e.1) 10 rfl rfl ?_
        refine h.ld (n := 1) (k := .i .i64) (x := e.2) 10 rfl rfl ?_
        refine h.ld0 (k := .i .i64) (x := ((r + 1 : Nat) : Int)) 9 rfl rfl ?_
        refine ⟨by omega, ?_⟩
        rw [setI_put hp12 hrl v]
        have h : Hp O w w7 (({ q with T := T' } : WH).all b { a.m with sets := upd1 a.m.sets e none } tEmp ++ (tSl s' 2 1 iv (flat (p.set r (some v))) :: [tBlk pb 40 [.int .i64 ((r + 1 : Nat) : Int), .slice sv.a sv.len sv.cap], tBlk eb 43 [.int .i64 e.1, .int .i64 e.2], tSl sv 2 1 iv v])) := h
        have h := all_swap h
        have hfit' : PL.fit a.ks (p.set r (some v)) := hfit.set hkr hn
        refine enter_W h (row := upd1 a.row e none) (e := e) (p := p.set r (some v)) ht' (by show mayOk (kinds q.xs); rw [hk]; exact hok.may) (by unfold upd1; rw [if_pos rfl]) (by show PL.fit (kinds q.xs) _; rw [hk]; exact hfit') (gone_few hok his) Hp.rdSl fun T2 w8 ht2 h => ?_
        have h : Hp O w w8 (({ q with T := T2 } : WH).all b { a.m with sets := upd1 (upd1 a.m.sets e none) e (some (setI (p.set r (some v)))) } (tSl s' 2 1 iv (flat (p.set r (some v)))) ++ [tEmp, tBlk pb 40 [.int .i64 ((r + 1 : Nat) : Int), .slice sv.a sv.len sv.cap], tBlk eb 43 [.int .i64 e.1, .int .i64 e.2]] ++ [tSl sv 2 1 iv v]) := h
        rw [upd_upd] at ht2
        refine hK w8 (fin (W_shut (rest := [_]) (m := { a.m with sets := upd1 (upd1 a.m.sets e none) e (some (setI (p.set r (some v)))) }) (q := { q with T := T2 }) hok' ?_ hk rfl ?_ h.cutMid))
        · show Tabs a.ks (upd1 a.row e (some (p.set r (some v)))) (fun x => (upd1 a.row e (some (p.set r (some v))) x).map setI) _
          rw [upd_sets, ← hk]
          have : upd1 (upd1 a.m.sets e none) e (some (setI (p.set r (some v)))) = upd1 (fun x => (a.row x).map setI) e ((some (p.set r (some v))).map setI) := by rw [upd_updI]; rfl
          rw [← this]
          exact ht2
        · show upd1 (upd1 a.m.sets e none) e _ = _
          rw [upd_updI]
          exact (upd_sets a.row e (some (p.set r (some v)))).symm
      · have hg : a.add e (((r + 1 : Nat) : Int), v) = (a, 63) := by
          unfold WA.add; dsimp only; rw [hask, if_neg (by simp), if_neg hh, if_pos hn]
        rw [hg] at hK
        exact ifT (by simp; omega) (hK w3 (same h))

end
end Go.Proofs.Ytcccjgmekakabaa.FW
end

section
set_option linter.unusedSimpArgs false
set_option linter.unusedVariables false
set_option maxRecDepth 100000
namespace Go.Proofs.Ytcccjgmekakabaa.FW
open Go.Proofs.Ytcccjgmekakabaa.F
open Go Go.Den Go.Proofs
open Go.Proofs.Ytcccjgmekakabaa.FI (PoolM tPool)
open Go.Proofs.Ytcccjgmekakabaa.FT (TabM tTab Ent entV ent ent_len atI keyEnt iv iv_len)
section
variable {S : List Nat} {w0 w : World} {its : List Thing}
/-- clear of a piece of a row. -/
theorem clear_raw {P : Program} {w : World} {b : Nat} {e : TypeId} {c : List Value} (hb : Blk w b e c) {off m cap : Nat} {t ty : TypeId} {inf : TypeInfo} {z : Value} {K : Value → World → Prop}
    (ht : P.underlying t = some (.slice e)) (hinf : P.info? e = some inf) (hz : inf.zero = some z) (hzc : z.cells = #[z]) (h1 : z.oneCell' = true) (hm : 0 < m) (hroom : off + m ≤ c.length)
    (hK : ∀ v w', Blk w' b e (c.take off ++ List.replicate m z ++ c.drop (off + m)) → Fr [b] w w' → K v w') :
    Run .v P (Builtin.clear_ #[t] ty #[.slice (some ⟨b, off, none⟩) m cap]) w K := by
  have hzl : (Builtin.zeroCells z.cells m).toList = List.replicate m z := by
    rw [hzc]
    simp [Builtin.zeroCells]
    apply List.ext_getElem
    · simp
    · intro i h1 h2
      simp [Nat.mod_one]
  have hst := run_storeCells_at P b off e (List.replicate m z) 0 c.toArray w hb (by simp only [List.size_toArray, List.length_replicate]; omega) (fun v hv => by rw [List.eq_of_mem_replicate hv]; exact h1)
  have hv : ∀ w, (zeroValue e).run P w = .ok z w := fun w => by simp [zeroValue, typeInfo, hinf, hz]
  refine ⟨.tuple #[], w.setRow b (c.take off ++ List.replicate m z ++ c.drop (off + (List.replicate m z).length)).toArray, ?_, hK _ _ ?_ ⟨rfl, rfl, rfl, by simp, fun q _ hq => setRow_other w b q _ (fun e => hq (by simp [e]))⟩⟩
  · simp only [Nat.add_zero] at hst
    obtain ⟨m', rfl⟩ : ∃ m', m = m' + 1 := ⟨m - 1, by omega⟩
    simp [Builtin.clear_, run_underlying ht, hv, hzl, hst, Kd.inj]
  · have := setRow_heap w b c.toArray (c.take off ++ List.replicate m z ++ c.drop (off + (List.replicate m z).length)).toArray e _ hb
    rw [List.length_replicate] at this
    rw [List.length_replicate]
    exact this

set_option maxHeartbeats 2000000 in
theorem Delete_spec (h : Hp S w0 w its) (idx : Nat) {s : Sl} {l : List Int} (hi : its[idx]? = some (tSl s 2 1 iv l)) {i j : Nat} (hij : i ≤ j) (hj : j ≤ l.length) (hl : l.length ≤ 1000000) {K : Sl → World → Prop}
    (hK : ∀ s' w', Hp S w0 w' (its.set idx (tSl s' 2 1 iv (l.take i ++ l.drop j))) → K s' w') : c56 s (i : Int) (j : Int) w K := by
  refine c56_of ?_
  unfold f56
  obtain ⟨inf, q1, q2, q3, q4⟩ := FT.inf2
  have hsl := h.len (s := s) idx (by rw [hi]; rfl)
  have hsc := h.cap (s := s) idx (by rw [hi]; rfl)
  refine ⟨by omega, by omega, by omega, by simp only []; omega, ?_⟩
  by_cases hz : i = j
  · refine ifT (by simp [hz]) (hK s w ?_)
    subst hz
    rw [List.take_append_drop, Hp.set_same hi]; exact h
  refine ifF (by simp; omega) ?_
  obtain ⟨O, hO, back⟩ := h.step hi rfl
  obtain ⟨b, off, c, ha, ho, hbk, _, hoff, htk⟩ : ∃ b off c, s.a = some ⟨b, off, none⟩ ∧ O = [b] ∧ Blk w b 2 c ∧ s.len ≤ s.cap ∧ off + s.cap * 1 ≤ c.length ∧ (c.drop off).take (s.len * 1) = l.flatMap iv := by
    rcases hO.2 with ⟨_, h0, _⟩ | h
    · omega
    · exact h
  subst ho
  rw [Nat.mul_one] at hoff htk
  refine Go.Den.dr fun w1 hf1 _ hb1 => ?_
  have hbk1 := hb1 _ _ _ hbk
  have hS1 : SlF w1 s 2 1 iv l [b] := ⟨hsl, .inr ⟨b, off, c, ha, rfl, hbk1, hsc, by rw [Nat.mul_one]; exact hoff, by rw [Nat.mul_one]; exact htk⟩⟩
  have hS3 : SlF w1 ⟨some ⟨b, off, none⟩, i, s.cap⟩ 2 1 iv (l.take i) [b] := by
    refine ⟨by rw [List.length_take]; show min i l.length = i; omega, .inr ⟨b, off, c, rfl, rfl, hbk1, by show i ≤ s.cap; omega, by show off + s.cap * 1 ≤ _; omega, ?_⟩⟩
    show (c.drop off).take (i * 1) = _
    rw [Nat.mul_one, ← fm_take iv_len, ← htk, List.take_take, Nat.mul_one, Nat.min_eq_left (by omega)]
  refine Cut_mk ha (by omega) (by omega) (by omega) (Int.le_refl _) (by simp; omega) ?_
  have t0 : (0 : Int).toNat = 0 := rfl
  have t1 : ((i : Nat) : Int).toNat = i := Int.toNat_natCast _
  have t2 : ((s.cap : Nat) : Int).toNat = s.cap := Int.toNat_natCast _
  have t3 : ((j : Nat) : Int).toNat = j := Int.toNat_natCast _
  have t4 : ((s.len : Nat) : Int).toNat = s.len := Int.toNat_natCast _
  simp only [t0, t1, t2, Nat.add_zero, Nat.sub_zero]
  refine ⟨by omega, by omega, by omega, by simp only []; omega, ?_⟩
  simp only [t2, t3, t4, ha]
  have hcell : ∀ x : Addr, (s.len - j ≠ 0 → x = ⟨b, off + j, none⟩) → ∀ p u, ((l.drop j).flatMap iv)[p]? = some u → w1.cell? (x.add p) = some u := by
    intro x hx p u hp
    have hpl := (List.getElem?_eq_some_iff.1 hp).1
    rw [iv_fml, List.length_drop] at hpl
    rw [hx (by omega), Addr.add_none, hbk1.cell]
    have : c[off + j + p]? = (l.flatMap iv)[j + p]? := by
      rw [← htk, List.getElem?_take, if_pos (by omega), List.getElem?_drop]; congr 1; omega
    rw [this]
    have hjd : (l.drop j).flatMap iv = (l.flatMap iv).drop j := by
      have := fm_drop iv_len l j
      rw [Nat.mul_one] at this; exact this.symm
    rw [hjd, List.getElem?_drop] at hp
    exact hp
  have main : ∀ x : Addr, (s.len - j ≠ 0 → x = ⟨b, off + j, none⟩) → Run .sl Try.prog (Builtin.append_ #[38, 38] 38 #[.slice (some ⟨b, off, none⟩) i s.cap, .slice (some x) (s.len - j) (s.cap - j)]) w1 fun (s5 : Sl) (w : World) =>
      Cut ⟨s5.a, s5.len, s5.cap⟩ (s5.len : Int) (s.len : Int) (s5.cap : Int) 1 fun (s6 : Sl) =>
      Run .v Try.prog (Builtin.clear_ #[38] 0 #[.slice s6.a s6.len s6.cap]) w fun (n_ : Value) (w : World) => K s5 w := by
    intro x hx
    refine SlF.app_in (s := ⟨some ⟨b, off, none⟩, i, s.cap⟩) (m := s.len - j) (news := l.drop j) iv_len FT.und34 q1 q3 hS3 (by rw [List.length_drop]; omega) (hcell x hx) (fun u hu => by
      obtain ⟨y, _, hy⟩ := List.mem_flatMap.1 hu
      simp only [iv, List.mem_singleton] at hy
      subst hy; rfl) (by simp) (by simp only []; omega) fun w2 hS5 hf2 => ?_
    simp only []
    obtain ⟨c2, hbk2, hoff2, htk2⟩ : ∃ c2, Blk w2 b 2 c2 ∧ off + s.cap ≤ c2.length ∧ (c2.drop off).take (i + (s.len - j)) = (l.take i ++ l.drop j).flatMap iv := by
      rcases hS5.2 with ⟨h0, _⟩ | ⟨b', off', c', h0, ho, g1, g2, g3, g4⟩
      · cases h0
      · injection h0 with h0
        injection h0 with h0 h0'
        subst h0 h0'
        exact ⟨c', g1, by simpa using g3, by simpa using g4⟩
    refine Cut_mk (b := b) (off := off) rfl (by omega) (by omega) (by omega) (Int.le_refl _) (by simp only [Int.toNat_natCast]; omega) ?_
    have t5 : ((i + (s.len - j) : Nat) : Int).toNat = i + (s.len - j) := Int.toNat_natCast _
    simp only [t4, t5]
    refine clear_raw hbk2 FT.und34 q1 q2 rfl rfl (by omega) (by omega) fun v w3 hbk3 hf3 => ?_
    have hfw : Fr [b] w w3 := ((hf1.mono (S' := [b]) (by simp)).trans hf2 (fun k hk => .inl hk)).trans hf3 (fun k hk => .inl hk)
    refine hK _ w3 (back hfw (t' := tSl ⟨some ⟨b, off, none⟩, i + (s.len - j), s.cap⟩ 2 1 iv (l.take i ++ l.drop j)) (O' := [b]) ?_ (fun k hk => .inl hk) rfl)
    refine ⟨hS5.1, .inr ⟨b, off, _, rfl, rfl, hbk3, by show i + (s.len - j) ≤ s.cap; omega, ?_, ?_⟩⟩
    · show off + s.cap * 1 ≤ _
      simp only [List.length_append, List.length_take, List.length_replicate, List.length_drop]
      omega
    · show List.take ((i + (s.len - j)) * 1) _ = _
      rw [Nat.mul_one, ← htk2, List.append_assoc, List.drop_append_of_le_length (by simp; omega), List.take_append_of_le_length (by simp; omega), List.drop_take]
      rw [show off + (i + (s.len - j)) - off = i + (s.len - j) by omega, List.take_take, Nat.min_self]
  by_cases hcj : s.cap = j
  · rw [if_pos hcj]
    exact main ⟨b, off, none⟩ (fun h0 => by omega)
  · rw [if_neg hcj]
    simp only [Option.map_some, Nat.mul_one, Addr.add_none]
    exact main ⟨b, off + j, none⟩ (fun _ => rfl)

def WA.remove (a : WA) (e : Ent) (kind : Int) : WA × Int :=
  if (a.ask e kind).2 ≠ 0 then (a, (a.ask e kind).2) else
  if (a.ask e kind).1.1.getD (a.ask e kind).1.2.1 none = none then (a, 62) else (a.put e ((a.ask e kind).1.1.set (a.ask e kind).1.2.1 none), 0)

set_option maxHeartbeats 4000000 in
theorem Remove_W (h : Hp S w0 w its) (i : Nat) {b : Nat} {a : WA} {e : Ent} {kind : Int} (hi : its[i]? = some (tW b a)) (k1 : -9223372036854775808 ≤ kind) (k2 : kind ≤ 9223372036854775807) {K : Int → World → Prop}
    (hK : ∀ w', Hp S w0 w' (its.set i (tW b (a.remove e kind).1)) → K (a.remove e kind).2 w') : c18 (some ⟨b, 0, none⟩) e.1 e.2 kind w K := by
  refine c18_of ?_
  unfold f18
  obtain ⟨O, h1, back⟩ := h.f1 hi rfl
  clear h
  obtain ⟨q, hok, ht, hk, h⟩ := W_open h1
  have hkl : (kinds q.xs).length = q.xs.length := by simp [kinds]
  have hal := hok.len
  have h12 : q.xs.length ≤ 12 := by rw [hk] at hkl; omega
  have h4k := hok.four
  have h4 : ∀ x ∈ q.xs, x.2.2.length ≤ 4 := fun x hx => h4k (x.1, x.2.2) (by rw [← hk]; exact List.mem_map.2 ⟨x, hx, rfl⟩)
  have fin : ∀ {w' : World} {a' : WA}, Hp O w w' [tW b a'] → Hp S w0 w' (its.set i (tW b a')) := fun {w' a'} h => by
    have := back (rest := []) rfl rfl h
    rwa [List.append_nil] at this
  refine h.nw (c := [_, _]) fun eb w1 h => ?_
  have h := h.up
  refine h.ld0 (k := .i .i64) (x := e.1) 8 rfl rfl ?_
  refine h.ld (n := 1) (k := .i .i64) (x := e.2) 8 rfl rfl ?_
  have same : ∀ {w3 : World}, Hp O w w3 (q.all b a.m tEmp ++ [tBlk eb 43 [.int .i64 e.1, .int .i64 e.2]]) → Hp S w0 w3 (its.set i (tW b a)) := fun {w3} h =>
    fin (W_shut (rest := []) hok ht hk rfl rfl (by rw [List.append_nil]; exact h.front))
  refine asked_W h hok ht hk k1 k2 fun w3 h => ⟨fun hr => ?_, fun p hr hf => ?_, fun p r k hr hkind hkr => ?_⟩
  · have hg : a.remove e kind = (a, 41) := by unfold WA.remove; rw [ask_none hr, if_pos (by decide)]
    rw [hg] at hK
    exact ifT rfl (hK w3 (same h))
  · have hg : a.remove e kind = (a, 60) := by unfold WA.remove; rw [ask_kind hr hf, if_pos (by decide)]
    rw [hg] at hK
    exact ifT rfl (hK w3 (same h))
  · subst hkind
    have hask := ask_some (a := a) (e := e) hr hkr
    refine ifF (by simp) ?_
    have hfit := ht.fit e p hr
    have hrl : r < p.length := by rw [hfit.1]; exact (List.getElem?_eq_some_iff.1 hkr).1
    have hp12 : p.length ≤ 12 := by rw [hfit.1]; omega
    have hs1 := setI_lt hp12
    have hs0 := setI_nn p
    cases hh : p.getD r none with
    | none =>
      have hg : a.remove e ((r + 1 : Nat) : Int) = (a, 62) := by unfold WA.remove; rw [hask, if_neg (by simp), if_pos hh]
      rw [hg] at hK
      exact ifT rfl (hK w3 (same h))
    | some v =>
      refine ifF (by simp) ?_
      have hpr := getD_some hh
      have hg : a.remove e ((r + 1 : Nat) : Int) = (a.put e (p.set r none), 0) := by
        unfold WA.remove; rw [hask, if_neg (by simp), if_neg (by rw [hh]; simp)]
      rw [hg] at hK
      have his : (a.row e).isSome = true := by rw [hr]; rfl
      have hok' := WA.put_ok hok his (flat_rngOff (hok.rng e p hr) r)
      refine at_spec h 0 2 3 (cells := [_, _, _]) rfl rfl rfl h12 h4 hs0 (by omega) (q := r) (by rw [hfit.1, ← hk, hkl] at hrl; omega) ?_
      rw [hk]
      refine h.ld0 (k := .i .i64) (x := e.1) 8 rfl rfl ?_
      refine h.ld (n := 1) (k := .i .i64) (x := e.2) 8 rfl rfl ?_
      refine leave_W h (row := a.row) (p := p) (by rw [hk]; exact ht) hr fun s T' w5 ht' h => ?_
      have h := h.up
      have hat := hfit.at (q := r) (by omega)
      have hall := hfit.all
      have hall4 := atF_le h4k (setI p) a.ks.length
      have hat4 := atF_le h4k (setI p) r
      have hvl := hfit.2 r v k hpr hkr
      have hv4 := h4k _ (List.mem_of_getElem? hkr)
      have hsum : atF a.ks (setI p) r + v.length ≤ (flat p).length := by rw [flat_split hpr, hat]; simp
      have hw : IntKind.i64.wrap (((atF a.ks (setI p) r : Nat) : Int) + (k.2.length : Int)) = ((atF a.ks (setI p) r + v.length : Nat) : Int) := by rw [wr64 (by omega) (by omega)]; omega
      rw [hw]
      refine Delete_spec h 8 (s := s) (l := flat p) rfl (Nat.le_add_right _ _) hsum (by omega) fun s' w6 h => ?_
      rw [← hfit.cut hpr] at h
      refine h.dr fun w7 h => ?_
      refine h.ld0 (k := .i .i64) (x := e.1) 9 rfl rfl ?_
      refine h.ld (n := 1) (k := .i .i64) (x := e.2) 9 rfl rfl ?_
      refine ⟨by omega, ?_⟩
      rw [setI_del hp12 hrl]
      have h : Hp O w w7 (({ q with T := T' } : WH).all b { a.m with sets := upd1 a.m.sets e none } tEmp ++ (tSl s' 2 1 iv (flat (p.set r none)) :: [tBlk eb 43 [.int .i64 e.1, .int .i64 e.2]])) := h
      have h := all_swap h
      have hfit' : PL.fit a.ks (p.set r none) := hfit.off r
      refine enter_W h (row := upd1 a.row e none) (e := e) (p := p.set r none) ht' (by show mayOk (kinds q.xs); rw [hk]; exact hok.may) (by unfold upd1; rw [if_pos rfl]) (by show PL.fit (kinds q.xs) _; rw [hk]; exact hfit') (gone_few hok his) Hp.rdSl fun T2 w8 ht2 h => ?_
      have h : Hp O w w8 (({ q with T := T2 } : WH).all b { a.m with sets := upd1 (upd1 a.m.sets e none) e (some (setI (p.set r none))) } (tSl s' 2 1 iv (flat (p.set r none))) ++ [tEmp, tBlk eb 43 [.int .i64 e.1, .int .i64 e.2]]) := h
      rw [upd_upd] at ht2
      refine hK w8 (fin (W_shut (rest := []) (m := { a.m with sets := upd1 (upd1 a.m.sets e none) e (some (setI (p.set r none))) }) (q := { q with T := T2 }) hok' ?_ hk rfl ?_ (by rw [List.append_nil]; exact h.front)))
      · show Tabs a.ks (upd1 a.row e (some (p.set r none))) (fun x => (upd1 a.row e (some (p.set r none)) x).map setI) _
        rw [upd_sets, ← hk]
        have : upd1 (upd1 a.m.sets e none) e (some (setI (p.set r none))) = upd1 (fun x => (a.row x).map setI) e ((some (p.set r none)).map setI) := by rw [upd_updI]; rfl
        rw [← this]
        exact ht2
      · show upd1 (upd1 a.m.sets e none) e _ = _
        rw [upd_updI]
        exact (upd_sets a.row e (some (p.set r none))).symm

end
end Go.Proofs.Ytcccjgmekakabaa.FW
end

section
set_option linter.unusedSimpArgs false
set_option linter.unusedVariables false
set_option maxRecDepth 100000
namespace Go.Proofs.Ytcccjgmekakabaa.FW
open Go.Proofs.Ytcccjgmekakabaa.F
open Go Go.Den Go.Proofs
open Go.Proofs.Ytcccjgmekakabaa.FI (PoolM tPool)
open Go.Proofs.Ytcccjgmekakabaa.FT (TabM tTab Ent entV ent ent_len atI keyEnt iv iv_len)
theorem Tabs.put {ks : KD} {row : Ent → Option PL} {sets : Ent → Option Int} {tabs : List (Int × TabM)} (h : Tabs ks row sets tabs) {e : Ent} {p p' : PL} (hr : row e = some p) (hfit : p'.fit ks) (hset : setI p' = setI p)
    {k r : Nat} {t t' : TabM} (hk : tabs[k]? = some (setI p, t)) (hrr : t.rows[r]? = some (e, flat p)) (hok : t'.Ok) (hn : t'.n = t.n) (hrows : t'.rows = t.rows.set r (e, flat p')) :
    Tabs ks (upd1 row e (some p')) sets (tabs.set k (setI p, t')) := by
  have hkl := (List.getElem?_eq_some_iff.1 hk).1
  have hrl := (List.getElem?_eq_some_iff.1 hrr).1
  have hmem := List.mem_of_getElem? hk
  obtain ⟨tk, tn, tne, tr⟩ := h.tok _ hmem
  have keyInj : ∀ {i j : Nat} {a b : Int × TabM}, tabs[i]? = some a → tabs[j]? = some b → a.1 = b.1 → i = j := fun {i j a b} hi hj he =>
    (List.getElem?_inj (i := i) (j := j) (l := tabs.map (·.1)) (by simpa using (List.getElem?_eq_some_iff.1 hi).1) h.nd).1 (by rw [List.getElem?_map, List.getElem?_map, hi, hj]; simp [he])
  have hin : ∀ x ∈ tabs.set k (setI p, t'), x = (setI p, t') ∨ (x ∈ tabs ∧ x.1 ≠ setI p) := by
    intro x hx
    obtain ⟨j, hj⟩ := List.getElem?_of_mem hx
    rw [List.getElem?_set] at hj
    by_cases hkj : k = j
    · subst hkj; simp only [if_true, if_pos hkl, Option.some.injEq] at hj; exact .inl hj.symm
    · rw [if_neg hkj] at hj
      exact .inr ⟨List.mem_of_getElem? hj, fun he => hkj (keyInj hk hj he.symm)⟩
  -- what is in the row's table
  have hrow : ∀ y ∈ t'.rows, y = (e, flat p') ∨ (y ∈ t.rows ∧ y.1 ≠ e) := by
    intro y hy
    rw [hrows] at hy
    obtain ⟨j, hj⟩ := List.getElem?_of_mem hy
    rw [List.getElem?_set] at hj
    by_cases hkj : r = j
    · subst hkj; simp only [if_true, if_pos hrl, Option.some.injEq] at hj; exact .inl hj.symm
    · rw [if_neg hkj] at hj
      refine .inr ⟨List.mem_of_getElem? hj, fun he => hkj ?_⟩
      exact (List.getElem?_inj (i := r) (j := j) (l := t.owners) (by unfold TabM.owners; simpa using hrl) tk.nd).1 (by unfold TabM.owners; rw [List.getElem?_map, List.getElem?_map, hrr, hj]; simp [he])
  refine ⟨?_, ?_, ?_, ?_, ?_⟩
  · rw [h.sets]
    funext x
    show (row x).map setI = (upd1 row e (some p') x).map setI
    unfold upd1
    split
    · rename_i hx; rw [hx, hr]; show some _ = some _; rw [hset]
    · rfl
  · have : (tabs.set k (setI p, t')).map (·.1) = tabs.map (·.1) := by
      rw [List.map_set]
      exact Hp.set_same' (by rw [List.getElem?_map, hk]; rfl)
    rw [this]; exact h.nd
  · intro x hx
    rcases hin x hx with rfl | ⟨hx, hxp⟩
    · refine ⟨hok, by rw [hn]; exact tn, fun e0 => ?_, fun y hy => ?_⟩
      · have e0 : t'.rows = [] := e0
        have := congrArg List.length (hrows.symm.trans e0)
        rw [List.length_set, List.length_nil] at this; omega
      · rcases hrow y hy with rfl | ⟨hy, hne⟩
        · exact ⟨p', by unfold upd1; rw [if_pos rfl], hset, rfl⟩
        · obtain ⟨p2, g1, g2, g3⟩ := tr y hy
          exact ⟨p2, by unfold upd1; rw [if_neg hne]; exact g1, g2, g3⟩
    · obtain ⟨a1, a2, a3, a4⟩ := h.tok x hx
      refine ⟨a1, a2, a3, fun y hy => ?_⟩
      obtain ⟨p2, g1, g2, g3⟩ := a4 y hy
      refine ⟨p2, ?_, g2, g3⟩
      unfold upd1
      rw [if_neg (fun he => by rw [he, hr] at g1; obtain rfl := Option.some.inj g1; exact hxp g2.symm)]; exact g1
  · intro e' p2 he'
    unfold upd1 at he'
    by_cases hee : e' = e
    · rw [if_pos hee] at he'
      obtain rfl := Option.some.inj he'
      subst hee
      exact ⟨t', List.mem_of_getElem? (i := k) (by rw [List.getElem?_set_self hkl, hset]), by rw [hrows]; exact List.mem_of_getElem? (i := r) (by rw [List.getElem?_set_self hrl])⟩
    · rw [if_neg hee] at he'
      obtain ⟨t2, h1, h2⟩ := h.has e' p2 he'
      by_cases hs : setI p2 = setI p
      · obtain ⟨j, hj⟩ := List.getElem?_of_mem h1
        have hkj := keyInj hk hj hs.symm
        subst hkj
        rw [hk] at hj
        obtain ⟨_, rfl⟩ := Prod.mk.inj (Option.some.inj hj)
        obtain ⟨j2, hj2⟩ := List.getElem?_of_mem h2
        refine ⟨t', List.mem_of_getElem? (i := k) (by rw [List.getElem?_set_self hkl, hs]), ?_⟩
        rw [hrows]
        exact List.mem_of_getElem? (i := j2) (by rw [List.getElem?_set_ne (fun e0 => by subst e0; rw [hrr] at hj2; have := Option.some.inj hj2; exact hee (by rw [Prod.mk.injEq] at this; exact this.1.symm))]; exact hj2)
      · obtain ⟨j, hj⟩ := List.getElem?_of_mem h1
        have hkj : k ≠ j := fun e0 => by subst e0; rw [hk] at hj; have := Option.some.inj hj; rw [Prod.mk.injEq] at this; exact hs this.1.symm
        exact ⟨t2, List.mem_of_getElem? (i := j) (by rw [List.getElem?_set_ne hkj]; exact hj), h2⟩
  · intro e' p2 he'
    unfold upd1 at he'
    by_cases hee : e' = e
    · rw [if_pos hee] at he'
      obtain rfl := Option.some.inj he'
      exact hfit
    · rw [if_neg hee] at he'
      exact h.fit e' p2 he'

theorem setI_same {p : PL} {r : Nat} {v0 : List Int} (hp : p[r]? = some (some v0)) (v : List Int) : setI (p.set r (some v)) = setI p := by
  unfold setI
  congr 1
  apply Nat.eq_of_testBit_eq
  intro j
  rw [setN_bit, setN_bit]
  show (((none :: p).set (r + 1) (some v)).getD j none).isSome = _
  rw [getD_setL]
  by_cases hj : r + 1 = j
  · subst hj
    have hl := (List.getElem?_eq_some_iff.1 hp).1
    rw [if_pos ⟨rfl, by simpa using hl⟩]
    show _ = (p.getD r none).isSome
    rw [List.getD_eq_getElem?_getD, hp]; rfl
  · rw [if_neg (fun h => hj h.1)]

theorem modify_set {α : Type} (l : List α) (r : Nat) (x : α) (f : α → α) : (l.set r x).modify r f = l.set r (f x) := by
  apply List.ext_getElem?
  intro j
  rw [List.getElem?_modify, List.getElem?_set, List.getElem?_set]
  by_cases hj : r = j
  · subst hj
    by_cases hl : r < l.length
    · simp [hl]
    · simp [hl]
  · simp [hj]

def WA.set (a : WA) (e : Ent) (x : Part) : WA × Int :=
  if (a.ask e x.1).2 ≠ 0 then (a, (a.ask e x.1).2) else
  if (a.ask e x.1).1.1.getD (a.ask e x.1).1.2.1 none = none then (a, 62) else
  if x.2.length ≠ (a.ask e x.1).1.2.2 then (a, 63) else (a.put e ((a.ask e x.1).1.1.set (a.ask e x.1).1.2.1 (some x.2)), 0)

/-- A table in whose row r another list stands. -/
def withRow (t : TabM) (r : Nat) (e : Ent) (l : List Int) : TabM := ⟨t.n, t.rows.set r (e, l)⟩

theorem withRow_ok {t : TabM} (h : t.Ok) {r : Nat} {e : Ent} {l0 l : List Int} (hr : t.rows[r]? = some (e, l0)) (hl : l.length = t.n) : (withRow t r e l).Ok := by
  have ho : (withRow t r e l).owners = t.owners := by
    unfold withRow TabM.owners
    dsimp only
    rw [List.map_set]
    apply List.ext_getElem?
    intro j
    rw [List.getElem?_set]
    split
    · rename_i hj
      subst hj
      have := (List.getElem?_eq_some_iff.1 hr).1
      rw [if_pos (by simpa using this), List.getElem?_map, hr]; rfl
    · rfl
  refine ⟨h.n48, by show (t.rows.set r (e, l)).length ≤ 200; rw [List.length_set]; exact h.r200, by rw [ho]; exact h.nd, fun y hy => ?_⟩
  obtain ⟨j, hj⟩ := List.getElem?_of_mem hy
  have hj : (t.rows.set r (e, l))[j]? = some y := hj
  rw [List.getElem?_set] at hj
  split at hj
  · split at hj
    · obtain rfl := Option.some.inj hj; exact hl
    · cases hj
  · exact h.len y (List.mem_of_getElem? hj)

theorem withRow_set {t : TabM} {r : Nat} {e : Ent} {l : List Int} {c : Nat} {x : Int} : (withRow t r e l).set r c x = withRow t r e (l.set c x) := by
  unfold withRow TabM.set
  dsimp only
  rw [modify_set]

theorem withRow_at {t : TabM} {r : Nat} {e : Ent} {l0 l : List Int} (hr : t.rows[r]? = some (e, l0)) {x : Ent} : atI (withRow t r e l) x = atI t x := by
  have ho : (withRow t r e l).owners = t.owners := by
    unfold withRow TabM.owners
    dsimp only
    rw [List.map_set]
    apply List.ext_getElem?
    intro j
    rw [List.getElem?_set]
    split
    · rename_i hj
      subst hj
      have := (List.getElem?_eq_some_iff.1 hr).1
      rw [if_pos (by simpa using this), List.getElem?_map, hr]; rfl
    · rfl
  unfold atI TabM.at_
  rw [ho]

section
variable {S : List Nat} {w0 w : World} {its : List Thing}
set_option maxHeartbeats 4000000 in
theorem Set_W (h : Hp S w0 w its) (i j : Nat) (hij : i ≠ j) {b : Nat} {a : WA} {e : Ent} {kind : Int} {u : Thing} {sv : Sl} {v : List Int} (hi : its[i]? = some (tW b a)) (hj : its[j]? = some u) (hu : Hp.Reads u sv 1 iv v) (k1 : -9223372036854775808 ≤ kind) (k2 : kind ≤ 9223372036854775807) (hvr : FP.R64 v) {K : Int → World → Prop}
    (hK : ∀ w', Hp S w0 w' (its.set i (tW b (a.set e (kind, v)).1)) → K (a.set e (kind, v)).2 w') : c27 (some ⟨b, 0, none⟩) e.1 e.2 kind sv w K := by
  refine c27_of ?_
  unfold f27
  obtain ⟨inf', r1, r2, r3, r4⟩ := inf121
  obtain ⟨O, h1, back⟩ := h.f1r hij hi hj rfl
  have hvl := h.lenU j (by rw [hj]; rfl) hu
  clear h
  obtain ⟨q, hok, ht, hk, h⟩ := W_open h1
  have hu : Hp.Reads u.ro sv 1 iv v := ⟨fun {w O} h => hu.rd h⟩
  have hkl : (kinds q.xs).length = q.xs.length := by simp [kinds]
  have hal := hok.len
  have h12 : q.xs.length ≤ 12 := by rw [hk] at hkl; omega
  have h4k := hok.four
  have h4 : ∀ x ∈ q.xs, x.2.2.length ≤ 4 := fun x hx => h4k (x.1, x.2.2) (by rw [← hk]; exact List.mem_map.2 ⟨x, hx, rfl⟩)
  have fin : ∀ {w' : World} {a' : WA}, Hp O w w' [tW b a'] → Hp S w0 w' (its.set i (tW b a')) := fun {w' a'} h => by
    have := back (rest := []) rfl rfl h
    rwa [List.append_nil] at this
  refine h.nw (c := [_, _]) fun eb w1 h => ?_
  have h := h.up
  refine h.nw (c := [_, _]) fun pb w2 h => ?_
  have h := h.up
  refine h.ld0 (k := .i .i64) (x := e.1) 9 rfl rfl ?_
  refine h.ld (n := 1) (k := .i .i64) (x := e.2) 9 rfl rfl ?_
  refine h.ld0 (k := .i .i64) (x := kind) 8 rfl rfl ?_
  have same : ∀ {w3 : World}, Hp O w w3 (q.all b a.m tEmp ++ (tBlk pb 40 [.int .i64 kind, .slice sv.a sv.len sv.cap] :: tBlk eb 43 [.int .i64 e.1, .int .i64 e.2] :: [u.ro])) → Hp S w0 w3 (its.set i (tW b a)) := fun {w3} h =>
    fin (W_shut (rest := []) hok ht hk rfl rfl (by rw [List.append_nil]; exact h.front))
  refine asked_W h hok ht hk k1 k2 fun w3 h => ⟨fun hr => ?_, fun p hr hf => ?_, fun p r kk hr hkind hkr => ?_⟩
  · have hg : a.set e (kind, v) = (a, 41) := by unfold WA.set; rw [ask_none hr, if_pos (by decide)]
    rw [hg] at hK
    exact ifT rfl (hK w3 (same h))
  · have hg : a.set e (kind, v) = (a, 60) := by unfold WA.set; rw [ask_kind hr hf, if_pos (by decide)]
    rw [hg] at hK
    exact ifT rfl (hK w3 (same h))
  · subst hkind
    have hask := ask_some (a := a) (e := e) hr hkr
    refine ifF (by simp) ?_
    have hfit := ht.fit e p hr
    have hrl : r < p.length := by rw [hfit.1]; exact (List.getElem?_eq_some_iff.1 hkr).1
    have hp12 : p.length ≤ 12 := by rw [hfit.1]; omega
    have hs1 := setI_lt hp12
    have hs0 := setI_nn p
    cases hh : p.getD r none with
    | none =>
      have hg : a.set e (((r + 1 : Nat) : Int), v) = (a, 62) := by unfold WA.set; dsimp only; rw [hask, if_neg (by simp), if_pos hh]
      rw [hg] at hK
      exact ifT rfl (hK w3 (same h))
    | some v0 =>
      refine ifF (by simp) ?_
      have hpr := getD_some hh
      refine h.ld (n := 1) (k := .sl) (x := sv) 8 rfl rfl ?_
      by_cases hn : v.length = kk.2.length
      · refine ifF (by simp; omega) ?_
        have hg : a.set e (((r + 1 : Nat) : Int), v) = (a.put e (p.set r (some v)), 0) := by
          unfold WA.set; dsimp only; rw [hask, if_neg (by simp), if_neg (by rw [hh]; simp), if_neg (by simpa using hn)]
        rw [hg] at hK
        have his : (a.row e).isSome = true := by rw [hr]; rfl
        have hok' := WA.put_ok hok his (flat_rng (hok.rng e p hr) r hvr)
        have hfit' : PL.fit a.ks (p.set r (some v)) := hfit.set hkr hn
        obtain ⟨k, rr, t, hkt, tk, hat, hrr⟩ := ht.find hr
        unfold WH.tabs at hkt
        rw [List.getElem?_map] at hkt
        obtain ⟨⟨s0, tb, t0⟩, hkT, he⟩ := Option.map_eq_some_iff.1 hkt
        obtain ⟨rfl, rfl⟩ := Prod.mk.inj he
        dsimp only at tk hat hrr hkt
        have hnd : (q.T.map (·.1)).Nodup := by have := ht.nd; unfold WH.tabs at this; rw [List.map_map] at this; exact this
        have hv0 := hfit.2 r v0 kk hpr hkr
        have hatp := hfit.at (q := r) (by omega)
        have hfs := flat_split hpr
        have hfs' : flat (p.set r (some v)) = flat (p.take r) ++ (v ++ flat (p.drop (r + 1))) := flat_set (some v) hrl
        have htn : t0.n = (flat p).length := by
          have := tk.len _ (List.mem_of_getElem? hrr)
          exact this.symm
        have hn48 := tk.n48
        have hr200 := tk.r200
        have hrrl := (List.getElem?_eq_some_iff.1 hrr).1
        have hv4 := h4k _ (List.mem_of_getElem? hkr)
        generalize hA : flat (p.take r) = A at hatp hfs hfs'
        generalize hR : flat (p.drop (r + 1)) = R at hfs hfs'
        have hfs : flat p = A ++ (v0 ++ R) := hfs
        refine nns ?_
        refine h.ld (n := 3) (k := .m) (x := some q.mt) 0 rfl rfl ?_
        refine h.lookup1 (kd := .p) (vk := fun tb => some ⟨tb, 0, none⟩) (z := (none : Option Addr)) (ek := Value.int .i64) (ev := pv) (g := tptr q.T) (k := setI p) 6 rfl rfl und99 key3 r1 r2 (fun _ => rfl) ?_
        rw [tptr_at hnd hkT]
        dsimp only
        refine h.ld (n := 1) (k := .sl) (x := sv) 8 rfl rfl ?_
        have hk0 : q.T.set k (setI p, tb, withRow t0 rr e (A ++ ((v.take 0 ++ v0.drop 0) ++ R))) = q.T := by
          rw [List.take_zero, List.drop_zero, List.nil_append, ← hfs]
          refine Hp.set_same' ?_
          rw [hkT]
          have : withRow t0 rr e (flat p) = t0 := by
            unfold withRow
            rw [Hp.set_same' hrr]
          rw [this]
        refine ⟨fun t46 mm w' => ∃ (n : Nat), t46 = n ∧ n ≤ v.length ∧ mm = v.length - n ∧ Hp O w w' (({ q with T := q.T.set k (setI p, tb, withRow t0 rr e (A ++ ((v.take n ++ v0.drop n) ++ R))) } : WH).all b a.m tEmp ++ [tBlk pb 40 [.int .i64 ((r + 1 : Nat) : Int), .slice sv.a sv.len sv.cap], tBlk eb 43 [.int .i64 e.1, .int .i64 e.2], u.ro]), ⟨v.length, 0, rfl, by omega, rfl, by rw [hk0]; exact h⟩, ?_⟩
        clear h
        rintro t46 mm w4 ⟨n, rfl, hnn, rfl, h⟩
        by_cases hlt : n < v.length
        · refine ifT (by simp; omega) ?_
          refine h.ixldU (k := .i .i64) (u := u.ro) (y := v[n]) (x := v[n]) 10 rfl hu (by omega) (by simp [hlt]) iv_len rfl ?_
          refine h.dr fun w5 h => ?_
          refine h.ld0 (k := .i .i64) (x := e.1) 9 rfl rfl ?_
          refine h.ld (n := 1) (k := .i .i64) (x := e.2) 9 rfl rfl ?_
          refine h.ld0 (k := .i .i64) (x := ((r + 1 : Nat) : Int)) 8 rfl rfl ?_
          have hkl2 := (List.getElem?_eq_some_iff.1 hkT).1
          have hln : (A ++ ((v.take n ++ v0.drop n) ++ R)).length = t0.n := by
            rw [htn, hfs]
            simp only [List.length_append, List.length_take, List.length_drop]
            omega
          refine tFind h 7 rfl (k := k) (set := setI p) (tb := tb) (t := withRow t0 rr e (A ++ ((v.take n ++ v0.drop n) ++ R))) (by rw [List.getElem?_set_self hkl2]) (by rw [withRow_at hrr]; exact hat) fun w6 h => ?_
          refine ⟨h.cel0 8 rfl rfl, ?_⟩
          refine at_spec h 0 2 3 (cells := [_, _, _]) rfl rfl rfl h12 h4 hs0 (by omega) (q := r) (by show r ≤ q.xs.length; rw [hfit.1, ← hk, hkl] at hrl; omega) ?_
          show c65 _ _ (IntKind.i64.wrap (((atF (kinds q.xs) (setI p) r : Nat) : Int) + (n : Int))) _ _ _
          rw [hk, hatp]
          have hfl : A.length + v.length ≤ t0.n := by rw [htn, hfs]; simp only [List.length_append]; omega
          have hw : IntKind.i64.wrap (((A.length : Nat) : Int) + (n : Int)) = ((A.length + n : Nat) : Int) := by rw [wr64 (by omega) (by omega)]; omega
          rw [hw]
          have hmk : ((q.T.set k (setI p, tb, withRow t0 rr e (A ++ ((v.take n ++ v0.drop n) ++ R)))).map tT)[k]? = some (tTab tb (withRow t0 rr e (A ++ ((v.take n ++ v0.drop n) ++ R)))) := by
            rw [List.getElem?_map, List.getElem?_set_self hkl2]; rfl
          have h := h.pick (i := 7) (k := k) rfl hmk rfl
          refine FT.Set_spec h 11 (m := withRow t0 rr e (A ++ ((v.take n ++ v0.drop n) ++ R))) (withRow_ok tk hrr hln) rfl fun w7 h => ?_
          have hcell : (withRow t0 rr e (A ++ ((v.take n ++ v0.drop n) ++ R))).cellE (rr : Int) ((A.length + n : Nat) : Int) = 0 := by
            refine FT.cellE_iff.2 ⟨⟨by omega, ?_⟩, by omega, ?_⟩
            · show (rr : Int) < ((t0.rows.set rr _).length : Nat)
              rw [List.length_set]; omega
            · show ((A.length + n : Nat) : Int) < (t0.n : Nat)
              omega
          have hset : (withRow t0 rr e (A ++ ((v.take n ++ v0.drop n) ++ R))).setM (rr : Int) ((A.length + n : Nat) : Int) v[n] = withRow t0 rr e (A ++ ((v.take (n + 1) ++ v0.drop (n + 1)) ++ R)) := by
            unfold TabM.setM
            rw [if_pos hcell, Int.toNat_natCast, Int.toNat_natCast, withRow_set]
            congr 1
            rw [List.set_append_right _ _ (by omega), Nat.add_sub_cancel_left, List.set_append_left _ _ (by simp; omega), FI.tk_set (by omega) (by simp [hlt])]
          rw [hset] at h
          have h := h.unpick (i := 7) (j := 11) (k := k) (ts := ((q.T.set k (setI p, tb, withRow t0 rr e (A ++ ((v.take n ++ v0.drop n) ++ R)))).map tT).set k tEmp) (t := tT (setI p, tb, withRow t0 rr e (A ++ ((v.take (n + 1) ++ v0.drop (n + 1)) ++ R)))) (by decide) rfl rfl (by rw [List.getElem?_set_self (by simpa using hkl2)]) rfl
          rw [List.set_set, ← List.map_set, List.set_set] at h
          refine ⟨v.length - (n + 1), by omega, n + 1, by rw [wr64 (by omega) (by omega)]; omega, by omega, rfl, ?_⟩
          have ep : tptr (q.T.set k (setI p, tb, withRow t0 rr e (A ++ ((v.take n ++ v0.drop n) ++ R)))) = tptr (q.T.set k (setI p, tb, withRow t0 rr e (A ++ ((v.take (n + 1) ++ v0.drop (n + 1)) ++ R)))) := by
            rw [tptr_set hkT, tptr_set hkT]
          have h : Hp O w w7 ([q.blk b, tEmp, tSl q.sk 94 2 kdv q.xs, tAll (q.xs.map tF), tPool 149 q.pb a.m.pool, tMp q.ms entV (Value.int .i64) a.m.sets, tMp q.mt (Value.int .i64) pv (tptr (q.T.set k (setI p, tb, withRow t0 rr e (A ++ ((v.take n ++ v0.drop n) ++ R))))), tAll ((q.T.set k (setI p, tb, withRow t0 rr e (A ++ ((v.take (n + 1) ++ v0.drop (n + 1)) ++ R)))).map tT)] ++ [tBlk pb 40 [.int .i64 ((r + 1 : Nat) : Int), .slice sv.a sv.len sv.cap], tBlk eb 43 [.int .i64 e.1, .int .i64 e.2], u.ro] ++ [tEmp]) := h
          rw [ep] at h
          exact h.front
        · refine ifF (by simp; omega) ?_
          obtain rfl : n = v.length := by omega
          rw [List.take_length, show v.length = v0.length by omega, List.drop_length, List.append_nil, ← hfs'] at h
          refine hK w4 (fin (W_shut (rest := []) (m := a.m) (q := { q with T := q.T.set k (setI p, tb, withRow t0 rr e (flat (p.set r (some v)))) }) hok' ?_ hk rfl ?_ (by rw [List.append_nil]; exact h.front)))
          · have hln : (flat (p.set r (some v))).length = t0.n := by
              rw [htn, hfs', hfs]; simp only [List.length_append]; omega
            have := ht.put hr hfit' (setI_same hpr v) (k := k) (r := rr) (t := t0) (t' := withRow t0 rr e (flat (p.set r (some v)))) (by unfold WH.tabs; rw [List.getElem?_map, hkT]; rfl) hrr (withRow_ok tk hrr hln) rfl rfl
            have es : (a.put e (p.set r (some v))).m.sets = a.m.sets := by
              have := this.sets
              exact this.symm
            rw [es]
            unfold WH.tabs
            rw [List.map_set]
            exact this
          · have := (ht.put hr hfit' (setI_same hpr v) (k := k) (r := rr) (t := t0) (t' := withRow t0 rr e (flat (p.set r (some v)))) (by unfold WH.tabs; rw [List.getElem?_map, hkT]; rfl) hrr (withRow_ok tk hrr (by rw [htn, hfs', hfs]; simp only [List.length_append]; omega)) rfl rfl).sets
            exact this
      · have hg : a.set e (((r + 1 : Nat) : Int), v) = (a, 63) := by
          unfold WA.set; dsimp only; rw [hask, if_neg (by simp), if_neg (by rw [hh]; simp), if_pos hn]
        rw [hg] at hK
        exact ifT (by simp; omega) (hK w3 (same h))

end
end Go.Proofs.Ytcccjgmekakabaa.FW
end

section
set_option linter.unusedSimpArgs false
set_option linter.unusedVariables false
set_option maxRecDepth 100000
namespace Go.Proofs.Ytcccjgmekakabaa.FW
open Go.Proofs.Ytcccjgmekakabaa.F
open Go Go.Den Go.Proofs
open Go.Proofs.Ytcccjgmekakabaa.FI (PoolM tPool)
open Go.Proofs.Ytcccjgmekakabaa.FT (TabM tTab Ent entV ent ent_len atI keyEnt iv iv_len)
open Go.Proofs.Ytcccjgmekakabaa.FP (putU zig encZ rowU tB putU_len encZ_len R64)
def snapRow (p : PL) : List Int := putU (setI p) ++ encZ (flat p)

/-- What Snapshot writes. -/
def WA.snap (a : WA) : List Int := rowU a.pool.stGens ++ rowU a.pool.free ++ a.all.flatMap fun e => snapRow ((a.row e).getD [])

theorem rowU_len (l : List Int) : (rowU l).length ≤ 21 + 10 * l.length := by
  have h1 := putU_len l.length
  have h2 := FP.bestU_len l
  unfold rowU
  rw [List.length_append]
  split
  · simp only [List.length_nil]; omega
  · omega

theorem enc_partsU (p : PL) : ∀ k, k ≤ p.length → (partsU p k).flatMap (fun x => encZ x.2) = encZ (flat (p.take k))
  | 0, _ => by simp [partsU, flat, encZ]
  | k + 1, hk => by
    have ih := enc_partsU p k (by omega)
    have hp : p[k]? = some p[k] := by simp [show k < p.length by omega]
    rw [partsU, List.flatMap_append, ih, flat_take hp]
    have ha : ∀ a b : List Int, encZ (a ++ b) = encZ a ++ encZ b := fun a b => by unfold encZ; rw [List.flatMap_append]
    rw [ha]
    congr 1
    have : p.getD k none = p[k] := by rw [List.getD_eq_getElem?_getD, hp]; rfl
    rw [this]
    cases p[k] with
    | none => rfl
    | some v => simp

theorem enc_parts (p : PL) : (partsOf p).flatMap (fun x => encZ x.2) = encZ (flat p) := by
  unfold partsOf
  rw [enc_partsU p p.length (Nat.le_refl _), List.take_length]

section
variable {S : List Nat} {w0 w : World} {its : List Thing}
theorem longs_spec (h : Hp S w0 w its) (j : Nat) {u : Thing} {s : Sl} {l : List Int} (hj : its[j]? = some u) (hu : Hp.Reads u s 1 iv l) (hl : l.length ≤ 1000000000) {K : Sl → World → Prop} (hK : ∀ r w', Hp S w0 w' (its ++ [tSl r 2 1 iv l]) → K r w') : c52 s w K := by
  refine c52_of ?_
  unfold f52
  obtain ⟨inf, q1, q2, q3, q4⟩ := FT.inf2
  have hlt0 := (List.getElem?_eq_some_iff.1 hj).1
  have hsl := h.lenU j (by rw [hj]; rfl) hu
  have h := h.nil 2 1 iv
  refine ⟨fun out t8 mm w' => ∃ k : Nat, t8 = k ∧ k ≤ l.length ∧ mm = l.length - k ∧ Hp S w0 w' (its ++ [tSl out 2 1 iv (l.take k)]), ⟨l.length, 0, rfl, by omega, rfl, h⟩, ?_⟩
  clear h
  rintro out t8 mm w2 ⟨k, rfl, hk, rfl, h⟩
  have hol := h.len (s := out) its.length (by rw [List.getElem?_concat_length]; rfl)
  rw [List.length_take] at hol
  by_cases hlt : k < l.length
  · refine ifT (by simp; omega) ?_
    refine h.ixldU (k := .i .i64) (u := u) (y := l[k]) (x := l[k]) j (by rw [List.getElem?_append_left hlt0, hj]; rfl) hu (by omega) (by simp [hlt]) iv_len rfl ?_
    refine h.nwapp its.length (l[k]) (c := [_]) List.getElem?_concat_length iv_len FT.und34 q1 q3 q2 rfl rfl (by simp [iv, Value.oneCell']) (by rw [q4]; omega) (by omega) fun out2 w3 h _ _ => ?_
    rw [set_last, ← List.take_succ_eq_append_getElem hlt] at h
    exact ⟨l.length - (k + 1), by omega, k + 1, by rw [wr64 (by omega) (by omega)]; omega, by omega, rfl, h⟩
  · refine ifF (by simp; omega) ?_
    rw [List.take_of_length_le (by omega)] at h
    exact hK out w2 h

theorem stGens_rng {m : PoolM} (hm : m.Ok) : R64 m.stGens ∧ m.stGens.length ≤ 200 ∧ R64 m.free ∧ m.free.length ≤ 200 := by
  have h200 := hm.len200
  refine ⟨fun x hx => ?_, by unfold PoolM.stGens; rw [List.length_mapIdx]; exact h200, fun x hx => ?_, FI.Ok.free200 hm⟩
  · unfold PoolM.stGens at hx
    obtain ⟨i, hi, rfl⟩ := List.mem_mapIdx.1 hx
    have := hm.gens _ (List.getElem_mem hi)
    split <;> omega
  · have := hm.free x hx
    omega

set_option maxHeartbeats 4000000 in
theorem Snapshot_o {b : Nat} {a : WA} {q : WH} {u : Thing} (h : Hp S w0 w (q.all b a.m u)) (hok : a.Ok) (ht : Tabs a.ks a.row a.m.sets q.tabs) (hk : kinds q.xs = a.ks) {K : Sl → World → Prop}
    (hK : ∀ s w', Hp S w0 w' (q.all b a.m u ++ [tB s a.snap]) → K s w') : c16 (some ⟨b, 0, none⟩) w K := by
  refine c16_of ?_
  unfold f16
  obtain ⟨inf', z1, z2, z3, z4⟩ := FT.inf3
  obtain ⟨g1, g2, g3, g4⟩ := stGens_rng hok.pok
  have hl12 := hok.len
  have h4k := hok.four
  refine nns ?_
  refine h.ld (n := 1) (k := .p) (x := some ⟨q.pb, 0, none⟩) 0 rfl rfl ?_
  refine FI.State_h h 4 (m := a.pool) hok.pok rfl fun gs fs w1 h => ?_
  have h : Hp S w0 w1 (q.all b a.m u ++ [tSl gs 3 1 iv a.pool.stGens, tSl fs 3 1 iv a.pool.free]) := h
  refine longs_spec h 8 (u := tSl gs 3 1 iv a.pool.stGens) rfl Hp.rdSl (by omega) fun r w2 h => ?_
  have h := h.nil 5 1 u8v
  have h : Hp S w0 w2 (q.all b a.m u ++ [tSl gs 3 1 iv a.pool.stGens, tSl fs 3 1 iv a.pool.free, tSl r 2 1 iv a.pool.stGens, tB ⟨none, 0, 0⟩ []]) := by
    simpa using h
  have l1 := rowU_len a.pool.stGens
  have l2 := rowU_len a.pool.free
  refine FP.PutRow_spec h 11 10 rfl Hp.rdSl rfl Hp.rdSl g1 (by omega) (by simp) fun r2 w3 h => ?_
  rw [List.nil_append] at h
  have h : Hp S w0 w3 (q.all b a.m u ++ [tSl gs 3 1 iv a.pool.stGens, tSl fs 3 1 iv a.pool.free, tSl r 2 1 iv a.pool.stGens, tB ⟨none, 0, 0⟩ []] ++ [tB r2 (rowU a.pool.stGens)]) := h
  refine longs_spec h 9 (u := tSl fs 3 1 iv a.pool.free) rfl Hp.rdSl (by omega) fun r3 w4 h => ?_
  refine FP.PutRow_spec h 12 13 rfl Hp.rdSl rfl Hp.rdSl g3 (by omega) (by omega) fun b0 w5 h => ?_
  have h : Hp S w0 w5 (q.all b a.m u ++ [tSl gs 3 1 iv a.pool.stGens, tSl fs 3 1 iv a.pool.free, tSl r 2 1 iv a.pool.stGens, tB ⟨none, 0, 0⟩ [], tB r2 (rowU a.pool.stGens), tSl r3 2 1 iv a.pool.free] ++ [tB b0 (rowU a.pool.stGens ++ rowU a.pool.free)]) := h
  have h := h.cutMid
  refine Rows_o h hok ht hk fun r4 w6 h => ?_
  obtain ⟨xs, hxs, h⟩ := h.nest_open (i := 9) (e := 65) (n := 3) (cells := rdv) (sub := tPs) (vis := rvis) (s := r4) (l := a.rows) rfl
  obtain ⟨pre, hpre⟩ : ∃ pre, pre = rowU a.pool.stGens ++ rowU a.pool.free := ⟨_, rfl⟩
  have hprel : pre.length ≤ 5000 := by rw [hpre, List.length_append]; omega
  have h : Hp S w0 w6 (q.all b a.m u ++ [tB b0 (pre ++ []), tSl r4 65 3 rdv xs, tAll (xs.map tPs)]) := by
    rw [List.append_nil, hpre]; exact h
  have hrl := h.len (s := r4) 9 rfl
  have hxl : xs.length = a.all.length := by
    have := congrArg List.length hxs
    unfold WA.rows at this
    simpa using this
  have hal : a.all.length ≤ 200 := by
    have h1 := PoolM.allU_len a.pool a.pool.gens.length
    have h2 := hok.pok.len200
    show (a.pool.allU a.pool.gens.length).length ≤ 200
    omega
  obtain ⟨acc, hacc⟩ : ∃ acc : Nat → List Int, acc = fun k => (a.all.take k).flatMap fun e => snapRow ((a.row e).getD []) := ⟨_, rfl⟩
  have haccl : ∀ k, (acc k).length ≤ 490 * k := by
    intro k
    rw [hacc]
    induction k with
    | zero => simp
    | succ k ih =>
      dsimp only at ih ⊢
      by_cases hkl : k < a.all.length
      · rw [List.take_succ_eq_append_getElem hkl, List.flatMap_append, List.length_append]
        obtain ⟨p, hr⟩ := all_lives hok (List.getElem_mem hkl)
        simp only [List.flatMap_cons, List.flatMap_nil, List.append_nil, hr]
        unfold snapRow
        rw [List.length_append]
        have e1 := putU_len (setI p)
        have e2 := encZ_len (flat p)
        have e3 := (ht.fit _ p hr).all
        have e4 := atF_le h4k (setI p) a.ks.length
        have e5 : (putU (setI p)).length + (encZ (flat p)).length ≤ 490 := by omega
        have e6 : 490 * (k + 1) = 490 * k + 490 := rfl
        rw [e6]
        exact Nat.add_le_add ih e5
      · rw [List.take_of_length_le (by omega)]
        rw [List.take_of_length_le (by omega)] at ih
        omega
  refine ⟨fun b2 t29 mm w' => ∃ k : Nat, t29 = k ∧ k ≤ xs.length ∧ mm = xs.length - k ∧ Hp S w0 w' (q.all b a.m u ++ [tB b2 (pre ++ acc k), tSl r4 65 3 rdv xs, tAll (xs.map tPs)]), ⟨xs.length, 0, rfl, by omega, rfl, by rw [hacc]; exact h⟩, ?_⟩
  clear h
  rintro b2 t29 mm w7 ⟨k, rfl, hkk, rfl, h⟩
  by_cases hlt : k < xs.length
  · refine ifT (by simp; omega) ?_
    have hx : xs[k]? = some xs[k] := by simp [hlt]
    have hak : a.all[k]? = some (a.all[k]'(by omega)) := by simp [show k < a.all.length by omega]
    have hvis : rvis xs[k] = a.rowT (a.all[k]'(by omega)) := by
      have h1 : (xs.map rvis)[k]? = some (rvis xs[k]) := by rw [List.getElem?_map, hx]; rfl
      rw [hxs] at h1
      unfold WA.rows at h1
      rw [List.getElem?_map, hak] at h1
      exact (Option.some.inj h1).symm
    obtain ⟨p, hr⟩ := all_lives hok (List.getElem_mem (show k < a.all.length by omega))
    have hstep : acc (k + 1) = acc k ++ (putU (setI p) ++ encZ (flat p)) := by
      rw [hacc]
      dsimp only
      rw [List.take_succ_eq_append_getElem (show k < a.all.length by omega), List.flatMap_append]
      simp only [List.flatMap_cons, List.flatMap_nil, List.append_nil, hr]
      rfl
    generalize xs[k] = x at hx hvis
    generalize a.all[k]'(by omega) = e0 at hak hvis hr
    obtain ⟨e, ps, parts⟩ := x
    unfold rvis WA.rowT at hvis
    obtain ⟨rfl, hparts⟩ := Prod.mk.inj hvis
    rw [hr] at hparts
    have hparts : parts = partsOf p := hparts
    subst hparts
    have hfit := ht.fit e p hr
    have hp12 : p.length ≤ 12 := by rw [hfit.1]; omega
    have hs1 := setI_lt hp12
    have hs0 := setI_nn p
    have hset : a.m.sets e = some (setI p) := by show (a.row e).map setI = _; rw [hr]; rfl
    have hrng := hok.rng e p hr
    have hfl48 : (flat p).length ≤ 48 := by
      have := atF_le h4k (setI p) a.ks.length
      rw [hfit.all]; omega
    have hak2 := haccl k
    refine h.ixr (s := r4) (l := xs) (f := rdv) (n := 3) (e := 65) 9 rfl (by omega) (by rw [Int.toNat_natCast]; exact hx) rdv_len fun ad hc => ?_
    refine ldR0 (k := .i .i64) (x := e.1) (hc 0 (by omega)) rfl ?_
    refine ldR (k := .i .i64) (x := e.2) (hc 1 (by omega)) rfl ?_
    refine ldR (k := .sl) (x := ps) (hc 2 (by omega)) rfl ?_
    refine h.nw (c := [_, _, _]) fun rb w8 h => ?_
    have h := h.up
    refine h.st0 8 rfl (by simp) rfl fun w9 h => ?_
    refine h.st (n := 1) 8 rfl (by simp) rfl fun w10 h => ?_
    refine h.st (n := 2) 8 rfl (by simp) rfl fun w11 h => ?_
    have h : Hp S w0 w11 (q.all b a.m u ++ (tBlk rb 65 [.int .i64 e.1, .int .i64 e.2, .slice ps.a ps.len ps.cap] :: [tB b2 (pre ++ acc k), tSl r4 65 3 rdv xs, tAll (xs.map tPs)])) := h
    refine h.dr fun w12 h => ?_
    refine nns ?_
    refine h.ld (n := 2) (k := .m) (x := some q.ms) 0 rfl rfl ?_
    refine h.ld0 (k := .i .i64) (x := e.1) 8 rfl rfl ?_
    refine h.ld (n := 1) (k := .i .i64) (x := e.2) 8 rfl rfl ?_
    refine h.lookup1 (kd := .i .i64) (vk := id) (z := (0 : Int)) (ek := entV) (ev := Value.int .i64) (g := a.m.sets) (k := e) 5 rfl rfl und98 keyEnt z1 z2 (fun _ => rfl) ?_
    rw [hset]
    dsimp only [id_eq]
    rw [FP.w64, Int.emod_eq_of_lt hs0 (by omega)]
    refine FP.Put_spec h 9 rfl Hp.rdSl hs0 (by omega) (by rw [List.length_append]; omega) fun b3 w13 h => ?_
    have h := h.up
    have h : Hp S w0 w13 ((q.all b a.m u ++ [tB b3 (pre ++ acc k ++ putU (setI p)), tBlk rb 65 [.int .i64 e.1, .int .i64 e.2, .slice ps.a ps.len ps.cap]]) ++ [tB b2 (pre ++ acc k)] ++ [tSl r4 65 3 rdv xs, tAll (xs.map tPs)]) := h
    have h := h.cutMid
    refine h.ld (n := 2) (k := .sl) (x := ps) 9 rfl rfl ?_
    have h := h.pick (i := 11) (k := k) (t := tPs (e, ps, partsOf p)) rfl (by rw [List.getElem?_map, hx]; rfl) rfl
    obtain ⟨ys, hys, h⟩ := h.nest_open (i := 12) (e := 40) (n := 2) (cells := pdv) (sub := tV) (vis := pvis) (s := ps) (l := partsOf p) rfl
    obtain ⟨pre2, hpre2⟩ : ∃ pre2, pre2 = pre ++ acc k ++ putU (setI p) := ⟨_, rfl⟩
    have hpre2l : pre2.length ≤ 200000 := by
      have := putU_len (setI p)
      rw [hpre2, List.length_append, List.length_append]; omega
    obtain ⟨T', hT'⟩ : ∃ T', T' = tAll ((xs.map tPs).set k tEmp) := ⟨_, rfl⟩
    have h : Hp S w0 w13 (q.all b a.m u ++ [tB b3 (pre2 ++ []), tBlk rb 65 [.int .i64 e.1, .int .i64 e.2, .slice ps.a ps.len ps.cap], tSl r4 65 3 rdv xs, T', tSl ps 40 2 pdv ys, tAll (ys.map tV)]) := by
      rw [List.append_nil, hpre2, hT']; exact h
    have hpsl := h.len (s := ps) 12 rfl
    have hyl : ys.length = (partsOf p).length := by rw [← hys, List.length_map]
    have hpl12 : (partsOf p).length ≤ 12 := by have := partsU_len p p.length; unfold partsOf; omega
    have htotal := enc_parts p
    have hy4 : ∀ y ∈ partsOf p, y.2.length ≤ 48 ∧ R64 y.2 := by
      intro y hy
      have : ∀ k, ∀ y ∈ partsU p k, some y.2 ∈ p := by
        intro k
        induction k with
        | zero => simp [partsU]
        | succ k ih =>
          intro y hy
          rw [partsU] at hy
          rcases List.mem_append.1 hy with hy | hy
          · exact ih y hy
          · split at hy
            · rename_i v hv
              simp only [List.mem_singleton] at hy
              subst hy
              exact List.mem_of_getElem? (getD_some hv)
            · cases hy
      have hm := this _ y hy
      refine ⟨?_, fun z hz => hrng z (List.mem_flatMap.2 ⟨some y.2, hm, hz⟩)⟩
      obtain ⟨i, hi⟩ := List.getElem?_of_mem hm
      have := flat_split hi
      have hl := congrArg List.length this
      simp only [List.length_append, Option.getD_some] at hl
      omega
    obtain ⟨accP, haccP⟩ : ∃ accP : Nat → List Int, accP = fun j => ((partsOf p).take j).flatMap fun x => encZ x.2 := ⟨_, rfl⟩
    have haccPl : ∀ j, (accP j).length ≤ 480 * j := by
      intro j
      rw [haccP]
      induction j with
      | zero => simp
      | succ j ih =>
        dsimp only at ih ⊢
        by_cases hjl : j < (partsOf p).length
        · rw [List.take_succ_eq_append_getElem hjl, List.flatMap_append, List.length_append]
          simp only [List.flatMap_cons, List.flatMap_nil, List.append_nil]
          have e1 := encZ_len ((partsOf p)[j]).2
          have e2 := (hy4 _ (List.getElem_mem hjl)).1
          omega
        · rw [List.take_of_length_le (by omega)]
          rw [List.take_of_length_le (by omega)] at ih
          omega
    refine ⟨fun b4 t46 mm2 w' => ∃ j : Nat, t46 = j ∧ j ≤ ys.length ∧ mm2 = ys.length - j ∧ Hp S w0 w' (q.all b a.m u ++ [tB b4 (pre2 ++ accP j), tBlk rb 65 [.int .i64 e.1, .int .i64 e.2, .slice ps.a ps.len ps.cap], tSl r4 65 3 rdv xs, T', tSl ps 40 2 pdv ys, tAll (ys.map tV)]), ⟨ys.length, 0, rfl, by omega, rfl, by rw [haccP]; exact h⟩, ?_⟩
    clear h
    rintro b4 t46 mm2 w14 ⟨j, rfl, hjj, rfl, h⟩
    by_cases hjlt : j < ys.length
    · refine ifT (by simp; omega) ?_
      have hy : ys[j]? = some ys[j] := by simp [hjlt]
      have hpj : (partsOf p)[j]? = some (pvis ys[j]) := by rw [← hys, List.getElem?_map, hy]; rfl
      generalize ys[j] = y at hy hpj
      obtain ⟨kd, sv, v⟩ := y
      have hpj : (partsOf p)[j]? = some (kd, v) := hpj
      have hstepP : accP (j + 1) = accP j ++ encZ v := by
        rw [haccP]
        dsimp only
        have hjl := (List.getElem?_eq_some_iff.1 hpj).1
        have hje := (List.getElem?_eq_some_iff.1 hpj).2
        rw [List.take_succ_eq_append_getElem hjl, List.flatMap_append, hje]
        simp
      have hv := hy4 _ (List.mem_of_getElem? hpj)
      have haj := haccPl j
      have hv1 : v.length ≤ 48 := hv.1
      refine h.ixr (s := ps) (l := ys) (f := pdv) (n := 2) (e := 40) 12 rfl (by omega) (by rw [Int.toNat_natCast]; exact hy) pdv_len fun ad2 hc2 => ?_
      refine ldR0 (k := .i .i64) (x := kd) (hc2 0 (by omega)) rfl ?_
      refine ldR (k := .sl) (x := sv) (hc2 1 (by omega)) rfl ?_
      refine h.nw (c := [_, _]) fun pb w15 h => ?_
      have h := h.up
      refine h.st0 8 rfl (by simp) rfl fun w16 h => ?_
      refine h.st (n := 1) 8 rfl (by simp) rfl fun w17 h => ?_
      have h : Hp S w0 w17 (q.all b a.m u ++ [tBlk pb 40 [.int .i64 kd, .slice sv.a sv.len sv.cap], tB b4 (pre2 ++ accP j ++ encZ (v.take 0)), tBlk rb 65 [.int .i64 e.1, .int .i64 e.2, .slice ps.a ps.len ps.cap], tSl r4 65 3 rdv xs, T', tSl ps 40 2 pdv ys, tAll (ys.map tV)]) := by
        have e0 : encZ (v.take 0) = [] := rfl
        rw [e0, List.append_nil]; exact h
      have hrd : Hp.Reads (tAll (ys.map tV)) sv 1 iv v := ⟨fun {w O} hO => by
        obtain ⟨O1, O2, g, _⟩ := tAll_pick (k := j) (t := tV (kd, sv, v)) (by rw [List.getElem?_map, hy]; rfl) hO
        exact ⟨O1, SlF.toR g⟩⟩
      have hvl := h.lenU 14 (u := tAll (ys.map tV)) rfl hrd
      refine h.ld (n := 1) (k := .sl) (x := sv) 8 rfl rfl ?_
      refine ⟨fun b5 t53 mm3 w' => ∃ i : Nat, t53 = i ∧ i ≤ v.length ∧ mm3 = v.length - i ∧ Hp S w0 w' (q.all b a.m u ++ [tBlk pb 40 [.int .i64 kd, .slice sv.a sv.len sv.cap], tB b5 (pre2 ++ accP j ++ encZ (v.take i)), tBlk rb 65 [.int .i64 e.1, .int .i64 e.2, .slice ps.a ps.len ps.cap], tSl r4 65 3 rdv xs, T', tSl ps 40 2 pdv ys, tAll (ys.map tV)]), ⟨v.length, 0, rfl, by omega, rfl, h⟩, ?_⟩
      clear h
      rintro b5 t53 mm3 w18 ⟨i, rfl, hii, rfl, h⟩
      by_cases hilt : i < v.length
      · refine ifT (by simp; omega) ?_
        have hvi : v[i]? = some v[i] := by simp [hilt]
        have hsz : encZ (v.take (i + 1)) = encZ (v.take i) ++ putU (zig v[i]) := by
          unfold encZ
          rw [List.take_succ_eq_append_getElem hilt, List.flatMap_append]; simp
        have hvr := hv.2 v[i] (List.getElem_mem hilt)
        have hel := encZ_len (v.take i)
        rw [List.length_take] at hel
        generalize v[i] = z at hvi hsz hvr
        refine h.ixldU (k := .i .i64) (u := tAll (ys.map tV)) (y := z) (x := z) 14 rfl hrd (by omega) (by rw [Int.toNat_natCast]; exact hvi) iv_len rfl ?_
        refine FP.PutInt_spec h 9 rfl Hp.rdSl hvr.1 hvr.2 (by rw [List.length_append, List.length_append]; omega) fun b6 w19 h => ?_
        have h := h.up
        have h : Hp S w0 w19 ((q.all b a.m u ++ [tB b6 (pre2 ++ accP j ++ encZ (v.take i) ++ putU (zig z)), tBlk pb 40 [.int .i64 kd, .slice sv.a sv.len sv.cap]]) ++ [tB b5 (pre2 ++ accP j ++ encZ (v.take i))] ++ [tBlk rb 65 [.int .i64 e.1, .int .i64 e.2, .slice ps.a ps.len ps.cap], tSl r4 65 3 rdv xs, T', tSl ps 40 2 pdv ys, tAll (ys.map tV)]) := h
        have h := h.cutMid
        have h : Hp S w0 w19 (q.all b a.m u ++ [tB b6 (pre2 ++ accP j ++ encZ (v.take i) ++ putU (zig z))] ++ [tBlk pb 40 [.int .i64 kd, .slice sv.a sv.len sv.cap]] ++ [tBlk rb 65 [.int .i64 e.1, .int .i64 e.2, .slice ps.a ps.len ps.cap], tSl r4 65 3 rdv xs, T', tSl ps 40 2 pdv ys, tAll (ys.map tV)]) := h
        have h := h.mid
        refine ⟨v.length - (i + 1), by omega, i + 1, by rw [wr64 (by omega) (by omega)]; omega, by omega, rfl, ?_⟩
        rw [hsz, ← List.append_assoc]
        exact h
      · refine ifF (by simp; omega) ?_
        rw [List.take_of_length_le (by omega)] at h
        have h : Hp S w0 w18 (q.all b a.m u ++ [tBlk pb 40 [.int .i64 kd, .slice sv.a sv.len sv.cap]] ++ [tB b5 (pre2 ++ accP j ++ encZ v), tBlk rb 65 [.int .i64 e.1, .int .i64 e.2, .slice ps.a ps.len ps.cap], tSl r4 65 3 rdv xs, T', tSl ps 40 2 pdv ys, tAll (ys.map tV)]) := h
        have h := h.cutMid
        refine ⟨ys.length - (j + 1), by omega, j + 1, by rw [wr64 (by omega) (by omega)]; omega, by omega, rfl, ?_⟩
        rw [hstepP, ← List.append_assoc]
        exact h
    · refine ifF (by simp; omega) ?_
      have haP : accP j = encZ (flat p) := by
        rw [haccP]
        dsimp only
        rw [List.take_of_length_le (by omega), htotal]
      rw [haP, hT'] at h
      have h := h.nest_close (i := 12) (j := 13) (e := 40) (n := 2) (cells := pdv) (sub := tV) (vis := pvis) (s := ps) (xs := ys) (l := partsOf p) (by decide) rfl rfl hys
      have hkx : k < (xs.map tPs).length := by simpa using hlt
      have h := h.unpick (i := 11) (j := 12) (k := k) (ts := (xs.map tPs).set k tEmp) (t := tPs (e, ps, partsOf p)) (by decide) rfl rfl (by rw [List.getElem?_set_self hkx]) rfl
      rw [List.set_set] at h
      have eb : (xs.map tPs).set k (tPs (e, ps, partsOf p)) = xs.map tPs := Hp.set_same' (by rw [List.getElem?_map, hx]; rfl)
      rw [eb] at h
      have h : Hp S w0 w14 (q.all b a.m u ++ [tB b4 (pre2 ++ encZ (flat p)), tBlk rb 65 [.int .i64 e.1, .int .i64 e.2, .slice ps.a ps.len ps.cap], tSl r4 65 3 rdv xs, tAll (xs.map tPs)] ++ [tEmp, tEmp]) := h
      have h := h.front
      have h : Hp S w0 w14 ((q.all b a.m u ++ [tB b4 (pre2 ++ encZ (flat p))]) ++ [tBlk rb 65 [.int .i64 e.1, .int .i64 e.2, .slice ps.a ps.len ps.cap]] ++ [tSl r4 65 3 rdv xs, tAll (xs.map tPs)]) := h
      have h := h.cutMid
      refine ⟨xs.length - (k + 1), by omega, k + 1, by rw [wr64 (by omega) (by omega)]; omega, by omega, rfl, ?_⟩
      rw [hstep]
      rw [hpre2] at h
      simp only [List.append_assoc] at h ⊢
      exact h
  · refine ifF (by simp; omega) ?_
    have hfin : pre ++ acc k = a.snap := by
      rw [hpre, hacc]
      dsimp only
      rw [List.take_of_length_le (by omega)]
      rfl
    rw [hfin] at h
    have h : Hp S w0 w7 (q.all b a.m u ++ [tB b2 a.snap] ++ [tSl r4 65 3 rdv xs, tAll (xs.map tPs)]) := h
    exact hK b2 w7 h.front

theorem Snapshot_W (h : Hp S w0 w its) (i : Nat) {b : Nat} {a : WA} (hi : its[i]? = some (tW b a)) {K : Sl → World → Prop}
    (hK : ∀ s w', Hp S w0 w' (its ++ [tB s a.snap]) → K s w') : c16 (some ⟨b, 0, none⟩) w K := by
  obtain ⟨O, h1, back⟩ := h.f1 hi rfl
  clear h
  obtain ⟨q, hok, ht, hk, h⟩ := W_open h1
  rw [List.append_nil] at h
  refine Snapshot_o h hok ht hk fun s w' h => ?_
  exact hK s w' (W_fin hi back rfl (W_shut (rest := [_]) (m := a.m) hok ht hk rfl rfl h))

end
end Go.Proofs.Ytcccjgmekakabaa.FW
end

section
set_option linter.unusedSimpArgs false
set_option linter.unusedVariables false
set_option maxRecDepth 100000
namespace Go.Proofs.Ytcccjgmekakabaa.FW
open Go.Proofs.Ytcccjgmekakabaa.F
open Go Go.Den Go.Proofs
open Go.Proofs.Ytcccjgmekakabaa.FI (PoolM tPool pk)
open Go.Proofs.Ytcccjgmekakabaa.FT (TabM tTab Ent entV ent ent_len atI keyEnt iv iv_len)
open Go.Proofs.Ytcccjgmekakabaa.FP (putU zig encZ rowU tB putU_len encZ_len R64)
def kvis (x : KS) : ByteArray × List ByteArray := (x.1, x.2.2)

def tKinds (s : Sl) (l : KD) : Thing := tNest 94 2 kdv tF kvis s l

def WA.new (ks : KD) : WA := ⟨ks, ⟨200, [], [], []⟩, fun _ => none⟩

theorem WA.new_ok {ks : KD} (h : mayOk ks) : (WA.new ks).Ok := by
  refine ⟨FI.ok2_new (by decide) (by decide), rfl, h, fun e => ?_, fun e p hp => by cases hp⟩
  show false = PoolM.is ⟨200, [], [], []⟩ e.1 e.2
  unfold PoolM.is PoolM.lives
  simp

def usualK : KD := [(⟨#[80, 111, 115]⟩, [⟨#[120]⟩, ⟨#[121]⟩]), (⟨#[86, 101, 108]⟩, [⟨#[120]⟩]), (⟨#[68, 101, 97, 100]⟩, []), (⟨#[66, 111, 120]⟩, [⟨#[97]⟩, ⟨#[98]⟩, ⟨#[99]⟩, ⟨#[100]⟩])]

theorem words_of {L : List ByteArray} (h : (L.all fun x => decide (wordOk (strL x))) = true) (hn : L.Nodup) : wordsOk L := fun i hi => by
  refine ⟨of_decide_eq_true (List.all_eq_true.1 h _ (List.getElem_mem hi)), fun hm => ?_⟩
  obtain ⟨j, hj, he⟩ := List.mem_iff_getElem.1 hm
  rw [List.getElem_take] at he
  have := (List.getElem?_inj (i := j) (j := i) (by simp at hj; omega) hn).1 (by simp only [List.getElem?_eq_getElem (show j < L.length by simp at hj; omega), List.getElem?_eq_getElem hi, he])
  simp at hj; omega

theorem usual_may : mayOk usualK := by
  refine ⟨fun x hx => ?_, by decide, by decide, words_of (by decide) (by decide)⟩
  simp only [usualK, List.mem_cons, List.not_mem_nil, or_false] at hx
  rcases hx with rfl | rfl | rfl | rfl
  · exact ⟨by decide, words_of (by decide) (by decide)⟩
  · exact ⟨by decide, words_of (by decide) (by decide)⟩
  · exact ⟨by decide, words_of (by decide) (by decide)⟩
  · exact ⟨by decide, words_of (by decide) (by decide)⟩

section
variable {S : List Nat} {w0 w : World} {its : List Thing}
theorem New_W (h : Hp S w0 w its) (i : Nat) {s : Sl} {l : KD} (hi : its[i]? = some (tKinds s l)) (hl : l.length ≤ 1000000) (hsz : ∀ x ∈ l, x.1.size ≤ 1000000000000 ∧ ∀ y ∈ x.2, y.size ≤ 1000000000000) {K : Option Addr → Int → World → Prop}
    (hok : mayOk l → ∀ b w', Hp S w0 w' (its ++ [tW b (WA.new l)]) → K (some ⟨b, 0, none⟩) 0 w') (hno : ¬ mayOk l → ∀ w', Hp S w0 w' its → K none 65 w') : c10 s w K := by
  have hil := (List.getElem?_eq_some_iff.1 hi).1
  obtain ⟨xs, hxs, h⟩ := h.nest_open hi
  have hk : kinds xs = l := hxs
  have hxl : xs.length = l.length := by rw [← hxs, List.length_map]
  have e1 : (its.set i (tSl s 94 2 kdv xs) ++ [tAll (xs.map tF)])[i]? = some (tSl s 94 2 kdv xs) := by
    rw [List.getElem?_append_left (by simpa using hil), List.getElem?_set_self hil]
  have e2 : (its.set i (tSl s 94 2 kdv xs) ++ [tAll (xs.map tF)])[its.length]? = some (tAll (xs.map tF)) := by
    rw [List.getElem?_append_right (by simp)]; simp
  have back : ∀ {w' : World} {more : List Thing}, Hp S w0 w' (its.set i (tSl s 94 2 kdv xs) ++ [tAll (xs.map tF)] ++ more) → Hp S w0 w' (its ++ more) := fun {w' more} h => by
    have h := h.nest_close (i := i) (j := its.length) (e := 94) (n := 2) (cells := kdv) (sub := tF) (vis := kvis) (s := s) (xs := xs) (l := l) (by omega) (by rw [List.getElem?_append_left (by simp; omega)]; exact e1) (by rw [List.getElem?_append_left (by simp)]; exact e2) hxs
    have e3 : ((its.set i (tSl s 94 2 kdv xs) ++ [tAll (xs.map tF)] ++ more).set i (tNest 94 2 kdv tF kvis s l)).set its.length tEmp = its ++ [tEmp] ++ more := by
      rw [List.append_assoc, List.set_append_left _ _ (by simpa using hil), List.set_set, List.set_append_right _ _ (by simp), Hp.set_same' (x := tNest 94 2 kdv tF kvis s l) hi]
      simp
    rw [e3] at h
    exact h.cutMid
  refine New_spec h i its.length e1 e2 (by omega) (fun x hx => ?_) (fun hm b w' h => ?_) (fun hm w' h => ?_)
  · have := hsz (x.1, x.2.2) (by rw [← hk]; exact List.mem_map.2 ⟨x, hx, rfl⟩)
    exact this
  · rw [hk] at hm h
    refine hok hm b w' ?_
    have h := back h
    have h := h.putAnd (i := its.length) (p := (WA.new l).Ok ∧ Tabs l (fun _ => none) (WA.new l).m.sets []) ⟨WA.new_ok hm, Tabs.new l⟩ List.getElem?_concat_length rfl
    rw [set_last] at h
    have h := h.putEx (i := its.length) (f := fun T : List (Int × TabM) => tAnd ((WA.new l).Ok ∧ Tabs (WA.new l).ks (WA.new l).row (WA.new l).m.sets T) (tWorld b ⟨(WA.new l).ks, (WA.new l).pool, (WA.new l).m.sets, T⟩)) [] List.getElem?_concat_length rfl
    rw [set_last] at h
    exact h
  · rw [hk] at hm
    refine hno hm w' ?_
    have h : Hp S w0 w' (its.set i (tSl s 94 2 kdv xs) ++ [tAll (xs.map tF)] ++ []) := by rw [List.append_nil]; exact h
    have := back h
    rwa [List.append_nil] at this

theorem usual_spec (h : Hp S w0 w its) {K : Sl → World → Prop} (hK : ∀ s w', Hp S w0 w' (its ++ [tKinds s usualK]) → K s w') : c11 w K := by
  refine c11_of ?_
  unfold f11
  refine h.nwS (l := [(⟨#[120]⟩ : ByteArray), ⟨#[121]⟩]) (f := sv) (n := 1) (c := [_, _]) rfl rfl sv_len fun b1 w1 h => ?_
  refine h.nwS (l := [(⟨#[120]⟩ : ByteArray)]) (f := sv) (n := 1) (c := [_]) rfl rfl sv_len fun b2 w2 h => ?_
  have h := h.nil 9 1 sv
  refine h.nwS (l := [(⟨#[97]⟩ : ByteArray), ⟨#[98]⟩, ⟨#[99]⟩, ⟨#[100]⟩]) (f := sv) (n := 1) (c := [_, _, _, _]) rfl rfl sv_len fun b3 w3 h => ?_
  refine h.nwS (l := [((⟨#[80, 111, 115]⟩, ⟨some ⟨b1, 0, none⟩, 2, 2⟩, [⟨#[120]⟩, ⟨#[121]⟩]) : KS), (⟨#[86, 101, 108]⟩, ⟨some ⟨b2, 0, none⟩, 1, 1⟩, [⟨#[120]⟩]), (⟨#[68, 101, 97, 100]⟩, ⟨none, 0, 0⟩, []), (⟨#[66, 111, 120]⟩, ⟨some ⟨b3, 0, none⟩, 4, 4⟩, [⟨#[97]⟩, ⟨#[98]⟩, ⟨#[99]⟩, ⟨#[100]⟩])]) (f := kdv) (n := 2) (c := [_, _, _, _, _, _, _, _]) rfl rfl kdv_len fun b4 w4 h => ?_
  have h : Hp S w0 w4 (its ++ [tSl ⟨some ⟨b1, 0, none⟩, 2, 2⟩ 9 1 sv [⟨#[120]⟩, ⟨#[121]⟩], tSl ⟨some ⟨b2, 0, none⟩, 1, 1⟩ 9 1 sv [⟨#[120]⟩], tSl ⟨none, 0, 0⟩ 9 1 sv [], tSl ⟨some ⟨b3, 0, none⟩, 4, 4⟩ 9 1 sv [⟨#[97]⟩, ⟨#[98]⟩, ⟨#[99]⟩, ⟨#[100]⟩]] ++ [tSl ⟨some ⟨b4, 0, none⟩, 4, 4⟩ 94 2 kdv [((⟨#[80, 111, 115]⟩, ⟨some ⟨b1, 0, none⟩, 2, 2⟩, [⟨#[120]⟩, ⟨#[121]⟩]) : KS), (⟨#[86, 101, 108]⟩, ⟨some ⟨b2, 0, none⟩, 1, 1⟩, [⟨#[120]⟩]), (⟨#[68, 101, 97, 100]⟩, ⟨none, 0, 0⟩, []), (⟨#[66, 111, 120]⟩, ⟨some ⟨b3, 0, none⟩, 4, 4⟩, [⟨#[97]⟩, ⟨#[98]⟩, ⟨#[99]⟩, ⟨#[100]⟩])]]) := by
    simpa using h
  have h := h.swap2
  rw [List.append_assoc] at h
  exact hK _ w4 (h.nest_make (vis := kvis) (sub := tF) rfl)

/-- A part by raw numbers. -/
def fieldsN (k : Int) : Nat := [2, 1, 0, 4].getD k.toNat 0

def partL (what v : Int) : Part := (pk what 4 + 1, (List.range (fieldsN (pk what 4))).map fun i : Nat => IntKind.i64.wrap (v + i))

theorem partL_rng (what v : Int) : R64 (partL what v).2 := fun x hx => by
  obtain ⟨i, _, rfl⟩ := List.mem_map.1 hx
  exact ⟨wr64lo _, wr64hi _⟩

set_option maxHeartbeats 1000000 in
theorem part_spec (h : Hp S w0 w its) {what v : Int} (hw : -9223372036854775808 ≤ what) {K : Int → Sl → World → Prop} (hK : ∀ s w', Hp S w0 w' (its ++ [tSl s 2 1 iv (partL what v).2]) → K (partL what v).1 s w') : c13 what v w K := by
  refine c13_of ?_
  unfold f13
  obtain ⟨inf, q1, q2, q3, q4⟩ := FT.inf2
  refine h.nw (c := [_, _]) fun ab w1 h => ?_
  refine FI.pick_spec (by decide) ?_
  obtain ⟨p0, p4⟩ := FI.pk_range (c := what) (n := 4) hw (by decide)
  unfold partL at hK
  generalize pk what 4 = k at p0 p4 hK ⊢
  refine h.nw (c := [_, _]) fun pb w2 h => ?_
  have h := h.up (A := its)
  have hk1 : IntKind.i64.wrap (k + 1) = k + 1 := wr64 (by omega) (by omega)
  rw [hk1]
  have g0 : ∀ {l : List Thing} (j : Nat), (its ++ l)[its.length + j]? = l[j]? := fun {l} j => by rw [List.getElem?_append_right (by omega)]; simp
  have s0 : ∀ {l : List Thing} (j : Nat) (t : Thing), (its ++ l).set (its.length + j) t = its ++ l.set j t := fun {l} j t => by rw [List.set_append_right _ _ (by omega)]; simp
  refine h.st0 (its.length + 0) (by rw [g0]; rfl) (by simp) rfl fun w3 h => ?_
  rw [s0] at h
  refine h.st (n := 1) (its.length + 0) (by rw [g0]; rfl) (by simp) rfl fun w4 h => ?_
  rw [s0] at h
  have h : Hp S w0 w4 (its ++ [tBlk pb 40 [.int .i64 (k + 1), .slice none 0 0], tBlk ab 40 [.int .i64 0, .slice none 0 0]]) := h
  have h := (h.nil 2 1 iv).up (A := its)
  have hf4 : fieldsN k ≤ 4 := by
    unfold fieldsN
    obtain ⟨n, rfl⟩ : ∃ n : Nat, k = n := ⟨k.toNat, by omega⟩
    rw [Int.toNat_natCast]
    match n, p4 with
    | 0, _ => decide
    | 1, _ => decide
    | 2, _ => decide
    | 3, _ => decide
    | n + 4, p4 => omega
  refine ⟨fun i mm w' => ∃ (j : Nat) (s : Sl), i = j ∧ j ≤ fieldsN k ∧ mm = fieldsN k - j ∧ Hp S w0 w' (its ++ [tSl s 2 1 iv ((List.range j).map fun i : Nat => IntKind.i64.wrap (v + i)), tBlk pb 40 [.int .i64 (k + 1), .slice s.a s.len s.cap], tBlk ab 40 [.int .i64 0, .slice none 0 0]]), ⟨fieldsN k, 0, ⟨none, 0, 0⟩, rfl, by omega, rfl, h⟩, ?_⟩
  clear h
  rintro i mm w5 ⟨j, s, rfl, hj, rfl, h⟩
  refine h.nwS (l := [2, 1, 0, 4]) (f := iv) (n := 1) (c := [_, _, _, _]) rfl rfl iv_len fun bb w6 h => ?_
  have h := h.up (A := its)
  have hx : ([2, 1, 0, 4] : List Int)[k.toNat]? = some ((fieldsN k : Nat) : Int) := by
    unfold fieldsN
    obtain ⟨n, rfl⟩ : ∃ n : Nat, k = n := ⟨k.toNat, by omega⟩
    rw [Int.toNat_natCast]
    match n, p4 with
    | 0, _ => rfl
    | 1, _ => rfl
    | 2, _ => rfl
    | 3, _ => rfl
    | n + 4, p4 => omega
  refine h.ixld (k := .i .i64) (s := ⟨some ⟨bb, 0, none⟩, 4, 4⟩) (e := 3) (f := iv) (l := [2, 1, 0, 4]) (y := ((fieldsN k : Nat) : Int)) (x := ((fieldsN k : Nat) : Int)) (its.length + 0) (by rw [g0]; rfl) p0 hx iv_len rfl ?_
  have h : Hp S w0 w6 (its ++ [tSl ⟨some ⟨bb, 0, none⟩, 4, 4⟩ 3 1 iv [2, 1, 0, 4]] ++ [tSl s 2 1 iv ((List.range j).map fun i : Nat => IntKind.i64.wrap (v + i)), tBlk pb 40 [.int .i64 (k + 1), .slice s.a s.len s.cap], tBlk ab 40 [.int .i64 0, .slice none 0 0]]) := by simpa using h
  have h := h.cutMid
  have hsl := h.len (s := s) (e := 2) (n := 1) (f := iv) (l := (List.range j).map fun i : Nat => IntKind.i64.wrap (v + i)) (its.length + 0) (by rw [g0]; rfl)
  rw [List.length_map, List.length_range] at hsl
  by_cases hlt : j < fieldsN k
  · refine ifT (by simp; omega) ?_
    refine h.ld (n := 1) (k := .sl) (x := s) (its.length + 1) (by rw [g0]; rfl) rfl ?_
    refine h.nwapp (its.length + 0) (IntKind.i64.wrap (v + (j : Nat))) (c := [_]) (by rw [g0]; rfl) iv_len FT.und34 q1 q3 q2 rfl rfl (by simp [iv, Value.oneCell']) (by rw [q4]; omega) (by omega) fun s2 w7 h _ _ => ?_
    rw [s0] at h
    refine h.st (n := 1) (its.length + 1) (by rw [g0]; rfl) (by simp) rfl fun w8 h => ?_
    rw [s0] at h
    refine ⟨fieldsN k - (j + 1), by omega, j + 1, s2, by rw [wr64 (by omega) (by omega)]; omega, by omega, rfl, ?_⟩
    rw [List.range_succ, List.map_append]
    exact h
  · refine ifF (by simp; omega) ?_
    obtain rfl : j = fieldsN k := by omega
    refine h.ld0 (k := .i .i64) (x := k + 1) (its.length + 1) (by rw [g0]; rfl) rfl ?_
    refine h.ld (n := 1) (k := .sl) (x := s) (its.length + 1) (by rw [g0]; rfl) rfl ?_
    refine h.st0 (its.length + 2) (by rw [g0]; rfl) (by simp) rfl fun w7 h => ?_
    rw [s0] at h
    refine h.st (n := 1) (its.length + 2) (by rw [g0]; rfl) (by simp) rfl fun w8 h => ?_
    rw [s0] at h
    refine h.ld0 (k := .i .i64) (x := k + 1) (its.length + 2) (by rw [g0]; rfl) rfl ?_
    refine h.ld (n := 1) (k := .sl) (x := s) (its.length + 2) (by rw [g0]; rfl) rfl ?_
    have h : Hp S w0 w8 (its ++ [tSl s 2 1 iv ((List.range (fieldsN k)).map fun i : Nat => IntKind.i64.wrap (v + i))] ++ [tBlk pb 40 [.int .i64 (k + 1), .slice s.a s.len s.cap], tBlk ab 40 [.int .i64 (k + 1), .slice s.a s.len s.cap]]) := by simpa using h
    exact hK s w8 h.front

def exA : WA := ((WA.new usualK).spawn [(2, [7]), (1, [1, 2])]).1

def exB : WA := (exA.spawn []).1

def exC : WA := (exB.add (1, 1) (3, [])).1

def exD : WA := (exC.add (1, 1) (3, [])).1

def exE : WA := (exD.despawn (0, 1)).1

theorem ex1 : ((WA.new usualK).spawn [(2, [7]), (1, [1, 2])]).2 = ((0, 1), 0) := by decide

theorem ex2 : (exA.spawn []).2 = ((1, 1), 0) := by decide

theorem ex3 : (exB.add (1, 1) (3, [])).2 = 0 := by decide

theorem ex4 : (exC.add (1, 1) (3, [])).2 = 61 := by decide

theorem ex5 : (exD.despawn (0, 1)).2 = 0 := by decide

theorem ex6 : exE.snap = strL ⟨#[2, 0, 2, 2, 1, 0, 0, 8]⟩ := by decide

end
end Go.Proofs.Ytcccjgmekakabaa.FW
end

section
set_option linter.unusedSimpArgs false
set_option linter.unusedVariables false
namespace Go.Den
open Go
variable {κ ν : Type} [DecidableEq κ]
theorem nodup_lt' : ∀ (n : Nat) (L : List Nat), L.Nodup → (∀ x ∈ L, x < n) → L.length ≤ n
  | 0, L, _, h => by
    cases L with
    | nil => simp
    | cons x L => exact absurd (h x (by simp)) (by omega)
  | n + 1, L, hnd, h => by
    have h1 := nodup_lt' n (L.erase n) (hnd.erase n) (fun x hx => by
      have hm := (hnd.mem_erase_iff).1 hx
      have := h x hm.2
      have := hm.1
      omega)
    have h2 := List.length_erase (a := n) (l := L)
    split at h2 <;> omega

theorem nodup_all : ∀ (n : Nat) (L : List Nat), (∀ j, j < n → j ∈ L) → n ≤ L.length
  | 0, _, _ => Nat.zero_le _
  | n + 1, L, h => by
    have h1 := nodup_all n (L.erase n) (fun j hj => (List.mem_erase_of_ne (by omega)).2 (h j (by omega)))
    rw [List.length_erase_of_mem (h n (by omega))] at h1
    have : 0 < L.length := List.length_pos_of_mem (h n (by omega))
    omega

/-- The map's block, opened. -/
def MapIs (w : World) (b : Nat) (ek : κ → Value) (ev : ν → Value) (g : κ → Option ν) (es : Array MapEntry) (clock : Nat) (l : List (κ × ν)) : Prop :=
  w.heap[b]? = some (.map es clock) ∧ es.toList.map (fun e => (e.key, e.val)) = l.map (fun p => (ek p.1, ev p.2)) ∧ Stamps (es.toList.map (·.born)) clock ∧ (l.map (·.1)).Nodup ∧ ∀ k, mget l k = g k

/-- A map and an iterator over it: these keys came out, in this order; N entries in all. -/
def tRan (b r : Nat) (ek : κ → Value) (ev : ν → Value) (g : κ → Option ν) (N : Nat) (done : List κ) : Thing :=
  { holds := fun w O => O = [b, r] ∧ b ≠ r ∧ ∃ es clock l seen last, MapIs w b ek ev g es clock l ∧ w.heap[r]? = some (.mapIter (some b) clock seen last) ∧ clock ≤ last ∧ (done = [] ∨ last = clock) ∧ l.length = N ∧
      done.Nodup ∧ ∃ js : List Nat, js.length = done.length ∧ seen.toList = js.map (fun j => (es.toList.map (·.born)).getD j 0) ∧ (∀ n j : Nat, js[n]? = some j → ∃ p, l[j]? = some p ∧ done[n]? = some p.1)
    fr := fun {S w w' O} h hf hn => by
      obtain ⟨rfl, hbr, es, clock, l, seen, last, ⟨h1, h2⟩, h3, h4⟩ := h
      exact ⟨rfl, hbr, es, clock, l, seen, last, ⟨(hf.block b (Array.getElem?_eq_some_iff.1 h1).1 (hn b (by simp))).trans h1, h2⟩, (hf.block r (Array.getElem?_eq_some_iff.1 h3).1 (hn r (by simp))).trans h3, h4⟩
    lt := fun {w O} h k hk => by
      obtain ⟨rfl, hbr, es, clock, l, seen, last, ⟨h1, h2⟩, h3, h4⟩ := h
      simp only [List.mem_cons, List.not_mem_nil, or_false] at hk
      rcases hk with rfl | rfl
      · exact (Array.getElem?_eq_some_iff.1 h1).1
      · exact (Array.getElem?_eq_some_iff.1 h3).1 }

/-- 'next', wherever the iterator lies. -/
theorem run_next_at {P : Program} (w : World) (ty : TypeId) (r bm since c0 : Nat) (seen : Array Nat) (es : Array MapEntry) (clock : Nat) (hr : w.heap[r]? = some (.mapIter (some bm) since seen c0)) (hb : w.heap[bm]? = some (.map es clock)) (hold : ∀ x ∈ es.toList, x.born < since) (hsc : since ≤ c0) :
    ((leftOf es seen).size = 0 ∧ (Instr.next (.pointer (some ⟨r, 0, none⟩)) false ty).run P w = .ok (.tuple #[.bool false]) w) ∨
    ∃ e ∈ (leftOf es seen).toList, ∃ w1 : World, (w1 = w ∨ w1 = w.drew) ∧ (Instr.next (.pointer (some ⟨r, 0, none⟩)) false ty).run P w = .ok (.tuple #[.bool true, e.key, e.val]) ({ w1 with heap := w1.heap.setIfInBounds r (.mapIter (some bm) since (seen.push e.born) clock) }) := by
  simp only [Instr.next, getObj, Sem.run_bind, Sem.run, hr, hb, Result.andThen, next_test_false seen es since c0 hold hsc, Bool.false_eq_true, if_false]
  unfold leftOf
  have hmem : ∀ x ∈ (Array.filter (fun e => !seen.contains e.born) es).toList, x.born < since := fun x hx => hold x (by simp at hx ⊢; exact hx.1)
  generalize Array.filter (fun e => !seen.contains e.born) es = L at hmem ⊢
  have e1 : L.filter (fun x => decide (x.born < since)) = L := Array.filter_eq_self.2 (fun x hx => by simpa using hmem x (by simpa using hx))
  have e2 : L.filter (fun x => decide (x.born ≥ since)) = #[] := by
    rw [Array.filter_eq_empty_iff]
    intro x hx
    have := hmem x (by simpa using hx)
    simp
    omega
  simp only [e1, e2, Array.append_empty]
  by_cases h0 : L.size = 0
  · left
    have : L = #[] := Array.eq_empty_of_size_eq_zero h0
    subst this
    refine ⟨rfl, ?_⟩
    simp [choose, Sem.run, Question.forced]
  · right
    have hne : L.isEmpty = false := by simp [Array.isEmpty, h0]
    simp only [hne, Bool.false_eq_true, if_false, Array.empty_append, Array.size_map]
    have hch : ∃ (j : Nat) (w1 : World), j < L.size ∧ (w1 = w ∨ w1 = w.drew) ∧ (choose (Question.mapNext L.size)).run P w = .ok j w1 := by
      by_cases hf : L.size ≤ 1
      · exact ⟨0, w, by omega, .inl rfl, by simp [choose, Sem.run, Question.forced, hf]⟩
      · exact ⟨_, w.drew, Nat.mod_lt _ (by omega), .inr rfl, by
          simp only [choose, Sem.run, Question.forced, decide_eq_true_eq, hf, if_false, Question.cut]
          rfl⟩
    obtain ⟨j, w1, hj, hal, hrun⟩ := hch
    refine ⟨L[j], by simp, w1, hal, ?_⟩
    have hr1 : w1.heap[r]? = some (.mapIter (some bm) since seen c0) := by rcases hal with rfl | rfl <;> exact hr
    have hset : ∀ o' : Obj, (setObj r o').run P w1 = .ok () { w1 with heap := w1.heap.setIfInBounds r o' } := fun o' => by
      simp only [setObj, Sem.run]
      rw [hr1]
    simp only [hrun, Array.getElem?_map, Array.getElem?_eq_getElem hj, Option.map_some, Sem.run_bind, hset, Result.andThen]
    rfl

theorem left_at {es : Array MapEntry} {seen : Array Nat} {e : MapEntry} (he : e ∈ (leftOf es seen).toList) : ∃ j : Nat, es.toList[j]? = some e ∧ e.born ∉ seen.toList := by
  have := mem_left he
  obtain ⟨j, hj⟩ := List.getElem?_of_mem this.1
  refine ⟨j, hj, fun hm => ?_⟩
  have h2 := this.2
  simp only [Array.contains_eq_mem, decide_eq_false_iff_not] at h2
  exact h2 (Array.mem_toList_iff.1 hm)

namespace Hp
variable {S : List Nat} {w0 w : World} {its : List Thing} {P : Program} {ek : κ → Value} {ev : ν → Value} {g : κ → Option ν}
theorem range_start (h : Hp S w0 w its) (i : Nat) {b : Nat} {mt kt vt : TypeId} {K : Option Addr → World → Prop} (hi : its[i]? = some (tMp b ek ev g)) (hm : P.underlying mt = some (.map kt vt))
    (hK : ∀ r N w', Hp S w0 w' (its.set i (tRan b r ek ev g N [])) → K (some ⟨r, 0, none⟩) w') : Run .p P (Instr.range mt (.map (some b))) w K := by
  obtain ⟨O, ⟨l, ⟨⟨es, clock, hb, hes, hst⟩, rfl⟩, hnd, hg⟩, back⟩ := h.step hi rfl
  have hlt := (Array.getElem?_eq_some_iff.1 hb).1
  refine ⟨some ⟨w.heap.size, 0, none⟩, w.alloc (.mapIter (some b) clock #[] clock), run_range_map w mt kt vt b es clock hm hb, hK _ l.length _ ?_⟩
  refine back ((Fr.alloc w _).mono (by simp)) (t' := tRan b w.heap.size ek ev g l.length []) (O' := [b, w.heap.size]) ?_ (fun k hk => ?_) rfl
  · refine ⟨rfl, by omega, es, clock, l, #[], clock, ⟨(heap_alloc_old w _ hlt).trans hb, hes, hst, hnd, hg⟩, heap_alloc_new w _, Nat.le_refl _, .inl rfl, rfl, by simp, [], rfl, rfl, by simp⟩
  · simp only [List.mem_cons, List.not_mem_nil, or_false] at hk
    rcases hk with rfl | rfl
    · exact .inl (by simp)
    · exact .inr (Nat.le_refl _)

theorem range_next (h : Hp S w0 w its) (i : Nat) {b r N : Nat} {ty : TypeId} {done : List κ} {K0 : World → Prop} {K1 : Value → Value → World → Prop} (hi : its[i]? = some (tRan b r ek ev g N done))
    (h0 : (∀ k, (g k).isSome = true → k ∈ done) → done.length = N → Hp S w0 w its → K0 w)
    (h1 : ∀ k v x1 x2 w', g k = some v → k ∉ done → done.length < N → Hp S w0 w' (its.set i (tRan b r ek ev g N (done ++ [k]))) → K1 x1 x2 w') : NxM P (.pointer (some ⟨r, 0, none⟩)) ty w K0 K1 := by
  obtain ⟨O, ⟨rfl, hbr, es, clock, l, seen, last, ⟨hb, hes, hst, hnd, hg⟩, hr, hle, hlast, hN, hdn, js, hjl, hseen, hjs⟩, back⟩ := h.step hi rfl
  have hel : es.toList.length = l.length := by have := congrArg List.length hes; simpa using this
  have hold : ∀ x ∈ es.toList, x.born < clock := fun x hx => hst.2 _ (List.mem_map.2 ⟨x, hx, rfl⟩)
  have hbj : ∀ (j : Nat) (e : MapEntry), es.toList[j]? = some e → (es.toList.map (·.born)).getD j 0 = e.born := fun j e he => by
    rw [List.getD_eq_getElem?_getD, List.getElem?_map, he]; rfl
  have hinj : ∀ (i j : Nat), i < l.length → (es.toList.map (·.born)).getD i 0 = (es.toList.map (·.born)).getD j 0 → j < l.length → i = j := fun i j hi he hj => by
    refine (List.getElem?_inj (i := i) (j := j) (l := es.toList.map (·.born)) (by rw [List.length_map]; omega) hst.1).1 ?_
    rw [List.getD_eq_getElem?_getD, List.getD_eq_getElem?_getD] at he
    have a1 : (es.toList.map (·.born))[i]? = some ((es.toList.map (·.born))[i]'(by rw [List.length_map]; omega)) := List.getElem?_eq_getElem _
    have a2 : (es.toList.map (·.born))[j]? = some ((es.toList.map (·.born))[j]'(by rw [List.length_map]; omega)) := List.getElem?_eq_getElem _
    rw [a1, a2] at he ⊢
    simpa using he
  have keyInj : ∀ (i j : Nat) (p q : κ × ν), l[i]? = some p → l[j]? = some q → p.1 = q.1 → i = j := fun i j p q hi hj he =>
    (List.getElem?_inj (i := i) (j := j) (l := l.map (·.1)) (by simpa using (List.getElem?_eq_some_iff.1 hi).1) hnd).1 (by rw [List.getElem?_map, List.getElem?_map, hi, hj]; simp [he])
  have hjlt : ∀ n j : Nat, js[n]? = some j → j < l.length := fun n j hn => by
    obtain ⟨p, hp, _⟩ := hjs n j hn
    exact (List.getElem?_eq_some_iff.1 hp).1
  have hjnd : js.Nodup := by
    rw [List.nodup_iff_pairwise_ne, List.pairwise_iff_getElem]
    intro n m hn0 hm hnm he
    have hm' : js[m]? = some js[m] := List.getElem?_eq_getElem hm
    obtain ⟨p, hp, hd⟩ := hjs m _ hm'
    obtain ⟨p', hp', hd'⟩ := hjs n js[m] (by rw [List.getElem?_eq_getElem hn0, he])
    rw [hp] at hp'
    obtain rfl := Option.some.inj hp'
    have := (List.getElem?_inj (i := n) (j := m) (l := done) (by omega) hdn).1 (by rw [hd, hd'])
    omega
  have hdl : done.length ≤ l.length := by
    rw [← hjl]
    exact nodup_lt' l.length js hjnd (fun x hx => by
      obtain ⟨n, hn⟩ := List.getElem?_of_mem hx
      exact hjlt n x hn)
  rcases run_next_at (P := P) w ty r b clock last seen es clock hr hb hold hle with ⟨hz, hrun⟩ | ⟨e, he, w1, hw1, hrun⟩
  · refine ⟨_, _, hrun, .inl ⟨rfl, h0 (fun k hk => ?_) ?_ h⟩⟩
    · obtain ⟨v, hv⟩ := Option.isSome_iff_exists.1 hk
      rw [← hg, mget_eq] at hv
      obtain ⟨p, hp, rfl⟩ := Option.map_eq_some_iff.1 hv
      have hpk := List.find?_some hp
      simp only [decide_eq_true_eq] at hpk
      obtain ⟨j, hj⟩ := List.getElem?_of_mem (List.mem_of_find?_eq_some hp)
      have hjl2 := (List.getElem?_eq_some_iff.1 hj).1
      have hej : es.toList[j]? = some (es.toList[j]'(by omega)) := List.getElem?_eq_getElem _
      have hin : (es.toList[j]'(by omega)).born ∈ seen.toList := by
        refine Classical.byContradiction fun hno => ?_
        have hm : (es.toList[j]'(by omega)) ∈ (leftOf es seen).toList := by
          unfold leftOf
          rw [Array.toList_filter, List.mem_filter]
          refine ⟨List.getElem_mem _, ?_⟩
          simp only [Array.contains_eq_mem, Bool.not_eq_true', decide_eq_false_iff_not]
          exact fun hm => hno (Array.mem_toList_iff.2 hm)
        have : (leftOf es seen).toList = [] := by
          rw [← List.length_eq_zero_iff, Array.length_toList]; exact hz
        rw [this] at hm
        cases hm
      rw [hseen] at hin
      obtain ⟨j', hj', hbe⟩ := List.mem_map.1 hin
      obtain ⟨n, hn⟩ := List.getElem?_of_mem hj'
      have hlt' := hjlt n j' hn
      rw [← hbj j _ hej] at hbe
      have := hinj j' j hlt' hbe hjl2
      subst this
      obtain ⟨q, hq, hdq⟩ := hjs n j' hn
      rw [hj] at hq
      obtain rfl := Option.some.inj hq
      rw [hpk] at hdq
      exact List.mem_of_getElem? hdq
    · -- all have come
      have hall : ∀ j, j < l.length → j ∈ js := fun j hj => by
        have hej : es.toList[j]? = some (es.toList[j]'(by omega)) := List.getElem?_eq_getElem _
        have hin : (es.toList[j]'(by omega)).born ∈ seen.toList := by
          refine Classical.byContradiction fun hno => ?_
          have hm : (es.toList[j]'(by omega)) ∈ (leftOf es seen).toList := by
            unfold leftOf
            rw [Array.toList_filter, List.mem_filter]
            refine ⟨List.getElem_mem _, ?_⟩
            simp only [Array.contains_eq_mem, Bool.not_eq_true', decide_eq_false_iff_not]
            exact fun hm => hno (Array.mem_toList_iff.2 hm)
          have : (leftOf es seen).toList = [] := by
            rw [← List.length_eq_zero_iff, Array.length_toList]; exact hz
          rw [this] at hm
          cases hm
        rw [hseen] at hin
        obtain ⟨j', hj', hbe⟩ := List.mem_map.1 hin
        obtain ⟨n, hn⟩ := List.getElem?_of_mem hj'
        rw [← hbj j _ hej] at hbe
        have := hinj j' j (hjlt n j' hn) hbe hj
        subst this
        exact hj'
      have := nodup_all l.length js hall
      omega
  · obtain ⟨j, hej, hnew⟩ := left_at he
    have hjl2 : j < l.length := by have := (List.getElem?_eq_some_iff.1 hej).1; omega
    have hlj : l[j]? = some l[j] := List.getElem?_eq_getElem hjl2
    have hkv : e.key = ek (l[j]).1 ∧ e.val = ev (l[j]).2 := by
      have := congrArg (fun x => x[j]?) hes
      simp only [List.getElem?_map, hej, hlj, Option.map_some, Option.some.injEq, Prod.mk.injEq] at this
      exact this
    have hgk : g (l[j]).1 = some (l[j]).2 := by
      rw [← hg, mget_eq]
      have : l.find? (fun p => decide (p.1 = (l[j]).1)) = some l[j] := by
        cases hf : l.find? (fun p => decide (p.1 = (l[j]).1)) with
        | none =>
          have := List.find?_eq_none.1 hf l[j] (List.getElem_mem _)
          simp at this
        | some q =>
          have hq := List.find?_some hf
          simp only [decide_eq_true_eq] at hq
          obtain ⟨j', hj'⟩ := List.getElem?_of_mem (List.mem_of_find?_eq_some hf)
          have := keyInj j' j q _ hj' hlj hq
          subst this
          rw [hlj] at hj'
          exact hj'.symm
      rw [this]; rfl
    have hjno : j ∉ js := fun hm => hnew (by rw [hseen]; exact List.mem_map.2 ⟨j, hm, hbj j e hej⟩)
    have hkno : (l[j]).1 ∉ done := fun hm => by
      obtain ⟨n, hn⟩ := List.getElem?_of_mem hm
      have hnl := (List.getElem?_eq_some_iff.1 hn).1
      have hjn : js[n]? = some (js[n]'(by omega)) := List.getElem?_eq_getElem _
      obtain ⟨q, hq, hdq⟩ := hjs n _ hjn
      rw [hn] at hdq
      have := keyInj _ j q _ hq hlj (Option.some.inj hdq).symm
      rw [this] at hjn
      exact hjno (List.mem_of_getElem? hjn)
    have hlN : done.length < N := by
      have := nodup_lt' l.length (j :: js) (List.nodup_cons.2 ⟨hjno, hjnd⟩) (fun x hx => by
        rcases List.mem_cons.1 hx with rfl | hx
        · exact hjl2
        · obtain ⟨n, hn⟩ := List.getElem?_of_mem hx
          exact hjlt n x hn)
      simp only [List.length_cons] at this
      omega
    have hsz : w1.heap = w.heap ∧ w1.os = w.os ∧ w1.tape = w.tape ∧ w1.output = w.output := by rcases hw1 with rfl | rfl <;> exact ⟨rfl, rfl, rfl, rfl⟩
    have hrl := (Array.getElem?_eq_some_iff.1 hr).1
    have hbl := (Array.getElem?_eq_some_iff.1 hb).1
    refine ⟨_, _, hrun, .inr ⟨e.key, e.val, rfl, h1 (l[j]).1 (l[j]).2 _ _ _ hgk hkno hlN ?_⟩⟩
    refine back (w' := { w1 with heap := w1.heap.setIfInBounds r (.mapIter (some b) clock (seen.push e.born) clock) }) (t' := tRan b r ek ev g N (done ++ [(l[j]).1])) (O' := [b, r]) ⟨hsz.2.1, hsz.2.2.1, hsz.2.2.2, by show w.heap.size ≤ (w1.heap.setIfInBounds r _).size; simp [hsz.1], fun k hk hn => ?_⟩ ?_ (fun k hk => .inl hk) rfl
    · show (w1.heap.setIfInBounds r _)[k]? = w.heap[k]?
      rw [hsz.1, Array.getElem?_setIfInBounds_ne (fun e => hn (by simp [e]))]
    · refine ⟨rfl, hbr, es, clock, l, seen.push e.born, clock, ⟨?_, hes, hst, hnd, hg⟩, ?_, Nat.le_refl _, .inr rfl, hN, ?_, js ++ [j], by simp [hjl], ?_, ?_⟩
      · show (w1.heap.setIfInBounds r _)[b]? = _
        rw [hsz.1, Array.getElem?_setIfInBounds_ne (fun e => hbr e.symm)]; exact hb
      · show (w1.heap.setIfInBounds r _)[r]? = _
        rw [hsz.1, Array.getElem?_setIfInBounds_self_of_lt hrl]
      · rw [List.nodup_append]
        exact ⟨hdn, by simp, fun a ha c hc => by simp only [List.mem_singleton] at hc; subst hc; exact fun e => hkno (e ▸ ha)⟩
      · rw [Array.toList_push, List.map_append, hseen]
        simp only [List.map_cons, List.map_nil]
        rw [hbj j e hej]
      · intro n m hn
        by_cases hlt : n < js.length
        · rw [List.getElem?_append_left hlt] at hn
          obtain ⟨q, hq, hd⟩ := hjs n m hn
          exact ⟨q, hq, by rw [List.getElem?_append_left (by omega)]; exact hd⟩
        · rw [List.getElem?_append_right (by omega)] at hn
          have h00 : n - js.length = 0 := by
            rcases Nat.eq_zero_or_pos (n - js.length) with h | h
            · exact h
            · rw [List.getElem?_eq_none (by simp; omega)] at hn; cases hn
          rw [h00] at hn
          obtain rfl := Option.some.inj hn
          refine ⟨_, hlj, ?_⟩
          rw [List.getElem?_append_right (by omega), show n - done.length = 0 by omega]; rfl

theorem range_entry (h : Hp S w0 w its) (i : Nat) {b r N : Nat} {done : List κ} {k : κ} {v : ν} {K : Value → Value → World → Prop} (hi : its[i]? = some (tRan b r ek ev g N (done ++ [k]))) (hgk : g k = some v) (hK : K (ek k) (ev v) w) : EnM P (.pointer (some ⟨r, 0, none⟩)) w K := by
  obtain ⟨O, rfl, hbr, es, clock, l, seen, last, ⟨hb, hes, hst, hnd, hg⟩, hr, hle, hlast, hN, hdn, js, hjl, hseen, hjs⟩ := h.see hi
  have hlast : last = clock := by
    rcases hlast with h | h
    · simp at h
    · exact h
  subst hlast
  have hn : js[done.length]? = some (js[done.length]'(by rw [hjl]; simp)) := List.getElem?_eq_getElem _
  obtain ⟨p, hp, hd⟩ := hjs _ _ hn
  have hpk : p.1 = k := by
    rw [List.getElem?_append_right (Nat.le_refl _), Nat.sub_self] at hd
    exact (Option.some.inj hd).symm
  generalize js[done.length]'(by rw [hjl]; simp) = j at hn hp hd
  have hjl2 := (List.getElem?_eq_some_iff.1 hp).1
  have hel : es.toList.length = l.length := by have := congrArg List.length hes; simpa using this
  have hej : es.toList[j]? = some (es.toList[j]'(by omega)) := List.getElem?_eq_getElem _
  have hkv : (es.toList[j]'(by omega)).key = ek p.1 ∧ (es.toList[j]'(by omega)).val = ev p.2 := by
    have := congrArg (fun x => x[j]?) hes
    simp only [List.getElem?_map, hej, hp, Option.map_some, Option.some.injEq, Prod.mk.injEq] at this
    exact this
  have hpv : p.2 = v := by
    have h1 : mget l k = some v := by rw [hg]; exact hgk
    rw [mget_eq] at h1
    obtain ⟨q, hq, hqv⟩ := Option.map_eq_some_iff.1 h1
    have hqk := List.find?_some hq
    simp only [decide_eq_true_eq] at hqk
    obtain ⟨j', hj'⟩ := List.getElem?_of_mem (List.mem_of_find?_eq_some hq)
    have : j' = j := (List.getElem?_inj (i := j') (j := j) (l := l.map (·.1)) (by simpa using (List.getElem?_eq_some_iff.1 hj').1) hnd).1 (by rw [List.getElem?_map, List.getElem?_map, hj', hp]; simp [hqk, hpk])
    subst this
    rw [hp] at hj'
    rw [Option.some.inj hj']; exact hqv
  generalize es.toList[j]'(by omega) = e at hej hkv
  have hback : seen.back? = some e.born := by
    have h1 : seen.toList.getLast? = some e.born := by
      rw [hseen]
      have hjs2 : js = js.take done.length ++ [j] := by
        have hl : js.length = done.length + 1 := by rw [hjl]; simp
        have h1 := List.take_succ_eq_append_getElem (l := js) (i := done.length) (by omega)
        have h2 : js.take (done.length + 1) = js := List.take_of_length_le (by omega)
        have h3 : js[done.length]'(by omega) = j := by
          rw [List.getElem?_eq_getElem (by omega)] at hn; exact Option.some.inj hn
        rw [h3] at h1
        exact h2.symm.trans h1
      rw [hjs2, List.map_append]
      simp only [List.map_cons, List.map_nil, List.getLast?_append, List.getLast?_singleton, Option.some_or]
      rw [List.getD_eq_getElem?_getD, List.getElem?_map, hej]; rfl
    rw [← Array.getLast?_toList]; exact h1
  have hf : es.find? (·.born == e.born) = some e := by rw [← Array.find?_toList]; exact find_born e es.toList hst.1 (List.mem_of_getElem? hej)
  refine ⟨e.key, e.val, ?_, ?_⟩
  · simp only [Instr.entry, getObj, Sem.run_bind, Sem.run, hr, hb, Result.andThen, hback, bne_self_eq_false, Bool.false_eq_true, if_false, hf]
    rfl
  · rw [hkv.1, hkv.2, hpk, hpv]; exact hK

theorem range_stop (h : Hp S w0 w its) {i b r N : Nat} {done : List κ} (hi : its[i]? = some (tRan b r ek ev g N done)) : Hp S w0 w (its.set i (tMp b ek ev g)) :=
  h.less hi rfl (fun w O hO => by
    obtain ⟨rfl, hbr, es, clock, l, seen, last, ⟨hb, hes, hst, hnd, hg⟩, _⟩ := hO
    exact ⟨[b], ⟨l, ⟨⟨es, clock, hb, hes, hst⟩, rfl⟩, hnd, hg⟩, by simp⟩) rfl

end Hp
def tOptO (y : Option Addr) (o : Obj) : Thing :=
  { holds := fun w O => (y = none ∧ O = []) ∨ ∃ b, y = some ⟨b, 0, none⟩ ∧ w.heap[b]? = some o ∧ O = [b]
    fr := fun {S w w' O} h hf hn => by
      rcases h with h | ⟨b, h1, h2, rfl⟩
      · exact .inl h
      · exact .inr ⟨b, h1, (hf.block b (Array.getElem?_eq_some_iff.1 h2).1 (hn b (by simp))).trans h2, rfl⟩
    lt := fun {w O} h k hk => by
      rcases h with ⟨_, rfl⟩ | ⟨b, h1, h2, rfl⟩
      · cases hk
      · simp only [List.mem_singleton] at hk; subst hk; exact (Array.getElem?_eq_some_iff.1 h2).1 }

namespace Hp
variable {S : List Nat} {w0 w : World} {its : List Thing}
theorem optO (h : Hp S w0 w its) (o : Obj) : Hp S w0 w (its ++ [tOptO none o]) :=
  h.grow (Fr.refl _ _) (t := tOptO none o) (O := []) (.inl ⟨rfl, rfl⟩) (by simp) rfl

theorem mkOptO (h : Hp S w0 w its) {i : Nat} {o : Obj} (hi : its[i]? = some (tOptO none o)) : Hp S w0 (w.alloc o) (its.set i (tOptO (some ⟨w.heap.size, 0, none⟩) o)) := by
  obtain ⟨O, hO, back⟩ := h.step hi rfl
  rcases hO with ⟨_, rfl⟩ | ⟨b, hb, _⟩
  · exact back (t' := tOptO (some ⟨w.heap.size, 0, none⟩) o) (O' := [w.heap.size]) (Fr.alloc w _) (.inr ⟨_, rfl, heap_alloc_new w o, rfl⟩) (by simp) rfl
  · cases hb

theorem flsO (h : Hp S w0 w its) (i : Nat) {y : Option Addr} {o : Obj} {K : Option Addr → World → Prop} (hi : its[i]? = some (tOptO y o))
    (hK : ∀ y' w', Hp S w0 w' (its.set i (tOptO y' o)) → K y' w') : FlS [(o, y)] w K := by
  refine FlN_of (P := fun ys w' => ∃ y, ys = [y] ∧ Hp S w0 w' (its.set i (tOptO y o))) ?_ ?_ _ _ _ ⟨y, rfl, by rw [set_same hi]; exact h⟩
  · rintro ys w' ⟨y, rfl, h⟩
    exact hK y w' h
  · rintro ys w' q o' ⟨y, rfl, h⟩ ho hy
    have li := (List.getElem?_eq_some_iff.1 hi).1
    match q, ho, hy with
    | 0, ho, hy =>
      simp only [List.map_cons, List.getElem?_cons_zero, Option.some.injEq] at ho hy
      subst ho; subst hy
      refine ⟨_, rfl, ?_⟩
      have h2 := h.mkOptO (i := i) (o := o) (by simp [li])
      rw [List.set_set] at h2
      exact h2
    | q + 1, ho, hy => simp at hy

theorem flsO2 (h : Hp S w0 w its) (i j : Nat) (hij : i ≠ j) {y1 y2 : Option Addr} {o1 o2 : Obj} {K : Option Addr → Option Addr → World → Prop} (hi : its[i]? = some (tOptO y1 o1)) (hj : its[j]? = some (tOptO y2 o2))
    (hK : ∀ y1' y2' w', Hp S w0 w' ((its.set i (tOptO y1' o1)).set j (tOptO y2' o2)) → K y1' y2' w') : FlS [(o1, y1), (o2, y2)] w K := by
  have li := (List.getElem?_eq_some_iff.1 hi).1
  have lj := (List.getElem?_eq_some_iff.1 hj).1
  refine FlN_of (P := fun ys w' => ∃ y1 y2, ys = [y1, y2] ∧ Hp S w0 w' ((its.set i (tOptO y1 o1)).set j (tOptO y2 o2))) ?_ ?_ _ _ _ ⟨y1, y2, rfl, by rw [set_same hi, set_same hj]; exact h⟩
  · rintro ys w' ⟨y1, y2, rfl, h⟩
    exact hK y1 y2 w' h
  · rintro ys w' q o ⟨y1, y2, rfl, h⟩ ho hy
    match q, ho, hy with
    | 0, ho, hy =>
      simp only [List.map_cons, List.getElem?_cons_zero, Option.some.injEq] at ho hy
      subst ho; subst hy
      refine ⟨_, y2, rfl, ?_⟩
      have h2 := h.mkOptO (i := i) (o := o1) (by rw [List.getElem?_set_ne (Ne.symm hij)]; simp [li])
      rw [List.set_comm _ _ (Ne.symm hij), List.set_set] at h2
      exact h2
    | 1, ho, hy =>
      simp only [List.map_cons, List.getElem?_cons_zero, List.getElem?_cons_succ, Option.some.injEq] at ho hy
      subst ho; subst hy
      refine ⟨y1, _, rfl, ?_⟩
      have h2 := h.mkOptO (i := j) (o := o2) (by simp [lj])
      rw [List.set_set] at h2
      exact h2
    | q + 2, ho, hy => simp at hy

theorem needO (h : Hp S w0 w its) (i : Nat) {y : Option Addr} {o : Obj} {K : Addr → Prop} (hi : its[i]? = some (tOptO y o))
    (hK : ∀ b, Hp S w0 w (its.set i (tObj b o)) → K ⟨b, 0, none⟩) : Need y K := by
  cases y with
  | none => trivial
  | some a =>
    obtain ⟨O, hO, back⟩ := h.step hi rfl
    rcases hO with ⟨h1, _⟩ | ⟨b, hb, h2, rfl⟩
    · cases h1
    · simp only [Option.some.injEq] at hb
      subst hb
      exact hK b (back (Fr.refl _ _) (t' := tObj b o) (O' := [b]) ⟨rfl, h2⟩ (fun k hk => .inl hk) rfl)

theorem objMp {κ ν : Type} [DecidableEq κ] (h : Hp S w0 w its) {i b : Nat} (ek : κ → Value) (ev : ν → Value) (hi : its[i]? = some (tObj b (.map #[] 0))) : Hp S w0 w (its.set i (tMp b ek ev fun _ => none)) :=
  h.weak hi rfl (fun w O hO => ⟨[], ⟨⟨#[], 0, hO.2, rfl, by simp [Stamps]⟩, hO.1⟩, by simp, fun k => rfl⟩) rfl

end Hp
end Go.Den
end

section
set_option linter.unusedSimpArgs false
set_option linter.unusedVariables false
set_option maxRecDepth 100000
namespace Go.Proofs.Ytcccjgmekakabaa.FW
open Go.Proofs.Ytcccjgmekakabaa.F
open Go Go.Den Go.Proofs
open Go.Proofs.Ytcccjgmekakabaa.FI (PoolM tPool)
open Go.Proofs.Ytcccjgmekakabaa.FT (TabM tTab Ent entV ent ent_len atI keyEnt iv iv_len)
theorem und58 : Try.prog.underlying 58 = some (.map 3 3) := by kernel_rfl

/-- Who lives with this set of kinds. -/
def WA.who (a : WA) (s : Int) : List Ent := a.all.filter fun e => decide ((a.row e).map setI = some s)

theorem allU_mem (m : PoolM) {e : Ent} (h1 : m.lives e.1 = true) (h2 : m.gen e.1 = e.2) (h0 : 0 ≤ e.1) : ∀ k : Nat, e.1 < k → e ∈ m.allU k
  | 0, hk => by omega
  | k + 1, hk => by
    unfold PoolM.allU
    by_cases he : e.1 = (k : Int)
    · rw [← he, if_pos h1, h2]; simp
    · have := allU_mem m h1 h2 h0 k (by omega)
      split
      · exact List.mem_append_left _ this
      · exact this

theorem all_mem {a : WA} (hok : a.Ok) {e : Ent} : e ∈ a.all ↔ (a.row e).isSome = true := by
  constructor
  · intro he
    obtain ⟨p, hp⟩ := all_lives hok he
    rw [hp]; rfl
  · intro he
    rw [hok.liv e] at he
    obtain ⟨h1, h2⟩ := PoolM.is_iff.1 he
    obtain ⟨h3, h4⟩ := FI.lives_lt' hok.pok h1
    exact allU_mem a.pool h1 h2 h3 _ h4

theorem Tabs.same {ks : KD} {row : Ent → Option PL} {sets : Ent → Option Int} {T T' : List (Int × TabM)} (h : Tabs ks row sets T) (hnd : (T'.map (·.1)).Nodup) (hin : ∀ x, x ∈ T' ↔ x ∈ T) : Tabs ks row sets T' :=
  ⟨h.sets, hnd, fun x hx => h.tok x ((hin x).1 hx), fun e p hp => by
    obtain ⟨t, h1, h2⟩ := h.has e p hp
    exact ⟨t, (hin _).2 h1, h2⟩, h.fit⟩

section
variable {S : List Nat} {w0 w : World} {its : List Thing}
theorem tabs_get {q : WH} (hnd : (q.tabs.map (·.1)).Nodup) {set : Int} {tb : Nat} (h : tptr q.T set = some tb) : ∃ (k : Nat) (t : TabM), q.T[k]? = some (set, tb, t) ∧ (set, t) ∈ q.tabs := by
  obtain ⟨k, t, hk⟩ := tptr_some h
  exact ⟨k, t, hk, List.mem_map.2 ⟨_, List.mem_of_getElem? hk, rfl⟩⟩

theorem view_ent {e : Ent} {R : Int → Int → World → Prop} (h : R e.1 e.2 w) : viewRet [.agg [.i .i64, .i .i64]] (entV e) R w := h

theorem view_int {n : Int} {R : Int → World → Prop} (h : R n w) : viewRet [.one (.i .i64)] (Value.int .i64 n) R w := h

theorem view_pv {b : Nat} {R : Option Addr → World → Prop} (h : R (some ⟨b, 0, none⟩) w) : viewRet [.one .p] (pv b) R w := h

set_option maxHeartbeats 4000000 in
theorem Clone_W (h : Hp S w0 w its) (i : Nat) {b : Nat} {a : WA} (hi : its[i]? = some (tW b a)) {K : Option Addr → World → Prop}
    (hK : ∀ cb w', Hp S w0 w' (its ++ [tW cb a]) → K (some ⟨cb, 0, none⟩) w') : c30 (some ⟨b, 0, none⟩) w K := by
  refine c30_of ?_
  unfold f30
  obtain ⟨O, h1, back⟩ := h.f1 hi rfl
  clear h
  obtain ⟨q, hok, ht, hk, h⟩ := W_open h1
  have hal := hok.len
  have hkl : (kinds q.xs).length = q.xs.length := by simp [kinds]
  have h12 : q.xs.length ≤ 12 := by rw [hk] at hkl; omega
  have h4 : ∀ x ∈ q.xs, x.2.2.length ≤ 4 := fun x hx => hok.four (x.1, x.2.2) (by rw [← hk]; exact List.mem_map.2 ⟨x, hx, rfl⟩)
  refine h.dr fun w1 h => ?_
  refine nns ?_
  refine h.ld0 (k := .sl) (x := q.sk) 0 rfl rfl ?_
  refine nns ?_
  refine h.ld (n := 1) (k := .p) (x := some ⟨q.pb, 0, none⟩) 0 rfl rfl ?_
  have h : Hp O w w1 [q.blk b, tEmp, tSl q.sk 94 2 kdv q.xs, tAll (q.xs.map tF), tPool 149 q.pb a.m.pool, tMp q.ms entV (Value.int .i64) a.m.sets, tMp q.mt (Value.int .i64) pv (tptr q.T), tAll (q.T.map tT)] := h
  have h := (h.optO (.map #[] 0)).optO (.map #[] 0)
  refine h.flsO2 8 9 (by decide) rfl rfl fun y1 y2 w2 h => ?_
  simp only [List.cons_append, List.nil_append, List.set_cons_zero, List.set_cons_succ] at h
  refine copied_spec h 2 3 (s := q.sk) (xs := q.xs) rfl rfl (by omega) (fun x hx => by have := h4 x hx; omega) fun r ys w3 hys h => ?_
  refine ⟨h.cel (n := 1) 0 rfl rfl, ?_⟩
  refine h.flsO2 8 9 (by decide) (y1 := y1) (y2 := y2) rfl rfl fun y3 y4 w4 h => ?_
  simp only [List.cons_append, List.nil_append, List.set_cons_zero, List.set_cons_succ] at h
  refine FI.Clone_h h 4 (m := a.pool) hok.pok rfl fun pb w5 h => ?_
  refine h.flsO2 8 9 (by decide) (y1 := y3) (y2 := y4) rfl rfl fun y5 y6 w6 h => ?_
  simp only [List.cons_append, List.nil_append, List.set_cons_zero, List.set_cons_succ] at h
  refine h.needO 8 (y := y5) rfl fun ms h => ?_
  refine h.flsO 9 (y := y6) rfl fun y7 w7 h => ?_
  refine h.needO 9 (y := y7) rfl fun mt h => ?_
  simp only [List.cons_append, List.nil_append, List.set_cons_zero, List.set_cons_succ] at h
  have h := h.objMp (i := 8) entV (Value.int .i64) rfl
  have h := h.objMp (i := 9) (Value.int .i64) pv rfl
  have h : Hp O w w7 [q.blk b, tEmp, tSl q.sk 94 2 kdv q.xs, tAll (q.xs.map tF), tPool 149 q.pb a.m.pool, tMp q.ms entV (Value.int .i64) a.m.sets, tMp q.mt (Value.int .i64) pv (tptr q.T), tAll (q.T.map tT), tMp ms entV (Value.int .i64) (fun _ => none), tMp mt (Value.int .i64) pv (fun _ => none), tSl r 94 2 kdv ys, tAll (ys.map tF), tPool 149 pb a.pool] := h
  refine h.nw (c := [_, _, _, _]) fun cb w8 h => ?_
  have h := h.grow (Fr.refl _ _) (t := tAll (([] : List TT).map tT)) (O := []) rfl (by simp) rfl
  refine nns ?_
  refine h.ld (n := 2) (k := .m) (x := some q.ms) 0 rfl rfl ?_
  refine h.range_start (ek := entV) (ev := Value.int .i64) (g := a.m.sets) 5 rfl und98 fun r1 N w9 h => ?_
  refine ⟨fun mm w' => ∃ (done : List Ent) (f : Ent → Option Int), mm = N - done.length ∧ (∀ s, f s = if s ∈ done then a.m.sets s else none) ∧ Hp O w w' [q.blk b, tEmp, tSl q.sk 94 2 kdv q.xs, tAll (q.xs.map tF), tPool 149 q.pb a.m.pool, tRan q.ms r1 entV (Value.int .i64) a.m.sets N done, tMp q.mt (Value.int .i64) pv (tptr q.T), tAll (q.T.map tT), tMp ms entV (Value.int .i64) f, tMp mt (Value.int .i64) pv (fun _ => none), tSl r 94 2 kdv ys, tAll (ys.map tF), tPool 149 pb a.pool, tBlk cb 101 [.slice r.a r.len r.cap, .pointer (some ⟨pb, 0, none⟩), .map (some ms), .map (some mt)], tAll (([] : List TT).map tT)],
    ⟨N, [], fun _ => none, rfl, fun s => by simp, h⟩, ?_⟩
  clear h
  rintro mm w10 ⟨done, f, rfl, hf, h⟩
  refine h.range_next 5 rfl (fun hall hN h => ?_) fun e s x1 x2 w11 hg hno hlt h => ?_
  · have h := h.range_stop (i := 5) rfl
    have ef : f = a.m.sets := by
      funext e
      rw [hf e]
      split
      · rfl
      · rename_i hs
        cases hp : a.m.sets e with
        | none => rfl
        | some x => exact absurd (hall e (by rw [hp]; rfl)) hs
    rw [ef] at h
    clear hf hall hN ef
    have h : Hp O w w10 [q.blk b, tEmp, tSl q.sk 94 2 kdv q.xs, tAll (q.xs.map tF), tPool 149 q.pb a.m.pool, tMp q.ms entV (Value.int .i64) a.m.sets, tMp q.mt (Value.int .i64) pv (tptr q.T), tAll (q.T.map tT), tMp ms entV (Value.int .i64) a.m.sets, tMp mt (Value.int .i64) pv (tptr []), tSl r 94 2 kdv ys, tAll (ys.map tF), tPool 149 pb a.pool, tBlk cb 101 [.slice r.a r.len r.cap, .pointer (some ⟨pb, 0, none⟩), .map (some ms), .map (some mt)], tAll (([] : List TT).map tT)] := h
    refine nns ?_
    refine h.ld (n := 3) (k := .m) (x := some q.mt) 0 rfl rfl ?_
    refine h.range_start (ek := Value.int .i64) (ev := pv) (g := tptr q.T) 6 rfl und99 fun r2 N2 w12 h => ?_
    refine ⟨fun mm w' => ∃ (done : List Int) (T' : List TT), mm = N2 - done.length ∧ T'.map (·.1) = done ∧ done.Nodup ∧ (∀ x ∈ T', (x.1, x.2.2) ∈ q.tabs) ∧ Hp O w w' [q.blk b, tEmp, tSl q.sk 94 2 kdv q.xs, tAll (q.xs.map tF), tPool 149 q.pb a.m.pool, tMp q.ms entV (Value.int .i64) a.m.sets, tRan q.mt r2 (Value.int .i64) pv (tptr q.T) N2 done, tAll (q.T.map tT), tMp ms entV (Value.int .i64) a.m.sets, tMp mt (Value.int .i64) pv (tptr T'), tSl r 94 2 kdv ys, tAll (ys.map tF), tPool 149 pb a.pool, tBlk cb 101 [.slice r.a r.len r.cap, .pointer (some ⟨pb, 0, none⟩), .map (some ms), .map (some mt)], tAll (T'.map tT)],
      ⟨N2, [], [], rfl, rfl, by simp, by simp, h⟩, ?_⟩
    clear h
    rintro mm2 w13 ⟨done2, T', rfl, hT'd, hdn, hT', h⟩
    refine h.range_next 6 rfl (fun hall hN h => ?_) fun s tb x1 x2 w14 hg hno hlt h => ?_
    · have h := h.range_stop (i := 6) rfl
      have h : Hp O w w13 ([q.blk b, tEmp, tSl q.sk 94 2 kdv q.xs, tAll (q.xs.map tF), tPool 149 q.pb a.m.pool, tMp q.ms entV (Value.int .i64) a.m.sets, tMp q.mt (Value.int .i64) pv (tptr q.T), tAll (q.T.map tT)] ++ [tMp ms entV (Value.int .i64) a.m.sets, tMp mt (Value.int .i64) pv (tptr T'), tSl r 94 2 kdv ys, tAll (ys.map tF), tPool 149 pb a.pool, tBlk cb 101 [.slice r.a r.len r.cap, .pointer (some ⟨pb, 0, none⟩), .map (some ms), .map (some mt)], tAll (T'.map tT)]) := h
      have h := W_shut (u := tEmp) (m := a.m) (q := q) (b := b) hok ht hk rfl rfl h
      have h := h.selL [0, 6, 0 + 3, 4, 5, 1, 2, 7] (by decide) (ts := [tW b a, tBlk cb 101 [.slice r.a r.len r.cap, .pointer (some ⟨pb, 0, none⟩), .map (some ms), .map (some mt)], tSl r 94 2 kdv ys, tAll (ys.map tF), tPool 149 pb a.pool, tMp ms entV (Value.int .i64) a.m.sets, tMp mt (Value.int .i64) pv (tptr T'), tAll (T'.map tT)]) rfl
      have h : Hp O w w13 ([tW b a] ++ [tBlk cb 101 [.slice r.a r.len r.cap, .pointer (some ⟨pb, 0, none⟩), .map (some ms), .map (some mt)], tSl r 94 2 kdv ys, tAll (ys.map tF), tPool 149 pb a.pool, tMp ms entV (Value.int .i64) a.m.sets, tMp mt (Value.int .i64) pv (tptr T'), tAll (T'.map tT)]) := h
      have h := h.emp1.selL [2, 0, 3, 4, 5, 6, 7, 8, 1] (by decide) (ts := [tBlk cb 101 [.slice r.a r.len r.cap, .pointer (some ⟨pb, 0, none⟩), .map (some ms), .map (some mt)], tEmp, tSl r 94 2 kdv ys, tAll (ys.map tF), tPool 149 pb a.pool, tMp ms entV (Value.int .i64) a.m.sets, tMp mt (Value.int .i64) pv (tptr T'), tAll (T'.map tT), tW b a]) rfl
      have hin : ∀ x, x ∈ (⟨r, ys, pb, ms, mt, T'⟩ : WH).tabs ↔ x ∈ q.tabs := by
        intro x
        constructor
        · intro hx
          obtain ⟨y, hy, rfl⟩ := List.mem_map.1 hx
          exact hT' y hy
        · intro hx
          obtain ⟨y, hy, rfl⟩ := List.mem_map.1 hx
          have hsome : (tptr q.T y.1).isSome = true := by
            cases hp : tptr q.T y.1 with
            | some _ => rfl
            | none => exact absurd rfl (tptr_none hp y hy)
          have hd := hall y.1 hsome
          rw [← hT'd] at hd
          obtain ⟨z, hz, hze⟩ := List.mem_map.1 hd
          have hzt := hT' z hz
          have hyt : (y.1, y.2.2) ∈ q.tabs := hx
          obtain ⟨i1, hi1⟩ := List.getElem?_of_mem hzt
          obtain ⟨i2, hi2⟩ := List.getElem?_of_mem hyt
          have : i1 = i2 := (List.getElem?_inj (i := i1) (j := i2) (l := q.tabs.map (·.1)) (by simpa using (List.getElem?_eq_some_iff.1 hi1).1) ht.nd).1 (by rw [List.getElem?_map, List.getElem?_map, hi1, hi2]; simp [hze])
          subst this
          rw [hi1] at hi2
          rw [← Option.some.inj hi2]
          exact List.mem_map.2 ⟨z, hz, rfl⟩
      have ht2 : Tabs a.ks a.row a.m.sets (⟨r, ys, pb, ms, mt, T'⟩ : WH).tabs := ht.same (by
        unfold WH.tabs
        rw [List.map_map]
        show (T'.map (·.1)).Nodup
        rw [hT'd]; exact hdn) hin
      have h := W_shut (u := tEmp) (m := a.m) (q := ⟨r, ys, pb, ms, mt, T'⟩) (b := cb) (rest := [tW b a]) hok ht2 (by show kinds ys = a.ks; rw [hys, hk]) rfl rfl h
      have h : Hp O w w13 ([tW cb a] ++ [tW b a]) := h
      exact hK cb w13 (W_fin hi back (rest := [tW cb a]) rfl h.comm)
    · obtain ⟨ki, t, hkT, htm⟩ := tabs_get ht.nd hg
      refine h.range_entry (k := s) (v := tb) 6 rfl hg ?_
      refine view_int (view_pv ?_)
      refine h.dr fun w15 h => ?_
      refine h.ld (n := 3) (k := .m) (x := some mt) 13 rfl rfl ?_
      refine FT.Clone_spec (ro_tab h 7 rfl hkT) 0 (ht.tok _ htm).1 rfl fun tb2 w16 h2 => ?_
      have h := h.r0 (rest := [tTab tb2 t]) rfl (h2.sel1 1 rfl)
      simp only [List.cons_append, List.nil_append, List.set_cons_zero, List.set_cons_succ] at h
      refine ⟨h.cel (n := 3) 13 rfl rfl, ?_⟩
      refine h.update (ek := Value.int .i64) (ev := pv) (g := tptr T') (k := s) (v := tb2) 9 rfl rfl und99 key3 rfl fun w17 h => ?_
      have hsn : tptr T' s = none := tptr_out (by rw [hT'd]; exact hno)
      rw [tptr_new (t := t) hsn] at h
      have h := h.join (i := 14) (j := 15) (a := tAll (T'.map tT)) (b := tT (s, tb2, t)) (c := tAll ((T' ++ [(s, tb2, t)]).map tT)) (by decide) rfl rfl (tAll_own _) rfl (tAll_own _) (fun w O1 O2 g1 g2 g3 => by
        rw [List.map_append]
        exact tAll_append g1 (us := [tT (s, tb2, t)]) (O2 := O2) ⟨O2, [], g2, rfl, by simp, by simp⟩ g3)
      have h := h.trim 15
      refine ⟨N2 - (done2.length + 1), by omega, done2 ++ [s], T' ++ [(s, tb2, t)], by simp, by rw [List.map_append, hT'd]; rfl, ?_, fun x hx => ?_, h⟩
      · rw [List.nodup_append]
        exact ⟨hdn, by simp, fun x hx y hy => by simp only [List.mem_singleton] at hy; subst hy; exact fun e => hno (e ▸ hx)⟩
      · rcases List.mem_append.1 hx with hx | hx
        · exact hT' x hx
        · simp only [List.mem_singleton] at hx
          subst hx; exact htm
  · refine h.range_entry (k := e) (v := s) 5 rfl hg ?_
    refine view_ent (view_int ?_)
    refine h.nw (c := [_, _]) fun eb w12 h => ?_
    refine h.st0 15 rfl (by simp) rfl fun w13 h => ?_
    refine h.st (n := 1) 15 rfl (by simp) rfl fun w14 h => ?_
    simp only [List.cons_append, List.nil_append, List.set_cons_zero, List.set_cons_succ] at h
    refine h.dr fun w15 h => ?_
    refine h.ld (n := 2) (k := .m) (x := some ms) 13 rfl rfl ?_
    refine h.ld0 (k := .i .i64) (x := e.1) 15 rfl rfl ?_
    refine h.ld (n := 1) (k := .i .i64) (x := e.2) 15 rfl rfl ?_
    refine h.update (ek := entV) (ev := Value.int .i64) (g := f) (k := e) (v := s) 8 rfl rfl und98 keyEnt rfl fun w16 h => ?_
    have h := h.trim 15
    refine ⟨N - (done.length + 1), by omega, done ++ [e], upd1 f e (some s), by simp, fun x => ?_, h⟩
    unfold upd1
    by_cases hs : x = e
    · rw [if_pos hs, if_pos (by simp [hs]), hs, hg]
    · rw [if_neg hs, hf x]
      by_cases hd : x ∈ done
      · rw [if_pos hd, if_pos (by simp [hd])]
      · rw [if_neg hd, if_neg (by simp [hd, hs])]

end
end Go.Proofs.Ytcccjgmekakabaa.FW
end

section
set_option linter.unusedSimpArgs false
set_option linter.unusedVariables false
set_option maxRecDepth 100000
namespace Go.Proofs.Ytcccjgmekakabaa.FW
open Go.Proofs.Ytcccjgmekakabaa.F
open Go Go.Den Go.Proofs
open Go.Proofs.Ytcccjgmekakabaa.FI (PoolM tPool pk bv bv_len)
open Go.Proofs.Ytcccjgmekakabaa.FT (TabM tTab Ent entV ent ent_len atI keyEnt iv iv_len)
open Go.Proofs.Ytcccjgmekakabaa.FP (putU zig encZ rowU tB putU_len encZ_len R64)
theorem partL_kind (what v : Int) (hw : -9223372036854775808 ≤ what) : 1 ≤ (partL what v).1 ∧ (partL what v).1 ≤ 4 := by
  obtain ⟨p0, p4⟩ := FI.pk_range (c := what) (n := 4) hw (by decide)
  show 1 ≤ pk what 4 + 1 ∧ pk what 4 + 1 ≤ 4
  omega

abbrev Deed := Int × Int × Int × Int

abbrev ddv (x : Deed) : List Value := [.int .i64 x.1, .int .i64 x.2.1, .int .i64 x.2.2.1, .int .i64 x.2.2.2]

theorem ddv_len (x : Deed) : (ddv x).length = 4 := rfl

theorem und61 : Try.prog.underlying 61 = some (.slice 4) := by kernel_rfl

theorem und35 : Try.prog.underlying 35 = some (.slice 43) := by kernel_rfl

section
variable {S : List Nat} {w0 w : World} {its : List Thing}
set_option maxHeartbeats 2000000 in
theorem shown_spec (h0 : Hp S w0 w its) {K : Bool → World → Prop} (hK : ∀ w', Hp S w0 w' its → K true w') : c7 w K := by
  refine c7_of ?_
  unfold f7
  have h := Hp.begin_ w
  refine usual_spec h fun sk w1 h => ?_
  refine New_W h 0 (s := sk) (l := usualK) rfl (by decide) (fun x hx => ?_) (fun _ b w2 h => ?_) (fun hno => absurd usual_may hno)
  · simp only [usualK, List.mem_cons, List.not_mem_nil, or_false] at hx
    rcases hx with rfl | rfl | rfl | rfl
    · exact ⟨by decide, by decide⟩
    · exact ⟨by decide, by decide⟩
    · exact ⟨by decide, by decide⟩
    · exact ⟨by decide, by decide⟩
  refine ifF (by simp) ?_
  refine h.nwS (l := [(7 : Int)]) (f := iv) (n := 1) (c := [_]) rfl rfl iv_len fun b1 w3 h => ?_
  refine h.nwS (l := [(1 : Int), 2]) (f := iv) (n := 1) (c := [_, _]) rfl rfl iv_len fun b2 w4 h => ?_
  refine h.nwS (l := [((2, ⟨some ⟨b1, 0, none⟩, 1, 1⟩, [7]) : PV), (1, ⟨some ⟨b2, 0, none⟩, 2, 2⟩, [1, 2])]) (f := pdv) (n := 2) (c := [_, _, _, _]) rfl rfl pdv_len fun b3 w5 h => ?_
  have h : Hp [] w w5 ([tKinds sk usualK, tW b (WA.new usualK)] ++ [tSl ⟨some ⟨b1, 0, none⟩, 1, 1⟩ 2 1 iv [7], tSl ⟨some ⟨b2, 0, none⟩, 2, 2⟩ 2 1 iv [1, 2]] ++ [tSl ⟨some ⟨b3, 0, none⟩, 2, 2⟩ 40 2 pdv [((2, ⟨some ⟨b1, 0, none⟩, 1, 1⟩, [7]) : PV), (1, ⟨some ⟨b2, 0, none⟩, 2, 2⟩, [1, 2])]]) := h
  have h := h.swap2
  rw [List.append_assoc] at h
  have h := h.nest_make (vis := pvis) (sub := tV) rfl
  have h : Hp [] w w5 [tKinds sk usualK, tW b (WA.new usualK), tParts ⟨some ⟨b3, 0, none⟩, 2, 2⟩ [(2, [7]), (1, [1, 2])]] := h
  refine Spawn_W h 1 2 (by decide) rfl rfl (by simp) (by simp [R64]) (by decide) fun w6 h => ?_
  rw [ex1]
  have h : Hp [] w w6 [tKinds sk usualK, tW b exA, tParts ⟨some ⟨b3, 0, none⟩, 2, 2⟩ [(2, [7]), (1, [1, 2])]] := h
  refine h.nw (c := [_, _]) fun ab w7 h => ?_
  refine h.st0 3 rfl (by simp) rfl fun w8 h => ?_
  refine h.st (n := 1) 3 rfl (by simp) rfl fun w9 h => ?_
  have h := h.nest_nil 40 2 pdv tV pvis
  refine Spawn_W h 1 4 (by decide) (a := exA) rfl rfl (by simp) (by simp) (by decide) fun w10 h => ?_
  rw [ex2]
  have h : Hp [] w w10 [tKinds sk usualK, tW b exB, tParts ⟨some ⟨b3, 0, none⟩, 2, 2⟩ [(2, [7]), (1, [1, 2])], tBlk ab 43 [.int .i64 0, .int .i64 1], tParts ⟨none, 0, 0⟩ []] := h
  refine h.nw (c := [_, _]) fun bb w11 h => ?_
  refine h.st0 5 rfl (by simp) rfl fun w12 h => ?_
  refine h.st (n := 1) 5 rfl (by simp) rfl fun w13 h => ?_
  refine h.ld0 (k := .i .i64) (x := (1 : Int)) 5 rfl rfl ?_
  refine h.ld (n := 1) (k := .i .i64) (x := (1 : Int)) 5 rfl rfl ?_
  have h := h.nil 2 1 iv
  have h : Hp [] w w13 [tKinds sk usualK, tW b exB, tParts ⟨some ⟨b3, 0, none⟩, 2, 2⟩ [(2, [7]), (1, [1, 2])], tBlk ab 43 [.int .i64 0, .int .i64 1], tParts ⟨none, 0, 0⟩ [], tBlk bb 43 [.int .i64 1, .int .i64 1], tSl ⟨none, 0, 0⟩ 2 1 iv []] := h
  refine Add_W h 1 6 (by decide) (e := (1, 1)) (kind := 3) (v := []) (a := exB) rfl rfl (by decide) (by decide) (by simp [R64]) fun w14 h => ?_
  rw [ex3]
  have h : Hp [] w w14 [tKinds sk usualK, tW b exC, tParts ⟨some ⟨b3, 0, none⟩, 2, 2⟩ [(2, [7]), (1, [1, 2])], tBlk ab 43 [.int .i64 0, .int .i64 1], tParts ⟨none, 0, 0⟩ [], tBlk bb 43 [.int .i64 1, .int .i64 1], tSl ⟨none, 0, 0⟩ 2 1 iv []] := h
  refine h.ld0 (k := .i .i64) (x := (1 : Int)) 5 rfl rfl ?_
  refine h.ld (n := 1) (k := .i .i64) (x := (1 : Int)) 5 rfl rfl ?_
  refine Add_W h 1 6 (by decide) (e := (1, 1)) (kind := 3) (v := []) (a := exC) rfl rfl (by decide) (by decide) (by simp [R64]) fun w15 h => ?_
  rw [ex4]
  have h : Hp [] w w15 [tKinds sk usualK, tW b exD, tParts ⟨some ⟨b3, 0, none⟩, 2, 2⟩ [(2, [7]), (1, [1, 2])], tBlk ab 43 [.int .i64 0, .int .i64 1], tParts ⟨none, 0, 0⟩ [], tBlk bb 43 [.int .i64 1, .int .i64 1], tSl ⟨none, 0, 0⟩ 2 1 iv []] := h
  refine h.ld0 (k := .i .i64) (x := (0 : Int)) 3 rfl rfl ?_
  refine h.ld (n := 1) (k := .i .i64) (x := (1 : Int)) 3 rfl rfl ?_
  refine Despawn_W h 1 (e := (0, 1)) (a := exD) rfl fun w16 h => ?_
  rw [ex5]
  have h : Hp [] w w16 [tKinds sk usualK, tW b exE, tParts ⟨some ⟨b3, 0, none⟩, 2, 2⟩ [(2, [7]), (1, [1, 2])], tBlk ab 43 [.int .i64 0, .int .i64 1], tParts ⟨none, 0, 0⟩ [], tBlk bb 43 [.int .i64 1, .int .i64 1], tSl ⟨none, 0, 0⟩ 2 1 iv []] := h
  refine ifT rfl (ifT rfl ?_)
  refine h.ld0 (k := .i .i64) (x := (0 : Int)) 3 rfl rfl ?_
  refine h.ld (n := 1) (k := .i .i64) (x := (1 : Int)) 3 rfl rfl ?_
  refine FT.eqEnt (ifT rfl ?_)
  refine h.ld0 (k := .i .i64) (x := (1 : Int)) 5 rfl rfl ?_
  refine h.ld (n := 1) (k := .i .i64) (x := (1 : Int)) 5 rfl rfl ?_
  refine FT.eqEnt (ifT rfl ?_)
  refine ifT rfl (ifT rfl (ifT rfl ?_))
  refine Snapshot_W h 1 (a := exE) rfl fun s w17 h => ?_
  refine h.rdb 7 (u := tB s exE.snap) rfl Hp.rdSl ⟨#[2, 0, 2, 2, 1, 0, 0, 8]⟩ ex6.symm ?_
  have := h0.r0 (rest := []) rfl (h.trim 0)
  rw [List.append_nil] at this
  have e : ((⟨#[2, 0, 2, 2, 1, 0, 0, 8]⟩ : ByteArray).toList == (⟨#[2, 0, 2, 2, 1, 0, 0, 8]⟩ : ByteArray).toList) = true := by simp
  rw [e]
  exact hK w17 this

/-- What is known of all that were given. -/
structure Stale (a : WA) (A : List Ent) (O : List Bool) (living : Int) (k : Nat) : Prop where
  ks : a.ks = usualK
  most : a.pool.most = 200
  good : ∃ L, FI.Good a.pool L A k ∧ living = L.length
  len : O.length = A.length
  on : ∀ (j : Nat) (x : Ent) (o : Bool), A[j]? = some x → O[j]? = some o → o = a.pool.is x.1 x.2
  nd : A.Nodup

end
end Go.Proofs.Ytcccjgmekakabaa.FW
end
