/-
  Contracts of package pack, sixth part: rows are read.
-/
import Derived.Test.YtbmpgjheiknjlaaC01y
import Derived.Test.YtbmpgjheiknjlaaM01c
set_option linter.unusedSimpArgs false
set_option linter.unusedVariables false
set_option maxRecDepth 100000
namespace Go.Proofs.Ytbmpgjheiknjlaa.F
open Go Go.Den Go.Proofs

def expand (D : List (Int × Int)) : List Int := D.flatMap fun x => List.replicate x.1.toNat x.2
theorem expand_runT : ∀ (r : List Int) (y : Int), List.replicate (cnt y r) y ++ expand (runT (some y) r) = r
  | [], y => by simp [cnt, runT, expand]
  | x :: r, y => by
    by_cases h : x = y
    · subst h
      rw [runT_cons, if_pos rfl, cnt, if_pos rfl, List.replicate_succ, List.cons_append, expand_runT r x]
    · rw [runT_cons, if_neg (by simpa using Ne.symm h), cnt, if_neg h]
      have := expand_runT r x
      unfold expand at this ⊢
      rw [List.flatMap_cons]
      simp only [Int.toNat_natCast, List.replicate_succ, List.replicate_zero, List.nil_append, List.cons_append]
      rw [this]
theorem expand_runsL (l : List Int) : expand (runsL l) = l := by
  cases l with
  | nil => rfl
  | cons x r =>
    unfold runsL
    rw [runT_cons, if_neg (by simp)]
    have := expand_runT r x
    unfold expand at this ⊢
    rw [List.flatMap_cons]
    simp only [Int.toNat_natCast, List.replicate_succ, List.cons_append]
    rw [this]

abbrev rdB (s : Sl) (bad : Bool) : List Value := [.slice s.a s.len s.cap, .bool bad]

section
variable {S : List Nat} {w0 w : World} {its : List Thing}

theorem number_spec {u : Thing} {br : Nat} {s : Sl} {bad : Bool} {cur : List Int} {R : List Thing} (h : Hp S w0 w (u :: tBlk br 66 (rdB s bad) :: R)) (hu : Hp.Reads u s 1 u8v cur) (hb : Bytes cur) (hl : cur.length ≤ 9000000000000000) (hcap : s.len ≤ s.cap) {K : Int → World → Prop}
    (hK : ∀ s' w', Hp.Reads u s' 1 u8v (cur.drop (getU cur).2.toNat) → s'.len ≤ s'.cap → Hp S w0 w' (u :: tBlk br 66 (rdB s' (cond bad true ((getU cur).2 == 0))) :: R) → K (getU cur).1 w') : c43 (some ⟨br, 0, none⟩) w K := by
  refine c43_of ?_
  unfold f43
  obtain ⟨r0, r1, r2, r3, r4, r5⟩ := getU_range hb
  have hsl := h.lenU 0 rfl hu
  refine nns ?_
  refine h.ld0 (k := .sl) (x := s) 1 rfl rfl ?_
  refine Get_spec h 0 (u := u) rfl hu hb hl ?_
  refine nns ?_
  refine h.ld (k := .b) (x := bad) 1 rfl rfl ?_
  refine nns ?_
  refine h.st 1 rfl (by simp) rfl fun w1 h => ?_
  refine nns ?_
  simp only [List.set_cons_zero, List.set_cons_succ] at h
  refine h.ld0 (k := .sl) (x := s) 1 rfl rfl ?_
  refine Hp.cutv (s := s) hu hsl u8v_len r2 (by omega) (by omega) (Int.le_refl _) (by omega) fun s' hs' hl' hc' => ?_
  refine nns ?_
  refine h.st0 1 rfl (by simp) rfl fun w1 h => ?_
  simp only [List.set_cons_zero, List.set_cons_succ] at h
  have e : (cur.take ((s.len : Int)).toNat).drop (getU cur).2.toNat = cur.drop (getU cur).2.toNat := by
    rw [List.take_of_length_le (by omega)]
  rw [e] at hs'
  exact hK s' w1 hs' (by omega) h

/-- What reading leaves: a rest of the bytes. -/
def Suf (cur cur' : List Int) : Prop := ∃ p, cur = p ++ cur'
theorem Suf.refl (c : List Int) : Suf c c := ⟨[], rfl⟩
theorem Suf.drop {c c' : List Int} (h : Suf c c') (n : Nat) : Suf c (c'.drop n) := by
  obtain ⟨p, rfl⟩ := h
  exact ⟨p ++ c'.take n, by rw [List.append_assoc, List.take_append_drop]⟩
theorem Suf.bytes {c c' : List Int} (h : Suf c c') (hb : Bytes c) : Bytes c' := by
  obtain ⟨p, rfl⟩ := h
  exact fun x hx => hb x (by simp [hx])
theorem Suf.len {c c' : List Int} (h : Suf c c') : c'.length ≤ c.length := by
  obtain ⟨p, rfl⟩ := h
  simp

/-- After reading: X is what a canonical text of n numbers holds. -/
def Says (form n : Int) (cur : List Int) (X cur' : List Int) (bad : Bool) : Prop :=
  ∀ l rest, cur = formU form l ++ rest → (l.length : Int) = n → R64 l → X = l ∧ cur' = rest ∧ bad = false

theorem drop_num (a b : List Int) {k : Int} (h : k = (a.length : Int)) : (a ++ b).drop k.toNat = b := by
  subst h
  rw [Int.toNat_natCast, List.drop_left]

set_option maxHeartbeats 4000000 in
theorem read_spec {u : Thing} {br : Nat} {s : Sl} {cur : List Int} {form n : Int} (h : Hp S w0 w [u, tBlk br 66 (rdB s false)]) (hu : Hp.Reads u s 1 u8v cur) (hb : Bytes cur) (hl : cur.length ≤ 9000000000000000) (hcap : s.len ≤ s.cap)
    (hf0 : 0 ≤ form) (hn0 : 0 < n) (hn1 : n ≤ 100000) {K : Sl → World → Prop}
    (hK : ∀ out s' X cur' bad w', Hp.Reads u s' 1 u8v cur' → s'.len ≤ s'.cap → Suf cur cur' → R64 X → (X.length : Int) ≤ n → (2 < form → bad = true) → (form = 0 ∨ form = 1 ∨ form = 2 → Says form n cur X cur' bad) → Hp S w0 w' [u, tBlk br 66 (rdB s' bad), tSl out 2 1 iv X] → K out w') : c44 (some ⟨br, 0, none⟩) form n w K := by
  refine c44_of ?_
  unfold f44
  obtain ⟨inf, q1, q2, q3, q4⟩ := inf2
  have h := h.nil 2 1 iv
  simp only [List.cons_append, List.nil_append] at h
  have hwn : ∀ X : List Int, (X.length : Int) ≤ n → ∀ o : Sl, X.length = o.len → IntKind.u64.wrap (o.len : Int) = (X.length : Int) := fun X hX o ho => by rw [w64]; omega
  -- the first loop
  refine ⟨fun out w' => ∃ X cur1 s1 bad1, Hp.Reads u s1 1 u8v cur1 ∧ s1.len ≤ s1.cap ∧ Suf cur cur1 ∧ R64 X ∧ (X.length : Int) ≤ n ∧ (2 ≤ form → bad1 = false ∧ X = [] ∧ cur1 = cur) ∧ (form = 0 ∨ form = 1 → Says form n cur X cur1 bad1) ∧ Hp S w0 w' [u, tBlk br 66 (rdB s1 bad1), tSl out 2 1 iv X], ?_, ?_⟩
  · refine ⟨fun out last m w' => ∃ X cur1 s1 bad1, Hp.Reads u s1 1 u8v cur1 ∧ s1.len ≤ s1.cap ∧ Suf cur cur1 ∧ R64 X ∧ (X.length : Int) ≤ n ∧ (2 ≤ form → bad1 = false ∧ X = [] ∧ cur1 = cur) ∧ m = n.toNat - X.length ∧
        (∀ l rest, (form = 0 ∨ form = 1) → cur = formU form l ++ rest → (l.length : Int) = n → R64 l → bad1 = false ∧ ∃ k, X = l.take k ∧ k ≤ l.length ∧ cur1 = (if form = 0 then encZ (l.drop k) else encS last (l.drop k)) ++ rest) ∧
        Hp S w0 w' [u, tBlk br 66 (rdB s1 bad1), tSl out 2 1 iv X],
      ⟨n.toNat, [], cur, s, false, hu, hcap, Suf.refl _, (by intro x hx; cases hx), (by simp; omega), fun _ => ⟨rfl, rfl, rfl⟩, by simp, ?_, h⟩, ?_⟩
    · intro l rest hf hc hln hr
      refine ⟨rfl, 0, rfl, by omega, ?_⟩
      rw [hc]
      rcases hf with rfl | rfl <;> rfl
    rintro out last m w1 ⟨X, cur1, s1, bad1, hr1, hc1, hsuf, hX, hXn, h2f, rfl, hsay, h⟩
    have hol := h.len (s := out) 2 rfl
    -- what it means to end here
    have done : (n ≤ X.length ∨ bad1 = true ∨ 2 ≤ form) → ∃ X cur1 s1 bad1, Hp.Reads u s1 1 u8v cur1 ∧ s1.len ≤ s1.cap ∧ Suf cur cur1 ∧ R64 X ∧ (X.length : Int) ≤ n ∧ (2 ≤ form → bad1 = false ∧ X = [] ∧ cur1 = cur) ∧ (form = 0 ∨ form = 1 → Says form n cur X cur1 bad1) ∧ Hp S w0 w1 [u, tBlk br 66 (rdB s1 bad1), tSl out 2 1 iv X] := by
      intro hend
      refine ⟨X, cur1, s1, bad1, hr1, hc1, hsuf, hX, hXn, h2f, ?_, h⟩
      intro hf l rest hc hln hr
      obtain ⟨g1, k, g2, g3, g4⟩ := hsay l rest hf hc hln hr
      have hXl : X.length = k := by rw [g2, List.length_take]; omega
      have hkl : k = l.length := by
        rcases hend with h | h | h
        · omega
        · rw [g1] at h; cases h
        · omega
      subst hkl
      rw [List.take_length] at g2
      rw [List.drop_length] at g4
      refine ⟨g2, ?_, g1⟩
      rw [g4]
      rcases hf with rfl | rfl <;> simp [encZ, encS]
    refine ⟨fun w' => w' = w1 ∧ (X.length : Int) < n ∧ bad1 = false ∧ form < 2, ?_, ?_⟩
    · rw [hwn X hXn out hol]
      by_cases c1 : (X.length : Int) < n
      · refine ifT (by simpa using c1) ?_
        refine nns ?_
        refine h.ld (k := .b) (x := bad1) 1 rfl rfl ?_
        cases hbad : bad1 with
        | true => subst hbad; exact ifF (by simp) (done (.inr (.inl rfl)))
        | false =>
          subst hbad
          refine ifT (by simp) ?_
          by_cases c2 : form < 2
          · exact ifT (by simpa using c2) ⟨rfl, c1, rfl, c2⟩
          · exact ifF (by simpa using c2) (done (.inr (.inr (by omega))))
      · exact ifF (by simpa using c1) (done (.inl (by omega)))
    · rintro w2 ⟨rfl, c1, rfl, c2⟩
      have hb1 := hsuf.bytes hb
      have hl1 := hsuf.len
      obtain ⟨r0, r1, r2, r3, r4, r5⟩ := getU_range hb1
      refine number_spec h hr1 hb1 (by omega) hc1 fun s2 w3 hr2 hc2 h => ?_
      refine plain_spec r0 r1 ?_
      have hz := zag_range r0 r1
      -- the number that is put
      have step : ∀ (y last2 : Int) (hy : -9223372036854775808 ≤ y ∧ y ≤ 9223372036854775807), y = (if form = 1 then IntKind.i64.wrap (zag (getU cur1).1 + last) else zag (getU cur1).1) → (form = 1 → last2 = y) →
          ∀ s3 w4, Hp S w0 w4 [u, tBlk br 66 (rdB s2 (cond false true ((getU cur1).2 == 0))), tSl s3 2 1 iv (X ++ [y])] →
          ∃ m2 : Nat, m2 < n.toNat - X.length ∧ ∃ X cur1 s1 bad1, Hp.Reads u s1 1 u8v cur1 ∧ s1.len ≤ s1.cap ∧ Suf cur cur1 ∧ R64 X ∧ (X.length : Int) ≤ n ∧ (2 ≤ form → bad1 = false ∧ X = [] ∧ cur1 = cur) ∧ m2 = n.toNat - X.length ∧
            (∀ l rest, (form = 0 ∨ form = 1) → cur = formU form l ++ rest → (l.length : Int) = n → R64 l → bad1 = false ∧ ∃ k, X = l.take k ∧ k ≤ l.length ∧ cur1 = (if form = 0 then encZ (l.drop k) else encS last2 (l.drop k)) ++ rest) ∧
            Hp S w0 w4 [u, tBlk br 66 (rdB s1 bad1), tSl s3 2 1 iv X] := by
        intro y last2 hy hye hlast s3 w4 h
        refine ⟨n.toNat - (X.length + 1), by omega, X ++ [y], _, s2, _, hr2, hc2, hsuf.drop _, ?_, by simp; omega, by intro; omega, by simp, ?_, h⟩
        · intro z hz
          rcases List.mem_append.1 hz with hz | hz
          · exact hX z hz
          · simp only [List.mem_singleton] at hz; subst hz; exact hy
        · intro l rest hf hc hln hr
          obtain ⟨g1, k, g2, g3, g4⟩ := hsay l rest hf hc hln hr
          have hXl : X.length = k := by rw [g2, List.length_take]; omega
          have hkl : k < l.length := by omega
          have hd : l.drop k = l[k] :: l.drop (k + 1) := List.drop_eq_getElem_cons hkl
          have htk : l.take (k + 1) = l.take k ++ [l[k]] := List.take_succ_eq_append_getElem hkl
          have hxr := hr l[k] (List.getElem_mem hkl)
          rw [hd] at g4
          generalize l[k] = x at hd htk hxr g4
          rcases hf with rfl | rfl
          · have e : cur1 = putU (zig x) ++ (encZ (l.drop (k + 1)) ++ rest) := by
              rw [g4, if_pos rfl]; simp [encZ]
            have hg := getI_put hxr.1 hxr.2 (encZ (l.drop (k + 1)) ++ rest)
            rw [← e] at hg
            have hp := putU_pos (zig x)
            rw [if_neg (by omega)] at hye
            rw [hg, zag_zig] at hye
            refine ⟨by rw [hg]; simp; intro h0; rw [h0] at hp; simp at hp, k + 1, by rw [htk, ← g2, hye], by omega, ?_⟩
            rw [hg, if_pos rfl, e]
            exact drop_num _ _ rfl
          · have e : cur1 = putU (zig (IntKind.i64.wrap (x - last))) ++ (encS x (l.drop (k + 1)) ++ rest) := by
              rw [g4, if_neg (by omega), encS]; simp
            have hg := getI_put (wr64lo (x - last)) (wr64hi (x - last)) (encS x (l.drop (k + 1)) ++ rest)
            rw [← e] at hg
            have hp := putU_pos (zig (IntKind.i64.wrap (x - last)))
            rw [if_pos rfl, hg, zag_zig] at hye
            have hyx : y = x := by
              rw [hye, wi64, wi64]
              split <;> split <;> omega
            have hl2 := hlast rfl
            refine ⟨by rw [hg]; simp; intro h0; rw [h0] at hp; simp at hp, k + 1, by rw [htk, ← g2, hyx], by omega, ?_⟩
            rw [hg, if_neg (by omega), hl2, hyx, e]
            exact drop_num _ _ rfl
      by_cases c3 : form = 1
      · refine ifT (by simpa using c3) ?_
        refine h.nwapp (c := [_]) 2 (IntKind.i64.wrap (zag (getU cur1).1 + last)) rfl iv_len und24 q1 q3 q2 rfl rfl (by simp [Value.oneCell']) (by rw [q4]; omega) (by omega) fun s3 w4 h _ _ => ?_
        exact step _ _ ⟨wr64lo _, wr64hi _⟩ (by rw [if_pos c3]) (fun _ => rfl) s3 w4 h
      · refine ifF (by simpa using c3) ?_
        refine h.nwapp (c := [_]) 2 (zag (getU cur1).1) rfl iv_len und24 q1 q3 q2 rfl rfl (by simp [Value.oneCell']) (by rw [q4]; omega) (by omega) fun s3 w4 h _ _ => ?_
        exact step _ _ hz (by rw [if_neg c3]) (fun hf => absurd hf c3) s3 w4 h
  · rintro out w1 ⟨X, cur1, s1, bad1, hr1, hc1, hsuf, hX, hXn, h2f, hsay, h⟩
    by_cases hf2 : form = 2
    · subst hf2
      obtain ⟨rfl, rfl, hcc⟩ := h2f (by omega)
      have hcc := hcc.symm
      subst hcc
      refine ifF (by simp) ?_
      obtain ⟨r0, r1, r2, r3, r4, r5⟩ := getU_range hb
      refine number_spec h hr1 hb hl hc1 fun s2 w2 hr2 hc2 h => ?_
      refine ⟨fun out5 k2 m w' => ∃ X cur1 s1 bad1, Hp.Reads u s1 1 u8v cur1 ∧ s1.len ≤ s1.cap ∧ Suf cur cur1 ∧ R64 X ∧ (X.length : Int) ≤ n ∧ 0 ≤ k2 ∧ k2 < 18446744073709551616 ∧ m = 2 * cur1.length + (if bad1 = true then 0 else 1) ∧
          (∀ l rest, cur = formU 2 l ++ rest → (l.length : Int) = n → R64 l → bad1 = false ∧ ∃ D T, runsL l = D ++ T ∧ X = expand D ∧ cur1 = T.flatMap encP ++ rest ∧ k2 = T.length) ∧
          Hp S w0 w' [u, tBlk br 66 (rdB s1 bad1), tSl out5 2 1 iv X],
        ⟨_, [], _, s2, _, hr2, hc2, (Suf.refl _).drop _, (by intro x hx; cases hx), (by simp; omega), r0, r1, rfl, ?_, h⟩, ?_⟩
      · intro l rest hc hln hr
        have hrl := runsL_len l
        have e : cur = putU ((runsL l).length : Int) ++ ((runsL l).flatMap encP ++ rest) := by
          rw [hc]; show encR l ++ rest = _; simp [encR]
        have hg := getU_put (n := ((runsL l).length : Int)) (by omega) (by omega) ((runsL l).flatMap encP ++ rest)
        rw [← e] at hg
        have hp := putU_pos ((runsL l).length : Int)
        refine ⟨by rw [hg]; simp; intro h0; rw [h0] at hp; simp at hp, [], runsL l, rfl, rfl, ?_, by rw [hg]⟩
        rw [hg, e]
        exact drop_num _ _ rfl
      clear r0 r1 r2 r3 r4 r5 hr2 hc2 h hr1 hc1 hsuf hX hXn hsay h2f
      rintro out5 k2 m w3 ⟨X, cur1, s1, bad1, hr1, hc1, hsuf, hX, hXn, k0, k1, rfl, hsay, h⟩
      have hol := h.len (s := out5) 2 rfl
      have done : (k2 = 0 ∨ bad1 = true) → K out5 w3 := by
        intro hend
        refine hK out5 s1 X cur1 bad1 w3 hr1 hc1 hsuf hX hXn (by omega) ?_ h
        intro _ l rest hc hln hr
        obtain ⟨g1, D, T, g2, g3, g4, g5⟩ := hsay l rest hc hln hr
        have hT : T = [] := by
          rcases hend with h | h
          · exact List.eq_nil_of_length_eq_zero (by omega)
          · rw [g1] at h; cases h
        subst hT
        rw [List.append_nil] at g2
        refine ⟨by rw [g3, ← g2, expand_runsL], by rw [g4]; rfl, g1⟩
      refine ⟨fun w' => w' = w3 ∧ 0 < k2 ∧ bad1 = false, ?_, ?_⟩
      · by_cases c1 : k2 > 0
        · refine ifT (by simpa using c1) ?_
          refine nns ?_
          refine h.ld (k := .b) (x := bad1) 1 rfl rfl ?_
          cases hbad : bad1 with
          | true => subst hbad; exact ifF (by simp) (done (.inr rfl))
          | false => subst hbad; exact ifT (by simp) ⟨rfl, c1, rfl⟩
        · exact ifF (by simpa using c1) (done (.inl (by omega)))
      · rintro w4 ⟨rfl, c1, rfl⟩
        have hb1 := hsuf.bytes hb
        have hl1 := hsuf.len
        obtain ⟨a0, a1, a2, a3, a4, a5⟩ := getU_range hb1
        refine number_spec h hr1 hb1 (by omega) hc1 fun s2 w5 hr2 hc2 h => ?_
        have hsuf2 := hsuf.drop (getU cur1).2.toNat
        have hb2 := hsuf2.bytes hb
        have hl2 := hsuf2.len
        have hlen2 : (cur1.drop (getU cur1).2.toNat).length = cur1.length - (getU cur1).2.toNat := List.length_drop
        generalize hcur2 : cur1.drop (getU cur1).2.toNat = cur2 at *
        obtain ⟨b0, b1, b2, b3, b4, b5⟩ := getU_range hb2
        refine number_spec h hr2 hb2 (by omega) hc2 fun s3 w6 hr3 hc3 h => ?_
        refine plain_spec b0 b1 ?_
        have hz := zag_range b0 b1
        have hsuf3 := hsuf2.drop (getU cur2).2.toNat
        have hlen3 : (cur2.drop (getU cur2).2.toNat).length = cur2.length - (getU cur2).2.toNat := List.length_drop
        refine nns ?_
        refine h.ld (k := .b) 1 rfl rfl ?_
        refine nns ?_
        refine h.st 1 rfl (by simp) rfl fun w6 h => ?_
        simp only [List.set_cons_zero, List.set_cons_succ] at h
        have ewn : IntKind.u64.wrap (n - IntKind.u64.wrap (out5.len : Int)) = n - X.length := by
          rw [hwn X hXn out5 hol, w64]; omega
        rw [ewn] at h
        generalize hbd : (cond (cond (cond false true ((getU cur1).2 == 0)) true ((getU cur2).2 == 0)) true (decide ((getU cur1).1 > n - (X.length : Int)))) = bad' at h
        have hbd' : bad' = false → (getU cur1).2 ≠ 0 ∧ (getU cur1).1 ≤ n - X.length := by
          intro hb'
          rw [hb'] at hbd
          cases h1 : ((getU cur1).2 == 0) with
          | true => rw [h1] at hbd; cases h2 : ((getU cur2).2 == 0) <;> rw [h2] at hbd <;> simp at hbd
          | false =>
            refine ⟨by simpa using h1, ?_⟩
            rw [h1] at hbd
            cases h2 : ((getU cur2).2 == 0) with
            | true => rw [h2] at hbd; simp at hbd
            | false => rw [h2] at hbd; simpa using hbd
        -- the canonical one
        have canon : ∀ l rest, cur = formU 2 l ++ rest → (l.length : Int) = n → R64 l → bad' = false ∧ ∃ D T, runsL l = D ++ T ∧ X ++ List.replicate (getU cur1).1.toNat (zag (getU cur2).1) = expand D ∧ cur2.drop (getU cur2).2.toNat = T.flatMap encP ++ rest ∧ k2 - 1 = T.length := by
          intro l rest hc hln hr
          obtain ⟨g1, D, T, g2, g3, g4, g5⟩ := hsay l rest hc hln hr
          match T, g2, g4, g5 with
          | [], g2, g4, g5 => simp at g5; omega
          | (q, y) :: T, g2, g4, g5 =>
            have hmem := runT_mem none l (q, y) (by show (q, y) ∈ runsL l; rw [g2]; simp)
            have hyr := hr y hmem.2.2
            obtain ⟨m1, m2, _⟩ := hmem
            dsimp only at m1 m2
            have e1 : cur1 = putU q ++ (putU (zig y) ++ (T.flatMap encP ++ rest)) := by rw [g4]; simp [encP]
            have hg1 := getU_put (n := q) (by omega) (by omega) (putU (zig y) ++ (T.flatMap encP ++ rest))
            rw [← e1] at hg1
            have e2 : cur2 = putU (zig y) ++ (T.flatMap encP ++ rest) := by
              rw [← hcur2, hg1, e1]; exact drop_num _ _ rfl
            have hg2 := getI_put hyr.1 hyr.2 (T.flatMap encP ++ rest)
            rw [← e2] at hg2
            have hp1 := putU_pos q
            have hp2 := putU_pos (zig y)
            have hexp := expand_runsL l
            rw [g2] at hexp
            have hlen : X.length + q.toNat ≤ l.length := by
              rw [← hexp, g3]
              simp only [expand, List.flatMap_append, List.flatMap_cons, List.length_append, List.length_replicate]
              omega
            refine ⟨?_, D ++ [(q, y)], T, by rw [g2]; simp, ?_, ?_, ?_⟩
            · rw [← hbd, hg1, hg2]
              have n1 : (((putU q).length : Int) == 0) = false := by simp; intro h0; rw [h0] at hp1; simp at hp1
              have n2 : (((putU (zig y)).length : Int) == 0) = false := by simp; intro h0; rw [h0] at hp2; simp at hp2
              have n3 : ¬ (q > n - (X.length : Int)) := by omega
              dsimp only
              rw [n1, n2, decide_eq_false n3]; rfl
            · rw [hg1, hg2, zag_zig, g3]
              simp [expand]
            · rw [hg2, e2]; exact drop_num _ _ rfl
            · simp only [List.length_cons] at g5; omega
        refine ⟨fun out6 many2 m w' => ∃ X', R64 X' ∧ (X'.length : Int) ≤ n ∧ 0 ≤ many2 ∧ many2 < 18446744073709551616 ∧ m = many2.toNat ∧ (bad' = false → (X'.length : Int) + many2 ≤ n ∧ X' ++ List.replicate many2.toNat (zag (getU cur2).1) = X ++ List.replicate (getU cur1).1.toNat (zag (getU cur2).1)) ∧
            Hp S w0 w' [u, tBlk br 66 (rdB s3 bad'), tSl out6 2 1 iv X'],
          ⟨_, X, hX, hXn, a0, a1, rfl, fun hb' => ⟨by have := (hbd' hb').2; omega, rfl⟩, h⟩, ?_⟩
        rintro out6 many2 m w7 ⟨X', hX', hXn', n0, n1, rfl, hgo, h⟩
        have hol' := h.len (s := out6) 2 rfl
        have next : (many2 = 0 ∨ bad' = true) → ∃ m4 : Nat, m4 < 2 * cur1.length + (if false = true then 0 else 1) ∧ ∃ X cur1 s1 bad1, Hp.Reads u s1 1 u8v cur1 ∧ s1.len ≤ s1.cap ∧ Suf cur cur1 ∧ R64 X ∧ (X.length : Int) ≤ n ∧ 0 ≤ IntKind.u64.wrap (k2 - 1) ∧ IntKind.u64.wrap (k2 - 1) < 18446744073709551616 ∧ m4 = 2 * cur1.length + (if bad1 = true then 0 else 1) ∧
            (∀ l rest, cur = formU 2 l ++ rest → (l.length : Int) = n → R64 l → bad1 = false ∧ ∃ D T, runsL l = D ++ T ∧ X = expand D ∧ cur1 = T.flatMap encP ++ rest ∧ IntKind.u64.wrap (k2 - 1) = T.length) ∧
            Hp S w0 w7 [u, tBlk br 66 (rdB s1 bad1), tSl out6 2 1 iv X] := by
          intro hend
          have ewk : IntKind.u64.wrap (k2 - 1) = k2 - 1 := by rw [w64]; omega
          rw [ewk]
          refine ⟨2 * (cur2.drop (getU cur2).2.toNat).length + (if bad' = true then 0 else 1), ?_, X', _, s3, bad', hr3, hc3, hsuf3, hX', hXn', by omega, by omega, rfl, ?_, h⟩
          · cases hb' : bad' with
            | true => simp; omega
            | false =>
              have := (hbd' hb').1
              simp; omega
          · intro l rest hc hln hr
            obtain ⟨g1, D, T, g2, g3, g4, g5⟩ := canon l rest hc hln hr
            obtain ⟨_, g6⟩ := hgo g1
            have hm : many2 = 0 := by
              rcases hend with h | h
              · exact h
              · rw [g1] at h; cases h
            rw [hm] at g6
            simp only [Int.toNat_zero, List.replicate_zero, List.append_nil] at g6
            exact ⟨g1, D, T, g2, by rw [g6, g3], g4, g5⟩
        refine ⟨fun w' => w' = w7 ∧ 0 < many2 ∧ bad' = false, ?_, ?_⟩
        · by_cases c2 : many2 > 0
          · refine ifT (by simpa using c2) ?_
            refine nns ?_
            refine h.ld (k := .b) (x := bad') 1 rfl rfl ?_
            cases hb' : bad' with
            | true => exact ifF (by simp) (next (.inr hb'))
            | false => exact ifT (by simp) ⟨rfl, c2, rfl⟩
          · exact ifF (by simpa using c2) (next (.inl (by omega)))
        · rintro w8 ⟨rfl, c2, hb'⟩
          obtain ⟨g1, g2⟩ := hgo hb'
          refine h.nwapp (c := [_]) 2 (zag (getU cur2).1) rfl iv_len und24 q1 q3 q2 rfl rfl (by simp [Value.oneCell']) (by rw [q4]; omega) (by omega) fun s4 w9 h _ _ => ?_
          have ewm : IntKind.u64.wrap (many2 - 1) = many2 - 1 := by rw [w64]; omega
          rw [ewm]
          refine ⟨(many2 - 1).toNat, by omega, X' ++ [zag (getU cur2).1], ?_, by simp; omega, by omega, by omega, rfl, fun _ => ⟨by simp; omega, ?_⟩, h⟩
          · intro z hz'
            rcases List.mem_append.1 hz' with hz' | hz'
            · exact hX' z hz'
            · simp only [List.mem_singleton] at hz'; subst hz'; exact hz
          · rw [← g2, show many2.toNat = (many2 - 1).toNat + 1 by omega, List.replicate_succ]
            simp
    · refine ifT (by simpa using hf2) ?_
      refine nns ?_
      refine h.ld (k := .b) (x := bad1) 1 rfl rfl ?_
      refine nns ?_
      refine h.st 1 rfl (by simp) rfl fun w2 h => ?_
      simp only [List.set_cons_zero, List.set_cons_succ] at h
      refine hK out s1 X cur1 (cond bad1 true (decide (form > 2))) w2 hr1 hc1 hsuf hX hXn ?_ ?_ h
      · intro hlt; rw [decide_eq_true (show form > 2 from hlt)]; cases bad1 <;> rfl
      · intro hf l rest hc hln hr
        have hf' : form = 0 ∨ form = 1 := by omega
        obtain ⟨g1, g2, g3⟩ := hsay hf' l rest hc hln hr
        have : ¬ form > 2 := by omega
        exact ⟨g1, g2, by rw [g3]; simp [this]⟩
end
end Go.Proofs.Ytbmpgjheiknjlaa.F
