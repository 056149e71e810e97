/-
  Contracts of package record, and of the document's own: the document's Get; Scan, both.
-/
import Derived.Test.YtmbbfaigbhnhcaaC02e
set_option linter.unusedSimpArgs false
set_option linter.unusedVariables false
set_option maxRecDepth 100000
namespace Go.Proofs.Ytmbbfaigbhnhcaa.F
open Go Go.Den Go.Proofs

def inA (x : Sl × List Int) : Thing := tSl x.1 5 1 u8v x.2

section
variable {S : List Nat} {w0 w : World} {its : List Thing}

theorem all_in {w : World} {kL : List (Sl × List Int)} {O : List Nat} {i : Nat} {x : Sl × List Int} (hx : kL[i]? = some x) (h : (tAll (kL.map inA)).holds w O) : ∃ o, SlR w x.1 1 u8v x.2 o := by
  obtain ⟨O1, O2, g, _⟩ := tAll_pick (k := i) (t := inA x) (by rw [List.getElem?_map, hx]; rfl) h
  exact ⟨O1, SlF.toR g⟩
theorem all_reads {kL : List (Sl × List Int)} {i : Nat} {x : Sl × List Int} (hx : kL[i]? = some x) : Hp.Reads (tAll (kL.map inA)) x.1 1 u8v x.2 := ⟨fun hO => all_in hx hO⟩
/-- One more to all. -/
theorem all_more (h : Hp S w0 w its) {i j : Nat} (hne : i ≠ j) {kL : List (Sl × List Int)} {x : Sl} {l : List Int} (hi : its[i]? = some (tAll (kL.map inA))) (hj : its[j]? = some (tB x l)) : Hp S w0 w ((its.set i (tAll ((kL ++ [(x, l)]).map inA))).set j tEmp) :=
  h.join (c := tAll ((kL ++ [(x, l)]).map inA)) hne hi hj (tAll_own _) rfl (tAll_own _) (fun w O1 O2 g1 g2 g3 => by
    rw [List.map_append]
    exact tAll_append g1 (us := [inA (x, l)]) (O2 := O2) ⟨O2, [], g2, rfl, by simp, by simp⟩ g3)

set_option maxHeartbeats 1000000 in
/-- The document's Get. -/
theorem RRecGet_spec (h : Hp S w0 w its) (j : Nat) {u : Thing} {b : Sl} {bs : List Int} (hj : its[j]? = some u) (hu : Hp.Reads u b 1 u8v bs) (hb : Bytes bs) (hl : bs.length ≤ 9000000000000000) (hcap : b.len ≤ b.cap) {K : Sl → Int → World → Prop}
    (hK : ∀ s w', Hp S w0 w' (its ++ [tB s (getR bs).1]) → K s (getR bs).2 w') : c26 b w K := by
  refine c26_of ?_
  unfold f26
  have hbl := h.lenU j (by rw [hj]; rfl) hu
  have none_ : getR bs = ([], 0) → ∀ {w' : World}, Hp S w0 w' its → K ⟨none, 0, 0⟩ 0 w' := fun e w' h => by
    have := hK ⟨none, 0, 0⟩ w' (by rw [e]; exact h.nil 5 1 u8v)
    rw [e] at this
    exact this
  refine ⟨fun w' => w' = w ∧ ∃ r, bs = 130 :: r, ?_, ?_⟩
  · by_cases h0 : b.len = 0
    · refine ifT (by simp; omega) (none_ ?_ h)
      have : bs = [] := List.eq_nil_of_length_eq_zero (by omega)
      rw [this]; rfl
    refine ifF (by simp; omega) ?_
    obtain ⟨c, r, rfl⟩ : ∃ c r, bs = c :: r := by
      cases bs with
      | nil => simp at hbl; omega
      | cons c r => exact ⟨c, r, rfl⟩
    refine h.ixldU (k := .i .u8) (u := u) (y := c) (x := c) j (by rw [hj]; rfl) hu (by omega) rfl u8v_len rfl ?_
    by_cases hc : c = 130
    · exact ifF (by simpa using hc) ⟨rfl, r, by rw [hc]⟩
    · refine ifT (by simpa using hc) (none_ (getR_none _ ?_) h)
      intro r' e
      injection e with e _
      exact hc e
  rintro w1 ⟨rfl, r, rfl⟩
  have hbr : Bytes r := fun x hx => hb x (by simp [hx])
  simp only [List.length_cons] at hl hbl
  refine Hp.cutv (s := b) hu (by simp; omega) u8v_len (by omega) (by omega) (by omega) (Int.le_refl _) (by omega) fun s hs hsl hsc => ?_
  have e1 : ((130 :: r).take ((b.len : Int)).toNat).drop (1 : Int).toNat = r := by
    rw [List.take_of_length_le (by simp; omega)]; rfl
  rw [e1] at hs
  refine RGet_spec h j (by rw [hj]; rfl) hs hbr (by omega) ?_
  obtain ⟨r0, r1, r2, r3, r4, r5⟩ := getU_range hbr
  obtain ⟨n, k, hg⟩ : ∃ n k, getU r = (n, k) := ⟨_, _, rfl⟩
  have hbad := getR_bad (r := r)
  rw [hg] at r0 r1 r2 r3 r4 r5 hbad ⊢
  dsimp only at r0 r1 r2 r3 r4 r5 hbad ⊢
  by_cases hc : k = 0 ∨ n < 1 ∨ 100000 < n
  · refine ifT ?_ (none_ (hbad (by omega)) h)
    rcases hc with g | g | g <;> simp [g]
  simp only [not_or] at hc
  obtain ⟨c1, c2, c3⟩ := hc
  refine ifF ?_ ?_
  · have a1 : ¬ n > 100000 := by omega
    rw [decide_eq_false a1, decide_eq_false c2]; simp [c1]
  have w1k : IntKind.i64.wrap (1 + k) = 1 + k := wr64 (by omega) (by omega)
  have w2k : IntKind.i64.wrap (1 + k + 4) = 1 + k + 4 := wr64 (by omega) (by omega)
  have wn : IntKind.i64.wrap n = n := wr64 (by omega) (by omega)
  have w3k : IntKind.i64.wrap (1 + k + 4 + n) = 1 + k + 4 + n := wr64 (by omega) (by omega)
  rw [w1k, w2k, wn, w3k]
  by_cases hsh : 1 + k + 4 + n > (b.len : Int)
  · exact ifT (by simpa using hsh) (none_ (hbad (by omega)) h)
  refine ifF (by simpa using hsh) ?_
  have hlong : k + 4 + n ≤ r.length := by omega
  obtain ⟨p1, p2, p3⟩ := getR_at hbr hg c1 (by omega) (by omega) hlong
  obtain ⟨inf, q1, q2, q3, q4⟩ := inf5
  refine h.nw (c := []) fun b2 w2 h => ?_
  have h := h.blkSl (i := its.length) (m := 0) (l := ([] : List Int)) (f := u8v) (n := 1) List.getElem?_concat_length rfl rfl u8v_len
  rw [set_last] at h
  refine Hp.cutv (s := b) hu (by simp; omega) u8v_len (by omega) (by omega) (by omega) (by omega) (by omega) fun s2 hs2 hs2l hs2c => ?_
  have e3 : ((130 :: r).take (1 + k + 4 + n).toNat).drop (1 + k + 4).toNat = (r.drop (k + 4).toNat).take n.toNat := by
    rw [List.drop_take, show (1 + k + 4).toNat = (k + 4).toNat + 1 by omega, List.drop_succ_cons]
    congr 1; omega
  rw [e3] at hs2
  have hdb : Bytes ((r.drop (k + 4).toNat).take n.toNat) := bytes_take' (bytes_drop' hbr _) _
  have hdn : ((r.drop (k + 4).toNat).take n.toNat).length = n.toNat := by rw [List.length_take, List.length_drop]; omega
  refine h.appS its.length j (s := ⟨some ⟨b2, 0, none⟩, 0, 0⟩) List.getElem?_concat_length (front_at hj) hs2 u8v_len und22 q1 q3 q2 rfl (by simp [Value.oneCell']) (by rw [q4]; show (0 + s2.len) * 1 ≤ _; omega) (by show 0 + s2.len ≤ _; omega) fun data w3 h _ _ => ?_
  rw [set_last, List.nil_append] at h
  generalize hd : (r.drop (k + 4).toNat).take n.toNat = d at h hdb hdn p1 p2 p3
  refine Made_spec h its.length List.getElem?_concat_length Hp.rdSl hdb (by omega) fun made w4 h => ?_
  have hmb := madeU_bytes hdb
  refine h.dr fun w5 h => ?_
  refine h.rdb (its.length + 1) (u := tB made (madeU d)) (by rw [List.getElem?_append_right (by simp)]; simp) Hp.rdSl _ (strL_of hmb) ?_
  refine Hp.cutv (s := b) hu (by simp; omega) u8v_len (by omega) (by omega) (by omega) (by omega) (by omega) fun s3 hs3 _ _ => ?_
  have e4 : ((130 :: r).take (1 + k + 4 + n).toNat).drop (0 : Int).toNat = (130 :: r).take (1 + k + 4 + n).toNat := rfl
  rw [e4] at hs3
  have htb : Bytes ((130 :: r).take (1 + k + 4 + n).toNat) := bytes_take' hb _
  refine h.rdb j (u := u) (by rw [front_at (front_at hj)]; rfl) hs3 _ (strL_of htb) ?_
  rw [str_beq, strL_of hmb, strL_of htb]
  have key : madeU d = (130 :: r).take (1 + k + 4 + n).toNat ↔ sumB (headU d ++ d) = (r.drop k.toNat).take 4 := by
    rw [p2, p1]
    unfold madeU
    constructor
    · intro h
      exact List.append_cancel_left (List.append_cancel_right h)
    · intro h; rw [h]
  by_cases heq : sumB (headU d ++ d) = (r.drop k.toNat).take 4
  · rw [if_pos heq] at p3
    refine ifF (by simpa using key.2 heq) ?_
    rw [p3] at hK
    exact hK data w5 h.front
  · rw [if_neg heq] at p3
    exact ifT (by simpa using fun e => heq (key.1 e)) (none_ p3 h.front.front)

/-- Scan, by whatever Get. -/
theorem scan_loop (h : Hp S w0 w its) (j : Nat) {u : Thing} {b : Sl} {bs : List Int} (hj : its[j]? = some u) (hu : Hp.Reads u b 1 u8v bs) (hb : Bytes bs) (hl : bs.length ≤ 5000000000000) (hcap : b.len ≤ b.cap) {get : Sl → World → (Sl → Int → World → Prop) → Prop} {R : Sl → Int → World → Prop}
    (hget : ∀ {its' : List Thing} {w : World} {s : Sl} {cs : List Int} {K : Sl → Int → World → Prop}, Hp S w0 w its' → its'[j]? = some u → Hp.Reads u s 1 u8v cs → Bytes cs → cs.length ≤ 9000000000000000 → s.len ≤ s.cap → (∀ r w', Hp S w0 w' (its' ++ [tB r (getR cs).1]) → K r (getR cs).2 w') → get s w K)
    (hK : ∀ (s : Sl) (kL : List (Sl × List Int)) w', kL.map (·.2) = recs bs → Hp S w0 w' (its ++ [tSl s 22 1 slv (kL.map (·.1)), tAll (kL.map inA)]) → R s (tot (recs bs)) w') :
    ∃ Inv_ : Sl → Int → Nat → World → Prop, (∃ n : Nat, Inv_ ⟨none, 0, 0⟩ 0 n w) ∧ ∀ out : Sl, ∀ at_ : Int, ∀ m : Nat, ∀ w : World, Inv_ out at_ m w → (Cut ⟨b.a, b.len, b.cap⟩ at_ (b.len : Int) (b.cap : Int) 1 fun (s : Sl) =>
      get s w fun (data : Sl) (n_ : Int) (w : World) =>
      if (n_ == 0) = true then (R out at_ w) else (Nw (.cells #[.slice data.a data.len data.cap] 22) w fun (b2 : Addr) (w : World) =>
      Run .sl Try.prog (Builtin.append_ #[34, 34] 34 #[.slice out.a out.len out.cap, .slice (some b2) 1 1]) w fun (out2 : Sl) (w : World) =>
      ∃ m2 : Nat, m2 < m ∧ Inv_ out2 (IntKind.i64.wrap (at_ + n_)) m2 w)) := by
  obtain ⟨inf, q1, q2, q3, q4⟩ := inf22
  have hbl := h.lenU j (by rw [hj]; rfl) hu
  have h := h.nil 22 1 slv
  have h := h.grow (Fr.refl _ _) (t := tAll []) (O := []) rfl (by simp) rfl
  rw [List.append_assoc] at h
  refine ⟨fun out at_ m w' => ∃ kL : List (Sl × List Int), Far bs (kL.map (·.2)) ∧ at_ = (tot (kL.map (·.2)) : Nat) ∧ m = bs.length - tot (kL.map (·.2)) ∧ kL.length ≤ tot (kL.map (·.2)) ∧ Hp S w0 w' (its ++ [tSl out 22 1 slv (kL.map (·.1)), tAll (kL.map inA)]),
    ⟨bs.length, [], Far.start bs, by simp [tot], by simp [tot], by simp, h⟩, ?_⟩
  rintro out at_ m w1 ⟨kL, hf, rfl, rfl, hkl, h⟩
  have hle := hf.le
  refine Hp.cutv (s := b) hu (by omega) u8v_len (by omega) (by omega) (by omega) (Int.le_refl _) (by omega) fun s hs hsl hsc => ?_
  have e1 : (bs.take ((b.len : Int)).toNat).drop ((tot (kL.map (·.2)) : Nat) : Int).toNat = bs.drop (tot (kL.map (·.2))) := by
    rw [List.take_of_length_le (by omega), Int.toNat_natCast]
  rw [e1] at hs
  have hbd : Bytes (bs.drop (tot (kL.map (·.2)))) := bytes_drop' hb _
  have hdl : (bs.drop (tot (kL.map (·.2)))).length = bs.length - tot (kL.map (·.2)) := List.length_drop
  refine hget h (front_at hj) hs hbd (by omega) (by omega) fun data w2 h => ?_
  by_cases hz : (getR (bs.drop (tot (kL.map (·.2))))).2 = 0
  · refine ifT (by simpa using hz) ?_
    have hd := hf.done hz
    have := hK out kL w2 hd.symm h.front
    rw [hd] at this
    exact this
  · refine ifF (by simpa using hz) ?_
    obtain ⟨hf2, ht2⟩ := hf.step hb hz
    have hle2 := hf2.le
    have hrr := getR_range hbd
    have hpos := madeU_pos (getR (bs.drop (tot (kL.map (·.2))))).1
    have hts := tot_snoc (kL.map (·.2)) (getR (bs.drop (tot (kL.map (·.2))))).1
    generalize hgd : getR (bs.drop (tot (kL.map (·.2)))) = g at h hz hf2 ht2 hle2 hrr hpos hts
    obtain ⟨d, n⟩ := g
    dsimp only at h hz hf2 ht2 hle2 hrr hpos hts ⊢
    have hol := h.len (s := out) (e := 22) (n := 1) (f := slv) (l := kL.map (·.1)) its.length (by rw [List.append_assoc, List.getElem?_append_right (by omega)]; simp)
    rw [List.length_map] at hol
    have g0 : (its ++ [tSl out 22 1 slv (kL.map (·.1)), tAll (kL.map inA)] ++ [tB data d])[its.length]? = some (tSl out 22 1 slv (kL.map (·.1))) := by rw [List.append_assoc, List.getElem?_append_right (by omega)]; simp
    refine h.nwapp (c := [_]) its.length data g0 slv_len und34 q1 q3 q2 rfl rfl (by simp [slv, Value.oneCell']) (by rw [q4]; omega) (by omega) fun out2 w3 h _ _ => ?_
    have el : (its ++ [tSl out 22 1 slv (kL.map (·.1)), tAll (kL.map inA)] ++ [tB data d]).set its.length (tSl out2 22 1 slv (kL.map (·.1) ++ [data])) = its ++ [tSl out2 22 1 slv (kL.map (·.1) ++ [data]), tAll (kL.map inA), tB data d] := by
      rw [List.append_assoc, List.set_append_right _ _ (by omega)]; simp
    rw [el] at h
    have h := all_more h (i := its.length + 1) (j := its.length + 2) (by omega) (kL := kL) (x := data) (l := d) (by rw [List.getElem?_append_right (by omega)]; simp) (by rw [List.getElem?_append_right (by omega)]; simp)
    have el2 : ((its ++ [tSl out2 22 1 slv (kL.map (·.1) ++ [data]), tAll (kL.map inA), tB data d]).set (its.length + 1) (tAll ((kL ++ [(data, d)]).map inA))).set (its.length + 2) tEmp = its ++ [tSl out2 22 1 slv (kL.map (·.1) ++ [data]), tAll ((kL ++ [(data, d)]).map inA)] ++ [tEmp] := by
      rw [List.set_append_right _ _ (by omega), List.set_append_right _ _ (by omega)]; simp
    rw [el2] at h
    have h := h.front
    have em : (kL ++ [(data, d)]).map (·.2) = kL.map (·.2) ++ [d] := by simp
    have em1 : (kL ++ [(data, d)]).map (·.1) = kL.map (·.1) ++ [data] := by simp
    refine ⟨bs.length - tot ((kL ++ [(data, d)]).map (·.2)), by rw [em]; omega, kL ++ [(data, d)], by rw [em]; exact hf2, ?_, rfl, by rw [em, List.length_append]; simp; omega, by rw [em1]; exact h⟩
    rw [em, wr64 (by omega) (by omega)]
    omega

theorem Scan_spec (h : Hp S w0 w its) (j : Nat) {u : Thing} {b : Sl} {bs : List Int} (hj : its[j]? = some u) (hu : Hp.Reads u b 1 u8v bs) (hb : Bytes bs) (hl : bs.length ≤ 5000000000000) (hcap : b.len ≤ b.cap) {K : Sl → Int → World → Prop}
    (hK : ∀ (s : Sl) (kL : List (Sl × List Int)) w', kL.map (·.2) = recs bs → Hp S w0 w' (its ++ [tSl s 22 1 slv (kL.map (·.1)), tAll (kL.map inA)]) → K s (tot (recs bs)) w') : c17 b w K := by
  refine c17_of ?_
  unfold f17
  exact scan_loop h j hj hu hb (by omega) hcap (get := c18) (fun h hj hu hb hl hc hK => RecGet_spec h j hj hu hb hl hc hK) hK

theorem RScan_spec (h : Hp S w0 w its) (j : Nat) {u : Thing} {b : Sl} {bs : List Int} (hj : its[j]? = some u) (hu : Hp.Reads u b 1 u8v bs) (hb : Bytes bs) (hl : bs.length ≤ 5000000000000) (hcap : b.len ≤ b.cap) {K : Sl → Int → World → Prop}
    (hK : ∀ (s : Sl) (kL : List (Sl × List Int)) w', kL.map (·.2) = recs bs → Hp S w0 w' (its ++ [tSl s 22 1 slv (kL.map (·.1)), tAll (kL.map inA)]) → K s (tot (recs bs)) w') : c27 b w K := by
  refine c27_of ?_
  unfold f27
  exact scan_loop h j hj hu hb (by omega) hcap (get := c26) (fun h hj hu hb hl hc hK => RRecGet_spec h j hj hu hb hl hc hK) hK
end
end Go.Proofs.Ytmbbfaigbhnhcaa.F
