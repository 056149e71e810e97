/-
  Contracts of package record, and of the document's own: records read, one and all.
-/
import Derived.Test.YtmbbfaigbhnhcaaC02d
set_option linter.unusedSimpArgs false
set_option linter.unusedVariables false
set_option maxRecDepth 100000
namespace Go.Proofs.Ytmbbfaigbhnhcaa.F
open Go Go.Den Go.Proofs

theorem bytes_drop' {l : List Int} (h : Bytes l) (n : Nat) : Bytes (l.drop n) := fun x hx => h x (List.mem_of_mem_drop hx)
theorem bytes_take' {l : List Int} (h : Bytes l) (n : Nat) : Bytes (l.take n) := fun x hx => h x (List.mem_of_mem_take hx)

/-- What Get answers behind the right mark, where head and length fit. -/
theorem getR_at {r : List Int} {n k : Int} (hb : Bytes r) (hg : getU r = (n, k)) (hk : k ≠ 0) (h1 : 1 ≤ n) (h2 : n ≤ 100000) (h3 : k + 4 + n ≤ r.length) :
    ((130 :: r).take (1 + k).toNat = headU ((r.drop (k + 4).toNat).take n.toNat)) ∧
    ((130 :: r).take (1 + k + 4 + n).toNat = (130 :: r).take (1 + k).toNat ++ (r.drop k.toNat).take 4 ++ (r.drop (k + 4).toNat).take n.toNat) ∧
    getR (130 :: r) = (if sumB (headU ((r.drop (k + 4).toNat).take n.toNat) ++ (r.drop (k + 4).toNat).take n.toNat) = (r.drop k.toNat).take 4 then ((r.drop (k + 4).toNat).take n.toNat, 1 + k + 4 + n) else ([], 0)) := by
  obtain ⟨r0, r1, r2, r3, r4, r5⟩ := getU_range hb
  have hback := getU_back hb (by rw [hg]; exact hk)
  rw [hg] at r0 r1 r2 r3 r4 r5 hback
  dsimp only at r0 r1 r2 r3 r4 r5 hback
  have hdl : ((r.drop (k + 4).toNat).take n.toNat).length = n.toNat := by rw [List.length_take, List.length_drop]; omega
  have e1 : (130 :: r).take (1 + k).toNat = headU ((r.drop (k + 4).toNat).take n.toNat) := by
    have hn : (1 + k).toNat = k.toNat + 1 := by omega
    rw [hn, List.take_succ_cons, headU, hdl, ← hback]
    congr 2
    omega
  have e2 : (130 :: r).take (1 + k + 4 + n).toNat = (130 :: r).take (1 + k).toNat ++ (r.drop k.toNat).take 4 ++ (r.drop (k + 4).toNat).take n.toNat := by
    have q1 : (1 + k + 4 + n).toNat = (1 + k).toNat + (4 + n.toNat) := by omega
    have q2 : (130 :: r).drop (1 + k).toNat = r.drop k.toNat := by
      rw [show (1 + k).toNat = k.toNat + 1 by omega, List.drop_succ_cons]
    rw [q1, List.take_add, q2, List.take_add, List.drop_drop, List.append_assoc]
    rw [show k.toNat + 4 = (k + 4).toNat by omega]
  refine ⟨e1, e2, ?_⟩
  unfold getR
  simp only [hg]
  rw [if_neg (by omega)]
  have key : madeU ((r.drop (k + 4).toNat).take n.toNat) = (130 :: r).take (1 + k + 4 + n).toNat ↔ sumB (headU ((r.drop (k + 4).toNat).take n.toNat) ++ (r.drop (k + 4).toNat).take n.toNat) = (r.drop k.toNat).take 4 := by
    rw [e2, e1]
    unfold madeU
    constructor
    · intro h
      exact List.append_cancel_left (List.append_cancel_right h)
    · intro h; rw [h]
  by_cases hc : sumB (headU ((r.drop (k + 4).toNat).take n.toNat) ++ (r.drop (k + 4).toNat).take n.toNat) = (r.drop k.toNat).take 4
  · rw [if_pos hc, if_pos (key.2 hc)]
  · rw [if_neg hc, if_neg (fun h => hc (key.1 h))]

theorem getR_bad {r : List Int} (h : (getU r).2 = 0 ∨ (getU r).1 < 1 ∨ 100000 < (getU r).1 ∨ (r.length : Int) < (getU r).2 + 4 + (getU r).1) : getR (130 :: r) = ([], 0) := by
  unfold getR
  simp only
  rw [if_pos h]

section
variable {S : List Nat} {w0 w : World} {its : List Thing}

set_option maxHeartbeats 1000000 in
/-- record.Get. -/
theorem RecGet_spec (h : Hp S w0 w its) (j : Nat) {u : Thing} {b : Sl} {bs : List Int} (hj : its[j]? = some u) (hu : Hp.Reads u b 1 u8v bs) (hb : Bytes bs) (hl : bs.length ≤ 9000000000000000) (hcap : b.len ≤ b.cap) {K : Sl → Int → World → Prop}
    (hK : ∀ s w', Hp S w0 w' (its ++ [tB s (getR bs).1]) → K s (getR bs).2 w') : c18 b w K := by
  refine c18_of ?_
  unfold f18
  have hbl := h.lenU j (by rw [hj]; rfl) hu
  have none_ : getR bs = ([], 0) → ∀ {w' : World}, Hp S w0 w' its → K ⟨none, 0, 0⟩ 0 w' := fun e w' h => by
    have := hK ⟨none, 0, 0⟩ w' (by rw [e]; exact h.nil 5 1 u8v)
    rw [e] at this
    exact this
  refine ⟨fun w' => w' = w ∧ ∃ r, bs = 130 :: r, ?_, ?_⟩
  · by_cases h0 : b.len = 0
    · refine ifT (by simpa using h0) (none_ ?_ h)
      have : bs = [] := List.eq_nil_of_length_eq_zero (by omega)
      rw [this]; rfl
    refine ifF (by simpa using h0) ?_
    obtain ⟨c, r, rfl⟩ : ∃ c r, bs = c :: r := by
      cases bs with
      | nil => simp at hbl; omega
      | cons c r => exact ⟨c, r, rfl⟩
    refine h.ixldU (k := .i .u8) (u := u) (y := c) (x := c) j (by rw [hj]; rfl) hu (by omega) rfl u8v_len rfl ?_
    by_cases hc : c = 130
    · exact ifF (by simpa using hc) ⟨rfl, r, by rw [hc]⟩
    · refine ifT (by simpa using hc) (none_ (getR_none _ ?_) h)
      intro r' e
      injection e with e _
      exact hc e
  rintro w1 ⟨rfl, r, rfl⟩
  have hbr : Bytes r := fun x hx => hb x (by simp [hx])
  simp only [List.length_cons] at hl hbl
  refine Hp.cutv (s := b) hu (by simp; omega) u8v_len (by omega) (by omega) (by omega) (Int.le_refl _) (by omega) fun s hs hsl hsc => ?_
  have e1 : ((130 :: r).take ((b.len : Int)).toNat).drop (1 : Int).toNat = r := by
    rw [List.take_of_length_le (by simp; omega)]; rfl
  rw [e1] at hs
  refine Get_spec h j (by rw [hj]; rfl) hs hbr (by omega) ?_
  obtain ⟨r0, r1, r2, r3, r4, r5⟩ := getU_range hbr
  obtain ⟨n, k, hg⟩ : ∃ n k, getU r = (n, k) := ⟨_, _, rfl⟩
  have hbad := getR_bad (r := r)
  rw [hg] at r0 r1 r2 r3 r4 r5 hbad ⊢
  dsimp only at r0 r1 r2 r3 r4 r5 hbad ⊢
  by_cases hc : k = 0 ∨ n = 0 ∨ 100000 < n
  · refine ifT ?_ (none_ (hbad (by omega)) h)
    rcases hc with g | g | g <;> simp [g]
  simp only [not_or] at hc
  obtain ⟨c1, c2, c3⟩ := hc
  refine ifF ?_ ?_
  · have : ¬ n > 100000 := by omega
    rw [decide_eq_false this]; simp [c1, c2]
  refine h.dr fun w2 h => ?_
  have w1k : IntKind.i64.wrap (1 + k) = 1 + k := wr64 (by omega) (by omega)
  have wn : IntKind.i64.wrap n = n := wr64 (by omega) (by omega)
  have w4n : IntKind.i64.wrap (4 + n) = 4 + n := wr64 (by omega) (by omega)
  rw [w1k, wn, w4n]
  refine Hp.cutv (s := b) hu (by simp; omega) u8v_len (by omega) (by omega) (Int.le_refl _) (by omega) (by omega) fun head hh hhl hhc => ?_
  refine Hp.cutv (s := b) hu (by simp; omega) u8v_len (by omega) (by omega) (by omega) (Int.le_refl _) (by omega) fun rest hrs hrl hrc => ?_
  have e2 : ((130 :: r).take ((b.len : Int)).toNat).drop (1 + k).toNat = r.drop k.toNat := by
    rw [List.take_of_length_le (by simp; omega), show (1 + k).toNat = k.toNat + 1 by omega]; rfl
  rw [e2] at hrs
  have hrll : (r.drop k.toNat).length = rest.len := by rw [List.length_drop]; omega
  by_cases hsh : (rest.len : Int) < 4 + n
  · refine ifT (by simpa using hsh) (none_ (hbad (by rw [List.length_drop] at hrll; omega)) h)
  refine ifF (by simpa using hsh) ?_
  have hlong : k + 4 + n ≤ r.length := by rw [List.length_drop] at hrll; omega
  obtain ⟨p1, p2, p3⟩ := getR_at hbr hg c1 (by omega) (by omega) hlong
  refine Hp.cutv (s := rest) hrs hrll u8v_len (by omega) (by omega) (Int.le_refl _) (by omega) (by omega) fun data hdt hdl hdc => ?_
  have e3 : ((r.drop k.toNat).take (4 + n).toNat).drop (4 : Int).toNat = (r.drop (k + 4).toNat).take n.toNat := by
    rw [List.drop_take, List.drop_drop]
    congr 1
    · show (4 + n).toNat - 4 = n.toNat; omega
    · congr 1; show k.toNat + 4 = _; omega
  rw [e3] at hdt
  refine h.dr fun w3 h => ?_
  refine Hp.cutv (s := rest) hrs hrll u8v_len (by omega) (by omega) (by omega) (Int.le_refl _) (by omega) fun s2 hs2 _ _ => ?_
  have e4 : ((r.drop k.toNat).take (4 : Int).toNat).drop (0 : Int).toNat = (r.drop k.toNat).take 4 := rfl
  rw [e4] at hs2
  have e5 : ((130 :: r).take (1 + k).toNat).drop (0 : Int).toNat = headU ((r.drop (k + 4).toNat).take n.toNat) := p1
  rw [e5] at hh
  have hdb : Bytes ((r.drop (k + 4).toNat).take n.toNat) := bytes_take' (bytes_drop' hbr _) _
  have hdn : ((r.drop (k + 4).toNat).take n.toNat).length = n.toNat := by rw [List.length_take, List.length_drop]; omega
  have hhd := headU_len ((r.drop (k + 4).toNat).take n.toNat)
  have hpd := putU_len (((r.drop (k + 4).toNat).take n.toNat).length : Int)
  refine sum_spec h j j hj hj hh hdt (headU_bytes _) hdb (by omega) (by omega) fun sm w4 h => ?_
  refine Equal_spec h j its.length (by rw [front_at hj]; rfl) (by rw [List.getElem?_concat_length]; rfl) hs2 Hp.rdSl (by rw [List.length_take]; omega) fun w5 h => ?_
  have h := h.front
  have hhl2 : head.len = (1 + k).toNat := by omega
  by_cases heq : sumB (headU ((r.drop (k + 4).toNat).take n.toNat) ++ (r.drop (k + 4).toNat).take n.toNat) = (r.drop k.toNat).take 4
  · rw [if_pos heq] at p3
    refine ifF (by simp [heq]) ?_
    refine Clone_spec h j hj hdt (by omega) fun r3 w6 h => ?_
    rw [p3] at hK
    have e6 : IntKind.i64.wrap ((head.len : Int) + (4 + n)) = 1 + k + 4 + n := by rw [wr64 (by omega) (by omega)]; omega
    rw [e6]
    exact hK r3 w6 h
  · rw [if_neg heq] at p3
    exact ifT (by simp [Ne.symm heq]) (none_ p3 h)

set_option maxHeartbeats 1000000 in
/-- Made. -/
theorem Made_spec (h : Hp S w0 w its) (j : Nat) {u : Thing} {data : Sl} {d : List Int} (hj : its[j]? = some u) (hu : Hp.Reads u data 1 u8v d) (hd : Bytes d) (hl : d.length ≤ 100000000000000) {K : Sl → World → Prop}
    (hK : ∀ s w', Hp S w0 w' (its ++ [tB s (madeU d)]) → K s w') : c25 data w K := by
  refine c25_of ?_
  unfold f25
  obtain ⟨inf, q1, q2, q3, q4⟩ := inf5
  have hdl := h.lenU j (by rw [hj]; rfl) hu
  have e : IntKind.u64.wrap (data.len : Int) = (d.length : Int) := by rw [w64]; omega
  rw [e]
  have hpl := putU_len (d.length : Int)
  have hhl := headU_len d
  refine h.nw (c := [_]) fun b2 w1 h => ?_
  have h := h.blkSl (i := its.length) (e := 5) (m := 1) (l := [130]) (f := u8v) (n := 1) List.getElem?_concat_length rfl rfl u8v_len
  rw [set_last] at h
  refine RPut_spec h its.length (b := ⟨some ⟨b2, 0, none⟩, 1, 1⟩) (l := [130]) List.getElem?_concat_length Hp.rdSl (by omega) (by omega) (by simp) fun head w2 h => ?_
  have hh : [130] ++ putU (d.length : Int) = headU d := rfl
  rw [hh] at h
  have h := h.dropMid
  have hsum := sumU_range (headU d ++ d)
  refine copy0 h its.length List.getElem?_concat_length Hp.rdSl (by omega) fun all w3 h => ?_
  have hal := h.len (s := all) (e := 5) (n := 1) (f := u8v) (l := headU d) (its.length + 1) (by rw [List.getElem?_append_right (by simp)]; simp)
  refine h.appS (its.length + 1) j (s := all) (by rw [List.getElem?_append_right (by simp)]; simp; rfl) (front_at (front_at hj)) hu u8v_len und22 q1 q3 q2 rfl (by simp [Value.oneCell']) (by rw [q4]; omega) (by omega) fun all2 w4 h _ _ => ?_
  have el : (its ++ [tB head (headU d)] ++ [tB all (headU d)]).set (its.length + 1) (tSl all2 5 1 u8v (headU d ++ d)) = its ++ [tB head (headU d), tB all2 (headU d ++ d)] := by
    rw [List.append_assoc, List.set_append_right _ _ (by omega)]; simp
  rw [el] at h
  refine RSum_spec h (its.length + 1) (by rw [List.getElem?_append_right (by omega)]; simp; rfl) Hp.rdSl (bytes_app (headU_bytes d) hd) (by rw [List.length_append]; omega) ?_
  have e2 : its ++ [tB head (headU d), tB all2 (headU d ++ d)] = its ++ [tB head (headU d)] ++ [tB all2 (headU d ++ d)] := by simp
  rw [e2] at h
  have h := h.front
  refine copy0 h its.length List.getElem?_concat_length Hp.rdSl (by omega) fun out w5 h => ?_
  have h := h.dropMid
  generalize hgs : sumU (headU d ++ d) = sm at hsum ⊢
  have hsb : sumB (headU d ++ d) = [sm % 256, sm / 256 % 256, sm / 65536 % 256, sm / 16777216 % 256] := by rw [← hgs]; rfl
  refine ⟨fun out t m w' => ∃ k : Nat, t = k ∧ k ≤ 4 ∧ m = 4 - k ∧ Hp S w0 w' (its ++ [tB out (headU d ++ (sumB (headU d ++ d)).take k)]), ⟨4, 0, rfl, by omega, rfl, by simpa using h⟩, ?_⟩
  rintro out t m w6 ⟨k, rfl, hk, rfl, h⟩
  have hol := h.len (s := out) (e := 5) (n := 1) (f := u8v) (l := headU d ++ (sumB (headU d ++ d)).take k) its.length (by simp)
  rw [List.length_append, List.length_take, sumB_len] at hol
  by_cases hk4 : k < 4
  · refine ifT (by simp; omega) ?_
    have ew : IntKind.i64.wrap (8 * (k : Int)) = ((8 * k : Nat) : Int) := by rw [wr64 (by omega) (by omega)]; omega
    rw [ew]
    refine ⟨by omega, ?_⟩
    rw [Int.toNat_natCast, shr_sum (by omega), F.w8]
    refine h.nwapp (c := [_]) its.length (sm / 2 ^ (8 * k) % 256) List.getElem?_concat_length u8v_len und22 q1 q3 q2 rfl rfl (by simp [Value.oneCell']) (by rw [q4]; omega) (by omega) fun out2 w7 h _ _ => ?_
    rw [set_last] at h
    refine ⟨4 - (k + 1), by omega, k + 1, by rw [wr64 (by omega) (by omega)]; omega, by omega, rfl, ?_⟩
    have : (sumB (headU d ++ d)).take (k + 1) = (sumB (headU d ++ d)).take k ++ [sm / 2 ^ (8 * k) % 256] := by
      rw [hsb]
      match k, hk4 with
      | 0, _ => simp
      | 1, _ => rfl
      | 2, _ => rfl
      | 3, _ => rfl
    rw [this, ← List.append_assoc]
    exact h
  · refine ifF (by simp; omega) ?_
    obtain rfl : k = 4 := by omega
    rw [List.take_of_length_le (by rw [sumB_len]; omega)] at h
    refine h.appS its.length j (s := out) List.getElem?_concat_length (front_at hj) hu u8v_len und22 q1 q3 q2 rfl (by simp [Value.oneCell']) (by rw [q4]; omega) (by omega) fun s w8 h _ _ => ?_
    rw [set_last] at h
    exact hK s w8 h

/-- The document's Put. -/
theorem RRecPut_spec (h : Hp S w0 w its) (i j : Nat) {u v : Thing} {b data : Sl} {bs d : List Int} (hi : its[i]? = some u) (hj : its[j]? = some v) (hu : Hp.Reads u b 1 u8v bs) (hv : Hp.Reads v data 1 u8v d) (hd : Bytes d) (hlb : bs.length ≤ 70000000000000) (hld : d.length ≤ 70000000000000) {K : Sl → Int → World → Prop}
    (h1 : okD d → ∀ s w', Hp S w0 w' (its ++ [tB s (bs ++ madeU d)]) → K s 0 w') (h2 : ¬ okD d → K ⟨none, 0, 0⟩ 1 w) : c11 b data w K := by
  refine c11_of ?_
  unfold f11
  obtain ⟨inf, q1, q2, q3, q4⟩ := inf5
  have hdl := h.lenU j (by rw [hj]; rfl) hv
  by_cases hok : okD d
  · obtain ⟨g1, g2⟩ := hok
    refine ifF ?_ ?_
    · have a1 : ¬ ((data.len : Int) < 1) := by omega
      have a2 : ¬ ((data.len : Int) > 100000) := by omega
      rw [decide_eq_false a1, decide_eq_false a2]; simp
    refine copy0 h i hi hu (by omega) fun out w1 h => ?_
    refine Made_spec h j (front_at hj) hv hd (by omega) fun more w2 h => ?_
    have hml := madeU_le d
    have hol := h.len (s := out) (e := 5) (n := 1) (f := u8v) (l := bs) its.length (by rw [List.append_assoc, List.getElem?_append_right (by omega)]; simp)
    have hmo := h.len (s := more) (e := 5) (n := 1) (f := u8v) (l := madeU d) (its.length + 1) (by rw [List.getElem?_append_right (by simp)]; simp)
    refine h.appS its.length (its.length + 1) (s := out) (u := tB more (madeU d)) (by rw [List.append_assoc, List.getElem?_append_right (by omega)]; simp; rfl) (by rw [List.getElem?_append_right (by simp)]; simp) Hp.rdSl u8v_len und22 q1 q3 q2 rfl (by simp [Value.oneCell']) (by rw [q4]; omega) (by omega) fun s w3 h _ _ => ?_
    have el : (its ++ [tB out bs] ++ [tB more (madeU d)]).set its.length (tSl s 5 1 u8v (bs ++ madeU d)) = its ++ [tB s (bs ++ madeU d)] ++ [tB more (madeU d)] := by
      rw [List.append_assoc, List.set_append_right _ _ (by omega)]; simp
    rw [el] at h
    exact h1 ⟨g1, g2⟩ s w3 h.front
  · refine ifT ?_ (h2 hok)
    unfold okD at hok
    by_cases h0 : d.length = 0
    · have : ((data.len : Int) < 1) := by omega
      rw [decide_eq_true this]; rfl
    · have : ((data.len : Int) > 100000) := by omega
      rw [decide_eq_true this]; simp
end
end Go.Proofs.Ytmbbfaigbhnhcaa.F
