/-
  The walk of PackBack.
-/
import Derived.Test.YtbmpgjheiknjlaaC01h
set_option linter.unusedSimpArgs false
set_option linter.unusedVariables false
set_option maxRecDepth 100000
namespace Go.Proofs.Ytbmpgjheiknjlaa.F
open Go Go.Den Go.Proofs

theorem getT_put (t : List Int) (r : List Int) (hl : t.length ≤ 9000000000000000) : getT (putU t.length ++ (t ++ r)) = (t, ((putU t.length).length : Int) + t.length) := by
  have hg := getU_put (n := (t.length : Int)) (by omega) (by omega) (t ++ r)
  have hp := putU_pos (t.length : Int)
  unfold getT
  rw [hg]
  dsimp only
  rw [if_neg]
  · rw [Int.toNat_natCast, Int.toNat_natCast, List.drop_left, List.take_left]
  · rintro (h | h)
    · omega
    · simp only [List.length_append] at h; omega

theorem getT_back {l : List Int} (hb : Bytes l) (hk : (getT l).2 ≠ 0) : putU ((getT l).1.length : Int) ++ (getT l).1 = l.take (getT l).2.toNat ∧ 0 ≤ (getT l).2 ∧ (getT l).2 ≤ l.length := by
  obtain ⟨r0, r1, r2, r3, r4, r5⟩ := getU_range hb
  unfold getT at hk ⊢
  by_cases hbad : (getU l).2 = 0 ∨ (l.length : Int) - (getU l).2 < (getU l).1
  · rw [if_pos hbad] at hk; exact absurd rfl hk
  · rw [if_neg hbad]
    simp only [not_or] at hbad
    have hu := getU_back hb hbad.1
    dsimp only
    have hl : (((l.drop (getU l).2.toNat).take (getU l).1.toNat).length : Int) = (getU l).1 := by
      rw [List.length_take, List.length_drop]; omega
    rw [hl, hu, show ((getU l).2 + (getU l).1).toNat = (getU l).2.toNat + (getU l).1.toNat by omega, List.take_add]
    exact ⟨rfl, by omega, by omega⟩

/-! ### What is read is written again: the four questions at the end -/

def D4 (b r8 : Sl) (size2 : Int) (w : World) (R : Bool → World → Prop) : Prop :=
  if (size2 == 0) = true then (R true w) else (Cut ⟨b.a, b.len, b.cap⟩ 0 size2 (b.cap : Int) 1 fun (s7 : Sl) =>
  RdB w ⟨s7.a, s7.len, s7.cap⟩ fun (x5 : ByteArray) =>
  c13 ⟨none, 0, 0⟩ r8 w fun (r9 : Sl) (w : World) =>
  BytesAt w ⟨s7.a, s7.len, s7.cap⟩ x5 ∧ (RdB w ⟨r9.a, r9.len, r9.cap⟩ fun (x6 : ByteArray) =>
  R (x6.toList == x5.toList) w))
def D3 (b r8 : Sl) (t2 : ByteArray) (i2 size2 : Int) (w : World) (R : Bool → World → Prop) : Prop :=
  if (i2 == 0) = true then D4 b r8 size2 w R else (Cut ⟨b.a, b.len, b.cap⟩ 0 i2 (b.cap : Int) 1 fun (s8 : Sl) =>
  RdB w ⟨s8.a, s8.len, s8.cap⟩ fun (x7 : ByteArray) =>
  c12 ⟨none, 0, 0⟩ t2 w fun (r10 : Sl) (w : World) =>
  BytesAt w ⟨s8.a, s8.len, s8.cap⟩ x7 ∧ (RdB w ⟨r10.a, r10.len, r10.cap⟩ fun (x8 : ByteArray) =>
  if (x8.toList == x7.toList) = true then D4 b r8 size2 w R else (R false w)))
def D2 (b r8 : Sl) (t2 : ByteArray) (y2 j2 i2 size2 : Int) (w : World) (R : Bool → World → Prop) : Prop :=
  if (j2 == 0) = true then D3 b r8 t2 i2 size2 w R else (Cut ⟨b.a, b.len, b.cap⟩ 0 j2 (b.cap : Int) 1 fun (s10 : Sl) =>
  RdB w ⟨s10.a, s10.len, s10.cap⟩ fun (x11 : ByteArray) =>
  c11 ⟨none, 0, 0⟩ y2 w fun (r12 : Sl) (w : World) =>
  BytesAt w ⟨s10.a, s10.len, s10.cap⟩ x11 ∧ (RdB w ⟨r12.a, r12.len, r12.cap⟩ fun (x12 : ByteArray) =>
  if (x12.toList == x11.toList) = true then D3 b r8 t2 i2 size2 w R else (R false w)))

section
variable {S : List Nat} {w0 w : World} {its : List Thing}

/-- A piece of the bytes, from the first on. -/
theorem head_cut {u : Thing} {b : Sl} {l : List Int} (hu : Hp.Reads u b 1 u8v l) (hbl : l.length = b.len) (hcap : b.len ≤ b.cap) {k : Int} (h0 : 0 ≤ k) (h1 : k ≤ l.length) {K : Sl → Prop} (hK : ∀ s, Hp.Reads u s 1 u8v (l.take k.toNat) → K s) : Cut ⟨b.a, b.len, b.cap⟩ 0 k (b.cap : Int) 1 K :=
  Hp.cutv (s := b) hu hbl u8v_len (Int.le_refl 0) h0 (by omega) (Int.le_refl _) (by omega) fun s hs _ _ => hK s hs

theorem d4_spec (h : Hp S w0 w its) (j i : Nat) {u : Thing} {b r8 : Sl} {l X : List Int} {size2 : Int} (hj : (its[j]?).map Thing.holds = some u.holds) (hu : Hp.Reads u b 1 u8v l) (hb : Bytes l) (hcap : b.len ≤ b.cap) (hi : its[i]? = some (tSl r8 2 1 iv X)) (hrow : RowOk l 100000 X size2) {R : Bool → World → Prop} (hR : ∀ w', Hp S w0 w' its → R true w') : D4 b r8 size2 w R := by
  have hbl := h.lenU j hj hu
  unfold D4
  by_cases hz : size2 = 0
  · exact ifT (by simpa using hz) (hR _ h)
  refine ifF (by simpa using hz) ?_
  obtain ⟨⟨_, hm, hX1, hX, rest, hl⟩, hs⟩ := hrow.2.1 hz
  have htk : l.take size2.toNat = rowU X := by rw [hs, Int.toNat_natCast]; conv => lhs; rw [hl]; simp
  have hle : size2 ≤ l.length := by
    have := congrArg List.length hl
    rw [List.length_append] at this
    omega
  refine head_cut hu hbl hcap (by omega) hle fun s hs' => ?_
  rw [htk] at hs'
  refine h.rdb j hj hs' _ (strL_of (rowU_bytes X)) ?_
  have h1 := h.nil 5 1 u8v
  have hlt := (List.getElem?_eq_some_iff.1 hi).1
  have hjl : j < its.length := by
    refine Nat.lt_of_not_le fun hle => ?_
    rw [List.getElem?_eq_none hle] at hj
    cases hj
  refine PutRow_spec h1 its.length i (b := ⟨none, 0, 0⟩) (bs := []) List.getElem?_concat_length Hp.rdSl (by rw [List.getElem?_append_left hlt]; exact hi) Hp.rdSl hX (by omega) (by simp) fun r w1 h1 => ?_
  refine ⟨h1.bat j (u := u) (by rw [List.append_assoc, List.getElem?_append_left hjl]; exact hj) hs' _ (strL_of (rowU_bytes X)), ?_⟩
  refine h1.rdb (its.length + 1) (u := tB r ([] ++ rowU X)) (by rw [List.getElem?_append_right (by simp)]; simp) Hp.rdSl _ (strL_of (rowU_bytes X)) ?_
  rw [str_beq]
  have := hR _ h1.front.front
  simpa using this

theorem d3_spec (h : Hp S w0 w its) (j i : Nat) {u : Thing} {b r8 : Sl} {l X : List Int} {size2 : Int} (hj : (its[j]?).map Thing.holds = some u.holds) (hu : Hp.Reads u b 1 u8v l) (hb : Bytes l) (hll : l.length ≤ 9000000000000) (hcap : b.len ≤ b.cap) (hi : its[i]? = some (tSl r8 2 1 iv X)) (hrow : RowOk l 100000 X size2) {R : Bool → World → Prop} (hR : ∀ w', Hp S w0 w' its → R true w') : D3 b r8 (strOf (getT l).1) (getT l).2 size2 w R := by
  have hbl := h.lenU j hj hu
  unfold D3
  by_cases hz : (getT l).2 = 0
  · exact ifT (by simpa using hz) (d4_spec h j i hj hu hb hcap hi hrow hR)
  refine ifF (by simpa using hz) ?_
  obtain ⟨g1, g2, g3⟩ := getT_back hb hz
  have htb := getT_bytes hb
  refine head_cut hu hbl hcap g2 g3 fun s hs' => ?_
  have hbt : Bytes (l.take (getT l).2.toNat) := bytes_take hb _
  refine h.rdb j hj hs' _ (strL_of hbt) ?_
  have h1 := h.nil 5 1 u8v
  have hjl : j < its.length := by
    refine Nat.lt_of_not_le fun hle => ?_
    rw [List.getElem?_eq_none hle] at hj
    cases hj
  have hsz : ((strOf (getT l).1).size : Int) = ((getT l).1.length : Int) := by rw [← strL_len, strL_of htb]
  have hle : (getT l).1.length ≤ l.length := by
    have := congrArg List.length g1
    simp only [List.length_append, List.length_take] at this
    omega
  refine PutText_spec h1 its.length (b := ⟨none, 0, 0⟩) (l := []) List.getElem?_concat_length Hp.rdSl (by simp; omega) fun r w1 h1 => ?_
  refine ⟨h1.bat j (u := u) (by rw [List.append_assoc, List.getElem?_append_left hjl]; exact hj) hs' _ (strL_of hbt), ?_⟩
  rw [hsz, strL_of htb, List.nil_append, g1] at h1
  refine h1.rdb (its.length + 1) (u := tB r (l.take (getT l).2.toNat)) (by rw [List.getElem?_append_right (by simp)]; simp) Hp.rdSl _ (strL_of hbt) ?_
  refine ifT (by rw [str_beq]; simp) ?_
  exact d4_spec h1.front.front j i hj hu hb hcap hi hrow hR

theorem d2_spec (h : Hp S w0 w its) (j i : Nat) {u : Thing} {b r8 : Sl} {l X : List Int} {size2 : Int} (hj : (its[j]?).map Thing.holds = some u.holds) (hu : Hp.Reads u b 1 u8v l) (hb : Bytes l) (hll : l.length ≤ 9000000000000) (hcap : b.len ≤ b.cap) (hi : its[i]? = some (tSl r8 2 1 iv X)) (hrow : RowOk l 100000 X size2) {R : Bool → World → Prop} (hR : ∀ w', Hp S w0 w' its → R true w') : D2 b r8 (strOf (getT l).1) (getI l).1 (getI l).2 (getT l).2 size2 w R := by
  have hbl := h.lenU j hj hu
  unfold D2
  have e2 : (getI l).2 = (getU l).2 := rfl
  have e1 : (getI l).1 = zag (getU l).1 := rfl
  rw [e1, e2]
  by_cases hz : (getU l).2 = 0
  · exact ifT (by simpa using hz) (d3_spec h j i hj hu hb hll hcap hi hrow hR)
  refine ifF (by simpa using hz) ?_
  obtain ⟨r0, r1, r2, r3, r4, r5⟩ := getU_range hb
  have g1 := getU_back hb hz
  refine head_cut hu hbl hcap r2 r3 fun s hs' => ?_
  have hbt : Bytes (l.take (getU l).2.toNat) := bytes_take hb _
  refine h.rdb j hj hs' _ (strL_of hbt) ?_
  have h1 := h.nil 5 1 u8v
  have hjl : j < its.length := by
    refine Nat.lt_of_not_le fun hle => ?_
    rw [List.getElem?_eq_none hle] at hj
    cases hj
  have hzr := zag_range r0 r1
  refine PutInt_spec h1 its.length (b := ⟨none, 0, 0⟩) (l := []) List.getElem?_concat_length Hp.rdSl hzr.1 hzr.2 (by simp) fun r w1 h1 => ?_
  refine ⟨h1.bat j (u := u) (by rw [List.append_assoc, List.getElem?_append_left hjl]; exact hj) hs' _ (strL_of hbt), ?_⟩
  rw [zig_zag r0, List.nil_append, g1] at h1
  refine h1.rdb (its.length + 1) (u := tB r (l.take (getU l).2.toNat)) (by rw [List.getElem?_append_right (by simp)]; simp) Hp.rdSl _ (strL_of hbt) ?_
  refine ifT (by rw [str_beq]; simp) ?_
  exact d3_spec h1.front.front j i hj hu hb hll hcap hi hrow hR

def D1 (b r8 : Sl) (t2 : ByteArray) (x4 k2 y2 j2 i2 size2 : Int) (w : World) (R : Bool → World → Prop) : Prop :=
  if (k2 == 0) = true then D2 b r8 t2 y2 j2 i2 size2 w R else (Cut ⟨b.a, b.len, b.cap⟩ 0 k2 (b.cap : Int) 1 fun (s14 : Sl) =>
  RdB w ⟨s14.a, s14.len, s14.cap⟩ fun (x19 : ByteArray) =>
  c10 ⟨none, 0, 0⟩ x4 w fun (r16 : Sl) (w : World) =>
  BytesAt w ⟨s14.a, s14.len, s14.cap⟩ x19 ∧ (RdB w ⟨r16.a, r16.len, r16.cap⟩ fun (x20 : ByteArray) =>
  if (x20.toList == x19.toList) = true then D2 b r8 t2 y2 j2 i2 size2 w R else (R false w)))

theorem d1_spec (h : Hp S w0 w its) (j i : Nat) {u : Thing} {b r8 : Sl} {l X : List Int} {size2 : Int} (hj : (its[j]?).map Thing.holds = some u.holds) (hu : Hp.Reads u b 1 u8v l) (hb : Bytes l) (hll : l.length ≤ 9000000000000) (hcap : b.len ≤ b.cap) (hi : its[i]? = some (tSl r8 2 1 iv X)) (hrow : RowOk l 100000 X size2) {R : Bool → World → Prop} (hR : ∀ w', Hp S w0 w' its → R true w') : D1 b r8 (strOf (getT l).1) (getU l).1 (getU l).2 (getI l).1 (getI l).2 (getT l).2 size2 w R := by
  have hbl := h.lenU j hj hu
  unfold D1
  by_cases hz : (getU l).2 = 0
  · exact ifT (by simpa using hz) (d2_spec h j i hj hu hb hll hcap hi hrow hR)
  refine ifF (by simpa using hz) ?_
  obtain ⟨r0, r1, r2, r3, r4, r5⟩ := getU_range hb
  have g1 := getU_back hb hz
  refine head_cut hu hbl hcap r2 r3 fun s hs' => ?_
  have hbt : Bytes (l.take (getU l).2.toNat) := bytes_take hb _
  refine h.rdb j hj hs' _ (strL_of hbt) ?_
  have h1 := h.nil 5 1 u8v
  have hjl : j < its.length := by
    refine Nat.lt_of_not_le fun hle => ?_
    rw [List.getElem?_eq_none hle] at hj
    cases hj
  refine Put_spec h1 its.length (b := ⟨none, 0, 0⟩) (l := []) List.getElem?_concat_length Hp.rdSl r0 r1 (by simp) fun r w1 h1 => ?_
  refine ⟨h1.bat j (u := u) (by rw [List.append_assoc, List.getElem?_append_left hjl]; exact hj) hs' _ (strL_of hbt), ?_⟩
  rw [List.nil_append, g1] at h1
  refine h1.rdb (its.length + 1) (u := tB r (l.take (getU l).2.toNat)) (by rw [List.getElem?_append_right (by simp)]; simp) Hp.rdSl _ (strL_of hbt) ?_
  refine ifT (by rw [str_beq]; simp) ?_
  exact d2_spec h1.front.front j i hj hu hb hll hcap hi hrow hR
end
end Go.Proofs.Ytbmpgjheiknjlaa.F
