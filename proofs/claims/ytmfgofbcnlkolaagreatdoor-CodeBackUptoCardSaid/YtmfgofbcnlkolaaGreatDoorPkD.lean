/-
  Part 4 of the proof: CodeBack is true of the given program where what it reads is of bulk at most 1048576: its row, and the card tied to the program's text.
-/
import Derived.Test.YtmfgofbcnlkolaaGreatDoorPkC
import Derived.RangeFuncNested
import Derived.RangeFuncLeaves
import Derived.OrdersIn
import Derived.TacticsIn
import Derived.Sort.LoopGhostIn
import Derived.Lib.AppendZeros
import Derived.Tactics
import Derived.Tactics2
import Derived.Defers
import Derived.Recover
import Derived.Shelf.Strings.Builder1
import Derived.Shelf.Strings.BuilderF
import Derived.Shelf.Strings.BuilderK
import Derived.Shelf.Utf8.RuneCount
import Derived.Shelf.Strconv.Itoa0
import Derived.Shelf.Strconv.Itoa1
import Derived.Shelf.LaysM
import Derived.Shelf.Strconv.Itoa2
import Derived.Shelf.Strconv.Itoa3
import Derived.Shelf.Strconv.Itoa4
import Derived.Shelf.Strconv.ParseIntEmpty
import Derived.Shelf.Strconv.Clone
import Derived.Shelf.Strconv.SyntaxError
import Derived.Shelf.LaysC
import Derived.Shelf.Strconv.ToError
import Derived.Shelf.Strconv.Lower
import Derived.Shelf.Strconv.ParseUint10
import Derived.Shelf.Strconv.ParseUint10Empty
import Derived.Shelf.Strconv.ParseUint10Any
import Derived.Shelf.Strconv.ParseInt10
import Derived.Shelf.Strconv.RangeError
import Derived.Shelf.Strconv.ToErrorRange
import Derived.Shelf.Strconv.ParseUintEmpty
import Derived.Shelf.Strconv.ParseUint10b64
import Derived.Shelf.Strconv.ParseUint10b32
import Derived.Shelf.Strconv.ParseUint10b16
import Derived.Shelf.Strconv.ParseUint10b8
import Derived.Shelf.Strconv.ParseUint10At
import Derived.Shelf.Strconv.ParseInt10At64
import Derived.Shelf.Strconv.ParseInt10At32
import Derived.Shelf.Strconv.ParseInt10At16
import Derived.Shelf.Strconv.ParseInt10At8
import Derived.Shelf.Strconv.ParseInt10All
import Derived.Shelf.Strconv.ParseIntPublic10
import Derived.Shelf.Strconv.ErrVarParseInt
import Derived.Shelf.Strings.Search1
import Derived.Shelf.Strings.Search2
import Derived.Shelf.Strings.Search3
import Derived.Shelf.Strings.Cut
import Derived.Shelf.Strings.Count
import Derived.Shelf.Strings.Shaped
import Derived.Shelf.Strings.Split
import Derived.Shelf.Strings.SplitShaped
import Derived.Shelf.Unicode.Decode
import Derived.Shelf.Strings.RuneCount
import Derived.Shelf.Strings.Explode
import Derived.Shelf.Unicode.DecodeSlow
import Derived.Shelf.Unicode.DecodeAny
import Derived.Shelf.Strings.BuilderCap
import Derived.Lib.ItoaLen
import Derived.Lib.AppendIntMem
set_option linter.unusedSimpArgs false
set_option linter.unusedVariables false
set_option maxRecDepth 100000
section
namespace Go.Proofs.YtmfgofbcnlkolaaGreatDoor.F
open Go Go.Den Go.Proofs
theorem get_bound {n c : Int} {i : Nat} (hi : i ≤ 9) (c0 : 0 ≤ c) (c1 : c < 256) (h9 : i = 9 → c ≤ 1) (n0 : 0 ≤ n) (n1 : n < 2 ^ (7 * i)) :
  0 ≤ (c % 128) * 2 ^ (7 * i) ∧ n + (c % 128) * 2 ^ (7 * i) < 18446744073709551616 ∧ n + (c % 128) * 2 ^ (7 * i) < 2 ^ (7 * (i + 1)) := by
 have hc9 : i ≠ 9 ∨ c ≤ 1 := by
  by_cases h : i = 9
  ·exact .inr (h9 h)
  ·exact .inl h
 clear h9
 have : i = 0 ∨ i = 1 ∨ i = 2 ∨ i = 3 ∨ i = 4 ∨ i = 5 ∨ i = 6 ∨ i = 7 ∨ i = 8 ∨ i = 9 := by omega
 rcases this with rfl | rfl | rfl | rfl | rfl | rfl | rfl | rfl | rfl | rfl <;> simp only [Nat.reduceMul, Nat.reduceAdd, Int.reducePow] at * <;> omega
theorem get_shift {i : Nat} (hi : i ≤ 9) : min (Int.toNat (IntKind.i64.wrap (7 * (i : Int)))) 64 = 7 * i := by
 rw [wr64 (by omega) (by omega)]; omega
theorem get_val {n c : Int} {i : Nat} (hi : i ≤ 9) (c0 : 0 ≤ c) (c1 : c < 256) (h9 : i = 9 → c ≤ 1) (n0 : 0 ≤ n) (n1 : n < 2 ^ (7 * i)) :
  IntKind.u64.wrap ((BitVec.ofInt 64 n ||| BitVec.ofInt 64 (IntKind.u64.wrap ((IntKind.u64.wrap (IntKind.u8.wrap ((BitVec.ofInt 8 c &&& BitVec.ofInt 8 127).toNat : Nat))) * 2 ^ (min (Int.toNat (IntKind.i64.wrap (7 * (i : Int)))) 64)))).toNat : Nat) = n + (c % 128) * 2 ^ (7 * i) := by
 obtain ⟨b0, b1, b2⟩ := get_bound hi c0 c1 h9 n0 n1
 rw [low8 c0 c1, get_shift hi]
 have e : IntKind.u64.wrap (c % 128 * 2 ^ (7 * i)) = c % 128 * 2 ^ (7 * i) := by
  rw [w64]
  generalize c % 128 * 2 ^ (7 * i) = q at b0 b1
  omega
 rw [e]
 obtain ⟨a, ha⟩ := Int.eq_ofNat_of_zero_le (show 0 ≤ c % 128 by omega)
 rw [ha] at b0 b1 b2 ⊢
 have := or_add (a := a) (k := 7 * i) n0 n1 b1
 rw [this, w64]
 generalize (a : Int) * 2 ^ (7 * i) = q at b0 b1
 omega
theorem getF_cons (c : Int) (r : List Int) (i : Nat) (n : Int) : getF (c :: r) i n = if i = 9 ∧ 1 < c then (0, 0) else
  if 128 ≤ c then getF r (i + 1) (n + (c % 128) * 2 ^ (7 * i)) else
  if c = 0 ∧ 0 < i then (0, 0) else (n + (c % 128) * 2 ^ (7 * i), (i : Int) + 1) := by rw [getF]
theorem getF_range : ∀ (l : List Int) (i : Nat) (n : Int), i ≤ 9 → Bytes l → 0 ≤ n → n < 2 ^ (7 * i) → 0 ≤ (getF l i n).1 ∧ (getF l i n).1 < 18446744073709551616 ∧ 0 ≤ (getF l i n).2 ∧ (getF l i n).2 ≤ i + l.length ∧ (getF l i n).2 ≤ 10 ∧ ((getF l i n).2 = 0 → (getF l i n).1 = 0)
 | [], i, n, hi, hb, h0, h1 => by rw [getF]; simp
 | c :: r, i, n, hi, hb, h0, h1 => by
  have hc := hb c (by simp)
  rw [getF_cons]
  split
  ·simp; omega
  ·rename_i h9
   have h9' : i = 9 → c ≤ 1 := fun h => by omega
   obtain ⟨b0, b1, b2⟩ := get_bound hi hc.1 hc.2 h9' h0 h1
   split
   ·have := getF_range r (i + 1) (n + (c % 128) * 2 ^ (7 * i)) (by omega) (fun x hx => hb x (by simp [hx])) (by omega) b2
    refine ⟨this.1, this.2.1, this.2.2.1, ?_, this.2.2.2.2.1, this.2.2.2.2.2⟩
    have := this.2.2.2.1
    simp only [List.length_cons]
    omega
   ·split
    ·simp; omega
    ·refine ⟨by omega, b1, by omega, by simp only [List.length_cons]; omega, by omega, by omega⟩
theorem getU_range {l : List Int} (hb : Bytes l) : 0 ≤ (getU l).1 ∧ (getU l).1 < 18446744073709551616 ∧ 0 ≤ (getU l).2 ∧ (getU l).2 ≤ l.length ∧ (getU l).2 ≤ 10 ∧ ((getU l).2 = 0 → (getU l).1 = 0) := by
 have := getF_range l 0 0 (by omega) hb (by omega) (by simp)
 unfold getU
 simpa using this
section
variable {S : List Nat} {w0 w : World} {its : List Thing}
theorem Get_spec (h : Hp S w0 w its) (j : Nat) {u : Thing} {b : Sl} {l : List Int} (hj : (its[j]?).map Thing.holds = some u.holds) (hu : Hp.Reads u b 1 u8v l) (hb : Bytes l) (hl : l.length ≤ 9000000000000000) {K : Int → Int → World → Prop}
  (hK : K (getU l).1 (getU l).2 w) : c93 b w K := by
 refine c93_of ?_
 unfold f93
 have hbl := h.lenU j hj hu
 refine ⟨fun n t m w' => ∃ i : Nat, t = i ∧ i ≤ l.length ∧ i ≤ 9 ∧ 0 ≤ n ∧ n < 2 ^ (7 * i) ∧ getF (l.drop i) i n = getU l ∧ m = l.length - i ∧ w' = w, ⟨l.length, 0, rfl, by omega, by omega, by omega, by simp, rfl, rfl, rfl⟩, ?_⟩
 rintro n t m w2 ⟨i, rfl, hi, hi9, n0, n1, hg, rfl, rfl⟩
 by_cases hlt : i < l.length
 ·refine ifT (by simp; omega) ?_
  have hc := hb l[i] (List.getElem_mem hlt)
  have hd : l.drop i = l[i] :: l.drop (i + 1) := List.drop_eq_getElem_cons hlt
  refine h.ixldU (k := .i .u8) (u := u) (y := l[i]) (x := l[i]) j hj hu (by omega) (by simp [hlt]) u8v_len rfl ?_
  rw [hd, getF_cons] at hg
  generalize l[i] = c at hc hg hd
  by_cases h9 : i = 9 ∧ 1 < c
  ·refine ifT (by rw [h9.1]; simpa using h9.2) ?_
   rw [if_pos h9] at hg
   rw [← hg] at hK
   exact hK
  ·rw [if_neg h9] at hg
   refine ifF ?_ ?_
   ·by_cases hi' : (i : Int) = 9
    ·have : ¬ c > 1 := fun h => h9 ⟨by omega, h⟩
     simp [hi', this]
    ·simp [hi']
   have h9' : i = 9 → c ≤ 1 := fun h => by omega
   obtain ⟨b0, b1, b2⟩ := get_bound hi9 hc.1 hc.2 h9' n0 n1
   refine ⟨by rw [wr64 (by omega) (by omega)]; omega, ?_⟩
   rw [get_val hi9 hc.1 hc.2 h9' n0 n1]
   by_cases hge : 128 ≤ c
   ·refine ifT (by simpa using hge) ?_
    rw [if_pos hge] at hg
    exact ⟨l.length - (i + 1), by omega, i + 1, by rw [wr64 (by omega) (by omega)]; omega, by omega, by omega, by omega, b2, hg, rfl, rfl⟩
   ·refine ifF (by simpa using hge) ?_
    rw [if_neg hge] at hg
    by_cases hz : c = 0 ∧ 0 < i
    ·refine ifT (by simp [hz]) ?_
     rw [if_pos hz] at hg
     rw [← hg] at hK
     exact hK
    ·refine ifF ?_ ?_
     ·by_cases hc0 : c = 0
      ·have : ¬ 0 < i := fun h => hz ⟨hc0, h⟩
       simp [hc0]; omega
      ·simp [hc0]
     rw [if_neg hz] at hg
     rw [← hg] at hK
     rw [wr64 (by omega) (by omega)]
     exact hK
 ·refine ifF (by simp; omega) ?_
  rw [List.drop_of_length_le (by omega), getF] at hg
  rw [← hg] at hK
  exact hK
def getI (l : List Int) : Int × Int := (zag (getU l).1, (getU l).2)
theorem plain_spec {n : Int} {K : Int → World → Prop} (h1 : 0 ≤ n) (h2 : n < 18446744073709551616) (hK : K (zag n) w) : c107 n w K := by
 refine c107_of ?_
 unfold f107
 refine ⟨by omega, ?_⟩
 rw [plain_eq h1 h2]
 exact hK
theorem GetInt_spec (h : Hp S w0 w its) (j : Nat) {u : Thing} {b : Sl} {l : List Int} (hj : (its[j]?).map Thing.holds = some u.holds) (hu : Hp.Reads u b 1 u8v l) (hb : Bytes l) (hl : l.length ≤ 9000000000000000) {K : Int → Int → World → Prop}
  (hK : K (getI l).1 (getI l).2 w) : c95 b w K := by
 refine c95_of ?_
 unfold f95
 have hr := getU_range hb
 refine Get_spec h j hj hu hb hl ?_
 exact plain_spec hr.1 hr.2.1 hK
def getT (l : List Int) : List Int × Int :=
 if (getU l).2 = 0 ∨ (l.length : Int) - (getU l).2 < (getU l).1 then ([], 0) else ((l.drop (getU l).2.toNat).take (getU l).1.toNat, (getU l).2 + (getU l).1)
theorem bytes_take {l : List Int} (h : Bytes l) (n : Nat) : Bytes (l.take n) := fun x hx => h x (List.mem_of_mem_take hx)
theorem bytes_drop {l : List Int} (h : Bytes l) (n : Nat) : Bytes (l.drop n) := fun x hx => h x (List.mem_of_mem_drop hx)
theorem getT_bytes {l : List Int} (h : Bytes l) : Bytes (getT l).1 := by
 unfold getT
 split
 ·intro x hx; cases hx
 ·exact bytes_take (bytes_drop h _) _
theorem text_tail (h : Hp S w0 w its) (j : Nat) {u : Thing} {b : Sl} {l : List Int} (hj : (its[j]?).map Thing.holds = some u.holds) (hu : Hp.Reads u b 1 u8v l) (hb : Bytes l) (hl : l.length ≤ 9000000000000000) (hcap : b.len ≤ b.cap) {K : ByteArray → Int → World → Prop}
  (hK : K (strOf (getT l).1) (getT l).2 w) :
  if (cond ((getU l).2 == 0) true (decide ((getU l).1 > (IntKind.u64.wrap (IntKind.i64.wrap ((b.len : Int) - (getU l).2)))))) = true then (K (⟨#[]⟩ : ByteArray) 0 w) else (Cut ⟨b.a, b.len, b.cap⟩ (getU l).2 (IntKind.i64.wrap ((getU l).2 + (IntKind.i64.wrap (getU l).1))) (b.cap : Int) 1 fun (s : Sl) =>
   RdB w ⟨s.a, s.len, s.cap⟩ fun (x : ByteArray) => K x (IntKind.i64.wrap ((getU l).2 + (IntKind.i64.wrap (getU l).1))) w) := by
 have hbl := h.lenU j hj hu
 obtain ⟨r0, r1, r2, r3, r4, r5⟩ := getU_range hb
 have hTb := getT_bytes hb
 unfold getT at hK hTb
 generalize getU l = p at r0 r1 r2 r3 r4 r5 hK hTb
 obtain ⟨n, k⟩ := p
 dsimp only at r0 r1 r2 r3 r4 r5 hK hTb ⊢
 have e1 : IntKind.u64.wrap (IntKind.i64.wrap ((b.len : Int) - k)) = (l.length : Int) - k := by
  rw [wr64 (by omega) (by omega), w64]; omega
 rw [e1]
 by_cases hbad : k = 0 ∨ (l.length : Int) - k < n
 ·refine ifT ?_ ?_
  ·rcases hbad with h | h
   ·simp [h]
   ·simp [h]
  ·rw [if_pos hbad] at hK
   exact hK
 ·refine ifF ?_ ?_
  ·simp only [not_or] at hbad
   have : ¬ n > (l.length : Int) - k := by omega
   simp [hbad.1, this]
  ·rw [if_neg hbad] at hK hTb
   simp only [not_or] at hbad
   have e2 : IntKind.i64.wrap (k + IntKind.i64.wrap n) = k + n := by
    rw [wr64 (n := n) (by omega) (by omega), wr64 (by omega) (by omega)]
   rw [e2]
   refine Hp.cutv (s := b) hu hbl u8v_len r2 (by omega) (by omega) (by omega) (by omega) fun s hs _ _ => ?_
   have e3 : (l.take (k + n).toNat).drop k.toNat = (l.drop k.toNat).take n.toNat := by
    rw [List.drop_take]; congr 1; omega
   rw [e3] at hs
   exact h.rdb j hj hs _ (strL_of hTb) hK
theorem GetText_spec (h : Hp S w0 w its) (j : Nat) {u : Thing} {b : Sl} {l : List Int} (hj : (its[j]?).map Thing.holds = some u.holds) (hu : Hp.Reads u b 1 u8v l) (hb : Bytes l) (hl : l.length ≤ 9000000000000000) (hcap : b.len ≤ b.cap) {K : ByteArray → Int → World → Prop}
  (hK : K (strOf (getT l).1) (getT l).2 w) : c94 b w K := by
 refine c94_of ?_
 unfold f94
 refine Get_spec h j hj hu hb hl ?_
 exact text_tail h j hj hu hb hl hcap hK
end
theorem getF_put : ∀ (f i : Nat) (n acc : Int) (r : List Int), i + f = 9 → 0 ≤ n → n < 128 ^ (f + 1) → (i = 0 → n < 18446744073709551616) → (0 < i → 0 < n) → (n * 2 ^ (7 * i) < 18446744073709551616) →
  getF (putF (f + 1) n ++ r) i acc = (acc + n * 2 ^ (7 * i), (i : Int) + (putF (f + 1) n).length)
 | f, i, n, acc, r, hif, h0, h1, h2, hpos, h3 => by
  have u1 : putF (f + 1) n = if n < 128 then [n] else (n % 128 + 128) :: putF f (n / 128) := by rw [putF]
  rw [u1]
  by_cases hlt : n < 128
  ·rw [if_pos hlt]
   simp only [List.cons_append, List.nil_append]
   rw [getF_cons, if_neg, if_neg (by omega), if_neg]
   ·have e : n % 128 = n := by omega
    rw [e]; simp
   ·rintro ⟨rfl, hi⟩; exact absurd (hpos hi) (by omega)
   ·rintro ⟨rfl, hc⟩
    simp only [Nat.reduceMul, Int.reducePow] at h3
    omega
  ·rw [if_neg hlt]
   simp only [List.cons_append]
   have hi9 : i ≠ 9 := by
    rintro rfl
    simp only [Nat.reduceMul, Int.reducePow] at h3
    omega
   rw [getF_cons, if_neg (by omega), if_pos (by omega)]
   match f, hif with
   | 0, hif => omega
   | f + 1, hif =>
    have hp : (2 : Int) ^ (7 * (i + 1)) = 128 * 2 ^ (7 * i) := by
     rw [show 7 * (i + 1) = 7 + 7 * i by omega, Int.pow_add]; rfl
    have hpp : (0 : Int) < 2 ^ (7 * i) := Int.pow_pos (by omega)
    have hn : n / 128 < 128 ^ (f + 1) := by
     rw [Int.pow_succ] at h1
     generalize (128 : Int) ^ (f + 1) = p at h1 ⊢
     omega
    have hdm : n = 128 * (n / 128) + n % 128 := by omega
    have hle : n / 128 * (128 * 2 ^ (7 * i)) ≤ n * 2 ^ (7 * i) := by
     rw [← Int.mul_assoc]
     exact Int.mul_le_mul_of_nonneg_right (by omega) (by omega)
    have ih := getF_put f (i + 1) (n / 128) (acc + (n % 128 + 128) % 128 * 2 ^ (7 * i)) r (by omega) (by omega) hn (by omega) (by omega) (by rw [hp]; omega)
    rw [ih]
    have e1 : (n % 128 + 128) % 128 = n % 128 := by omega
    rw [e1, hp]
    refine Prod.ext ?_ ?_
    ·show acc + n % 128 * 2 ^ (7 * i) + n / 128 * (128 * 2 ^ (7 * i)) = acc + n * 2 ^ (7 * i)
     have : n * 2 ^ (7 * i) = n / 128 * (128 * 2 ^ (7 * i)) + n % 128 * 2 ^ (7 * i) := by
      rw [← Int.mul_assoc, ← Int.add_mul]
      congr 1; omega
     omega
    ·show ((i + 1 : Nat) : Int) + _ = _
     simp only [List.length_cons]; omega
theorem getU_put {n : Int} (h0 : 0 ≤ n) (h1 : n < 18446744073709551616) (r : List Int) : getU (putU n ++ r) = (n, ((putU n).length : Int)) := by
 unfold getU putU
 have := getF_put 9 0 n 0 r rfl h0 (by simp only [Int.reducePow, Nat.reduceAdd]; omega) (fun _ => h1) (by omega) (by simpa using h1)
 rw [this]
 simp
theorem getF_back : ∀ (f i : Nat) (l : List Int) (acc : Int), i + f = 9 → Bytes l → (getF l i acc).2 ≠ 0 → ∃ n : Int, 0 ≤ n ∧ n < 128 ^ (f + 1) ∧ (0 < i → 0 < n) ∧ (getF l i acc).1 = acc + n * 2 ^ (7 * i) ∧ ∃ r, l = putF (f + 1) n ++ r ∧ (getF l i acc).2 = i + (putF (f + 1) n).length
 | f, i, [], acc, hif, hb, hk => by rw [getF] at hk; exact absurd rfl hk
 | f, i, c :: r, acc, hif, hb, hk => by
  have hc := hb c (by simp)
  rw [getF_cons] at hk ⊢
  by_cases h9 : i = 9 ∧ 1 < c
  ·rw [if_pos h9] at hk; exact absurd rfl hk
  rw [if_neg h9] at hk ⊢
  by_cases hge : 128 ≤ c
  ·rw [if_pos hge] at hk ⊢
   match f, hif with
   | 0, hif => exact absurd ⟨by omega, by omega⟩ h9
   | f + 1, hif =>
    obtain ⟨n, n0, n1, n2, n3, r', n4, n5⟩ := getF_back f (i + 1) r (acc + c % 128 * 2 ^ (7 * i)) (by omega) (fun x hx => hb x (by simp [hx])) hk
    have hpos := n2 (by omega)
    have hp : (2 : Int) ^ (7 * (i + 1)) = 128 * 2 ^ (7 * i) := by
     rw [show 7 * (i + 1) = 7 + 7 * i by omega, Int.pow_add]; rfl
    have u1 : putF (f + 1 + 1) (128 * n + c % 128) = (c % 128 + 128) :: putF (f + 1) n := by
     have : putF (f + 1 + 1) (128 * n + c % 128) = if 128 * n + c % 128 < 128 then [128 * n + c % 128] else ((128 * n + c % 128) % 128 + 128) :: putF (f + 1) ((128 * n + c % 128) / 128) := by rw [putF]
     rw [this, if_neg (by omega)]
     have e1 : (128 * n + c % 128) % 128 = c % 128 := by omega
     have e2 : (128 * n + c % 128) / 128 = n := by omega
     rw [e1, e2]
    refine ⟨128 * n + c % 128, by omega, ?_, by omega, ?_, r', ?_, ?_⟩
    ·rw [Int.pow_succ]
     generalize (128 : Int) ^ (f + 1) = p at n1 ⊢
     omega
    ·rw [n3, hp, Int.add_mul, Int.mul_comm 128 n, Int.mul_assoc]
     omega
    ·rw [u1, n4]
     have : c % 128 + 128 = c := by omega
     rw [this]; rfl
    ·rw [n5, u1]
     simp only [List.length_cons]; omega
  ·rw [if_neg hge] at hk ⊢
   by_cases hz : c = 0 ∧ 0 < i
   ·rw [if_pos hz] at hk; exact absurd rfl hk
   rw [if_neg hz]
   have u1 : putF (f + 1) c = [c] := by rw [putF, if_pos (by omega)]
   refine ⟨c, hc.1, ?_, by intro h; omega, ?_, r, ?_, ?_⟩
   ·rw [Int.pow_succ]
    have : (0 : Int) < 128 ^ f := Int.pow_pos (by omega)
    generalize (128 : Int) ^ f = p at this
    omega
   ·have e : c % 128 = c := by omega
    rw [e]
   ·rw [u1]; rfl
   ·rw [u1]; rfl
theorem getU_back {l : List Int} (hb : Bytes l) (hk : (getU l).2 ≠ 0) : putU (getU l).1 = l.take (getU l).2.toNat := by
 obtain ⟨n, n0, n1, n2, n3, r, n4, n5⟩ := getF_back 9 0 l 0 rfl hb hk
 have e1 : (getU l).1 = n := by show (getF l 0 0).1 = n; rw [n3]; simp
 have e2 : (getU l).2 = (putU n).length := by show (getF l 0 0).2 = _; rw [n5]; simp [putU]
 rw [e1, e2, Int.toNat_natCast]
 conv => rhs; rw [n4]
 show putU n = List.take (putU n).length (putU n ++ r)
 simp
end Go.Proofs.YtmfgofbcnlkolaaGreatDoor.F
end

section
namespace Go.Den
open Go.RowKit
variable {ds : List Deferred}
structure Grw (w w' : World) : Prop where
 os : w'.os = w.os
 tape : w'.tape = w.tape
 output : w'.output = w.output
 size : w.heap.size ≤ w'.heap.size
 block : ∀ k, k < w.heap.size → w'.heap[k]? = w.heap[k]?
structure Trn (l : Nat) (w w' : World) : Prop where
 os : w'.os = w.os
 tape : w'.tape = w.tape
 output : w'.output = w.output
 size : w.heap.size ≤ w'.heap.size
 block : ∀ k, k < w.heap.size → k ≠ l → w'.heap[k]? = w.heap[k]?
section
variable {P : Program} {N : NX} {H : Hints} {R : List (Nat × Kd)}
end
end Go.Den
end

section
namespace Go.Den
open Go.RowKit
def tAny (k : Nat) : Thing :=
  { holds := fun w O => O = [k] ∧ k < w.heap.size
    fr := fun h hf _ => ⟨h.1, Nat.lt_of_lt_of_le h.2 hf.size⟩
    lt := fun h j hj => by rw [h.1] at hj; simp only [List.mem_singleton] at hj; subst hj; exact h.2 }
namespace Hp
variable {S : List Nat} {w0 w : World} {its : List Thing}
theorem dropMid {mid : List Thing} {t : Thing} (h : Hp S w0 w (its ++ mid ++ [t])) : Hp S w0 w (its ++ [t]) := by
 refine h.sel (List.range its.length ++ [its.length + mid.length]) ?_ (by simp) (fun n j hn => ?_)
 ·rw [List.nodup_append]
  refine ⟨List.nodup_range, by simp, fun a ha b hb => ?_⟩
  simp only [List.mem_range, List.mem_singleton] at ha hb
  omega
 ·by_cases hlt : n < its.length
  ·rw [List.getElem?_append_left (by simpa using hlt)] at hn
   rw [List.getElem?_range hlt] at hn
   simp only [Option.some.injEq] at hn
   subst hn
   rw [List.append_assoc, List.getElem?_append_left hlt, List.getElem?_append_left hlt]
  ·rw [List.getElem?_append_right (by simpa using hlt)] at hn
   have hz : n - (List.range its.length).length = 0 := by
    rcases Nat.eq_zero_or_pos (n - (List.range its.length).length) with h | h
    ·exact h
    ·rw [List.getElem?_eq_none (by simp only [List.length_cons, List.length_nil]; omega)] at hn; cases hn
   rw [hz] at hn
   simp only [List.getElem?_cons_zero, Option.some.injEq] at hn
   subst hn
   simp only [List.length_range] at hz
   have hn : n = its.length := by omega
   subst hn
   rw [List.getElem?_append_right (by simp), List.getElem?_append_right (by omega)]
   simp
end Hp
end Go.Den
end

section
namespace Go.Den
open Go
def tNest {X α : Type} (e : TypeId) (n : Nat) (cells : X → List Value) (sub : X → Thing) (vis : X → α) (s : Sl) (l : List α) : Thing :=
 tEx fun xs : List X => tAnd (xs.map vis = l) (tStar (tSl s e n cells xs) (tAll (xs.map sub)))
namespace Hp
section
variable {S : List Nat} {w0 w : World} {its : List Thing}
theorem rot {A B C : List Thing} (h : Hp S w0 w (A ++ B ++ C)) : Hp S w0 w (B ++ A ++ C) := by
 obtain ⟨f, hf⟩ : ∃ f : Nat → Nat, f = fun n => if n < B.length then A.length + n else if n < A.length + B.length then n - B.length else n := ⟨_, rfl⟩
 have hinj : ∀ x y, f x = f y → x = y := by
  intro x y
  rw [hf]
  dsimp only
  repeat' split
  all_goals omega
 refine h.sel ((List.range (A.length + B.length + C.length)).map f) ?_ (by simp; omega) fun n j hn => ?_
 ·rw [List.nodup_iff_pairwise_ne, List.pairwise_map]
  exact List.Pairwise.imp (fun {a b} hne he => hne (hinj a b he)) (List.nodup_iff_pairwise_ne.1 List.nodup_range)
 ·rw [List.getElem?_map] at hn
  obtain ⟨m, hm, rfl⟩ := Option.map_eq_some_iff.1 hn
  have hml := (List.getElem?_eq_some_iff.1 hm).1
  rw [List.getElem?_range (by simpa using hml)] at hm
  obtain rfl := Option.some.inj hm
  rw [hf]
  dsimp only
  simp only [List.length_range] at hml
  by_cases h1 : n < B.length
  ·rw [if_pos h1, List.getElem?_append_left (by simp; omega), List.getElem?_append_right (by omega), List.getElem?_append_left (by simp; omega), List.getElem?_append_left h1]
   congr 1; omega
  ·rw [if_neg h1]
   by_cases h2 : n < A.length + B.length
   ·rw [if_pos h2, List.getElem?_append_left (by simp; omega), List.getElem?_append_left (by omega), List.getElem?_append_left (by simp; omega), List.getElem?_append_right (by omega)]
   ·rw [if_neg h2, List.getElem?_append_right (by simp; omega), List.getElem?_append_right (by simp; omega)]
    congr 1; simp; omega
theorem mid {A B C D : List Thing} (h : Hp S w0 w (A ++ B ++ C ++ D)) : Hp S w0 w (A ++ C ++ B ++ D) := by
 have h : Hp S w0 w (A ++ (B ++ C) ++ D) := by simpa using h
 have h := h.rot
 have h : Hp S w0 w (B ++ C ++ (A ++ D)) := by simpa using h
 have h := h.rot
 have h : Hp S w0 w ((C ++ B) ++ A ++ D) := by simpa using h
 have h := h.rot
 simpa using h
theorem comm {A B : List Thing} (h : Hp S w0 w (A ++ B)) : Hp S w0 w (B ++ A) := by
 have h : Hp S w0 w (A ++ B ++ []) := by rw [List.append_nil]; exact h
 have := h.rot
 rwa [List.append_nil] at this
theorem cutMid {A B C : List Thing} (h : Hp S w0 w (A ++ B ++ C)) : Hp S w0 w (A ++ C) := by
 have h := h.rot
 rw [List.append_assoc] at h
 exact h.comm.front
theorem set_same' {α : Type} {l : List α} {i : Nat} {x : α} (h : l[i]? = some x) : l.set i x = l := by
 apply List.ext_getElem?
 intro j
 rw [List.getElem?_set]
 split
 ·rename_i hj
  subst hj
  rw [if_pos (List.getElem?_eq_some_iff.1 h).1, h]
 ·rfl
theorem swap2 {A B C : List Thing} (h : Hp S w0 w (A ++ B ++ C)) : Hp S w0 w (A ++ C ++ B) := by
 have h : Hp S w0 w (A ++ B ++ C ++ []) := by rw [List.append_nil]; exact h
 have h := h.mid
 rwa [List.append_nil] at h
theorem nwS {α : Type} {f : α → List Value} {n m : Nat} {e : TypeId} {c : List Value} (h : Hp S w0 w its) {l : List α} (hc : c = l.flatMap f) (hm : l.length = m) (hf : ∀ x, (f x).length = n) {K : Addr → World → Prop}
  (hK : ∀ b w', Hp S w0 w' (its ++ [tSl ⟨some ⟨b, 0, none⟩, m, m⟩ e n f l]) → K ⟨b, 0, none⟩ w') : Nw (.cells c.toArray e) w K := by
 refine h.nw fun b w' h => ?_
 have h := h.blkSl (i := its.length) (m := m) (l := l) (f := f) (n := n) List.getElem?_concat_length hc hm hf
 rw [List.set_append_right _ _ (Nat.le_refl _), Nat.sub_self, List.set_cons_zero] at h
 exact hK b w' h
theorem gather : ∀ (ts : List Thing) {A : List Thing}, owns ts = true → Hp S w0 w (A ++ ts) → Hp S w0 w (A ++ [tAll ts])
 | [], A, _, h => by
  rw [List.append_nil] at h
  exact h.grow (Fr.refl _ _) (t := tEmp) (O := []) rfl (by simp) rfl
 | t :: ts, A, ho, h => by
  have ho1 : t.own = true ∧ owns ts = true := by simpa [owns] using ho
  have h : Hp S w0 w ((A ++ [t]) ++ ts) := by simpa using h
  have h := gather ts ho1.2 h
  have h : Hp S w0 w (A ++ [t, tAll ts]) := by simpa using h
  have h := h.joinStar (i := A.length) (j := A.length + 1) (a := t) (b := tAll ts) (by omega) (by simp) (by rw [List.getElem?_append_right (by omega)]; simp) ho1.1 (tAll_own _)
  rw [List.set_append_right _ _ (Nat.le_refl _), List.set_append_right _ _ (by omega)] at h
  have h : Hp S w0 w (A ++ [tStar t (tAll ts)] ++ [tEmp]) := by simpa using h
  exact h.front
section
variable {X α : Type} {e : TypeId} {n : Nat} {cells : X → List Value} {sub : X → Thing} {vis : X → α} {s : Sl} {l : List α}
theorem nest_open (h : Hp S w0 w its) {i : Nat} (hi : its[i]? = some (tNest e n cells sub vis s l)) : ∃ xs : List X, xs.map vis = l ∧ Hp S w0 w (its.set i (tSl s e n cells xs) ++ [tAll (xs.map sub)]) := by
 have hl := (List.getElem?_eq_some_iff.1 hi).1
 obtain ⟨xs, h⟩ := h.openEx hi (fun _ => rfl)
 obtain ⟨hx, h⟩ := h.openAnd (i := i) (by rw [List.getElem?_set_self hl]) rfl
 rw [List.set_set] at h
 have h := h.split (i := i) (by rw [List.getElem?_set_self hl]) rfl (tAll_own _)
 rw [List.set_set] at h
 exact ⟨xs, hx, h⟩
theorem nest_close (h : Hp S w0 w its) {i j : Nat} (hne : i ≠ j) {xs : List X} (hi : its[i]? = some (tSl s e n cells xs)) (hj : its[j]? = some (tAll (xs.map sub))) (hx : xs.map vis = l) :
  Hp S w0 w ((its.set i (tNest e n cells sub vis s l)).set j tEmp) := by
 have hl := (List.getElem?_eq_some_iff.1 hi).1
 have h := h.joinStar hne hi hj rfl (tAll_own _)
 have h := h.putAnd (i := i) hx (by rw [List.getElem?_set_ne (fun e => hne e.symm), List.getElem?_set_self hl]) rfl
 have e1 : ((its.set i (tStar (tSl s e n cells xs) (tAll (xs.map sub)))).set j tEmp).set i (tAnd (xs.map vis = l) (tStar (tSl s e n cells xs) (tAll (xs.map sub)))) = (its.set i (tAnd (xs.map vis = l) (tStar (tSl s e n cells xs) (tAll (xs.map sub))))).set j tEmp := by
  rw [List.set_comm _ _ (fun e => hne e.symm), List.set_set]
 rw [e1] at h
 have h := h.putEx (i := i) (f := fun xs : List X => tAnd (xs.map vis = l) (tStar (tSl s e n cells xs) (tAll (xs.map sub)))) xs (by rw [List.getElem?_set_ne (fun e => hne e.symm), List.getElem?_set_self hl]) rfl
 rw [List.set_comm _ _ (fun e => hne e.symm), List.set_set] at h
 exact h
theorem nest_nil (h : Hp S w0 w its) (e : TypeId) (n : Nat) (cells : X → List Value) (sub : X → Thing) (vis : X → α) : Hp S w0 w (its ++ [tNest e n cells sub vis ⟨none, 0, 0⟩ []]) :=
 h.grow (Fr.refl _ _) (O := []) ⟨[], rfl, [], [], SlF.nil, rfl, by simp, by simp⟩ (by simp) rfl
theorem nest_see (h : Hp S w0 w its) (i : Nat) (hi : (its[i]?).map Thing.holds = some (tNest e n cells sub vis s l).holds) : l.length = s.len ∧ s.len ≤ s.cap := by
 obtain ⟨O, xs, hx, O1, O2, h1, _⟩ := h.see' hi
 refine ⟨by rw [← hx, List.length_map]; exact h1.1, ?_⟩
 rcases h1.2 with ⟨_, a, b, _⟩ | ⟨b, off, c, _, _, _, a, _⟩
 ·omega
 ·exact a
theorem nest_app (h : Hp S w0 w its) (i j : Nat) (hne : i ≠ j) (x : X) {P : Program} {t ty e' : TypeId} {inf : TypeInfo} {z : Value} {c' : Nat} {c : List Value} {K : Sl → World → Prop} (hi : its[i]? = some (tNest e n cells sub vis s l)) (hj : its[j]? = some (sub x)) (ho : (sub x).own = true) (hf : ∀ x, (cells x).length = n)
  (ht : P.underlying t = some (.slice e)) (hinf : P.info? e = some inf) (hsz : inf.size = n) (hz : inf.zero = some z) (hz1 : z.cells.size = n) (hc : c = cells x) (h1 : ∀ u ∈ cells x, u.oneCell' = true)
  (hb : (s.len + 1) * inf.bytes ≤ 140737488355328) (hn : s.len + 1 ≤ 140737488355328)
  (hK : ∀ s' w', Hp S w0 w' ((its.set i (tNest e n cells sub vis s' (l ++ [vis x]))).set j tEmp) → s'.len = s.len + 1 → K s' w') :
  Nw (.cells c.toArray e') w fun b w => Run .sl P (Builtin.append_ #[t, t] ty #[.slice s.a s.len s.cap, .slice (some b) 1 c']) w K := by
 have hil := (List.getElem?_eq_some_iff.1 hi).1
 have hjl := (List.getElem?_eq_some_iff.1 hj).1
 obtain ⟨xs, hx, h⟩ := h.nest_open hi
 refine h.nwapp i x (by rw [List.getElem?_append_left (by simpa using hil), List.getElem?_set_self hil]) hf ht hinf hsz hz hz1 hc h1 hb hn fun s' w' h h2 _ => hK s' w' ?_ h2
 have e1 : (its.set i (tSl s e n cells xs) ++ [tAll (xs.map sub)]).set i (tSl s' e n cells (xs ++ [x])) = its.set i (tSl s' e n cells (xs ++ [x])) ++ [tAll (xs.map sub)] := by
  rw [List.set_append_left _ _ (by simpa using hil), List.set_set]
 rw [e1] at h
 have hlast : (its.set i (tSl s' e n cells (xs ++ [x])) ++ [tAll (xs.map sub)])[its.length]? = some (tAll (xs.map sub)) := by
  rw [List.getElem?_append_right (by simp)]; simp
 have h := h.join (i := its.length) (j := j) (a := tAll (xs.map sub)) (b := sub x) (c := tAll ((xs ++ [x]).map sub)) (by omega) hlast (by rw [List.getElem?_append_left (by simpa using hjl), List.getElem?_set_ne hne]; exact hj) (tAll_own _) ho (tAll_own _) (fun w O1 O2 g1 g2 g3 => by
  rw [List.map_append]
  exact tAll_append g1 (us := [sub x]) (O2 := O2) ⟨O2, [], g2, rfl, by simp, by simp⟩ g3)
 have e2 : ((its.set i (tSl s' e n cells (xs ++ [x])) ++ [tAll (xs.map sub)]).set its.length (tAll ((xs ++ [x]).map sub))).set j tEmp = (its.set i (tSl s' e n cells (xs ++ [x]))).set j tEmp ++ [tAll ((xs ++ [x]).map sub)] := by
  rw [List.set_append_right _ _ (by simp), List.length_set, Nat.sub_self, List.set_append_left _ _ (by simpa using hjl)]; rfl
 rw [e2] at h
 have h := h.nest_close (i := i) (j := its.length) (s := s') (xs := xs ++ [x]) (e := e) (n := n) (cells := cells) (sub := sub) (vis := vis) (l := l ++ [vis x]) (by omega)
  (by rw [List.getElem?_append_left (by simpa using hil), List.getElem?_set_ne (fun e => hne e.symm), List.getElem?_set_self hil]) (by rw [List.getElem?_append_right (by simp)]; simp) (by rw [List.map_append, hx]; rfl)
 have e3 : (((its.set i (tSl s' e n cells (xs ++ [x]))).set j tEmp ++ [tAll ((xs ++ [x]).map sub)]).set i (tNest e n cells sub vis s' (l ++ [vis x]))).set its.length tEmp = (its.set i (tNest e n cells sub vis s' (l ++ [vis x]))).set j tEmp ++ [tEmp] := by
  rw [List.set_append_left _ _ (by simpa using hil), List.set_comm _ _ (fun e => hne e.symm), List.set_set, List.set_append_right _ _ (by simp)]
  simp
 rw [e3] at h
 exact h.front
end
end
end Hp
end Go.Den
end

section
namespace Go.Den
open Go
namespace Hp
section
variable {S : List Nat} {w0 w : World} {its : List Thing}
variable {X α : Type} {e : TypeId} {n : Nat} {cells : X → List Value} {sub : X → Thing} {vis : X → α} {s : Sl} {l : List α}
theorem into {A : List Thing} {t : Thing} (h : Hp S w0 w (its ++ A ++ [t])) {i : Nat} (hi : i < its.length) : Hp S w0 w (its.set i t) := by
 refine h.sel ((List.range its.length).map fun j => if j = i then its.length + A.length else j) ?_ (by simp) fun n j hn => ?_
 ·rw [List.nodup_iff_pairwise_ne, List.pairwise_map]
  refine List.Pairwise.imp_of_mem (fun {a b} ha hb hne he => hne ?_) (List.nodup_iff_pairwise_ne.1 List.nodup_range)
  have ha := List.mem_range.1 ha
  have hb := List.mem_range.1 hb
  split at he <;> split at he <;> omega
 ·rw [List.getElem?_map] at hn
  obtain ⟨m, hm, rfl⟩ := Option.map_eq_some_iff.1 hn
  have hml := (List.getElem?_eq_some_iff.1 hm).1
  rw [List.getElem?_range (by simpa using hml)] at hm
  obtain rfl := Option.some.inj hm
  simp only [List.length_range] at hml
  by_cases hni : n = i
  ·subst hni
   rw [if_pos rfl, List.getElem?_set_self hi, List.getElem?_append_right (by simp)]
   simp
  ·rw [if_neg hni, List.getElem?_set_ne (fun e => hni e.symm), List.append_assoc, List.getElem?_append_left hml]
end
end Hp
namespace Hp
section
variable {S : List Nat} {w0 w : World} {its : List Thing}
end
end Hp
end Go.Den
end

section
namespace Go.Proofs.YtmfgofbcnlkolaaGreatDoor.F
open Go Go.Den Go.Proofs
structure Rw where
 word : ByteArray
 num : Bool
 tk : Int
 pt : Int
def noRw : Rw := ⟨⟨#[]⟩, false, 0, 0⟩
def tab : List Rw := [⟨⟨#[]⟩, false, 0, 0⟩, ⟨⟨#[112, 117, 115, 104]⟩, true, 0, 1⟩, ⟨⟨#[108, 111, 97, 100]⟩, true, 0, 1⟩, ⟨⟨#[115, 116, 111, 114, 101]⟩, true, 1, 0⟩, ⟨⟨#[102, 105, 101, 108, 100]⟩, true, 0, 1⟩, ⟨⟨#[112, 117, 116]⟩, true, 1, 0⟩, ⟨⟨#[97, 100, 100]⟩, false, 2, 1⟩, ⟨⟨#[115, 117, 98]⟩, false, 2, 1⟩, ⟨⟨#[109, 117, 108]⟩, false, 2, 1⟩, ⟨⟨#[100, 105, 118]⟩, false, 2, 1⟩, ⟨⟨#[114, 101, 109]⟩, false, 2, 1⟩, ⟨⟨#[110, 101, 103]⟩, false, 1, 1⟩, ⟨⟨#[101, 113]⟩, false, 2, 1⟩, ⟨⟨#[110, 101]⟩, false, 2, 1⟩, ⟨⟨#[108, 116]⟩, false, 2, 1⟩, ⟨⟨#[108, 101]⟩, false, 2, 1⟩, ⟨⟨#[103, 116]⟩, false, 2, 1⟩, ⟨⟨#[103, 101]⟩, false, 2, 1⟩, ⟨⟨#[110, 111, 116]⟩, false, 1, 1⟩, ⟨⟨#[106, 117, 109, 112]⟩, true, 0, 0⟩, ⟨⟨#[122, 101, 114, 111]⟩, true, 1, 0⟩, ⟨⟨#[99, 97, 108, 108]⟩, true, (-1), 1⟩, ⟨⟨#[114, 101, 116]⟩, false, 1, 0⟩, ⟨⟨#[115, 116, 111, 112]⟩, false, 0, 0⟩, ⟨⟨#[115, 116, 101, 112]⟩, false, 0, 0⟩, ⟨⟨#[101, 109, 105, 116]⟩, false, 2, 0⟩, ⟨⟨#[112, 97, 114, 116]⟩, true, (-2), 0⟩, ⟨⟨#[115, 112, 97, 119, 110]⟩, false, 0, 0⟩, ⟨⟨#[103, 105, 118, 101]⟩, true, (-2), 0⟩, ⟨⟨#[116, 97, 107, 101]⟩, true, 0, 0⟩, ⟨⟨#[100, 105, 101]⟩, false, 0, 0⟩, ⟨⟨#[114, 97, 110, 100]⟩, false, 1, 1⟩, ⟨⟨#[116, 105, 99, 107]⟩, false, 0, 1⟩, ⟨⟨#[109, 101]⟩, false, 0, 1⟩, ⟨⟨#[105, 110, 112, 117, 116]⟩, false, 2, 1⟩, ⟨⟨#[104, 97, 115]⟩, true, 0, 1⟩, ⟨⟨#[109, 105, 110]⟩, false, 2, 1⟩, ⟨⟨#[109, 97, 120]⟩, false, 2, 1⟩, ⟨⟨#[97, 98, 115]⟩, false, 1, 1⟩, ⟨⟨#[100, 114, 111, 112]⟩, false, 1, 0⟩]
def isOpM (op : Int) : Bool := decide (1 ≤ op ∧ op ≤ 39)
def row (op : Int) : Rw := if isOpM op = true then tab.getD op.toNat noRw else noRw
def takesOf (r : Rw) : Int := if r.tk < 0 then 0 else r.tk
def byOf (r : Rw) : Int := if r.tk = -1 then 1 else if r.tk = -2 then 2 else 0
theorem isOp_iff {op : Int} : isOpM op = true ↔ 1 ≤ op ∧ op ≤ 39 := by unfold isOpM; simp
theorem row_no {op : Int} (h : isOpM op = false) : row op = noRw := by unfold row; rw [h]; rfl
theorem op_of {op : Int} (h : isOpM op = true) : ∃ n : Nat, op = ((n + 1 : Nat) : Int) ∧ n < 39 := by
 have := isOp_iff.1 h
 exact ⟨op.toNat - 1, by omega, by omega⟩
section
variable {S : List Nat} {w0 w : World} {its : List Thing}
theorem fill5 {b : Nat} {word x0 : ByteArray} {num y0 : Bool} {tk pt by' p q r : Int} (h : Hp S w0 w (its ++ [tBlk b 74 [.string x0, .bool y0, .int .i64 p, .int .i64 q, .int .i64 r]])) {K : ByteArray → Bool → Int → Int → Int → World → Prop} (hK : ∀ w', Hp S w0 w' its → K word num tk pt by' w') :
  St ⟨b, 0, none⟩ (.string word) w fun w => St ((⟨b, 0, none⟩ : Addr).add 1) (.bool num) w fun w => St ((⟨b, 0, none⟩ : Addr).add 2) (.int .i64 tk) w fun w => St ((⟨b, 0, none⟩ : Addr).add 3) (.int .i64 pt) w fun w => St ((⟨b, 0, none⟩ : Addr).add 4) (.int .i64 by') w fun w =>
   Ld .s w ⟨b, 0, none⟩ fun a1 => Ld .b w ((⟨b, 0, none⟩ : Addr).add 1) fun a2 => Ld (.i .i64) w ((⟨b, 0, none⟩ : Addr).add 2) fun a3 => Ld (.i .i64) w ((⟨b, 0, none⟩ : Addr).add 3) fun a4 => Ld (.i .i64) w ((⟨b, 0, none⟩ : Addr).add 4) fun a5 => K a1 a2 a3 a4 a5 w := by
 refine h.st0 its.length List.getElem?_concat_length (by simp) rfl fun w1 h => ?_
 rw [set_last] at h
 refine h.st (n := 1) its.length List.getElem?_concat_length (by simp) rfl fun w1 h => ?_
 rw [set_last] at h
 refine h.st (n := 2) its.length List.getElem?_concat_length (by simp) rfl fun w1 h => ?_
 rw [set_last] at h
 refine h.st (n := 3) its.length List.getElem?_concat_length (by simp) rfl fun w1 h => ?_
 rw [set_last] at h
 refine h.st (n := 4) its.length List.getElem?_concat_length (by simp) rfl fun w1 h => ?_
 rw [set_last] at h
 refine h.ld0 (k := .s) (x := word) its.length (by rw [List.getElem?_concat_length]; rfl) rfl ?_
 refine h.ld (n := 1) (k := .b) (x := num) its.length (by rw [List.getElem?_concat_length]; rfl) rfl ?_
 refine h.ld (n := 2) (k := .i .i64) (x := tk) its.length (by rw [List.getElem?_concat_length]; rfl) rfl ?_
 refine h.ld (n := 3) (k := .i .i64) (x := pt) its.length (by rw [List.getElem?_concat_length]; rfl) rfl ?_
 refine h.ld (n := 4) (k := .i .i64) (x := by') its.length (by rw [List.getElem?_concat_length]; rfl) rfl ?_
 exact hK w1 h.front
theorem reckons_spec (h : Hp S w0 w its) {op : Int} (ho : op < 19) {K : ByteArray → Bool → Int → Int → Int → World → Prop} (hK : ∀ w', Hp S w0 w' its → K (row op).word (row op).num (takesOf (row op)) (row op).pt (byOf (row op)) w') : c66 op w K := by
 refine c66_of ?_
 unfold f66
 refine h.nw fun b w1 h => ?_
 cases hi : isOpM op with
 | true =>
  obtain ⟨n, rfl, hn⟩ := op_of hi
  have hn : n < 18 := by omega
  match n, hn with
  | 0, _ => exact ifT rfl (fill5 h hK)
  | 1, _ => exact ifF (by decide) (ifT rfl (fill5 h hK))
  | 2, _ => exact ifF (by decide) (ifF (by decide) (ifT rfl (fill5 h hK)))
  | 3, _ => exact ifF (by decide) (ifF (by decide) (ifF (by decide) (ifT rfl (fill5 h hK))))
  | 4, _ => exact ifF (by decide) (ifF (by decide) (ifF (by decide) (ifF (by decide) (ifT rfl (fill5 h hK)))))
  | 5, _ => exact ifF (by decide) (ifF (by decide) (ifF (by decide) (ifF (by decide) (ifF (by decide) (ifT rfl (fill5 h hK))))))
  | 6, _ => exact ifF (by decide) (ifF (by decide) (ifF (by decide) (ifF (by decide) (ifF (by decide) (ifF (by decide) (ifT rfl (fill5 h hK)))))))
  | 7, _ => exact ifF (by decide) (ifF (by decide) (ifF (by decide) (ifF (by decide) (ifF (by decide) (ifF (by decide) (ifF (by decide) (ifT rfl (fill5 h hK))))))))
  | 8, _ => exact ifF (by decide) (ifF (by decide) (ifF (by decide) (ifF (by decide) (ifF (by decide) (ifF (by decide) (ifF (by decide) (ifF (by decide) (ifT rfl (fill5 h hK)))))))))
  | 9, _ => exact ifF (by decide) (ifF (by decide) (ifF (by decide) (ifF (by decide) (ifF (by decide) (ifF (by decide) (ifF (by decide) (ifF (by decide) (ifF (by decide) (ifT rfl (fill5 h hK))))))))))
  | 10, _ => exact ifF (by decide) (ifF (by decide) (ifF (by decide) (ifF (by decide) (ifF (by decide) (ifF (by decide) (ifF (by decide) (ifF (by decide) (ifF (by decide) (ifF (by decide) (ifT rfl (fill5 h hK)))))))))))
  | 11, _ => exact ifF (by decide) (ifF (by decide) (ifF (by decide) (ifF (by decide) (ifF (by decide) (ifF (by decide) (ifF (by decide) (ifF (by decide) (ifF (by decide) (ifF (by decide) (ifF (by decide) (ifT rfl (fill5 h hK))))))))))))
  | 12, _ => exact ifF (by decide) (ifF (by decide) (ifF (by decide) (ifF (by decide) (ifF (by decide) (ifF (by decide) (ifF (by decide) (ifF (by decide) (ifF (by decide) (ifF (by decide) (ifF (by decide) (ifF (by decide) (ifT rfl (fill5 h hK)))))))))))))
  | 13, _ => exact ifF (by decide) (ifF (by decide) (ifF (by decide) (ifF (by decide) (ifF (by decide) (ifF (by decide) (ifF (by decide) (ifF (by decide) (ifF (by decide) (ifF (by decide) (ifF (by decide) (ifF (by decide) (ifF (by decide) (ifT rfl (fill5 h hK))))))))))))))
  | 14, _ => exact ifF (by decide) (ifF (by decide) (ifF (by decide) (ifF (by decide) (ifF (by decide) (ifF (by decide) (ifF (by decide) (ifF (by decide) (ifF (by decide) (ifF (by decide) (ifF (by decide) (ifF (by decide) (ifF (by decide) (ifF (by decide) (ifT rfl (fill5 h hK)))))))))))))))
  | 15, _ => exact ifF (by decide) (ifF (by decide) (ifF (by decide) (ifF (by decide) (ifF (by decide) (ifF (by decide) (ifF (by decide) (ifF (by decide) (ifF (by decide) (ifF (by decide) (ifF (by decide) (ifF (by decide) (ifF (by decide) (ifF (by decide) (ifF (by decide) (ifT rfl (fill5 h hK))))))))))))))))
  | 16, _ => exact ifF (by decide) (ifF (by decide) (ifF (by decide) (ifF (by decide) (ifF (by decide) (ifF (by decide) (ifF (by decide) (ifF (by decide) (ifF (by decide) (ifF (by decide) (ifF (by decide) (ifF (by decide) (ifF (by decide) (ifF (by decide) (ifF (by decide) (ifF (by decide) (ifT rfl (fill5 h hK)))))))))))))))))
  | 17, _ => exact ifF (by decide) (ifF (by decide) (ifF (by decide) (ifF (by decide) (ifF (by decide) (ifF (by decide) (ifF (by decide) (ifF (by decide) (ifF (by decide) (ifF (by decide) (ifF (by decide) (ifF (by decide) (ifF (by decide) (ifF (by decide) (ifF (by decide) (ifF (by decide) (ifF (by decide) (ifT rfl (fill5 h hK))))))))))))))))))
  | n + 18, hn => omega
 | false =>
  rw [row_no hi] at hK
  have hne : ¬ (1 ≤ op ∧ op ≤ 39) := fun h => by rw [isOp_iff.2 h] at hi; cases hi
  have q : ∀ k : Int, 1 ≤ k → ¬ (op == k) = true := fun k hk => by simp; omega
  refine ifF (q 1 (by decide)) ?_
  refine ifF (q 2 (by decide)) ?_
  refine ifF (q 3 (by decide)) ?_
  refine ifF (q 4 (by decide)) ?_
  refine ifF (q 5 (by decide)) ?_
  refine ifF (q 6 (by decide)) ?_
  refine ifF (q 7 (by decide)) ?_
  refine ifF (q 8 (by decide)) ?_
  refine ifF (q 9 (by decide)) ?_
  refine ifF (q 10 (by decide)) ?_
  refine ifF (q 11 (by decide)) ?_
  refine ifF (q 12 (by decide)) ?_
  refine ifF (q 13 (by decide)) ?_
  refine ifF (q 14 (by decide)) ?_
  refine ifF (q 15 (by decide)) ?_
  refine ifF (q 16 (by decide)) ?_
  refine ifF (q 17 (by decide)) ?_
  refine ifF (q 18 (by decide)) ?_
  exact fill5 h hK
theorem acts_spec (h : Hp S w0 w its) {op : Int} (ho : ¬ op < 19) {K : ByteArray → Bool → Int → Int → Int → World → Prop} (hK : ∀ w', Hp S w0 w' its → K (row op).word (row op).num (takesOf (row op)) (row op).pt (byOf (row op)) w') : c67 op w K := by
 refine c67_of ?_
 unfold f67
 refine h.nw fun b w1 h => ?_
 cases hi : isOpM op with
 | true =>
  obtain ⟨m, rfl, hn⟩ := op_of hi
  obtain ⟨n, rfl⟩ : ∃ n, m = n + 18 := ⟨m - 18, by omega⟩
  have hn : n < 21 := by omega
  match n, hn with
  | 0, _ => exact ifT rfl (fill5 h hK)
  | 1, _ => exact ifF (by decide) (ifT rfl (fill5 h hK))
  | 2, _ => exact ifF (by decide) (ifF (by decide) (ifT rfl (fill5 h hK)))
  | 3, _ => exact ifF (by decide) (ifF (by decide) (ifF (by decide) (ifT rfl (fill5 h hK))))
  | 4, _ => exact ifF (by decide) (ifF (by decide) (ifF (by decide) (ifF (by decide) (ifT rfl (fill5 h hK)))))
  | 5, _ => exact ifF (by decide) (ifF (by decide) (ifF (by decide) (ifF (by decide) (ifF (by decide) (ifT rfl (fill5 h hK))))))
  | 6, _ => exact ifF (by decide) (ifF (by decide) (ifF (by decide) (ifF (by decide) (ifF (by decide) (ifF (by decide) (ifT rfl (fill5 h hK)))))))
  | 7, _ => exact ifF (by decide) (ifF (by decide) (ifF (by decide) (ifF (by decide) (ifF (by decide) (ifF (by decide) (ifF (by decide) (ifT rfl (fill5 h hK))))))))
  | 8, _ => exact ifF (by decide) (ifF (by decide) (ifF (by decide) (ifF (by decide) (ifF (by decide) (ifF (by decide) (ifF (by decide) (ifF (by decide) (ifT rfl (fill5 h hK)))))))))
  | 9, _ => exact ifF (by decide) (ifF (by decide) (ifF (by decide) (ifF (by decide) (ifF (by decide) (ifF (by decide) (ifF (by decide) (ifF (by decide) (ifF (by decide) (ifT rfl (fill5 h hK))))))))))
  | 10, _ => exact ifF (by decide) (ifF (by decide) (ifF (by decide) (ifF (by decide) (ifF (by decide) (ifF (by decide) (ifF (by decide) (ifF (by decide) (ifF (by decide) (ifF (by decide) (ifT rfl (fill5 h hK)))))))))))
  | 11, _ => exact ifF (by decide) (ifF (by decide) (ifF (by decide) (ifF (by decide) (ifF (by decide) (ifF (by decide) (ifF (by decide) (ifF (by decide) (ifF (by decide) (ifF (by decide) (ifF (by decide) (ifT rfl (fill5 h hK))))))))))))
  | 12, _ => exact ifF (by decide) (ifF (by decide) (ifF (by decide) (ifF (by decide) (ifF (by decide) (ifF (by decide) (ifF (by decide) (ifF (by decide) (ifF (by decide) (ifF (by decide) (ifF (by decide) (ifF (by decide) (ifT rfl (fill5 h hK)))))))))))))
  | 13, _ => exact ifF (by decide) (ifF (by decide) (ifF (by decide) (ifF (by decide) (ifF (by decide) (ifF (by decide) (ifF (by decide) (ifF (by decide) (ifF (by decide) (ifF (by decide) (ifF (by decide) (ifF (by decide) (ifF (by decide) (ifT rfl (fill5 h hK))))))))))))))
  | 14, _ => exact ifF (by decide) (ifF (by decide) (ifF (by decide) (ifF (by decide) (ifF (by decide) (ifF (by decide) (ifF (by decide) (ifF (by decide) (ifF (by decide) (ifF (by decide) (ifF (by decide) (ifF (by decide) (ifF (by decide) (ifF (by decide) (ifT rfl (fill5 h hK)))))))))))))))
  | 15, _ => exact ifF (by decide) (ifF (by decide) (ifF (by decide) (ifF (by decide) (ifF (by decide) (ifF (by decide) (ifF (by decide) (ifF (by decide) (ifF (by decide) (ifF (by decide) (ifF (by decide) (ifF (by decide) (ifF (by decide) (ifF (by decide) (ifF (by decide) (ifT rfl (fill5 h hK))))))))))))))))
  | 16, _ => exact ifF (by decide) (ifF (by decide) (ifF (by decide) (ifF (by decide) (ifF (by decide) (ifF (by decide) (ifF (by decide) (ifF (by decide) (ifF (by decide) (ifF (by decide) (ifF (by decide) (ifF (by decide) (ifF (by decide) (ifF (by decide) (ifF (by decide) (ifF (by decide) (ifT rfl (fill5 h hK)))))))))))))))))
  | 17, _ => exact ifF (by decide) (ifF (by decide) (ifF (by decide) (ifF (by decide) (ifF (by decide) (ifF (by decide) (ifF (by decide) (ifF (by decide) (ifF (by decide) (ifF (by decide) (ifF (by decide) (ifF (by decide) (ifF (by decide) (ifF (by decide) (ifF (by decide) (ifF (by decide) (ifF (by decide) (ifT rfl (fill5 h hK))))))))))))))))))
  | 18, _ => exact ifF (by decide) (ifF (by decide) (ifF (by decide) (ifF (by decide) (ifF (by decide) (ifF (by decide) (ifF (by decide) (ifF (by decide) (ifF (by decide) (ifF (by decide) (ifF (by decide) (ifF (by decide) (ifF (by decide) (ifF (by decide) (ifF (by decide) (ifF (by decide) (ifF (by decide) (ifF (by decide) (ifT rfl (fill5 h hK)))))))))))))))))))
  | 19, _ => exact ifF (by decide) (ifF (by decide) (ifF (by decide) (ifF (by decide) (ifF (by decide) (ifF (by decide) (ifF (by decide) (ifF (by decide) (ifF (by decide) (ifF (by decide) (ifF (by decide) (ifF (by decide) (ifF (by decide) (ifF (by decide) (ifF (by decide) (ifF (by decide) (ifF (by decide) (ifF (by decide) (ifF (by decide) (ifT rfl (fill5 h hK))))))))))))))))))))
  | 20, _ => exact ifF (by decide) (ifF (by decide) (ifF (by decide) (ifF (by decide) (ifF (by decide) (ifF (by decide) (ifF (by decide) (ifF (by decide) (ifF (by decide) (ifF (by decide) (ifF (by decide) (ifF (by decide) (ifF (by decide) (ifF (by decide) (ifF (by decide) (ifF (by decide) (ifF (by decide) (ifF (by decide) (ifF (by decide) (ifF (by decide) (ifT rfl (fill5 h hK)))))))))))))))))))))
  | n + 21, hn => omega
 | false =>
  rw [row_no hi] at hK
  have hne : ¬ (1 ≤ op ∧ op ≤ 39) := fun h => by rw [isOp_iff.2 h] at hi; cases hi
  have q : ∀ k : Int, k ≤ 39 → ¬ (op == k) = true := fun k hk => by simp; omega
  refine ifF (q 19 (by decide)) ?_
  refine ifF (q 20 (by decide)) ?_
  refine ifF (q 21 (by decide)) ?_
  refine ifF (q 22 (by decide)) ?_
  refine ifF (q 23 (by decide)) ?_
  refine ifF (q 24 (by decide)) ?_
  refine ifF (q 25 (by decide)) ?_
  refine ifF (q 26 (by decide)) ?_
  refine ifF (q 27 (by decide)) ?_
  refine ifF (q 28 (by decide)) ?_
  refine ifF (q 29 (by decide)) ?_
  refine ifF (q 30 (by decide)) ?_
  refine ifF (q 31 (by decide)) ?_
  refine ifF (q 32 (by decide)) ?_
  refine ifF (q 33 (by decide)) ?_
  refine ifF (q 34 (by decide)) ?_
  refine ifF (q 35 (by decide)) ?_
  refine ifF (q 36 (by decide)) ?_
  refine ifF (q 37 (by decide)) ?_
  refine ifF (q 38 (by decide)) ?_
  refine ifF (q 39 (by decide)) ?_
  exact fill5 h hK
theorem shape_spec (h : Hp S w0 w its) {op : Int} {K : ByteArray → Bool → Int → Int → Int → World → Prop} (hK : ∀ w', Hp S w0 w' its → K (row op).word (row op).num (takesOf (row op)) (row op).pt (byOf (row op)) w') : c32 op w K := by
 refine c32_of ?_
 unfold f32
 refine h.nw fun b w1 h => ?_
 by_cases ho : op < 19
 ·refine ifT (by simp [ho]) (reckons_spec h ho fun w2 h => ?_)
  exact fill5 h hK
 ·refine ifF (by simp; omega) (acts_spec h ho fun w2 h => ?_)
  exact fill5 h hK
theorem isOp_spec {op : Int} {K : Bool → World → Prop} (hK : K (isOpM op) w) : c31 op w K := by
 refine c31_of ?_
 unfold f31
 have e : cond (decide (op > 0)) (decide (op ≤ 39)) false = isOpM op := by
  unfold isOpM
  by_cases h1 : op > 0
  ·rw [decide_eq_true h1, cond_true]; congr 1; apply propext; omega
  ·rw [decide_eq_false h1, cond_false]; symm; apply decide_eq_false; omega
 rw [e]; exact hK
theorem Name_spec (h : Hp S w0 w its) {op : Int} {K : ByteArray → World → Prop} (hK : ∀ w', Hp S w0 w' its → K (row op).word w') : c11 op w K := by
 refine c11_of ?_
 unfold f11
 refine isOp_spec ?_
 cases hi : isOpM op with
 | false => rw [row_no hi] at hK; exact ifT rfl (hK w h)
 | true => exact ifF (by decide) (shape_spec h fun w1 h => hK w1 h)
def numG (name : ByteArray) : Nat → Int → Int
 | 0, _ => 0
 | f + 1, op => if (row op).word = name then op else numG name f (op + 1)
def numOf (name : ByteArray) : Int := numG name 39 1
theorem Number_spec (h : Hp S w0 w its) {name : ByteArray} {K : Int → World → Prop} (hK : ∀ w', Hp S w0 w' its → K (numOf name) w') : c13 name w K := by
 refine c13_of ?_
 unfold f13
 refine ⟨fun t mm w' => ∃ k : Nat, t = ((k + 1 : Nat) : Int) ∧ k ≤ 39 ∧ mm = 39 - k ∧ numOf name = numG name (39 - k) ((k + 1 : Nat) : Int) ∧ Hp S w0 w' its, ⟨39, 0, rfl, by omega, rfl, rfl, h⟩, ?_⟩
 clear h
 rintro t mm w1 ⟨k, rfl, hk, rfl, he, h⟩
 by_cases hlt : k < 39
 ·refine ifT (by simp; omega) (shape_spec h fun w2 h => ?_)
  have e39 : 39 - k = (39 - (k + 1)) + 1 := by omega
  rw [e39] at he
  unfold numG at he
  by_cases hw : (row ((k + 1 : Nat) : Int)).word = name
  ·rw [if_pos hw] at he
   refine ifT (by rw [hw]; simp) ?_
   rw [he] at hK
   exact hK w2 h
  ·rw [if_neg hw] at he
   refine ifF (by rw [str_beq]; simp; exact fun e => hw (strL_inj e)) ⟨39 - (k + 1), by omega, k + 1, ?_, by omega, rfl, ?_, h⟩
   ·rw [wr64 (by omega) (by omega)]; omega
   ·rw [he]; congr 1
 ·refine ifF (by simp; omega) ?_
  obtain rfl : k = 39 := by omega
  rw [he] at hK
  exact hK w1 h
end
end Go.Proofs.YtmfgofbcnlkolaaGreatDoor.F
end

section
namespace Go.Den.Hp
open Go Go.Den
theorem selL {S : List Nat} {w0 w : World} {its : List Thing} (h : Hp S w0 w its) (js : List Nat) (hnd : js.Nodup) {ts : List Thing} (e : js.map (fun j => its[j]?) = ts.map some) : Hp S w0 w ts := by
 have hl : ts.length = js.length := by have := congrArg List.length e; simpa using this.symm
 refine h.sel js hnd hl (fun n j hj => ?_)
 have h1 : (js.map (fun j => its[j]?))[n]? = some (its[j]?) := by rw [List.getElem?_map, hj]; rfl
 rw [e, List.getElem?_map] at h1
 cases h2 : ts[n]? with
 | none => rw [h2] at h1; cases h1
 | some t => rw [h2] at h1; exact (Option.some.inj h1).symm
end Go.Den.Hp
namespace Go.Proofs.YtmfgofbcnlkolaaGreatDoor.F
open Go Go.Den Go.Proofs
theorem last2 {α : Type} {l : List α} {a b : α} : (l ++ [a] ++ [b])[l.length + 1]? = some b := by rw [List.getElem?_append_right (by simp)]; simp
theorem last3 {α : Type} {l : List α} {a b c : α} : (l ++ [a] ++ [b] ++ [c])[l.length + 2]? = some c := by rw [List.getElem?_append_right (by simp)]; simp
theorem mid1 {α : Type} {l B : List α} {a : α} : (l ++ [a] ++ B)[l.length]? = some a := by rw [List.getElem?_append_left (by simp), List.getElem?_concat_length]
theorem mid2 {α : Type} {l B : List α} {a b : α} : (l ++ [a] ++ [b] ++ B)[l.length + 1]? = some b := by rw [List.getElem?_append_left (by simp)]; exact last2
abbrev Ins := Int × Int
abbrev insv (x : Ins) : List Value := [.int .i64 x.1, .int .i64 x.2]
theorem insv_len (x : Ins) : (insv x).length = 2 := rfl
structure RT where
 nm : ByteArray
 pa : Int
 lo : Int
 code : List Ins
structure RV where
 nm : ByteArray
 pa : Int
 lo : Int
 sl : Sl
 code : List Ins
def RV.r (x : RV) : RT := ⟨x.nm, x.pa, x.lo, x.code⟩
abbrev rtv (x : RV) : List Value := [.string x.nm, .int .i64 x.pa, .int .i64 x.lo, .slice x.sl.a x.sl.len x.sl.cap]
theorem rtv_len (x : RV) : (rtv x).length = 4 := rfl
structure SY where
 A : List Int
 B : List Int
 C : List Int
 D : List Int
 run : RT
structure SV where
 a : Sl
 b : Sl
 c : Sl
 d : Sl
 A : List Int
 B : List Int
 C : List Int
 D : List Int
 run : RV
def SV.m (x : SV) : SY := ⟨x.A, x.B, x.C, x.D, x.run.r⟩
abbrev syv (x : SV) : List Value := [.slice x.a.a x.a.len x.a.cap, .slice x.b.a x.b.len x.b.cap, .slice x.c.a x.c.len x.c.cap, .slice x.d.a x.d.len x.d.cap, .string x.run.nm, .int .i64 x.run.pa, .int .i64 x.run.lo, .slice x.run.sl.a x.run.sl.len x.run.sl.cap]
theorem syv_len (x : SV) : (syv x).length = 8 := rfl
structure PG where
 sys : List SY
 fns : List RT
def insOk (x : Ins) : Bool := isOpM x.1 && ((row x.1).num || x.2 == 0)
def codeOk (l : List Ins) : Bool := l.all insOk
def sizedM (r : RT) : Bool := decide (0 ≤ r.pa ∧ r.pa ≤ 4 ∧ r.pa ≤ r.lo ∧ r.lo ≤ 32)
def nameOk (s : ByteArray) : Bool := decide (1 ≤ s.size ∧ s.size ≤ 16)
def rtOk (r : RT) : Bool := codeOk r.code && nameOk r.nm && sizedM r
def risesF : Int → List Int → Bool
 | _, [] => true
 | last, k :: l => decide (last < k ∧ k ≤ 12) && risesF k l
def risesM (l : List Int) : Bool := risesF 0 l
def SY.sets (s : SY) : List (List Int) := [s.A, s.B, s.C, s.D]
def syOk (s : SY) : Bool := s.sets.all risesM && rtOk s.run
def codeSum (l : List RT) : Nat := (l.map fun r => r.code.length).sum
def PG.rts (p : PG) : List RT := p.sys.map SY.run ++ p.fns
def mayM (p : PG) : Bool := decide (p.sys.length ≤ 16 ∧ p.fns.length ≤ 16) && p.sys.all syOk && p.fns.all rtOk && decide (codeSum p.rts ≤ 2000)
structure RT.Ok (r : RT) : Prop where
 len : r.code.length ≤ 140737488355328
 rng : ∀ x ∈ r.code, -9223372036854775808 ≤ x.2 ∧ x.2 ≤ 9223372036854775807
structure SY.Ok (s : SY) : Prop where
 run : s.run.Ok
 lens : ∀ l ∈ s.sets, l.length ≤ 140737488355328
structure PG.Ok (p : PG) : Prop where
 sys : ∀ s ∈ p.sys, s.Ok
 fns : ∀ r ∈ p.fns, r.Ok
def encIns (x : Ins) : List Int := putU x.1 ++ (if (row x.1).num = true then putU (zig x.2) else [])
def encT (s : ByteArray) : List Int := putU s.size ++ strL s
def encRt (r : RT) : List Int := encT r.nm ++ putU r.pa ++ putU r.lo ++ putU r.code.length ++ r.code.flatMap encIns
def encSet (l : List Int) : List Int := putU l.length ++ l.flatMap putU
def encSy (s : SY) : List Int := s.sets.flatMap encSet ++ encRt s.run
def encPg (p : PG) : List Int := putU p.sys.length ++ p.sys.flatMap encSy ++ putU p.fns.length ++ p.fns.flatMap encRt
theorem encIns_len (x : Ins) : (encIns x).length ≤ 20 := by
 unfold encIns
 have h1 := putU_len x.1
 have h2 := putU_len (zig x.2)
 rw [List.length_append]
 split
 ·omega
 ·simp; omega
theorem flat_len {α : Type} {f : α → List Int} {B : Nat} : ∀ {l : List α}, (∀ x ∈ l, (f x).length ≤ B) → (l.flatMap f).length ≤ B * l.length
 | [], _ => by simp
 | x :: l, h => by
  have h1 := h x (by simp)
  have h2 := flat_len (f := f) (B := B) (l := l) fun y hy => h y (by simp [hy])
  simp only [List.flatMap_cons, List.length_append, List.length_cons, Nat.mul_add, Nat.mul_one]
  omega
theorem strL_size (s : ByteArray) : (strL s).length = s.size := strL_len s
theorem encRt_len {r : RT} (hn : r.nm.size ≤ 16) : (encRt r).length ≤ 60 + 20 * r.code.length := by
 have h1 := putU_len r.pa
 have h2 := putU_len r.lo
 have h3 := putU_len r.code.length
 have h4 := putU_len r.nm.size
 have h5 := flat_len (f := encIns) (B := 20) (l := r.code) fun x _ => encIns_len x
 have h6 := strL_size r.nm
 unfold encRt encT
 simp only [List.length_append]
 omega
theorem encSet_len (l : List Int) : (encSet l).length ≤ 10 + 10 * l.length := by
 have h1 := putU_len l.length
 have h2 := flat_len (f := putU) (B := 10) (l := l) fun x _ => putU_len x
 unfold encSet
 simp only [List.length_append]
 omega
theorem insOk_iff {x : Ins} : insOk x = true ↔ isOpM x.1 = true ∧ ((row x.1).num = true ∨ x.2 = 0) := by
 unfold insOk
 rw [Bool.and_eq_true, Bool.or_eq_true]
 simp
theorem risesF_len : ∀ {l : List Int} {last : Int}, 0 ≤ last → risesF last l = true → (l.length : Int) ≤ 12 - last ∨ l = []
 | [], _, _, _ => .inr rfl
 | k :: l, last, h0, h => by
  unfold risesF at h
  rw [Bool.and_eq_true, decide_eq_true_iff] at h
  obtain ⟨⟨h1, h2⟩, h3⟩ := h
  have := risesF_len (by omega) h3
  left
  rw [List.length_cons]
  rcases this with h4 | h4
  ·omega
  ·rw [h4, List.length_nil]; omega
theorem risesM_len {l : List Int} (h : risesM l = true) : l.length ≤ 12 := by
 rcases risesF_len (by decide) h with h1 | h1
 ·omega
 ·rw [h1]; simp
theorem risesF_rng : ∀ {l : List Int} {last : Int}, 0 ≤ last → risesF last l = true → ∀ x ∈ l, 1 ≤ x ∧ x ≤ 12
 | k :: l, last, h0, h, x, hx => by
  unfold risesF at h
  rw [Bool.and_eq_true, decide_eq_true_iff] at h
  obtain ⟨⟨h1, h2⟩, h3⟩ := h
  rcases List.mem_cons.1 hx with rfl | hx
  ·omega
  ·exact risesF_rng (by omega) h3 x hx
theorem rtOk_iff {r : RT} : rtOk r = true ↔ codeOk r.code = true ∧ (1 ≤ r.nm.size ∧ r.nm.size ≤ 16) ∧ (0 ≤ r.pa ∧ r.pa ≤ 4 ∧ r.pa ≤ r.lo ∧ r.lo ≤ 32) := by
 unfold rtOk nameOk sizedM
 rw [Bool.and_eq_true, Bool.and_eq_true, decide_eq_true_iff, decide_eq_true_iff]
 exact ⟨fun ⟨⟨a, b⟩, c⟩ => ⟨a, b, c⟩, fun ⟨a, b, c⟩ => ⟨⟨a, b⟩, c⟩⟩
def tRts (s : Sl) (xs : List RV) : Thing :=
  { holds := fun w O => (∀ k ∈ O, k < w.heap.size) ∧ (∃ o, SlR w s 4 rtv xs o ∧ ∀ k ∈ o, k ∈ O) ∧ ∀ x ∈ xs, ∃ o, SlR w x.sl 2 insv x.code o ∧ ∀ k ∈ o, k ∈ O
    fr := fun {S w w' O} h hf hn => ⟨fun k hk => by have := h.1 k hk; have := hf.size; omega, by
      obtain ⟨_, ⟨o, h1, h2⟩, h3⟩ := h
      refine ⟨⟨o, h1.fr hf (fun k hk => hn k (h2 k hk)), h2⟩, fun x hx => ?_⟩
      obtain ⟨o, h4, h5⟩ := h3 x hx
      exact ⟨o, h4.fr hf (fun k hk => hn k (h5 k hk)), h5⟩⟩
    lt := fun h => h.1 }
theorem rts_reads {s : Sl} {xs : List RV} : Hp.Reads (tRts s xs).ro s 4 rtv xs := ⟨fun {w O} h => by
 have h : (tRts s xs).holds w O := h
 obtain ⟨_, ⟨o, h1, _⟩, _⟩ := h
 exact ⟨o, h1⟩⟩
theorem rts_code {s : Sl} {xs : List RV} {x : RV} (hx : x ∈ xs) : Hp.Reads (tRts s xs).ro x.sl 2 insv x.code := ⟨fun {w O} h => by
 have h : (tRts s xs).holds w O := h
 obtain ⟨_, _, h2⟩ := h
 obtain ⟨o, h3, _⟩ := h2 x hx
 exact ⟨o, h3⟩⟩
def RdR (w : World) (s : Sl) (l : List RT) : Prop := ∃ xs : List RV, xs.map RV.r = l ∧ (∃ o, SlR w s 4 rtv xs o) ∧ ∀ x ∈ xs, ∃ o, SlR w x.sl 2 insv x.code o
theorem RdR.thing {w : World} {s : Sl} {l : List RT} (h : RdR w s l) : ∃ (xs : List RV) (O : List Nat), xs.map RV.r = l ∧ (tRts s xs).holds w O := by
 obtain ⟨xs, h1, ⟨o, h2⟩, h3⟩ := h
 refine ⟨xs, List.range w.heap.size, h1, fun k hk => List.mem_range.1 hk, ⟨o, h2, fun k hk => List.mem_range.2 (h2.lt k hk)⟩, fun x hx => ?_⟩
 obtain ⟨o, h4⟩ := h3 x hx
 exact ⟨o, h4, fun k hk => List.mem_range.2 (h4.lt k hk)⟩
theorem RdR.of {w : World} {s : Sl} {xs : List RV} {O : List Nat} (h : (tRts s xs).holds w O) : RdR w s (xs.map RV.r) := by
 obtain ⟨_, ⟨o, h1, _⟩, h3⟩ := h
 refine ⟨xs, rfl, ⟨o, h1⟩, fun x hx => ?_⟩
 obtain ⟨o, h4, _⟩ := h3 x hx
 exact ⟨o, h4⟩
def SVrd (w : World) (O : List Nat) (x : SV) : Prop := (∃ o, SlR w x.a 1 iv x.A o ∧ ∀ k ∈ o, k ∈ O) ∧ (∃ o, SlR w x.b 1 iv x.B o ∧ ∀ k ∈ o, k ∈ O) ∧ (∃ o, SlR w x.c 1 iv x.C o ∧ ∀ k ∈ o, k ∈ O) ∧ (∃ o, SlR w x.d 1 iv x.D o ∧ ∀ k ∈ o, k ∈ O) ∧ ∃ o, SlR w x.run.sl 2 insv x.run.code o ∧ ∀ k ∈ o, k ∈ O
def tSys (s : Sl) (xs : List SV) : Thing :=
  { holds := fun w O => (∀ k ∈ O, k < w.heap.size) ∧ (∃ o, SlR w s 8 syv xs o ∧ ∀ k ∈ o, k ∈ O) ∧ ∀ x ∈ xs, SVrd w O x
    fr := fun {S w w' O} h hf hn => ⟨fun k hk => by have := h.1 k hk; have := hf.size; omega, by
      have key : ∀ {α : Type} {s : Sl} {n : Nat} {f : α → List Value} {l : List α}, (∃ o, SlR w s n f l o ∧ ∀ k ∈ o, k ∈ O) → ∃ o, SlR w' s n f l o ∧ ∀ k ∈ o, k ∈ O := fun ⟨o, h1, h2⟩ => ⟨o, h1.fr hf (fun k hk => hn k (h2 k hk)), h2⟩
      obtain ⟨_, h1, h3⟩ := h
      refine ⟨key h1, fun x hx => ?_⟩
      obtain ⟨q1, q2, q3, q4, q5⟩ := h3 x hx
      exact ⟨key q1, key q2, key q3, key q4, key q5⟩⟩
    lt := fun h => h.1 }
theorem sys_reads {s : Sl} {xs : List SV} : Hp.Reads (tSys s xs).ro s 8 syv xs := ⟨fun {w O} h => by
 have h : (tSys s xs).holds w O := h
 obtain ⟨_, ⟨o, h1, _⟩, _⟩ := h
 exact ⟨o, h1⟩⟩
theorem sys_code {s : Sl} {xs : List SV} {x : SV} (hx : x ∈ xs) : Hp.Reads (tSys s xs).ro x.run.sl 2 insv x.run.code := ⟨fun {w O} h => by
 have h : (tSys s xs).holds w O := h
 obtain ⟨_, _, h2⟩ := h
 obtain ⟨_, _, _, _, o, h3, _⟩ := h2 x hx
 exact ⟨o, h3⟩⟩
def SV.sls (x : SV) : List (Sl × List Int) := [(x.a, x.A), (x.b, x.B), (x.c, x.C), (x.d, x.D)]
theorem sys_set {s : Sl} {xs : List SV} {x : SV} (hx : x ∈ xs) {y : Sl × List Int} (hy : y ∈ x.sls) : Hp.Reads (tSys s xs).ro y.1 1 iv y.2 := ⟨fun {w O} h => by
 have h : (tSys s xs).holds w O := h
 obtain ⟨_, _, h2⟩ := h
 obtain ⟨⟨o1, h3, _⟩, ⟨o2, h4, _⟩, ⟨o3, h5, _⟩, ⟨o4, h6, _⟩, _⟩ := h2 x hx
 simp only [SV.sls, List.mem_cons, List.not_mem_nil, or_false] at hy
 rcases hy with rfl | rfl | rfl | rfl
 ·exact ⟨o1, h3⟩
 ·exact ⟨o2, h4⟩
 ·exact ⟨o3, h5⟩
 ·exact ⟨o4, h6⟩⟩
def RdS (w : World) (s : Sl) (l : List SY) : Prop := ∃ (xs : List SV) (O : List Nat), xs.map SV.m = l ∧ (tSys s xs).holds w O
end Go.Proofs.YtmfgofbcnlkolaaGreatDoor.F
end

section
namespace Go.Proofs.YtmfgofbcnlkolaaGreatDoor.F
open Go Go.Den Go.Proofs
section
variable {S : List Nat} {w0 w : World} {its : List Thing}
theorem drop_cons {α : Type} {l : List α} {k : Nat} {x : α} (h : l[k]? = some x) : l.drop k = x :: l.drop (k + 1) := by
 obtain ⟨hl, rfl⟩ := List.getElem?_eq_some_iff.1 h
 exact List.drop_eq_getElem_cons hl
theorem rises_spec {s : Sl} {l : List Int} {w : World} (hr : ∃ o, SlR w s 1 iv l o) (hlen : l.length ≤ 140737488355328) {K : Bool → World → Prop} (hK : K (risesM l) w) : c75 s w K := by
 refine c75_of ?_
 unfold f75
 obtain ⟨o, hR⟩ := hr
 have hsl := hR.1
 refine ⟨fun last t mm w' => ∃ k : Nat, t = k ∧ k ≤ l.length ∧ mm = l.length - k ∧ w' = w ∧ risesM l = risesF last (l.drop k), ⟨l.length, 0, rfl, by omega, rfl, rfl, rfl⟩, ?_⟩
 rintro last t mm w' ⟨k, rfl, hk, rfl, rfl, he⟩
 by_cases hlt : k < l.length
 ·refine ifT (by simp; omega) ?_
  have hx : l[k]? = some l[k] := List.getElem?_eq_getElem hlt
  generalize l[k] = x at hx
  refine SlR.ix iv_len hR (by omega) (x := x) (by rw [Int.toNat_natCast]; exact hx) fun ad hc => ?_
  refine ldR0 (k := .i .i64) (x := x) (hc 0 (by omega)) rfl ?_
  rw [drop_cons hx] at he
  unfold risesF at he
  by_cases hb : last < x ∧ x ≤ 12
  ·rw [decide_eq_true hb, Bool.true_and] at he
   refine ifF (by simp; omega) ⟨l.length - (k + 1), by omega, k + 1, by rw [wr64 (by omega) (by omega)]; rfl, by omega, rfl, rfl, he⟩
  ·rw [decide_eq_false hb, Bool.false_and] at he
   rw [he] at hK
   exact ifT (by simp; omega) hK
 ·refine ifF (by simp; omega) ?_
  rw [List.drop_eq_nil_of_le (by omega)] at he
  rw [he] at hK
  exact hK
theorem instr_spec (h : Hp S w0 w its) {x : Ins} {K : Bool → World → Prop} (hK : ∀ w', Hp S w0 w' its → K (insOk x) w') : c84 x.1 x.2 w K := by
 refine c84_of ?_
 unfold f84
 refine h.nw fun b w1 h => ?_
 refine h.ld0 (k := .i .i64) (x := x.1) its.length (by rw [List.getElem?_concat_length]; rfl) rfl ?_
 refine isOp_spec ?_
 unfold insOk at hK
 cases hi : isOpM x.1 with
 | false => rw [hi] at hK; exact ifF (by decide) (hK w1 h.front)
 | true =>
  rw [hi] at hK
  refine ifT rfl ?_
  refine h.ld0 (k := .i .i64) (x := x.1) its.length (by rw [List.getElem?_concat_length]; rfl) rfl ?_
  refine shape_spec h fun w2 h => ?_
  cases hn : (row x.1).num with
  | true => rw [hn] at hK; exact ifT rfl (hK w2 h.front)
  | false =>
   rw [hn] at hK
   refine ifF (by decide) ?_
   exact h.ld (n := 1) (k := .i .i64) (x := x.2) its.length (by rw [List.getElem?_concat_length]; rfl) rfl (hK w2 h.front)
theorem sized_spec (h : Hp S w0 w its) {nm : ByteArray} {pa lo : Int} {sl : Sl} {code : List Ins} {K : Bool → World → Prop} (hK : ∀ w', Hp S w0 w' its → K (sizedM ⟨nm, pa, lo, code⟩) w') : c83 nm pa lo sl w K := by
 refine c83_of ?_
 unfold f83
 refine h.nw fun b w1 h => ?_
 have hK := hK w1 h.front
 have g1 : ∀ {K : Int → Prop}, K pa → Ld (.i .i64) w1 ((⟨b, 0, none⟩ : Addr).add 1) K := fun {K} hk => h.ld (n := 1) (k := .i .i64) (x := pa) its.length (by rw [List.getElem?_concat_length]; rfl) rfl hk
 have g2 : ∀ {K : Int → Prop}, K lo → Ld (.i .i64) w1 ((⟨b, 0, none⟩ : Addr).add 2) K := fun {K} hk => h.ld (n := 2) (k := .i .i64) (x := lo) its.length (by rw [List.getElem?_concat_length]; rfl) rfl hk
 unfold sizedM at hK
 dsimp only at hK
 refine g1 ?_
 by_cases h1 : 0 ≤ pa
 ·refine ifT (by simp [h1]) (g1 ?_)
  by_cases h2 : pa ≤ 4
  ·refine ifT (by simp [h2]) (g2 (g1 ?_))
   by_cases h3 : pa ≤ lo
   ·refine ifT (by simp [h3]) (g2 ?_)
    have e : decide (lo ≤ 32) = decide (0 ≤ pa ∧ pa ≤ 4 ∧ pa ≤ lo ∧ lo ≤ 32) := by congr 1; apply propext; omega
    rw [e]; exact hK
   ·refine ifF (by simp; omega) ?_
    rw [decide_eq_false (by omega)] at hK; exact hK
  ·refine ifF (by simp; omega) ?_
   rw [decide_eq_false (by omega)] at hK; exact hK
 ·refine ifF (by simp; omega) ?_
  rw [decide_eq_false (by omega)] at hK; exact hK
theorem all_drop {l : List Ins} {k : Nat} {x : Ins} (h : l[k]? = some x) : codeOk (l.drop k) = (insOk x && codeOk (l.drop (k + 1))) := by
 rw [drop_cons h]; rfl
def writtenM (r : RT) (left : Int) : Bool := nameOk r.nm && sizedM r && decide (0 ≤ left - r.code.length) && codeOk r.code
set_option maxHeartbeats 4000000 in
theorem written_spec (h : Hp S w0 w its) (i j : Nat) {u : Thing} {bl : Nat} {left : Int} {nm : ByteArray} {pa lo : Int} {sl : Sl} {l : List Ins} (hij : i ≠ j) (hi : its[i]? = some (tBlk bl 3 [.int .i64 left])) (hj : its[j]? = some u) (hu : Hp.Reads u sl 2 insv l) (hlen : l.length ≤ 140737488355328)
  (hl1 : -9000000000000000000 ≤ left) (hl2 : left ≤ 9000000000000000000) {K : Bool → World → Prop}
  (hK : ∀ w', Hp S w0 w' (its.set i (tBlk bl 3 [.int .i64 (left - l.length)])) → K (writtenM ⟨nm, pa, lo, l⟩ left) w') : c52 nm pa lo sl (some ⟨bl, 0, none⟩) w K := by
 refine c52_of ?_
 unfold f52
 have hil := (List.getElem?_eq_some_iff.1 hi).1
 have hjl := (List.getElem?_eq_some_iff.1 hj).1
 have hsl := h.lenU j (by rw [hj]; rfl) hu
 refine h.nw fun b w1 h => ?_
 refine h.dr fun w2 h => ?_
 rw [NN_some]
 have gi : ∀ {t : Thing} {x : Thing}, its[i]? = some x → (its ++ [t])[i]? = some x := fun {t x} hx => by rw [List.getElem?_append_left hil]; exact hx
 refine h.ld0 (k := .i .i64) (x := left) i (by rw [gi hi]; rfl) rfl ?_
 refine h.ld (n := 3) (k := .sl) (x := sl) its.length (by rw [List.getElem?_concat_length]; rfl) rfl ?_
 rw [NN_some, wr64 (by omega) (by omega)]
 refine h.st0 i (gi hi) (by simp) rfl fun w3 h => ?_
 rw [List.set_append_left _ _ hil, show left - (sl.len : Int) = left - (l.length : Int) by omega] at h
 have h : Hp S w0 w3 (its.set i (tBlk bl 3 [.int .i64 (left - l.length)]) ++ [tBlk b 30 [.string nm, .int .i64 pa, .int .i64 lo, .slice sl.a sl.len sl.cap]]) := h
 have hi' : (its.set i (tBlk bl 3 [.int .i64 (left - l.length)]))[i]? = some (tBlk bl 3 [.int .i64 (left - l.length)]) := List.getElem?_set_self hil
 have hj' : (its.set i (tBlk bl 3 [.int .i64 (left - l.length)]))[j]? = some u := by rw [List.getElem?_set_ne hij]; exact hj
 generalize its.set i (tBlk bl 3 [.int .i64 (left - l.length)]) = its' at h hi' hj' hK
 have hil' := (List.getElem?_eq_some_iff.1 hi').1
 have hjl' := (List.getElem?_eq_some_iff.1 hj').1
 unfold writtenM at hK
 dsimp only at hK
 refine ⟨fun w' => nameOk nm = true ∧ sizedM ⟨nm, pa, lo, l⟩ = true ∧ 0 ≤ left - l.length ∧ Hp S w0 w' (its' ++ [tBlk b 30 [.string nm, .int .i64 pa, .int .i64 lo, .slice sl.a sl.len sl.cap]]), ?_, ?_⟩
 ·have g0 : ∀ {w : World} {its' : List Thing} {K : ByteArray → Prop}, Hp S w0 w (its' ++ [tBlk b 30 [.string nm, .int .i64 pa, .int .i64 lo, .slice sl.a sl.len sl.cap]]) → K nm → Ld .s w ⟨b, 0, none⟩ K := fun {w its' K} h hk => h.ld0 (k := .s) (x := nm) its'.length (by rw [List.getElem?_concat_length]; rfl) rfl hk
  refine g0 h ?_
  by_cases h1 : nm.size < 1
  ·have e : nameOk nm = false := by unfold nameOk; exact decide_eq_false (by omega)
   rw [e, Bool.false_and, Bool.false_and, Bool.false_and] at hK
   exact ifT (by simp; omega) (hK w3 h.front)
  refine ifF (by simp; omega) (g0 h ?_)
  by_cases h2 : 16 < nm.size
  ·have e : nameOk nm = false := by unfold nameOk; exact decide_eq_false (by omega)
   rw [e, Bool.false_and, Bool.false_and, Bool.false_and] at hK
   exact ifT (by simp; omega) (hK w3 h.front)
  have e : nameOk nm = true := by unfold nameOk; exact decide_eq_true (by omega)
  rw [e, Bool.true_and] at hK
  refine ifF (by simp; omega) (g0 h ?_)
  refine h.ld (n := 1) (k := .i .i64) (x := pa) its'.length (by rw [List.getElem?_concat_length]; rfl) rfl ?_
  refine h.ld (n := 2) (k := .i .i64) (x := lo) its'.length (by rw [List.getElem?_concat_length]; rfl) rfl ?_
  refine h.ld (n := 3) (k := .sl) (x := sl) its'.length (by rw [List.getElem?_concat_length]; rfl) rfl ?_
  refine sized_spec (code := l) h fun w4 h => ?_
  cases hs : sizedM ⟨nm, pa, lo, l⟩ with
  | false =>
   rw [hs, Bool.false_and, Bool.false_and] at hK
   exact ifT rfl (hK w4 h.front)
  | true =>
   rw [hs, Bool.true_and] at hK
   refine ifF (by decide) ?_
   rw [NN_some]
   refine h.ld0 (k := .i .i64) (x := left - l.length) i (by rw [List.getElem?_append_left hil', hi']; rfl) rfl ?_
   by_cases h3 : left - l.length < 0
   ·rw [decide_eq_false (by omega), Bool.false_and] at hK
    exact ifT (by simp; omega) (hK w4 h.front)
   ·exact ifF (by simp; omega) ⟨e, rfl, by omega, h⟩
 clear h
 rintro w4 ⟨e1, e2, e3, h⟩
 rw [e1, e2, decide_eq_true e3, Bool.true_and, Bool.true_and, Bool.true_and] at hK
 refine h.ld (n := 3) (k := .sl) (x := sl) its'.length (by rw [List.getElem?_concat_length]; rfl) rfl ?_
 have h := h.front
 refine ⟨fun t mm w' => ∃ k : Nat, t = k ∧ k ≤ l.length ∧ mm = l.length - k ∧ codeOk l = codeOk (l.drop k) ∧ Hp S w0 w' its', ⟨l.length, 0, rfl, by omega, rfl, rfl, h⟩, ?_⟩
 clear h
 rintro t mm w5 ⟨k, rfl, hk, rfl, he, h⟩
 by_cases hlt : k < l.length
 ·refine ifT (by simp; omega) ?_
  have hx : l[k]? = some l[k] := List.getElem?_eq_getElem hlt
  generalize l[k] = x at hx
  rw [all_drop hx] at he
  obtain ⟨O, hO⟩ := h.see hj'
  obtain ⟨o, hR⟩ := hu.rd hO
  refine SlR.ix insv_len hR (by omega) (x := x) (by rw [Int.toNat_natCast]; exact hx) fun ad hc => ?_
  refine ldR0 (k := .i .i64) (x := x.1) (hc 0 (by omega)) rfl ?_
  refine ldR (k := .i .i64) (x := x.2) (hc 1 (by omega)) rfl ?_
  refine h.nw fun b2 w6 h => ?_
  refine h.st0 its'.length List.getElem?_concat_length (by simp) rfl fun w7 h => ?_
  rw [set_last] at h
  refine h.st (n := 1) its'.length List.getElem?_concat_length (by simp) rfl fun w8 h => ?_
  rw [set_last] at h
  refine h.ld0 (k := .i .i64) (x := x.1) its'.length (by rw [List.getElem?_concat_length]; rfl) rfl ?_
  refine h.ld (n := 1) (k := .i .i64) (x := x.2) its'.length (by rw [List.getElem?_concat_length]; rfl) rfl ?_
  refine instr_spec h fun w9 h => ?_
  cases hi : insOk x with
  | false =>
   rw [hi, Bool.false_and] at he
   rw [he] at hK
   exact ifT rfl (hK w9 h.front)
  | true =>
   rw [hi, Bool.true_and] at he
   exact ifF (by decide) ⟨l.length - (k + 1), by omega, k + 1, by rw [wr64 (by omega) (by omega)]; rfl, by omega, rfl, he, h.front⟩
 ·refine ifF (by simp; omega) ?_
  rw [List.drop_eq_nil_of_le (by omega)] at he
  rw [he] at hK
  exact hK w5 h
end
section
variable {S : List Nat} {w0 w : World} {its : List Thing}
theorem sys_ld (h : Hp S w0 w its) (j : Nat) {s : Sl} {xs : List SV} (hj : its[j]? = some (tSys s xs).ro) {k : Nat} {x : SV} (hx : xs[k]? = some x) {K : Sl → Sl → Sl → Sl → ByteArray → Int → Int → Sl → Prop} (hK : K x.a x.b x.c x.d x.run.nm x.run.pa x.run.lo x.run.sl) :
  Ix s.a s.len (k : Int) 8 fun a => Ld .sl w a fun y1 => Ld .sl w (a.add 1) fun y2 => Ld .sl w (a.add 2) fun y3 => Ld .sl w (a.add 3) fun y4 => Ld .s w (a.add 4) fun y5 => Ld (.i .i64) w (a.add 5) fun y6 => Ld (.i .i64) w (a.add 6) fun y7 => Ld .sl w (a.add 7) fun y8 => K y1 y2 y3 y4 y5 y6 y7 y8 := by
 obtain ⟨O, hO⟩ := h.see hj
 obtain ⟨o, hR⟩ := sys_reads.rd hO
 refine SlR.ix syv_len hR (by omega) (x := x) (by rw [Int.toNat_natCast]; exact hx) fun ad hc => ?_
 exact ldR0 (k := .sl) (x := x.a) (hc 0 (by omega)) rfl (ldR (k := .sl) (x := x.b) (hc 1 (by omega)) rfl (ldR (k := .sl) (x := x.c) (hc 2 (by omega)) rfl (ldR (k := .sl) (x := x.d) (hc 3 (by omega)) rfl (ldR (k := .s) (x := x.run.nm) (hc 4 (by omega)) rfl (ldR (k := .i .i64) (x := x.run.pa) (hc 5 (by omega)) rfl (ldR (k := .i .i64) (x := x.run.lo) (hc 6 (by omega)) rfl (ldR (k := .sl) (x := x.run.sl) (hc 7 (by omega)) rfl hK)))))))
theorem rts_ld (h : Hp S w0 w its) (j : Nat) {s : Sl} {xs : List RV} (hj : its[j]? = some (tRts s xs).ro) {k : Nat} {x : RV} (hx : xs[k]? = some x) {K : ByteArray → Int → Int → Sl → Prop} (hK : K x.nm x.pa x.lo x.sl) :
  Ix s.a s.len (k : Int) 4 fun a => Ld .s w a fun y5 => Ld (.i .i64) w (a.add 1) fun y6 => Ld (.i .i64) w (a.add 2) fun y7 => Ld .sl w (a.add 3) fun y8 => K y5 y6 y7 y8 := by
 obtain ⟨O, hO⟩ := h.see hj
 obtain ⟨o, hR⟩ := rts_reads.rd hO
 refine SlR.ix rtv_len hR (by omega) (x := x) (by rw [Int.toNat_natCast]; exact hx) fun ad hc => ?_
 exact ldR0 (k := .s) (x := x.nm) (hc 0 (by omega)) rfl (ldR (k := .i .i64) (x := x.pa) (hc 1 (by omega)) rfl (ldR (k := .i .i64) (x := x.lo) (hc 2 (by omega)) rfl (ldR (k := .sl) (x := x.sl) (hc 3 (by omega)) rfl hK)))
theorem sys_copy (h : Hp S w0 w its) (x : SV) {K : Addr → World → Prop} (hK : ∀ b w', Hp S w0 w' (its ++ [tBlk b 54 (syv x)]) → K ⟨b, 0, none⟩ w') :
  Nw (.cells #[.slice none 0 0, .slice none 0 0, .slice none 0 0, .slice none 0 0, .string (⟨#[]⟩ : ByteArray), .int .i64 0, .int .i64 0, .slice none 0 0] 54) w fun (s : Addr) (w : World) =>
   St s (.slice x.a.a x.a.len x.a.cap) w fun (w : World) => St (s.add 1) (.slice x.b.a x.b.len x.b.cap) w fun (w : World) => St (s.add 2) (.slice x.c.a x.c.len x.c.cap) w fun (w : World) => St (s.add 3) (.slice x.d.a x.d.len x.d.cap) w fun (w : World) =>
   St (s.add 4) (.string x.run.nm) w fun (w : World) => St (s.add 5) (.int .i64 x.run.pa) w fun (w : World) => St (s.add 6) (.int .i64 x.run.lo) w fun (w : World) => St (s.add 7) (.slice x.run.sl.a x.run.sl.len x.run.sl.cap) w fun (w : World) => K s w := by
 refine h.nw fun b w1 h => ?_
 refine h.st0 its.length List.getElem?_concat_length (by simp) rfl fun w2 h => ?_
 rw [set_last] at h
 refine h.st (n := 1) its.length List.getElem?_concat_length (by simp) rfl fun w2 h => ?_
 rw [set_last] at h
 refine h.st (n := 2) its.length List.getElem?_concat_length (by simp) rfl fun w2 h => ?_
 rw [set_last] at h
 refine h.st (n := 3) its.length List.getElem?_concat_length (by simp) rfl fun w2 h => ?_
 rw [set_last] at h
 refine h.st (n := 4) its.length List.getElem?_concat_length (by simp) rfl fun w2 h => ?_
 rw [set_last] at h
 refine h.st (n := 5) its.length List.getElem?_concat_length (by simp) rfl fun w2 h => ?_
 rw [set_last] at h
 refine h.st (n := 6) its.length List.getElem?_concat_length (by simp) rfl fun w2 h => ?_
 rw [set_last] at h
 refine h.st (n := 7) its.length List.getElem?_concat_length (by simp) rfl fun w2 h => ?_
 rw [set_last] at h
 exact hK b w2 h
theorem rt_copy (h : Hp S w0 w its) {nm : ByteArray} {pa lo : Int} {sl : Sl} {K : Addr → World → Prop} (hK : ∀ b w', Hp S w0 w' (its ++ [tBlk b 30 [.string nm, .int .i64 pa, .int .i64 lo, .slice sl.a sl.len sl.cap]]) → K ⟨b, 0, none⟩ w') :
  Nw (.cells #[.string (⟨#[]⟩ : ByteArray), .int .i64 0, .int .i64 0, .slice none 0 0] 30) w fun (s : Addr) (w : World) =>
   St s (.string nm) w fun (w : World) => St (s.add 1) (.int .i64 pa) w fun (w : World) => St (s.add 2) (.int .i64 lo) w fun (w : World) => St (s.add 3) (.slice sl.a sl.len sl.cap) w fun (w : World) => K s w := by
 refine h.nw fun b w1 h => ?_
 refine h.st0 its.length List.getElem?_concat_length (by simp) rfl fun w2 h => ?_
 rw [set_last] at h
 refine h.st (n := 1) its.length List.getElem?_concat_length (by simp) rfl fun w2 h => ?_
 rw [set_last] at h
 refine h.st (n := 2) its.length List.getElem?_concat_length (by simp) rfl fun w2 h => ?_
 rw [set_last] at h
 refine h.st (n := 3) its.length List.getElem?_concat_length (by simp) rfl fun w2 h => ?_
 rw [set_last] at h
 exact hK b w2 h
theorem ins_copy (h : Hp S w0 w its) {x : Ins} {K : Addr → World → Prop} (hK : ∀ b w', Hp S w0 w' (its ++ [tBlk b 23 [.int .i64 x.1, .int .i64 x.2]]) → K ⟨b, 0, none⟩ w') :
  Nw (.cells #[.int .i64 0, .int .i64 0] 23) w fun (s : Addr) (w : World) => St s (.int .i64 x.1) w fun (w : World) => St (s.add 1) (.int .i64 x.2) w fun (w : World) => K s w := by
 refine h.nw fun b w1 h => ?_
 refine h.st0 its.length List.getElem?_concat_length (by simp) rfl fun w2 h => ?_
 rw [set_last] at h
 refine h.st (n := 1) its.length List.getElem?_concat_length (by simp) rfl fun w2 h => ?_
 rw [set_last] at h
 exact hK b w2 h
theorem sets_spec (h : Hp S w0 w its) (i : Nat) {b : Nat} {c : List Value} (hi : its[i]? = some (tBlk b 54 c)) {K : Option Addr → Option Addr → Option Addr → Option Addr → World → Prop}
  (hK : ∀ w', Hp S w0 w' its → K (some ⟨b, 0, none⟩) (some ((⟨b, 0, none⟩ : Addr).add 1)) (some ((⟨b, 0, none⟩ : Addr).add 2)) (some ((⟨b, 0, none⟩ : Addr).add 3)) w') : c45 (some ⟨b, 0, none⟩) w K := by
 refine c45_of ?_
 unfold f45
 refine h.nw fun a w1 h => ?_
 refine h.dr fun w2 h => ?_
 rw [NN_some, NN_some, NN_some, NN_some]
 refine h.st0 its.length List.getElem?_concat_length (by simp) rfl fun w2 h => ?_
 rw [set_last] at h
 refine h.st (n := 1) its.length List.getElem?_concat_length (by simp) rfl fun w2 h => ?_
 rw [set_last] at h
 refine h.st (n := 2) its.length List.getElem?_concat_length (by simp) rfl fun w2 h => ?_
 rw [set_last] at h
 refine h.st (n := 3) its.length List.getElem?_concat_length (by simp) rfl fun w2 h => ?_
 rw [set_last] at h
 refine h.ld0 (k := .p) (x := some ⟨b, 0, none⟩) its.length (by rw [List.getElem?_concat_length]; rfl) rfl ?_
 refine h.ld (n := 1) (k := .p) (x := some ((⟨b, 0, none⟩ : Addr).add 1)) its.length (by rw [List.getElem?_concat_length]; rfl) rfl ?_
 refine h.ld (n := 2) (k := .p) (x := some ((⟨b, 0, none⟩ : Addr).add 2)) its.length (by rw [List.getElem?_concat_length]; rfl) rfl ?_
 refine h.ld (n := 3) (k := .p) (x := some ((⟨b, 0, none⟩ : Addr).add 3)) its.length (by rw [List.getElem?_concat_length]; rfl) rfl ?_
 exact hK w2 h.front
theorem sets_ix {b j : Nat} (hj : j < 4) {K : Option Addr → Prop} (hK : K (some ((⟨b, 0, none⟩ : Addr).add j))) : IxV [.pointer (some ⟨b, 0, none⟩), .pointer (some ((⟨b, 0, none⟩ : Addr).add 1)), .pointer (some ((⟨b, 0, none⟩ : Addr).add 2)), .pointer (some ((⟨b, 0, none⟩ : Addr).add 3))] 4 (j : Int) .p K := by
 match j, hj with
 | 0, _ => exact ⟨by omega, by omega, _, rfl, hK⟩
 | 1, _ => exact ⟨by omega, by omega, _, rfl, hK⟩
 | 2, _ => exact ⟨by omega, by omega, _, rfl, hK⟩
 | 3, _ => exact ⟨by omega, by omega, _, rfl, hK⟩
theorem sls_at {x : SV} {j : Nat} (hj : j < 4) : ∃ y : Sl × List Int, x.sls[j]? = some y ∧ y ∈ x.sls ∧ (syv x)[j]? = some (.slice y.1.a y.1.len y.1.cap) ∧ x.m.sets[j]? = some y.2 := by
 match j, hj with
 | 0, _ => exact ⟨(x.a, x.A), rfl, by simp [SV.sls], rfl, rfl⟩
 | 1, _ => exact ⟨(x.b, x.B), rfl, by simp [SV.sls], rfl, rfl⟩
 | 2, _ => exact ⟨(x.c, x.C), rfl, by simp [SV.sls], rfl, rfl⟩
 | 3, _ => exact ⟨(x.d, x.D), rfl, by simp [SV.sls], rfl, rfl⟩
theorem sum_take {l : List RT} {k : Nat} {r : RT} (h : l[k]? = some r) : codeSum (l.take (k + 1)) = codeSum (l.take k) + r.code.length := by
 unfold codeSum
 rw [List.take_add_one, h, List.map_append, List.sum_append]; simp
theorem sum_le {l : List RT} {k : Nat} : codeSum (l.take k) ≤ codeSum l := by
 have e : codeSum l = codeSum (l.take k) + codeSum (l.drop k) := by
  unfold codeSum
  conv => lhs; rw [← List.take_append_drop k l, List.map_append, List.sum_append]
 omega
theorem sum_append {a b : List RT} : codeSum (a ++ b) = codeSum a + codeSum b := by unfold codeSum; rw [List.map_append, List.sum_append]
theorem mayM_iff {p : PG} : mayM p = true ↔ p.sys.length ≤ 16 ∧ p.fns.length ≤ 16 ∧ (∀ s ∈ p.sys, syOk s = true) ∧ (∀ r ∈ p.fns, rtOk r = true) ∧ codeSum p.rts ≤ 2000 := by
 unfold mayM
 rw [Bool.and_eq_true, Bool.and_eq_true, Bool.and_eq_true, decide_eq_true_iff, decide_eq_true_iff, List.all_eq_true, List.all_eq_true]
 exact ⟨fun ⟨⟨⟨⟨a, b⟩, c⟩, d⟩, e⟩ => ⟨a, b, c, d, e⟩, fun ⟨a, b, c, d, e⟩ => ⟨⟨⟨⟨a, b⟩, c⟩, d⟩, e⟩⟩
theorem syOk_iff {s : SY} : syOk s = true ↔ (∀ l ∈ s.sets, risesM l = true) ∧ rtOk s.run = true := by
 unfold syOk
 rw [Bool.and_eq_true, List.all_eq_true]
theorem written_iff {r : RT} {left : Int} : writtenM r left = true ↔ rtOk r = true ∧ 0 ≤ left - r.code.length := by
 unfold writtenM rtOk
 rw [Bool.and_eq_true, Bool.and_eq_true, Bool.and_eq_true, Bool.and_eq_true, Bool.and_eq_true, decide_eq_true_iff]
 exact ⟨fun ⟨⟨⟨a, b⟩, c⟩, d⟩ => ⟨⟨⟨d, a⟩, b⟩, c⟩, fun ⟨⟨⟨d, a⟩, b⟩, c⟩ => ⟨⟨⟨a, b⟩, c⟩, d⟩⟩
set_option maxHeartbeats 8000000 in
theorem may_spec {w : World} {s1 s2 : Sl} {p : PG} (hs : RdS w s1 p.sys) (hr : RdR w s2 p.fns) (hok : p.Ok) {K : Bool → World → Prop} (hK : ∀ w', Hp [] w w' [] → K (mayM p) w') : c43 s1 s2 w K := by
 refine c43_of ?_
 unfold f43
 obtain ⟨ss, fs⟩ := p
 obtain ⟨xs, O1, rfl, h1⟩ := hs
 obtain ⟨ys, O2, rfl, h2⟩ := hr.thing
 have hS : ∀ x ∈ xs, x.m.Ok := fun x hx => hok.sys _ (List.mem_map_of_mem hx)
 have hF : ∀ y ∈ ys, y.r.Ok := fun y hy => hok.fns _ (List.mem_map_of_mem hy)
 have h : Hp [] w w [(tSys s1 xs).ro, (tRts s2 ys).ro] := ((Hp.init w).addRo h1 (by simp)).addRo h2 (by simp)
 have hxl := h.lenU (u := (tSys s1 xs).ro) 0 rfl sys_reads
 have hyl := h.lenU (u := (tRts s2 ys).ro) 1 rfl rts_reads
 have no : ∀ {w' : World}, mayM ⟨xs.map SV.m, ys.map RV.r⟩ ≠ true → Hp [] w w' [] → K false w' := fun {w'} hn h => by
  have hK := hK w' h
  cases hm : mayM ⟨xs.map SV.m, ys.map RV.r⟩ with
  | true => exact absurd hm hn
  | false => rw [hm] at hK; exact hK
 have bare : ∀ {w' : World} {l : List Thing}, Hp [] w w' l → Hp [] w w' [] := fun {w' l} h => h.trim 0
 refine h.nw fun bp w1 h => ?_
 refine h.nw fun bl w2 h => ?_
 refine h.st0 3 rfl (by simp) rfl fun w3 h => ?_
 have h : Hp [] w w3 [(tSys s1 xs).ro, (tRts s2 ys).ro, tBlk bp 37 [.slice s1.a s1.len s1.cap, .slice s2.a s2.len s2.cap], tBlk bl 3 [.int .i64 2000]] := h
 refine ⟨fun w' => xs.length ≤ 16 ∧ ys.length ≤ 16 ∧ Hp [] w w' [(tSys s1 xs).ro, (tRts s2 ys).ro, tBlk bp 37 [.slice s1.a s1.len s1.cap, .slice s2.a s2.len s2.cap], tBlk bl 3 [.int .i64 2000]], ?_, ?_⟩
 ·refine h.ld0 (k := .sl) (x := s1) 2 rfl rfl ?_
  by_cases q1 : xs.length ≤ 16
  ·refine ifF (by simp; omega) ?_
   refine h.ld (n := 1) (k := .sl) (x := s2) 2 rfl rfl ?_
   by_cases q2 : ys.length ≤ 16
   ·exact ifF (by simp; omega) ⟨q1, q2, h⟩
   ·refine ifT (by simp; omega) (no (fun hm => q2 ?_) (bare h))
    have := (mayM_iff.1 hm).2.1
    simpa using this
  ·refine ifT (by simp; omega) (no (fun hm => q1 ?_) (bare h))
   have := (mayM_iff.1 hm).1
   simpa using this
 clear h
 rintro w4 ⟨q1, q2, h⟩
 refine h.ld0 (k := .sl) (x := s1) 2 rfl rfl ?_
 refine ⟨fun t mm w' => ∃ k : Nat, t = k ∧ k ≤ xs.length ∧ mm = xs.length - k ∧ (∀ s ∈ (xs.take k).map SV.m, syOk s = true) ∧ codeSum ((xs.take k).map fun x => x.run.r) ≤ 2000 ∧ Hp [] w w' [(tSys s1 xs).ro, (tRts s2 ys).ro, tBlk bp 37 [.slice s1.a s1.len s1.cap, .slice s2.a s2.len s2.cap], tBlk bl 3 [.int .i64 (2000 - codeSum ((xs.take k).map fun x => x.run.r))]],
  ⟨xs.length, 0, rfl, by omega, rfl, by simp, by simp [codeSum], by simpa [codeSum] using h⟩, ?_⟩
 clear h
 rintro t mm w5 ⟨k, rfl, hk, rfl, hall, hsum, h⟩
 by_cases hlt : k < xs.length
 ·refine ifT (by simp; omega) ?_
  have hx : xs[k]? = some xs[k] := List.getElem?_eq_getElem hlt
  have hxm : xs[k] ∈ xs := List.getElem_mem hlt
  generalize xs[k] = x at hx hxm
  have hxo := hS x hxm
  have hmm : x.m ∈ xs.map SV.m := List.mem_map_of_mem hxm
  refine sys_ld h 0 rfl hx ?_
  refine sys_copy h x fun b w6 h => ?_
  refine sets_spec h 4 rfl fun w7 h => ?_
  have h : Hp [] w w7 [(tSys s1 xs).ro, (tRts s2 ys).ro, tBlk bp 37 [.slice s1.a s1.len s1.cap, .slice s2.a s2.len s2.cap], tBlk bl 3 [.int .i64 (2000 - codeSum ((xs.take k).map fun x => x.run.r))], tBlk b 54 (syv x)] := h
  refine ⟨fun t mm w' => ∃ j : Nat, t = j ∧ j ≤ 4 ∧ mm = 4 - j ∧ (∀ l ∈ x.m.sets.take j, risesM l = true) ∧ Hp [] w w' [(tSys s1 xs).ro, (tRts s2 ys).ro, tBlk bp 37 [.slice s1.a s1.len s1.cap, .slice s2.a s2.len s2.cap], tBlk bl 3 [.int .i64 (2000 - codeSum ((xs.take k).map fun x => x.run.r))], tBlk b 54 (syv x)], ⟨4, 0, rfl, by omega, rfl, by simp, h⟩, ?_⟩
  clear h
  rintro t mm w8 ⟨j, rfl, hj, rfl, hris, h⟩
  by_cases hj4 : j < 4
  ·refine ifT (by simp; omega) (sets_ix hj4 ?_)
   obtain ⟨y, y1, y2, y3, y4⟩ := sls_at (x := x) hj4
   have hyl := hxo.lens y.2 (List.mem_of_getElem? y4)
   rw [NN_some]
   refine h.ld (n := j) (k := .sl) (x := y.1) 4 rfl y3 ?_
   obtain ⟨O, hO⟩ := h.see (i := 0) rfl
   refine rises_spec ((sys_set hxm y2).rd hO) hyl ?_
   cases hrm : risesM y.2 with
   | true =>
    refine ifF (by decide) ⟨4 - (j + 1), by omega, j + 1, by rw [wr64 (by omega) (by omega)]; rfl, by omega, rfl, fun l hl => ?_, h⟩
    rw [List.take_add_one, y4] at hl
    rcases List.mem_append.1 hl with hl | hl
    ·exact hris l hl
    ·simp only [Option.toList_some, List.mem_singleton] at hl
     rw [hl]; exact hrm
   | false =>
    refine ifT rfl (no (fun hm => ?_) (bare h))
    have := (syOk_iff.1 ((mayM_iff.1 hm).2.2.1 _ hmm)).1 y.2 (List.mem_of_getElem? y4)
    rw [hrm] at this; cases this
  ·refine ifF (by simp; omega) ?_
   obtain rfl : j = 4 := by omega
   have hris : ∀ l ∈ x.m.sets, risesM l = true := hris
   refine h.ld (n := 4) (k := .s) (x := x.run.nm) 4 rfl rfl ?_
   refine h.lda (n := 4) (m := 1) (k := .i .i64) (x := x.run.pa) 4 rfl rfl ?_
   refine h.lda (n := 4) (m := 2) (k := .i .i64) (x := x.run.lo) 4 rfl rfl ?_
   refine h.lda (n := 4) (m := 3) (k := .sl) (x := x.run.sl) 4 rfl rfl ?_
   have hrn : x.run.code.length ≤ 140737488355328 := hxo.run.len
   refine written_spec h 3 0 (by decide) rfl rfl (sys_code hxm) hrn (by omega) (by omega) fun w9 h => ?_
   have htake : (xs.take (k + 1)).map (fun x => x.run.r) = (xs.take k).map (fun x => x.run.r) ++ [x.run.r] := by rw [List.take_add_one, hx, List.map_append]; rfl
   have hsum1 : codeSum ((xs.take (k + 1)).map fun x => x.run.r) = codeSum ((xs.take k).map fun x => x.run.r) + x.run.code.length := by
    rw [htake, sum_append]; simp [codeSum, RV.r]
   have hall2 : codeSum ((xs.take (k + 1)).map fun x => x.run.r) ≤ codeSum (PG.rts ⟨xs.map SV.m, ys.map RV.r⟩) := by
    show _ ≤ codeSum ((xs.map SV.m).map SY.run ++ _)
    rw [sum_append, List.map_map]
    have : (xs.take (k + 1)).map (fun x => x.run.r) = (xs.map (SY.run ∘ SV.m)).take (k + 1) := by rw [← List.map_take]; rfl
    rw [this]
    have := sum_le (l := xs.map (SY.run ∘ SV.m)) (k := k + 1)
    omega
   cases hw : writtenM ⟨x.run.nm, x.run.pa, x.run.lo, x.run.code⟩ (2000 - codeSum ((xs.take k).map fun x => x.run.r)) with
   | true =>
    obtain ⟨v1, v2⟩ := written_iff.1 hw
    dsimp only at v2
    refine ifF (by decide) ⟨xs.length - (k + 1), by omega, k + 1, by rw [wr64 (by omega) (by omega)]; rfl, by omega, rfl, fun s hs => ?_, by omega, ?_⟩
    ·rw [List.take_add_one, hx, List.map_append] at hs
     rcases List.mem_append.1 hs with hs | hs
     ·exact hall s hs
     ·simp only [Option.toList_some, List.map_cons, List.map_nil, List.mem_singleton] at hs
      rw [hs]
      exact syOk_iff.2 ⟨hris, v1⟩
    ·have h := h.trim 4
     have e : ((2000 : Int) - (codeSum ((xs.take k).map fun x => x.run.r) : Nat)) - (x.run.code.length : Nat) = 2000 - (codeSum ((xs.take (k + 1)).map fun x => x.run.r) : Nat) := by omega
     have h : Hp [] w w9 [(tSys s1 xs).ro, (tRts s2 ys).ro, tBlk bp 37 [.slice s1.a s1.len s1.cap, .slice s2.a s2.len s2.cap], tBlk bl 3 [.int .i64 (((2000 : Int) - (codeSum ((xs.take k).map fun x => x.run.r) : Nat)) - (x.run.code.length : Nat))]] := h
     rw [e] at h
     exact h
   | false =>
    refine ifT rfl (no (fun hm => ?_) (bare h))
    obtain ⟨_, _, m3, _, m5⟩ := mayM_iff.1 hm
    have g1 := (syOk_iff.1 (m3 _ hmm)).2
    have : writtenM ⟨x.run.nm, x.run.pa, x.run.lo, x.run.code⟩ (2000 - codeSum ((xs.take k).map fun x => x.run.r)) = true := written_iff.2 ⟨g1, by dsimp only; omega⟩
    rw [hw] at this; cases this
 refine ifF (by simp; omega) ?_
 obtain rfl : k = xs.length := by omega
 rw [List.take_length] at hall hsum h
 obtain ⟨sm, hsm⟩ : ∃ sm, sm = codeSum (xs.map fun x => x.run.r) := ⟨_, rfl⟩
 have hsmP : codeSum (PG.rts ⟨xs.map SV.m, ys.map RV.r⟩) = sm + codeSum (ys.map RV.r) := by
  show codeSum ((xs.map SV.m).map SY.run ++ ys.map RV.r) = _
  rw [sum_append, List.map_map, hsm]; rfl
 rw [← hsm] at hsum h
 clear hsm
 refine h.ld (n := 1) (k := .sl) (x := s2) 2 rfl rfl ?_
 refine ⟨fun t mm w' => ∃ k : Nat, t = k ∧ k ≤ ys.length ∧ mm = ys.length - k ∧ (∀ s ∈ (ys.take k).map RV.r, rtOk s = true) ∧ sm + codeSum ((ys.map RV.r).take k) ≤ 2000 ∧ Hp [] w w' [(tSys s1 xs).ro, (tRts s2 ys).ro, tBlk bp 37 [.slice s1.a s1.len s1.cap, .slice s2.a s2.len s2.cap], tBlk bl 3 [.int .i64 (2000 - (sm + codeSum ((ys.map RV.r).take k) : Nat))]],
  ⟨ys.length, 0, rfl, by omega, rfl, by simp, by simp [codeSum]; omega, by simpa [codeSum] using h⟩, ?_⟩
 clear h
 rintro t mm w6 ⟨k, rfl, hk, rfl, hal2, hsu2, h⟩
 by_cases hlt2 : k < ys.length
 ·refine ifT (by simp; omega) ?_
  have hx : ys[k]? = some ys[k] := List.getElem?_eq_getElem hlt2
  have hxm : ys[k] ∈ ys := List.getElem_mem hlt2
  generalize ys[k] = x at hx hxm
  have hxo := hF x hxm
  have hmm : x.r ∈ ys.map RV.r := List.mem_map_of_mem hxm
  refine rts_ld h 1 rfl hx ?_
  refine rt_copy h fun b w7 h => ?_
  refine h.ld0 (k := .s) (x := x.nm) 4 rfl rfl ?_
  refine h.ld (n := 1) (k := .i .i64) (x := x.pa) 4 rfl rfl ?_
  refine h.ld (n := 2) (k := .i .i64) (x := x.lo) 4 rfl rfl ?_
  refine h.ld (n := 3) (k := .sl) (x := x.sl) 4 rfl rfl ?_
  have hrn : x.code.length ≤ 140737488355328 := hxo.len
  refine written_spec h 3 1 (by decide) rfl rfl (rts_code hxm) hrn (by omega) (by omega) fun w9 h => ?_
  have hxr : (ys.map RV.r)[k]? = some x.r := by rw [List.getElem?_map, hx]; rfl
  have hsum1 := sum_take hxr
  have hall2 := sum_le (l := ys.map RV.r) (k := k + 1)
  have hxc : x.r.code.length = x.code.length := rfl
  cases hw : writtenM ⟨x.nm, x.pa, x.lo, x.code⟩ (2000 - (sm + codeSum ((ys.map RV.r).take k) : Nat)) with
  | true =>
   obtain ⟨v1, v2⟩ := written_iff.1 hw
   dsimp only at v2
   refine ifF (by decide) ⟨ys.length - (k + 1), by omega, k + 1, by rw [wr64 (by omega) (by omega)]; rfl, by omega, rfl, fun s hs => ?_, by omega, ?_⟩
   ·rw [List.take_add_one, hx, List.map_append] at hs
    rcases List.mem_append.1 hs with hs | hs
    ·exact hal2 s hs
    ·simp only [Option.toList_some, List.map_cons, List.map_nil, List.mem_singleton] at hs
     rw [hs]; exact v1
   ·have h := h.trim 4
    have e : ((2000 : Int) - ((sm + codeSum ((ys.map RV.r).take k) : Nat) : Int)) - (x.code.length : Nat) = 2000 - ((sm + codeSum ((ys.map RV.r).take (k + 1)) : Nat) : Int) := by omega
    have h : Hp [] w w9 [(tSys s1 xs).ro, (tRts s2 ys).ro, tBlk bp 37 [.slice s1.a s1.len s1.cap, .slice s2.a s2.len s2.cap], tBlk bl 3 [.int .i64 (((2000 : Int) - ((sm + codeSum ((ys.map RV.r).take k) : Nat) : Int)) - (x.code.length : Nat))]] := h
    rw [e] at h
    exact h
  | false =>
   refine ifT rfl (no (fun hm => ?_) (bare h))
   obtain ⟨_, _, _, m4, m5⟩ := mayM_iff.1 hm
   have : writtenM ⟨x.nm, x.pa, x.lo, x.code⟩ (2000 - (sm + codeSum ((ys.map RV.r).take k) : Nat)) = true := written_iff.2 ⟨m4 _ hmm, by dsimp only; omega⟩
   rw [hw] at this; cases this
 refine ifF (by simp; omega) ?_
 obtain rfl : k = ys.length := by omega
 have hm : mayM ⟨xs.map SV.m, ys.map RV.r⟩ = true := mayM_iff.2 ⟨by simpa using q1, by simpa using q2, hall, by rw [List.take_length] at hal2; exact hal2, by
  rw [hsmP]
  rw [List.take_of_length_le (by simp)] at hsu2
  exact hsu2⟩
 rw [hm] at hK
 exact hK w6 (bare h)
end
section
variable {S : List Nat} {w0 w : World} {its : List Thing}
theorem put_spec (h : Hp S w0 w its) (j : Nat) {u : Thing} {b : Sl} {l : List Int} {n : Int} (hj : its[j]? = some u) (hu : Hp.Reads u b 1 u8v l) (h0 : 0 ≤ n) (h1 : n < 9223372036854775808) (hl : l.length + 10 ≤ 140737488355328) {K : Sl → World → Prop}
  (hK : ∀ s w', Hp S w0 w' (its ++ [tB s (l ++ putU n)]) → K s w') : c44 b n w K := by
 refine c44_of ?_
 unfold f44
 have e : IntKind.u64.wrap n = n := by rw [w64]; omega
 rw [e]
 exact Put_spec h j hj hu h0 (by omega) hl hK
theorem mem_sum {l : List RT} {r : RT} (h : r ∈ l) : r.code.length ≤ codeSum l := by
 obtain ⟨k, hk⟩ := List.getElem?_of_mem h
 have h1 := sum_take hk
 have h2 := sum_le (l := l) (k := k + 1)
 omega
theorem codeOk_ops {l : List Ins} (h : codeOk l = true) : ∀ x ∈ l, 1 ≤ x.1 ∧ x.1 ≤ 39 := fun x hx => isOp_iff.1 (insOk_iff.1 (List.all_eq_true.1 h x hx)).1
set_option maxHeartbeats 4000000 in
theorem putRoutine_spec (h : Hp S w0 w its) (j jc : Nat) {u uc : Thing} {b : Sl} {l : List Int} {nm : ByteArray} {pa lo : Int} {sl : Sl} {code : List Ins} (hj : its[j]? = some u) (hu : Hp.Reads u b 1 u8v l) (hjc : its[jc]? = some uc) (huc : Hp.Reads uc sl 2 insv code)
  (hok : rtOk ⟨nm, pa, lo, code⟩ = true) (hrg : RT.Ok ⟨nm, pa, lo, code⟩) (hcl : code.length ≤ 2000) (hl : l.length ≤ 100000000) {K : Sl → World → Prop}
  (hK : ∀ r w', Hp S w0 w' (its ++ [tB r (l ++ encRt ⟨nm, pa, lo, code⟩)]) → K r w') : c46 b nm pa lo sl w K := by
 refine c46_of ?_
 unfold f46
 obtain ⟨o1, ⟨o2, o3⟩, o4, o5, o6, o7⟩ := rtOk_iff.1 hok
 dsimp only at o1 o2 o3 o4 o5 o6 o7
 have hops := codeOk_ops o1
 have hjl := (List.getElem?_eq_some_iff.1 hj).1
 have hjcl := (List.getElem?_eq_some_iff.1 hjc).1
 have hcs := h.lenU jc (by rw [hjc]; rfl) huc
 have lift : ∀ {i : Nat} {t : Thing} {B : List Thing}, its[i]? = some t → (its ++ B)[i]? = some t := fun {i t B} ht => by rw [List.getElem?_append_left (List.getElem?_eq_some_iff.1 ht).1]; exact ht
 refine h.nw fun br w1 h => ?_
 refine h.dr fun w2 h => ?_
 refine h.ld0 (k := .s) (x := nm) its.length (by rw [List.getElem?_concat_length]; rfl) rfl ?_
 refine h.ld (n := 1) (k := .i .i64) (x := pa) its.length (by rw [List.getElem?_concat_length]; rfl) rfl ?_
 refine h.ld (n := 2) (k := .i .i64) (x := lo) its.length (by rw [List.getElem?_concat_length]; rfl) rfl ?_
 refine h.ld (n := 3) (k := .sl) (x := sl) its.length (by rw [List.getElem?_concat_length]; rfl) rfl ?_
 have p1 := putU_len nm.size
 have p2 := putU_len pa
 have p3 := putU_len lo
 have p4 := putU_len code.length
 have p5 := strL_size nm
 have c3 : ∀ {w' : World} {B : List Thing}, Hp S w0 w' (its ++ [tBlk br 30 [.string nm, .int .i64 pa, .int .i64 lo, .slice sl.a sl.len sl.cap]] ++ B) → w'.cell? ((⟨br, 0, none⟩ : Addr).add 3) = some (.slice sl.a sl.len sl.cap) ∧ w'.cell? ((⟨br, 0, none⟩ : Addr).add 2) = some (.int .i64 lo) ∧ w'.cell? ((⟨br, 0, none⟩ : Addr).add 1) = some (.int .i64 pa) := fun {w' B} h => by
  have e : (its ++ [tBlk br 30 [.string nm, .int .i64 pa, .int .i64 lo, .slice sl.a sl.len sl.cap]] ++ B)[its.length]? = some (tBlk br 30 [.string nm, .int .i64 pa, .int .i64 lo, .slice sl.a sl.len sl.cap]) := by
   rw [List.getElem?_append_left (by simp), List.getElem?_concat_length]
  exact ⟨h.cel its.length (by rw [e]; rfl) rfl, h.cel its.length (by rw [e]; rfl) rfl, h.cel its.length (by rw [e]; rfl) rfl⟩
 refine PutText_spec h j (lift hj) hu (by omega) fun r2 w3 h => ?_
 obtain ⟨e3, e2, e1⟩ := c3 h
 refine ⟨e3, e2, e1, ?_⟩
 refine put_spec h (its.length + 1) last2 Hp.rdSl (by omega) (by omega) (by simp only [List.length_append]; omega) fun r3 w4 h => ?_
 have h := h.dropMid (its := its ++ [tBlk br 30 [.string nm, .int .i64 pa, .int .i64 lo, .slice sl.a sl.len sl.cap]])
 obtain ⟨e3, e2, e1⟩ := c3 h
 refine ⟨e3, e2, ?_⟩
 refine put_spec h (its.length + 1) last2 Hp.rdSl (by omega) (by omega) (by simp only [List.length_append]; omega) fun r4 w5 h => ?_
 have h := h.dropMid (its := its ++ [tBlk br 30 [.string nm, .int .i64 pa, .int .i64 lo, .slice sl.a sl.len sl.cap]])
 obtain ⟨e3, e2, e1⟩ := c3 h
 refine ⟨e3, ?_⟩
 refine put_spec h (its.length + 1) last2 Hp.rdSl (by omega) (by omega) (by simp only [List.length_append]; omega) fun r5 w6 h => ?_
 have h := h.dropMid (its := its ++ [tBlk br 30 [.string nm, .int .i64 pa, .int .i64 lo, .slice sl.a sl.len sl.cap]])
 refine h.ld (n := 3) (k := .sl) (x := sl) its.length (by rw [List.getElem?_append_left (by simp), List.getElem?_concat_length]; rfl) rfl ?_
 obtain ⟨hd, hhd⟩ : ∃ hd, hd = l ++ putU nm.size ++ strL nm ++ putU pa ++ putU lo ++ putU (sl.len : Int) := ⟨_, rfl⟩
 rw [← hcs] at hhd
 have hhl : hd.length ≤ 100000100 := by rw [hhd]; simp only [List.length_append]; omega
 have henc : l ++ encRt ⟨nm, pa, lo, code⟩ = hd ++ code.flatMap encIns := by rw [hhd]; unfold encRt encT; simp only [List.append_assoc]
 rw [henc] at hK
 have h : Hp S w0 w6 (its ++ [tB r5 hd]) := by
  have h : Hp S w0 w6 (its ++ [tBlk br 30 [.string nm, .int .i64 pa, .int .i64 lo, .slice sl.a sl.len sl.cap]] ++ [tB r5 hd]) := by rw [hhd, hcs]; exact h
  exact h.dropMid
 clear hhd henc c3 e1 e2 e3
 refine ⟨fun b3 t mm w' => ∃ k : Nat, t = k ∧ k ≤ code.length ∧ mm = code.length - k ∧ Hp S w0 w' (its ++ [tB b3 (hd ++ (code.take k).flatMap encIns)]), ⟨code.length, 0, rfl, by omega, rfl, by simpa using h⟩, ?_⟩
 clear h
 rintro b3 t mm w7 ⟨k, rfl, hk, rfl, h⟩
 by_cases hlt : k < code.length
 ·refine ifT (by simp; omega) ?_
  have hx : code[k]? = some code[k] := List.getElem?_eq_getElem hlt
  have hxm : code[k] ∈ code := List.getElem_mem hlt
  generalize code[k] = x at hx hxm
  have hxo := hops x hxm
  have hxr := hrg.rng x hxm
  have htk : (code.take (k + 1)).flatMap encIns = (code.take k).flatMap encIns ++ encIns x := by rw [List.take_add_one, hx, List.flatMap_append]; simp
  have hfl := flat_len (f := encIns) (B := 20) (l := code.take k) fun x _ => encIns_len x
  rw [List.length_take] at hfl
  obtain ⟨O, hO⟩ := h.see (lift hjc)
  obtain ⟨o, hR⟩ := huc.rd hO
  refine SlR.ix insv_len hR (by omega) (x := x) (by rw [Int.toNat_natCast]; exact hx) fun ad hc => ?_
  refine ldR0 (k := .i .i64) (x := x.1) (hc 0 (by omega)) rfl ?_
  refine ldR (k := .i .i64) (x := x.2) (hc 1 (by omega)) rfl ?_
  refine ins_copy h fun bi w8 h => ?_
  have q1 : ∀ {B : List Thing}, (its ++ [tB b3 (hd ++ (code.take k).flatMap encIns)] ++ [tBlk bi 23 [.int .i64 x.1, .int .i64 x.2]] ++ B)[its.length + 1]? = some (tBlk bi 23 [.int .i64 x.1, .int .i64 x.2]) := fun {B} => by
   rw [List.getElem?_append_left (by simp), List.getElem?_append_right (by simp)]; simp
  have q0 := q1 (B := [])
  rw [List.append_nil] at q0
  refine h.ld0 (k := .i .i64) (x := x.1) (its.length + 1) (by rw [q0]; rfl) rfl ?_
  refine put_spec h its.length mid1 Hp.rdSl (by omega) (by omega) (by simp only [List.length_append]; omega) fun b4 w9 h => ?_
  refine h.ld0 (k := .i .i64) (x := x.1) (its.length + 1) (by rw [q1]; rfl) rfl ?_
  refine shape_spec h fun w10 h => ?_
  have h1 := putU_len x.1
  have ek : IntKind.i64.wrap ((k : Int) + 1) = ((k + 1 : Nat) : Int) := by rw [wr64 (by omega) (by omega)]; rfl
  rw [ek]
  cases hn : (row x.1).num with
  | true =>
   have hE : encIns x = putU x.1 ++ putU (zig x.2) := by unfold encIns; rw [if_pos hn]
   refine ifT rfl ?_
   refine h.ld (n := 1) (k := .i .i64) (x := x.2) (its.length + 1) (by rw [q1]; rfl) rfl ?_
   refine PutInt_spec h (its.length + 2) last3 Hp.rdSl hxr.1 hxr.2 (by simp only [List.length_append]; omega) fun b5 w11 h => ?_
   refine ⟨code.length - (k + 1), by omega, k + 1, rfl, by omega, rfl, ?_⟩
   rw [htk, hE]
   have h : Hp S w0 w11 (its ++ ([tB b3 (hd ++ (code.take k).flatMap encIns)] ++ [tBlk bi 23 [.int .i64 x.1, .int .i64 x.2]] ++ [tB b4 (hd ++ (code.take k).flatMap encIns ++ putU x.1)]) ++ [tB b5 (hd ++ (code.take k).flatMap encIns ++ putU x.1 ++ putU (zig x.2))]) := by
    simpa only [List.append_assoc] using h
   have h := h.dropMid
   simpa only [List.append_assoc] using h
  | false =>
   have hE : encIns x = putU x.1 := by unfold encIns; rw [hn]; simp
   refine ifF (by decide) ⟨code.length - (k + 1), by omega, k + 1, rfl, by omega, rfl, ?_⟩
   rw [htk, hE]
   have h : Hp S w0 w10 (its ++ ([tB b3 (hd ++ (code.take k).flatMap encIns)] ++ [tBlk bi 23 [.int .i64 x.1, .int .i64 x.2]]) ++ [tB b4 (hd ++ (code.take k).flatMap encIns ++ putU x.1)]) := by
    simpa only [List.append_assoc] using h
   have h := h.dropMid
   simpa only [List.append_assoc] using h
 ·refine ifF (by simp; omega) ?_
  obtain rfl : k = code.length := by omega
  rw [List.take_length] at h
  exact hK b3 w7 h
theorem encSy_len {s : SY} (h : syOk s = true) (hc : s.run.code.length ≤ 2000) : (encSy s).length ≤ 40600 := by
 obtain ⟨h1, h2⟩ := syOk_iff.1 h
 have h3 := flat_len (f := encSet) (B := 130) (l := s.sets) fun l hl => by
  have := encSet_len l
  have := risesM_len (h1 l hl)
  omega
 have h4 := encRt_len (rtOk_iff.1 h2).2.1.2
 have h5 : s.sets.length = 4 := rfl
 unfold encSy
 rw [List.length_append]
 omega
set_option maxHeartbeats 8000000 in
theorem Encode_spec {w : World} {s1 s2 : Sl} {p : PG} (hs : RdS w s1 p.sys) (hr : RdR w s2 p.fns) (hok : p.Ok) {K : Sl → Int → World → Prop}
  (hyes : mayM p = true → ∀ r w', Hp [] w w' [tB r (encPg p)] → K r 0 w') (hno : mayM p = false → ∀ w', Hp [] w w' [] → K ⟨none, 0, 0⟩ 130 w') : c22 s1 s2 w K := by
 refine c22_of ?_
 unfold f22
 have hs' := hs
 have hr' := hr
 obtain ⟨ss, fs⟩ := p
 obtain ⟨xs, O1, rfl, h1⟩ := hs
 obtain ⟨ys, O2, rfl, h2⟩ := hr.thing
 have hS : ∀ x ∈ xs, x.m.Ok := fun x hx => hok.sys _ (List.mem_map_of_mem hx)
 have hF : ∀ y ∈ ys, y.r.Ok := fun y hy => hok.fns _ (List.mem_map_of_mem hy)
 have h : Hp [] w w [(tSys s1 xs).ro, (tRts s2 ys).ro] := ((Hp.init w).addRo h1 (by simp)).addRo h2 (by simp)
 have hxl := h.lenU (u := (tSys s1 xs).ro) 0 rfl sys_reads
 have hyl := h.lenU (u := (tRts s2 ys).ro) 1 rfl rts_reads
 refine h.nw fun bp w1 h => ?_
 have h : Hp [] w w1 [(tSys s1 xs).ro, (tRts s2 ys).ro, tBlk bp 37 [.slice s1.a s1.len s1.cap, .slice s2.a s2.len s2.cap]] := h
 refine h.ld0 (k := .sl) (x := s1) 2 rfl rfl ?_
 refine h.ld (n := 1) (k := .sl) (x := s2) 2 rfl rfl ?_
 have hs1 : RdS w1 s1 (xs.map SV.m) := by
  obtain ⟨O, hO⟩ := h.see (i := 0) rfl
  exact ⟨xs, O, rfl, hO⟩
 have hr1 : RdR w1 s2 (ys.map RV.r) := by
  obtain ⟨O, hO⟩ := h.see (i := 1) rfl
  exact RdR.of hO
 refine may_spec (p := ⟨xs.map SV.m, ys.map RV.r⟩) hs1 hr1 hok fun w2 g => ?_
 have h := h.r0 rfl g
 cases hm : mayM ⟨xs.map SV.m, ys.map RV.r⟩ with
 | false => exact ifT rfl (hno hm w2 (h.trim 0))
 | true =>
 have hK := hyes hm
 clear hyes hno
 refine ifF (by decide) ?_
 obtain ⟨m1, m2, m3, m4, m5⟩ := mayM_iff.1 hm
 have hsm : codeSum (PG.rts ⟨xs.map SV.m, ys.map RV.r⟩) ≤ 2000 := m5
 have hcx : ∀ x ∈ xs, x.run.code.length ≤ 2000 := fun x hx => by
  have : x.run.r ∈ PG.rts ⟨xs.map SV.m, ys.map RV.r⟩ := List.mem_append_left _ (List.mem_map.2 ⟨x.m, List.mem_map_of_mem hx, rfl⟩)
  have := mem_sum this
  have e : x.run.r.code = x.run.code := rfl
  rw [e] at this; omega
 have hcy : ∀ y ∈ ys, y.code.length ≤ 2000 := fun y hy => by
  have : y.r ∈ PG.rts ⟨xs.map SV.m, ys.map RV.r⟩ := List.mem_append_right _ (List.mem_map_of_mem hy)
  have := mem_sum this
  have e : y.r.code = y.code := rfl
  rw [e] at this; omega
 rw [List.length_map] at m1 m2
 refine h.ld0 (k := .sl) (x := s1) 2 rfl rfl ?_
 have h := h.nil 5 1 u8v
 have h : Hp [] w w2 [(tSys s1 xs).ro, (tRts s2 ys).ro, tBlk bp 37 [.slice s1.a s1.len s1.cap, .slice s2.a s2.len s2.cap], tB ⟨none, 0, 0⟩ []] := h
 refine put_spec h 3 rfl Hp.rdSl (by omega) (by omega) (by simp) fun b w3 h => ?_
 have h : Hp [] w w3 [(tSys s1 xs).ro, (tRts s2 ys).ro, tBlk bp 37 [.slice s1.a s1.len s1.cap, .slice s2.a s2.len s2.cap], tB ⟨none, 0, 0⟩ [], tB b (putU (s1.len : Int))] := h
 have h := h.selL [0, 1, 2, 4] (by decide) (ts := [(tSys s1 xs).ro, (tRts s2 ys).ro, tBlk bp 37 [.slice s1.a s1.len s1.cap, .slice s2.a s2.len s2.cap], tB b (putU (s1.len : Int))]) rfl
 refine h.ld0 (k := .sl) (x := s1) 2 rfl rfl ?_
 have hp0 := putU_len (s1.len : Int)
 have hfS : ∀ k, ((xs.take k).flatMap fun x => encSy x.m).length ≤ 40600 * 16 := fun k => by
  have := flat_len (f := fun x : SV => encSy x.m) (B := 40600) (l := xs.take k) fun x hx => encSy_len (m3 _ (List.mem_map_of_mem (List.mem_of_mem_take hx))) (hcx x (List.mem_of_mem_take hx))
  rw [List.length_take] at this
  omega
 refine ⟨fun b2 t mm w' => ∃ k : Nat, t = k ∧ k ≤ xs.length ∧ mm = xs.length - k ∧ Hp [] w w' [(tSys s1 xs).ro, (tRts s2 ys).ro, tBlk bp 37 [.slice s1.a s1.len s1.cap, .slice s2.a s2.len s2.cap], tB b2 (putU (s1.len : Int) ++ (xs.take k).flatMap fun x => encSy x.m)],
  ⟨xs.length, 0, rfl, by omega, rfl, by simpa using h⟩, ?_⟩
 clear h
 rintro b2 t mm w4 ⟨k, rfl, hk, rfl, h⟩
 by_cases hlt : k < xs.length
 ·refine ifT (by simp; omega) ?_
  have hx : xs[k]? = some xs[k] := List.getElem?_eq_getElem hlt
  have hxm : xs[k] ∈ xs := List.getElem_mem hlt
  have htk : (xs.take (k + 1)).flatMap (fun x => encSy x.m) = (xs.take k).flatMap (fun x => encSy x.m) ++ encSy xs[k].m := by rw [List.take_add_one, hx, List.flatMap_append]; simp
  generalize xs[k] = x at hx hxm htk
  have hxo := hS x hxm
  have hxk := m3 x.m (List.mem_map_of_mem hxm)
  obtain ⟨hri, hrt⟩ := syOk_iff.1 hxk
  obtain ⟨hd, hhd⟩ : ∃ hd, hd = putU (s1.len : Int) ++ (xs.take k).flatMap fun x => encSy x.m := ⟨_, rfl⟩
  have hhl : hd.length ≤ 700000 := by rw [hhd, List.length_append]; have := hfS k; omega
  have hnext : putU (s1.len : Int) ++ (xs.take (k + 1)).flatMap (fun x => encSy x.m) = hd ++ (x.m.sets.flatMap encSet ++ encRt x.run.r) := by rw [htk, hhd, ← List.append_assoc]; rfl
  rw [← hhd] at h
  clear hhd htk
  refine sys_ld h 0 rfl hx ?_
  refine sys_copy h x fun bs w6 h => ?_
  refine sets_spec h 4 rfl fun w7 h => ?_
  have h : Hp [] w w7 [(tSys s1 xs).ro, (tRts s2 ys).ro, tBlk bp 37 [.slice s1.a s1.len s1.cap, .slice s2.a s2.len s2.cap], tB b2 hd, tBlk bs 54 (syv x)] := h
  have h := h.selL [0, 1, 2, 4, 3] (by decide) (ts := [(tSys s1 xs).ro, (tRts s2 ys).ro, tBlk bp 37 [.slice s1.a s1.len s1.cap, .slice s2.a s2.len s2.cap], tBlk bs 54 (syv x), tB b2 hd]) rfl
  refine ⟨fun b3 t mm w' => ∃ j : Nat, t = j ∧ j ≤ 4 ∧ mm = 4 - j ∧ Hp [] w w' [(tSys s1 xs).ro, (tRts s2 ys).ro, tBlk bp 37 [.slice s1.a s1.len s1.cap, .slice s2.a s2.len s2.cap], tBlk bs 54 (syv x), tB b3 (hd ++ (x.m.sets.take j).flatMap encSet)], ⟨4, 0, rfl, by omega, rfl, by simpa using h⟩, ?_⟩
  clear h
  rintro b3 t mm w8 ⟨j, rfl, hj, rfl, h⟩
  have hfs : ((x.m.sets.take j).flatMap encSet).length ≤ 130 * 4 := by
   have := flat_len (f := encSet) (B := 130) (l := x.m.sets.take j) fun l hl => by
    have := encSet_len l
    have := risesM_len (hri l (List.mem_of_mem_take hl))
    omega
   rw [List.length_take] at this
   omega
  by_cases hj4 : j < 4
  ·refine ifT (by simp; omega) (sets_ix hj4 ?_)
   obtain ⟨y, y1, y2, y3, y4⟩ := sls_at (x := x) hj4
   have hyr := hri y.2 (List.mem_of_getElem? y4)
   have hy12 := risesM_len hyr
   have hyrg := risesF_rng (by decide) hyr
   have hjk : (x.m.sets.take (j + 1)).flatMap encSet = (x.m.sets.take j).flatMap encSet ++ encSet y.2 := by rw [List.take_add_one, y4, List.flatMap_append]; simp
   have hyl0 : y.2.length = y.1.len := by
    obtain ⟨O, hO⟩ := h.see (i := 0) rfl
    obtain ⟨o, hR⟩ := (sys_set hxm y2).rd hO
    exact hR.1
   rw [NN_some]
   refine h.ld (n := j) (k := .sl) (x := y.1) 3 rfl y3 ?_
   refine put_spec h 4 rfl Hp.rdSl (by omega) (by omega) (by simp only [List.length_append]; omega) fun b4 w9 h => ?_
   have h := h.selL [0, 1, 2, 3, 5] (by decide) (ts := [(tSys s1 xs).ro, (tRts s2 ys).ro, tBlk bp 37 [.slice s1.a s1.len s1.cap, .slice s2.a s2.len s2.cap], tBlk bs 54 (syv x), tB b4 (hd ++ (x.m.sets.take j).flatMap encSet ++ putU (y.1.len : Int))]) rfl
   rw [NN_some]
   refine h.ld (n := j) (k := .sl) (x := y.1) 3 rfl y3 ?_
   have hp1 := putU_len (y.1.len : Int)
   obtain ⟨hd2, hhd2⟩ : ∃ hd2, hd2 = hd ++ (x.m.sets.take j).flatMap encSet ++ putU (y.1.len : Int) := ⟨_, rfl⟩
   have hh2l : hd2.length ≤ 701000 := by rw [hhd2]; simp only [List.length_append]; omega
   have hn2 : hd ++ (x.m.sets.take (j + 1)).flatMap encSet = hd2 ++ y.2.flatMap putU := by rw [hjk, hhd2]; unfold encSet; rw [hyl0]; simp only [List.append_assoc]
   rw [← hhd2] at h
   clear hhd2 hjk
   refine ⟨fun b5 t mm w' => ∃ q : Nat, t = q ∧ q ≤ y.2.length ∧ mm = y.2.length - q ∧ Hp [] w w' [(tSys s1 xs).ro, (tRts s2 ys).ro, tBlk bp 37 [.slice s1.a s1.len s1.cap, .slice s2.a s2.len s2.cap], tBlk bs 54 (syv x), tB b5 (hd2 ++ (y.2.take q).flatMap putU)], ⟨y.2.length, 0, rfl, by omega, rfl, by simpa using h⟩, ?_⟩
   clear h
   rintro b5 t mm w10 ⟨q, rfl, hq, rfl, h⟩
   by_cases hq2 : q < y.2.length
   ·refine ifT (by simp; omega) ?_
    have hz : y.2[q]? = some y.2[q] := List.getElem?_eq_getElem hq2
    have hzm : y.2[q] ∈ y.2 := List.getElem_mem hq2
    have hqk : (y.2.take (q + 1)).flatMap putU = (y.2.take q).flatMap putU ++ putU y.2[q] := by rw [List.take_add_one, hz, List.flatMap_append]; simp
    generalize y.2[q] = z at hz hzm hqk
    have hzr := hyrg z hzm
    have hfq := flat_len (f := putU) (B := 10) (l := y.2.take q) fun x _ => putU_len x
    rw [List.length_take] at hfq
    obtain ⟨O, hO⟩ := h.see (i := 0) rfl
    obtain ⟨o, hR⟩ := (sys_set hxm y2).rd hO
    refine SlR.ix iv_len hR (by omega) (x := z) (by rw [Int.toNat_natCast]; exact hz) fun ad hc => ?_
    refine ldR0 (k := .i .i64) (x := z) (hc 0 (by omega)) rfl ?_
    refine put_spec h 4 rfl Hp.rdSl (by omega) (by omega) (by simp only [List.length_append]; omega) fun b6 w11 h => ?_
    have h := h.selL [0, 1, 2, 3, 5] (by decide) (ts := [(tSys s1 xs).ro, (tRts s2 ys).ro, tBlk bp 37 [.slice s1.a s1.len s1.cap, .slice s2.a s2.len s2.cap], tBlk bs 54 (syv x), tB b6 (hd2 ++ (y.2.take q).flatMap putU ++ putU z)]) rfl
    refine ⟨y.2.length - (q + 1), by omega, q + 1, by rw [wr64 (by omega) (by omega)]; rfl, by omega, rfl, ?_⟩
    rw [hqk, ← List.append_assoc]
    exact h
   ·refine ifF (by simp; omega) ?_
    obtain rfl : q = y.2.length := by omega
    rw [List.take_length, ← hn2] at h
    exact ⟨4 - (j + 1), by omega, j + 1, by rw [wr64 (by omega) (by omega)]; rfl, by omega, rfl, h⟩
  ·refine ifF (by simp; omega) ?_
   obtain rfl : j = 4 := by omega
   have h : Hp [] w w8 [(tSys s1 xs).ro, (tRts s2 ys).ro, tBlk bp 37 [.slice s1.a s1.len s1.cap, .slice s2.a s2.len s2.cap], tBlk bs 54 (syv x), tB b3 (hd ++ x.m.sets.flatMap encSet)] := h
   have hfs : (x.m.sets.flatMap encSet).length ≤ 130 * 4 := hfs
   refine h.ld (n := 4) (k := .s) (x := x.run.nm) 3 rfl rfl ?_
   refine h.lda (n := 4) (m := 1) (k := .i .i64) (x := x.run.pa) 3 rfl rfl ?_
   refine h.lda (n := 4) (m := 2) (k := .i .i64) (x := x.run.lo) 3 rfl rfl ?_
   refine h.lda (n := 4) (m := 3) (k := .sl) (x := x.run.sl) 3 rfl rfl ?_
   refine putRoutine_spec h 4 0 rfl Hp.rdSl rfl (sys_code hxm) hrt hxo.run (hcx x hxm) (by simp only [List.length_append]; omega) fun b7 w9 h => ?_
   have h := h.selL [0, 1, 2, 5] (by decide) (ts := [(tSys s1 xs).ro, (tRts s2 ys).ro, tBlk bp 37 [.slice s1.a s1.len s1.cap, .slice s2.a s2.len s2.cap], tB b7 (hd ++ x.m.sets.flatMap encSet ++ encRt ⟨x.run.nm, x.run.pa, x.run.lo, x.run.code⟩)]) rfl
   refine ⟨xs.length - (k + 1), by omega, k + 1, by rw [wr64 (by omega) (by omega)]; rfl, by omega, rfl, ?_⟩
   rw [hnext, ← List.append_assoc]
   exact h
 refine ifF (by simp; omega) ?_
 obtain rfl : k = xs.length := by omega
 rw [List.take_length] at h
 have hfS := hfS xs.length
 rw [List.take_length] at hfS
 refine h.ld (n := 1) (k := .sl) (x := s2) 2 rfl rfl ?_
 refine put_spec h 3 rfl Hp.rdSl (by omega) (by omega) (by simp only [List.length_append]; omega) fun b8 w5 h => ?_
 have h := h.selL [0, 1, 2, 4] (by decide) (ts := [(tSys s1 xs).ro, (tRts s2 ys).ro, tBlk bp 37 [.slice s1.a s1.len s1.cap, .slice s2.a s2.len s2.cap], tB b8 (putU (s1.len : Int) ++ xs.flatMap (fun x => encSy x.m) ++ putU (s2.len : Int))]) rfl
 have hp1 := putU_len (s2.len : Int)
 obtain ⟨hd, hhd⟩ : ∃ hd, hd = putU (s1.len : Int) ++ xs.flatMap (fun x => encSy x.m) ++ putU (s2.len : Int) := ⟨_, rfl⟩
 have hhl : hd.length ≤ 700000 := by rw [hhd]; simp only [List.length_append]; omega
 have hend : encPg ⟨xs.map SV.m, ys.map RV.r⟩ = hd ++ ys.flatMap fun y => encRt y.r := by
  rw [hhd]; unfold encPg
  simp only [List.length_map, List.flatMap_map, hxl, hyl, List.append_assoc]
 rw [← hhd] at h
 rw [hend] at hK
 clear hhd hend
 refine h.ld (n := 1) (k := .sl) (x := s2) 2 rfl rfl ?_
 refine ⟨fun b9 t mm w' => ∃ k : Nat, t = k ∧ k ≤ ys.length ∧ mm = ys.length - k ∧ Hp [] w w' [(tSys s1 xs).ro, (tRts s2 ys).ro, tBlk bp 37 [.slice s1.a s1.len s1.cap, .slice s2.a s2.len s2.cap], tB b9 (hd ++ (ys.take k).flatMap fun y => encRt y.r)],
  ⟨ys.length, 0, rfl, by omega, rfl, by simpa using h⟩, ?_⟩
 clear h
 rintro b9 t mm w6 ⟨k, rfl, hk, rfl, h⟩
 by_cases hlt2 : k < ys.length
 ·refine ifT (by simp; omega) ?_
  have hx : ys[k]? = some ys[k] := List.getElem?_eq_getElem hlt2
  have hxm : ys[k] ∈ ys := List.getElem_mem hlt2
  have htk : (ys.take (k + 1)).flatMap (fun x => encRt x.r) = (ys.take k).flatMap (fun x => encRt x.r) ++ encRt ys[k].r := by rw [List.take_add_one, hx, List.flatMap_append]; simp
  have hfl := flat_len (f := fun x : RV => encRt x.r) (B := 40060) (l := ys.take k) fun x hx => by
   have := encRt_len (rtOk_iff.1 (m4 _ (List.mem_map_of_mem (List.mem_of_mem_take hx)))).2.1.2
   have := hcy x (List.mem_of_mem_take hx)
   have e : x.r.code.length = x.code.length := rfl
   omega
  rw [List.length_take] at hfl
  generalize ys[k] = x at hx hxm htk
  refine rts_ld h 1 rfl hx ?_
  refine rt_copy h fun b w7 h => ?_
  refine h.ld0 (k := .s) (x := x.nm) 4 rfl rfl ?_
  refine h.ld (n := 1) (k := .i .i64) (x := x.pa) 4 rfl rfl ?_
  refine h.ld (n := 2) (k := .i .i64) (x := x.lo) 4 rfl rfl ?_
  refine h.ld (n := 3) (k := .sl) (x := x.sl) 4 rfl rfl ?_
  refine putRoutine_spec h 3 1 rfl Hp.rdSl rfl (rts_code hxm) (m4 _ (List.mem_map_of_mem hxm)) (hF x hxm) (hcy x hxm) (by simp only [List.length_append]; omega) fun b10 w8 h => ?_
  have h := h.selL [0, 1, 2, 5] (by decide) (ts := [(tSys s1 xs).ro, (tRts s2 ys).ro, tBlk bp 37 [.slice s1.a s1.len s1.cap, .slice s2.a s2.len s2.cap], tB b10 (hd ++ (ys.take k).flatMap (fun y => encRt y.r) ++ encRt ⟨x.nm, x.pa, x.lo, x.code⟩)]) rfl
  refine ⟨ys.length - (k + 1), by omega, k + 1, by rw [wr64 (by omega) (by omega)]; rfl, by omega, rfl, ?_⟩
  rw [htk, ← List.append_assoc]
  exact h
 refine ifF (by simp; omega) ?_
 obtain rfl : k = ys.length := by omega
 rw [List.take_length] at h
 exact hK b9 w6 (h.selL [3] (by decide) rfl)
end
abbrev DR (α : Type) := Except Nat (α × Nat)
def bnd {α β : Type} (x : DR α) (f : α → Nat → Except Nat β) : Except Nat β := match x with
 | .error e => .error e
 | .ok (a, n) => f a n
theorem bnd_ok {α β : Type} {a : α} {n : Nat} {f : α → Nat → Except Nat β} : bnd (.ok (a, n)) f = f a n := rfl
theorem bnd_err {α β : Type} {e : Nat} {f : α → Nat → Except Nat β} : bnd (.error e : DR α) f = .error e := rfl
def numD (l : List Int) (least most : Int) (at_ : Nat) : DR Int :=
 if (getU (l.drop at_)).2 = 0 ∨ (getU (l.drop at_)).1 < least ∨ most < (getU (l.drop at_)).1 then .error at_ else .ok ((getU (l.drop at_)).1, at_ + (getU (l.drop at_)).2.toNat)
def setF (l : List Int) : Nat → Int → Nat → DR (List Int)
 | 0, _, a => .ok ([], a)
 | k + 1, last, a => bnd (numD l (last + 1) 12 a) fun x a => bnd (setF l k x a) fun r a => .ok (x :: r, a)
def setD (l : List Int) (a : Nat) : DR (List Int) := bnd (numD l 0 12 a) fun n a => setF l n.toNat 0 a
def textD (l : List Int) (a : Nat) : DR ByteArray :=
 if (getT (l.drop a)).2 = 0 ∨ (getT (l.drop a)).1.length < 1 ∨ 16 < (getT (l.drop a)).1.length then .error a else .ok (strOf (getT (l.drop a)).1, a + (getT (l.drop a)).2.toNat)
def intD (l : List Int) (a : Nat) : DR Int :=
 if (getI (l.drop a)).2 = 0 then .error a else .ok ((getI (l.drop a)).1, a + (getI (l.drop a)).2.toNat)
def insD (l : List Int) (a : Nat) : DR Ins := bnd (numD l 1 39 a) fun op a => if (row op).num = true then bnd (intD l a) fun x a => .ok ((op, x), a) else .ok ((op, 0), a)
def codeF (l : List Int) : Nat → Nat → DR (List Ins)
 | 0, a => .ok ([], a)
 | k + 1, a => bnd (insD l a) fun x a => bnd (codeF l k a) fun r a => .ok (x :: r, a)
def rtD (l : List Int) (left : Int) (a : Nat) : DR (RT × Int) :=
 bnd (textD l a) fun nm a => bnd (numD l 0 4 a) fun pa a => bnd (numD l pa 32 a) fun lo a => bnd (numD l 0 left a) fun n a => bnd (codeF l n.toNat a) fun code a => .ok ((⟨nm, pa, lo, code⟩, left - n), a)
def setsF (l : List Int) : Nat → Nat → DR (List (List Int))
 | 0, a => .ok ([], a)
 | k + 1, a => bnd (setD l a) fun x a => bnd (setsF l k a) fun r a => .ok (x :: r, a)
def syOf (x : List (List Int)) (r : RT) : SY := ⟨x.getD 0 [], x.getD 1 [], x.getD 2 [], x.getD 3 [], r⟩
def sysF (l : List Int) : Nat → Int → Nat → DR (List SY × Int)
 | 0, left, a => .ok (([], left), a)
 | k + 1, left, a => bnd (setsF l 4 a) fun x a => bnd (rtD l left a) fun r a => bnd (sysF l k r.2 a) fun t a => .ok ((syOf x r.1 :: t.1, t.2), a)
def fnsF (l : List Int) : Nat → Int → Nat → DR (List RT × Int)
 | 0, left, a => .ok (([], left), a)
 | k + 1, left, a => bnd (rtD l left a) fun r a => bnd (fnsF l k r.2 a) fun t a => .ok ((r.1 :: t.1, t.2), a)
def pgD (l : List Int) : Except Nat PG :=
 bnd (numD l 0 16 0) fun n a => bnd (sysF l n.toNat 2000 a) fun s a => bnd (numD l 0 16 a) fun m a => bnd (fnsF l m.toNat s.2 a) fun f a => if a < l.length then .error a else .ok ⟨s.1, f.1⟩
theorem numD_ok {l : List Int} {least most x : Int} {a a' : Nat} (hb : Bytes l) (h : numD l least most a = .ok (x, a')) : least ≤ x ∧ x ≤ most ∧ 0 ≤ x ∧ a < a' ∧ a' ≤ l.length ∧ x = (getU (l.drop a)).1 ∧ a' = a + (getU (l.drop a)).2.toNat ∧ (getU (l.drop a)).2 ≠ 0 := by
 unfold numD at h
 split at h
 ·cases h
 ·rename_i hn
  simp only [Except.ok.injEq, Prod.mk.injEq] at h
  obtain ⟨r1, r2, r3, r4, r5, r6⟩ := getU_range (l := l.drop a) (fun x hx => hb x (List.mem_of_mem_drop hx))
  rw [List.length_drop] at r4
  refine ⟨by omega, by omega, by omega, by omega, by omega, h.1.symm, h.2.symm, by omega⟩
theorem textD_ok {l : List Int} {s : ByteArray} {a a' : Nat} (hb : Bytes l) (h : textD l a = .ok (s, a')) : a < a' ∧ a' ≤ l.length ∧ 1 ≤ s.size ∧ s.size ≤ 16 := by
 unfold textD at h
 split at h
 ·cases h
 ·rename_i hn
  simp only [Except.ok.injEq, Prod.mk.injEq] at h
  have hbd : Bytes (l.drop a) := fun x hx => hb x (List.mem_of_mem_drop hx)
  have hbt := getT_bytes hbd
  have hs : s.size = (getT (l.drop a)).1.length := by rw [← h.1, ← strL_len, strL_of hbt]
  obtain ⟨r1, r2, r3, r4, r5, r6⟩ := getU_range hbd
  rw [List.length_drop] at r4
  have h2 := h.2
  unfold getT at hn h2 hs
  split at hn
  ·simp at hn
  ·rename_i hq
   rw [if_neg hq] at h2 hs
   rw [List.length_drop] at hq
   dsimp only at hn h2 hs
   omega
theorem intD_ok {l : List Int} {x : Int} {a a' : Nat} (hb : Bytes l) (h : intD l a = .ok (x, a')) : a < a' ∧ a' ≤ l.length ∧ -9223372036854775808 ≤ x ∧ x ≤ 9223372036854775807 := by
 unfold intD at h
 split at h
 ·cases h
 ·rename_i hn
  simp only [Except.ok.injEq, Prod.mk.injEq] at h
  obtain ⟨r1, r2, r3, r4, r5, r6⟩ := getU_range (l := l.drop a) (fun x hx => hb x (List.mem_of_mem_drop hx))
  rw [List.length_drop] at r4
  unfold getI at hn h
  dsimp only at hn h
  have := zag_range r1 r2
  rw [h.1] at this
  refine ⟨by omega, by omega, this.1, this.2⟩
abbrev rdr (rb : Nat) (b : Sl) (a : Nat) (left : Int) : Thing := tBlk rb 84 [.slice b.a b.len b.cap, .int .i64 a, .int .i64 left]
abbrev tFault (fb : Nat) (e : Nat) : Thing := tBlk fb 89 [.int .i64 e, .int .i64 130]
abbrev flt (fb : Nat) : List PanicEntry := [{ v := .iface 86 (.pointer (some ⟨fb, 0, none⟩)), recovered := false }]
theorem inf3 : ∃ inf : TypeInfo, Tryz.prog.info? 3 = some inf ∧ inf.zero = some (.int .i64 0) ∧ inf.size = 1 ∧ inf.bytes = 8 := infoP (by kernel_rfl)
theorem und52 : Tryz.prog.underlying 52 = some (.slice 3) := by kernel_rfl
theorem und28 : Tryz.prog.underlying 28 = some (.slice 23) := by kernel_rfl
theorem inf23 : ∃ inf : TypeInfo, Tryz.prog.info? 23 = some inf ∧ inf.zero = some (.agg #[.int .i64 0, .int .i64 0]) ∧ inf.size = 2 ∧ inf.bytes = 16 := infoP (by kernel_rfl)
structure Src (ub : Thing) (b : Sl) (l : List Int) : Prop where
 rd : Hp.Reads ub b 1 u8v l
 by_ : Bytes l
 len : l.length ≤ 140737488355328
 sl : l.length = b.len
 cap : b.len ≤ b.cap
theorem Src.cut {ub : Thing} {b : Sl} {l : List Int} (h : Src ub b l) {a : Nat} (ha : a ≤ l.length) {K : Sl → Prop} (hK : ∀ s, Hp.Reads ub s 1 u8v (l.drop a) → Bytes (l.drop a) → s.len ≤ s.cap → (l.drop a).length ≤ 9000000000000000 → K s) : Cut b (a : Int) (b.len : Int) (b.cap : Int) 1 K := by
 have h1 := h.sl
 have h2 := h.cap
 have h3 := h.len
 refine Hp.cutv h.rd h.sl u8v_len (by omega) (by omega) (by omega) (by omega) (by omega) fun s hs q1 q2 => ?_
 simp only [Int.toNat_natCast] at hs q1 q2
 rw [List.take_of_length_le (by omega)] at hs
 exact hK s hs (fun x hx => h.by_ x (List.mem_of_mem_drop hx)) (by omega) (by rw [List.length_drop]; omega)
section
variable {S : List Nat} {w0 w : World} {its rest : List Thing}
theorem wrong_spec (h : Hp S w0 w its) {e : Nat} {R : World → Prop} {E : List PanicEntry → World → Prop} (hE : ∀ fb w', Hp S w0 w' (its ++ [tFault fb e]) → E (flt fb) w') : c71 (e : Int) w R E := by
 refine c71_of ?_
 unfold f71
 exact h.nw fun fb w1 h => hE fb w1 h
theorem number_spec {rb : Nat} {b : Sl} {a : Nat} {left : Int} {ub : Thing} {l : List Int} (h : Hp S w0 w (rdr rb b a left :: ub :: rest)) (hs : Src ub b l) (ha : a ≤ l.length) {least most : Int} (hl0 : 0 ≤ least) (hl1 : least ≤ 9000000000000000000) (hm0 : 0 ≤ most) (hm1 : most ≤ 9000000000000000000)
  {R : Int → World → Prop} {E : List PanicEntry → World → Prop}
  (hok : ∀ x a', numD l least most a = .ok (x, a') → ∀ w', Hp S w0 w' (rdr rb b a' left :: ub :: rest) → R x w')
  (herr : ∀ e, numD l least most a = .error e → ∀ fb c w', Hp S w0 w' (tBlk rb 84 c :: ub :: rest ++ [tFault fb e]) → E (flt fb) w') : c68 (some ⟨rb, 0, none⟩) least most w R E := by
 refine c68_of ?_
 unfold f68
 refine h.dr fun w1 h => ?_
 rw [NN_some]
 refine h.ld0 (k := .sl) (x := b) 0 rfl rfl ?_
 rw [NN_some]
 refine h.ld (n := 1) (k := .i .i64) (x := a) 0 rfl rfl ?_
 refine hs.cut ha fun s q1 q2 q3 q4 => ?_
 refine Get_spec h 1 (u := ub) rfl q1 q2 q4 ?_
 have hg := getU_range q2
 rw [List.length_drop] at hg
 have hln := hs.len
 have e1 : IntKind.u64.wrap least = least := by rw [w64]; omega
 have e2 : IntKind.u64.wrap most = most := by rw [w64]; omega
 rw [e1, e2]
 by_cases hc : (getU (l.drop a)).2 = 0 ∨ (getU (l.drop a)).1 < least ∨ most < (getU (l.drop a)).1
 ·have hn : numD l least most a = .error a := by unfold numD; rw [if_pos hc]
  refine ⟨fun _ => False, ?_, fun _ hf => hf.elim⟩
  refine ifT ?_ ?_
  ·rcases hc with hc | hc | hc
   ·rw [hc]; rfl
   ·by_cases h0 : (getU (l.drop a)).2 = 0
    ·rw [h0]; rfl
    ·simp [h0, hc]
   ·simp; omega
  ·rw [NN_some]
   refine h.ld (n := 1) (k := .i .i64) (x := a) 0 rfl rfl ?_
   exact wrong_spec h fun fb w2 h => herr a hn fb _ w2 h
 ·have hn : numD l least most a = .ok ((getU (l.drop a)).1, a + (getU (l.drop a)).2.toNat) := by unfold numD; rw [if_neg hc]
  refine ⟨fun w' => w' = w1, ?_, ?_⟩
  ·exact ifF (by simp; omega) rfl
  rintro w2 rfl
  rw [NN_some]
  refine h.ld (n := 1) (k := .i .i64) (x := a) 0 rfl rfl ?_
  rw [NN_some]
  refine h.st (n := 1) 0 rfl (by simp) rfl fun w3 h => ?_
  have e3 : IntKind.i64.wrap (getU (l.drop a)).1 = (getU (l.drop a)).1 := wr64 (by omega) (by omega)
  rw [e3]
  refine hok _ _ hn w3 ?_
  have e4 : IntKind.i64.wrap ((a : Int) + (getU (l.drop a)).2) = ((a + (getU (l.drop a)).2.toNat : Nat) : Int) := by rw [wr64 (by omega) (by omega)]; omega
  rw [e4] at h
  exact h
theorem set_spec {rb : Nat} {b : Sl} {a : Nat} {left : Int} {ub : Thing} {l : List Int} (h : Hp S w0 w (rdr rb b a left :: ub :: rest)) (hs : Src ub b l) (ha : a ≤ l.length)
  {R : Sl → World → Prop} {E : List PanicEntry → World → Prop}
  (hok : ∀ x a', setD l a = .ok (x, a') → a' ≤ l.length → ∀ s w', Hp S w0 w' (rdr rb b a' left :: ub :: rest ++ [tSl s 3 1 iv x]) → R s w')
  (herr : ∀ e, setD l a = .error e → ∀ fb c w', Hp S w0 w' (tBlk rb 84 c :: ub :: rest ++ [tFault fb e]) → E (flt fb) w') : c69 (some ⟨rb, 0, none⟩) w R E := by
 refine c69_of ?_
 unfold f69
 obtain ⟨inf, i1, i2, i3, i4⟩ := inf3
 unfold setD at hok herr
 refine number_spec h hs ha (by decide) (by decide) (by decide) (by decide) (fun n a1 hn w1 h => ?_) (fun e he fb c w1 h => herr e (by rw [he, bnd_err]) fb c w1 h)
 rw [hn, bnd_ok] at hok herr
 obtain ⟨n1, n2, n3, n4, n5, _⟩ := numD_ok hs.by_ hn
 have h := h.nil 3 1 iv
 refine ⟨fun out last t mm w' => ∃ (k a2 : Nat) (o : List Int), t = k ∧ k ≤ 12 ∧ mm = k ∧ o.length + k = n.toNat ∧ a2 ≤ l.length ∧ 0 ≤ last ∧ last ≤ 12 ∧ setF l n.toNat 0 a1 = bnd (setF l k last a2) (fun r a => .ok (o ++ r, a)) ∧ Hp S w0 w' (rdr rb b a2 left :: ub :: rest ++ [tSl out 3 1 iv o]),
  ⟨n.toNat, n.toNat, a1, [], by omega, by omega, rfl, by simp, n5, by decide, by decide, ?_, h⟩, ?_⟩
 ·cases setF l n.toNat 0 a1 with
  | error e => rfl
  | ok x => rfl
 clear h
 rintro out last t k w2 ⟨_, a2, o, rfl, hk, rfl, hok2, ha2, hl0, hl1, hF, h⟩
 rw [hF] at hok herr
 by_cases h0 : k = 0
 ·subst h0
  refine ifF (by simp) (hok o a2 ?_ ha2 out w2 h)
  show bnd (.ok ([], a2)) _ = _
  simp [bnd]
 ·obtain ⟨q, rfl⟩ : ∃ q, k = q + 1 := ⟨k - 1, by omega⟩
  refine ifT (by simp) ?_
  have e1 : IntKind.i64.wrap (last + 1) = last + 1 := wr64 (by omega) (by omega)
  rw [e1]
  have h : Hp S w0 w2 (rdr rb b a2 left :: ub :: (rest ++ [tSl out 3 1 iv o])) := h
  refine number_spec h hs ha2 (by omega) (by omega) (by decide) (by decide) (fun x a3 hx w3 h => ?_) (fun e he fb c w3 h => ?_)
  ·obtain ⟨x1, x2, x3, x4, x5, _⟩ := numD_ok hs.by_ hx
   have h : Hp S w0 w3 ((rdr rb b a3 left :: ub :: rest) ++ [tSl out 3 1 iv o]) := h
   have hol := h.len (s := out) (e := 3) (n := 1) (f := iv) (l := o) (rdr rb b a3 left :: ub :: rest).length (by rw [List.getElem?_concat_length]; rfl)
   refine h.nwapp (c := [_]) (rdr rb b a3 left :: ub :: rest).length x List.getElem?_concat_length iv_len und52 i1 i3 i2 rfl rfl (by simp [Value.oneCell']) (by rw [i4]; omega) (by omega) fun s2 w4 h _ _ => ?_
   rw [set_last] at h
   refine ⟨q, by omega, q, a3, o ++ [x], ?_, by omega, rfl, by simp; omega, x5, by omega, by omega, ?_, h⟩
   ·rw [wr64 (by omega) (by omega)]; omega
   ·rw [hF]
    show bnd (bnd (numD l (last + 1) 12 a2) _) _ = _
    rw [hx, bnd_ok]
    cases setF l q x a3 with
    | error e => rfl
    | ok r => simp [bnd]
  ·refine herr e ?_ fb c w3 ?_
   ·show bnd (bnd (numD l (last + 1) 12 a2) _) _ = _
    rw [he]; rfl
   ·have h : Hp S w0 w3 ((tBlk rb 84 c :: ub :: rest) ++ [tSl out 3 1 iv o] ++ [tFault fb e]) := by simpa using h
    exact h.dropMid
end
section
variable {S : List Nat} {w0 w : World} {its rest : List Thing}
theorem midst {rb fb e : Nat} {c : List Value} {ub : Thing} {X : List Thing} (h : Hp S w0 w (tBlk rb 84 c :: ub :: (rest ++ X) ++ [tFault fb e])) : Hp S w0 w (tBlk rb 84 c :: ub :: rest ++ [tFault fb e]) := by
 have h : Hp S w0 w ((tBlk rb 84 c :: ub :: rest) ++ X ++ [tFault fb e]) := by simpa using h
 exact h.dropMid
theorem strOf_size {l : List Int} (h : Bytes l) : (strOf l).size = l.length := by rw [← strL_len, strL_of h]
theorem routine_spec {rb : Nat} {b : Sl} {a : Nat} {left : Int} {ub : Thing} {l : List Int} (h : Hp S w0 w (rdr rb b a left :: ub :: rest)) (hs : Src ub b l) (ha : a ≤ l.length) (hl0 : 0 ≤ left) (hl1 : left ≤ 2000)
  {R : ByteArray → Int → Int → Sl → World → Prop} {E : List PanicEntry → World → Prop}
  (hok : ∀ r left' a', rtD l left a = .ok ((r, left'), a') → a' ≤ l.length → 0 ≤ left' → left' ≤ 2000 → ∀ sl w', Hp S w0 w' (rdr rb b a' left' :: ub :: rest ++ [tSl sl 23 2 insv r.code]) → R r.nm r.pa r.lo sl w')
  (herr : ∀ e, rtD l left a = .error e → ∀ fb c w', Hp S w0 w' (tBlk rb 84 c :: ub :: rest ++ [tFault fb e]) → E (flt fb) w') : c70 (some ⟨rb, 0, none⟩) w R E := by
 refine c70_of ?_
 unfold f70
 obtain ⟨inf, i1, i2, i3, i4⟩ := inf23
 have hln := hs.len
 unfold rtD at hok herr
 refine h.nw fun A w1 h => ?_
 have h : Hp S w0 w1 (rdr rb b a left :: ub :: (rest ++ [tBlk A 30 [.string (⟨#[]⟩ : ByteArray), .int .i64 0, .int .i64 0, .slice none 0 0]])) := h
 refine h.dr fun w1 h => ?_
 rw [NN_some]
 refine h.ld0 (k := .sl) (x := b) 0 rfl rfl ?_
 rw [NN_some]
 refine h.ld (n := 1) (k := .i .i64) (x := a) 0 rfl rfl ?_
 refine hs.cut ha fun s q1 q2 q3 q4 => ?_
 refine GetText_spec h 1 (u := ub) rfl q1 q2 q4 q3 ?_
 have htb := getT_bytes q2
 have hts := strOf_size htb
 refine ⟨fun w' => w' = w1 ∧ textD l a = .ok (strOf (getT (l.drop a)).1, a + (getT (l.drop a)).2.toNat) ∧ 0 ≤ (getT (l.drop a)).2 ∧ (getT (l.drop a)).2 ≤ 9000000000000000, ?_, ?_⟩
 ·by_cases hc : (getT (l.drop a)).2 = 0 ∨ (getT (l.drop a)).1.length < 1 ∨ 16 < (getT (l.drop a)).1.length
  ·have ht : textD l a = .error a := by unfold textD; rw [if_pos hc]
   refine ifT ?_ ?_
   ·rw [hts]
    rcases hc with hc | hc | hc
    ·rw [hc]; rfl
    ·have : ((getT (l.drop a)).1.length : Int) < 1 := by omega
     simp [this]
    ·have : ((getT (l.drop a)).1.length : Int) > 16 := by omega
     simp [this]
   rw [NN_some]
   refine h.ld (n := 1) (k := .i .i64) (x := a) 0 rfl rfl ?_
   exact wrong_spec h fun fb w2 h => herr a (by rw [ht]; rfl) fb _ w2 (midst h)
  ·have ht : textD l a = .ok (strOf (getT (l.drop a)).1, a + (getT (l.drop a)).2.toNat) := by unfold textD; rw [if_neg hc]
   refine ifF ?_ ⟨rfl, ht, ?_⟩
   ·rw [hts]
    have g1 : ¬ ((getT (l.drop a)).1.length : Int) < 1 := by omega
    have g2 : ¬ ((getT (l.drop a)).1.length : Int) > 16 := by omega
    have g3 : ¬ (getT (l.drop a)).2 = 0 := by omega
    have g4 : ¬ ((getT (l.drop a)).1 = []) := by intro e; rw [e] at hc; simp at hc
    simp [g1, g2, g3, g4]
   ·obtain ⟨r1, r2, r3, r4, _⟩ := getU_range q2
    rw [List.length_drop] at r4
    unfold getT
    split
    ·simp
    ·rename_i hq
     rw [List.length_drop] at hq
     dsimp only
     omega
 rintro _ ⟨rfl, ht, ht0, ht9⟩
 obtain ⟨t1, t2, t3, t4⟩ := textD_ok hs.by_ ht
 rw [ht, bnd_ok] at hok herr
 rw [NN_some]
 refine h.ld (n := 1) (k := .i .i64) (x := a) 0 rfl rfl ?_
 rw [NN_some]
 refine h.st (n := 1) 0 rfl (by simp) rfl fun w3 h => ?_
 have e4 : IntKind.i64.wrap ((a : Int) + (getT (l.drop a)).2) = ((a + (getT (l.drop a)).2.toNat : Nat) : Int) := by rw [wr64 (by omega) (by omega)]; omega
 rw [e4] at h
 generalize ha1 : a + (getT (l.drop a)).2.toNat = a1 at *
 generalize hnm : strOf (getT (l.drop a)).1 = nm at *
 have h : Hp S w0 w3 (rdr rb b a1 left :: ub :: (rest ++ [tBlk A 30 [.string (⟨#[]⟩ : ByteArray), .int .i64 0, .int .i64 0, .slice none 0 0]])) := h
 refine number_spec h hs t2 (by decide) (by decide) (by decide) (by decide) (fun pa a2 hpa w4 h => ?_) (fun e he fb c w4 h => herr e (by rw [he]; rfl) fb c w4 (midst h))
 rw [hpa, bnd_ok] at hok herr
 obtain ⟨p1, p2, p3, p4, p5, _⟩ := numD_ok hs.by_ hpa
 refine rt_copy h (sl := ⟨none, 0, 0⟩) fun O w5 h => ?_
 have h : Hp S w0 w5 ((rdr rb b a2 left :: ub :: (rest ++ [tBlk A 30 [.string (⟨#[]⟩ : ByteArray), .int .i64 0, .int .i64 0, .slice none 0 0]])) ++ [tBlk O 30 [.string nm, .int .i64 pa, .int .i64 0, .slice none 0 0]]) := h
 refine h.ld (n := 1) (k := .i .i64) (x := pa) _ (by rw [List.getElem?_concat_length]; rfl) rfl ?_
 have h : Hp S w0 w5 (rdr rb b a2 left :: ub :: ((rest ++ [tBlk A 30 [.string (⟨#[]⟩ : ByteArray), .int .i64 0, .int .i64 0, .slice none 0 0]]) ++ [tBlk O 30 [.string nm, .int .i64 pa, .int .i64 0, .slice none 0 0]])) := h
 refine number_spec h hs p5 (by omega) (by omega) (by decide) (by decide) (fun lo a3 hlo w6 h => ?_) (fun e he fb c w6 h => herr e (by rw [he]; rfl) fb c w6 (midst (midst h)))
 rw [hlo, bnd_ok] at hok herr
 obtain ⟨_, _, _, u4, u5, _⟩ := numD_ok hs.by_ hlo
 have h : Hp S w0 w6 ((rdr rb b a3 left :: ub :: (rest ++ [tBlk A 30 [.string (⟨#[]⟩ : ByteArray), .int .i64 0, .int .i64 0, .slice none 0 0]])) ++ [tBlk O 30 [.string nm, .int .i64 pa, .int .i64 0, .slice none 0 0]]) := h
 refine h.st (n := 2) _ List.getElem?_concat_length (by simp) rfl fun w7 h => ?_
 rw [set_last] at h
 rw [NN_some]
 refine h.ld (n := 2) (k := .i .i64) (x := left) 0 rfl rfl ?_
 have h : Hp S w0 w7 (rdr rb b a3 left :: ub :: ((rest ++ [tBlk A 30 [.string (⟨#[]⟩ : ByteArray), .int .i64 0, .int .i64 0, .slice none 0 0]]) ++ [tBlk O 30 [.string nm, .int .i64 pa, .int .i64 lo, .slice none 0 0]])) := h
 refine number_spec h hs u5 (by decide) (by decide) hl0 (by omega) (fun n a4 hn w8 h => ?_) (fun e he fb c w8 h => herr e (by rw [he]; rfl) fb c w8 (midst (midst h)))
 rw [hn, bnd_ok] at hok herr
 obtain ⟨v1, v2, v3, v4, v5, _⟩ := numD_ok hs.by_ hn
 rw [NN_some]
 refine h.ld (n := 2) (k := .i .i64) (x := left) 0 rfl rfl ?_
 rw [NN_some]
 refine h.st (n := 2) 0 rfl (by simp) rfl fun w9 h => ?_
 have e5 : IntKind.i64.wrap (left - n) = left - n := wr64 (by omega) (by omega)
 rw [e5] at h
 have h := h.nil 23 2 insv
 have h : Hp S w0 w9 (rdr rb b a4 (left - n) :: ub :: (rest ++ [tBlk A 30 [.string (⟨#[]⟩ : ByteArray), .int .i64 0, .int .i64 0, .slice none 0 0]]) ++ [tBlk O 30 [.string nm, .int .i64 pa, .int .i64 lo, .slice none 0 0]] ++ [tSl ⟨none, 0, 0⟩ 23 2 insv []]) := h
 refine ⟨fun t m w' => ∃ (k a' : Nat) (o : List Ins) (sl : Sl), t = k ∧ k ≤ n.toNat ∧ m = n.toNat - k ∧ o.length = k ∧ a' ≤ l.length ∧ codeF l n.toNat a4 = bnd (codeF l (n.toNat - k) a') (fun r a => .ok (o ++ r, a)) ∧
   Hp S w0 w' (rdr rb b a' (left - n) :: ub :: (rest ++ [tBlk A 30 [.string (⟨#[]⟩ : ByteArray), .int .i64 0, .int .i64 0, .slice none 0 0]]) ++ [tBlk O 30 [.string nm, .int .i64 pa, .int .i64 lo, .slice sl.a sl.len sl.cap]] ++ [tSl sl 23 2 insv o]),
  ⟨_, 0, a4, [], ⟨none, 0, 0⟩, rfl, by omega, rfl, rfl, v5, ?_, h⟩, ?_⟩
 ·rw [Nat.sub_zero]
  cases codeF l n.toNat a4 with
  | error e => rfl
  | ok x => rfl
 clear h
 rintro t m w2 ⟨k, a', o, sl, rfl, hk, rfl, hol, ha', hF, h⟩
 rw [hF] at hok herr
 by_cases hend : k = n.toNat
 ·refine ifF (by simp; omega) ?_
  have hz : n.toNat - k = 0 := by omega
  rw [hz] at hok herr
  have hget : ∀ {w' : World} {c c2 : List Value}, Hp S w0 w' (rdr rb b a' (left - n) :: ub :: rest ++ [tBlk A 30 c2] ++ [tBlk O 30 c] ++ [tSl sl 23 2 insv o]) → Hp S w0 w' (rdr rb b a' (left - n) :: ub :: rest ++ [tSl sl 23 2 insv o]) := fun {w' c c2} h => by
   have h : Hp S w0 w' ((rdr rb b a' (left - n) :: ub :: rest) ++ ([tBlk A 30 c2] ++ [tBlk O 30 c]) ++ [tSl sl 23 2 insv o]) := by simpa using h
   exact h.dropMid
  have hO : ((rdr rb b a' (left - n) :: ub :: (rest ++ [tBlk A 30 [.string (⟨#[]⟩ : ByteArray), .int .i64 0, .int .i64 0, .slice none 0 0]]) ++ [tBlk O 30 [.string nm, .int .i64 pa, .int .i64 lo, .slice sl.a sl.len sl.cap]] ++ [tSl sl 23 2 insv o])[(rdr rb b a' (left - n) :: ub :: (rest ++ [tBlk A 30 [.string (⟨#[]⟩ : ByteArray), .int .i64 0, .int .i64 0, .slice none 0 0]])).length]?) = some (tBlk O 30 [.string nm, .int .i64 pa, .int .i64 lo, .slice sl.a sl.len sl.cap]) := mid1
  refine h.ld0 (k := .s) (x := nm) _ (by rw [hO]; rfl) rfl ?_
  refine h.ld (n := 1) (k := .i .i64) (x := pa) _ (by rw [hO]; rfl) rfl ?_
  refine h.ld (n := 2) (k := .i .i64) (x := lo) _ (by rw [hO]; rfl) rfl ?_
  refine h.ld (n := 3) (k := .sl) (x := sl) _ (by rw [hO]; rfl) rfl ?_
  have h : Hp S w0 w2 ((rdr rb b a' (left - n) :: ub :: rest) ++ [tBlk A 30 [.string (⟨#[]⟩ : ByteArray), .int .i64 0, .int .i64 0, .slice none 0 0]] ++ ([tBlk O 30 [.string nm, .int .i64 pa, .int .i64 lo, .slice sl.a sl.len sl.cap]] ++ [tSl sl 23 2 insv o])) := by simpa using h
  have step : ∀ {w' : World} {c c' : List Value} {v : Value} {q : Nat}, c.set q v = c' → ((rdr rb b a' (left - n) :: ub :: rest) ++ [tBlk A 30 c] ++ ([tBlk O 30 [.string nm, .int .i64 pa, .int .i64 lo, .slice sl.a sl.len sl.cap]] ++ [tSl sl 23 2 insv o])).set (rdr rb b a' (left - n) :: ub :: rest).length (tBlk A 30 (c.set q v)) = (rdr rb b a' (left - n) :: ub :: rest) ++ [tBlk A 30 c'] ++ ([tBlk O 30 [.string nm, .int .i64 pa, .int .i64 lo, .slice sl.a sl.len sl.cap]] ++ [tSl sl 23 2 insv o]) := fun {w' c c' v q} e => by
   rw [e, List.set_append_left _ _ (by simp), set_last]
  refine h.st0 _ mid1 (by simp) rfl fun w2 h => ?_
  rw [step (w' := w2) (c' := [.string nm, .int .i64 0, .int .i64 0, .slice none 0 0]) rfl] at h
  refine h.st (n := 1) _ mid1 (by simp) rfl fun w2 h => ?_
  rw [step (w' := w2) (c' := [.string nm, .int .i64 pa, .int .i64 0, .slice none 0 0]) rfl] at h
  refine h.st (n := 2) _ mid1 (by simp) rfl fun w2 h => ?_
  rw [step (w' := w2) (c' := [.string nm, .int .i64 pa, .int .i64 lo, .slice none 0 0]) rfl] at h
  refine h.st (n := 3) _ mid1 (by simp) rfl fun w2 h => ?_
  rw [step (w' := w2) (c' := [.string nm, .int .i64 pa, .int .i64 lo, .slice sl.a sl.len sl.cap]) rfl] at h
  refine h.ld0 (k := .s) (x := nm) _ (by rw [mid1]; rfl) rfl ?_
  refine h.ld (n := 1) (k := .i .i64) (x := pa) _ (by rw [mid1]; rfl) rfl ?_
  refine h.ld (n := 2) (k := .i .i64) (x := lo) _ (by rw [mid1]; rfl) rfl ?_
  refine h.ld (n := 3) (k := .sl) (x := sl) _ (by rw [mid1]; rfl) rfl ?_
  refine hok ⟨nm, pa, lo, o⟩ (left - n) a' ?_ ha' (by omega) (by omega) sl w2 (hget (by simpa using h))
  show bnd (bnd (.ok ([], a')) _) _ = _
  simp [bnd]
 ·obtain ⟨q, hq⟩ : ∃ q, n.toNat - k = q + 1 := ⟨n.toNat - k - 1, by omega⟩
  rw [hq] at hok herr
  refine ifT (by simp; omega) ?_
  have h : Hp S w0 w2 (rdr rb b a' (left - n) :: ub :: (rest ++ [tBlk A 30 [.string (⟨#[]⟩ : ByteArray), .int .i64 0, .int .i64 0, .slice none 0 0]] ++ [tBlk O 30 [.string nm, .int .i64 pa, .int .i64 lo, .slice sl.a sl.len sl.cap]] ++ [tSl sl 23 2 insv o])) := by simpa using h
  have herr2 : ∀ e, insD l a' = .error e → ∀ fb c w', Hp S w0 w' (tBlk rb 84 c :: ub :: rest ++ [tFault fb e]) → E (flt fb) w' := fun e he => herr e (by
   show bnd (bnd (bnd (insD l a') _) _) _ = _
   rw [he]; rfl)
  refine number_spec h hs ha' (by decide) (by decide) (by decide) (by decide) (fun op a5 hop w3 h => ?_) (fun e he fb c w3 h => herr2 e (by unfold insD; rw [he]; rfl) fb c w3 (midst (midst (midst h))))
  obtain ⟨o1, o2, o3, o4, o5, _⟩ := numD_ok hs.by_ hop
  have h : Hp S w0 w3 ((rdr rb b a5 (left - n) :: ub :: (rest ++ [tBlk A 30 [.string (⟨#[]⟩ : ByteArray), .int .i64 0, .int .i64 0, .slice none 0 0]] ++ [tBlk O 30 [.string nm, .int .i64 pa, .int .i64 lo, .slice sl.a sl.len sl.cap]] ++ [tSl sl 23 2 insv o]))) := h
  refine ins_copy h (x := (op, 0)) fun I w4 h => ?_
  refine ⟨fun w' => ∃ v a6, insD l a' = .ok ((op, v), a6) ∧ a6 ≤ l.length ∧ Hp S w0 w' ((rdr rb b a6 (left - n) :: ub :: (rest ++ [tBlk A 30 [.string (⟨#[]⟩ : ByteArray), .int .i64 0, .int .i64 0, .slice none 0 0]] ++ [tBlk O 30 [.string nm, .int .i64 pa, .int .i64 lo, .slice sl.a sl.len sl.cap]] ++ [tSl sl 23 2 insv o])) ++ [tBlk I 23 [.int .i64 op, .int .i64 v]]), ?_, ?_⟩
  ·refine h.ld0 (k := .i .i64) (x := op) _ (by rw [List.getElem?_concat_length]; rfl) rfl ?_
   refine shape_spec h fun w5 h => ?_
   by_cases hnum : (row op).num = true
   ·refine ifT hnum ?_
    have hin : insD l a' = bnd (intD l a5) fun x a => .ok ((op, x), a) := by unfold insD; rw [hop, bnd_ok, if_pos hnum]
    refine h.dr fun w5 h => ?_
    rw [NN_some]
    refine h.ld0 (k := .sl) (x := b) 0 rfl rfl ?_
    rw [NN_some]
    refine h.ld (n := 1) (k := .i .i64) (x := a5) 0 rfl rfl ?_
    refine hs.cut o5 fun s q1 q2 q3 q4 => ?_
    refine GetInt_spec h 1 (u := ub) rfl q1 q2 q4 ?_
    obtain ⟨r1, r2, r3, r4, r5, _⟩ := getU_range q2
    rw [List.length_drop] at r4
    have hg2 : (getI (l.drop a5)).2 = (getU (l.drop a5)).2 := rfl
    refine ⟨fun w' => w' = w5 ∧ intD l a5 = .ok ((getI (l.drop a5)).1, a5 + (getI (l.drop a5)).2.toNat), ?_, ?_⟩
    ·by_cases hc : (getI (l.drop a5)).2 = 0
     ·have hi : intD l a5 = .error a5 := by unfold intD; rw [if_pos hc]
      refine ifT (by simp [hc]) ?_
      rw [NN_some]
      refine h.ld (n := 1) (k := .i .i64) (x := a5) 0 rfl rfl ?_
      refine wrong_spec h fun fb w6 h => herr2 a5 (by rw [hin, hi]; rfl) fb [.slice b.a b.len b.cap, .int .i64 a5, .int .i64 (left - n)] w6 ?_
      have h : Hp S w0 w6 (tBlk rb 84 [.slice b.a b.len b.cap, .int .i64 a5, .int .i64 (left - n)] :: ub :: (rest ++ ([tBlk A 30 [.string (⟨#[]⟩ : ByteArray), .int .i64 0, .int .i64 0, .slice none 0 0]] ++ [tBlk O 30 [.string nm, .int .i64 pa, .int .i64 lo, .slice sl.a sl.len sl.cap]] ++ [tSl sl 23 2 insv o] ++ [tBlk I 23 [.int .i64 op, .int .i64 0]])) ++ [tFault fb a5]) := by simpa using h
      exact midst h
     ·exact ifF (by simp [hc]) ⟨rfl, by unfold intD; rw [if_neg hc]⟩
    rintro _ ⟨rfl, hi⟩
    refine h.st (n := 1) _ List.getElem?_concat_length (by simp) rfl fun w6 h => ?_
    rw [set_last] at h
    rw [NN_some]
    refine h.ld (n := 1) (k := .i .i64) (x := a5) 0 rfl rfl ?_
    rw [NN_some]
    refine h.st (n := 1) 0 rfl (by simp) rfl fun w7 h => ?_
    have e6 : IntKind.i64.wrap ((a5 : Int) + (getI (l.drop a5)).2) = ((a5 + (getI (l.drop a5)).2.toNat : Nat) : Int) := by rw [wr64 (by omega) (by omega)]; omega
    rw [e6] at h
    exact ⟨_, _, by rw [hin, hi, bnd_ok], by omega, h⟩
   ·refine ifF hnum ?_
    exact ⟨0, a5, by unfold insD; rw [hop, bnd_ok, if_neg hnum], o5, h⟩
  rintro w5 ⟨v, a6, hin, ha6, h⟩
  have h : Hp S w0 w5 ((rdr rb b a6 (left - n) :: ub :: (rest ++ [tBlk A 30 [.string (⟨#[]⟩ : ByteArray), .int .i64 0, .int .i64 0, .slice none 0 0]])) ++ [tBlk O 30 [.string nm, .int .i64 pa, .int .i64 lo, .slice sl.a sl.len sl.cap]] ++ [tSl sl 23 2 insv o] ++ [tBlk I 23 [.int .i64 op, .int .i64 v]]) := by simpa using h
  refine h.ld (n := 3) (k := .sl) (x := sl) (rdr rb b a6 (left - n) :: ub :: (rest ++ [tBlk A 30 [.string (⟨#[]⟩ : ByteArray), .int .i64 0, .int .i64 0, .slice none 0 0]])).length (by rw [List.getElem?_append_left (by simp), mid1]; rfl) rfl ?_
  refine h.ld0 (k := .i .i64) (x := op) _ (by rw [List.getElem?_concat_length]; rfl) rfl ?_
  refine h.ld (n := 1) (k := .i .i64) (x := v) _ (by rw [List.getElem?_concat_length]; rfl) rfl ?_
  have hsl := h.len (s := sl) (e := 23) (n := 2) (f := insv) (l := o) ((rdr rb b a6 (left - n) :: ub :: (rest ++ [tBlk A 30 [.string (⟨#[]⟩ : ByteArray), .int .i64 0, .int .i64 0, .slice none 0 0]])).length + 1) (by rw [mid2]; rfl)
  refine h.nwapp (c := insv (op, v)) _ (op, v) mid2 insv_len und28 i1 i3 i2 rfl rfl (by simp [Value.oneCell']) (by rw [i4]; omega) (by omega) fun s2 w6 h _ _ => ?_
  have e7 : ((rdr rb b a6 (left - n) :: ub :: (rest ++ [tBlk A 30 [.string (⟨#[]⟩ : ByteArray), .int .i64 0, .int .i64 0, .slice none 0 0]])) ++ [tBlk O 30 [.string nm, .int .i64 pa, .int .i64 lo, .slice sl.a sl.len sl.cap]] ++ [tSl sl 23 2 insv o] ++ [tBlk I 23 [.int .i64 op, .int .i64 v]]).set ((rdr rb b a6 (left - n) :: ub :: (rest ++ [tBlk A 30 [.string (⟨#[]⟩ : ByteArray), .int .i64 0, .int .i64 0, .slice none 0 0]])).length + 1) (tSl s2 23 2 insv (o ++ [(op, v)])) = (rdr rb b a6 (left - n) :: ub :: (rest ++ [tBlk A 30 [.string (⟨#[]⟩ : ByteArray), .int .i64 0, .int .i64 0, .slice none 0 0]])) ++ [tBlk O 30 [.string nm, .int .i64 pa, .int .i64 lo, .slice sl.a sl.len sl.cap]] ++ [tSl s2 23 2 insv (o ++ [(op, v)])] ++ [tBlk I 23 [.int .i64 op, .int .i64 v]] := by
   rw [List.set_append_left _ _ (by simp)]
   congr 1
   have : (rdr rb b a6 (left - n) :: ub :: (rest ++ [tBlk A 30 [.string (⟨#[]⟩ : ByteArray), .int .i64 0, .int .i64 0, .slice none 0 0]])).length + 1 = ((rdr rb b a6 (left - n) :: ub :: (rest ++ [tBlk A 30 [.string (⟨#[]⟩ : ByteArray), .int .i64 0, .int .i64 0, .slice none 0 0]])) ++ [tBlk O 30 [.string nm, .int .i64 pa, .int .i64 lo, .slice sl.a sl.len sl.cap]]).length := by simp
   rw [this, set_last]
  rw [e7] at h
  have h := h.front
  refine h.st (n := 3) _ mid1 (by simp) rfl fun w7 h => ?_
  rw [List.set_append_left _ _ (by simp), set_last] at h
  refine ⟨q, by omega, k + 1, a6, o ++ [(op, v)], s2, by rw [wr64 (by omega) (by omega)]; omega, by omega, by omega, by simp; omega, ha6, ?_, h⟩
  have hq2 : n.toNat - (k + 1) = q := by omega
  rw [hF, hq, hq2]
  show bnd (bnd (insD l a') _) _ = _
  rw [hin, bnd_ok]
  cases codeF l q a6 with
  | error e => rfl
  | ok r => simp [bnd]
end
theorem und35 : Tryz.prog.underlying 35 = some (.slice 54) := by kernel_rfl
theorem und24 : Tryz.prog.underlying 24 = some (.slice 30) := by kernel_rfl
theorem inf54 : ∃ inf : TypeInfo, Tryz.prog.info? 54 = some inf ∧ inf.zero = some (.agg #[.slice none 0 0, .slice none 0 0, .slice none 0 0, .slice none 0 0, .string ⟨#[]⟩, .int .i64 0, .int .i64 0, .slice none 0 0]) ∧ inf.size = 8 ∧ inf.bytes = 152 := infoP (by kernel_rfl)
theorem inf30 : ∃ inf : TypeInfo, Tryz.prog.info? 30 = some inf ∧ inf.zero = some (.agg #[.string ⟨#[]⟩, .int .i64 0, .int .i64 0, .slice none 0 0]) ∧ inf.size = 4 ∧ inf.bytes = 56 := infoP (by kernel_rfl)
abbrev SI := Sl × List Int
def tS (y : SI) : Thing := tSl y.1 3 1 iv y.2
def c8v (ys : List SI) : List Value := ys.map (fun y => Value.slice y.1.a y.1.len y.1.cap) ++ [.string ⟨#[]⟩, .int .i64 0, .int .i64 0, .slice none 0 0]
def nil4 : List SI := [(⟨none, 0, 0⟩, []), (⟨none, 0, 0⟩, []), (⟨none, 0, 0⟩, []), (⟨none, 0, 0⟩, [])]
def subI (x : RV) : Thing := tSl x.sl 23 2 insv x.code
def subY (x : SV) : Thing := tAll (x.sls.map tS ++ [subI x.run])
abbrev tFnN (s : Sl) (l : List RT) : Thing := tNest 30 4 rtv subI RV.r s l
abbrev tSyN (s : Sl) (l : List SY) : Thing := tNest 54 8 syv subY SV.m s l
theorem c8v_set {ys : List SI} {j : Nat} (hj : j < ys.length) (y : SI) : (c8v ys).set j (.slice y.1.a y.1.len y.1.cap) = c8v (ys.set j y) := by
 unfold c8v
 rw [List.set_append_left _ _ (by simpa using hj), List.map_set]
theorem take_set_succ {α : Type} {l : List α} {j : Nat} (hj : j < l.length) (y : α) : (l.set j y).take (j + 1) = l.take j ++ [y] := by
 rw [List.take_add_one, List.getElem?_set_self hj, List.take_set_of_le (Nat.le_refl _)]; rfl
section
variable {S : List Nat} {w0 w : World} {its rest : List Thing}
theorem sets4 {rb sb : Nat} {b : Sl} {a : Nat} {left : Int} {ub : Thing} {l : List Int} (h : Hp S w0 w (rdr rb b a left :: ub :: rest ++ [tBlk sb 54 (c8v nil4)])) (hs : Src ub b l) (ha : a ≤ l.length)
  {K : World → Prop} {E : List PanicEntry → World → Prop}
  (hok : ∀ (ys : List SI) a', setsF l 4 a = .ok (ys.map (·.2), a') → ys.length = 4 → a' ≤ l.length → ∀ w', Hp S w0 w' (rdr rb b a' left :: ub :: rest ++ [tBlk sb 54 (c8v ys)] ++ ys.map tS) → K w')
  (herr : ∀ e, setsF l 4 a = .error e → ∀ fb c w', Hp S w0 w' (tBlk rb 84 c :: ub :: rest ++ [tFault fb e]) → E (flt fb) w') :
  ∃ Inv_2 : Int → Nat → World → Prop, (∃ n : Nat, Inv_2 0 n w) ∧ ∀ t16 : Int, ∀ m3 : Nat, ∀ w : World, Inv_2 t16 m3 w → (if (decide (t16 < 4)) = true then (IxV [.pointer (some ⟨sb, 0, none⟩), .pointer (some ((⟨sb, 0, none⟩ : Addr).add 1)), .pointer (some ((⟨sb, 0, none⟩ : Addr).add 2)), .pointer (some ((⟨sb, 0, none⟩ : Addr).add 3))] 4 t16 .p fun (l : Option Addr) =>
   c69 (some ⟨rb, 0, none⟩) w (fun (r2 : Sl) (w : World) => NN l fun (l_ : Addr) => St l_ (.slice r2.a r2.len r2.cap) w fun (w : World) => ∃ m4 : Nat, m4 < m3 ∧ Inv_2 (IntKind.i64.wrap (t16 + 1)) m4 w) E) else K w) := by
 have h := (((h.nil 3 1 iv).nil 3 1 iv).nil 3 1 iv).nil 3 1 iv
 have h : Hp S w0 w (rdr rb b a left :: ub :: rest ++ [tBlk sb 54 (c8v nil4)] ++ nil4.map tS) := by simpa [nil4, tS] using h
 refine ⟨fun t m w' => ∃ (j a' : Nat) (ys : List SI), t = j ∧ j ≤ 4 ∧ m = 4 - j ∧ ys.length = 4 ∧ a' ≤ l.length ∧ setsF l 4 a = bnd (setsF l (4 - j) a') (fun r x => .ok ((ys.take j).map (·.2) ++ r, x)) ∧ Hp S w0 w' (rdr rb b a' left :: ub :: rest ++ [tBlk sb 54 (c8v ys)] ++ ys.map tS),
  ⟨_, 0, a, nil4, rfl, by decide, rfl, rfl, ha, ?_, h⟩, ?_⟩
 ·rw [Nat.sub_zero]
  cases setsF l 4 a with
  | error e => rfl
  | ok x => rfl
 clear h
 rintro t m w1 ⟨j, a', ys, rfl, hj, rfl, hys, ha', hF, h⟩
 rw [hF] at hok herr
 by_cases hend : j = 4
 ·subst hend
  refine ifF (by decide) (hok ys a' ?_ hys ha' w1 h)
  rw [List.take_of_length_le (by omega)]
  show bnd (.ok ([], a')) _ = _
  simp [bnd]
 ·obtain ⟨q, hq⟩ : ∃ q, 4 - j = q + 1 := ⟨3 - j, by omega⟩
  rw [hq] at hok herr
  refine ifT (by simp; omega) ?_
  refine sets_ix (by omega) ?_
  have h : Hp S w0 w1 (rdr rb b a' left :: ub :: (rest ++ [tBlk sb 54 (c8v ys)] ++ ys.map tS)) := by simpa using h
  refine set_spec h hs ha' (fun x a2 hx hax s w2 h => ?_) (fun e he fb c w2 h => ?_)
  ·rw [NN_some]
   have h : Hp S w0 w2 ((rdr rb b a2 left :: ub :: rest ++ [tBlk sb 54 (c8v ys)] ++ ys.map tS) ++ [] ++ [tS (s, x)]) := by simpa [tS] using h
   have h := h.into (i := (rdr rb b a2 left :: ub :: rest ++ [tBlk sb 54 (c8v ys)]).length + j) (by simp only [List.length_append, List.length_map]; omega)
   rw [List.set_append_right _ _ (by omega), Nat.add_sub_cancel_left, ← List.map_set] at h
   refine h.st (n := j) (rdr rb b a2 left :: ub :: rest).length mid1 (by simp [c8v]; omega) rfl fun w3 h => ?_
   rw [List.set_append_left _ _ (by simp), set_last, c8v_set (by omega) (s, x)] at h
   refine ⟨q, by omega, j + 1, a2, ys.set j (s, x), by rw [wr64 (by omega) (by omega)]; omega, by omega, by omega, by simpa using hys, hax, ?_, h⟩
   have hq2 : 4 - (j + 1) = q := by omega
   rw [hF, hq, hq2, take_set_succ (by omega)]
   show bnd (bnd (setD l a') _) _ = _
   rw [hx, bnd_ok]
   cases setsF l q a2 with
   | error e => rfl
   | ok r => simp [bnd]
  ·refine herr e ?_ fb c w2 ?_
   ·show bnd (bnd (setD l a') _) _ = _
    rw [he]; rfl
   ·have h : Hp S w0 w2 (tBlk rb 84 c :: ub :: (rest ++ ([tBlk sb 54 (c8v ys)] ++ ys.map tS)) ++ [tFault fb e]) := by simpa using h
    exact midst h
theorem subY_own (x : SV) : (subY x).own = true := tAll_own _
theorem midst2 {rb fb e : Nat} {c : List Value} {ub : Thing} {X Y : List Thing} (h : Hp S w0 w (tBlk rb 84 c :: ub :: (X ++ rest ++ Y) ++ [tFault fb e])) : Hp S w0 w (tBlk rb 84 c :: ub :: rest ++ [tFault fb e]) := by
 have h := midst h
 have h : Hp S w0 w ([tBlk rb 84 c, ub] ++ X ++ (rest ++ [tFault fb e])) := by simpa using h
 simpa using h.cutMid
end
section
variable {S : List Nat} {w0 w : World} {its rest : List Thing}
theorem midst3 {rb fb e : Nat} {c : List Value} {ub : Thing} {X : List Thing} (h : Hp S w0 w (tBlk rb 84 c :: ub :: (X ++ rest) ++ [tFault fb e])) : Hp S w0 w (tBlk rb 84 c :: ub :: rest ++ [tFault fb e]) :=
 midst2 (X := X) (Y := []) (by simpa using h)
theorem set_two {A : List Thing} {t u v e : Thing} {i : Nat} (hi : i < A.length) : ((A ++ [t] ++ [u]).set i v).set (A.length + 1) e = A.set i v ++ [t] ++ [e] := by
 rw [List.append_assoc, List.set_append_left _ _ hi, List.set_append_right _ _ (by simp)]; simp
abbrev ST (rb : Nat) (b : Sl) (ub : Thing) (rest : List Thing) (A P : Nat) (a : Nat) (left : Int) (ss : Sl) (sy : List SY) (fs : Sl) (fn : List RT) : List Thing :=
 rdr rb b a left :: ub :: ([tBlk A 37 [.slice none 0 0, .slice none 0 0], tBlk P 37 [.slice ss.a ss.len ss.cap, .slice fs.a fs.len fs.cap], tSyN ss sy, tFnN fs fn] ++ rest)
theorem program_spec {rb : Nat} {b : Sl} {ub : Thing} {l : List Int} (h : Hp S w0 w (rdr rb b 0 2000 :: ub :: rest)) (hs : Src ub b l)
  {R : Sl → Sl → World → Prop} {E : List PanicEntry → World → Prop}
  (hok : ∀ p, pgD l = .ok p → ∀ s1 s2 c w', Hp S w0 w' (tBlk rb 84 c :: ub :: rest ++ [tSyN s1 p.sys, tFnN s2 p.fns]) → R s1 s2 w')
  (herr : ∀ e, pgD l = .error e → ∀ fb c w', Hp S w0 w' (tBlk rb 84 c :: ub :: rest ++ [tFault fb e]) → E (flt fb) w') : c37 (some ⟨rb, 0, none⟩) w R E := by
 refine c37_of ?_
 unfold f37
 obtain ⟨inf, i1, i2, i3, i4⟩ := inf54
 obtain ⟨inf', j1, j2, j3, j4⟩ := inf30
 have hln := hs.len
 unfold pgD at hok herr
 refine h.nw fun A w1 h => ?_
 refine h.nw fun P w1 h => ?_
 have h := (h.nest_nil 54 8 syv subY SV.m).nest_nil 30 4 rtv subI RV.r
 have h : Hp S w0 w1 ([rdr rb b (0 : Nat) 2000, ub] ++ rest ++ [tBlk A 37 [.slice none 0 0, .slice none 0 0], tBlk P 37 [.slice none 0 0, .slice none 0 0], tSyN ⟨none, 0, 0⟩ [], tFnN ⟨none, 0, 0⟩ []]) := by simpa using h
 have h := h.swap2
 have h : Hp S w0 w1 (ST rb b ub rest A P 0 2000 ⟨none, 0, 0⟩ [] ⟨none, 0, 0⟩ []) := h
 refine number_spec h hs (by omega) (by decide) (by decide) (by decide) (by decide) (fun n a1 hn w2 h => ?_) (fun e he fb c w2 h => herr e (by rw [he]; rfl) fb c w2 (midst3 h))
 rw [hn, bnd_ok] at hok herr
 obtain ⟨n1, n2, n3, n4, n5, _⟩ := numD_ok hs.by_ hn
 refine ⟨fun t m w' => ∃ (k a' : Nat) (left : Int) (sy : List SY) (ss : Sl), t = k ∧ k ≤ n.toNat ∧ m = k ∧ sy.length + k = n.toNat ∧ a' ≤ l.length ∧ 0 ≤ left ∧ left ≤ 2000 ∧ sysF l n.toNat 2000 a1 = bnd (sysF l k left a') (fun r x => .ok ((sy ++ r.1, r.2), x)) ∧ Hp S w0 w' (ST rb b ub rest A P a' left ss sy ⟨none, 0, 0⟩ []),
  ⟨n.toNat, n.toNat, a1, 2000, [], ⟨none, 0, 0⟩, by omega, by omega, rfl, by simp, n5, by decide, by decide, ?_, h⟩, ?_⟩
 ·cases sysF l n.toNat 2000 a1 with
  | error e => rfl
  | ok x => rfl
 clear h
 rintro t k w3 ⟨_, a2, left, sy, ss, rfl, hk, rfl, hsy, ha2, hl0, hl1, hF, h⟩
 rw [hF] at hok herr
 by_cases hk0 : k = 0
 ·subst hk0
  refine ifF (by simp) ?_
  have e0 : bnd (sysF l 0 left a2) (fun r x => (Except.ok ((sy ++ r.1, r.2), x) : DR (List SY × Int))) = .ok ((sy, left), a2) := by
   show bnd (.ok (([], left), a2)) _ = _
   rw [bnd_ok, List.append_nil]
  rw [e0, bnd_ok] at hok herr
  clear hF e0
  refine number_spec h hs ha2 (by decide) (by decide) (by decide) (by decide) (fun n2 a3 hn2 w4 h => ?_) (fun e he fb c w4 h => herr e (by rw [he]; rfl) fb c w4 (midst3 h))
  rw [hn2, bnd_ok] at hok herr
  obtain ⟨m1, m2, m3, m4, m5, _⟩ := numD_ok hs.by_ hn2
  refine ⟨fun t m w' => ∃ (k a' : Nat) (left' : Int) (fn : List RT) (fs : Sl), t = k ∧ k ≤ n2.toNat ∧ m = k ∧ fn.length + k = n2.toNat ∧ a' ≤ l.length ∧ 0 ≤ left' ∧ left' ≤ 2000 ∧ fnsF l n2.toNat left a3 = bnd (fnsF l k left' a') (fun r x => .ok ((fn ++ r.1, r.2), x)) ∧ Hp S w0 w' (ST rb b ub rest A P a' left' ss sy fs fn),
   ⟨n2.toNat, n2.toNat, a3, left, [], ⟨none, 0, 0⟩, by omega, by omega, rfl, by simp, m5, hl0, hl1, ?_, h⟩, ?_⟩
  ·cases fnsF l n2.toNat left a3 with
   | error e => rfl
   | ok x => rfl
  clear h
  rintro t k w5 ⟨_, a4, left', fn, fs, rfl, hk, rfl, hfn, ha4, hf0, hf1, hF, h⟩
  rw [hF] at hok herr
  by_cases hk0 : k = 0
  ·subst hk0
   refine ifF (by simp) ?_
   have e0 : bnd (fnsF l 0 left' a4) (fun r x => (Except.ok ((fn ++ r.1, r.2), x) : DR (List RT × Int))) = .ok ((fn, left'), a4) := by
    show bnd (.ok (([], left'), a4)) _ = _
    rw [bnd_ok, List.append_nil]
   rw [e0, bnd_ok] at hok herr
   refine h.dr fun w6 h => ?_
   rw [NN_some]
   refine h.ld (n := 1) (k := .i .i64) (x := a4) 0 rfl rfl ?_
   rw [NN_some]
   refine h.ld0 (k := .sl) (x := b) 0 rfl rfl ?_
   have hbl := hs.sl
   by_cases hend : a4 < l.length
   ·rw [if_pos hend] at herr
    refine ifT (by simp; omega) ?_
    rw [NN_some]
    refine h.ld (n := 1) (k := .i .i64) (x := a4) 0 rfl rfl ?_
    exact wrong_spec h fun fb w7 h => herr a4 rfl fb [.slice b.a b.len b.cap, .int .i64 a4, .int .i64 left'] w7 (midst3 h)
   ·rw [if_neg hend] at hok
    refine ifF (by simp; omega) ?_
    refine h.ld0 (k := .sl) (x := ss) 3 rfl rfl ?_
    refine h.ld (n := 1) (k := .sl) (x := fs) 3 rfl rfl ?_
    refine h.st0 2 rfl (by simp) rfl fun w7 h => ?_
    refine h.st (n := 1) 2 rfl (by simp) rfl fun w7 h => ?_
    refine h.ld0 (k := .sl) (x := ss) 2 rfl rfl ?_
    refine h.ld (n := 1) (k := .sl) (x := fs) 2 rfl rfl ?_
    refine hok _ rfl ss fs [.slice b.a b.len b.cap, .int .i64 a4, .int .i64 left'] w7 ?_
    have h : Hp S w0 w7 ([rdr rb b a4 left', ub] ++ [tBlk A 37 [.slice ss.a ss.len ss.cap, .slice fs.a fs.len fs.cap], tBlk P 37 [.slice ss.a ss.len ss.cap, .slice fs.a fs.len fs.cap]] ++ ([tSyN ss sy, tFnN fs fn] ++ rest)) := h
    have h := h.cutMid
    have h : Hp S w0 w7 ([rdr rb b a4 left', ub] ++ [tSyN ss sy, tFnN fs fn] ++ rest) := by simpa using h
    simpa using h.swap2
  ·obtain ⟨q, rfl⟩ : ∃ q, k = q + 1 := ⟨k - 1, by omega⟩
   refine ifT (by simp) ?_
   refine h.dr fun w6 h => ?_
   refine h.ld (n := 1) (k := .sl) (x := fs) 3 rfl rfl ?_
   refine routine_spec h hs ha4 hf0 hf1 (fun r left2 a5 hr ha5 g0 g1 sl w7 h => ?_) (fun e he fb c w7 h => ?_)
   ·refine ⟨h.cel (n := 1) 3 rfl rfl, ?_⟩
    have hsee := h.nest_see (e := 30) (n := 4) (cells := rtv) (sub := subI) (vis := RV.r) (s := fs) (l := fn) 5 rfl
    have h : Hp S w0 w7 (ST rb b ub rest A P a5 left2 ss sy fs fn ++ [subI ⟨r.nm, r.pa, r.lo, sl, r.code⟩]) := h
    refine h.nest_app (c := rtv ⟨r.nm, r.pa, r.lo, sl, r.code⟩) 5 (ST rb b ub rest A P a5 left2 ss sy fs fn).length (by simp) ⟨r.nm, r.pa, r.lo, sl, r.code⟩ rfl List.getElem?_concat_length rfl rtv_len und24 j1 j3 j2 rfl rfl (by simp [Value.oneCell']) (by rw [j4]; omega) (by omega) fun s2 w8 h _ => ?_
    rw [List.set_append_left _ _ (by simp)] at h
    rw [List.set_append_right _ _ (by simp)] at h
    have h := h.front
    refine h.st (n := 1) 3 rfl (by simp) rfl fun w9 h => ?_
    refine ⟨q, by omega, q, a5, left2, fn ++ [r], s2, by rw [wr64 (by omega) (by omega)]; omega, by omega, rfl, by simp; omega, ha5, g0, g1, ?_, h⟩
    rw [hF]
    show bnd (bnd (rtD l left' a4) _) _ = _
    rw [hr, bnd_ok]
    cases fnsF l q left2 a5 with
    | error e => rfl
    | ok r => simp [bnd]
   ·refine herr e ?_ fb c w7 (midst3 h)
    show bnd (bnd (bnd (rtD l left' a4) _) _) _ = _
    rw [he]; rfl
 ·obtain ⟨q, rfl⟩ : ∃ q, k = q + 1 := ⟨k - 1, by omega⟩
  refine ifT (by simp) ?_
  refine h.nw fun sb w4 h => ?_
  have h : Hp S w0 w4 (ST rb b ub rest A P a2 left ss sy ⟨none, 0, 0⟩ [] ++ [tBlk sb 54 (c8v nil4)]) := h
  refine sets_spec h _ List.getElem?_concat_length fun w4 h => ?_
  refine sets4 h hs ha2 (fun ys a3 hy hys ha3 w5 h => ?_) (fun e he fb c w5 h => ?_)
  ·have h : Hp S w0 w5 (rdr rb b a3 left :: ub :: ([tBlk A 37 [.slice none 0 0, .slice none 0 0], tBlk P 37 [.slice ss.a ss.len ss.cap, .slice none 0 0], tSyN ss sy, tFnN ⟨none, 0, 0⟩ []] ++ rest ++ ([tBlk sb 54 (c8v ys)] ++ ys.map tS))) := by simpa using h
   refine routine_spec h hs ha3 hl0 hl1 (fun r left2 a4 hr ha4 g0 g1 sl w6 h => ?_) (fun e he fb c w6 h => ?_)
   ·obtain ⟨y0, y1, y2, y3, rfl⟩ : ∃ y0 y1 y2 y3, ys = [y0, y1, y2, y3] := by
     match ys, hys with
     | [y0, y1, y2, y3], _ => exact ⟨y0, y1, y2, y3, rfl⟩
    obtain ⟨x, hx⟩ : ∃ x : SV, x = ⟨y0.1, y1.1, y2.1, y3.1, y0.2, y1.2, y2.2, y3.2, ⟨r.nm, r.pa, r.lo, sl, r.code⟩⟩ := ⟨_, rfl⟩
    have h : Hp S w0 w6 ((ST rb b ub rest A P a4 left2 ss sy ⟨none, 0, 0⟩ [] ++ [tBlk sb 54 (c8v [y0, y1, y2, y3])]) ++ (x.sls.map tS ++ [subI x.run])) := by
     rw [hx]
     simpa [SV.sls, subI] using h
    have h := h.gather _ rfl
    have h : Hp S w0 w6 (ST rb b ub rest A P a4 left2 ss sy ⟨none, 0, 0⟩ [] ++ [tBlk sb 54 (c8v [y0, y1, y2, y3])] ++ [subY x]) := h
    refine h.st (n := 4) (ST rb b ub rest A P a4 left2 ss sy ⟨none, 0, 0⟩ []).length mid1 (by simp [c8v]) rfl fun w6 h => ?_
    rw [List.set_append_left _ _ (by simp), set_last] at h
    refine h.st (n := 5) (ST rb b ub rest A P a4 left2 ss sy ⟨none, 0, 0⟩ []).length mid1 (by simp [c8v]) rfl fun w6 h => ?_
    rw [List.set_append_left _ _ (by simp), set_last] at h
    refine h.st (n := 6) (ST rb b ub rest A P a4 left2 ss sy ⟨none, 0, 0⟩ []).length mid1 (by simp [c8v]) rfl fun w6 h => ?_
    rw [List.set_append_left _ _ (by simp), set_last] at h
    refine h.st (n := 7) (ST rb b ub rest A P a4 left2 ss sy ⟨none, 0, 0⟩ []).length mid1 (by simp [c8v]) rfl fun w6 h => ?_
    rw [List.set_append_left _ _ (by simp), set_last] at h
    have h : Hp S w0 w6 (ST rb b ub rest A P a4 left2 ss sy ⟨none, 0, 0⟩ [] ++ [tBlk sb 54 (syv x)] ++ [subY x]) := by
     rw [hx] at h ⊢
     exact h
    refine h.ld0 (k := .sl) (x := ss) 3 rfl rfl ?_
    have hb0 : ((ST rb b ub rest A P a4 left2 ss sy ⟨none, 0, 0⟩ [] ++ [tBlk sb 54 (syv x)] ++ [subY x])[(ST rb b ub rest A P a4 left2 ss sy ⟨none, 0, 0⟩ []).length]?).map Thing.holds = some (tBlk sb 54 (syv x)).holds := by rw [mid1]; rfl
    refine h.ld0 (k := .sl) (x := x.a) _ hb0 rfl ?_
    refine h.ld (n := 1) (k := .sl) (x := x.b) _ hb0 rfl ?_
    refine h.ld (n := 2) (k := .sl) (x := x.c) _ hb0 rfl ?_
    refine h.ld (n := 3) (k := .sl) (x := x.d) _ hb0 rfl ?_
    refine h.ld (n := 4) (k := .s) (x := x.run.nm) _ hb0 rfl ?_
    refine h.ld (n := 5) (k := .i .i64) (x := x.run.pa) _ hb0 rfl ?_
    refine h.ld (n := 6) (k := .i .i64) (x := x.run.lo) _ hb0 rfl ?_
    refine h.ld (n := 7) (k := .sl) (x := x.run.sl) _ hb0 rfl ?_
    have hsee := h.nest_see (e := 54) (n := 8) (cells := syv) (sub := subY) (vis := SV.m) (s := ss) (l := sy) 4 rfl
    refine h.nest_app (c := syv x) 4 ((ST rb b ub rest A P a4 left2 ss sy ⟨none, 0, 0⟩ []).length + 1) (by simp) x rfl last2 (subY_own x) syv_len und35 i1 i3 i2 rfl rfl (by simp [Value.oneCell']) (by rw [i4]; omega) (by omega) fun s2 w8 h _ => ?_
    rw [set_two (by simp)] at h
    have h := h.front.front
    refine h.st0 3 rfl (by simp) rfl fun w9 h => ?_
    refine ⟨q, by omega, q, a4, left2, sy ++ [x.m], s2, by rw [wr64 (by omega) (by omega)]; omega, by omega, rfl, by simp; omega, ha4, g0, g1, ?_, h⟩
    rw [hF]
    show bnd (bnd (setsF l 4 a2) _) _ = _
    rw [hy, bnd_ok]
    show bnd (bnd (rtD l left a3) _) _ = _
    rw [hr, bnd_ok]
    have ex : syOf ([y0, y1, y2, y3].map (·.2)) r = x.m := by rw [hx]; rfl
    rw [ex]
    cases sysF l q left2 a4 with
    | error e => rfl
    | ok r => simp [bnd]
   ·refine herr e ?_ fb c w6 (midst2 h)
    show bnd (bnd (bnd (setsF l 4 a2) _) _) _ = _
    rw [hy, bnd_ok]
    show bnd (bnd (bnd (rtD l left a3) _) _) _ = _
    rw [he]; rfl
  ·refine herr e ?_ fb c w5 (midst3 h)
   show bnd (bnd (bnd (setsF l 4 a2) _) _) _ = _
   rw [he]; rfl
end
theorem caught_idle (p : Addr) (w : World) :
  CallsD Tryz.prog 36 #[.pointer (some p)] .returning w fun e u' w' => e = .returned (.tuple #[]) ∧ u' = .returning ∧ w' = w := by
 refine callsD_of_wpS Tryz.func36 rfl fun c₀ cs hu => ?_
 apply wpS_seq
 apply wpS_region
 simp [wpOpsS, go_sem, recoverD, hu, Tryz.ntmps36, Exit.thenS]
 refine wpS_of_wp ?_
 go_wp2
 cases c₀
 simp_all [bodyPostS, results, Tryz.results36]
theorem ta_fault (fb : Nat) (w : World) : (Instr.typeAssert (.iface 86 (.pointer (some ⟨fb, 0, none⟩))) 20 86 true).run Tryz.prog w = .ok (.tuple #[.pointer (some ⟨fb, 0, none⟩), .bool true]) w := by kernel_rfl
theorem mk_fault (fb : Nat) (w : World) : (Instr.makeInterface 86 (.pointer (some ⟨fb, 0, none⟩))).run Tryz.prog w = .ok (.iface 86 (.pointer (some ⟨fb, 0, none⟩))) w := by kernel_rfl
theorem eq_fault (fb : Nat) (w : World) : (binOp .eql 20 (.iface 86 (.pointer (some ⟨fb, 0, none⟩))) .nilIface).run Tryz.prog w = .ok (.bool false) w := by kernel_rfl
theorem caught_fault (p : Addr) (fb : Nat) (x : Value) (w : World) (hc : w.cell? p = some x) (hx : x.cells = #[x]) (hz : w.frozen? p = false) :
  CallsD Tryz.prog 36 #[.pointer (some p)] (.panicking (flt fb)) w fun e u' w' => e = .returned (.tuple #[]) ∧ u' = .panicking [{ v := .iface 86 (.pointer (some ⟨fb, 0, none⟩)), recovered := true }] ∧ w' = w.setCell p (.iface 86 (.pointer (some ⟨fb, 0, none⟩))) := by
 have h1 := ta_fault fb
 have h2 := mk_fault fb
 have h3 := eq_fault fb
 refine callsD_of_wpS Tryz.func36 rfl fun c₀ cs hu => ?_
 simp only [Tryz.ntmps36, List.size_toArray, List.length_cons, List.length_nil, Nat.reduceAdd, Nat.reduceSub, Array.replicate_succ, Array.replicate_zero, List.push_toArray, List.append_toArray, List.nil_append, List.cons_append]
 apply wpS_seq
 apply wpS_region
 simp [wpOpsS, go_sem, recoverD, hu, Exit.thenS]
 refine wpS_of_wp ?_
 go_wp2
 simp_all [bodyPostS, results, Tryz.results36]
theorem zero_idle (p q : Addr) (w : World) (hc : w.cell? p = some .nilIface) :
  CallsD Tryz.prog 35 #[.pointer (some p), .pointer (some q)] .returning w fun e u' w' => u' = .returning ∧ e = .returned (.tuple #[]) ∧ w' = w := by
 go_enter_d Tryz.func35, Tryz.ntmps35
 go_wp2
 simp_all [bodyPost, results, Tryz.results35]
theorem ne_fault (fb : Nat) (w : World) : (binOp .neq 39 (.iface 86 (.pointer (some ⟨fb, 0, none⟩))) .nilIface).run Tryz.prog w = .ok (.bool true) w := by kernel_rfl
theorem zero_fault (p : Addr) (qb fb : Nat) (x y : Value) (w : World) (hc : w.cell? p = some (.iface 86 (.pointer (some ⟨fb, 0, none⟩)))) (hq0 : w.cell? ⟨qb, 0, none⟩ = some x) (hx : x.cells = #[x]) (hq1 : w.cell? ⟨qb, 1, none⟩ = some y) (hy : y.cells = #[y]) (hz0 : w.frozen? ⟨qb, 0, none⟩ = false) (hz1 : w.frozen? ⟨qb, 1, none⟩ = false) :
  CallsD Tryz.prog 35 #[.pointer (some p), .pointer (some ⟨qb, 0, none⟩)] .returning w fun e u' w' => u' = .returning ∧ e = .returned (.tuple #[]) ∧ w' = (w.setCell ⟨qb, 0, none⟩ (.slice none 0 0)).setCell ⟨qb, 1, none⟩ (.slice none 0 0) := by
 have h1 := ne_fault fb
 go_enter_d Tryz.func35, Tryz.ntmps35
 go_wp2
 simp_all [bodyPost, results, Tryz.results35]
section
variable {S : List Nat} {w0 w : World} {its rest : List Thing}
theorem nw_now (h : Hp S w0 w its) (c : List Value) (e : TypeId) : Hp S w0 (w.alloc (.cells c.toArray e)) (its ++ [tBlk w.heap.size e c]) := by
 have := h.nw (c := c) (e := e) (K := fun a w' => ∀ b, a = ⟨b, 0, none⟩ → Hp S w0 w' (its ++ [tBlk b e c])) (fun b w' h b' e => by cases e; exact h)
 exact this _ rfl
theorem _root_.Go.Den.Hp.cutFst2 {t u : Thing} (h : Hp S w0 w (t :: u :: its)) : Hp S w0 w its := by
 have h : Hp S w0 w ([] ++ [t, u] ++ its) := h
 exact h.cutMid
theorem program_calls {rb : Nat} {b : Sl} {ub : Thing} {l : List Int} (h : Hp S w0 w (rdr rb b (0 : Nat) 2000 :: ub :: rest)) (hs : Src ub b l) :
  Calls Tryz.prog 37 #[.pointer (some ⟨rb, 0, none⟩)] w fun e w' => (∃ s1 s2 p c, e = .returned (.agg #[.slice s1.a s1.len s1.cap, .slice s2.a s2.len s2.cap]) ∧ pgD l = .ok p ∧ Hp S w0 w' (tBlk rb 84 c :: ub :: rest ++ [tSyN s1 p.sys, tFnN s2 p.fns])) ∨
   ∃ fb x c, e = .panicked (flt fb) ∧ pgD l = .error x ∧ Hp S w0 w' (tBlk rb 84 c :: ub :: rest ++ [tFault fb x]) := by
 have hc := program_spec h hs (R := curry [.sl, .sl] fun cs w' => ∃ (s1 s2 : Sl) (p : PG) (c : List Value), cs = [.slice s1.a s1.len s1.cap, .slice s2.a s2.len s2.cap] ∧ pgD l = .ok p ∧ Hp S w0 w' (tBlk rb 84 c :: ub :: rest ++ [tSyN s1 p.sys, tFnN s2 p.fns]))
  (E := fun ch w' => ∃ fb x c, ch = flt fb ∧ pgD l = .error x ∧ Hp S w0 w' (tBlk rb 84 c :: ub :: rest ++ [tFault fb x]))
  (fun p hp s1 s2 c w' h => ⟨s1, s2, p, c, rfl, hp, h⟩) (fun e he fb c w' h => ⟨fb, e, c, rfl, he, h⟩)
 refine Calls.mono hc fun e w' hd => ?_
 rcases hd with ⟨v, rfl, hv⟩ | ⟨ch, rfl, fb, x, c, rfl, h1, h2⟩
 ·obtain ⟨cs, ⟨s1, s2, p, c, rfl, h1, h2⟩, rfl⟩ := of_viewRet_curry hv
  exact .inl ⟨s1, s2, p, c, rfl, h1, h2⟩
 ·exact .inr ⟨fb, x, c, rfl, h1, h2⟩
theorem Decode_spec {b : Sl} {ub : Thing} {l : List Int} (h : Hp S w0 w (ub :: rest)) (hs : Src ub b l)
  {K : Sl → Sl → Value → World → Prop}
  (hok : ∀ p, pgD l = .ok p → ∀ s1 s2 w', Hp S w0 w' (ub :: rest ++ [tSyN s1 p.sys, tFnN s2 p.fns]) → K s1 s2 .nilIface w')
  (herr : ∀ e, pgD l = .error e → ∀ fb w', Hp S w0 w' (ub :: rest ++ [tFault fb e]) → K ⟨none, 0, 0⟩ ⟨none, 0, 0⟩ (.iface 86 (.pointer (some ⟨fb, 0, none⟩))) w') : c15 b w K := by
 unfold c15 CallK
 have h := nw_now (nw_now (nw_now h [.slice none 0 0, .slice none 0 0] 37) [.nilIface] 39) [.slice b.a b.len b.cap, .int .i64 0, .int .i64 2000] 84
 have h := h.comm
 have hC := program_calls (rb := w.heap.size + 1 + 1) (b := b) (ub := ub) (rest := rest ++ [tBlk w.heap.size 37 [.slice none 0 0, .slice none 0 0]] ++ [tBlk (w.heap.size + 1) 39 [.nilIface]]) (w := ((w.alloc (.cells #[.slice none 0 0, .slice none 0 0] 37)).alloc (.cells #[.nilIface] 39)).alloc (.cells #[.slice b.a b.len b.cap, .int .i64 0, .int .i64 2000] 84)) (by simpa [rdr] using h) hs
 have hmf : ∀ (fn : Fn) (first cap : Array Value) (w : World), (Instr.makeFunc fn first cap).run Tryz.prog w = .ok (.func fn first cap) w := fun _ _ _ _ => rfl
 go_enter_defers Tryz.func15, Tryz.ntmps15
 iterate 55 go_step
 refine Calls.mono hC ?_
 clear h hC
 rintro e w2 (⟨s1, s2, p, c, rfl, hp, h⟩ | ⟨fb, x, c, rfl, hp, h⟩)
 ·have h : Hp S w0 w2 ([] ++ [tBlk (w.heap.size + 1 + 1) 84 c] ++ ((ub :: rest) ++ [tBlk w.heap.size 37 [.slice none 0 0, .slice none 0 0], tBlk (w.heap.size + 1) 39 [.nilIface]] ++ [tSyN s1 p.sys, tFnN s2 p.fns])) := by simpa using h
  have h := h.cutMid
  have h := h.rot
  have h : Hp S w0 w2 (tBlk w.heap.size 37 [.slice none 0 0, .slice none 0 0] :: tBlk (w.heap.size + 1) 39 [.nilIface] :: (ub :: rest ++ [tSyN s1 p.sys, tFnN s2 p.fns])) := by simpa using h
  have c0 : w2.cell? ⟨w.heap.size, 0, none⟩ = some (.slice none 0 0) := h.cel0 0 rfl rfl
  have c1 : w2.cell? ⟨w.heap.size, 1, none⟩ = some (.slice none 0 0) := h.cel (n := 1) 0 rfl rfl
  have c2 : w2.cell? ⟨w.heap.size + 1, 0, none⟩ = some .nilIface := h.cel0 1 rfl rfl
  obtain ⟨_, _, z0, h⟩ := h.st0 0 (v := .slice s1.a s1.len s1.cap) (K := fun w' => Hp S w0 w' (tBlk w.heap.size 37 [.slice s1.a s1.len s1.cap, .slice none 0 0] :: tBlk (w.heap.size + 1) 39 [.nilIface] :: (ub :: rest ++ [tSyN s1 p.sys, tFnN s2 p.fns]))) rfl (by simp) rfl (fun w' h => h)
  obtain ⟨_, _, z1, h⟩ := h.st (n := 1) 0 (v := .slice s2.a s2.len s2.cap) (K := fun w' => Hp S w0 w' (tBlk w.heap.size 37 [.slice s1.a s1.len s1.cap, .slice s2.a s2.len s2.cap] :: tBlk (w.heap.size + 1) 39 [.nilIface] :: (ub :: rest ++ [tSyN s1 p.sys, tFnN s2 p.fns]))) rfl (by simp) rfl (fun w' h => h)
  obtain ⟨_, _, z2, h⟩ := h.st0 1 (v := .nilIface) (K := fun w' => Hp S w0 w' (tBlk w.heap.size 37 [.slice s1.a s1.len s1.cap, .slice s2.a s2.len s2.cap] :: tBlk (w.heap.size + 1) 39 [.nilIface] :: (ub :: rest ++ [tSyN s1 p.sys, tFnN s2 p.fns]))) rfl (by simp) rfl (fun w' h => h)
  have z1 : w2.frozen? ⟨w.heap.size, 1, none⟩ = false := by
   simp at z1
   exact z1
  have z2 : w2.frozen? ⟨w.heap.size + 1, 0, none⟩ = false := by simpa using z2
  have hK := hok p hp s1 s2 _ h.cutFst2
  clear hok herr
  dsimp only
  go_wp2
  have e1 : (⟨w.heap.size, 0, none⟩ : Addr).add 1 = ⟨w.heap.size, 1, none⟩ := rfl
  rw [e1] at h hK
  have d0 := h.cel0 (v := .slice s1.a s1.len s1.cap) 0 rfl rfl
  have d1 : World.cell? _ ⟨w.heap.size, 1, none⟩ = _ := h.cel (n := 1) (v := .slice s2.a s2.len s2.cap) 0 rfl rfl
  have d2 := h.cel0 (v := .nilIface) 1 rfl rfl
  generalize ((w2.setCell ⟨w.heap.size, 0, none⟩ (.slice s1.a s1.len s1.cap)).setCell ⟨w.heap.size, 1, none⟩ (.slice s2.a s2.len s2.cap)).setCell ⟨w.heap.size + 1, 0, none⟩ .nilIface = w3 at *
  refine leaves_cons (f := 36) (args := #[.pointer (some ⟨w.heap.size + 1, 0, none⟩)]) (by simp) (by simp [go_sem]) ?_
  refine (caught_idle _ _).mono ?_
  rintro e u' w'' ⟨rfl, rfl, rfl⟩
  refine leaves_cons (f := 35) (args := #[.pointer (some ⟨w.heap.size + 1, 0, none⟩), .pointer (some ⟨w.heap.size, 0, none⟩)]) (by simp [settle]) (by simp [go_sem]) ?_
  refine (zero_idle _ _ _ d2).mono ?_
  rintro e u' w'' ⟨rfl, rfl, rfl⟩
  refine ⟨.tuple #[.agg #[.slice s1.a s1.len s1.cap, .slice s2.a s2.len s2.cap], .nilIface], ?_, _, rfl, hK⟩
  simp [results, Tryz.results15, go_sem, d0, d1, d2]
 ·have h : Hp S w0 w2 ([] ++ [tBlk (w.heap.size + 1 + 1) 84 c] ++ ((ub :: rest) ++ [tBlk w.heap.size 37 [.slice none 0 0, .slice none 0 0], tBlk (w.heap.size + 1) 39 [.nilIface]] ++ [tFault fb x])) := by simpa using h
  have h := h.cutMid
  have h := h.rot
  have h : Hp S w0 w2 (tBlk w.heap.size 37 [.slice none 0 0, .slice none 0 0] :: tBlk (w.heap.size + 1) 39 [.nilIface] :: (ub :: rest ++ [tFault fb x])) := by simpa using h
  have c2 : w2.cell? ⟨w.heap.size + 1, 0, none⟩ = some .nilIface := h.cel0 1 rfl rfl
  obtain ⟨_, _, z2, h⟩ := h.st0 1 (v := .iface 86 (.pointer (some ⟨fb, 0, none⟩))) (K := fun w' => Hp S w0 w' (tBlk w.heap.size 37 [.slice none 0 0, .slice none 0 0] :: tBlk (w.heap.size + 1) 39 [.iface 86 (.pointer (some ⟨fb, 0, none⟩))] :: (ub :: rest ++ [tFault fb x]))) rfl (by simp) rfl (fun w' h => h)
  have d2 := h.cel0 (v := .iface 86 (.pointer (some ⟨fb, 0, none⟩))) 1 rfl rfl
  have c0 := h.cel0 (v := .slice none 0 0) 0 rfl rfl
  have c1 : World.cell? _ ⟨w.heap.size, 1, none⟩ = _ := h.cel (n := 1) (v := .slice none 0 0) 0 rfl rfl
  obtain ⟨_, _, z0, h2⟩ := h.st0 0 (v := .slice none 0 0) (K := fun w' => Hp S w0 w' (tBlk w.heap.size 37 [.slice none 0 0, .slice none 0 0] :: tBlk (w.heap.size + 1) 39 [.iface 86 (.pointer (some ⟨fb, 0, none⟩))] :: (ub :: rest ++ [tFault fb x]))) rfl (by simp) rfl (fun w' h => h)
  obtain ⟨_, _, z1, h3⟩ := h2.st (n := 1) 0 (v := .slice none 0 0) (K := fun w' => Hp S w0 w' (tBlk w.heap.size 37 [.slice none 0 0, .slice none 0 0] :: tBlk (w.heap.size + 1) 39 [.iface 86 (.pointer (some ⟨fb, 0, none⟩))] :: (ub :: rest ++ [tFault fb x]))) rfl (by simp) rfl (fun w' h => h)
  have e1 : (⟨w.heap.size, 0, none⟩ : Addr).add 1 = ⟨w.heap.size, 1, none⟩ := rfl
  rw [e1] at h3 z1
  have z1 : (w2.setCell ⟨w.heap.size + 1, 0, none⟩ (.iface 86 (.pointer (some ⟨fb, 0, none⟩)))).frozen? ⟨w.heap.size, 1, none⟩ = false := by simpa using z1
  have hK := herr x hp fb _ h3.cutFst2
  have d3 := h3.cel0 (v := .slice none 0 0) 0 rfl rfl
  have d4 : World.cell? _ ⟨w.heap.size, 1, none⟩ = _ := h3.cel (n := 1) (v := .slice none 0 0) 0 rfl rfl
  have d5 := h3.cel0 (v := .iface 86 (.pointer (some ⟨fb, 0, none⟩))) 1 rfl rfl
  clear hok herr
  dsimp only
  show Leaves Tryz.prog Tryz.f15 _ _ _ (.panicking (flt fb)) w2
  refine leaves_cons (f := 36) (args := #[.pointer (some ⟨w.heap.size + 1, 0, none⟩)]) (by simp) (by simp [go_sem]) ?_
  refine (caught_fault _ _ _ _ c2 rfl z2).mono ?_
  rintro e u' w'' ⟨rfl, rfl, rfl⟩
  refine leaves_cons (f := 35) (args := #[.pointer (some ⟨w.heap.size + 1, 0, none⟩), .pointer (some ⟨w.heap.size, 0, none⟩)]) (by simp [settle]) (by simp [go_sem]) ?_
  refine (zero_fault _ _ _ _ _ _ d2 c0 rfl c1 rfl z0 z1).mono ?_
  rintro e u' w'' ⟨rfl, rfl, rfl⟩
  refine ⟨.tuple #[.agg #[.slice none 0 0, .slice none 0 0], .iface 86 (.pointer (some ⟨fb, 0, none⟩))], ?_, _, rfl, hK⟩
  simp [results, Tryz.results15, go_sem, d3, d4, d5]
end
section
variable {S : List Nat} {w0 w : World} {its rest : List Thing}
theorem RunRoL_pb {P : Program} {sem : Sem Value} {x : Option Addr} {ok : Bool} {R : Option Addr → Bool → World → Prop} (h : ∀ w', sem.run P w' = .ok (.tuple #[.pointer x, .bool ok]) w') (hR : R x ok w) : RunRoL [.one .p, .one .b] P sem w R := ⟨_, fun w' _ => h w', hR⟩
theorem fault_spec (h : Hp S w0 w its) (i : Nat) {fb e : Nat} (hi : its[i]? = some (tFault fb e)) {K : Int → Int → Bool → World → Prop} (hK : ∀ w', Hp S w0 w' its → K e 130 true w') : c16 (.iface 86 (.pointer (some ⟨fb, 0, none⟩))) w K := by
 refine c16_of ?_
 unfold f16
 refine ⟨false, fun _ _ => by kernel_rfl, ?_⟩
 refine RunRoL_pb (x := some ⟨fb, 0, none⟩) (ok := true) (fun _ => by kernel_rfl) ?_
 rw [if_neg (by simp)]
 refine h.dr fun w1 h => ?_
 rw [NN_some]
 refine h.ld0 (k := .i .i64) (x := e) i (by rw [hi]; rfl) rfl ?_
 rw [NN_some]
 refine h.ld (n := 1) (k := .i .i64) (x := 130) i (by rw [hi]; rfl) rfl ?_
 rw [NN_some]
 refine h.ld (n := 1) (k := .i .i64) (x := 130) i (by rw [hi]; rfl) rfl ?_
 exact hK w1 h
def effM (op a : Int) (fs : List RV) : Int × Int :=
 if isOpM op = true then
  (if (row op).tk = -1 then (if 0 ≤ a ∧ a < fs.length then (match fs[a.toNat]? with | some x => (if 0 > x.pa then 0 else x.pa) | none => 0) else 0)
   else if (row op).tk = -2 then (if 0 ≤ a then Int.tmod a 8 else 0) else (row op).tk, (row op).pt)
 else (0, 0)
theorem tk_range (op : Int) : -2 ≤ (row op).tk := by
 cases hi : isOpM op with
 | false => rw [row_no hi]; decide
 | true =>
  obtain ⟨n, rfl, hn⟩ := op_of hi
  have key : ∀ k : Fin 40, -2 ≤ (tab.getD k.val noRw).tk := by decide
  unfold row
  rw [if_pos hi]
  exact key ⟨n + 1, by omega⟩
theorem Effect_spec (h : Hp S w0 w its) (j : Nat) {u : Thing} {op a : Int} {s : Sl} {fs : List RV} (hj : (its[j]?).map Thing.holds = some u.holds) (hu : Hp.Reads u s 4 rtv fs) {K : Int → Int → World → Prop} (hK : ∀ w', Hp S w0 w' its → K (effM op a fs).1 (effM op a fs).2 w') : c9 op a s w K := by
 refine c9_of ?_
 unfold f9
 have hjl : j < its.length := by
  rcases Nat.lt_or_ge j its.length with h1 | h1
  ·exact h1
  ·rw [List.getElem?_eq_none h1] at hj; cases hj
 refine h.nw fun i w1 h => ?_
 refine h.ld0 (k := .i .i64) (x := op) its.length (by rw [List.getElem?_concat_length]; rfl) rfl ?_
 refine isOp_spec ?_
 unfold effM at hK
 cases hi : isOpM op with
 | false =>
  rw [hi] at hK
  exact ifT rfl (hK w1 h.front)
 | true =>
  rw [if_pos hi] at hK
  refine ifF (by decide) ?_
  refine h.ld0 (k := .i .i64) (x := op) its.length (by rw [List.getElem?_concat_length]; rfl) rfl ?_
  refine shape_spec h fun w1 h => ?_
  have hlen := h.lenU (i := j) (by rw [List.getElem?_append_left hjl]; exact hj) hu
  refine h.nw fun s1 w1 h => ?_
  refine h.st0 _ List.getElem?_concat_length (by simp) rfl fun w1 h => ?_
  rw [set_last] at h
  refine h.st (n := 1) _ List.getElem?_concat_length (by simp) rfl fun w1 h => ?_
  rw [set_last] at h
  refine h.st (n := 2) _ List.getElem?_concat_length (by simp) rfl fun w1 h => ?_
  rw [set_last] at h
  refine h.st (n := 3) _ List.getElem?_concat_length (by simp) rfl fun w1 h => ?_
  rw [set_last] at h
  refine h.st (n := 4) _ List.getElem?_concat_length (by simp) rfl fun w1 h => ?_
  rw [set_last] at h
  have h : Hp S w0 w1 (its ++ [tBlk i 23 [.int .i64 op, .int .i64 a]] ++ [tBlk s1 74 [.string (row op).word, .bool (row op).num, .int .i64 (takesOf (row op)), .int .i64 (row op).pt, .int .i64 (byOf (row op))]]) := h
  have hI : ∀ {t : Thing}, ((its ++ [tBlk i 23 [.int .i64 op, .int .i64 a]] ++ [t])[its.length]?).map Thing.holds = some (tBlk i 23 [.int .i64 op, .int .i64 a]).holds := fun {t} => by rw [mid1]; rfl
  have hLs : ∀ {A : List Thing} {b : Nat} {e : TypeId} {c : List Value}, ((A ++ [tBlk b e c])[A.length]?).map Thing.holds = some (tBlk b e c).holds := fun {A b e c} => by rw [List.getElem?_concat_length]; rfl
  have htk := tk_range op
  refine ⟨fun w' => Hp S w0 w' (its ++ [tBlk i 23 [.int .i64 op, .int .i64 a]] ++ [tBlk s1 74 [.string (row op).word, .bool (row op).num, .int .i64 (if (row op).tk = -1 then (if 0 ≤ a ∧ a < fs.length then (match fs[a.toNat]? with | some x => (if 0 > x.pa then 0 else x.pa) | none => 0) else 0) else if (row op).tk = -2 then (if 0 ≤ a then Int.tmod a 8 else 0) else (row op).tk), .int .i64 (row op).pt, .int .i64 (byOf (row op))]]), ?_, ?_⟩
  ·refine ⟨fun t w' => w' = w1 ∧ t = decide ((row op).tk = -1 ∧ 0 ≤ a ∧ a < fs.length), ?_, ?_⟩
   ·refine h.ld (n := 4) (k := .i .i64) (x := byOf (row op)) _ hLs rfl ?_
    by_cases h1 : (row op).tk = -1
    ·refine ifT (by simp [byOf, h1]) ?_
     refine h.ld (n := 1) (k := .i .i64) (x := a) _ hI rfl ?_
     by_cases h2 : 0 ≤ a
     ·refine ifT (by simpa using h2) ?_
      refine h.ld (n := 1) (k := .i .i64) (x := a) _ hI rfl ?_
      exact ⟨rfl, by simp [h1, h2, hlen]⟩
     ·exact ifF (by simpa using h2) ⟨rfl, by simp [h2]⟩
    ·refine ifF ?_ ⟨rfl, by simp [h1]⟩
     unfold byOf
     rw [if_neg h1]
     split <;> simp
   rintro t w2 ⟨hw, rfl⟩
   obtain rfl := hw.symm
   by_cases h1 : (row op).tk = -1 ∧ 0 ≤ a ∧ a < fs.length
   ·refine ifT (by simpa using h1) ?_
    obtain ⟨g1, g2, g3⟩ := h1
    obtain ⟨x, hx⟩ : ∃ x, fs[a.toNat]? = some x := ⟨fs[a.toNat]'(by omega), List.getElem?_eq_getElem (by omega)⟩
    refine h.ld (n := 1) (k := .i .i64) (x := a) _ hI rfl ?_
    obtain ⟨O, hO⟩ := h.see' (i := j) (t := u) (by rw [List.getElem?_append_left (by rw [List.length_append]; omega), List.getElem?_append_left hjl]; exact hj)
    obtain ⟨o, hR⟩ := hu.rd hO
    refine SlR.ix rtv_len hR g2 (x := x) hx fun ad hc => ?_
    refine ldR (k := .i .i64) (x := x.pa) (hc 1 (by omega)) rfl ?_
    refine h.st (n := 2) _ List.getElem?_concat_length (by simp) rfl fun w2 h => ?_
    rw [set_last] at h
    rw [if_pos g1, if_pos ⟨g2, g3⟩, hx]
    exact h
   ·refine ifF (by simpa using h1) ?_
    refine ⟨fun t w' => w' = w1 ∧ t = decide ((row op).tk = -2 ∧ 0 ≤ a), ?_, ?_⟩
    ·refine h.ld (n := 4) (k := .i .i64) (x := byOf (row op)) _ hLs rfl ?_
     by_cases h2 : (row op).tk = -2
     ·refine ifT (by simp [byOf, h2]) ?_
      refine h.ld (n := 1) (k := .i .i64) (x := a) _ hI rfl ?_
      exact ⟨rfl, by simp [h2]⟩
     ·refine ifF ?_ ⟨rfl, by simp [h2]⟩
      unfold byOf
      split
      ·simp
      ·simp [h2]
    rintro t w2 ⟨hw, rfl⟩
    obtain rfl := hw.symm
    by_cases h2 : (row op).tk = -2 ∧ 0 ≤ a
    ·refine ifT (by simpa using h2) ?_
     refine h.ld (n := 1) (k := .i .i64) (x := a) _ hI rfl ?_
     refine ⟨by decide, ?_⟩
     refine h.st (n := 2) _ List.getElem?_concat_length (by simp) rfl fun w2 h => ?_
     rw [set_last] at h
     rw [if_neg (by omega), if_pos h2.1, if_pos h2.2]
     exact h
    ·refine ifF (by simpa using h2) ?_
     have e : (if (row op).tk = -1 then (if 0 ≤ a ∧ a < fs.length then (match fs[a.toNat]? with | some x => (if 0 > x.pa then 0 else x.pa) | none => 0) else 0) else if (row op).tk = -2 then (if 0 ≤ a then Int.tmod a 8 else 0) else (row op).tk) = takesOf (row op) := by
      unfold takesOf
      by_cases k1 : (row op).tk = -1
      ·rw [if_pos k1, if_neg (fun k => h1 ⟨k1, k⟩), if_pos (by omega)]
      ·rw [if_neg k1]
       by_cases k2 : (row op).tk = -2
       ·rw [if_pos k2, if_neg (fun k => h2 ⟨k2, k⟩), if_pos (by omega)]
       ·rw [if_neg k2, if_neg (by omega)]
     rw [e]
     exact h
  ·intro w2 h
   refine h.dr fun w3 h => ?_
   refine h.ld (n := 2) (k := .i .i64) _ hLs rfl ?_
   refine h.ld (n := 3) (k := .i .i64) _ hLs rfl ?_
   exact hK w3 h.front.front
end
end Go.Proofs.YtmfgofbcnlkolaaGreatDoor.F
end

section
namespace Go.Proofs
open Go.Shelf
def Tryz.lays169_ren : Go.Shelf.Ren := ⟨fun | 169 => 56 | n => n, fun | 70 => 110 | 9 => 9 | 0 => 0 | 72 => 112 | 37 => 34 | 127 => 138 | 3 => 3 | 5 => 5 | n => n, fun | n => n⟩
theorem Tryz.lays169 : Go.Proofs.Lays.n169 Tryz.prog Tryz.lays169_ren := {
 mixed := by kernel_rfl
 f169 := Tryz.func56.trans (congrArg some (by kernel_rfl))
 t0 := Tryz.underlying0
 a0 := Tryz.isAgg0
 z0 := Tryz.sizeOf0
 v0 := Tryz.zeroValue0
 t3 := Tryz.underlying3
 a3 := Tryz.isAgg3
 z3 := Tryz.sizeOf3
 v3 := Tryz.zeroValue3
 t9 := Tryz.underlying9
 a9 := Tryz.isAgg9
 z9 := Tryz.sizeOf9
 v9 := Tryz.zeroValue9
 t37 := Tryz.underlying34
 a37 := Tryz.isAgg34
 z37 := Tryz.sizeOf34
 v37 := Tryz.zeroValue34
 t70 := Tryz.underlying110
 a70 := Tryz.isAgg110
 z70 := Tryz.sizeOf110
 v70 := Tryz.zeroValue110
 t72 := Tryz.underlying112
 a72 := Tryz.isAgg112
 z72 := Tryz.sizeOf112
 v72 := Tryz.zeroValue112
 t127 := Tryz.underlying138
 a127 := Tryz.isAgg138
 z127 := Tryz.sizeOf138
 v127 := Tryz.zeroValue138 }
theorem Tryz.Builder_Extra_169 : Builder.Extra Tryz.prog Tryz.lays169_ren := {
 sizeBuilder := by kernel_rfl
 liesBuilder := by kernel_rfl
 t5 := Tryz.underlying5
 a5 := Tryz.isAgg5
 z5 := Tryz.sizeOf5
 v5 := Tryz.zeroValue5
 infoByte := by kernel_rfl
 cellsByte := by kernel_rfl
 sizeByte := by kernel_rfl
 neB5 := by decide }
open Go.RowKit in
theorem Tryz.Builder_String_any (B b : Nat) (l : List UInt8) (w : World) (h : Lib.IsBuilder 112 5 B b (Lib.byteCells l) w) (hBw : B ≤ w.heap.size) :
  Calls Tryz.prog 56 #[.pointer (some ⟨b, 0, none⟩)] w fun e w' => e = .returned (.string ⟨l.toArray⟩) ∧ Below B w w' := Any.Builder_String_any Tryz.lays169 Tryz.Builder_Extra_169 B b l w h hBw
def Tryz.laysM246_ren : Go.Shelf.Ren := ⟨fun | 246 => 103 | 283 => 108 | 284 => 109 | 285 => 110 | 286 => 111 | 129 => 122 | 317 => 121 | 318 => 123 | 319 => 124 | 320 => 125 | 337 => 136 | 338 => 137 | n => n, fun | 2 => 2 | 3 => 3 | 9 => 9 | 4 => 4 | 171 => 155 | 0 => 0 | 53 => 105 | 37 => 34 | 5 => 5 | 173 => 158 | 212 => 165 | 51 => 166 | 20 => 20 | 213 => 167 | 46 => 154 | 232 => 185 | 233 => 186 | n => n, fun | 17 => 1 | 18 => 4 | 19 => 5 | n => n⟩
theorem Tryz.laysM246 : Go.Proofs.LaysM.n246 Tryz.prog Tryz.laysM246_ren := {
 mixed := by kernel_rfl
 f129 := Tryz.func122.trans (congrArg some (by kernel_rfl))
 f246 := Tryz.func103.trans (congrArg some (by kernel_rfl))
 f283 := Tryz.func108.trans (congrArg some (by kernel_rfl))
 f284 := Tryz.func109.trans (congrArg some (by kernel_rfl))
 f285 := Tryz.func110.trans (congrArg some (by kernel_rfl))
 f286 := Tryz.func111.trans (congrArg some (by kernel_rfl))
 f317 := Tryz.func121.trans (congrArg some (by kernel_rfl))
 f318 := Tryz.func123.trans (congrArg some (by kernel_rfl))
 f319 := Tryz.func124.trans (congrArg some (by kernel_rfl))
 f320 := Tryz.func125.trans (congrArg some (by kernel_rfl))
 f337 := Tryz.func136.trans (congrArg some (by kernel_rfl))
 f338 := Tryz.func137.trans (congrArg some (by kernel_rfl))
 t0 := Tryz.underlying0
 a0 := Tryz.isAgg0
 z0 := Tryz.sizeOf0
 v0 := Tryz.zeroValue0
 t2 := Tryz.underlying2
 a2 := Tryz.isAgg2
 z2 := Tryz.sizeOf2
 v2 := Tryz.zeroValue2
 t3 := Tryz.underlying3
 a3 := Tryz.isAgg3
 z3 := Tryz.sizeOf3
 v3 := Tryz.zeroValue3
 t4 := Tryz.underlying4
 a4 := Tryz.isAgg4
 z4 := Tryz.sizeOf4
 v4 := Tryz.zeroValue4
 t5 := Tryz.underlying5
 a5 := Tryz.isAgg5
 z5 := Tryz.sizeOf5
 v5 := Tryz.zeroValue5
 t9 := Tryz.underlying9
 a9 := Tryz.isAgg9
 z9 := Tryz.sizeOf9
 v9 := Tryz.zeroValue9
 t20 := Tryz.underlying20
 a20 := Tryz.isAgg20
 z20 := Tryz.sizeOf20
 v20 := Tryz.zeroValue20
 t37 := Tryz.underlying34
 a37 := Tryz.isAgg34
 z37 := Tryz.sizeOf34
 v37 := Tryz.zeroValue34
 t46 := Tryz.underlying154
 a46 := Tryz.isAgg154
 z46 := Tryz.sizeOf154
 v46 := Tryz.zeroValue154
 t51 := Tryz.underlying166
 a51 := Tryz.isAgg166
 z51 := Tryz.sizeOf166
 v51 := Tryz.zeroValue166
 t53 := Tryz.underlying105
 a53 := Tryz.isAgg105
 z53 := Tryz.sizeOf105
 v53 := Tryz.zeroValue105
 t171 := Tryz.underlying155
 a171 := Tryz.isAgg155
 z171 := Tryz.sizeOf155
 v171 := Tryz.zeroValue155
 t173 := Tryz.underlying158
 a173 := Tryz.isAgg158
 z173 := Tryz.sizeOf158
 v173 := Tryz.zeroValue158
 t212 := Tryz.underlying165
 a212 := Tryz.isAgg165
 z212 := Tryz.sizeOf165
 v212 := Tryz.zeroValue165
 t213 := Tryz.underlying167
 a213 := Tryz.isAgg167
 z213 := Tryz.sizeOf167
 t232 := Tryz.underlying185
 a232 := Tryz.isAgg185
 z232 := Tryz.sizeOf185
 v232 := Tryz.zeroValue185
 t233 := Tryz.underlying186
 a233 := Tryz.isAgg186
 z233 := Tryz.sizeOf186
 v233 := Tryz.zeroValue186
 g17 := by kernel_rfl
 g18 := by kernel_rfl
 g19 := by kernel_rfl
 i0 := by kernel_rfl
 i2 := by kernel_rfl
 i3 := by kernel_rfl
 i4 := by kernel_rfl
 i5 := by kernel_rfl
 i9 := by kernel_rfl
 i20 := by kernel_rfl
 i37 := by kernel_rfl
 i46 := by kernel_rfl
 i51 := by kernel_rfl
 i53 := by kernel_rfl
 i171 := by kernel_rfl
 i173 := by kernel_rfl
 i212 := by kernel_rfl
 i232 := by kernel_rfl
 i233 := by kernel_rfl
 m17 := by kernel_rfl
 m18 := by kernel_rfl
 m19 := by kernel_rfl }
open Go.RowKit Go.Sort Go.Lib in
theorem Tryz.internal_strconv_FormatInt_10 (n : Int) (h0 : -9223372036854775808 ≤ n) (h1 : n ≤ 9223372036854775807) (w : World) (htab : Lib.TabIs Tryz.prog w "internal/strconv.uint64pow10" .u64 Lib.pow10Tab) :
  Calls Tryz.prog 103 #[.int .i64 n, .int .i64 10] w fun e w' => e = .returned (.string ⟨(Lib.itoa n).toArray⟩) ∧ ∃ k os, w' = grow (w.drewN k) os := Any.internal_strconv_FormatInt_10 Tryz.laysM246 n h0 h1 w htab
def Tryz.laysM243_ren : Go.Shelf.Ren := ⟨fun | 243 => 86 | 246 => 103 | 283 => 108 | 284 => 109 | 285 => 110 | 286 => 111 | 129 => 122 | 317 => 121 | 318 => 123 | 319 => 124 | 320 => 125 | 337 => 136 | 338 => 137 | n => n, fun | 3 => 3 | 9 => 9 | 2 => 2 | 4 => 4 | 171 => 155 | 0 => 0 | 53 => 105 | 37 => 34 | 5 => 5 | 173 => 158 | 212 => 165 | 51 => 166 | 20 => 20 | 213 => 167 | 46 => 154 | 232 => 185 | 233 => 186 | n => n, fun | 17 => 1 | 18 => 4 | 19 => 5 | n => n⟩
theorem Tryz.laysM243 : Go.Proofs.LaysM.n243 Tryz.prog Tryz.laysM243_ren := {
 mixed := by kernel_rfl
 f129 := Tryz.func122.trans (congrArg some (by kernel_rfl))
 f243 := Tryz.func86.trans (congrArg some (by kernel_rfl))
 f246 := Tryz.func103.trans (congrArg some (by kernel_rfl))
 f283 := Tryz.func108.trans (congrArg some (by kernel_rfl))
 f284 := Tryz.func109.trans (congrArg some (by kernel_rfl))
 f285 := Tryz.func110.trans (congrArg some (by kernel_rfl))
 f286 := Tryz.func111.trans (congrArg some (by kernel_rfl))
 f317 := Tryz.func121.trans (congrArg some (by kernel_rfl))
 f318 := Tryz.func123.trans (congrArg some (by kernel_rfl))
 f319 := Tryz.func124.trans (congrArg some (by kernel_rfl))
 f320 := Tryz.func125.trans (congrArg some (by kernel_rfl))
 f337 := Tryz.func136.trans (congrArg some (by kernel_rfl))
 f338 := Tryz.func137.trans (congrArg some (by kernel_rfl))
 t0 := Tryz.underlying0
 a0 := Tryz.isAgg0
 z0 := Tryz.sizeOf0
 v0 := Tryz.zeroValue0
 t2 := Tryz.underlying2
 a2 := Tryz.isAgg2
 z2 := Tryz.sizeOf2
 v2 := Tryz.zeroValue2
 t3 := Tryz.underlying3
 a3 := Tryz.isAgg3
 z3 := Tryz.sizeOf3
 v3 := Tryz.zeroValue3
 t4 := Tryz.underlying4
 a4 := Tryz.isAgg4
 z4 := Tryz.sizeOf4
 v4 := Tryz.zeroValue4
 t5 := Tryz.underlying5
 a5 := Tryz.isAgg5
 z5 := Tryz.sizeOf5
 v5 := Tryz.zeroValue5
 t9 := Tryz.underlying9
 a9 := Tryz.isAgg9
 z9 := Tryz.sizeOf9
 v9 := Tryz.zeroValue9
 t20 := Tryz.underlying20
 a20 := Tryz.isAgg20
 z20 := Tryz.sizeOf20
 v20 := Tryz.zeroValue20
 t37 := Tryz.underlying34
 a37 := Tryz.isAgg34
 z37 := Tryz.sizeOf34
 v37 := Tryz.zeroValue34
 t46 := Tryz.underlying154
 a46 := Tryz.isAgg154
 z46 := Tryz.sizeOf154
 v46 := Tryz.zeroValue154
 t51 := Tryz.underlying166
 a51 := Tryz.isAgg166
 z51 := Tryz.sizeOf166
 v51 := Tryz.zeroValue166
 t53 := Tryz.underlying105
 a53 := Tryz.isAgg105
 z53 := Tryz.sizeOf105
 v53 := Tryz.zeroValue105
 t171 := Tryz.underlying155
 a171 := Tryz.isAgg155
 z171 := Tryz.sizeOf155
 v171 := Tryz.zeroValue155
 t173 := Tryz.underlying158
 a173 := Tryz.isAgg158
 z173 := Tryz.sizeOf158
 v173 := Tryz.zeroValue158
 t212 := Tryz.underlying165
 a212 := Tryz.isAgg165
 z212 := Tryz.sizeOf165
 v212 := Tryz.zeroValue165
 t213 := Tryz.underlying167
 a213 := Tryz.isAgg167
 z213 := Tryz.sizeOf167
 t232 := Tryz.underlying185
 a232 := Tryz.isAgg185
 z232 := Tryz.sizeOf185
 v232 := Tryz.zeroValue185
 t233 := Tryz.underlying186
 a233 := Tryz.isAgg186
 z233 := Tryz.sizeOf186
 v233 := Tryz.zeroValue186
 g17 := by kernel_rfl
 g18 := by kernel_rfl
 g19 := by kernel_rfl
 i0 := by kernel_rfl
 i2 := by kernel_rfl
 i3 := by kernel_rfl
 i4 := by kernel_rfl
 i5 := by kernel_rfl
 i9 := by kernel_rfl
 i20 := by kernel_rfl
 i37 := by kernel_rfl
 i46 := by kernel_rfl
 i51 := by kernel_rfl
 i53 := by kernel_rfl
 i171 := by kernel_rfl
 i173 := by kernel_rfl
 i212 := by kernel_rfl
 i232 := by kernel_rfl
 i233 := by kernel_rfl
 m17 := by kernel_rfl
 m18 := by kernel_rfl
 m19 := by kernel_rfl }
open Go.RowKit Go.Sort Go.Lib in
theorem Tryz.internal_strconv_Itoa (n : Int) (h0 : -9223372036854775808 ≤ n) (h1 : n ≤ 9223372036854775807) (w : World) (htab : Lib.TabIs Tryz.prog w "internal/strconv.uint64pow10" .u64 Lib.pow10Tab) :
  Calls Tryz.prog 86 #[.int .i64 n] w fun e w' => e = .returned (.string ⟨(Lib.itoa n).toArray⟩) ∧ ∃ k os, w' = grow (w.drewN k) os := Any.internal_strconv_Itoa Tryz.laysM243 n h0 h1 w htab
def Tryz.laysC245_ren : Go.Shelf.Ren := ⟨fun | 245 => 120 | 279 => 132 | 280 => 133 | 281 => 134 | 282 => 135 | 316 => 141 | 171 => 54 | 205 => 142 | 243 => 86 | 246 => 103 | 283 => 108 | 284 => 109 | 285 => 110 | 286 => 111 | 129 => 122 | 317 => 121 | 318 => 123 | 319 => 124 | 320 => 125 | 337 => 136 | 338 => 137 | n => n, fun | 9 => 9 | 3 => 3 | 75 => 39 | 167 => 173 | 4 => 4 | 168 => 176 | 210 => 183 | 37 => 34 | 0 => 0 | 127 => 138 | 145 => 193 | 143 => 191 | 2 => 2 | 171 => 155 | 53 => 105 | 5 => 5 | 173 => 158 | 212 => 165 | 51 => 166 | 20 => 20 | 213 => 167 | 46 => 154 | 232 => 185 | 233 => 186 | 80 => 116 | n => n, fun | 15 => 2 | 16 => 3 | 17 => 1 | 18 => 4 | 19 => 5 | n => n⟩
def Tryz.laysC174_ren : Go.Shelf.Ren := ⟨fun | 174 => 106 | 247 => 119 | 245 => 120 | 287 => 131 | 279 => 132 | 280 => 133 | 281 => 134 | 282 => 135 | 321 => 139 | 322 => 140 | 316 => 141 | 171 => 54 | 205 => 142 | 243 => 86 | 246 => 103 | 283 => 108 | 284 => 109 | 285 => 110 | 286 => 111 | 129 => 122 | 317 => 121 | 318 => 123 | 319 => 124 | 320 => 125 | 337 => 136 | 338 => 137 | n => n, fun | 9 => 9 | 3 => 3 | 2 => 2 | 75 => 39 | 85 => 152 | 4 => 4 | 167 => 173 | 5 => 5 | 53 => 105 | 175 => 174 | 46 => 154 | 168 => 176 | 37 => 34 | 0 => 0 | 210 => 183 | 21 => 21 | 127 => 138 | 145 => 193 | 143 => 191 | 171 => 155 | 173 => 158 | 212 => 165 | 51 => 166 | 20 => 20 | 213 => 167 | 232 => 185 | 233 => 186 | 80 => 116 | n => n, fun | 15 => 2 | 16 => 3 | 17 => 1 | 18 => 4 | 19 => 5 | n => n⟩
theorem Tryz.laysC174 : Go.Proofs.LaysC.n174 Tryz.prog Tryz.laysC174_ren := {
 mixed := by kernel_rfl
 f129 := Tryz.func122.trans (congrArg some (by kernel_rfl))
 f171 := Tryz.func54.trans (congrArg some (by kernel_rfl))
 f174 := Tryz.func106.trans (congrArg some (by kernel_rfl))
 f205 := Tryz.func142.trans (congrArg some (by kernel_rfl))
 f243 := Tryz.func86.trans (congrArg some (by kernel_rfl))
 f245 := Tryz.func120.trans (congrArg some (by kernel_rfl))
 f246 := Tryz.func103.trans (congrArg some (by kernel_rfl))
 f247 := Tryz.func119.trans (congrArg some (by kernel_rfl))
 f279 := Tryz.func132.trans (congrArg some (by kernel_rfl))
 f280 := Tryz.func133.trans (congrArg some (by kernel_rfl))
 f281 := Tryz.func134.trans (congrArg some (by kernel_rfl))
 f282 := Tryz.func135.trans (congrArg some (by kernel_rfl))
 f283 := Tryz.func108.trans (congrArg some (by kernel_rfl))
 f284 := Tryz.func109.trans (congrArg some (by kernel_rfl))
 f285 := Tryz.func110.trans (congrArg some (by kernel_rfl))
 f286 := Tryz.func111.trans (congrArg some (by kernel_rfl))
 f287 := Tryz.func131.trans (congrArg some (by kernel_rfl))
 f316 := Tryz.func141.trans (congrArg some (by kernel_rfl))
 f317 := Tryz.func121.trans (congrArg some (by kernel_rfl))
 f318 := Tryz.func123.trans (congrArg some (by kernel_rfl))
 f319 := Tryz.func124.trans (congrArg some (by kernel_rfl))
 f320 := Tryz.func125.trans (congrArg some (by kernel_rfl))
 f321 := Tryz.func139.trans (congrArg some (by kernel_rfl))
 f322 := Tryz.func140.trans (congrArg some (by kernel_rfl))
 f337 := Tryz.func136.trans (congrArg some (by kernel_rfl))
 f338 := Tryz.func137.trans (congrArg some (by kernel_rfl))
 t0 := Tryz.underlying0
 a0 := Tryz.isAgg0
 z0 := Tryz.sizeOf0
 v0 := Tryz.zeroValue0
 t2 := Tryz.underlying2
 a2 := Tryz.isAgg2
 z2 := Tryz.sizeOf2
 v2 := Tryz.zeroValue2
 t3 := Tryz.underlying3
 a3 := Tryz.isAgg3
 z3 := Tryz.sizeOf3
 v3 := Tryz.zeroValue3
 t4 := Tryz.underlying4
 a4 := Tryz.isAgg4
 z4 := Tryz.sizeOf4
 v4 := Tryz.zeroValue4
 t5 := Tryz.underlying5
 a5 := Tryz.isAgg5
 z5 := Tryz.sizeOf5
 v5 := Tryz.zeroValue5
 t9 := Tryz.underlying9
 a9 := Tryz.isAgg9
 z9 := Tryz.sizeOf9
 v9 := Tryz.zeroValue9
 t20 := Tryz.underlying20
 a20 := Tryz.isAgg20
 z20 := Tryz.sizeOf20
 v20 := Tryz.zeroValue20
 t21 := Tryz.underlying21
 a21 := Tryz.isAgg21
 z21 := Tryz.sizeOf21
 v21 := Tryz.zeroValue21
 t37 := Tryz.underlying34
 a37 := Tryz.isAgg34
 z37 := Tryz.sizeOf34
 v37 := Tryz.zeroValue34
 t46 := Tryz.underlying154
 a46 := Tryz.isAgg154
 z46 := Tryz.sizeOf154
 v46 := Tryz.zeroValue154
 t51 := Tryz.underlying166
 a51 := Tryz.isAgg166
 z51 := Tryz.sizeOf166
 v51 := Tryz.zeroValue166
 t53 := Tryz.underlying105
 a53 := Tryz.isAgg105
 z53 := Tryz.sizeOf105
 v53 := Tryz.zeroValue105
 t75 := Tryz.underlying39
 a75 := Tryz.isAgg39
 z75 := Tryz.sizeOf39
 v75 := Tryz.zeroValue39
 t85 := Tryz.underlying152
 a85 := Tryz.isAgg152
 z85 := Tryz.sizeOf152
 v85 := Tryz.zeroValue152
 t127 := Tryz.underlying138
 a127 := Tryz.isAgg138
 z127 := Tryz.sizeOf138
 v127 := Tryz.zeroValue138
 t143 := Tryz.underlying191
 a143 := Tryz.isAgg191
 z143 := Tryz.sizeOf191
 v143 := Tryz.zeroValue191
 t145 := Tryz.underlying193
 a145 := Tryz.isAgg193
 z145 := Tryz.sizeOf193
 v145 := Tryz.zeroValue193
 t167 := Tryz.underlying173
 a167 := Tryz.isAgg173
 z167 := Tryz.sizeOf173
 v167 := Tryz.zeroValue173
 t168 := Tryz.underlying176
 a168 := Tryz.isAgg176
 z168 := Tryz.sizeOf176
 v168 := Tryz.zeroValue176
 t171 := Tryz.underlying155
 a171 := Tryz.isAgg155
 z171 := Tryz.sizeOf155
 v171 := Tryz.zeroValue155
 t173 := Tryz.underlying158
 a173 := Tryz.isAgg158
 z173 := Tryz.sizeOf158
 v173 := Tryz.zeroValue158
 t175 := Tryz.underlying174
 a175 := Tryz.isAgg174
 z175 := Tryz.sizeOf174
 v175 := Tryz.zeroValue174
 t210 := Tryz.underlying183
 a210 := Tryz.isAgg183
 z210 := Tryz.sizeOf183
 v210 := Tryz.zeroValue183
 t212 := Tryz.underlying165
 a212 := Tryz.isAgg165
 z212 := Tryz.sizeOf165
 v212 := Tryz.zeroValue165
 t213 := Tryz.underlying167
 a213 := Tryz.isAgg167
 z213 := Tryz.sizeOf167
 t232 := Tryz.underlying185
 a232 := Tryz.isAgg185
 z232 := Tryz.sizeOf185
 v232 := Tryz.zeroValue185
 t233 := Tryz.underlying186
 a233 := Tryz.isAgg186
 z233 := Tryz.sizeOf186
 v233 := Tryz.zeroValue186
 g15 := by kernel_rfl
 g16 := by kernel_rfl
 g17 := by kernel_rfl
 g18 := by kernel_rfl
 g19 := by kernel_rfl
 t80 := Tryz.underlying116
 a80 := Tryz.isAgg116
 z80 := Tryz.sizeOf116
 v80 := Tryz.zeroValue116
 i0 := by kernel_rfl
 i2 := by kernel_rfl
 i3 := by kernel_rfl
 i4 := by kernel_rfl
 i5 := by kernel_rfl
 i9 := by kernel_rfl
 i20 := by kernel_rfl
 i21 := by kernel_rfl
 i37 := by kernel_rfl
 i46 := by kernel_rfl
 i51 := by kernel_rfl
 i53 := by kernel_rfl
 i75 := by kernel_rfl
 i80 := by kernel_rfl
 i85 := by kernel_rfl
 i127 := by kernel_rfl
 i143 := by kernel_rfl
 i145 := by kernel_rfl
 i167 := by kernel_rfl
 i168 := by kernel_rfl
 i171 := by kernel_rfl
 i173 := by kernel_rfl
 i175 := by kernel_rfl
 i210 := by kernel_rfl
 i212 := by kernel_rfl
 i232 := by kernel_rfl
 i233 := by kernel_rfl
 m15 := by kernel_rfl
 m16 := by kernel_rfl
 m17 := by kernel_rfl
 m18 := by kernel_rfl
 m19 := by kernel_rfl
 c0 := by kernel_rfl
 c2 := by kernel_rfl
 c3 := by kernel_rfl
 c4 := by kernel_rfl
 c5 := by kernel_rfl
 c9 := by kernel_rfl
 c20 := by kernel_rfl
 c21 := by kernel_rfl
 c37 := by kernel_rfl
 c46 := by kernel_rfl
 c51 := by kernel_rfl
 c53 := by kernel_rfl
 c75 := by kernel_rfl
 c80 := by kernel_rfl
 c85 := by kernel_rfl
 c127 := by kernel_rfl
 c143 := by kernel_rfl
 c145 := by kernel_rfl
 c167 := by kernel_rfl
 c168 := by kernel_rfl
 c171 := by kernel_rfl
 c173 := by kernel_rfl
 c175 := by kernel_rfl
 c210 := by kernel_rfl
 c212 := by kernel_rfl
 c213 := by kernel_rfl
 c232 := by kernel_rfl
 c233 := by kernel_rfl }
open Go.RowKit in
theorem Tryz.strconv_ParseInt_10_at64_ok (s : ByteArray) (hmax : s.size ≤ 9223372036854775806) (v : Int) (h : Lib.parseIntB 64 s.data.toList = .ok v) (w : World) :
  Calls Tryz.prog 106 #[.string s, .int .i64 10, .int .i64 64] w fun e w' => e = .returned (.tuple #[.int .i64 v, .nilIface]) ∧ (w' = w ∨ ∃ t, w' = Lib.bytesWorld w 5 t) := Any.strconv_ParseInt_10_at64_ok Tryz.laysC174 s hmax v h w
open Go.RowKit in
theorem Tryz.strconv_ParseInt_10_at64_syntax (s : ByteArray) (hlim : s.size ≤ 281474976710656) (h : Lib.parseIntB 64 s.data.toList = Lib.parseIntB 64 []) (ev : Value) (w : World) (hv : w.cell? ⟨2, 0, none⟩ = some ev) (hev : ev = .nilIface ∨ ∃ te pe, ev = .iface te pe) :
  Calls Tryz.prog 106 #[.string s, .int .i64 10, .int .i64 64] w fun e w' => ∃ N, e = .returned (.tuple #[.int .i64 (0), .iface 176 (.pointer (some ⟨N, 0, none⟩))]) ∧ w.heap.size ≤ N ∧ w'.heap[N]? = some (.cells #[.string ⟨#[80, 97, 114, 115, 101, 73, 110, 116]⟩, .string s, ev] 183 (0, 0)) ∧ Below w.heap.size w w' := Any.strconv_ParseInt_10_at64_syntax Tryz.laysC174 s hlim h ev w hv hev
open Go.RowKit in
theorem Tryz.strconv_ParseInt_10_at64_range (s : ByteArray) (hlim : s.size ≤ 281474976710656) (h : Lib.parseIntB 64 s.data.toList = .range) (ev : Value) (w : World) (hv : w.cell? ⟨3, 0, none⟩ = some ev) (hev : ev = .nilIface ∨ ∃ te pe, ev = .iface te pe) :
  Calls Tryz.prog 106 #[.string s, .int .i64 10, .int .i64 64] w fun e w' => ∃ N, e = .returned (.tuple #[.int .i64 (Lib.intSat 64 s.data.toList), .iface 176 (.pointer (some ⟨N, 0, none⟩))]) ∧ w.heap.size ≤ N ∧ w'.heap[N]? = some (.cells #[.string ⟨#[80, 97, 114, 115, 101, 73, 110, 116]⟩, .string s, ev] 183 (0, 0)) ∧ Below w.heap.size w w' := Any.strconv_ParseInt_10_at64_range Tryz.laysC174 s hlim h ev w hv hev
def Tryz.lays219_ren : Go.Shelf.Ren := ⟨fun | 219 => 104 | 217 => 112 | 225 => 113 | 224 => 114 | 267 => 115 | 266 => 126 | 314 => 127 | n => n, fun | 9 => 9 | 3 => 3 | 4 => 4 | 5 => 5 | 46 => 154 | 146 => 169 | 51 => 166 | n => n, fun | 1 => 0 | n => n⟩
def Tryz.lays145_ren : Go.Shelf.Ren := ⟨fun | 145 => 60 | 220 => 88 | 219 => 104 | 217 => 112 | 225 => 113 | 224 => 114 | 267 => 115 | 266 => 126 | 314 => 127 | n => n, fun | 9 => 9 | 4 => 4 | 59 => 119 | 3 => 3 | 5 => 5 | 46 => 154 | 146 => 169 | 51 => 166 | n => n, fun | 1 => 0 | n => n⟩
theorem Tryz.lays145 : Go.Proofs.Lays.n145 Tryz.prog Tryz.lays145_ren := {
 mixed := by kernel_rfl
 f145 := Tryz.func60.trans (congrArg some (by kernel_rfl))
 f217 := Tryz.func112.trans (congrArg some (by kernel_rfl))
 f219 := Tryz.func104.trans (congrArg some (by kernel_rfl))
 f220 := Tryz.func88.trans (congrArg some (by kernel_rfl))
 f224 := Tryz.func114.trans (congrArg some (by kernel_rfl))
 f225 := Tryz.func113.trans (congrArg some (by kernel_rfl))
 f266 := Tryz.func126.trans (congrArg some (by kernel_rfl))
 f267 := Tryz.func115.trans (congrArg some (by kernel_rfl))
 f314 := Tryz.func127.trans (congrArg some (by kernel_rfl))
 t3 := Tryz.underlying3
 a3 := Tryz.isAgg3
 z3 := Tryz.sizeOf3
 v3 := Tryz.zeroValue3
 t4 := Tryz.underlying4
 a4 := Tryz.isAgg4
 z4 := Tryz.sizeOf4
 v4 := Tryz.zeroValue4
 t5 := Tryz.underlying5
 a5 := Tryz.isAgg5
 z5 := Tryz.sizeOf5
 v5 := Tryz.zeroValue5
 t9 := Tryz.underlying9
 a9 := Tryz.isAgg9
 z9 := Tryz.sizeOf9
 v9 := Tryz.zeroValue9
 t46 := Tryz.underlying154
 a46 := Tryz.isAgg154
 z46 := Tryz.sizeOf154
 v46 := Tryz.zeroValue154
 t51 := Tryz.underlying166
 a51 := Tryz.isAgg166
 z51 := Tryz.sizeOf166
 v51 := Tryz.zeroValue166
 t59 := Tryz.underlying119
 a59 := Tryz.isAgg119
 z59 := Tryz.sizeOf119
 v59 := Tryz.zeroValue119
 t146 := Tryz.underlying169
 a146 := Tryz.isAgg169
 z146 := Tryz.sizeOf169
 v146 := Tryz.zeroValue169
 g1 := by kernel_rfl }
open Go.RowKit Go.Lib in
theorem Tryz.strings_Cut (s sep : ByteArray) (m : Int) (w : World) (hs : s.size < 4294967281) (hm : w.cell? ⟨0, 0, none⟩ = some (.int .i64 m)) :
  Calls Tryz.prog 60 #[.string s, .string sep] w fun e w' => e = .returned (.tuple #[.string ⟨(Lib.cut s.data.toList sep.data.toList).1.toArray⟩, .string ⟨(Lib.cut s.data.toList sep.data.toList).2.1.toArray⟩, .bool (Lib.cut s.data.toList sep.data.toList).2.2]) ∧ ∃ n, w' = w.drewN n := Any.strings_Cut Tryz.lays145 s sep m w hs hm
def Tryz.lays221_ren : Go.Shelf.Ren := ⟨fun | 221 => 105 | 268 => 116 | 138 => 117 | 143 => 118 | 195 => 128 | 197 => 129 | 218 => 130 | 219 => 104 | 260 => 138 | 217 => 112 | 225 => 113 | 224 => 114 | 267 => 115 | 266 => 126 | 314 => 127 | n => n, fun | 9 => 9 | 3 => 3 | 31 => 139 | 4 => 4 | 0 => 0 | 105 => 171 | 21 => 21 | 5 => 5 | 46 => 154 | 119 => 187 | 139 => 190 | 138 => 189 | 146 => 169 | 51 => 166 | n => n, fun | 1 => 0 | 3 => 6 | 4 => 7 | n => n⟩
def Tryz.lays146_ren : Go.Shelf.Ren := ⟨fun | 146 => 89 | 221 => 105 | 268 => 116 | 138 => 117 | 143 => 118 | 195 => 128 | 197 => 129 | 218 => 130 | 219 => 104 | 260 => 138 | 217 => 112 | 225 => 113 | 224 => 114 | 267 => 115 | 266 => 126 | 314 => 127 | n => n, fun | 9 => 9 | 31 => 139 | 3 => 3 | 4 => 4 | 0 => 0 | 105 => 171 | 21 => 21 | 5 => 5 | 46 => 154 | 119 => 187 | 139 => 190 | 138 => 189 | 146 => 169 | 51 => 166 | n => n, fun | 1 => 0 | 3 => 6 | 4 => 7 | n => n⟩
theorem Tryz.lays146 : Go.Proofs.Lays.n146 Tryz.prog Tryz.lays146_ren := {
 mixed := by kernel_rfl
 f138 := Tryz.func117.trans (congrArg some (by kernel_rfl))
 f143 := Tryz.func118.trans (congrArg some (by kernel_rfl))
 f146 := Tryz.func89.trans (congrArg some (by kernel_rfl))
 f195 := Tryz.func128.trans (congrArg some (by kernel_rfl))
 f197 := Tryz.func129.trans (congrArg some (by kernel_rfl))
 f217 := Tryz.func112.trans (congrArg some (by kernel_rfl))
 f218 := Tryz.func130.trans (congrArg some (by kernel_rfl))
 f219 := Tryz.func104.trans (congrArg some (by kernel_rfl))
 f221 := Tryz.func105.trans (congrArg some (by kernel_rfl))
 f224 := Tryz.func114.trans (congrArg some (by kernel_rfl))
 f225 := Tryz.func113.trans (congrArg some (by kernel_rfl))
 f260 := Tryz.func138.trans (congrArg some (by kernel_rfl))
 f266 := Tryz.func126.trans (congrArg some (by kernel_rfl))
 f267 := Tryz.func115.trans (congrArg some (by kernel_rfl))
 f268 := Tryz.func116.trans (congrArg some (by kernel_rfl))
 f314 := Tryz.func127.trans (congrArg some (by kernel_rfl))
 t0 := Tryz.underlying0
 a0 := Tryz.isAgg0
 z0 := Tryz.sizeOf0
 v0 := Tryz.zeroValue0
 t3 := Tryz.underlying3
 a3 := Tryz.isAgg3
 z3 := Tryz.sizeOf3
 v3 := Tryz.zeroValue3
 t4 := Tryz.underlying4
 a4 := Tryz.isAgg4
 z4 := Tryz.sizeOf4
 v4 := Tryz.zeroValue4
 t5 := Tryz.underlying5
 a5 := Tryz.isAgg5
 z5 := Tryz.sizeOf5
 v5 := Tryz.zeroValue5
 t9 := Tryz.underlying9
 a9 := Tryz.isAgg9
 z9 := Tryz.sizeOf9
 v9 := Tryz.zeroValue9
 t21 := Tryz.underlying21
 a21 := Tryz.isAgg21
 z21 := Tryz.sizeOf21
 v21 := Tryz.zeroValue21
 t31 := Tryz.underlying139
 a31 := Tryz.isAgg139
 z31 := Tryz.sizeOf139
 v31 := Tryz.zeroValue139
 t46 := Tryz.underlying154
 a46 := Tryz.isAgg154
 z46 := Tryz.sizeOf154
 v46 := Tryz.zeroValue154
 t51 := Tryz.underlying166
 a51 := Tryz.isAgg166
 z51 := Tryz.sizeOf166
 v51 := Tryz.zeroValue166
 t105 := Tryz.underlying171
 a105 := Tryz.isAgg171
 z105 := Tryz.sizeOf171
 v105 := Tryz.zeroValue171
 t119 := Tryz.underlying187
 a119 := Tryz.isAgg187
 z119 := Tryz.sizeOf187
 t138 := Tryz.underlying189
 a138 := Tryz.isAgg189
 z138 := Tryz.sizeOf189
 v138 := Tryz.zeroValue189
 t139 := Tryz.underlying190
 a139 := Tryz.isAgg190
 z139 := Tryz.sizeOf190
 v139 := Tryz.zeroValue190
 t146 := Tryz.underlying169
 a146 := Tryz.isAgg169
 z146 := Tryz.sizeOf169
 v146 := Tryz.zeroValue169
 g1 := by kernel_rfl
 g3 := by kernel_rfl
 g4 := by kernel_rfl }
open Go.RowKit Go.Lib in
theorem Tryz.strings_Split (s sep : ByteArray) (m : Int) (w : World) (hs : s.size < 4294967281) (hm : w.cell? ⟨0, 0, none⟩ = some (.int .i64 m)) (h1 : 1 ≤ sep.size) :
  Calls Tryz.prog 89 #[.string s, .string sep] w fun e w' =>
   e = .returned (.slice (some ⟨w.heap.size, 0, none⟩) (Lib.countB s sep + 1) (Lib.countB s sep + 1)) ∧ w' = w.alloc (.cells ((Lib.splitB sep 0 (Lib.countB s sep) s).map Value.string).toArray 9) := Any.strings_Split Tryz.lays146 (by kernel_rfl) s sep m w hs hm h1
end Go.Proofs
end

section
namespace Go.Proofs.YtmfgofbcnlkolaaGreatDoor.F
open Go Go.Den Go.Proofs
def bv (x : Int) : Value := .int .u8 x
theorem row_fr {S : List Nat} {w w' : World} {B n : Nat} {v : Value} {xs : List Value} (h : w.ownsRow B 5 1 v n xs) (hf : Fr S w w') (hn : ∀ k ∈ v.ownBlock.toList, k ∉ S) : w'.ownsRow B 5 1 v n xs := by
 obtain ⟨h1, h2⟩ := h
 refine ⟨h1, ?_⟩
 rcases h2 with h2 | ⟨g, cap, cur, rfl, a1, a2, a3⟩
 ·exact .inl h2
 ·have hg : g < w.heap.size := (Array.getElem?_eq_some_iff.1 a2).1
  exact .inr ⟨g, cap, cur, rfl, a1, (hf.block g hg (hn g (by simp [Value.ownBlock]))).trans a2, a3⟩
theorem row_lt {w : World} {B n : Nat} {v : Value} {xs : List Value} (h : w.ownsRow B 5 1 v n xs) : ∀ k ∈ v.ownBlock.toList, k < w.heap.size := by
 obtain ⟨h1, h2⟩ := h
 rcases h2 with ⟨rfl, _⟩ | ⟨g, cap, cur, rfl, a1, a2, a3⟩
 ·simp [Value.ownBlock]
 ·intro k hk
  simp [Value.ownBlock] at hk
  subst hk
  exact (Array.getElem?_eq_some_iff.1 a2).1
def tBld (B b : Nat) (l : List Int) : Thing :=
  { holds := fun w O => ∃ (p : Option Addr) (v : Value), (p = none ∨ p = some ⟨b, 0, none⟩) ∧ B ≤ b ∧ w.heap[b]? = some (.cells #[.pointer p, v] 112 (0, 0)) ∧ w.ownsRow B 5 1 v l.length (l.map bv) ∧ v.ownBlock ≠ some b ∧ O = b :: v.ownBlock.toList
    fr := fun {S w w' O} h hf hn => by
      obtain ⟨p, v, h1, h2, h3, h4, h5, rfl⟩ := h
      have hb : b < w.heap.size := (Array.getElem?_eq_some_iff.1 h3).1
      exact ⟨p, v, h1, h2, (hf.block b hb (hn b (by simp))).trans h3, row_fr h4 hf fun k hk => hn k (by simp [hk]), h5, rfl⟩
    lt := fun {w O} h k hk => by
      obtain ⟨p, v, h1, h2, h3, h4, h5, rfl⟩ := h
      rcases List.mem_cons.1 hk with rfl | hk
      · exact (Array.getElem?_eq_some_iff.1 h3).1
      · exact row_lt h4 k hk }
theorem und110 : Tryz.prog.underlying 110 = some (.pointer 112) := by kernel_rfl
theorem und148 : Tryz.prog.underlying 148 = some .unsafePointer := by kernel_rfl
theorem inf112 : ∃ inf : TypeInfo, Tryz.prog.info? 112 = some inf ∧ inf.zero = some (.agg #[.pointer none, .slice none 0 0]) ∧ inf.size = 2 ∧ inf.bytes = 32 := infoP (by kernel_rfl)
theorem und34' : Tryz.prog.underlying 34 = some (.slice 5) := by kernel_rfl
theorem und9' : Tryz.prog.underlying 9 = some .string := by kernel_rfl
theorem bv_strCells (s : ByteArray) : Lib.strCells s = (strL s).map bv := by
 rw [strCells_fm, List.map_eq_flatMap]; rfl
section
variable {S : List Nat} {w0 w : World} {its rest : List Thing}
theorem copyCheck_spec (h : Hp S w0 w its) (i : Nat) {B b : Nat} {l : List Int} (hi : its[i]? = some (tBld B b l)) {K : World → Prop} (hK : ∀ w', Hp S w0 w' its → K w') : c85 (some ⟨b, 0, none⟩) w K := by
 refine c85_of ?_
 unfold f85
 rw [NN_some]
 obtain ⟨O, hO, back⟩ := h.step hi rfl
 obtain ⟨p, v, h1, h2, h3, h4, h5, rfl⟩ := hO
 have hc : w.cell? ⟨b, 0, none⟩ = some (.pointer p) := by simp [World.cell?, h3]
 have hz : w.frozen? ⟨b, 0, none⟩ = false := by simp [World.frozen?, h3]
 have hsh : w.shape? b = some (112, 2) := by simp [World.shape?, h3]
 obtain ⟨inf, i1, i2, i3, i4⟩ := inf112
 refine ⟨p, hc, ?_⟩
 rcases h1 with rfl | rfl
 ·refine ifT rfl ?_
  refine ⟨.pointer (some ⟨b, 0, none⟩), w, Lib.run_to_unsafe w ⟨b, 0, none⟩ und110 und148 i1 (by rw [i3]; decide) hsh (by simp), ?_⟩
  refine ⟨.pointer (some ⟨b, 0, none⟩), w, by kernel_rfl, ?_⟩
  refine ⟨some ⟨b, 0, none⟩, w, Lib.run_from_unsafe w ⟨b, 0, none⟩ und148 und110 i1 hsh (by kernel_rfl), ?_⟩
  dsimp only
  rw [NN_some]
  refine ⟨rfl, by rw [hc]; rfl, hz, ?_⟩
  have e : its.set i (tBld B b l) = its := Hp.set_same' hi
  refine hK _ ?_
  rw [← e]
  refine back (t' := tBld B b l) (O' := b :: v.ownBlock.toList) (Fr.mono (Fr.set 0 _) (by simp)) ?_ (fun k hk => .inl hk) rfl
  refine ⟨some ⟨b, 0, none⟩, v, .inr rfl, h2, ?_, row_fr h4 (Fr.set (w := w) (b := b) 0 (.pointer (some ⟨b, 0, none⟩))) (fun k hk => ?_), h5, rfl⟩
  ·simp [World.setCell, Array.getElem?_modify, h3]
  ·intro e
   simp only [List.mem_singleton] at e
   subst e
   exact h5 (by simpa using hk)
 ·refine ifF (by simp) ?_
  rw [NN_some]
  refine ⟨some ⟨b, 0, none⟩, hc, ?_⟩
  refine ⟨false, fun w' _ => ?_, ifF (by decide) (hK w h)⟩
  have := Lib.run_neq_ptr_same w' ⟨b, 0, none⟩ und110 i1
  unfold binSem
  simp [run_eqGuard_plain (P := Tryz.prog) (w := w') (op := .neq) (t := 110) (x := .tmp 17) (y := .tmp 18) (a := .pointer (some ⟨b, 0, none⟩)) (b := .pointer (some ⟨b, 0, none⟩)) rfl (by simp), this, Kd.inj]
theorem WriteString_spec (h : Hp S w0 w its) (i : Nat) {B b : Nat} {l : List Int} (hi : its[i]? = some (tBld B b l)) (s : ByteArray) (hl : l.length + s.size ≤ 140737488355328) {K : Int → Value → World → Prop} (hK : ∀ w', Hp S w0 w' (its.set i (tBld B b (l ++ strL s))) → K (s.size : Int) .nilIface w') : c53 (some ⟨b, 0, none⟩) s w K := by
 refine c53_of ?_
 unfold f53
 refine copyCheck_spec h i hi fun w h => ?_
 rw [NN_some]
 obtain ⟨O, hO, back⟩ := h.step hi rfl
 obtain ⟨p, v, h1, h2, h3, h4, h5, rfl⟩ := hO
 have hb : b < w.heap.size := (Array.getElem?_eq_some_iff.1 h3).1
 obtain ⟨inf, i1, i2, i3, i4⟩ := inf5
 have hv : ∃ buf : Sl, v = .slice buf.a buf.len buf.cap := by
  rcases h4.2 with ⟨rfl, _⟩ | ⟨g, cap, cur, rfl, _⟩
  ·exact ⟨⟨none, 0, 0⟩, rfl⟩
  ·exact ⟨⟨_, _, _⟩, rfl⟩
 obtain ⟨buf, rfl⟩ := hv
 refine ⟨buf, ?_, ?_⟩
 ·show w.cell? ⟨b, 1, none⟩ = _
  simp [World.cell?, h3, Kd.inj]
 obtain ⟨v', w2, hr, g1, g2, g3⟩ := Lib.run_append_own_string (P := Tryz.prog) w B 34 9 34 5 inf und34' und9' i1 i2 i3 i4 _ _ _ h4 s (by unfold maxLen; omega) hl (by omega)
 have hS : SlF w buf 5 1 u8v l (Value.slice buf.a buf.len buf.cap).ownBlock.toList := by
  obtain ⟨k1, k2⟩ := h4
  rcases k2 with ⟨k2, k3⟩ | ⟨g, cap, cur, k2, a1, a2, a3, a4, a5, a6⟩
  ·simp only [Value.slice.injEq] at k2
   obtain ⟨k2, k4, k5⟩ := k2
   refine ⟨by omega, .inl ⟨k2, k4, k5, by rw [k2]; rfl⟩⟩
  ·simp only [Value.slice.injEq] at k2
   obtain ⟨k2, k4, k5⟩ := k2
   refine ⟨k4.symm, .inr ⟨g, 0, cur.toList, k2, by rw [k2]; rfl, ?_, by omega, ?_, ?_⟩⟩
   ·show w.heap[g]? = some (.cells cur.toList.toArray 5 (0, 0))
    simpa using a2
   ·rw [Array.length_toList]; omega
   ·rw [List.drop_zero, k4, a6, List.map_eq_flatMap]; rfl
 obtain ⟨s2, w2', hr2, o', q1, q2, q3⟩ : Run .sl Tryz.prog (Builtin.append_ #[34, 9] 34 #[.slice buf.a buf.len buf.cap, .string s]) w (fun s' w' => ∃ o', SlF w' s' 5 1 u8v (l ++ strL s) o' ∧ (o' = (Value.slice buf.a buf.len buf.cap).ownBlock.toList ∨ ∃ k, w.heap.size ≤ k ∧ k < w'.heap.size ∧ o' = [k]) ∧ Fr (Value.slice buf.a buf.len buf.cap).ownBlock.toList w w') :=
  SlF.appT und34' und9' i1 i3 i2 i4 hS (by have := hS.1; omega) (fun s' w' o' a1 _ a3 a4 => ⟨o', a1, a3, a4⟩)
 rw [hr] at hr2
 simp only [Result.ok.injEq] at hr2
 obtain ⟨hv', rfl⟩ := hr2
 have hv' : v' = .slice s2.a s2.len s2.cap := hv'
 subst hv'
 refine ⟨s2, w2, hr, ?_⟩
 dsimp only
 rw [NN_some]
 have hb2 : w2.heap[b]? = some (.cells #[.pointer p, .slice buf.a buf.len buf.cap] 112 (0, 0)) := (g2.block b hb fun e => h5 e.symm).trans h3
 have hown : w2.ownsRow B 5 1 (.slice s2.a s2.len s2.cap) (((l ++ strL s).map bv).length) ((l ++ strL s).map bv) := by
  rw [bv_strCells, ← List.map_append] at g1
  have : ((l ++ strL s).map bv).length = l.length + s.size := by simp [strL_len]
  rw [this]
  exact g1
 obtain ⟨z1, v3, z2, z3, z4⟩ := Lib.BuilderAt.put h2 hb2 hown (by decide)
 refine ⟨rfl, ?_, ?_, hK _ (back (t' := tBld B b (l ++ strL s)) (O' := b :: (Value.slice s2.a s2.len s2.cap).ownBlock.toList) ?_ ⟨p, .slice s2.a s2.len s2.cap, h1, h2, ?_, ?_, ?_, rfl⟩ ?_ rfl)⟩
 ·show (w2.cell? ⟨b, 1, none⟩).isSome = true
  simp [World.cell?, hb2]
 ·show w2.frozen? ⟨b, 1, none⟩ = false
  simp [World.frozen?, hb2]
 ·have hf1 : Fr (b :: (Value.slice buf.a buf.len buf.cap).ownBlock.toList) w w2 := Fr.mono q3 (by simp +contextual)
  have hf2 : Fr [b] w2 (w2.setCell ⟨b, 1, none⟩ (.slice s2.a s2.len s2.cap)) := Fr.set 1 _
  exact Fr.trans hf1 hf2 (by simp)
 ·show (w2.setCell ⟨b, 1, none⟩ (.slice s2.a s2.len s2.cap)).heap[b]? = _
  simp [World.setCell, Array.getElem?_modify, hb2]
 ·have hw : (w2.setCell ⟨b, 1, none⟩ (.slice s2.a s2.len s2.cap)).ownsRow B 5 1 (.slice s2.a s2.len s2.cap) (((l ++ strL s).map bv).length) ((l ++ strL s).map bv) := by
   refine row_fr hown (Fr.set (b := b) 1 (.slice s2.a s2.len s2.cap)) ?_
   intro k hk e
   simp only [List.mem_singleton] at e
   subst e
   have := Lib.ownBlock_ne hown hb2 (by decide)
   exact this (by simpa using hk)
  rw [List.length_map] at hw
  exact hw
 ·exact Lib.ownBlock_ne hown hb2 (by decide)
 ·intro k hk
  rcases List.mem_cons.1 hk with rfl | hk
  ·exact .inl (by simp)
  ·have ho : (Value.slice s2.a s2.len s2.cap).ownBlock.toList = o' ∨ (Value.slice s2.a s2.len s2.cap).ownBlock.toList = [] := by
    rcases q1.2 with ⟨e1, _, _, e2⟩ | ⟨g, off, c, e1, e2, _⟩
    ·right; rw [e1]; rfl
    ·left; rw [e1, e2]; rfl
   rcases ho with ho | ho
   ·rw [ho] at hk
    rcases q2 with rfl | ⟨k', r1, r2, rfl⟩
    ·exact .inl (by simp [hk])
    ·simp only [List.mem_singleton] at hk
     subst hk
     exact .inr r1
   ·rw [ho] at hk; cases hk
theorem bld_new (h : Hp S w0 w its) {K : Addr → World → Prop} (hK : ∀ b w', Hp S w0 w' (its ++ [tBld w0.heap.size b []]) → K ⟨b, 0, none⟩ w') : Nw (.cells #[.pointer none, .slice none 0 0] 112) w K := by
 refine hK w.heap.size _ (h.grow (t := tBld w0.heap.size w.heap.size []) (O := [w.heap.size]) (Fr.alloc w _) ⟨none, .slice none 0 0, .inl rfl, h.fr.size, ?_, World.ownsRow_nil _ _ _ _, by simp [Value.ownBlock], rfl⟩ (by simp) rfl)
 exact heap_alloc_new w _
theorem frNil (h : Fr [] w0 w) : Hp [] w0 w [] := ⟨h, fun _ => [], by simp, by simp⟩
theorem String_spec (h : Hp [] w0 w its) (i : Nat) {b : Nat} {l : List Int} (hi : its[i]? = some (tBld w0.heap.size b l)) (hb : Bytes l) {K : ByteArray → World → Prop} (hK : ∀ w', Hp [] w0 w' [] → K (strOf l) w') : c56 (some ⟨b, 0, none⟩) w K := by
 obtain ⟨O, hO⟩ := h.see hi
 obtain ⟨p, v, h1, h2, h3, h4, h5, rfl⟩ := hO
 have hl : Lib.byteCells (strOf l).data.toList = l.map bv := by
  have : Lib.strCells (strOf l) = l.map bv := by rw [bv_strCells, strL_of hb]
  exact this
 have hx : Lib.IsBuilder 112 5 w0.heap.size b (Lib.byteCells (strOf l).data.toList) w := by
  rw [hl]
  have h4 : w.ownsRow w0.heap.size 5 1 v (l.map bv).length (l.map bv) := by rw [List.length_map]; exact h4
  rcases h1 with rfl | rfl
  ·exact .inl ⟨h2, v, h3, h4, h5⟩
  ·exact .inr ⟨h2, v, h3, h4, h5⟩
 refine Calls.mono (Tryz.Builder_String_any w0.heap.size b (strOf l).data.toList w hx h.fr.size) fun e w' ⟨he, hw⟩ => ?_
 subst he
 refine ⟨_, rfl, ?_⟩
 have e : (⟨(strOf l).data.toList.toArray⟩ : ByteArray) = strOf l := by simp
 rw [e]
 refine hK w' (frNil ⟨hw.os.trans h.fr.os, hw.tape.trans h.fr.tape, hw.output.trans h.fr.output, Nat.le_trans h.fr.size hw.size, fun k hk hn => ?_⟩)
 exact (hw.block k hk).trans (h.fr.block k hk hn)
end
abbrev TabW (w : World) : Prop := Lib.TabIs Tryz.prog w "internal/strconv.uint64pow10" .u64 Lib.pow10Tab
theorem tab_fr {w w' : World} (h : TabW w) (hf : Fr [] w w') : TabW w' := by
 unfold TabW Lib.TabIs World.var? at *
 cases hg : Tryz.prog.globalNamed "internal/strconv.uint64pow10" with
 | none => simp [hg] at h
 | some g =>
  simp only [hg, Option.bind_some] at h ⊢
  have hlt : g < w.heap.size := by
   rcases Nat.lt_or_ge g w.heap.size with h' | h'
   ·exact h'
   ·rw [Array.getElem?_eq_none h'] at h; simp at h
  rw [hf.block g hlt (by simp)]
  exact h
theorem strL_append' (a b : ByteArray) : strL (a ++ b) = strL a ++ strL b := by
 unfold strL
 rw [ByteArray.data_append, Array.toList_append, List.map_append]
def dec (n : Int) : ByteArray := ⟨(Lib.itoa n).toArray⟩
def decL (n : Int) : List Int := strL (dec n)
theorem dec_size {n : Int} (h0 : -9223372036854775808 ≤ n) (h1 : n ≤ 9223372036854775807) : (dec n).size ≤ 21 := by
 show (Lib.itoa n).toArray.size ≤ 21
 rw [List.size_toArray]
 unfold Lib.itoa
 split
 ·rw [List.length_cons, Lib.decDigits_length]
  have := Lib.nDigits_le20 n.natAbs (by omega)
  omega
 ·rw [Lib.decDigits_length]
  have := Lib.nDigits_le20 n.toNat (by omega)
  omega
def lineL (x : Ins) : List Int := strL (row x.1).word ++ (if (row x.1).num = true then 32 :: decL x.2 else [])
def headL (r : RT) : List Int := strL r.nm ++ 32 :: (decL r.pa ++ 32 :: (decL r.lo ++ [10]))
def listL (r : RT) : List Int := headL r ++ r.code.flatMap fun x => lineL x ++ [10]
def visM (c : Int) : Bool := decide (33 ≤ c) && decide (c ≤ 126)
def listedM (s : ByteArray) : Bool := (strL s).all visM && decide (s.size ≠ 0) && decide (s.size ≤ 16)
def listM (r : RT) : Bool := listedM r.nm && writtenM r 2000
def listS (r : RT) : ByteArray := if listM r = true then strOf (listL r) else ⟨#[]⟩
theorem word_size (op : Int) : (row op).word.size ≤ 5 := by
 cases hi : isOpM op with
 | false => rw [row_no hi]; decide
 | true =>
  obtain ⟨n, rfl, hn⟩ := op_of hi
  have key : ∀ k : Fin 40, (tab.getD k.val noRw).word.size ≤ 5 := by decide
  unfold row
  rw [if_pos hi]
  exact key ⟨n + 1, by omega⟩
theorem lineL_len {x : Ins} (h0 : -9223372036854775808 ≤ x.2) (h1 : x.2 ≤ 9223372036854775807) : (lineL x).length ≤ 27 := by
 have h2 := word_size x.1
 have h3 := dec_size h0 h1
 unfold lineL decL
 rw [List.length_append, strL_len]
 split
 ·rw [List.length_cons, strL_len]; omega
 ·simp; omega
section
variable {w0 w : World} {its rest : List Thing}
theorem frOfBelow {w w' : World} (h : RowKit.Below w.heap.size w w') : Fr [] w w' := ⟨h.os, h.tape, h.output, h.size, fun k hk _ => h.block k hk⟩
theorem Itoa_spec (h : Hp [] w0 w its) (hT : TabW w0) {n : Int} (h0 : -9223372036854775808 ≤ n) (h1 : n ≤ 9223372036854775807) {K : ByteArray → World → Prop} (hK : ∀ w', Hp [] w0 w' its → K (dec n) w') : c54 n w K := by
 refine c54_of ?_
 unfold f54
 refine Calls.mono (Tryz.internal_strconv_Itoa n h0 h1 w (tab_fr hT h.fr)) fun e w' ⟨he, k, os, hw⟩ => ?_
 subst he hw
 exact ⟨_, rfl, hK _ (h.keep (frOfBelow (Lib.below_grow _ w (Nat.le_refl _) k os)))⟩
theorem Format_spec (h : Hp [] w0 w its) (hT : TabW w0) {n : Int} (h0 : -9223372036854775808 ≤ n) (h1 : n ≤ 9223372036854775807) {K : ByteArray → World → Prop} (hK : ∀ w', Hp [] w0 w' its → K (dec n) w') : c87 n 10 w K := by
 refine c87_of ?_
 unfold f87
 refine Calls.mono (Tryz.internal_strconv_FormatInt_10 n h0 h1 w (tab_fr hT h.fr)) fun e w' ⟨he, k, os, hw⟩ => ?_
 subst he hw
 exact ⟨_, rfl, hK _ (h.keep (frOfBelow (Lib.below_grow _ w (Nat.le_refl _) k os)))⟩
theorem strL_at {s : ByteArray} {k : Nat} (h : k < s.size) : ∃ b : UInt8, s[k]? = some b ∧ (strL s)[k]? = some (b.toNat : Int) := by
 refine ⟨s[k], getElem?_pos s k h, ?_⟩
 unfold strL
 rw [List.getElem?_map, Array.getElem?_toList]
 have : s.data[k]? = some s[k] := by
  rw [Array.getElem?_eq_getElem (by exact h)]; rfl
 rw [this]; rfl
theorem listed_spec {nm : ByteArray} (hn : nm.size ≤ 140737488355328) {K : Bool → World → Prop} (hK : K (listedM nm) w) : c51 nm w K := by
 refine c51_of ?_
 unfold f51
 refine ⟨fun t m w' => ∃ k : Nat, t = k ∧ k ≤ nm.size ∧ m = nm.size - k ∧ w' = w ∧ (strL nm).all visM = ((strL nm).drop k).all visM, ⟨_, 0, rfl, by omega, rfl, rfl, rfl⟩, ?_⟩
 rintro t m w' ⟨k, rfl, hk, rfl, hw, ha⟩
 obtain rfl := hw.symm
 have hl := strL_len nm
 by_cases hend : k = nm.size
 ·refine ifF (by simp; omega) ?_
  rw [List.drop_of_length_le (by omega)] at ha
  have e : cond (!(nm.toList == (⟨#[]⟩ : ByteArray).toList)) (decide ((nm.size : Int) ≤ 16)) false = listedM nm := by
   unfold listedM
   rw [ha, str_beq]
   have : (strL nm = strL ⟨#[]⟩) ↔ nm.size = 0 := by
    rw [show strL (⟨#[]⟩ : ByteArray) = [] from rfl, ← hl]; exact ⟨fun h => by rw [h]; rfl, fun h => List.length_eq_zero_iff.1 h⟩
   by_cases h0 : nm.size = 0
   ·simp [this, h0]
   ·simp [this, h0]; omega
  rw [e]; exact hK
 ·obtain ⟨b, hb, hs⟩ := strL_at (s := nm) (k := k) (by omega)
  refine ifT (by simp; omega) ?_
  rw [drop_cons hs, List.all_cons] at ha
  refine ⟨by omega, b, by rw [Int.toNat_natCast]; exact hb, ?_⟩
  have hno : visM (b.toNat : Int) = false → listedM nm = false := fun h => by unfold listedM; rw [ha, h]; rfl
  by_cases h1 : (b.toNat : Int) < 33
  ·refine ifT (by simpa using h1) ?_
   rw [hno (by unfold visM; simp; omega)] at hK; exact hK
  ·refine ifF (by simpa using h1) ⟨by omega, b, by rw [Int.toNat_natCast]; exact hb, ?_⟩
   by_cases h2 : (b.toNat : Int) > 126
   ·refine ifT (by simpa using h2) ?_
    rw [hno (by unfold visM; simp; omega)] at hK; exact hK
   ·refine ifF (by simpa using h2) ⟨nm.size - (k + 1), by omega, k + 1, ?_, by omega, rfl, rfl, ?_⟩
    ·rw [wr64 (by omega) (by omega)]; omega
    ·rw [ha]
     have : visM (b.toNat : Int) = true := by unfold visM; simp; omega
     rw [this]; rfl
theorem line_spec (h : Hp [] w0 w its) (hT : TabW w0) {x : Ins} (h0 : -9223372036854775808 ≤ x.2) (h1 : x.2 ≤ 9223372036854775807) {K : ByteArray → World → Prop} (hK : ∀ s w', strL s = lineL x → Hp [] w0 w' its → K s w') : c55 x.1 x.2 w K := by
 refine c55_of ?_
 unfold f55
 refine h.nw fun i w1 h => ?_
 refine h.ld0 (k := .i .i64) (x := x.1) its.length (by rw [List.getElem?_concat_length]; rfl) rfl ?_
 refine shape_spec h fun w1 h => ?_
 refine h.nw fun s1 w1 h => ?_
 refine h.st0 _ List.getElem?_concat_length (by simp) rfl fun w1 h => ?_
 rw [set_last] at h
 refine h.st (n := 1) _ List.getElem?_concat_length (by simp) rfl fun w1 h => ?_
 rw [set_last] at h
 refine h.st (n := 2) _ List.getElem?_concat_length (by simp) rfl fun w1 h => ?_
 rw [set_last] at h
 refine h.st (n := 3) _ List.getElem?_concat_length (by simp) rfl fun w1 h => ?_
 rw [set_last] at h
 refine h.st (n := 4) _ List.getElem?_concat_length (by simp) rfl fun w1 h => ?_
 rw [set_last] at h
 have h : Hp [] w0 w1 (its ++ [tBlk i 23 [.int .i64 x.1, .int .i64 x.2]] ++ [tBlk s1 74 [.string (row x.1).word, .bool (row x.1).num, .int .i64 (takesOf (row x.1)), .int .i64 (row x.1).pt, .int .i64 (byOf (row x.1))]]) := h
 have hI : ∀ {t : Thing}, ((its ++ [tBlk i 23 [.int .i64 x.1, .int .i64 x.2]] ++ [t])[its.length]?).map Thing.holds = some (tBlk i 23 [.int .i64 x.1, .int .i64 x.2]).holds := fun {t} => by rw [mid1]; rfl
 have hLs : ∀ {A : List Thing} {b : Nat} {e : TypeId} {c : List Value}, ((A ++ [tBlk b e c])[A.length]?).map Thing.holds = some (tBlk b e c).holds := fun {A b e c} => by rw [List.getElem?_concat_length]; rfl
 have hw5 := word_size x.1
 have hd := dec_size h0 h1
 refine h.ld (n := 1) (k := .b) (x := (row x.1).num) _ hLs rfl ?_
 by_cases hn : (row x.1).num = true
 ·refine ifT hn ?_
  refine h.dr fun w1 h => ?_
  refine h.ld0 (k := .s) (x := (row x.1).word) _ hLs rfl ?_
  refine ⟨?_, ?_⟩
  ·have : (⟨#[32]⟩ : ByteArray).size = 1 := rfl
   omega
  refine h.ld (n := 1) (k := .i .i64) (x := x.2) _ hI rfl ?_
  refine Format_spec h hT h0 h1 fun w2 h => ?_
  refine ⟨h.cel0 _ hLs rfl, ?_, hK _ w2 ?_ h.front.front⟩
  ·have : (⟨#[32]⟩ : ByteArray).size = 1 := rfl
   rw [ByteArray.size_append]
   omega
  ·unfold lineL
   rw [if_pos hn, strL_append', strL_append']
   simp [decL]; rfl
 ·refine ifF hn ?_
  refine h.ld0 (k := .s) (x := (row x.1).word) _ hLs rfl ?_
  exact hK _ w1 (by unfold lineL; rw [if_neg hn, List.append_nil]) h.front.front
end
theorem writtenM_no {r : RT} {left : Int} (h : writtenM r left = true) : codeOk r.code = true ∧ (1 ≤ r.nm.size ∧ r.nm.size ≤ 16) ∧ (0 ≤ r.pa ∧ r.pa ≤ 4 ∧ r.pa ≤ r.lo ∧ r.lo ≤ 32) ∧ 0 ≤ left - r.code.length := by
 obtain ⟨h1, h2⟩ := written_iff.1 h
 obtain ⟨a, b, c⟩ := rtOk_iff.1 h1
 exact ⟨a, b, c, h2⟩
theorem rdRo {α : Type} {s : Sl} {n : Nat} {f : α → List Value} {l : List α} : Hp.Reads (tRd s n f l).ro s n f l := ⟨fun {w O} h => ⟨O, h⟩⟩
section
variable {w0 w : World} {its rest : List Thing}
theorem List_spec {nm : ByteArray} {pa lo : Int} {sl : Sl} {code : List Ins} (hr : ∃ o, SlR w sl 2 insv code o) (hok : RT.Ok ⟨nm, pa, lo, code⟩) (hnm : nm.size ≤ 140737488355328) (hT : TabW w) {K : ByteArray → World → Prop}
  (hK : ∀ w', Hp [] w w' [] → K (listS ⟨nm, pa, lo, code⟩) w') : c25 nm pa lo sl w K := by
 obtain ⟨o, hr⟩ := hr
 have hcl := hok.len
 refine c25_of ?_
 unfold f25
 have h : Hp [] w w [(tRd sl 2 insv code).ro] := (Hp.init w).addRo (O := o) hr (by simp)
 have hlen := h.lenU (u := (tRd sl 2 insv code).ro) 0 rfl (rdRo (n := 2) (f := insv))
 refine h.nw fun rb w1 h => ?_
 refine h.nw fun lb w1 h => ?_
 refine h.st0 2 rfl (by simp) rfl fun w1 h => ?_
 have hno : listM ⟨nm, pa, lo, code⟩ = false → ∀ w', Hp [] w w' [] → K ⟨#[]⟩ w' := fun e w' h => by
  have := hK w' h
  unfold listS at this
  rw [e] at this
  exact this
 refine ⟨fun w' => listM ⟨nm, pa, lo, code⟩ = true ∧ Hp [] w w' [(tRd sl 2 insv code).ro, tBlk rb 30 [.string nm, .int .i64 pa, .int .i64 lo, .slice sl.a sl.len sl.cap]], ?_, ?_⟩
 ·refine h.ld0 (k := .s) (x := nm) 1 rfl rfl ?_
  refine listed_spec hnm ?_
  by_cases h1 : listedM nm = true
  ·refine ifF (by simp [h1]) ?_
   refine h.ld0 (k := .s) (x := nm) 1 rfl rfl ?_
   refine h.ld (n := 1) (k := .i .i64) (x := pa) 1 rfl rfl ?_
   refine h.ld (n := 2) (k := .i .i64) (x := lo) 1 rfl rfl ?_
   refine h.ld (n := 3) (k := .sl) (x := sl) 1 rfl rfl ?_
   refine written_spec h 2 0 (u := (tRd sl 2 insv code).ro) (left := 2000) (by decide) rfl rfl rdRo hcl (by decide) (by decide) fun w2 h => ?_
   by_cases h2 : writtenM ⟨nm, pa, lo, code⟩ 2000 = true
   ·refine ifF (by simp [h2]) ⟨by unfold listM; rw [h1, h2]; rfl, ?_⟩
    have h : Hp [] w w2 ([(tRd sl 2 insv code).ro, tBlk rb 30 [.string nm, .int .i64 pa, .int .i64 lo, .slice sl.a sl.len sl.cap]] ++ [tBlk lb 3 [.int .i64 (2000 - code.length)]]) := h
    exact h.front
   ·refine ifT (by simp [h2]) (hno (by unfold listM; simp [h2]) w2 (frNil h.fr))
  ·exact ifT (by simp [h1]) (hno (by unfold listM; simp [h1]) w1 (frNil h.fr))
 clear h
 rintro w1 ⟨hM, h⟩
 have hyes : ∀ w', Hp [] w w' [] → K (strOf (listL ⟨nm, pa, lo, code⟩)) w' := fun w' h => by
  have := hK w' h
  unfold listS at this
  rw [if_pos hM] at this
  exact this
 have hW : writtenM ⟨nm, pa, lo, code⟩ 2000 = true := by
  unfold listM at hM
  rw [Bool.and_eq_true] at hM
  exact hM.2
 obtain ⟨k1, ⟨k2, k3⟩, ⟨k4, k5, k6, k7⟩, k8⟩ := writtenM_no hW
 dsimp only at k1 k2 k3 k4 k5 k6 k7 k8
 have z1 : (⟨#[32]⟩ : ByteArray).size = 1 := rfl
 have z2 : (⟨#[10]⟩ : ByteArray).size = 1 := rfl
 have d1 := dec_size (n := pa) (by omega) (by omega)
 have d2 := dec_size (n := lo) (by omega) (by omega)
 refine bld_new h fun b w1 h => ?_
 have h : Hp [] w w1 [(tRd sl 2 insv code).ro, tBlk rb 30 [.string nm, .int .i64 pa, .int .i64 lo, .slice sl.a sl.len sl.cap], tBld w.heap.size b []] := h
 refine h.dr fun w1 h => ?_
 refine h.ld0 (k := .s) (x := nm) 1 rfl rfl ⟨by omega, ?_⟩
 refine h.ld (n := 1) (k := .i .i64) (x := pa) 1 rfl rfl ?_
 refine h.ld (n := 2) (k := .i .i64) (x := lo) 1 rfl rfl ?_
 refine Itoa_spec h hT (by omega) (by omega) fun w1 h => ?_
 refine ⟨h.cel (n := 2) 1 rfl rfl, h.cel0 1 rfl rfl, by simp only [ByteArray.size_append]; omega, by simp only [ByteArray.size_append]; omega, ?_⟩
 refine Itoa_spec h hT (by omega) (by omega) fun w1 h => ?_
 refine ⟨h.cel0 1 rfl rfl, by simp only [ByteArray.size_append]; omega, by simp only [ByteArray.size_append]; omega, ?_⟩
 refine WriteString_spec h 2 rfl _ (by simp only [ByteArray.size_append, List.length_nil]; omega) fun w1 h => ?_
 have eh : ([] : List Int) ++ strL (nm ++ ⟨#[32]⟩ ++ dec pa ++ ⟨#[32]⟩ ++ dec lo ++ ⟨#[10]⟩) = headL ⟨nm, pa, lo, code⟩ := by
  simp only [strL_append', List.nil_append]
  show _ = strL nm ++ 32 :: (decL pa ++ 32 :: (decL lo ++ [10]))
  simp [decL]; rfl
 rw [eh] at h
 have h : Hp [] w w1 [(tRd sl 2 insv code).ro, tBlk rb 30 [.string nm, .int .i64 pa, .int .i64 lo, .slice sl.a sl.len sl.cap], tBld w.heap.size b (headL ⟨nm, pa, lo, code⟩)] := h
 have hhl : (headL ⟨nm, pa, lo, code⟩).length ≤ 100 := by
  rw [← eh]
  simp only [List.nil_append, strL_len, ByteArray.size_append]; omega
 refine h.ld (n := 3) (k := .sl) (x := sl) 1 rfl rfl ?_
 refine ⟨fun t m w' => ∃ k : Nat, t = k ∧ k ≤ code.length ∧ m = code.length - k ∧ Hp [] w w' [(tRd sl 2 insv code).ro, tBlk rb 30 [.string nm, .int .i64 pa, .int .i64 lo, .slice sl.a sl.len sl.cap], tBld w.heap.size b (headL ⟨nm, pa, lo, code⟩ ++ (code.take k).flatMap fun x => lineL x ++ [10])], ⟨_, 0, rfl, by omega, rfl, by simpa using h⟩, ?_⟩
 clear h
 rintro t m w2 ⟨k, rfl, hk, rfl, h⟩
 by_cases hend : k = code.length
 ·refine ifF (by simp; omega) ?_
  rw [List.take_of_length_le (by omega)] at h
  refine String_spec h 2 rfl ?_ fun w3 h => hyes w3 h
  have hB : ∀ (x : Ins), Bytes (lineL x) := fun x => by
   unfold lineL
   intro y hy
   rcases List.mem_append.1 hy with hy | hy
   ·exact strL_bytes _ y hy
   ·split at hy
    ·rcases List.mem_cons.1 hy with rfl | hy
     ·decide
     ·exact strL_bytes _ y hy
    ·cases hy
  intro y hy
  rcases List.mem_append.1 hy with hy | hy
  ·rw [← eh] at hy
   exact strL_bytes _ y (by simpa using hy)
  ·obtain ⟨x, _, hx⟩ := List.mem_flatMap.1 hy
   rcases List.mem_append.1 hx with hx | hx
   ·exact hB x y hx
   ·simp only [List.mem_singleton] at hx
    subst hx; decide
 ·obtain ⟨x, hx⟩ : ∃ x, code[k]? = some x := ⟨code[k]'(by omega), List.getElem?_eq_getElem (by omega)⟩
  have hxm := List.mem_of_getElem? hx
  have hrg := hok.rng x hxm
  refine ifT (by simp; omega) ?_
  obtain ⟨O, hO⟩ := h.see (i := 0) rfl
  refine SlR.ix insv_len hO (by omega) (x := x) (by rw [Int.toNat_natCast]; exact hx) fun ad hc => ?_
  refine ldR0 (k := .i .i64) (x := x.1) (hc 0 (by omega)) rfl ?_
  refine ldR (k := .i .i64) (x := x.2) (hc 1 (by omega)) rfl ?_
  refine ins_copy h fun ib w3 h => ?_
  refine h.ld0 (k := .i .i64) (x := x.1) 3 rfl rfl ?_
  refine h.ld (n := 1) (k := .i .i64) (x := x.2) 3 rfl rfl ?_
  refine line_spec h hT hrg.1 hrg.2 fun s w3 hs h => ?_
  have hll := lineL_len hrg.1 hrg.2
  rw [← hs, strL_len] at hll
  refine ⟨by omega, ?_⟩
  have hfl : ((code.take k).flatMap fun x => lineL x ++ [10]).length ≤ 28 * (code.take k).length := flat_len fun y hy => by
   have := hok.rng y (List.mem_of_mem_take hy)
   have := lineL_len this.1 this.2
   rw [List.length_append]; simp; omega
  rw [List.length_take] at hfl
  refine WriteString_spec h 2 rfl _ (by rw [List.length_append, ByteArray.size_append]; omega) fun w4 h => ?_
  refine ⟨code.length - (k + 1), by omega, k + 1, by rw [wr64 (by omega) (by omega)]; omega, by omega, rfl, ?_⟩
  have h : Hp [] w w4 ([(tRd sl 2 insv code).ro, tBlk rb 30 [.string nm, .int .i64 pa, .int .i64 lo, .slice sl.a sl.len sl.cap], tBld w.heap.size b (headL ⟨nm, pa, lo, code⟩ ++ (code.take k).flatMap (fun x => lineL x ++ [10]) ++ strL (s ++ ⟨#[10]⟩))] ++ [tBlk ib 23 [.int .i64 x.1, .int .i64 x.2]]) := h
  have h := h.front
  have e : headL ⟨nm, pa, lo, code⟩ ++ (code.take k).flatMap (fun x => lineL x ++ [10]) ++ strL (s ++ ⟨#[10]⟩) = headL ⟨nm, pa, lo, code⟩ ++ (code.take (k + 1)).flatMap (fun x => lineL x ++ [10]) := by
   rw [List.take_add_one, hx, List.flatMap_append, strL_append', hs, List.append_assoc]
   simp; rfl
  rw [e] at h
  exact h
end
end Go.Proofs.YtmfgofbcnlkolaaGreatDoor.F
end
