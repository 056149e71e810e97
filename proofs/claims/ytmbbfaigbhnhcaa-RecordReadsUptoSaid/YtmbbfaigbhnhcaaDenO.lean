/-
  Bytes and strings: a slice of bytes read as a string, a string appended to bytes.
-/
import Derived.Test.YtmbbfaigbhnhcaaDenM
import Derived.Lib.AppendStr
set_option linter.unusedSimpArgs false
set_option linter.unusedVariables false
namespace Go.Den
open Go.RowKit

abbrev u8v (x : Int) : List Value := [.int .u8 x]
theorem u8v_len (x : Int) : (u8v x).length = 1 := rfl
/-- The bytes of a string, as numbers. -/
def strL (s : ByteArray) : List Int := s.data.toList.map fun b => (b.toNat : Int)
def strOf (l : List Int) : ByteArray := ⟨(l.map fun x => UInt8.ofNat x.toNat).toArray⟩
def Bytes (l : List Int) : Prop := ∀ x ∈ l, 0 ≤ x ∧ x < 256

theorem strL_len (s : ByteArray) : (strL s).length = s.size := by simp [strL]
theorem strL_of {l : List Int} (h : Bytes l) : strL (strOf l) = l := by
  unfold strL strOf
  simp only [List.toList_toArray, List.map_map]
  conv => rhs; rw [← List.map_id l]
  apply List.map_congr_left
  intro x hx
  obtain ⟨h0, h1⟩ := h x hx
  simp only [Function.comp, id]
  have : x.toNat < 256 := by omega
  simp only [UInt8.toNat_ofNat']
  omega
theorem strL_bytes (s : ByteArray) : Bytes (strL s) := by
  intro x hx
  simp only [strL, List.mem_map] at hx
  obtain ⟨b, _, rfl⟩ := hx
  have := b.toNat_lt
  omega
theorem strL_inj {a b : ByteArray} (h : strL a = strL b) : a = b := by
  have h2 : a.data.toList = b.data.toList := by
    unfold strL at h
    apply List.map_inj_right (f := fun x : UInt8 => (x.toNat : Int)) ?_ |>.1 h
    intro x y hxy
    exact UInt8.toNat_inj.1 (Int.ofNat_inj.1 hxy)
  cases a; cases b
  simp only [ByteArray.mk.injEq]
  exact Array.ext' h2
theorem str_beq (a b : ByteArray) : (a.toList == b.toList) = decide (strL a = strL b) := by
  have e : a.toList = b.toList ↔ strL a = strL b := by
    constructor
    · intro h
      rw [ByteArray.toList_eq, ByteArray.toList_eq] at h
      unfold strL; rw [h]
    · intro h
      rw [strL_inj h]
  by_cases h : strL a = strL b
  · rw [decide_eq_true h]; simpa using e.2 h
  · rw [decide_eq_false h]
    simp only [beq_eq_false_iff_ne, ne_eq]
    exact fun h' => h (e.1 h')
theorem strCells_fm (s : ByteArray) : Lib.strCells s = (strL s).flatMap u8v := by
  unfold Lib.strCells strL
  induction s.data.toList with
  | nil => rfl
  | cons x l ih => simp only [List.map_cons, List.flatMap_cons, ih]; rfl

section
variable {P : Program} {w : World} {e : TypeId}

/-- append of a string to bytes. -/
theorem SlF.appT {s : Sl} {t u ty : TypeId} {i : TypeInfo} {l : List Int} {o : List Nat} {b : ByteArray} {K : Sl → World → Prop}
    (ht : P.underlying t = some (.slice e)) (hu : P.underlying u = some .string) (hi : P.info? e = some i) (hsz : i.size = 1) (hz : i.zero = some (.int .u8 0)) (hby : i.bytes = 1)
    (h : SlF w s e 1 u8v l o) (hn : s.len + b.size ≤ 140737488355328)
    (hK : ∀ s' w' o', SlF w' s' e 1 u8v (l ++ strL b) o' → s'.len = s.len + b.size → (o' = o ∨ ∃ k, w.heap.size ≤ k ∧ k < w'.heap.size ∧ o' = [k]) → Fr o w w' → K s' w') :
    Run .sl P (Builtin.append_ #[t, u] ty #[.slice s.a s.len s.cap, .string b]) w K := by
  have hvl := h.1
  have hnl : ((strL b).flatMap u8v).length = b.size := by rw [fm_len u8v_len, strL_len, Nat.mul_one]
  have hll : (l.flatMap u8v).length = s.len := by rw [fm_len u8v_len, hvl, Nat.mul_one]
  have hfit : ∀ cap, cap < s.len + b.size → Builtin.nextslicecap (s.len + b.size) cap * i.bytes ≤ 281474976710656 := fun cap hc => growslice_fits hc (by rw [hby]; omega)
  have hz1 : (Value.int IntKind.u8 0).cells.size = 1 := rfl
  have grown : ∀ (cap : Nat) (w1 : World), w1 = w.drew.alloc (.cells ((l.flatMap u8v).toArray ++ ((strL b).flatMap u8v).toArray ++ Builtin.zeroCells (Value.int IntKind.u8 0).cells (grownCap w (s.len + b.size) cap e - (s.len + b.size))) e) →
      SlF w1 ⟨some ⟨w.heap.size, 0, none⟩, s.len + b.size, grownCap w (s.len + b.size) cap e⟩ e 1 u8v (l ++ strL b) [w.heap.size] ∧ Fr [] w w1 ∧ w.heap.size < w1.heap.size := by
    intro cap w1 hw1
    subst hw1
    have hge := grownCap_ge w (s.len + b.size) cap e
    refine ⟨⟨by simp [hvl, strL_len], .inr ⟨w.heap.size, 0, (l.flatMap u8v ++ (strL b).flatMap u8v ++ (Builtin.zeroCells (Value.int IntKind.u8 0).cells (grownCap w (s.len + b.size) cap e - (s.len + b.size))).toList), rfl, rfl, ?_, hge, ?_, ?_⟩⟩, ?_, by simp⟩
    · have := Blk.alloc w.drew (l.flatMap u8v ++ (strL b).flatMap u8v ++ (Builtin.zeroCells (Value.int IntKind.u8 0).cells (grownCap w (s.len + b.size) cap e - (s.len + b.size))).toList) e
      have e1 : (l.flatMap u8v ++ (strL b).flatMap u8v ++ (Builtin.zeroCells (Value.int IntKind.u8 0).cells (grownCap w (s.len + b.size) cap e - (s.len + b.size))).toList).toArray = (l.flatMap u8v).toArray ++ ((strL b).flatMap u8v).toArray ++ Builtin.zeroCells (Value.int IntKind.u8 0).cells (grownCap w (s.len + b.size) cap e - (s.len + b.size)) := by
        apply Array.ext'; simp
      rw [e1] at this
      simp only [Blk] at this ⊢
      exact this.trans (by rw [e1])
    · simp only [List.length_append, Array.length_toList, size_zeroCells, hz1, hnl, hll]
      show 0 + _ * 1 ≤ _
      omega
    · simp only [List.drop_zero, List.flatMap_append, Nat.mul_one]
      rw [List.take_left' (by simp only [List.length_append, hnl, hll])]
    · exact ⟨rfl, rfl, rfl, by simp, fun k hk _ => Below.heap_alloc w.drew _ k hk⟩
  rcases h.2 with ⟨ha, hl0, hc0, ho⟩ | ⟨bk, off, c, ha, ho, hbk, hcap, hoff, htk⟩
  · have hvs : l = [] := List.eq_nil_of_length_eq_zero (by omega)
    by_cases hm : b.size = 0
    · have hnn : strL b = [] := List.eq_nil_of_length_eq_zero (by rw [strL_len, hm])
      refine ⟨s, w, ?_, hK s w o (by rw [hnn, List.append_nil]; exact h) (by omega) (.inl rfl) (Fr.refl _ _)⟩
      rw [ha, hl0, hc0]
      simp [Kd.inj, ha, hl0, hc0, Builtin.append_, run_underlying ht, run_underlying hu, sizeOf, typeInfo, hi, Builtin.lenOf, Builtin.firstCells, hm]
    · have hr := run_append_nil_string (P := P) w t u ty e i (.int .u8 0) ht hu hi hz b (by omega) (by omega) (by rw [hby]; omega)
      obtain ⟨g1, g2, g3⟩ := grown 0 _ rfl
      rw [hl0, Nat.zero_add] at g1 g2 g3
      refine ⟨⟨some ⟨w.heap.size, 0, none⟩, b.size, grownCap w b.size 0 e⟩, _, ?_, hK _ _ [w.heap.size] g1 (by simp [hl0]) (.inr ⟨_, Nat.le_refl _, g3, rfl⟩) (g2.mono (by simp))⟩
      rw [ha, hl0, hc0, hr]
      have e1 : (b.data.map fun x => Value.int .u8 x.toNat) = (l.flatMap u8v).toArray ++ ((strL b).flatMap u8v).toArray := by
        rw [← strCells_fm, hvs]
        apply Array.ext'
        simp [Lib.strCells]
      rw [e1]
      rfl
  · subst ho
    by_cases hroom : s.len + b.size ≤ s.cap
    · have hf1 := Lib.run_firstCells_string (P := P) w 1 b
      rw [strCells_fm] at hf1
      have hst := run_storeCells_at P bk (off + s.len) e ((strL b).flatMap u8v) 0 c.toArray w hbk (by simp only [List.size_toArray, hnl]; omega) (by
        intro x hx
        obtain ⟨y, _, hy⟩ := List.mem_flatMap.1 hx
        simp only [u8v, List.mem_singleton] at hy
        subst hy; rfl)
      refine ⟨⟨some ⟨bk, off, none⟩, s.len + b.size, s.cap⟩, _, ?_, hK _ (w.setRow bk (c.take (off + s.len) ++ (strL b).flatMap u8v ++ c.drop (off + s.len + ((strL b).flatMap u8v).length)).toArray) [bk] ?_ rfl (.inl rfl) ?_⟩
      · rw [ha]
        simp only [Nat.add_zero] at hst
        simp [Builtin.append_, run_underlying ht, run_underlying hu, sizeOf, typeInfo, hi, Builtin.lenOf, hroom, hsz, hf1, Addr.add_none, hst, Kd.inj]
      · refine ⟨by simp [hvl, strL_len], .inr ⟨bk, off, _, rfl, rfl, setRow_heap w bk c.toArray _ e _ hbk, hroom, ?_, ?_⟩⟩
        · simp only [List.length_append, List.length_take, List.length_drop, hnl]; omega
        apply List.ext_getElem?
        intro j
        rw [List.flatMap_append, ← htk]
        simp only [List.getElem?_take, List.getElem?_drop, List.getElem?_append, List.length_append, List.length_take, List.length_drop, hnl, Nat.mul_one]
        have e1 : min (off + s.len) c.length = off + s.len := by omega
        have e2 : min s.len (c.length - off) = s.len := by omega
        rw [e1, e2]
        by_cases hj : j < s.len + b.size
        · rw [if_pos hj, if_pos (by omega)]
          by_cases hj2 : j < s.len
          · rw [if_pos (by omega), if_pos (by omega), if_pos (by omega), if_pos (by omega)]
          · rw [if_neg (by omega), if_neg (by omega)]
            congr 1; omega
        · rw [if_neg hj, if_neg (by omega)]
          symm
          apply List.getElem?_eq_none
          rw [hnl]; omega
      · exact ⟨rfl, rfl, rfl, by simp, fun k _ hk => setRow_other w bk k _ (fun e => hk (by simp [e]))⟩
    · have holds : ∀ j v, (l.flatMap u8v)[j]? = some v → w.cell? ((⟨bk, off, none⟩ : Addr).add j) = some v := by
        intro j v hj
        rw [Addr.add_none, hbk.cell]
        rw [← htk, List.getElem?_take] at hj
        split at hj
        · rw [List.getElem?_drop] at hj; exact hj
        · cases hj
      have hr := Lib.run_append_grow_string (P := P) w t u ty e i (.int .u8 0) ht hu hi hz ⟨bk, off, none⟩ s.len s.cap (l.flatMap u8v) (by rw [hsz, hll, Nat.mul_one]) holds b (by omega) (by omega) (hfit _ (by omega))
      obtain ⟨g1, g2, g3⟩ := grown s.cap _ rfl
      refine ⟨⟨some ⟨w.heap.size, 0, none⟩, s.len + b.size, grownCap w (s.len + b.size) s.cap e⟩, _, ?_, hK _ _ [w.heap.size] g1 rfl (.inr ⟨_, Nat.le_refl _, g3, rfl⟩) (g2.mono (by simp))⟩
      rw [ha, hr, strCells_fm]
      rfl
end

namespace Hp
variable {S : List Nat} {w0 w : World} {its : List Thing} {P : Program} {e : TypeId}

theorem appT (h : Hp S w0 w its) (i : Nat) {s : Sl} {t u ty : TypeId} {inf : TypeInfo} {l : List Int} {b : ByteArray} {K : Sl → World → Prop} (hi : its[i]? = some (tSl s e 1 u8v l))
    (ht : P.underlying t = some (.slice e)) (hu : P.underlying u = some .string) (hinf : P.info? e = some inf) (hsz : inf.size = 1) (hz : inf.zero = some (.int .u8 0)) (hby : inf.bytes = 1) (hn : s.len + b.size ≤ 140737488355328)
    (hK : ∀ s' w', Hp S w0 w' (its.set i (tSl s' e 1 u8v (l ++ strL b))) → s'.len = s.len + b.size → K s' w') :
    Run .sl P (Builtin.append_ #[t, u] ty #[.slice s.a s.len s.cap, .string b]) w K := by
  obtain ⟨O, hs, back⟩ := h.step hi rfl
  refine SlF.appT ht hu hinf hsz hz hby hs hn ?_
  intro s' w' o' hs' hl' ho' hf'
  refine hK s' w' (back (t' := tSl s' e 1 u8v (l ++ strL b)) hf' hs' ?_ rfl) hl'
  rcases ho' with rfl | ⟨k, h1, _, rfl⟩
  · exact fun k hk => .inl hk
  · intro k' hk'; simp only [List.mem_singleton] at hk'; subst hk'; exact .inr h1

/-- Bytes as a string. -/
theorem bat (h : Hp S w0 w its) (i : Nat) {u : Thing} {s : Sl} {l : List Int} (hi : (its[i]?).map Thing.holds = some u.holds) (hu : Reads u s 1 u8v l) (b : ByteArray) (hb : strL b = l) : BytesAt w s b := by
  obtain ⟨O, hO⟩ := h.see' hi
  obtain ⟨o, h1, h2⟩ := hu.rd hO
  have hbl : b.data.toList.length = s.len := by
    rw [← h1, ← hb]; simp [strL]
  refine ⟨hbl, ?_⟩
  rcases h2 with ⟨h3, _⟩ | ⟨x, h3, _, _, h4⟩
  · cases ha : s.a with
    | none => exact .inl ⟨rfl, h3⟩
    | some a =>
      refine .inr ⟨a, rfl, fun j x hx => ?_⟩
      have := (List.getElem?_eq_some_iff.1 hx).1
      omega
  · refine .inr ⟨x, h3, fun j y hy => h4 j _ ?_⟩
    rw [← hb, ← strCells_fm]
    simp only [Lib.strCells, List.getElem?_map, hy, Option.map_some]

theorem rdb (h : Hp S w0 w its) (i : Nat) {u : Thing} {s : Sl} {l : List Int} {K : ByteArray → Prop} (hi : (its[i]?).map Thing.holds = some u.holds) (hu : Reads u s 1 u8v l) (b : ByteArray) (hb : strL b = l) (hK : K b) : RdB w s K :=
  ⟨b, h.bat i hi hu b hb, hK⟩
end Hp
end Go.Den
