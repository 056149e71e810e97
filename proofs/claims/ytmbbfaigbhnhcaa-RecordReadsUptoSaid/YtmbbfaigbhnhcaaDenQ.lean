/-
  What a reading of an argument says of memory, for any type without pointers and maps.
-/
import Derived.Test.YtmbbfaigbhnhcaaDenR
import Derived.OpenShut
import Derived.SizedLaws
import Derived.ChangeOld
set_option linter.unusedSimpArgs false
set_option linter.unusedVariables false
namespace Go.Den
open Go.RowKit

mutual
def bulkD {H : Type} : DataW H → Nat
  | .lit (.string bytes) => bytes.length + 1
  | .lit _ => 1
  | .nil => 1
  | .ptr d => bulkD d + 1
  | .slice elems spare => bulkDAll elems + bulkDAll spare + 1
  | .agg parts => bulkDAll parts + 1
  | .iface _ d => bulkD d + 1
  | .map entries => bulkDEntries entries + 1
  | .held _ => 1
def bulkDAll {H : Type} : List (DataW H) → Nat
  | [] => 0
  | d :: r => bulkD d + bulkDAll r
def bulkDEntries {H : Type} : List (Lit × DataW H) → Nat
  | [] => 0
  | x :: r => bulkDEntry x + bulkDEntries r
def bulkDEntry {H : Type} : Lit × DataW H → Nat
  | (.string bytes, d) => bytes.length + bulkD d + 1
  | (_, d) => bulkD d + 1
 end

theorem bulkD_mem {H : Type} {d : DataW H} : ∀ {l : List (DataW H)}, d ∈ l → bulkD d ≤ bulkDAll l
  | x :: l, h => by
    rcases List.mem_cons.1 h with rfl | h
    · simp only [bulkDAll]; omega
    · have := bulkD_mem h
      simp only [bulkDAll]; omega

theorem bulkD_pos {H : Type} (d : DataW H) : 1 ≤ bulkD d := by
  cases d with
  | lit l => cases l <;> simp [bulkD]
  | _ => simp [bulkD]

theorem bulkD_len {H : Type} : ∀ l : List (DataW H), l.length ≤ bulkDAll l
  | [] => by simp [bulkDAll]
  | d :: l => by
    have := bulkD_len l
    have := bulkD_pos d
    simp only [bulkDAll, List.length_cons]; omega

/-- What is read of cells at a type; B: no slice and no string is longer. -/
def RdV (P : Program) (w : World) (B : Nat) : Nat → TypeId → List Value → Prop
  | 0, _, _ => False
  | n + 1, t, cs => match P.underlying t with
    | some .bool => ∃ b, cs = [.bool b]
    | some (.int k) => ∃ m, cs = [.int k m] ∧ (Lit.int k m).wf = true
    | some .string => ∃ s : ByteArray, cs = [.string s] ∧ s.size ≤ reachBytes ∧ s.size ≤ B
    | some (.slice e) => cs = [.slice none 0 0] ∨ ∃ a len cap, cs = [.slice (some a) len cap] ∧ len ≤ cap ∧ len * P.bytesOf e ≤ reachBytes ∧ len ≤ B ∧
        ∀ i, i < len → ∃ ci : List Value, ci.length = P.cellsOf e ∧ (∀ j, j < P.cellsOf e → w.cell? ((a.add (i * P.cellsOf e)).add j) = ci[j]?) ∧ RdV P w B n e ci
    | some (.struct fs) => cs.length = P.cellsOf t ∧ ∀ (i : Nat) (f : Field), fs[i]? = some f → RdV P w B n f.type ((cs.drop f.offset).take (P.cellsOf f.type))
    | some (.array m e) => cs.length = P.cellsOf t ∧ ∀ i, i < m → RdV P w B n e ((cs.drop (i * P.cellsOf e)).take (P.cellsOf e))
    | _ => True

section
variable {H : Type} {enc : TypeId × Value → H} {P : Program} {w : World} {base : Nat} {spare : Nat → Bool} {held : Bool}

theorem weights_all {e : TypeId} {d : DataW H} {k : Nat} : ∀ {l : List (DataW H)}, d ∈ l → k ∈ d.weights P e → k ∈ DataW.weightsAll P e l
  | x :: l, h, hk => by
    simp only [DataW.weightsAll, List.mem_append]
    rcases List.mem_cons.1 h with rfl | h
    · exact .inl hk
    · exact .inr (weights_all h hk)

theorem rd_of_trod (B : Nat) : ∀ (n : Nat) (t : TypeId) (cs : List Value) (d : DataW H) (ps : List MemPlace), DataW.trod enc P w base spare held n t cs = some (d, ps) → (∀ k ∈ d.weights P t, k ≤ reachBytes) → (maxLen ≤ B ∨ bulkD d ≤ B) → RdV P w B n t cs
  | 0, t, cs, d, ps, h, _, _ => by simp [DataW.trod] at h
  | n + 1, t, cs, d, ps, h, hw, hb => by
    have ih := rd_of_trod B n
    unfold RdV
    split
    · rename_i hu
      obtain ⟨b, h1, _⟩ := DataW.trod_bool hu h
      exact ⟨b, h1⟩
    · rename_i k hu
      obtain ⟨m, h1, _, h2⟩ := DataW.trod_int hu h
      exact ⟨m, h1, h2⟩
    · rename_i hu
      obtain ⟨s, h1, h2, h3⟩ := DataW.trod_string hu h
      simp only [Prod.mk.injEq] at h2
      obtain ⟨rfl, _⟩ := h2
      have hl : s.data.toList.length = s.size := by rw [Array.length_toList]; rfl
      refine ⟨s, h1, ?_, ?_⟩
      · have := hw s.data.toList.length (by unfold DataW.weights; exact List.mem_singleton.2 rfl)
        rw [hl] at this; exact this
      · rcases hb with hb | hb
        · exact Nat.le_trans h3 hb
        · simp only [bulkD] at hb; rw [hl] at hb; omega
    · rename_i e hu
      rcases DataW.trod_slice hu h with ⟨h1, _⟩ | ⟨a, len, cap, elems, rest, m, hm, h1, h2, hba, hl, hc, hlen, hel, _⟩
      · exact .inl h1
      · obtain rfl : m = n := by omega
        simp only [Prod.mk.injEq] at h2
        obtain ⟨rfl, _⟩ := h2
        refine .inr ⟨a, len, cap, h1, hl, ?_, ?_, ?_⟩
        · have := hw ((elems.map (·.1)).length + (rest.map (·.1)).length |> (· * P.bytesOf e)) (by simp [DataW.weights, hu])
          simp only [List.length_map] at this
          have h3 : len * P.bytesOf e ≤ (elems.length + rest.length) * P.bytesOf e := Nat.mul_le_mul_right _ (by omega)
          exact Nat.le_trans h3 this
        · rcases hb with hb | hb
          · omega
          · simp only [bulkD] at hb
            have := bulkD_len (elems.map (·.1))
            simp only [List.length_map] at this
            omega
        · intro i hi
          have h3 := hel i hi
          have h4 : elems[i]? = some elems[i] := List.getElem?_eq_getElem (by omega)
          rw [h4, Option.bind_eq_some_iff] at h3
          obtain ⟨ci, hci, hd⟩ := h3
          obtain ⟨_, k1, k2⟩ := World.cells?_some hci
          have hmem : (elems[i]).1 ∈ elems.map (·.1) := List.mem_map.2 ⟨_, List.getElem_mem _, rfl⟩
          refine ⟨ci, k1, k2, ih e ci (elems[i]).1 (elems[i]).2 hd (fun k hk => hw k ?_) ?_⟩
          · simp only [DataW.weights, hu, List.mem_cons, List.mem_append]
            exact .inr (.inl (weights_all hmem hk))
          · refine hb.imp id fun hb => ?_
            have := bulkD_mem hmem
            simp only [bulkD] at hb
            omega
    · rename_i fs hu
      obtain ⟨xs, m, hm, hx, hl, hxl, hf⟩ := DataW.trod_struct hu h
      obtain rfl : m = n := by omega
      simp only [Prod.mk.injEq] at hx
      obtain ⟨rfl, _⟩ := hx
      refine ⟨hl, fun i f hi => ?_⟩
      have hlt := (Array.getElem?_eq_some_iff.1 hi).1
      have h3 := hf i f hi
      have h4 : xs[i]? = some xs[i] := List.getElem?_eq_getElem (by omega)
      rw [h4] at h3
      have hmem : (xs[i]).1 ∈ xs.map (·.1) := List.mem_map.2 ⟨_, List.getElem_mem _, rfl⟩
      refine ih f.type _ (xs[i]).1 (xs[i]).2 h3 (fun k hk => hw k ?_) (hb.imp id fun hb => ?_)
      · simp only [DataW.weights, hu]
        exact DataW.weights_mem_each (j := i) (t := f.type) (d := (xs[i]).1) (by simp [hi]) (by simp [show i < xs.length by omega]) k hk
      · have := bulkD_mem hmem
        simp only [bulkD] at hb
        omega
    · rename_i m' e hu
      obtain ⟨xs, m, hm, hx, hl, hxl, hf⟩ := DataW.trod_array hu h
      obtain rfl : m = n := by omega
      simp only [Prod.mk.injEq] at hx
      obtain ⟨rfl, _⟩ := hx
      refine ⟨hl, fun i hi => ?_⟩
      have h3 := hf i hi
      have h4 : xs[i]? = some xs[i] := List.getElem?_eq_getElem (by omega)
      rw [h4] at h3
      have hmem : (xs[i]).1 ∈ xs.map (·.1) := List.mem_map.2 ⟨_, List.getElem_mem _, rfl⟩
      refine ih e _ (xs[i]).1 (xs[i]).2 h3 (fun k hk => hw k ?_) (hb.imp id fun hb => ?_)
      · simp only [DataW.weights, hu]
        exact weights_all hmem hk
      · have := bulkD_mem hmem
        simp only [bulkD] at hb
        omega
    · trivial

/-! ### What follows of it -/

variable {B n : Nat} {t : TypeId} {cs : List Value}

theorem rd_int {k : IntKind} (hu : P.underlying t = some (.int k)) (h : RdV P w B n t cs) : ∃ m, cs = [.int k m] ∧ (Lit.int k m).wf = true := by
  cases n with
  | zero => exact h.elim
  | succ n => unfold RdV at h; rw [hu] at h; exact h
theorem rd_bool (hu : P.underlying t = some .bool) (h : RdV P w B n t cs) : ∃ b, cs = [.bool b] := by
  cases n with
  | zero => exact h.elim
  | succ n => unfold RdV at h; rw [hu] at h; exact h
theorem rd_string (hu : P.underlying t = some .string) (h : RdV P w B n t cs) : ∃ s : ByteArray, cs = [.string s] ∧ s.size ≤ reachBytes ∧ s.size ≤ B := by
  cases n with
  | zero => exact h.elim
  | succ n => unfold RdV at h; rw [hu] at h; exact h
theorem rd_struct {fs : Array Field} (hu : P.underlying t = some (.struct fs)) (h : RdV P w B n t cs) : cs.length = P.cellsOf t ∧ ∃ m, ∀ (i : Nat) (f : Field), fs[i]? = some f → RdV P w B m f.type ((cs.drop f.offset).take (P.cellsOf f.type)) := by
  cases n with
  | zero => exact h.elim
  | succ n => unfold RdV at h; rw [hu] at h; exact ⟨h.1, n, h.2⟩

/-- A field's cells. -/
theorem rd_field {fs : Array Field} {m : Nat} (h : ∀ (i : Nat) (f : Field), fs[i]? = some f → RdV P w B m f.type ((cs.drop f.offset).take (P.cellsOf f.type))) (i : Nat) {ft off sz : Nat} (hi : (fs[i]?).map (fun f => (f.type, f.offset)) = some (ft, off)) (hs : P.cellsOf ft = sz) :
    RdV P w B m ft ((cs.drop off).take sz) := by
  rw [Option.map_eq_some_iff] at hi
  obtain ⟨f, h1, h2⟩ := hi
  simp only [Prod.mk.injEq] at h2
  obtain ⟨rfl, rfl⟩ := h2
  subst hs
  exact h i f h1

/-- A slice, its elements told one by one. -/
theorem rd_slice {α : Type} {f : α → List Value} {nn e : Nat} {G : α → Prop} (hu : P.underlying t = some (.slice e)) (hc : P.cellsOf e = nn) (hnn : 0 < nn) (hel : ∀ m ci, ci.length = nn → RdV P w B m e ci → ∃ x, ci = f x ∧ G x) (h : RdV P w B n t cs) :
    ∃ (s : Sl) (l : List α) (o : List Nat), cs = [.slice s.a s.len s.cap] ∧ SlR w s nn f l o ∧ (∀ x ∈ l, G x) ∧ l.length * P.bytesOf e ≤ reachBytes ∧ l.length ≤ B ∧ s.len ≤ s.cap := by
  cases n with
  | zero => exact h.elim
  | succ n =>
    unfold RdV at h
    rw [hu] at h
    rcases h with rfl | ⟨a, len, cap, rfl, h1, h2, h3, h4⟩
    · exact ⟨⟨none, 0, 0⟩, [], [], rfl, SlR.nil rfl, by simp, by simp, by simp, Nat.le_refl _⟩
    · rw [hc] at h4
      have hx : ∀ i, i < len → ∃ x : α, (∀ j, j < nn → w.cell? ((a.add (i * nn)).add j) = (f x)[j]?) ∧ (f x).length = nn ∧ G x := by
        intro i hi
        obtain ⟨ci, k1, k2, k3⟩ := h4 i hi
        obtain ⟨x, rfl, hg⟩ := hel n ci k1 k3
        exact ⟨x, k2, k1, hg⟩
      -- the list of them
      have build : ∀ k, k ≤ len → ∃ l : List α, l.length = k ∧ ∀ i, i < k → ∃ x, l[i]? = some x ∧ (∀ j, j < nn → w.cell? ((a.add (i * nn)).add j) = (f x)[j]?) ∧ (f x).length = nn ∧ G x := by
        intro k
        induction k with
        | zero => intro _; exact ⟨[], rfl, by intro i hi; omega⟩
        | succ k ih =>
          intro hk
          obtain ⟨l, q1, q2⟩ := ih (by omega)
          obtain ⟨x, q3⟩ := hx k (by omega)
          refine ⟨l ++ [x], by simp [q1], fun i hi => ?_⟩
          by_cases hik : i < k
          · obtain ⟨y, r1, r2⟩ := q2 i hik
            exact ⟨y, by rw [List.getElem?_append_left (by omega)]; exact r1, r2⟩
          · obtain rfl : i = k := by omega
            exact ⟨x, by rw [List.getElem?_append_right (by omega), q1, Nat.sub_self]; rfl, q3⟩
      obtain ⟨l, q1, q2⟩ := build len (Nat.le_refl _)
      have hG : ∀ x ∈ l, (f x).length = nn ∧ G x := by
        intro x hx
        obtain ⟨i, hi⟩ := List.getElem?_of_mem hx
        obtain ⟨y, r1, _, r3, r4⟩ := q2 i (by have := (List.getElem?_eq_some_iff.1 hi).1; omega)
        obtain rfl := Option.some.inj (hi.symm.trans r1)
        exact ⟨r3, r4⟩
      refine ⟨⟨some a, len, cap⟩, l, if len = 0 then [] else [a.block], rfl, ⟨q1, ?_⟩, fun x hx => (hG x hx).2, by rw [q1]; exact h2, by rw [q1]; exact h3, h1⟩
      by_cases h0 : len = 0
      · exact .inl ⟨h0, by rw [if_pos h0]⟩
      · refine .inr ⟨a, rfl, by rw [if_neg h0], ?_, ?_⟩
        · obtain ⟨y, r1, r2, r3, _⟩ := q2 0 (by omega)
          have := r2 0 hnn
          rw [List.getElem?_eq_getElem (by omega)] at this
          have := World.block_lt_of_cell? w _ this
          rwa [Addr.add_block, Addr.add_block] at this
        · -- cells of all elements
          have key : ∀ (l' : List α) (k : Nat), (∀ x ∈ l', (f x).length = nn) → (∀ i x, l'[i]? = some x → ∀ j, j < nn → w.cell? ((a.add ((k + i) * nn)).add j) = (f x)[j]?) → ∀ j u, (l'.flatMap f)[j]? = some u → w.cell? (a.add (k * nn + j)) = some u := by
            intro l'
            induction l' with
            | nil => intro k _ _ j u hj; simp at hj
            | cons x l' ih =>
              intro k hlen hcell j u hj
              rw [List.flatMap_cons] at hj
              by_cases hjn : j < nn
              · rw [List.getElem?_append_left (by rw [hlen x (by simp)]; exact hjn)] at hj
                have := hcell 0 x rfl j hjn
                rw [Nat.add_zero, Addr.add_add_any] at this
                rw [this]; exact hj
              · rw [List.getElem?_append_right (by rw [hlen x (by simp)]; omega), hlen x (by simp)] at hj
                have := ih (k + 1) (fun y hy => hlen y (by simp [hy])) (fun i y hy j hj => by
                  have := hcell (i + 1) y (by simpa using hy) j hj
                  rwa [show k + (i + 1) = k + 1 + i by omega] at this) (j - nn) u hj
                rw [show (k + 1) * nn + (j - nn) = k * nn + j by rw [Nat.add_mul, Nat.one_mul]; omega] at this
                exact this
          intro j u hj
          have := key l 0 (fun x hx => (hG x hx).1) (fun i x hi j hj => by
            obtain ⟨y, r1, r2, _⟩ := q2 i (by have := (List.getElem?_eq_some_iff.1 hi).1; omega)
            obtain rfl := Option.some.inj (hi.symm.trans r1)
            rw [Nat.zero_add]; exact r2 j hj) j u hj
          simpa using this

end
end Go.Den
