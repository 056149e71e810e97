/-
  From contracts to rows: a law's call that answers true and writes nothing that was there.
-/
import Derived.Test.YtmbbfaigbhnhcaaDenV
import Derived.Below
set_option linter.unusedSimpArgs false
set_option linter.unusedVariables false
namespace Go.Den
open Go.RowKit

theorem calls_true {P : Program} {f : FuncId} {args : List Value} {w : World} (h : CallK P f args [.one .b] w (fun b w' => b = true ∧ Fr [] w w')) :
    Calls P f args.toArray w fun e w' => e = .returned (.bool true) ∧ Below w.heap.size w w' := by
  refine Calls.mono h fun e w' h => ?_
  obtain ⟨v, rfl, hv⟩ := h
  obtain ⟨x, rfl, rfl, hf⟩ : ∃ x, v = Value.bool x ∧ x = true ∧ Fr [] w w' := by
    have hv' : Kd.view .b v (fun x => x = true ∧ Fr [] w w') := hv
    cases v with
    | bool x => exact ⟨x, rfl, hv'.1, hv'.2⟩
    | _ => exact hv'.elim
  exact ⟨rfl, hf.below⟩

theorem cell_lt {w : World} {a : Addr} {v : Value} (h : w.cell? a = some v) : a.block < w.heap.size := World.block_lt_of_cell? w a h

theorem row_R {k : IntKind} {w : World} {a : Option Addr} {len cap : Nat} {zs : List Int}
    (h : (a = none ∧ len = 0 ∧ cap = 0 ∧ zs = []) ∨
      ∃ x, a = some x ∧ len ≤ cap ∧ cap ≤ maxLen ∧ zs.length = cap ∧ (∀ i, i < zs.length → w.cell? (x.add i) = some (.int k (zs.getD i 0))) ∧ ∀ n ∈ zs, (Lit.int k n).wf = true) :
    ∃ o, SlR w ⟨a, len, cap⟩ 1 (fun i => [Value.int k i]) (zs.take len) o ∧ ∀ n ∈ zs.take len, k.min ≤ n ∧ n ≤ k.max := by
  rcases h with ⟨rfl, rfl, rfl, rfl⟩ | ⟨x, rfl, h1, h2, h3, h4, h5⟩
  · exact ⟨[], SlR.nil rfl, by simp⟩
  · by_cases h0 : len = 0
    · subst h0
      exact ⟨[], SlR.nil rfl, by simp⟩
    · refine ⟨[x.block], ⟨by simp; omega, .inr ⟨x, rfl, rfl, ?_, ?_⟩⟩, fun n hn => ?_⟩
      · have := cell_lt (h4 0 (by omega))
        rwa [Addr.add_block] at this
      · intro j u hj
        have e : ((zs.take len).flatMap fun i => [Value.int k i]) = (zs.take len).map (Value.int k) := by
          induction zs.take len with
          | nil => rfl
          | cons y l ih => rw [List.flatMap_cons, ih]; rfl
        rw [e, List.getElem?_map, Option.map_eq_some_iff] at hj
        obtain ⟨y, hy, rfl⟩ := hj
        obtain ⟨hl, hy⟩ := List.getElem?_eq_some_iff.1 hy
        rw [List.length_take] at hl
        rw [h4 j (by omega), ← hy, List.getElem_take]
        simp [show j < zs.length by omega]
      · have := h5 n (List.mem_of_mem_take hn)
        simpa [Lit.wf] using this

end Go.Den
