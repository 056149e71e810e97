/-
  No cell of these rows narrows 'for every input' (looked for: loops, veiled, ifaces, maps, wideKeys, modest, calm, conditions, laid).
  DERIVED. THE GIVEN ROWS OF THIS SEAT. 4 by the template 'for every input the law returns true; each argument reads behind the call as it read before'; 0 by the template 'total and deterministic' (their statements: YtcccjgmekakabaaTotals.lean).
  GIVEN WITH THE SEED: the statements are not yours to turn. If you find one false, say at which input.
  Laid BY PROGRAM, IN A SANDBOX (cutbox-rows.mjs): the forced cells as the released guide's own fill.sh prints them over the translation 3796181bc53e8f1c… (all of the seat's roots in one cut). By AI agents, Wed Nov 11 2026. No macro, syntax, notation, axiom, sorry.
-/
import Derived.Test.YtcccjgmekakabaaChecked
import GoSem.Claim
import GoSem.ClaimJoined
import GoSem.ClaimMapViews
import Derived.JoinedTies
import Derived.KernelRfl
namespace Go.Proofs.Ytcccjgmekakabaa
/- THE CELL 'sum', in the pinned program and in every row, IS THE sha256 OF THE DUMP (.gsa) THAT YtcccjgmekakabaaProg.lean LOADS. Nothing in Lean hashes anything: it is a label: what it is worth is what the hold of that sum in a sandbox is worth. -/
noncomputable def Try.pinned : Pinned := { name := "ytcccjgmekakabaa", sum := "3796181bc53e8f1cfe31df7160887bfc50eafd137e9f6fd46da8a8c12c5ff58c", checked := Try.checked }
namespace Rows
def none {H : Type} : Left H := { results := [], args := [] }

/-- 'hindcastlaw06.WorldNew': WHATEVER THE INPUT: true; the input reads as it did. -/
def worldNewSpec : ChangeSpec := { name := "worldNew", fn := fun _ => fun
  | [d] => { results := [.lit (.bool true)], args := [d] }
  | _ => none }
def worldNewRow : OpenClaim := { program := "ytcccjgmekakabaa", sum := "3796181bc53e8f1cfe31df7160887bfc50eafd137e9f6fd46da8a8c12c5ff58c", func := "hindcast/hindcastlaw06.WorldNew", spec := "worldNew", inPlace := ["slices.overlaps[int64]"], unfollowed := true, recurses := true, plainKeys := false, apart := false }
def WorldNewSaid : Prop := worldNewRow.holds Try.pinned (OpenSpec.ofChange worldNewSpec)

/-- ITS FALSE NEIGHBOUR: 'it returns false'. Refute it at one input. -/
def worldNewWrong : ChangeSpec := { name := "worldNew", fn := fun _ => fun
  | [d] => { results := [.lit (.bool false)], args := [d] }
  | _ => none }
def WorldNewWrongFalsely : Prop := worldNewRow.holds Try.pinned (OpenSpec.ofChange worldNewWrong)

/-- 'hindcastlaw06.WorldOrder': WHATEVER THE INPUT: true; the input reads as it did. -/
def worldOrderSpec : ChangeSpec := { name := "worldOrder", fn := fun _ => fun
  | [d1, d2, d3] => { results := [.lit (.bool true)], args := [d1, d2, d3] }
  | _ => none }
def worldOrderRow : OpenClaim := { program := "ytcccjgmekakabaa", sum := "3796181bc53e8f1cfe31df7160887bfc50eafd137e9f6fd46da8a8c12c5ff58c", func := "hindcast/hindcastlaw06.WorldOrder", spec := "worldOrder", inPlace := ["slices.overlaps[int64]"], unfollowed := true, recurses := true, plainKeys := false, apart := false }
def WorldOrderSaid : Prop := worldOrderRow.holds Try.pinned (OpenSpec.ofChange worldOrderSpec)

/-- ITS FALSE NEIGHBOUR: 'it returns false'. Refute it at one input. -/
def worldOrderWrong : ChangeSpec := { name := "worldOrder", fn := fun _ => fun
  | [d1, d2, d3] => { results := [.lit (.bool false)], args := [d1, d2, d3] }
  | _ => none }
def WorldOrderWrongFalsely : Prop := worldOrderRow.holds Try.pinned (OpenSpec.ofChange worldOrderWrong)

/-- 'hindcastlaw06.WorldStale': WHATEVER THE INPUT: true; the input reads as it did. -/
def worldStaleSpec : ChangeSpec := { name := "worldStale", fn := fun _ => fun
  | [d] => { results := [.lit (.bool true)], args := [d] }
  | _ => none }
def worldStaleRow : OpenClaim := { program := "ytcccjgmekakabaa", sum := "3796181bc53e8f1cfe31df7160887bfc50eafd137e9f6fd46da8a8c12c5ff58c", func := "hindcast/hindcastlaw06.WorldStale", spec := "worldStale", inPlace := ["slices.overlaps[int64]"], unfollowed := true, recurses := true, plainKeys := false, apart := false }
def WorldStaleSaid : Prop := worldStaleRow.holds Try.pinned (OpenSpec.ofChange worldStaleSpec)

/-- ITS FALSE NEIGHBOUR: 'it returns false'. Refute it at one input. -/
def worldStaleWrong : ChangeSpec := { name := "worldStale", fn := fun _ => fun
  | [d] => { results := [.lit (.bool false)], args := [d] }
  | _ => none }
def WorldStaleWrongFalsely : Prop := worldStaleRow.holds Try.pinned (OpenSpec.ofChange worldStaleWrong)

/-- 'hindcastlaw06.WorldGoesOn': WHATEVER THE INPUT: true; the input reads as it did. -/
def worldGoesOnSpec : ChangeSpec := { name := "worldGoesOn", fn := fun _ => fun
  | [d1, d2] => { results := [.lit (.bool true)], args := [d1, d2] }
  | _ => none }
def worldGoesOnRow : OpenClaim := { program := "ytcccjgmekakabaa", sum := "3796181bc53e8f1cfe31df7160887bfc50eafd137e9f6fd46da8a8c12c5ff58c", func := "hindcast/hindcastlaw06.WorldGoesOn", spec := "worldGoesOn", inPlace := ["slices.overlaps[int64]", "maps.clone"], unfollowed := true, recurses := true, plainKeys := false, apart := false }
def WorldGoesOnSaid : Prop := worldGoesOnRow.holds Try.pinned (OpenSpec.ofChange worldGoesOnSpec)

/-- ITS FALSE NEIGHBOUR: 'it returns false'. Refute it at one input. -/
def worldGoesOnWrong : ChangeSpec := { name := "worldGoesOn", fn := fun _ => fun
  | [d1, d2] => { results := [.lit (.bool false)], args := [d1, d2] }
  | _ => none }
def WorldGoesOnWrongFalsely : Prop := worldGoesOnRow.holds Try.pinned (OpenSpec.ofChange worldGoesOnWrong)

/- THE SECOND FORM. 'bulk': how many values and letters a reading holds, each counted each time it is reached (what is shared counts as often as it is met; a slice's spare places count too). A statement '..UptoSaid' is the law's where the arguments, and the package variables that the reading takes, are together of bulk at most 1048576: NARROWER than '..Said'. Prove '..Said' where nothing that the law and all that it calls make is longer than what came in: it says more and counts as full. Else prove '..UptoSaid'. A law counts once. -/
mutual
def uptoBulk {H : Type} : DataW H → Nat
  | .lit (.string bytes) => bytes.length + 1
  | .lit _ => 1
  | .nil => 1
  | .ptr d => uptoBulk d + 1
  | .slice elems spare => uptoBulkAll elems + uptoBulkAll spare + 1
  | .agg parts => uptoBulkAll parts + 1
  | .iface _ d => uptoBulk d + 1
  | .map entries => uptoBulkEntries entries + 1
  | .held _ => 1
def uptoBulkAll {H : Type} : List (DataW H) → Nat
  | [] => 0
  | d :: r => uptoBulk d + uptoBulkAll r
def uptoBulkEntries {H : Type} : List (Lit × DataW H) → Nat
  | [] => 0
  | x :: r => uptoBulkEntry x + uptoBulkEntries r
def uptoBulkEntry {H : Type} : Lit × DataW H → Nat
  | (.string bytes, d) => bytes.length + uptoBulk d + 1
  | (_, d) => uptoBulk d + 1
 end
def uptoSmall : (H : Type) → List (DataW H) → Bool := fun _ ds => decide (uptoBulkAll ds ≤ 1048576)
def OpenSpec.upto (s : _root_.Go.ChangeSpec) : _root_.Go.OpenSpec := { _root_.Go.OpenSpec.ofChange s with cond := some uptoSmall }

/-- 'hindcastlaw06.WorldNew', WHERE WHAT IT READS IS OF BULK AT MOST 1048576: true; the input reads as it did. -/
def worldNewUptoRow : OpenClaim := { program := "ytcccjgmekakabaa", sum := "3796181bc53e8f1cfe31df7160887bfc50eafd137e9f6fd46da8a8c12c5ff58c", func := "hindcast/hindcastlaw06.WorldNew", spec := "worldNew", inPlace := ["slices.overlaps[int64]"], unfollowed := true, recurses := true, plainKeys := false, apart := false, narrowed := true }
def WorldNewUptoSaid : Prop := worldNewUptoRow.holds Try.pinned (OpenSpec.upto worldNewSpec)

/-- 'hindcastlaw06.WorldOrder', WHERE WHAT IT READS IS OF BULK AT MOST 1048576: true; the input reads as it did. -/
def worldOrderUptoRow : OpenClaim := { program := "ytcccjgmekakabaa", sum := "3796181bc53e8f1cfe31df7160887bfc50eafd137e9f6fd46da8a8c12c5ff58c", func := "hindcast/hindcastlaw06.WorldOrder", spec := "worldOrder", inPlace := ["slices.overlaps[int64]"], unfollowed := true, recurses := true, plainKeys := false, apart := false, narrowed := true }
def WorldOrderUptoSaid : Prop := worldOrderUptoRow.holds Try.pinned (OpenSpec.upto worldOrderSpec)

/-- 'hindcastlaw06.WorldStale', WHERE WHAT IT READS IS OF BULK AT MOST 1048576: true; the input reads as it did. -/
def worldStaleUptoRow : OpenClaim := { program := "ytcccjgmekakabaa", sum := "3796181bc53e8f1cfe31df7160887bfc50eafd137e9f6fd46da8a8c12c5ff58c", func := "hindcast/hindcastlaw06.WorldStale", spec := "worldStale", inPlace := ["slices.overlaps[int64]"], unfollowed := true, recurses := true, plainKeys := false, apart := false, narrowed := true }
def WorldStaleUptoSaid : Prop := worldStaleUptoRow.holds Try.pinned (OpenSpec.upto worldStaleSpec)

/-- 'hindcastlaw06.WorldGoesOn', WHERE WHAT IT READS IS OF BULK AT MOST 1048576: true; the input reads as it did. -/
def worldGoesOnUptoRow : OpenClaim := { program := "ytcccjgmekakabaa", sum := "3796181bc53e8f1cfe31df7160887bfc50eafd137e9f6fd46da8a8c12c5ff58c", func := "hindcast/hindcastlaw06.WorldGoesOn", spec := "worldGoesOn", inPlace := ["slices.overlaps[int64]", "maps.clone"], unfollowed := true, recurses := true, plainKeys := false, apart := false, narrowed := true }
def WorldGoesOnUptoSaid : Prop := worldGoesOnUptoRow.holds Try.pinned (OpenSpec.upto worldGoesOnSpec)

end Rows
end Go.Proofs.Ytcccjgmekakabaa
