/-
  No cell of these rows narrows 'for every input' (looked for: loops, veiled, ifaces, maps, wideKeys, modest, calm, conditions, laid).
  DERIVED. THE GIVEN ROWS OF THIS SEAT. 3 by the template 'for every input the law returns true; each argument reads behind the call as it read before'; 0 by the template 'total and deterministic' (their statements: YthmbjlpgbkkjjaaTotals.lean).
  GIVEN WITH THE SEED: the statements are not yours to turn. If you find one false, say at which input.
  Laid BY PROGRAM, IN A SANDBOX (cutbox-rows.mjs): the forced cells as the released guide's own fill.sh prints them over the translation 8083d3dec7ce0dd5… (all of the seat's roots in one cut). By AI agents, Wed Nov 11 2026. No macro, syntax, notation, axiom, sorry.
-/
import Derived.Test.YthmbjlpgbkkjjaaChecked
import GoSem.Claim
import GoSem.ClaimJoined
import GoSem.ClaimMapViews
import Derived.JoinedTies
import Derived.KernelRfl
namespace Go.Proofs.Ythmbjlpgbkkjjaa
/- THE CELL 'sum', in the pinned program and in every row, IS THE sha256 OF THE DUMP (.gsa) THAT YthmbjlpgbkkjjaaProg.lean LOADS. Nothing in Lean hashes anything: it is a label: what it is worth is what the hold of that sum in a sandbox is worth. -/
noncomputable def Try.pinned : Pinned := { name := "ythmbjlpgbkkjjaa", sum := "8083d3dec7ce0dd5986272c140fd7f04b3840af730017557d9f92f0562866e04", checked := Try.checked }
namespace Rows
def none {H : Type} : Left H := { results := [], args := [] }

/-- 'hindcastlaw17.BufferOrder': WHATEVER THE INPUT: true; the input reads as it did. -/
def bufferOrderSpec : ChangeSpec := { name := "bufferOrder", fn := fun _ => fun
  | [d1, d2] => { results := [.lit (.bool true)], args := [d1, d2] }
  | _ => none }
def bufferOrderRow : OpenClaim := { program := "ythmbjlpgbkkjjaa", sum := "8083d3dec7ce0dd5986272c140fd7f04b3840af730017557d9f92f0562866e04", func := "hindcast/hindcastlaw17.BufferOrder", spec := "bufferOrder", inPlace := ["slices.overlaps[int64]"], unfollowed := true, recurses := true, plainKeys := false, apart := false }
def BufferOrderSaid : Prop := bufferOrderRow.holds Try.pinned (OpenSpec.ofChange bufferOrderSpec)

/-- ITS FALSE NEIGHBOUR: 'it returns false'. Refute it at one input. -/
def bufferOrderWrong : ChangeSpec := { name := "bufferOrder", fn := fun _ => fun
  | [d1, d2] => { results := [.lit (.bool false)], args := [d1, d2] }
  | _ => none }
def BufferOrderWrongFalsely : Prop := bufferOrderRow.holds Try.pinned (OpenSpec.ofChange bufferOrderWrong)

/-- 'hindcastlaw17.BufferFull': WHATEVER THE INPUT: true; the input reads as it did. -/
def bufferFullSpec : ChangeSpec := { name := "bufferFull", fn := fun _ => fun
  | [d1, d2, d3] => { results := [.lit (.bool true)], args := [d1, d2, d3] }
  | _ => none }
def bufferFullRow : OpenClaim := { program := "ythmbjlpgbkkjjaa", sum := "8083d3dec7ce0dd5986272c140fd7f04b3840af730017557d9f92f0562866e04", func := "hindcast/hindcastlaw17.BufferFull", spec := "bufferFull", inPlace := ["slices.overlaps[int64]"], unfollowed := true, recurses := true, plainKeys := false, apart := false }
def BufferFullSaid : Prop := bufferFullRow.holds Try.pinned (OpenSpec.ofChange bufferFullSpec)

/-- ITS FALSE NEIGHBOUR: 'it returns false'. Refute it at one input. -/
def bufferFullWrong : ChangeSpec := { name := "bufferFull", fn := fun _ => fun
  | [d1, d2, d3] => { results := [.lit (.bool false)], args := [d1, d2, d3] }
  | _ => none }
def BufferFullWrongFalsely : Prop := bufferFullRow.holds Try.pinned (OpenSpec.ofChange bufferFullWrong)

/-- 'hindcastlaw17.BufferTwice': WHATEVER THE INPUT: true; the input reads as it did. -/
def bufferTwiceSpec : ChangeSpec := { name := "bufferTwice", fn := fun _ => fun
  | [d1, d2] => { results := [.lit (.bool true)], args := [d1, d2] }
  | _ => none }
def bufferTwiceRow : OpenClaim := { program := "ythmbjlpgbkkjjaa", sum := "8083d3dec7ce0dd5986272c140fd7f04b3840af730017557d9f92f0562866e04", func := "hindcast/hindcastlaw17.BufferTwice", spec := "bufferTwice", inPlace := ["slices.overlaps[int64]", "maps.clone"], unfollowed := true, recurses := true, plainKeys := false, apart := false }
def BufferTwiceSaid : Prop := bufferTwiceRow.holds Try.pinned (OpenSpec.ofChange bufferTwiceSpec)

/-- ITS FALSE NEIGHBOUR: 'it returns false'. Refute it at one input. -/
def bufferTwiceWrong : ChangeSpec := { name := "bufferTwice", fn := fun _ => fun
  | [d1, d2] => { results := [.lit (.bool false)], args := [d1, d2] }
  | _ => none }
def BufferTwiceWrongFalsely : Prop := bufferTwiceRow.holds Try.pinned (OpenSpec.ofChange bufferTwiceWrong)

/- THE SECOND FORM. 'bulk': how many values and letters a reading holds, each counted each time it is reached (what is shared counts as often as it is met; a slice's spare places count too). A statement '..UptoSaid' is the law's where the arguments, and the package variables that the reading takes, are together of bulk at most 1048576: NARROWER than '..Said'. Prove '..Said' where nothing that the law and all that it calls make is longer than what came in: it says more and counts as full. Else prove '..UptoSaid'. A law counts once. -/
mutual
def uptoBulk {H : Type} : DataW H → Nat
  | .lit (.string bytes) => bytes.length + 1
  | .lit _ => 1
  | .nil => 1
  | .ptr d => uptoBulk d + 1
  | .slice elems spare => uptoBulkAll elems + uptoBulkAll spare + 1
  | .agg parts => uptoBulkAll parts + 1
  | .iface _ d => uptoBulk d + 1
  | .map entries => uptoBulkEntries entries + 1
  | .held _ => 1
def uptoBulkAll {H : Type} : List (DataW H) → Nat
  | [] => 0
  | d :: r => uptoBulk d + uptoBulkAll r
def uptoBulkEntries {H : Type} : List (Lit × DataW H) → Nat
  | [] => 0
  | x :: r => uptoBulkEntry x + uptoBulkEntries r
def uptoBulkEntry {H : Type} : Lit × DataW H → Nat
  | (.string bytes, d) => bytes.length + uptoBulk d + 1
  | (_, d) => uptoBulk d + 1
 end
def uptoSmall : (H : Type) → List (DataW H) → Bool := fun _ ds => decide (uptoBulkAll ds ≤ 1048576)
def OpenSpec.upto (s : _root_.Go.ChangeSpec) : _root_.Go.OpenSpec := { _root_.Go.OpenSpec.ofChange s with cond := some uptoSmall }

/-- 'hindcastlaw17.BufferOrder', WHERE WHAT IT READS IS OF BULK AT MOST 1048576: true; the input reads as it did. -/
def bufferOrderUptoRow : OpenClaim := { program := "ythmbjlpgbkkjjaa", sum := "8083d3dec7ce0dd5986272c140fd7f04b3840af730017557d9f92f0562866e04", func := "hindcast/hindcastlaw17.BufferOrder", spec := "bufferOrder", inPlace := ["slices.overlaps[int64]"], unfollowed := true, recurses := true, plainKeys := false, apart := false, narrowed := true }
def BufferOrderUptoSaid : Prop := bufferOrderUptoRow.holds Try.pinned (OpenSpec.upto bufferOrderSpec)

/-- 'hindcastlaw17.BufferFull', WHERE WHAT IT READS IS OF BULK AT MOST 1048576: true; the input reads as it did. -/
def bufferFullUptoRow : OpenClaim := { program := "ythmbjlpgbkkjjaa", sum := "8083d3dec7ce0dd5986272c140fd7f04b3840af730017557d9f92f0562866e04", func := "hindcast/hindcastlaw17.BufferFull", spec := "bufferFull", inPlace := ["slices.overlaps[int64]"], unfollowed := true, recurses := true, plainKeys := false, apart := false, narrowed := true }
def BufferFullUptoSaid : Prop := bufferFullUptoRow.holds Try.pinned (OpenSpec.upto bufferFullSpec)

/-- 'hindcastlaw17.BufferTwice', WHERE WHAT IT READS IS OF BULK AT MOST 1048576: true; the input reads as it did. -/
def bufferTwiceUptoRow : OpenClaim := { program := "ythmbjlpgbkkjjaa", sum := "8083d3dec7ce0dd5986272c140fd7f04b3840af730017557d9f92f0562866e04", func := "hindcast/hindcastlaw17.BufferTwice", spec := "bufferTwice", inPlace := ["slices.overlaps[int64]", "maps.clone"], unfollowed := true, recurses := true, plainKeys := false, apart := false, narrowed := true }
def BufferTwiceUptoSaid : Prop := bufferTwiceUptoRow.holds Try.pinned (OpenSpec.upto bufferTwiceSpec)

end Rows
end Go.Proofs.Ythmbjlpgbkkjjaa
