/-
  No cell of these rows narrows 'for every input' (looked for: loops, veiled, ifaces, maps, wideKeys, modest, calm, conditions, laid).
  DERIVED. THE GIVEN ROWS OF THIS SEAT. 2 by the template 'for every input the law returns true; each argument reads behind the call as it read before'; 0 by the template 'total and deterministic' (their statements: YtcccjgmekakabaaGreatTotals.lean).
  GIVEN WITH THE SEED: the statements are not yours to turn. If you find one false, say at which input.
  Laid BY PROGRAM, IN A SANDBOX (cutbox-rows.mjs): the forced cells as the released guide's own fill.sh prints them over the translation edbe4f714ef0015b… (all of the seat's roots in one cut). By AI agents, Wed Nov 11 2026. No macro, syntax, notation, axiom, sorry.
-/
import Derived.Test.YtcccjgmekakabaaGreatChecked
import GoSem.Claim
import GoSem.ClaimJoined
import GoSem.ClaimMapViews
import Derived.JoinedTies
import Derived.KernelRfl
namespace Go.Proofs.YtcccjgmekakabaaGreat
/- THE CELL 'sum', in the pinned program and in every row, IS THE sha256 OF THE DUMP (.gsa) THAT YtcccjgmekakabaaGreatProg.lean LOADS. Nothing in Lean hashes anything: it is a label: what it is worth is what the hold of that sum in a sandbox is worth. -/
noncomputable def Tryz.pinned : Pinned := { name := "ytcccjgmekakabaagreat", sum := "edbe4f714ef0015b6a2d29013e558a387c35995b919ffd978b02b987c65577d5", checked := Tryz.checked }
namespace Rows
def none {H : Type} : Left H := { results := [], args := [] }

/-- 'hindcastlaw06.WorldLoads': WHATEVER THE INPUT: true; the input reads as it did. -/
def worldLoadsSpec : ChangeSpec := { name := "worldLoads", fn := fun _ => fun
  | [d1, d2, d3, d4] => { results := [.lit (.bool true)], args := [d1, d2, d3, d4] }
  | _ => none }
def worldLoadsRow : OpenClaim := { program := "ytcccjgmekakabaagreat", sum := "edbe4f714ef0015b6a2d29013e558a387c35995b919ffd978b02b987c65577d5", func := "hindcast/hindcastlaw06.WorldLoads", spec := "worldLoads", inPlace := ["slices.overlaps[int64]"], unfollowed := true, recurses := true, plainKeys := false, apart := false }
def WorldLoadsSaid : Prop := worldLoadsRow.holds Tryz.pinned (OpenSpec.ofChange worldLoadsSpec)

/-- ITS FALSE NEIGHBOUR: 'it returns false'. Refute it at one input. -/
def worldLoadsWrong : ChangeSpec := { name := "worldLoads", fn := fun _ => fun
  | [d1, d2, d3, d4] => { results := [.lit (.bool false)], args := [d1, d2, d3, d4] }
  | _ => none }
def WorldLoadsWrongFalsely : Prop := worldLoadsRow.holds Tryz.pinned (OpenSpec.ofChange worldLoadsWrong)

/-- 'hindcastlaw06.WorldPlays': WHATEVER THE INPUT: true; the input reads as it did. -/
def worldPlaysSpec : ChangeSpec := { name := "worldPlays", fn := fun _ => fun
  | [d1, d2, d3] => { results := [.lit (.bool true)], args := [d1, d2, d3] }
  | _ => none }
def worldPlaysRow : OpenClaim := { program := "ytcccjgmekakabaagreat", sum := "edbe4f714ef0015b6a2d29013e558a387c35995b919ffd978b02b987c65577d5", func := "hindcast/hindcastlaw06.WorldPlays", spec := "worldPlays", inPlace := ["slices.overlaps[int64]", "maps.clone"], unfollowed := true, recurses := true, plainKeys := false, apart := false }
def WorldPlaysSaid : Prop := worldPlaysRow.holds Tryz.pinned (OpenSpec.ofChange worldPlaysSpec)

/-- ITS FALSE NEIGHBOUR: 'it returns false'. Refute it at one input. -/
def worldPlaysWrong : ChangeSpec := { name := "worldPlays", fn := fun _ => fun
  | [d1, d2, d3] => { results := [.lit (.bool false)], args := [d1, d2, d3] }
  | _ => none }
def WorldPlaysWrongFalsely : Prop := worldPlaysRow.holds Tryz.pinned (OpenSpec.ofChange worldPlaysWrong)

/- THE SECOND FORM. 'bulk': how many values and letters a reading holds, each counted each time it is reached (what is shared counts as often as it is met; a slice's spare places count too). A statement '..UptoSaid' is the law's where the arguments, and the package variables that the reading takes, are together of bulk at most 1048576: NARROWER than '..Said'. Prove '..Said' where nothing that the law and all that it calls make is longer than what came in: it says more and counts as full. Else prove '..UptoSaid'. A law counts once. -/
mutual
def uptoBulk {H : Type} : DataW H → Nat
  | .lit (.string bytes) => bytes.length + 1
  | .lit _ => 1
  | .nil => 1
  | .ptr d => uptoBulk d + 1
  | .slice elems spare => uptoBulkAll elems + uptoBulkAll spare + 1
  | .agg parts => uptoBulkAll parts + 1
  | .iface _ d => uptoBulk d + 1
  | .map entries => uptoBulkEntries entries + 1
  | .held _ => 1
def uptoBulkAll {H : Type} : List (DataW H) → Nat
  | [] => 0
  | d :: r => uptoBulk d + uptoBulkAll r
def uptoBulkEntries {H : Type} : List (Lit × DataW H) → Nat
  | [] => 0
  | x :: r => uptoBulkEntry x + uptoBulkEntries r
def uptoBulkEntry {H : Type} : Lit × DataW H → Nat
  | (.string bytes, d) => bytes.length + uptoBulk d + 1
  | (_, d) => uptoBulk d + 1
 end
def uptoSmall : (H : Type) → List (DataW H) → Bool := fun _ ds => decide (uptoBulkAll ds ≤ 1048576)
def OpenSpec.upto (s : _root_.Go.ChangeSpec) : _root_.Go.OpenSpec := { _root_.Go.OpenSpec.ofChange s with cond := some uptoSmall }

/-- 'hindcastlaw06.WorldLoads', WHERE WHAT IT READS IS OF BULK AT MOST 1048576: true; the input reads as it did. -/
def worldLoadsUptoRow : OpenClaim := { program := "ytcccjgmekakabaagreat", sum := "edbe4f714ef0015b6a2d29013e558a387c35995b919ffd978b02b987c65577d5", func := "hindcast/hindcastlaw06.WorldLoads", spec := "worldLoads", inPlace := ["slices.overlaps[int64]"], unfollowed := true, recurses := true, plainKeys := false, apart := false, narrowed := true }
def WorldLoadsUptoSaid : Prop := worldLoadsUptoRow.holds Tryz.pinned (OpenSpec.upto worldLoadsSpec)

/-- 'hindcastlaw06.WorldPlays', WHERE WHAT IT READS IS OF BULK AT MOST 1048576: true; the input reads as it did. -/
def worldPlaysUptoRow : OpenClaim := { program := "ytcccjgmekakabaagreat", sum := "edbe4f714ef0015b6a2d29013e558a387c35995b919ffd978b02b987c65577d5", func := "hindcast/hindcastlaw06.WorldPlays", spec := "worldPlays", inPlace := ["slices.overlaps[int64]", "maps.clone"], unfollowed := true, recurses := true, plainKeys := false, apart := false, narrowed := true }
def WorldPlaysUptoSaid : Prop := worldPlaysUptoRow.holds Tryz.pinned (OpenSpec.upto worldPlaysSpec)

end Rows
end Go.Proofs.YtcccjgmekakabaaGreat
