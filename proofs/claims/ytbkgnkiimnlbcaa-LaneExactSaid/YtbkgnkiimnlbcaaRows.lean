/-
  No cell of these rows narrows 'for every input' (looked for: loops, veiled, ifaces, maps, wideKeys, modest, calm, conditions, laid).
  DERIVED. THE GIVEN ROWS OF THIS SEAT. 4 by the template 'for every input the law returns true; each argument reads behind the call as it read before'; 0 by the template 'total and deterministic' (their statements: YtbkgnkiimnlbcaaTotals.lean).
  GIVEN WITH THE SEED: the statements are not yours to turn. If you find one false, say at which input.
  Laid BY PROGRAM, IN A SANDBOX (cutbox-rows.mjs): the forced cells as the released guide's own fill.sh prints them over the translation d4befc1de1e5935c… (all of the seat's roots in one cut). By AI agents, Wed Nov 11 2026. No macro, syntax, notation, axiom, sorry.
-/
import Derived.Test.YtbkgnkiimnlbcaaChecked
import GoSem.Claim
import GoSem.ClaimJoined
import GoSem.ClaimMapViews
import Derived.JoinedTies
import Derived.KernelRfl
namespace Go.Proofs.Ytbkgnkiimnlbcaa
/- THE CELL 'sum', in the pinned program and in every row, IS THE sha256 OF THE DUMP (.gsa) THAT YtbkgnkiimnlbcaaProg.lean LOADS. Nothing in Lean hashes anything: it is a label: what it is worth is what the hold of that sum in a sandbox is worth. -/
noncomputable def Try.pinned : Pinned := { name := "ytbkgnkiimnlbcaa", sum := "d4befc1de1e5935ccbd4a24e5a380fd8936fa511d2c32be48e3757687bf6b196", checked := Try.checked }
namespace Rows
def none {H : Type} : Left H := { results := [], args := [] }

/-- 'reliquarylaw20.LaneExact': WHATEVER THE INPUT: true; the input reads as it did. -/
def laneExactSpec : ChangeSpec := { name := "laneExact", fn := fun _ => fun
  | [d1, d2] => { results := [.lit (.bool true)], args := [d1, d2] }
  | _ => none }
def laneExactRow : OpenClaim := { program := "ytbkgnkiimnlbcaa", sum := "d4befc1de1e5935ccbd4a24e5a380fd8936fa511d2c32be48e3757687bf6b196", func := "reliquary/reliquarylaw20.LaneExact", spec := "laneExact", unfollowed := true, recurses := true, plainKeys := false, apart := false }
def LaneExactSaid : Prop := laneExactRow.holds Try.pinned (OpenSpec.ofChange laneExactSpec)

/-- ITS FALSE NEIGHBOUR: 'it returns false'. Refute it at one input. -/
def laneExactWrong : ChangeSpec := { name := "laneExact", fn := fun _ => fun
  | [d1, d2] => { results := [.lit (.bool false)], args := [d1, d2] }
  | _ => none }
def LaneExactWrongFalsely : Prop := laneExactRow.holds Try.pinned (OpenSpec.ofChange laneExactWrong)

/-- 'reliquarylaw20.LaneOrder': WHATEVER THE INPUT: true; the input reads as it did. -/
def laneOrderSpec : ChangeSpec := { name := "laneOrder", fn := fun _ => fun
  | [d1, d2, d3] => { results := [.lit (.bool true)], args := [d1, d2, d3] }
  | _ => none }
def laneOrderRow : OpenClaim := { program := "ytbkgnkiimnlbcaa", sum := "d4befc1de1e5935ccbd4a24e5a380fd8936fa511d2c32be48e3757687bf6b196", func := "reliquary/reliquarylaw20.LaneOrder", spec := "laneOrder", unfollowed := true, recurses := true, plainKeys := false, apart := false }
def LaneOrderSaid : Prop := laneOrderRow.holds Try.pinned (OpenSpec.ofChange laneOrderSpec)

/-- ITS FALSE NEIGHBOUR: 'it returns false'. Refute it at one input. -/
def laneOrderWrong : ChangeSpec := { name := "laneOrder", fn := fun _ => fun
  | [d1, d2, d3] => { results := [.lit (.bool false)], args := [d1, d2, d3] }
  | _ => none }
def LaneOrderWrongFalsely : Prop := laneOrderRow.holds Try.pinned (OpenSpec.ofChange laneOrderWrong)

/-- 'reliquarylaw20.LanePick': WHATEVER THE INPUT: true; the input reads as it did. -/
def lanePickSpec : ChangeSpec := { name := "lanePick", fn := fun _ => fun
  | [d1, d2, d3] => { results := [.lit (.bool true)], args := [d1, d2, d3] }
  | _ => none }
def lanePickRow : OpenClaim := { program := "ytbkgnkiimnlbcaa", sum := "d4befc1de1e5935ccbd4a24e5a380fd8936fa511d2c32be48e3757687bf6b196", func := "reliquary/reliquarylaw20.LanePick", spec := "lanePick", unfollowed := true, recurses := true, plainKeys := false, apart := false }
def LanePickSaid : Prop := lanePickRow.holds Try.pinned (OpenSpec.ofChange lanePickSpec)

/-- ITS FALSE NEIGHBOUR: 'it returns false'. Refute it at one input. -/
def lanePickWrong : ChangeSpec := { name := "lanePick", fn := fun _ => fun
  | [d1, d2, d3] => { results := [.lit (.bool false)], args := [d1, d2, d3] }
  | _ => none }
def LanePickWrongFalsely : Prop := lanePickRow.holds Try.pinned (OpenSpec.ofChange lanePickWrong)

/-- 'reliquarylaw20.LaneApart': WHATEVER THE INPUT: true; the input reads as it did. -/
def laneApartSpec : ChangeSpec := { name := "laneApart", fn := fun _ => fun
  | [d1, d2] => { results := [.lit (.bool true)], args := [d1, d2] }
  | _ => none }
def laneApartRow : OpenClaim := { program := "ytbkgnkiimnlbcaa", sum := "d4befc1de1e5935ccbd4a24e5a380fd8936fa511d2c32be48e3757687bf6b196", func := "reliquary/reliquarylaw20.LaneApart", spec := "laneApart", unfollowed := true, recurses := true, plainKeys := false, apart := false }
def LaneApartSaid : Prop := laneApartRow.holds Try.pinned (OpenSpec.ofChange laneApartSpec)

/-- ITS FALSE NEIGHBOUR: 'it returns false'. Refute it at one input. -/
def laneApartWrong : ChangeSpec := { name := "laneApart", fn := fun _ => fun
  | [d1, d2] => { results := [.lit (.bool false)], args := [d1, d2] }
  | _ => none }
def LaneApartWrongFalsely : Prop := laneApartRow.holds Try.pinned (OpenSpec.ofChange laneApartWrong)

/- THE SECOND FORM. 'bulk': how many values and letters a reading holds, each counted each time it is reached (what is shared counts as often as it is met; a slice's spare places count too). A statement '..UptoSaid' is the law's where the arguments, and the package variables that the reading takes, are together of bulk at most 1048576: NARROWER than '..Said'. Prove '..Said' where nothing that the law and all that it calls make is longer than what came in: it says more and counts as full. Else prove '..UptoSaid'. A law counts once. -/
mutual
def uptoBulk {H : Type} : DataW H → Nat
  | .lit (.string bytes) => bytes.length + 1
  | .lit _ => 1
  | .nil => 1
  | .ptr d => uptoBulk d + 1
  | .slice elems spare => uptoBulkAll elems + uptoBulkAll spare + 1
  | .agg parts => uptoBulkAll parts + 1
  | .iface _ d => uptoBulk d + 1
  | .map entries => uptoBulkEntries entries + 1
  | .held _ => 1
def uptoBulkAll {H : Type} : List (DataW H) → Nat
  | [] => 0
  | d :: r => uptoBulk d + uptoBulkAll r
def uptoBulkEntries {H : Type} : List (Lit × DataW H) → Nat
  | [] => 0
  | x :: r => uptoBulkEntry x + uptoBulkEntries r
def uptoBulkEntry {H : Type} : Lit × DataW H → Nat
  | (.string bytes, d) => bytes.length + uptoBulk d + 1
  | (_, d) => uptoBulk d + 1
 end
def uptoSmall : (H : Type) → List (DataW H) → Bool := fun _ ds => decide (uptoBulkAll ds ≤ 1048576)
def OpenSpec.upto (s : _root_.Go.ChangeSpec) : _root_.Go.OpenSpec := { _root_.Go.OpenSpec.ofChange s with cond := some uptoSmall }

/-- 'reliquarylaw20.LaneExact', WHERE WHAT IT READS IS OF BULK AT MOST 1048576: true; the input reads as it did. -/
def laneExactUptoRow : OpenClaim := { program := "ytbkgnkiimnlbcaa", sum := "d4befc1de1e5935ccbd4a24e5a380fd8936fa511d2c32be48e3757687bf6b196", func := "reliquary/reliquarylaw20.LaneExact", spec := "laneExact", unfollowed := true, recurses := true, plainKeys := false, apart := false, narrowed := true }
def LaneExactUptoSaid : Prop := laneExactUptoRow.holds Try.pinned (OpenSpec.upto laneExactSpec)

/-- 'reliquarylaw20.LaneOrder', WHERE WHAT IT READS IS OF BULK AT MOST 1048576: true; the input reads as it did. -/
def laneOrderUptoRow : OpenClaim := { program := "ytbkgnkiimnlbcaa", sum := "d4befc1de1e5935ccbd4a24e5a380fd8936fa511d2c32be48e3757687bf6b196", func := "reliquary/reliquarylaw20.LaneOrder", spec := "laneOrder", unfollowed := true, recurses := true, plainKeys := false, apart := false, narrowed := true }
def LaneOrderUptoSaid : Prop := laneOrderUptoRow.holds Try.pinned (OpenSpec.upto laneOrderSpec)

/-- 'reliquarylaw20.LanePick', WHERE WHAT IT READS IS OF BULK AT MOST 1048576: true; the input reads as it did. -/
def lanePickUptoRow : OpenClaim := { program := "ytbkgnkiimnlbcaa", sum := "d4befc1de1e5935ccbd4a24e5a380fd8936fa511d2c32be48e3757687bf6b196", func := "reliquary/reliquarylaw20.LanePick", spec := "lanePick", unfollowed := true, recurses := true, plainKeys := false, apart := false, narrowed := true }
def LanePickUptoSaid : Prop := lanePickUptoRow.holds Try.pinned (OpenSpec.upto lanePickSpec)

/-- 'reliquarylaw20.LaneApart', WHERE WHAT IT READS IS OF BULK AT MOST 1048576: true; the input reads as it did. -/
def laneApartUptoRow : OpenClaim := { program := "ytbkgnkiimnlbcaa", sum := "d4befc1de1e5935ccbd4a24e5a380fd8936fa511d2c32be48e3757687bf6b196", func := "reliquary/reliquarylaw20.LaneApart", spec := "laneApart", unfollowed := true, recurses := true, plainKeys := false, apart := false, narrowed := true }
def LaneApartUptoSaid : Prop := laneApartUptoRow.holds Try.pinned (OpenSpec.upto laneApartSpec)

end Rows
end Go.Proofs.Ytbkgnkiimnlbcaa
