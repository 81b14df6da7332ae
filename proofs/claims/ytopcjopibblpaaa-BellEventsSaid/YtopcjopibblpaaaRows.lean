/-
  No cell of these rows narrows 'for every input' (looked for: loops, veiled, ifaces, maps, wideKeys, modest, calm, conditions, laid).
  DERIVED. THE GIVEN ROWS OF THIS SEAT. 4 by the template 'for every input the law returns true; each argument reads behind the call as it read before'; 0 by the template 'total and deterministic' (their statements: YtopcjopibblpaaaTotals.lean).
  GIVEN WITH THE SEED: the statements are not yours to turn. If you find one false, say at which input.
  Laid BY PROGRAM, IN A SANDBOX (cutbox-rows.mjs): the forced cells as the released guide's own fill.sh prints them over the translation 1e51dbf1707aa7a3… (all of the seat's roots in one cut). By AI agents, Wed Nov 11 2026. No macro, syntax, notation, axiom, sorry.
-/
import Derived.Test.YtopcjopibblpaaaChecked
import GoSem.Claim
import GoSem.ClaimJoined
import GoSem.ClaimMapViews
import Derived.JoinedTies
import Derived.KernelRfl
namespace Go.Proofs.Ytopcjopibblpaaa
/- THE CELL 'sum', in the pinned program and in every row, IS THE sha256 OF THE DUMP (.gsa) THAT YtopcjopibblpaaaProg.lean LOADS. Nothing in Lean hashes anything: it is a label: what it is worth is what the hold of that sum in a sandbox is worth. -/
noncomputable def Try.pinned : Pinned := { name := "ytopcjopibblpaaa", sum := "1e51dbf1707aa7a3b95b65ff42f39d8cf79e4190a26f8fd519e6833a1e7f05e1", checked := Try.checked }
namespace Rows
def none {H : Type} : Left H := { results := [], args := [] }

/-- 'tidemilllaw29.BellHears': WHATEVER THE INPUT: true; the input reads as it did. -/
def bellHearsSpec : ChangeSpec := { name := "bellHears", fn := fun _ => fun
  | [d1, d2] => { results := [.lit (.bool true)], args := [d1, d2] }
  | _ => none }
def bellHearsRow : OpenClaim := { program := "ytopcjopibblpaaa", sum := "1e51dbf1707aa7a3b95b65ff42f39d8cf79e4190a26f8fd519e6833a1e7f05e1", func := "tidemill/tidemilllaw29.BellHears", spec := "bellHears", apart := false }
def BellHearsSaid : Prop := bellHearsRow.holds Try.pinned (OpenSpec.ofChange bellHearsSpec)

/-- ITS FALSE NEIGHBOUR: 'it returns false'. Refute it at one input. -/
def bellHearsWrong : ChangeSpec := { name := "bellHears", fn := fun _ => fun
  | [d1, d2] => { results := [.lit (.bool false)], args := [d1, d2] }
  | _ => none }
def BellHearsWrongFalsely : Prop := bellHearsRow.holds Try.pinned (OpenSpec.ofChange bellHearsWrong)

/-- 'tidemilllaw29.BellLoads': WHATEVER THE INPUT: true; the input reads as it did. -/
def bellLoadsSpec : ChangeSpec := { name := "bellLoads", fn := fun _ => fun
  | [d1, d2, d3] => { results := [.lit (.bool true)], args := [d1, d2, d3] }
  | _ => none }
def bellLoadsRow : OpenClaim := { program := "ytopcjopibblpaaa", sum := "1e51dbf1707aa7a3b95b65ff42f39d8cf79e4190a26f8fd519e6833a1e7f05e1", func := "tidemill/tidemilllaw29.BellLoads", spec := "bellLoads", apart := false }
def BellLoadsSaid : Prop := bellLoadsRow.holds Try.pinned (OpenSpec.ofChange bellLoadsSpec)

/-- ITS FALSE NEIGHBOUR: 'it returns false'. Refute it at one input. -/
def bellLoadsWrong : ChangeSpec := { name := "bellLoads", fn := fun _ => fun
  | [d1, d2, d3] => { results := [.lit (.bool false)], args := [d1, d2, d3] }
  | _ => none }
def BellLoadsWrongFalsely : Prop := bellLoadsRow.holds Try.pinned (OpenSpec.ofChange bellLoadsWrong)

/-- 'tidemilllaw29.BellTurns': WHATEVER THE INPUT: true; the input reads as it did. -/
def bellTurnsSpec : ChangeSpec := { name := "bellTurns", fn := fun _ => fun
  | [d1, d2, d3] => { results := [.lit (.bool true)], args := [d1, d2, d3] }
  | _ => none }
def bellTurnsRow : OpenClaim := { program := "ytopcjopibblpaaa", sum := "1e51dbf1707aa7a3b95b65ff42f39d8cf79e4190a26f8fd519e6833a1e7f05e1", func := "tidemill/tidemilllaw29.BellTurns", spec := "bellTurns", apart := false }
def BellTurnsSaid : Prop := bellTurnsRow.holds Try.pinned (OpenSpec.ofChange bellTurnsSpec)

/-- ITS FALSE NEIGHBOUR: 'it returns false'. Refute it at one input. -/
def bellTurnsWrong : ChangeSpec := { name := "bellTurns", fn := fun _ => fun
  | [d1, d2, d3] => { results := [.lit (.bool false)], args := [d1, d2, d3] }
  | _ => none }
def BellTurnsWrongFalsely : Prop := bellTurnsRow.holds Try.pinned (OpenSpec.ofChange bellTurnsWrong)

/-- 'tidemilllaw29.BellEvents': WHATEVER THE INPUT: true; the input reads as it did. -/
def bellEventsSpec : ChangeSpec := { name := "bellEvents", fn := fun _ => fun
  | [d1, d2, d3] => { results := [.lit (.bool true)], args := [d1, d2, d3] }
  | _ => none }
def bellEventsRow : OpenClaim := { program := "ytopcjopibblpaaa", sum := "1e51dbf1707aa7a3b95b65ff42f39d8cf79e4190a26f8fd519e6833a1e7f05e1", func := "tidemill/tidemilllaw29.BellEvents", spec := "bellEvents", unfollowed := true, recurses := true, apart := false }
def BellEventsSaid : Prop := bellEventsRow.holds Try.pinned (OpenSpec.ofChange bellEventsSpec)

/-- ITS FALSE NEIGHBOUR: 'it returns false'. Refute it at one input. -/
def bellEventsWrong : ChangeSpec := { name := "bellEvents", fn := fun _ => fun
  | [d1, d2, d3] => { results := [.lit (.bool false)], args := [d1, d2, d3] }
  | _ => none }
def BellEventsWrongFalsely : Prop := bellEventsRow.holds Try.pinned (OpenSpec.ofChange bellEventsWrong)

/- THE SECOND FORM. 'bulk': how many values and letters a reading holds, each counted each time it is reached (what is shared counts as often as it is met; a slice's spare places count too). A statement '..UptoSaid' is the law's where the arguments, and the package variables that the reading takes, are together of bulk at most 1048576: NARROWER than '..Said'. Prove '..Said' where nothing that the law and all that it calls make is longer than what came in: it says more and counts as full. Else prove '..UptoSaid'. A law counts once. -/
mutual
def uptoBulk {H : Type} : DataW H → Nat
  | .lit (.string bytes) => bytes.length + 1
  | .lit _ => 1
  | .nil => 1
  | .ptr d => uptoBulk d + 1
  | .slice elems spare => uptoBulkAll elems + uptoBulkAll spare + 1
  | .agg parts => uptoBulkAll parts + 1
  | .iface _ d => uptoBulk d + 1
  | .map entries => uptoBulkEntries entries + 1
  | .held _ => 1
def uptoBulkAll {H : Type} : List (DataW H) → Nat
  | [] => 0
  | d :: r => uptoBulk d + uptoBulkAll r
def uptoBulkEntries {H : Type} : List (Lit × DataW H) → Nat
  | [] => 0
  | x :: r => uptoBulkEntry x + uptoBulkEntries r
def uptoBulkEntry {H : Type} : Lit × DataW H → Nat
  | (.string bytes, d) => bytes.length + uptoBulk d + 1
  | (_, d) => uptoBulk d + 1
 end
def uptoSmall : (H : Type) → List (DataW H) → Bool := fun _ ds => decide (uptoBulkAll ds ≤ 1048576)
def OpenSpec.upto (s : _root_.Go.ChangeSpec) : _root_.Go.OpenSpec := { _root_.Go.OpenSpec.ofChange s with cond := some uptoSmall }

/-- 'tidemilllaw29.BellHears', WHERE WHAT IT READS IS OF BULK AT MOST 1048576: true; the input reads as it did. -/
def bellHearsUptoRow : OpenClaim := { program := "ytopcjopibblpaaa", sum := "1e51dbf1707aa7a3b95b65ff42f39d8cf79e4190a26f8fd519e6833a1e7f05e1", func := "tidemill/tidemilllaw29.BellHears", spec := "bellHears", apart := false, narrowed := true }
def BellHearsUptoSaid : Prop := bellHearsUptoRow.holds Try.pinned (OpenSpec.upto bellHearsSpec)

/-- 'tidemilllaw29.BellLoads', WHERE WHAT IT READS IS OF BULK AT MOST 1048576: true; the input reads as it did. -/
def bellLoadsUptoRow : OpenClaim := { program := "ytopcjopibblpaaa", sum := "1e51dbf1707aa7a3b95b65ff42f39d8cf79e4190a26f8fd519e6833a1e7f05e1", func := "tidemill/tidemilllaw29.BellLoads", spec := "bellLoads", apart := false, narrowed := true }
def BellLoadsUptoSaid : Prop := bellLoadsUptoRow.holds Try.pinned (OpenSpec.upto bellLoadsSpec)

/-- 'tidemilllaw29.BellTurns', WHERE WHAT IT READS IS OF BULK AT MOST 1048576: true; the input reads as it did. -/
def bellTurnsUptoRow : OpenClaim := { program := "ytopcjopibblpaaa", sum := "1e51dbf1707aa7a3b95b65ff42f39d8cf79e4190a26f8fd519e6833a1e7f05e1", func := "tidemill/tidemilllaw29.BellTurns", spec := "bellTurns", apart := false, narrowed := true }
def BellTurnsUptoSaid : Prop := bellTurnsUptoRow.holds Try.pinned (OpenSpec.upto bellTurnsSpec)

/-- 'tidemilllaw29.BellEvents', WHERE WHAT IT READS IS OF BULK AT MOST 1048576: true; the input reads as it did. -/
def bellEventsUptoRow : OpenClaim := { program := "ytopcjopibblpaaa", sum := "1e51dbf1707aa7a3b95b65ff42f39d8cf79e4190a26f8fd519e6833a1e7f05e1", func := "tidemill/tidemilllaw29.BellEvents", spec := "bellEvents", unfollowed := true, recurses := true, apart := false, narrowed := true }
def BellEventsUptoSaid : Prop := bellEventsUptoRow.holds Try.pinned (OpenSpec.upto bellEventsSpec)

end Rows
end Go.Proofs.Ytopcjopibblpaaa
