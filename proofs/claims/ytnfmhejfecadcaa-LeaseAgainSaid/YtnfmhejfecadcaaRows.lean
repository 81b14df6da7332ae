/-
  No cell of these rows narrows 'for every input' (looked for: loops, veiled, ifaces, maps, wideKeys, modest, calm, conditions, laid).
  DERIVED. THE GIVEN ROWS OF THIS SEAT. 4 by the template 'for every input the law returns true; each argument reads behind the call as it read before'; 0 by the template 'total and deterministic' (their statements: YtnfmhejfecadcaaTotals.lean).
  GIVEN WITH THE SEED: the statements are not yours to turn. If you find one false, say at which input.
  Laid BY PROGRAM, IN A SANDBOX (cutbox-rows.mjs): the forced cells as the released guide's own fill.sh prints them over the translation 75fb95857530c2e0… (all of the seat's roots in one cut). By AI agents, Wed Nov 11 2026. No macro, syntax, notation, axiom, sorry.
-/
import Derived.Test.YtnfmhejfecadcaaChecked
import GoSem.Claim
import GoSem.ClaimJoined
import GoSem.ClaimMapViews
import Derived.JoinedTies
import Derived.KernelRfl
namespace Go.Proofs.Ytnfmhejfecadcaa
/- THE CELL 'sum', in the pinned program and in every row, IS THE sha256 OF THE DUMP (.gsa) THAT YtnfmhejfecadcaaProg.lean LOADS. Nothing in Lean hashes anything: it is a label: what it is worth is what the hold of that sum in a sandbox is worth. -/
noncomputable def Try.pinned : Pinned := { name := "ytnfmhejfecadcaa", sum := "75fb95857530c2e0cb6b4641c3bbf875b951de40b8b4319f0b956e493ef55afb", checked := Try.checked }
namespace Rows
def none {H : Type} : Left H := { results := [], args := [] }

/-- 'tidemilllaw22.LeasePlays': WHATEVER THE INPUT: true; the input reads as it did. -/
def leasePlaysSpec : ChangeSpec := { name := "leasePlays", fn := fun _ => fun
  | [d1, d2] => { results := [.lit (.bool true)], args := [d1, d2] }
  | _ => none }
def leasePlaysRow : OpenClaim := { program := "ytnfmhejfecadcaa", sum := "75fb95857530c2e0cb6b4641c3bbf875b951de40b8b4319f0b956e493ef55afb", func := "tidemill/tidemilllaw22.LeasePlays", spec := "leasePlays", apart := false }
def LeasePlaysSaid : Prop := leasePlaysRow.holds Try.pinned (OpenSpec.ofChange leasePlaysSpec)

/-- ITS FALSE NEIGHBOUR: 'it returns false'. Refute it at one input. -/
def leasePlaysWrong : ChangeSpec := { name := "leasePlays", fn := fun _ => fun
  | [d1, d2] => { results := [.lit (.bool false)], args := [d1, d2] }
  | _ => none }
def LeasePlaysWrongFalsely : Prop := leasePlaysRow.holds Try.pinned (OpenSpec.ofChange leasePlaysWrong)

/-- 'tidemilllaw22.LeaseOne': WHATEVER THE INPUT: true; the input reads as it did. -/
def leaseOneSpec : ChangeSpec := { name := "leaseOne", fn := fun _ => fun
  | [d1, d2] => { results := [.lit (.bool true)], args := [d1, d2] }
  | _ => none }
def leaseOneRow : OpenClaim := { program := "ytnfmhejfecadcaa", sum := "75fb95857530c2e0cb6b4641c3bbf875b951de40b8b4319f0b956e493ef55afb", func := "tidemill/tidemilllaw22.LeaseOne", spec := "leaseOne", apart := false }
def LeaseOneSaid : Prop := leaseOneRow.holds Try.pinned (OpenSpec.ofChange leaseOneSpec)

/-- ITS FALSE NEIGHBOUR: 'it returns false'. Refute it at one input. -/
def leaseOneWrong : ChangeSpec := { name := "leaseOne", fn := fun _ => fun
  | [d1, d2] => { results := [.lit (.bool false)], args := [d1, d2] }
  | _ => none }
def LeaseOneWrongFalsely : Prop := leaseOneRow.holds Try.pinned (OpenSpec.ofChange leaseOneWrong)

/-- 'tidemilllaw22.LeaseAgain': WHATEVER THE INPUT: true; the input reads as it did. -/
def leaseAgainSpec : ChangeSpec := { name := "leaseAgain", fn := fun _ => fun
  | [d1, d2, d3] => { results := [.lit (.bool true)], args := [d1, d2, d3] }
  | _ => none }
def leaseAgainRow : OpenClaim := { program := "ytnfmhejfecadcaa", sum := "75fb95857530c2e0cb6b4641c3bbf875b951de40b8b4319f0b956e493ef55afb", func := "tidemill/tidemilllaw22.LeaseAgain", spec := "leaseAgain", unfollowed := true, recurses := true, apart := false }
def LeaseAgainSaid : Prop := leaseAgainRow.holds Try.pinned (OpenSpec.ofChange leaseAgainSpec)

/-- ITS FALSE NEIGHBOUR: 'it returns false'. Refute it at one input. -/
def leaseAgainWrong : ChangeSpec := { name := "leaseAgain", fn := fun _ => fun
  | [d1, d2, d3] => { results := [.lit (.bool false)], args := [d1, d2, d3] }
  | _ => none }
def LeaseAgainWrongFalsely : Prop := leaseAgainRow.holds Try.pinned (OpenSpec.ofChange leaseAgainWrong)

/-- 'tidemilllaw22.LeaseLoads': WHATEVER THE INPUT: true; the input reads as it did. -/
def leaseLoadsSpec : ChangeSpec := { name := "leaseLoads", fn := fun _ => fun
  | [d1, d2, d3] => { results := [.lit (.bool true)], args := [d1, d2, d3] }
  | _ => none }
def leaseLoadsRow : OpenClaim := { program := "ytnfmhejfecadcaa", sum := "75fb95857530c2e0cb6b4641c3bbf875b951de40b8b4319f0b956e493ef55afb", func := "tidemill/tidemilllaw22.LeaseLoads", spec := "leaseLoads", apart := false }
def LeaseLoadsSaid : Prop := leaseLoadsRow.holds Try.pinned (OpenSpec.ofChange leaseLoadsSpec)

/-- ITS FALSE NEIGHBOUR: 'it returns false'. Refute it at one input. -/
def leaseLoadsWrong : ChangeSpec := { name := "leaseLoads", fn := fun _ => fun
  | [d1, d2, d3] => { results := [.lit (.bool false)], args := [d1, d2, d3] }
  | _ => none }
def LeaseLoadsWrongFalsely : Prop := leaseLoadsRow.holds Try.pinned (OpenSpec.ofChange leaseLoadsWrong)

/- THE SECOND FORM. 'bulk': how many values and letters a reading holds, each counted each time it is reached (what is shared counts as often as it is met; a slice's spare places count too). A statement '..UptoSaid' is the law's where the arguments, and the package variables that the reading takes, are together of bulk at most 1048576: NARROWER than '..Said'. Prove '..Said' where nothing that the law and all that it calls make is longer than what came in: it says more and counts as full. Else prove '..UptoSaid'. A law counts once. -/
mutual
def uptoBulk {H : Type} : DataW H → Nat
  | .lit (.string bytes) => bytes.length + 1
  | .lit _ => 1
  | .nil => 1
  | .ptr d => uptoBulk d + 1
  | .slice elems spare => uptoBulkAll elems + uptoBulkAll spare + 1
  | .agg parts => uptoBulkAll parts + 1
  | .iface _ d => uptoBulk d + 1
  | .map entries => uptoBulkEntries entries + 1
  | .held _ => 1
def uptoBulkAll {H : Type} : List (DataW H) → Nat
  | [] => 0
  | d :: r => uptoBulk d + uptoBulkAll r
def uptoBulkEntries {H : Type} : List (Lit × DataW H) → Nat
  | [] => 0
  | x :: r => uptoBulkEntry x + uptoBulkEntries r
def uptoBulkEntry {H : Type} : Lit × DataW H → Nat
  | (.string bytes, d) => bytes.length + uptoBulk d + 1
  | (_, d) => uptoBulk d + 1
 end
def uptoSmall : (H : Type) → List (DataW H) → Bool := fun _ ds => decide (uptoBulkAll ds ≤ 1048576)
def OpenSpec.upto (s : _root_.Go.ChangeSpec) : _root_.Go.OpenSpec := { _root_.Go.OpenSpec.ofChange s with cond := some uptoSmall }

/-- 'tidemilllaw22.LeasePlays', WHERE WHAT IT READS IS OF BULK AT MOST 1048576: true; the input reads as it did. -/
def leasePlaysUptoRow : OpenClaim := { program := "ytnfmhejfecadcaa", sum := "75fb95857530c2e0cb6b4641c3bbf875b951de40b8b4319f0b956e493ef55afb", func := "tidemill/tidemilllaw22.LeasePlays", spec := "leasePlays", apart := false, narrowed := true }
def LeasePlaysUptoSaid : Prop := leasePlaysUptoRow.holds Try.pinned (OpenSpec.upto leasePlaysSpec)

/-- 'tidemilllaw22.LeaseOne', WHERE WHAT IT READS IS OF BULK AT MOST 1048576: true; the input reads as it did. -/
def leaseOneUptoRow : OpenClaim := { program := "ytnfmhejfecadcaa", sum := "75fb95857530c2e0cb6b4641c3bbf875b951de40b8b4319f0b956e493ef55afb", func := "tidemill/tidemilllaw22.LeaseOne", spec := "leaseOne", apart := false, narrowed := true }
def LeaseOneUptoSaid : Prop := leaseOneUptoRow.holds Try.pinned (OpenSpec.upto leaseOneSpec)

/-- 'tidemilllaw22.LeaseAgain', WHERE WHAT IT READS IS OF BULK AT MOST 1048576: true; the input reads as it did. -/
def leaseAgainUptoRow : OpenClaim := { program := "ytnfmhejfecadcaa", sum := "75fb95857530c2e0cb6b4641c3bbf875b951de40b8b4319f0b956e493ef55afb", func := "tidemill/tidemilllaw22.LeaseAgain", spec := "leaseAgain", unfollowed := true, recurses := true, apart := false, narrowed := true }
def LeaseAgainUptoSaid : Prop := leaseAgainUptoRow.holds Try.pinned (OpenSpec.upto leaseAgainSpec)

/-- 'tidemilllaw22.LeaseLoads', WHERE WHAT IT READS IS OF BULK AT MOST 1048576: true; the input reads as it did. -/
def leaseLoadsUptoRow : OpenClaim := { program := "ytnfmhejfecadcaa", sum := "75fb95857530c2e0cb6b4641c3bbf875b951de40b8b4319f0b956e493ef55afb", func := "tidemill/tidemilllaw22.LeaseLoads", spec := "leaseLoads", apart := false, narrowed := true }
def LeaseLoadsUptoSaid : Prop := leaseLoadsUptoRow.holds Try.pinned (OpenSpec.upto leaseLoadsSpec)

end Rows
end Go.Proofs.Ytnfmhejfecadcaa
