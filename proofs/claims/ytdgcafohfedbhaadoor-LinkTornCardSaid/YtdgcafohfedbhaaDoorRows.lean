/-
  NARROWER THAN 'FOR EVERY INPUT', by the rows' own cells (each row's printed sentence says how): LinkSums: laid · LinkFrames: laid · LinkTorn: laid.
  DERIVED. THE GIVEN ROWS OF THIS SEAT. 3 by the template 'for every input the law returns true; each argument reads behind the call as it read before'; 0 by the template 'total and deterministic' (their statements: YtdgcafohfedbhaaDoorTotals.lean).
  GIVEN WITH THE SEED: the statements are not yours to turn. If you find one false, say at which input.
  Laid BY PROGRAM, IN A SANDBOX (cutbox-rows.mjs): the forced cells as the released guide's own fill.sh prints them over the translation 8f2ae0199e4582f3… (all of the seat's roots in one cut). By AI agents, Wed Nov 11 2026. No macro, syntax, notation, axiom, sorry.
-/
import Derived.Test.YtdgcafohfedbhaaDoorChecked
import GoSem.Claim
import GoSem.ClaimJoined
import GoSem.ClaimMapViews
import Derived.JoinedTies
import Derived.KernelRfl
namespace Go.Proofs.YtdgcafohfedbhaaDoor
/- THE CELL 'sum', in the pinned program and in every row, IS THE sha256 OF THE DUMP (.gsa) THAT YtdgcafohfedbhaaDoorProg.lean LOADS. Nothing in Lean hashes anything: it is a label: what it is worth is what the hold of that sum in a sandbox is worth. -/
noncomputable def Tryd.pinned : Pinned := { name := "ytdgcafohfedbhaadoor", sum := "8f2ae0199e4582f355ed4543ce8c1168acbaf6609911c1b9f293fe8fee7d3799", checked := Tryd.checked }
namespace Rows
def none {H : Type} : Left H := { results := [], args := [] }

/- WHAT THE LISTED PACKAGE-LEVEL VARIABLES READ AS WHEN THE CALL BEGINS. Each datum BY PROGRAM (the guide's laid-datum.mjs) off the statement by which the dump's own 'gosem.cut.vars' lays the variable. In a bare row this is a premise. The card (YtdgcafohfedbhaaDoorCards.lean) ties it to the program's text. -/
def laid_tidemill_link_nibbles {H : Type} : DataW H := .agg [.lit (.int .u32 0), .lit (.int .u32 498536548), .lit (.int .u32 997073096), .lit (.int .u32 651767980), .lit (.int .u32 1994146192), .lit (.int .u32 1802195444), .lit (.int .u32 1303535960), .lit (.int .u32 1342533948), .lit (.int .u32 3988292384), .lit (.int .u32 4027552580), .lit (.int .u32 3604390888), .lit (.int .u32 3412177804), .lit (.int .u32 2607071920), .lit (.int .u32 2262029012), .lit (.int .u32 2685067896), .lit (.int .u32 3183342108)]

/-- 'tidemilllaw04.LinkSums': WHATEVER THE INPUT: true; the input reads as it did. -/
def linkSumsSpec : ChangeSpec := { name := "linkSums", fn := fun _ => fun
  | [d] => { results := [.lit (.bool true)], args := [d] }
  | _ => none }
def linkSumsRow : OpenClaim := { program := "ytdgcafohfedbhaadoor", sum := "8f2ae0199e4582f355ed4543ce8c1168acbaf6609911c1b9f293fe8fee7d3799", func := "tidemill/tidemilllaw04.LinkSums", spec := "linkSums", named := ["tidemill/link.nibbles"], apart := false, laid := [("tidemill/link.nibbles", laid_tidemill_link_nibbles)] }
def LinkSumsSaid : Prop := linkSumsRow.holds Tryd.pinned (OpenSpec.ofChange linkSumsSpec)

/-- ITS FALSE NEIGHBOUR: 'it returns false'. Refute it at one input. -/
def linkSumsWrong : ChangeSpec := { name := "linkSums", fn := fun _ => fun
  | [d] => { results := [.lit (.bool false)], args := [d] }
  | _ => none }
def LinkSumsWrongFalsely : Prop := linkSumsRow.holds Tryd.pinned (OpenSpec.ofChange linkSumsWrong)

/-- 'tidemilllaw04.LinkFrames': WHATEVER THE INPUT: true; the input reads as it did. -/
def linkFramesSpec : ChangeSpec := { name := "linkFrames", fn := fun _ => fun
  | [d1, d2] => { results := [.lit (.bool true)], args := [d1, d2] }
  | _ => none }
def linkFramesRow : OpenClaim := { program := "ytdgcafohfedbhaadoor", sum := "8f2ae0199e4582f355ed4543ce8c1168acbaf6609911c1b9f293fe8fee7d3799", func := "tidemill/tidemilllaw04.LinkFrames", spec := "linkFrames", unfollowed := true, recurses := true, named := ["tidemill/link.nibbles"], apart := false, laid := [("tidemill/link.nibbles", laid_tidemill_link_nibbles)] }
def LinkFramesSaid : Prop := linkFramesRow.holds Tryd.pinned (OpenSpec.ofChange linkFramesSpec)

/-- ITS FALSE NEIGHBOUR: 'it returns false'. Refute it at one input. -/
def linkFramesWrong : ChangeSpec := { name := "linkFrames", fn := fun _ => fun
  | [d1, d2] => { results := [.lit (.bool false)], args := [d1, d2] }
  | _ => none }
def LinkFramesWrongFalsely : Prop := linkFramesRow.holds Tryd.pinned (OpenSpec.ofChange linkFramesWrong)

/-- 'tidemilllaw04.LinkTorn': WHATEVER THE INPUT: true; the input reads as it did. -/
def linkTornSpec : ChangeSpec := { name := "linkTorn", fn := fun _ => fun
  | [d1, d2, d3] => { results := [.lit (.bool true)], args := [d1, d2, d3] }
  | _ => none }
def linkTornRow : OpenClaim := { program := "ytdgcafohfedbhaadoor", sum := "8f2ae0199e4582f355ed4543ce8c1168acbaf6609911c1b9f293fe8fee7d3799", func := "tidemill/tidemilllaw04.LinkTorn", spec := "linkTorn", unfollowed := true, recurses := true, named := ["tidemill/link.nibbles"], apart := false, laid := [("tidemill/link.nibbles", laid_tidemill_link_nibbles)] }
def LinkTornSaid : Prop := linkTornRow.holds Tryd.pinned (OpenSpec.ofChange linkTornSpec)

/-- ITS FALSE NEIGHBOUR: 'it returns false'. Refute it at one input. -/
def linkTornWrong : ChangeSpec := { name := "linkTorn", fn := fun _ => fun
  | [d1, d2, d3] => { results := [.lit (.bool false)], args := [d1, d2, d3] }
  | _ => none }
def LinkTornWrongFalsely : Prop := linkTornRow.holds Tryd.pinned (OpenSpec.ofChange linkTornWrong)

/- THE SECOND FORM. 'bulk': how many values and letters a reading holds, each counted each time it is reached (what is shared counts as often as it is met; a slice's spare places count too). A statement '..UptoSaid' is the law's where the arguments, and the package variables that the reading takes, are together of bulk at most 1048576: NARROWER than '..Said'. Prove '..Said' where nothing that the law and all that it calls make is longer than what came in: it says more and counts as full. Else prove '..UptoSaid'. A law counts once. -/
mutual
def uptoBulk {H : Type} : DataW H → Nat
  | .lit (.string bytes) => bytes.length + 1
  | .lit _ => 1
  | .nil => 1
  | .ptr d => uptoBulk d + 1
  | .slice elems spare => uptoBulkAll elems + uptoBulkAll spare + 1
  | .agg parts => uptoBulkAll parts + 1
  | .iface _ d => uptoBulk d + 1
  | .map entries => uptoBulkEntries entries + 1
  | .held _ => 1
def uptoBulkAll {H : Type} : List (DataW H) → Nat
  | [] => 0
  | d :: r => uptoBulk d + uptoBulkAll r
def uptoBulkEntries {H : Type} : List (Lit × DataW H) → Nat
  | [] => 0
  | x :: r => uptoBulkEntry x + uptoBulkEntries r
def uptoBulkEntry {H : Type} : Lit × DataW H → Nat
  | (.string bytes, d) => bytes.length + uptoBulk d + 1
  | (_, d) => uptoBulk d + 1
 end
def uptoSmall : (H : Type) → List (DataW H) → Bool := fun _ ds => decide (uptoBulkAll ds ≤ 1048576)
def OpenSpec.upto (s : _root_.Go.ChangeSpec) : _root_.Go.OpenSpec := { _root_.Go.OpenSpec.ofChange s with cond := some uptoSmall }

/-- 'tidemilllaw04.LinkSums', WHERE WHAT IT READS IS OF BULK AT MOST 1048576: true; the input reads as it did. -/
def linkSumsUptoRow : OpenClaim := { program := "ytdgcafohfedbhaadoor", sum := "8f2ae0199e4582f355ed4543ce8c1168acbaf6609911c1b9f293fe8fee7d3799", func := "tidemill/tidemilllaw04.LinkSums", spec := "linkSums", named := ["tidemill/link.nibbles"], apart := false, laid := [("tidemill/link.nibbles", laid_tidemill_link_nibbles)], narrowed := true }
def LinkSumsUptoSaid : Prop := linkSumsUptoRow.holds Tryd.pinned (OpenSpec.upto linkSumsSpec)

/-- 'tidemilllaw04.LinkFrames', WHERE WHAT IT READS IS OF BULK AT MOST 1048576: true; the input reads as it did. -/
def linkFramesUptoRow : OpenClaim := { program := "ytdgcafohfedbhaadoor", sum := "8f2ae0199e4582f355ed4543ce8c1168acbaf6609911c1b9f293fe8fee7d3799", func := "tidemill/tidemilllaw04.LinkFrames", spec := "linkFrames", unfollowed := true, recurses := true, named := ["tidemill/link.nibbles"], apart := false, laid := [("tidemill/link.nibbles", laid_tidemill_link_nibbles)], narrowed := true }
def LinkFramesUptoSaid : Prop := linkFramesUptoRow.holds Tryd.pinned (OpenSpec.upto linkFramesSpec)

/-- 'tidemilllaw04.LinkTorn', WHERE WHAT IT READS IS OF BULK AT MOST 1048576: true; the input reads as it did. -/
def linkTornUptoRow : OpenClaim := { program := "ytdgcafohfedbhaadoor", sum := "8f2ae0199e4582f355ed4543ce8c1168acbaf6609911c1b9f293fe8fee7d3799", func := "tidemill/tidemilllaw04.LinkTorn", spec := "linkTorn", unfollowed := true, recurses := true, named := ["tidemill/link.nibbles"], apart := false, laid := [("tidemill/link.nibbles", laid_tidemill_link_nibbles)], narrowed := true }
def LinkTornUptoSaid : Prop := linkTornUptoRow.holds Tryd.pinned (OpenSpec.upto linkTornSpec)

end Rows
end Go.Proofs.YtdgcafohfedbhaaDoor
