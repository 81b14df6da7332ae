/-
  No cell of these rows narrows 'for every input' (looked for: loops, veiled, ifaces, maps, wideKeys, modest, calm, conditions, laid).
  DERIVED. THE GIVEN ROWS OF THIS SEAT. 5 by the template 'for every input the law returns true; each argument reads behind the call as it read before'; 0 by the template 'total and deterministic' (their statements: YtdgcafohfedbhaaTotals.lean).
  GIVEN WITH THE SEED: the statements are not yours to turn. If you find one false, say at which input.
  Laid BY PROGRAM, IN A SANDBOX (cutbox-rows.mjs): the forced cells as the released guide's own fill.sh prints them over the translation 03a5e981c0a19258… (all of the seat's roots in one cut). By AI agents, Wed Nov 11 2026. No macro, syntax, notation, axiom, sorry.
-/
import Derived.Test.YtdgcafohfedbhaaChecked
import GoSem.Claim
import GoSem.ClaimJoined
import GoSem.ClaimMapViews
import Derived.JoinedTies
import Derived.KernelRfl
namespace Go.Proofs.Ytdgcafohfedbhaa
/- THE CELL 'sum', in the pinned program and in every row, IS THE sha256 OF THE DUMP (.gsa) THAT YtdgcafohfedbhaaProg.lean LOADS. Nothing in Lean hashes anything: it is a label: what it is worth is what the hold of that sum in a sandbox is worth. -/
noncomputable def Try.pinned : Pinned := { name := "ytdgcafohfedbhaa", sum := "03a5e981c0a192583a44af3628f9c6ae63ff5d97343f181eb3eb808593e5bbf0", checked := Try.checked }
namespace Rows
def none {H : Type} : Left H := { results := [], args := [] }

/-- 'tidemilllaw03.CoilInts': WHATEVER THE INPUT: true; the input reads as it did. -/
def coilIntsSpec : ChangeSpec := { name := "coilInts", fn := fun _ => fun
  | [d] => { results := [.lit (.bool true)], args := [d] }
  | _ => none }
def coilIntsRow : OpenClaim := { program := "ytdgcafohfedbhaa", sum := "03a5e981c0a192583a44af3628f9c6ae63ff5d97343f181eb3eb808593e5bbf0", func := "tidemill/tidemilllaw03.CoilInts", spec := "coilInts", unfollowed := true, recurses := true, apart := false }
def CoilIntsSaid : Prop := coilIntsRow.holds Try.pinned (OpenSpec.ofChange coilIntsSpec)

/-- ITS FALSE NEIGHBOUR: 'it returns false'. Refute it at one input. -/
def coilIntsWrong : ChangeSpec := { name := "coilInts", fn := fun _ => fun
  | [d] => { results := [.lit (.bool false)], args := [d] }
  | _ => none }
def CoilIntsWrongFalsely : Prop := coilIntsRow.holds Try.pinned (OpenSpec.ofChange coilIntsWrong)

/-- 'tidemilllaw03.CoilTakes': WHATEVER THE INPUT: true; the input reads as it did. -/
def coilTakesSpec : ChangeSpec := { name := "coilTakes", fn := fun _ => fun
  | [d1, d2, d3] => { results := [.lit (.bool true)], args := [d1, d2, d3] }
  | _ => none }
def coilTakesRow : OpenClaim := { program := "ytdgcafohfedbhaa", sum := "03a5e981c0a192583a44af3628f9c6ae63ff5d97343f181eb3eb808593e5bbf0", func := "tidemill/tidemilllaw03.CoilTakes", spec := "coilTakes", unfollowed := true, recurses := true, apart := false }
def CoilTakesSaid : Prop := coilTakesRow.holds Try.pinned (OpenSpec.ofChange coilTakesSpec)

/-- ITS FALSE NEIGHBOUR: 'it returns false'. Refute it at one input. -/
def coilTakesWrong : ChangeSpec := { name := "coilTakes", fn := fun _ => fun
  | [d1, d2, d3] => { results := [.lit (.bool false)], args := [d1, d2, d3] }
  | _ => none }
def CoilTakesWrongFalsely : Prop := coilTakesRow.holds Try.pinned (OpenSpec.ofChange coilTakesWrong)

/-- 'tidemilllaw03.CoilTexts': WHATEVER THE INPUT: true; the input reads as it did. -/
def coilTextsSpec : ChangeSpec := { name := "coilTexts", fn := fun _ => fun
  | [d1, d2] => { results := [.lit (.bool true)], args := [d1, d2] }
  | _ => none }
def coilTextsRow : OpenClaim := { program := "ytdgcafohfedbhaa", sum := "03a5e981c0a192583a44af3628f9c6ae63ff5d97343f181eb3eb808593e5bbf0", func := "tidemill/tidemilllaw03.CoilTexts", spec := "coilTexts", unfollowed := true, recurses := true, apart := false }
def CoilTextsSaid : Prop := coilTextsRow.holds Try.pinned (OpenSpec.ofChange coilTextsSpec)

/-- ITS FALSE NEIGHBOUR: 'it returns false'. Refute it at one input. -/
def coilTextsWrong : ChangeSpec := { name := "coilTexts", fn := fun _ => fun
  | [d1, d2] => { results := [.lit (.bool false)], args := [d1, d2] }
  | _ => none }
def CoilTextsWrongFalsely : Prop := coilTextsRow.holds Try.pinned (OpenSpec.ofChange coilTextsWrong)

/-- 'tidemilllaw03.CoilBytes': WHATEVER THE INPUT: true; the input reads as it did. -/
def coilBytesSpec : ChangeSpec := { name := "coilBytes", fn := fun _ => fun
  | [d] => { results := [.lit (.bool true)], args := [d] }
  | _ => none }
def coilBytesRow : OpenClaim := { program := "ytdgcafohfedbhaa", sum := "03a5e981c0a192583a44af3628f9c6ae63ff5d97343f181eb3eb808593e5bbf0", func := "tidemill/tidemilllaw03.CoilBytes", spec := "coilBytes", unfollowed := true, recurses := true, apart := false }
def CoilBytesSaid : Prop := coilBytesRow.holds Try.pinned (OpenSpec.ofChange coilBytesSpec)

/-- ITS FALSE NEIGHBOUR: 'it returns false'. Refute it at one input. -/
def coilBytesWrong : ChangeSpec := { name := "coilBytes", fn := fun _ => fun
  | [d] => { results := [.lit (.bool false)], args := [d] }
  | _ => none }
def CoilBytesWrongFalsely : Prop := coilBytesRow.holds Try.pinned (OpenSpec.ofChange coilBytesWrong)

/-- 'tidemilllaw03.CoilLists': WHATEVER THE INPUT: true; the input reads as it did. -/
def coilListsSpec : ChangeSpec := { name := "coilLists", fn := fun _ => fun
  | [d1, d2] => { results := [.lit (.bool true)], args := [d1, d2] }
  | _ => none }
def coilListsRow : OpenClaim := { program := "ytdgcafohfedbhaa", sum := "03a5e981c0a192583a44af3628f9c6ae63ff5d97343f181eb3eb808593e5bbf0", func := "tidemill/tidemilllaw03.CoilLists", spec := "coilLists", unfollowed := true, recurses := true, apart := false }
def CoilListsSaid : Prop := coilListsRow.holds Try.pinned (OpenSpec.ofChange coilListsSpec)

/-- ITS FALSE NEIGHBOUR: 'it returns false'. Refute it at one input. -/
def coilListsWrong : ChangeSpec := { name := "coilLists", fn := fun _ => fun
  | [d1, d2] => { results := [.lit (.bool false)], args := [d1, d2] }
  | _ => none }
def CoilListsWrongFalsely : Prop := coilListsRow.holds Try.pinned (OpenSpec.ofChange coilListsWrong)

/- THE SECOND FORM. 'bulk': how many values and letters a reading holds, each counted each time it is reached (what is shared counts as often as it is met; a slice's spare places count too). A statement '..UptoSaid' is the law's where the arguments, and the package variables that the reading takes, are together of bulk at most 1048576: NARROWER than '..Said'. Prove '..Said' where nothing that the law and all that it calls make is longer than what came in: it says more and counts as full. Else prove '..UptoSaid'. A law counts once. -/
mutual
def uptoBulk {H : Type} : DataW H → Nat
  | .lit (.string bytes) => bytes.length + 1
  | .lit _ => 1
  | .nil => 1
  | .ptr d => uptoBulk d + 1
  | .slice elems spare => uptoBulkAll elems + uptoBulkAll spare + 1
  | .agg parts => uptoBulkAll parts + 1
  | .iface _ d => uptoBulk d + 1
  | .map entries => uptoBulkEntries entries + 1
  | .held _ => 1
def uptoBulkAll {H : Type} : List (DataW H) → Nat
  | [] => 0
  | d :: r => uptoBulk d + uptoBulkAll r
def uptoBulkEntries {H : Type} : List (Lit × DataW H) → Nat
  | [] => 0
  | x :: r => uptoBulkEntry x + uptoBulkEntries r
def uptoBulkEntry {H : Type} : Lit × DataW H → Nat
  | (.string bytes, d) => bytes.length + uptoBulk d + 1
  | (_, d) => uptoBulk d + 1
 end
def uptoSmall : (H : Type) → List (DataW H) → Bool := fun _ ds => decide (uptoBulkAll ds ≤ 1048576)
def OpenSpec.upto (s : _root_.Go.ChangeSpec) : _root_.Go.OpenSpec := { _root_.Go.OpenSpec.ofChange s with cond := some uptoSmall }

/-- 'tidemilllaw03.CoilInts', WHERE WHAT IT READS IS OF BULK AT MOST 1048576: true; the input reads as it did. -/
def coilIntsUptoRow : OpenClaim := { program := "ytdgcafohfedbhaa", sum := "03a5e981c0a192583a44af3628f9c6ae63ff5d97343f181eb3eb808593e5bbf0", func := "tidemill/tidemilllaw03.CoilInts", spec := "coilInts", unfollowed := true, recurses := true, apart := false, narrowed := true }
def CoilIntsUptoSaid : Prop := coilIntsUptoRow.holds Try.pinned (OpenSpec.upto coilIntsSpec)

/-- 'tidemilllaw03.CoilTakes', WHERE WHAT IT READS IS OF BULK AT MOST 1048576: true; the input reads as it did. -/
def coilTakesUptoRow : OpenClaim := { program := "ytdgcafohfedbhaa", sum := "03a5e981c0a192583a44af3628f9c6ae63ff5d97343f181eb3eb808593e5bbf0", func := "tidemill/tidemilllaw03.CoilTakes", spec := "coilTakes", unfollowed := true, recurses := true, apart := false, narrowed := true }
def CoilTakesUptoSaid : Prop := coilTakesUptoRow.holds Try.pinned (OpenSpec.upto coilTakesSpec)

/-- 'tidemilllaw03.CoilTexts', WHERE WHAT IT READS IS OF BULK AT MOST 1048576: true; the input reads as it did. -/
def coilTextsUptoRow : OpenClaim := { program := "ytdgcafohfedbhaa", sum := "03a5e981c0a192583a44af3628f9c6ae63ff5d97343f181eb3eb808593e5bbf0", func := "tidemill/tidemilllaw03.CoilTexts", spec := "coilTexts", unfollowed := true, recurses := true, apart := false, narrowed := true }
def CoilTextsUptoSaid : Prop := coilTextsUptoRow.holds Try.pinned (OpenSpec.upto coilTextsSpec)

/-- 'tidemilllaw03.CoilBytes', WHERE WHAT IT READS IS OF BULK AT MOST 1048576: true; the input reads as it did. -/
def coilBytesUptoRow : OpenClaim := { program := "ytdgcafohfedbhaa", sum := "03a5e981c0a192583a44af3628f9c6ae63ff5d97343f181eb3eb808593e5bbf0", func := "tidemill/tidemilllaw03.CoilBytes", spec := "coilBytes", unfollowed := true, recurses := true, apart := false, narrowed := true }
def CoilBytesUptoSaid : Prop := coilBytesUptoRow.holds Try.pinned (OpenSpec.upto coilBytesSpec)

/-- 'tidemilllaw03.CoilLists', WHERE WHAT IT READS IS OF BULK AT MOST 1048576: true; the input reads as it did. -/
def coilListsUptoRow : OpenClaim := { program := "ytdgcafohfedbhaa", sum := "03a5e981c0a192583a44af3628f9c6ae63ff5d97343f181eb3eb808593e5bbf0", func := "tidemill/tidemilllaw03.CoilLists", spec := "coilLists", unfollowed := true, recurses := true, apart := false, narrowed := true }
def CoilListsUptoSaid : Prop := coilListsUptoRow.holds Try.pinned (OpenSpec.upto coilListsSpec)

end Rows
end Go.Proofs.Ytdgcafohfedbhaa
