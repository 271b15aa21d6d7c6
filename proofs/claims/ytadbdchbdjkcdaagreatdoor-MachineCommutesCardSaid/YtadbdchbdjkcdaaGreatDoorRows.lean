/-
  NARROWER THAN 'FOR EVERY INPUT', by the rows' own cells (each row's printed sentence says how): MachineRuns: laid · MachineApplies: laid · MachineOnce: laid · MachineParts: laid · MachineReads: laid · MachineOutside: laid · MachineCommutes: laid.
  DERIVED. THE GIVEN ROWS OF THIS SEAT. 7 by the template 'for every input the law returns true; each argument reads behind the call as it read before'; 0 by the template 'total and deterministic' (their statements: YtadbdchbdjkcdaaGreatDoorTotals.lean).
  GIVEN WITH THE SEED: the statements are not yours to turn. If you find one false, say at which input.
  Laid BY PROGRAM, IN A SANDBOX (cutbox-rows.mjs): the forced cells as the released guide's own fill.sh prints them over the translation c8dbc219f26a8b8e… (all of the seat's roots in one cut). By AI agents, Wed Nov 11 2026. No macro, syntax, notation, axiom, sorry.
-/
import Derived.Test.YtadbdchbdjkcdaaGreatDoorChecked
import GoSem.PinnedTables
import GoSem.Claim
import GoSem.ClaimJoined
import GoSem.ClaimMapViews
import Derived.JoinedTies
import Derived.KernelRfl
namespace Go.Proofs.YtadbdchbdjkcdaaGreatDoor
/- THE CELL 'sum', in the pinned program and in every row, IS THE sha256 OF THE DUMP (.gsa) THAT YtadbdchbdjkcdaaGreatDoorProg.lean LOADS. Nothing in Lean hashes anything: it is a label: what it is worth is what the hold of that sum in a sandbox is worth. -/
noncomputable def Tryz.pinned : Pinned := { name := "ytadbdchbdjkcdaagreatdoor", sum := "c8dbc219f26a8b8ee9657a260d6198e4767df92cdbae47e379f251b04b909545", checked := Tryz.checked }
namespace Rows
def none {H : Type} : Left H := { results := [], args := [] }

/- WHAT THE LISTED PACKAGE-LEVEL VARIABLES READ AS WHEN THE CALL BEGINS. Each datum BY PROGRAM (the guide's laid-datum.mjs) off the statement by which the dump's own 'gosem.cut.vars' lays the variable. In a bare row this is a premise. The card (YtadbdchbdjkcdaaGreatDoorCards.lean) ties it to the program's text. -/
def laid_unicode_utf8_acceptRanges {H : Type} : DataW H := .agg [.agg [.lit (.int .u8 128), .lit (.int .u8 191)], .agg [.lit (.int .u8 160), .lit (.int .u8 191)], .agg [.lit (.int .u8 128), .lit (.int .u8 159)], .agg [.lit (.int .u8 144), .lit (.int .u8 191)], .agg [.lit (.int .u8 128), .lit (.int .u8 143)], .agg [.lit (.int .u8 0), .lit (.int .u8 0)], .agg [.lit (.int .u8 0), .lit (.int .u8 0)], .agg [.lit (.int .u8 0), .lit (.int .u8 0)], .agg [.lit (.int .u8 0), .lit (.int .u8 0)], .agg [.lit (.int .u8 0), .lit (.int .u8 0)], .agg [.lit (.int .u8 0), .lit (.int .u8 0)], .agg [.lit (.int .u8 0), .lit (.int .u8 0)], .agg [.lit (.int .u8 0), .lit (.int .u8 0)], .agg [.lit (.int .u8 0), .lit (.int .u8 0)], .agg [.lit (.int .u8 0), .lit (.int .u8 0)], .agg [.lit (.int .u8 0), .lit (.int .u8 0)]]
/-- One of Go's own tables, pinned by name: the form's constant. -/
def laid_unicode_utf8_first : DataW Unit := Go.Pinned.utf8First

/-- 'colloquylaw18.MachineRuns': WHATEVER THE INPUT: true; the input reads as it did. -/
def machineRunsSpec : ChangeSpec := { name := "machineRuns", fn := fun _ => fun
  | [d] => { results := [.lit (.bool true)], args := [d] }
  | _ => none }
def machineRunsRow : OpenClaim := { program := "ytadbdchbdjkcdaagreatdoor", sum := "c8dbc219f26a8b8ee9657a260d6198e4767df92cdbae47e379f251b04b909545", func := "colloquy/colloquylaw18.MachineRuns", spec := "machineRuns", inPlace := ["slices.overlaps[int]", "slices.overlaps[colloquy/api.Room]", "slices.overlaps[colloquy/api.Told]", "slices.overlaps[colloquy/api.Person]"], unfollowed := true, recurses := true, named := ["unicode/utf8.first", "unicode/utf8.acceptRanges"], apart := false, laid := [("unicode/utf8.acceptRanges", laid_unicode_utf8_acceptRanges), ("unicode/utf8.first", laid_unicode_utf8_first)] }
def MachineRunsSaid : Prop := machineRunsRow.holds Tryz.pinned (OpenSpec.ofChange machineRunsSpec)

/-- ITS FALSE NEIGHBOUR: 'it returns false'. Refute it at one input. -/
def machineRunsWrong : ChangeSpec := { name := "machineRuns", fn := fun _ => fun
  | [d] => { results := [.lit (.bool false)], args := [d] }
  | _ => none }
def MachineRunsWrongFalsely : Prop := machineRunsRow.holds Tryz.pinned (OpenSpec.ofChange machineRunsWrong)

/-- 'colloquylaw18.MachineApplies': WHATEVER THE INPUT: true; the input reads as it did. -/
def machineAppliesSpec : ChangeSpec := { name := "machineApplies", fn := fun _ => fun
  | [d1, d2, d3] => { results := [.lit (.bool true)], args := [d1, d2, d3] }
  | _ => none }
def machineAppliesRow : OpenClaim := { program := "ytadbdchbdjkcdaagreatdoor", sum := "c8dbc219f26a8b8ee9657a260d6198e4767df92cdbae47e379f251b04b909545", func := "colloquy/colloquylaw18.MachineApplies", spec := "machineApplies", inPlace := ["slices.overlaps[int]", "slices.overlaps[colloquy/api.Room]", "slices.overlaps[colloquy/api.Told]", "slices.overlaps[colloquy/api.Person]"], unfollowed := true, recurses := true, named := ["unicode/utf8.first", "unicode/utf8.acceptRanges"], apart := false, laid := [("unicode/utf8.acceptRanges", laid_unicode_utf8_acceptRanges), ("unicode/utf8.first", laid_unicode_utf8_first)] }
def MachineAppliesSaid : Prop := machineAppliesRow.holds Tryz.pinned (OpenSpec.ofChange machineAppliesSpec)

/-- ITS FALSE NEIGHBOUR: 'it returns false'. Refute it at one input. -/
def machineAppliesWrong : ChangeSpec := { name := "machineApplies", fn := fun _ => fun
  | [d1, d2, d3] => { results := [.lit (.bool false)], args := [d1, d2, d3] }
  | _ => none }
def MachineAppliesWrongFalsely : Prop := machineAppliesRow.holds Tryz.pinned (OpenSpec.ofChange machineAppliesWrong)

/-- 'colloquylaw18.MachineOnce': WHATEVER THE INPUT: true; the input reads as it did. -/
def machineOnceSpec : ChangeSpec := { name := "machineOnce", fn := fun _ => fun
  | [d1, d2, d3] => { results := [.lit (.bool true)], args := [d1, d2, d3] }
  | _ => none }
def machineOnceRow : OpenClaim := { program := "ytadbdchbdjkcdaagreatdoor", sum := "c8dbc219f26a8b8ee9657a260d6198e4767df92cdbae47e379f251b04b909545", func := "colloquy/colloquylaw18.MachineOnce", spec := "machineOnce", inPlace := ["slices.overlaps[int]", "slices.overlaps[colloquy/api.Room]", "slices.overlaps[colloquy/api.Told]", "slices.overlaps[colloquy/api.Person]"], unfollowed := true, recurses := true, named := ["unicode/utf8.first", "unicode/utf8.acceptRanges"], apart := false, laid := [("unicode/utf8.acceptRanges", laid_unicode_utf8_acceptRanges), ("unicode/utf8.first", laid_unicode_utf8_first)] }
def MachineOnceSaid : Prop := machineOnceRow.holds Tryz.pinned (OpenSpec.ofChange machineOnceSpec)

/-- ITS FALSE NEIGHBOUR: 'it returns false'. Refute it at one input. -/
def machineOnceWrong : ChangeSpec := { name := "machineOnce", fn := fun _ => fun
  | [d1, d2, d3] => { results := [.lit (.bool false)], args := [d1, d2, d3] }
  | _ => none }
def MachineOnceWrongFalsely : Prop := machineOnceRow.holds Tryz.pinned (OpenSpec.ofChange machineOnceWrong)

/-- 'colloquylaw18.MachineParts': WHATEVER THE INPUT: true; the input reads as it did. -/
def machinePartsSpec : ChangeSpec := { name := "machineParts", fn := fun _ => fun
  | [d1, d2, d3] => { results := [.lit (.bool true)], args := [d1, d2, d3] }
  | _ => none }
def machinePartsRow : OpenClaim := { program := "ytadbdchbdjkcdaagreatdoor", sum := "c8dbc219f26a8b8ee9657a260d6198e4767df92cdbae47e379f251b04b909545", func := "colloquy/colloquylaw18.MachineParts", spec := "machineParts", inPlace := ["slices.overlaps[int]", "slices.overlaps[colloquy/api.Room]", "slices.overlaps[colloquy/api.Told]", "slices.overlaps[colloquy/api.Person]"], unfollowed := true, recurses := true, named := ["unicode/utf8.first", "unicode/utf8.acceptRanges"], apart := false, laid := [("unicode/utf8.acceptRanges", laid_unicode_utf8_acceptRanges), ("unicode/utf8.first", laid_unicode_utf8_first)] }
def MachinePartsSaid : Prop := machinePartsRow.holds Tryz.pinned (OpenSpec.ofChange machinePartsSpec)

/-- ITS FALSE NEIGHBOUR: 'it returns false'. Refute it at one input. -/
def machinePartsWrong : ChangeSpec := { name := "machineParts", fn := fun _ => fun
  | [d1, d2, d3] => { results := [.lit (.bool false)], args := [d1, d2, d3] }
  | _ => none }
def MachinePartsWrongFalsely : Prop := machinePartsRow.holds Tryz.pinned (OpenSpec.ofChange machinePartsWrong)

/-- 'colloquylaw18.MachineReads': WHATEVER THE INPUT: true; the input reads as it did. -/
def machineReadsSpec : ChangeSpec := { name := "machineReads", fn := fun _ => fun
  | [d1, d2, d3] => { results := [.lit (.bool true)], args := [d1, d2, d3] }
  | _ => none }
def machineReadsRow : OpenClaim := { program := "ytadbdchbdjkcdaagreatdoor", sum := "c8dbc219f26a8b8ee9657a260d6198e4767df92cdbae47e379f251b04b909545", func := "colloquy/colloquylaw18.MachineReads", spec := "machineReads", inPlace := ["slices.overlaps[int]", "slices.overlaps[colloquy/api.Room]", "slices.overlaps[colloquy/api.Told]", "slices.overlaps[colloquy/api.Person]"], unfollowed := true, recurses := true, named := ["unicode/utf8.first", "unicode/utf8.acceptRanges"], apart := false, laid := [("unicode/utf8.acceptRanges", laid_unicode_utf8_acceptRanges), ("unicode/utf8.first", laid_unicode_utf8_first)] }
def MachineReadsSaid : Prop := machineReadsRow.holds Tryz.pinned (OpenSpec.ofChange machineReadsSpec)

/-- ITS FALSE NEIGHBOUR: 'it returns false'. Refute it at one input. -/
def machineReadsWrong : ChangeSpec := { name := "machineReads", fn := fun _ => fun
  | [d1, d2, d3] => { results := [.lit (.bool false)], args := [d1, d2, d3] }
  | _ => none }
def MachineReadsWrongFalsely : Prop := machineReadsRow.holds Tryz.pinned (OpenSpec.ofChange machineReadsWrong)

/-- 'colloquylaw18.MachineOutside': WHATEVER THE INPUT: true; the input reads as it did. -/
def machineOutsideSpec : ChangeSpec := { name := "machineOutside", fn := fun _ => fun
  | [d1, d2] => { results := [.lit (.bool true)], args := [d1, d2] }
  | _ => none }
def machineOutsideRow : OpenClaim := { program := "ytadbdchbdjkcdaagreatdoor", sum := "c8dbc219f26a8b8ee9657a260d6198e4767df92cdbae47e379f251b04b909545", func := "colloquy/colloquylaw18.MachineOutside", spec := "machineOutside", inPlace := ["slices.overlaps[int]", "slices.overlaps[colloquy/api.Room]", "slices.overlaps[colloquy/api.Told]", "slices.overlaps[colloquy/api.Person]"], unfollowed := true, recurses := true, named := ["unicode/utf8.first", "unicode/utf8.acceptRanges"], apart := false, laid := [("unicode/utf8.acceptRanges", laid_unicode_utf8_acceptRanges), ("unicode/utf8.first", laid_unicode_utf8_first)] }
def MachineOutsideSaid : Prop := machineOutsideRow.holds Tryz.pinned (OpenSpec.ofChange machineOutsideSpec)

/-- ITS FALSE NEIGHBOUR: 'it returns false'. Refute it at one input. -/
def machineOutsideWrong : ChangeSpec := { name := "machineOutside", fn := fun _ => fun
  | [d1, d2] => { results := [.lit (.bool false)], args := [d1, d2] }
  | _ => none }
def MachineOutsideWrongFalsely : Prop := machineOutsideRow.holds Tryz.pinned (OpenSpec.ofChange machineOutsideWrong)

/-- 'colloquylaw18.MachineCommutes': WHATEVER THE INPUT: true; the input reads as it did. -/
def machineCommutesSpec : ChangeSpec := { name := "machineCommutes", fn := fun _ => fun
  | [d1, d2, d3] => { results := [.lit (.bool true)], args := [d1, d2, d3] }
  | _ => none }
def machineCommutesRow : OpenClaim := { program := "ytadbdchbdjkcdaagreatdoor", sum := "c8dbc219f26a8b8ee9657a260d6198e4767df92cdbae47e379f251b04b909545", func := "colloquy/colloquylaw18.MachineCommutes", spec := "machineCommutes", inPlace := ["slices.overlaps[int]", "slices.overlaps[colloquy/api.Room]", "slices.overlaps[colloquy/api.Told]", "slices.overlaps[colloquy/api.Person]"], unfollowed := true, recurses := true, named := ["unicode/utf8.first", "unicode/utf8.acceptRanges"], apart := false, laid := [("unicode/utf8.acceptRanges", laid_unicode_utf8_acceptRanges), ("unicode/utf8.first", laid_unicode_utf8_first)] }
def MachineCommutesSaid : Prop := machineCommutesRow.holds Tryz.pinned (OpenSpec.ofChange machineCommutesSpec)

/-- ITS FALSE NEIGHBOUR: 'it returns false'. Refute it at one input. -/
def machineCommutesWrong : ChangeSpec := { name := "machineCommutes", fn := fun _ => fun
  | [d1, d2, d3] => { results := [.lit (.bool false)], args := [d1, d2, d3] }
  | _ => none }
def MachineCommutesWrongFalsely : Prop := machineCommutesRow.holds Tryz.pinned (OpenSpec.ofChange machineCommutesWrong)

/- THE SECOND FORM. 'bulk': how many values and letters a reading holds, each counted each time it is reached (what is shared counts as often as it is met; a slice's spare places count too). A statement '..UptoSaid' is the law's where the arguments, and the package variables that the reading takes, are together of bulk at most 1048576: NARROWER than '..Said'. Prove '..Said' where nothing that the law and all that it calls make is longer than what came in: it says more and counts as full. Else prove '..UptoSaid'. A law counts once. -/
mutual
def uptoBulk {H : Type} : DataW H → Nat
  | .lit (.string bytes) => bytes.length + 1
  | .lit _ => 1
  | .nil => 1
  | .ptr d => uptoBulk d + 1
  | .slice elems spare => uptoBulkAll elems + uptoBulkAll spare + 1
  | .agg parts => uptoBulkAll parts + 1
  | .iface _ d => uptoBulk d + 1
  | .map entries => uptoBulkEntries entries + 1
  | .held _ => 1
def uptoBulkAll {H : Type} : List (DataW H) → Nat
  | [] => 0
  | d :: r => uptoBulk d + uptoBulkAll r
def uptoBulkEntries {H : Type} : List (Lit × DataW H) → Nat
  | [] => 0
  | x :: r => uptoBulkEntry x + uptoBulkEntries r
def uptoBulkEntry {H : Type} : Lit × DataW H → Nat
  | (.string bytes, d) => bytes.length + uptoBulk d + 1
  | (_, d) => uptoBulk d + 1
 end
def uptoSmall : (H : Type) → List (DataW H) → Bool := fun _ ds => decide (uptoBulkAll ds ≤ 1048576)
def OpenSpec.upto (s : _root_.Go.ChangeSpec) : _root_.Go.OpenSpec := { _root_.Go.OpenSpec.ofChange s with cond := some uptoSmall }

/-- 'colloquylaw18.MachineRuns', WHERE WHAT IT READS IS OF BULK AT MOST 1048576: true; the input reads as it did. -/
def machineRunsUptoRow : OpenClaim := { program := "ytadbdchbdjkcdaagreatdoor", sum := "c8dbc219f26a8b8ee9657a260d6198e4767df92cdbae47e379f251b04b909545", func := "colloquy/colloquylaw18.MachineRuns", spec := "machineRuns", inPlace := ["slices.overlaps[int]", "slices.overlaps[colloquy/api.Room]", "slices.overlaps[colloquy/api.Told]", "slices.overlaps[colloquy/api.Person]"], unfollowed := true, recurses := true, named := ["unicode/utf8.first", "unicode/utf8.acceptRanges"], apart := false, laid := [("unicode/utf8.acceptRanges", laid_unicode_utf8_acceptRanges), ("unicode/utf8.first", laid_unicode_utf8_first)], narrowed := true }
def MachineRunsUptoSaid : Prop := machineRunsUptoRow.holds Tryz.pinned (OpenSpec.upto machineRunsSpec)

/-- 'colloquylaw18.MachineApplies', WHERE WHAT IT READS IS OF BULK AT MOST 1048576: true; the input reads as it did. -/
def machineAppliesUptoRow : OpenClaim := { program := "ytadbdchbdjkcdaagreatdoor", sum := "c8dbc219f26a8b8ee9657a260d6198e4767df92cdbae47e379f251b04b909545", func := "colloquy/colloquylaw18.MachineApplies", spec := "machineApplies", inPlace := ["slices.overlaps[int]", "slices.overlaps[colloquy/api.Room]", "slices.overlaps[colloquy/api.Told]", "slices.overlaps[colloquy/api.Person]"], unfollowed := true, recurses := true, named := ["unicode/utf8.first", "unicode/utf8.acceptRanges"], apart := false, laid := [("unicode/utf8.acceptRanges", laid_unicode_utf8_acceptRanges), ("unicode/utf8.first", laid_unicode_utf8_first)], narrowed := true }
def MachineAppliesUptoSaid : Prop := machineAppliesUptoRow.holds Tryz.pinned (OpenSpec.upto machineAppliesSpec)

/-- 'colloquylaw18.MachineOnce', WHERE WHAT IT READS IS OF BULK AT MOST 1048576: true; the input reads as it did. -/
def machineOnceUptoRow : OpenClaim := { program := "ytadbdchbdjkcdaagreatdoor", sum := "c8dbc219f26a8b8ee9657a260d6198e4767df92cdbae47e379f251b04b909545", func := "colloquy/colloquylaw18.MachineOnce", spec := "machineOnce", inPlace := ["slices.overlaps[int]", "slices.overlaps[colloquy/api.Room]", "slices.overlaps[colloquy/api.Told]", "slices.overlaps[colloquy/api.Person]"], unfollowed := true, recurses := true, named := ["unicode/utf8.first", "unicode/utf8.acceptRanges"], apart := false, laid := [("unicode/utf8.acceptRanges", laid_unicode_utf8_acceptRanges), ("unicode/utf8.first", laid_unicode_utf8_first)], narrowed := true }
def MachineOnceUptoSaid : Prop := machineOnceUptoRow.holds Tryz.pinned (OpenSpec.upto machineOnceSpec)

/-- 'colloquylaw18.MachineParts', WHERE WHAT IT READS IS OF BULK AT MOST 1048576: true; the input reads as it did. -/
def machinePartsUptoRow : OpenClaim := { program := "ytadbdchbdjkcdaagreatdoor", sum := "c8dbc219f26a8b8ee9657a260d6198e4767df92cdbae47e379f251b04b909545", func := "colloquy/colloquylaw18.MachineParts", spec := "machineParts", inPlace := ["slices.overlaps[int]", "slices.overlaps[colloquy/api.Room]", "slices.overlaps[colloquy/api.Told]", "slices.overlaps[colloquy/api.Person]"], unfollowed := true, recurses := true, named := ["unicode/utf8.first", "unicode/utf8.acceptRanges"], apart := false, laid := [("unicode/utf8.acceptRanges", laid_unicode_utf8_acceptRanges), ("unicode/utf8.first", laid_unicode_utf8_first)], narrowed := true }
def MachinePartsUptoSaid : Prop := machinePartsUptoRow.holds Tryz.pinned (OpenSpec.upto machinePartsSpec)

/-- 'colloquylaw18.MachineReads', WHERE WHAT IT READS IS OF BULK AT MOST 1048576: true; the input reads as it did. -/
def machineReadsUptoRow : OpenClaim := { program := "ytadbdchbdjkcdaagreatdoor", sum := "c8dbc219f26a8b8ee9657a260d6198e4767df92cdbae47e379f251b04b909545", func := "colloquy/colloquylaw18.MachineReads", spec := "machineReads", inPlace := ["slices.overlaps[int]", "slices.overlaps[colloquy/api.Room]", "slices.overlaps[colloquy/api.Told]", "slices.overlaps[colloquy/api.Person]"], unfollowed := true, recurses := true, named := ["unicode/utf8.first", "unicode/utf8.acceptRanges"], apart := false, laid := [("unicode/utf8.acceptRanges", laid_unicode_utf8_acceptRanges), ("unicode/utf8.first", laid_unicode_utf8_first)], narrowed := true }
def MachineReadsUptoSaid : Prop := machineReadsUptoRow.holds Tryz.pinned (OpenSpec.upto machineReadsSpec)

/-- 'colloquylaw18.MachineOutside', WHERE WHAT IT READS IS OF BULK AT MOST 1048576: true; the input reads as it did. -/
def machineOutsideUptoRow : OpenClaim := { program := "ytadbdchbdjkcdaagreatdoor", sum := "c8dbc219f26a8b8ee9657a260d6198e4767df92cdbae47e379f251b04b909545", func := "colloquy/colloquylaw18.MachineOutside", spec := "machineOutside", inPlace := ["slices.overlaps[int]", "slices.overlaps[colloquy/api.Room]", "slices.overlaps[colloquy/api.Told]", "slices.overlaps[colloquy/api.Person]"], unfollowed := true, recurses := true, named := ["unicode/utf8.first", "unicode/utf8.acceptRanges"], apart := false, laid := [("unicode/utf8.acceptRanges", laid_unicode_utf8_acceptRanges), ("unicode/utf8.first", laid_unicode_utf8_first)], narrowed := true }
def MachineOutsideUptoSaid : Prop := machineOutsideUptoRow.holds Tryz.pinned (OpenSpec.upto machineOutsideSpec)

/-- 'colloquylaw18.MachineCommutes', WHERE WHAT IT READS IS OF BULK AT MOST 1048576: true; the input reads as it did. -/
def machineCommutesUptoRow : OpenClaim := { program := "ytadbdchbdjkcdaagreatdoor", sum := "c8dbc219f26a8b8ee9657a260d6198e4767df92cdbae47e379f251b04b909545", func := "colloquy/colloquylaw18.MachineCommutes", spec := "machineCommutes", inPlace := ["slices.overlaps[int]", "slices.overlaps[colloquy/api.Room]", "slices.overlaps[colloquy/api.Told]", "slices.overlaps[colloquy/api.Person]"], unfollowed := true, recurses := true, named := ["unicode/utf8.first", "unicode/utf8.acceptRanges"], apart := false, laid := [("unicode/utf8.acceptRanges", laid_unicode_utf8_acceptRanges), ("unicode/utf8.first", laid_unicode_utf8_first)], narrowed := true }
def MachineCommutesUptoSaid : Prop := machineCommutesUptoRow.holds Tryz.pinned (OpenSpec.upto machineCommutesSpec)

end Rows
end Go.Proofs.YtadbdchbdjkcdaaGreatDoor
