/-
  No cell of these rows narrows 'for every input' (looked for: loops, veiled, ifaces, maps, wideKeys, modest, calm, conditions, laid).
  DERIVED. THE GIVEN ROWS OF THIS SEAT. 5 by the template 'for every input the law returns true; each argument reads behind the call as it read before'; 0 by the template 'total and deterministic' (their statements: YtipmodlmmadfbaaTotals.lean).
  GIVEN WITH THE SEED: the statements are not yours to turn. If you find one false, say at which input.
  Laid BY PROGRAM, IN A SANDBOX (cutbox-rows.mjs): the forced cells as the released guide's own fill.sh prints them over the translation 9b892c348436b34d… (all of the seat's roots in one cut). By AI agents, Wed Nov 11 2026. No macro, syntax, notation, axiom, sorry.
-/
import Derived.Test.YtipmodlmmadfbaaChecked
import GoSem.Claim
import GoSem.ClaimJoined
import GoSem.ClaimMapViews
import Derived.JoinedTies
import Derived.KernelRfl
namespace Go.Proofs.Ytipmodlmmadfbaa
/- THE CELL 'sum', in the pinned program and in every row, IS THE sha256 OF THE DUMP (.gsa) THAT YtipmodlmmadfbaaProg.lean LOADS. Nothing in Lean hashes anything: it is a label: what it is worth is what the hold of that sum in a sandbox is worth. -/
noncomputable def Try.pinned : Pinned := { name := "ytipmodlmmadfbaa", sum := "9b892c348436b34d71399275835ff9f27b30229b1ccf24ef75e2a38fbd832e20", checked := Try.checked }
namespace Rows
def none {H : Type} : Left H := { results := [], args := [] }

/-- 'colloquylaw17.WindowDoes': WHATEVER THE INPUT: true; the input reads as it did. -/
def windowDoesSpec : ChangeSpec := { name := "windowDoes", fn := fun _ => fun
  | [d1, d2, d3] => { results := [.lit (.bool true)], args := [d1, d2, d3] }
  | _ => none }
def windowDoesRow : OpenClaim := { program := "ytipmodlmmadfbaa", sum := "9b892c348436b34d71399275835ff9f27b30229b1ccf24ef75e2a38fbd832e20", func := "colloquy/colloquylaw17.WindowDoes", spec := "windowDoes", inPlace := ["slices.overlaps[colloquy/api.Told]"], unfollowed := true, recurses := true, apart := false }
def WindowDoesSaid : Prop := windowDoesRow.holds Try.pinned (OpenSpec.ofChange windowDoesSpec)

/-- ITS FALSE NEIGHBOUR: 'it returns false'. Refute it at one input. -/
def windowDoesWrong : ChangeSpec := { name := "windowDoes", fn := fun _ => fun
  | [d1, d2, d3] => { results := [.lit (.bool false)], args := [d1, d2, d3] }
  | _ => none }
def WindowDoesWrongFalsely : Prop := windowDoesRow.holds Try.pinned (OpenSpec.ofChange windowDoesWrong)

/-- 'colloquylaw17.WindowOnce': WHATEVER THE INPUT: true; the input reads as it did. -/
def windowOnceSpec : ChangeSpec := { name := "windowOnce", fn := fun _ => fun
  | [d1, d2, d3, d4] => { results := [.lit (.bool true)], args := [d1, d2, d3, d4] }
  | _ => none }
def windowOnceRow : OpenClaim := { program := "ytipmodlmmadfbaa", sum := "9b892c348436b34d71399275835ff9f27b30229b1ccf24ef75e2a38fbd832e20", func := "colloquy/colloquylaw17.WindowOnce", spec := "windowOnce", inPlace := ["slices.overlaps[colloquy/api.Told]"], unfollowed := true, recurses := true, apart := false }
def WindowOnceSaid : Prop := windowOnceRow.holds Try.pinned (OpenSpec.ofChange windowOnceSpec)

/-- ITS FALSE NEIGHBOUR: 'it returns false'. Refute it at one input. -/
def windowOnceWrong : ChangeSpec := { name := "windowOnce", fn := fun _ => fun
  | [d1, d2, d3, d4] => { results := [.lit (.bool false)], args := [d1, d2, d3, d4] }
  | _ => none }
def WindowOnceWrongFalsely : Prop := windowOnceRow.holds Try.pinned (OpenSpec.ofChange windowOnceWrong)

/-- 'colloquylaw17.WindowRuns': WHATEVER THE INPUT: true; the input reads as it did. -/
def windowRunsSpec : ChangeSpec := { name := "windowRuns", fn := fun _ => fun
  | [d] => { results := [.lit (.bool true)], args := [d] }
  | _ => none }
def windowRunsRow : OpenClaim := { program := "ytipmodlmmadfbaa", sum := "9b892c348436b34d71399275835ff9f27b30229b1ccf24ef75e2a38fbd832e20", func := "colloquy/colloquylaw17.WindowRuns", spec := "windowRuns", inPlace := ["slices.overlaps[colloquy/api.Told]"], unfollowed := true, recurses := true, apart := false }
def WindowRunsSaid : Prop := windowRunsRow.holds Try.pinned (OpenSpec.ofChange windowRunsSpec)

/-- ITS FALSE NEIGHBOUR: 'it returns false'. Refute it at one input. -/
def windowRunsWrong : ChangeSpec := { name := "windowRuns", fn := fun _ => fun
  | [d] => { results := [.lit (.bool false)], args := [d] }
  | _ => none }
def WindowRunsWrongFalsely : Prop := windowRunsRow.holds Try.pinned (OpenSpec.ofChange windowRunsWrong)

/-- 'colloquylaw17.WindowLow': WHATEVER THE INPUT: true; the input reads as it did. -/
def windowLowSpec : ChangeSpec := { name := "windowLow", fn := fun _ => fun
  | [d] => { results := [.lit (.bool true)], args := [d] }
  | _ => none }
def windowLowRow : OpenClaim := { program := "ytipmodlmmadfbaa", sum := "9b892c348436b34d71399275835ff9f27b30229b1ccf24ef75e2a38fbd832e20", func := "colloquy/colloquylaw17.WindowLow", spec := "windowLow", inPlace := ["slices.overlaps[colloquy/api.Told]"], unfollowed := true, recurses := true, apart := false }
def WindowLowSaid : Prop := windowLowRow.holds Try.pinned (OpenSpec.ofChange windowLowSpec)

/-- ITS FALSE NEIGHBOUR: 'it returns false'. Refute it at one input. -/
def windowLowWrong : ChangeSpec := { name := "windowLow", fn := fun _ => fun
  | [d] => { results := [.lit (.bool false)], args := [d] }
  | _ => none }
def WindowLowWrongFalsely : Prop := windowLowRow.holds Try.pinned (OpenSpec.ofChange windowLowWrong)

/-- 'colloquylaw17.WindowOrder': WHATEVER THE INPUT: true; the input reads as it did. -/
def windowOrderSpec : ChangeSpec := { name := "windowOrder", fn := fun _ => fun
  | [d] => { results := [.lit (.bool true)], args := [d] }
  | _ => none }
def windowOrderRow : OpenClaim := { program := "ytipmodlmmadfbaa", sum := "9b892c348436b34d71399275835ff9f27b30229b1ccf24ef75e2a38fbd832e20", func := "colloquy/colloquylaw17.WindowOrder", spec := "windowOrder", inPlace := ["slices.overlaps[colloquy/api.Told]"], unfollowed := true, recurses := true, apart := false }
def WindowOrderSaid : Prop := windowOrderRow.holds Try.pinned (OpenSpec.ofChange windowOrderSpec)

/-- ITS FALSE NEIGHBOUR: 'it returns false'. Refute it at one input. -/
def windowOrderWrong : ChangeSpec := { name := "windowOrder", fn := fun _ => fun
  | [d] => { results := [.lit (.bool false)], args := [d] }
  | _ => none }
def WindowOrderWrongFalsely : Prop := windowOrderRow.holds Try.pinned (OpenSpec.ofChange windowOrderWrong)

/- THE SECOND FORM. 'bulk': how many values and letters a reading holds, each counted each time it is reached (what is shared counts as often as it is met; a slice's spare places count too). A statement '..UptoSaid' is the law's where the arguments, and the package variables that the reading takes, are together of bulk at most 1048576: NARROWER than '..Said'. Prove '..Said' where nothing that the law and all that it calls make is longer than what came in: it says more and counts as full. Else prove '..UptoSaid'. A law counts once. -/
mutual
def uptoBulk {H : Type} : DataW H → Nat
  | .lit (.string bytes) => bytes.length + 1
  | .lit _ => 1
  | .nil => 1
  | .ptr d => uptoBulk d + 1
  | .slice elems spare => uptoBulkAll elems + uptoBulkAll spare + 1
  | .agg parts => uptoBulkAll parts + 1
  | .iface _ d => uptoBulk d + 1
  | .map entries => uptoBulkEntries entries + 1
  | .held _ => 1
def uptoBulkAll {H : Type} : List (DataW H) → Nat
  | [] => 0
  | d :: r => uptoBulk d + uptoBulkAll r
def uptoBulkEntries {H : Type} : List (Lit × DataW H) → Nat
  | [] => 0
  | x :: r => uptoBulkEntry x + uptoBulkEntries r
def uptoBulkEntry {H : Type} : Lit × DataW H → Nat
  | (.string bytes, d) => bytes.length + uptoBulk d + 1
  | (_, d) => uptoBulk d + 1
 end
def uptoSmall : (H : Type) → List (DataW H) → Bool := fun _ ds => decide (uptoBulkAll ds ≤ 1048576)
def OpenSpec.upto (s : _root_.Go.ChangeSpec) : _root_.Go.OpenSpec := { _root_.Go.OpenSpec.ofChange s with cond := some uptoSmall }

/-- 'colloquylaw17.WindowDoes', WHERE WHAT IT READS IS OF BULK AT MOST 1048576: true; the input reads as it did. -/
def windowDoesUptoRow : OpenClaim := { program := "ytipmodlmmadfbaa", sum := "9b892c348436b34d71399275835ff9f27b30229b1ccf24ef75e2a38fbd832e20", func := "colloquy/colloquylaw17.WindowDoes", spec := "windowDoes", inPlace := ["slices.overlaps[colloquy/api.Told]"], unfollowed := true, recurses := true, apart := false, narrowed := true }
def WindowDoesUptoSaid : Prop := windowDoesUptoRow.holds Try.pinned (OpenSpec.upto windowDoesSpec)

/-- 'colloquylaw17.WindowOnce', WHERE WHAT IT READS IS OF BULK AT MOST 1048576: true; the input reads as it did. -/
def windowOnceUptoRow : OpenClaim := { program := "ytipmodlmmadfbaa", sum := "9b892c348436b34d71399275835ff9f27b30229b1ccf24ef75e2a38fbd832e20", func := "colloquy/colloquylaw17.WindowOnce", spec := "windowOnce", inPlace := ["slices.overlaps[colloquy/api.Told]"], unfollowed := true, recurses := true, apart := false, narrowed := true }
def WindowOnceUptoSaid : Prop := windowOnceUptoRow.holds Try.pinned (OpenSpec.upto windowOnceSpec)

/-- 'colloquylaw17.WindowRuns', WHERE WHAT IT READS IS OF BULK AT MOST 1048576: true; the input reads as it did. -/
def windowRunsUptoRow : OpenClaim := { program := "ytipmodlmmadfbaa", sum := "9b892c348436b34d71399275835ff9f27b30229b1ccf24ef75e2a38fbd832e20", func := "colloquy/colloquylaw17.WindowRuns", spec := "windowRuns", inPlace := ["slices.overlaps[colloquy/api.Told]"], unfollowed := true, recurses := true, apart := false, narrowed := true }
def WindowRunsUptoSaid : Prop := windowRunsUptoRow.holds Try.pinned (OpenSpec.upto windowRunsSpec)

/-- 'colloquylaw17.WindowLow', WHERE WHAT IT READS IS OF BULK AT MOST 1048576: true; the input reads as it did. -/
def windowLowUptoRow : OpenClaim := { program := "ytipmodlmmadfbaa", sum := "9b892c348436b34d71399275835ff9f27b30229b1ccf24ef75e2a38fbd832e20", func := "colloquy/colloquylaw17.WindowLow", spec := "windowLow", inPlace := ["slices.overlaps[colloquy/api.Told]"], unfollowed := true, recurses := true, apart := false, narrowed := true }
def WindowLowUptoSaid : Prop := windowLowUptoRow.holds Try.pinned (OpenSpec.upto windowLowSpec)

/-- 'colloquylaw17.WindowOrder', WHERE WHAT IT READS IS OF BULK AT MOST 1048576: true; the input reads as it did. -/
def windowOrderUptoRow : OpenClaim := { program := "ytipmodlmmadfbaa", sum := "9b892c348436b34d71399275835ff9f27b30229b1ccf24ef75e2a38fbd832e20", func := "colloquy/colloquylaw17.WindowOrder", spec := "windowOrder", inPlace := ["slices.overlaps[colloquy/api.Told]"], unfollowed := true, recurses := true, apart := false, narrowed := true }
def WindowOrderUptoSaid : Prop := windowOrderUptoRow.holds Try.pinned (OpenSpec.upto windowOrderSpec)

end Rows
end Go.Proofs.Ytipmodlmmadfbaa
