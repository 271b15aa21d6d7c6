/-
  No cell of these rows narrows 'for every input' (looked for: loops, veiled, ifaces, maps, wideKeys, modest, calm, conditions, laid).
  DERIVED. THE GIVEN ROWS OF THIS SEAT. 5 by the template 'for every input the law returns true; each argument reads behind the call as it read before'; 0 by the template 'total and deterministic' (their statements: YtffeomfcjmmgoaaTotals.lean).
  GIVEN WITH THE SEED: the statements are not yours to turn. If you find one false, say at which input.
  Laid BY PROGRAM, IN A SANDBOX (cutbox-rows.mjs): the forced cells as the released guide's own fill.sh prints them over the translation 0a2df163743bd3ff… (all of the seat's roots in one cut). By AI agents, Wed Nov 11 2026. No macro, syntax, notation, axiom, sorry.
-/
import Derived.Test.YtffeomfcjmmgoaaChecked
import GoSem.Claim
import GoSem.ClaimJoined
import GoSem.ClaimMapViews
import Derived.JoinedTies
import Derived.KernelRfl
namespace Go.Proofs.Ytffeomfcjmmgoaa
/- THE CELL 'sum', in the pinned program and in every row, IS THE sha256 OF THE DUMP (.gsa) THAT YtffeomfcjmmgoaaProg.lean LOADS. Nothing in Lean hashes anything: it is a label: what it is worth is what the hold of that sum in a sandbox is worth. -/
noncomputable def Try.pinned : Pinned := { name := "ytffeomfcjmmgoaa", sum := "0a2df163743bd3ff728523df77dcbb3361b32139f1e9615ff25bc49bd98cc7cf", checked := Try.checked }
namespace Rows
def none {H : Type} : Left H := { results := [], args := [] }

/-- 'colloquylaw15.PeopleChange': WHATEVER THE INPUT: true; the input reads as it did. -/
def peopleChangeSpec : ChangeSpec := { name := "peopleChange", fn := fun _ => fun
  | [d1, d2, d3] => { results := [.lit (.bool true)], args := [d1, d2, d3] }
  | _ => none }
def peopleChangeRow : OpenClaim := { program := "ytffeomfcjmmgoaa", sum := "0a2df163743bd3ff728523df77dcbb3361b32139f1e9615ff25bc49bd98cc7cf", func := "colloquy/colloquylaw15.PeopleChange", spec := "peopleChange", inPlace := ["slices.overlaps[int]"], apart := false }
def PeopleChangeSaid : Prop := peopleChangeRow.holds Try.pinned (OpenSpec.ofChange peopleChangeSpec)

/-- ITS FALSE NEIGHBOUR: 'it returns false'. Refute it at one input. -/
def peopleChangeWrong : ChangeSpec := { name := "peopleChange", fn := fun _ => fun
  | [d1, d2, d3] => { results := [.lit (.bool false)], args := [d1, d2, d3] }
  | _ => none }
def PeopleChangeWrongFalsely : Prop := peopleChangeRow.holds Try.pinned (OpenSpec.ofChange peopleChangeWrong)

/-- 'colloquylaw15.PeopleOwner': WHATEVER THE INPUT: true; the input reads as it did. -/
def peopleOwnerSpec : ChangeSpec := { name := "peopleOwner", fn := fun _ => fun
  | [d1, d2, d3] => { results := [.lit (.bool true)], args := [d1, d2, d3] }
  | _ => none }
def peopleOwnerRow : OpenClaim := { program := "ytffeomfcjmmgoaa", sum := "0a2df163743bd3ff728523df77dcbb3361b32139f1e9615ff25bc49bd98cc7cf", func := "colloquy/colloquylaw15.PeopleOwner", spec := "peopleOwner", inPlace := ["slices.overlaps[int]"], apart := false }
def PeopleOwnerSaid : Prop := peopleOwnerRow.holds Try.pinned (OpenSpec.ofChange peopleOwnerSpec)

/-- ITS FALSE NEIGHBOUR: 'it returns false'. Refute it at one input. -/
def peopleOwnerWrong : ChangeSpec := { name := "peopleOwner", fn := fun _ => fun
  | [d1, d2, d3] => { results := [.lit (.bool false)], args := [d1, d2, d3] }
  | _ => none }
def PeopleOwnerWrongFalsely : Prop := peopleOwnerRow.holds Try.pinned (OpenSpec.ofChange peopleOwnerWrong)

/-- 'colloquylaw15.PeopleBack': WHATEVER THE INPUT: true; the input reads as it did. -/
def peopleBackSpec : ChangeSpec := { name := "peopleBack", fn := fun _ => fun
  | [d1, d2, d3] => { results := [.lit (.bool true)], args := [d1, d2, d3] }
  | _ => none }
def peopleBackRow : OpenClaim := { program := "ytffeomfcjmmgoaa", sum := "0a2df163743bd3ff728523df77dcbb3361b32139f1e9615ff25bc49bd98cc7cf", func := "colloquy/colloquylaw15.PeopleBack", spec := "peopleBack", inPlace := ["slices.overlaps[int]"], apart := false }
def PeopleBackSaid : Prop := peopleBackRow.holds Try.pinned (OpenSpec.ofChange peopleBackSpec)

/-- ITS FALSE NEIGHBOUR: 'it returns false'. Refute it at one input. -/
def peopleBackWrong : ChangeSpec := { name := "peopleBack", fn := fun _ => fun
  | [d1, d2, d3] => { results := [.lit (.bool false)], args := [d1, d2, d3] }
  | _ => none }
def PeopleBackWrongFalsely : Prop := peopleBackRow.holds Try.pinned (OpenSpec.ofChange peopleBackWrong)

/-- 'colloquylaw15.PeopleFull': WHATEVER THE INPUT: true; the input reads as it did. -/
def peopleFullSpec : ChangeSpec := { name := "peopleFull", fn := fun _ => fun
  | [d1, d2] => { results := [.lit (.bool true)], args := [d1, d2] }
  | _ => none }
def peopleFullRow : OpenClaim := { program := "ytffeomfcjmmgoaa", sum := "0a2df163743bd3ff728523df77dcbb3361b32139f1e9615ff25bc49bd98cc7cf", func := "colloquy/colloquylaw15.PeopleFull", spec := "peopleFull", inPlace := ["slices.overlaps[int]"], apart := false }
def PeopleFullSaid : Prop := peopleFullRow.holds Try.pinned (OpenSpec.ofChange peopleFullSpec)

/-- ITS FALSE NEIGHBOUR: 'it returns false'. Refute it at one input. -/
def peopleFullWrong : ChangeSpec := { name := "peopleFull", fn := fun _ => fun
  | [d1, d2] => { results := [.lit (.bool false)], args := [d1, d2] }
  | _ => none }
def PeopleFullWrongFalsely : Prop := peopleFullRow.holds Try.pinned (OpenSpec.ofChange peopleFullWrong)

/-- 'colloquylaw15.PeopleLeave': WHATEVER THE INPUT: true; the input reads as it did. -/
def peopleLeaveSpec : ChangeSpec := { name := "peopleLeave", fn := fun _ => fun
  | [d1, d2] => { results := [.lit (.bool true)], args := [d1, d2] }
  | _ => none }
def peopleLeaveRow : OpenClaim := { program := "ytffeomfcjmmgoaa", sum := "0a2df163743bd3ff728523df77dcbb3361b32139f1e9615ff25bc49bd98cc7cf", func := "colloquy/colloquylaw15.PeopleLeave", spec := "peopleLeave", inPlace := ["slices.overlaps[int]"], apart := false }
def PeopleLeaveSaid : Prop := peopleLeaveRow.holds Try.pinned (OpenSpec.ofChange peopleLeaveSpec)

/-- ITS FALSE NEIGHBOUR: 'it returns false'. Refute it at one input. -/
def peopleLeaveWrong : ChangeSpec := { name := "peopleLeave", fn := fun _ => fun
  | [d1, d2] => { results := [.lit (.bool false)], args := [d1, d2] }
  | _ => none }
def PeopleLeaveWrongFalsely : Prop := peopleLeaveRow.holds Try.pinned (OpenSpec.ofChange peopleLeaveWrong)

/- THE SECOND FORM. 'bulk': how many values and letters a reading holds, each counted each time it is reached (what is shared counts as often as it is met; a slice's spare places count too). A statement '..UptoSaid' is the law's where the arguments, and the package variables that the reading takes, are together of bulk at most 1048576: NARROWER than '..Said'. Prove '..Said' where nothing that the law and all that it calls make is longer than what came in: it says more and counts as full. Else prove '..UptoSaid'. A law counts once. -/
mutual
def uptoBulk {H : Type} : DataW H → Nat
  | .lit (.string bytes) => bytes.length + 1
  | .lit _ => 1
  | .nil => 1
  | .ptr d => uptoBulk d + 1
  | .slice elems spare => uptoBulkAll elems + uptoBulkAll spare + 1
  | .agg parts => uptoBulkAll parts + 1
  | .iface _ d => uptoBulk d + 1
  | .map entries => uptoBulkEntries entries + 1
  | .held _ => 1
def uptoBulkAll {H : Type} : List (DataW H) → Nat
  | [] => 0
  | d :: r => uptoBulk d + uptoBulkAll r
def uptoBulkEntries {H : Type} : List (Lit × DataW H) → Nat
  | [] => 0
  | x :: r => uptoBulkEntry x + uptoBulkEntries r
def uptoBulkEntry {H : Type} : Lit × DataW H → Nat
  | (.string bytes, d) => bytes.length + uptoBulk d + 1
  | (_, d) => uptoBulk d + 1
 end
def uptoSmall : (H : Type) → List (DataW H) → Bool := fun _ ds => decide (uptoBulkAll ds ≤ 1048576)
def OpenSpec.upto (s : _root_.Go.ChangeSpec) : _root_.Go.OpenSpec := { _root_.Go.OpenSpec.ofChange s with cond := some uptoSmall }

/-- 'colloquylaw15.PeopleChange', WHERE WHAT IT READS IS OF BULK AT MOST 1048576: true; the input reads as it did. -/
def peopleChangeUptoRow : OpenClaim := { program := "ytffeomfcjmmgoaa", sum := "0a2df163743bd3ff728523df77dcbb3361b32139f1e9615ff25bc49bd98cc7cf", func := "colloquy/colloquylaw15.PeopleChange", spec := "peopleChange", inPlace := ["slices.overlaps[int]"], apart := false, narrowed := true }
def PeopleChangeUptoSaid : Prop := peopleChangeUptoRow.holds Try.pinned (OpenSpec.upto peopleChangeSpec)

/-- 'colloquylaw15.PeopleOwner', WHERE WHAT IT READS IS OF BULK AT MOST 1048576: true; the input reads as it did. -/
def peopleOwnerUptoRow : OpenClaim := { program := "ytffeomfcjmmgoaa", sum := "0a2df163743bd3ff728523df77dcbb3361b32139f1e9615ff25bc49bd98cc7cf", func := "colloquy/colloquylaw15.PeopleOwner", spec := "peopleOwner", inPlace := ["slices.overlaps[int]"], apart := false, narrowed := true }
def PeopleOwnerUptoSaid : Prop := peopleOwnerUptoRow.holds Try.pinned (OpenSpec.upto peopleOwnerSpec)

/-- 'colloquylaw15.PeopleBack', WHERE WHAT IT READS IS OF BULK AT MOST 1048576: true; the input reads as it did. -/
def peopleBackUptoRow : OpenClaim := { program := "ytffeomfcjmmgoaa", sum := "0a2df163743bd3ff728523df77dcbb3361b32139f1e9615ff25bc49bd98cc7cf", func := "colloquy/colloquylaw15.PeopleBack", spec := "peopleBack", inPlace := ["slices.overlaps[int]"], apart := false, narrowed := true }
def PeopleBackUptoSaid : Prop := peopleBackUptoRow.holds Try.pinned (OpenSpec.upto peopleBackSpec)

/-- 'colloquylaw15.PeopleFull', WHERE WHAT IT READS IS OF BULK AT MOST 1048576: true; the input reads as it did. -/
def peopleFullUptoRow : OpenClaim := { program := "ytffeomfcjmmgoaa", sum := "0a2df163743bd3ff728523df77dcbb3361b32139f1e9615ff25bc49bd98cc7cf", func := "colloquy/colloquylaw15.PeopleFull", spec := "peopleFull", inPlace := ["slices.overlaps[int]"], apart := false, narrowed := true }
def PeopleFullUptoSaid : Prop := peopleFullUptoRow.holds Try.pinned (OpenSpec.upto peopleFullSpec)

/-- 'colloquylaw15.PeopleLeave', WHERE WHAT IT READS IS OF BULK AT MOST 1048576: true; the input reads as it did. -/
def peopleLeaveUptoRow : OpenClaim := { program := "ytffeomfcjmmgoaa", sum := "0a2df163743bd3ff728523df77dcbb3361b32139f1e9615ff25bc49bd98cc7cf", func := "colloquy/colloquylaw15.PeopleLeave", spec := "peopleLeave", inPlace := ["slices.overlaps[int]"], apart := false, narrowed := true }
def PeopleLeaveUptoSaid : Prop := peopleLeaveUptoRow.holds Try.pinned (OpenSpec.upto peopleLeaveSpec)

end Rows
end Go.Proofs.Ytffeomfcjmmgoaa
