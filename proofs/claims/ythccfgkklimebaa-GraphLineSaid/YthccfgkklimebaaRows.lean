/-
  No cell of these rows narrows 'for every input' (looked for: loops, veiled, ifaces, maps, wideKeys, modest, calm, conditions, laid).
  DERIVED. THE GIVEN ROWS OF THIS SEAT. 7 by the template 'for every input the law returns true; each argument reads behind the call as it read before'; 0 by the template 'total and deterministic' (their statements: YthccfgkklimebaaTotals.lean).
  GIVEN WITH THE SEED: the statements are not yours to turn. If you find one false, say at which input.
  Laid BY PROGRAM, IN A SANDBOX (cutbox-rows.mjs): the forced cells as the released guide's own fill.sh prints them over the translation c69c09ab26e54d77… (all of the seat's roots in one cut). By AI agents, Wed Nov 11 2026. No macro, syntax, notation, axiom, sorry.
-/
import Derived.Test.YthccfgkklimebaaChecked
import GoSem.Claim
import GoSem.ClaimJoined
import GoSem.ClaimMapViews
import Derived.JoinedTies
import Derived.KernelRfl
namespace Go.Proofs.Ythccfgkklimebaa
/- THE CELL 'sum', in the pinned program and in every row, IS THE sha256 OF THE DUMP (.gsa) THAT YthccfgkklimebaaProg.lean LOADS. Nothing in Lean hashes anything: it is a label: what it is worth is what the hold of that sum in a sandbox is worth. -/
noncomputable def Try.pinned : Pinned := { name := "ythccfgkklimebaa", sum := "c69c09ab26e54d77f1f9a575fc7dceaeb875e568c0fc746141ba8d71e5f09d74", checked := Try.checked }
namespace Rows
def none {H : Type} : Left H := { results := [], args := [] }

/-- 'colloquylaw11.GraphParts': WHATEVER THE INPUT: true; the input reads as it did. -/
def graphPartsSpec : ChangeSpec := { name := "graphParts", fn := fun _ => fun
  | [d1, d2] => { results := [.lit (.bool true)], args := [d1, d2] }
  | _ => none }
def graphPartsRow : OpenClaim := { program := "ythccfgkklimebaa", sum := "c69c09ab26e54d77f1f9a575fc7dceaeb875e568c0fc746141ba8d71e5f09d74", func := "colloquy/colloquylaw11.GraphParts", spec := "graphParts", unfollowed := true, recurses := true, apart := false }
def GraphPartsSaid : Prop := graphPartsRow.holds Try.pinned (OpenSpec.ofChange graphPartsSpec)

/-- ITS FALSE NEIGHBOUR: 'it returns false'. Refute it at one input. -/
def graphPartsWrong : ChangeSpec := { name := "graphParts", fn := fun _ => fun
  | [d1, d2] => { results := [.lit (.bool false)], args := [d1, d2] }
  | _ => none }
def GraphPartsWrongFalsely : Prop := graphPartsRow.holds Try.pinned (OpenSpec.ofChange graphPartsWrong)

/-- 'colloquylaw11.GraphReaches': WHATEVER THE INPUT: true; the input reads as it did. -/
def graphReachesSpec : ChangeSpec := { name := "graphReaches", fn := fun _ => fun
  | [d1, d2, d3, d4] => { results := [.lit (.bool true)], args := [d1, d2, d3, d4] }
  | _ => none }
def graphReachesRow : OpenClaim := { program := "ythccfgkklimebaa", sum := "c69c09ab26e54d77f1f9a575fc7dceaeb875e568c0fc746141ba8d71e5f09d74", func := "colloquy/colloquylaw11.GraphReaches", spec := "graphReaches", unfollowed := true, recurses := true, apart := false }
def GraphReachesSaid : Prop := graphReachesRow.holds Try.pinned (OpenSpec.ofChange graphReachesSpec)

/-- ITS FALSE NEIGHBOUR: 'it returns false'. Refute it at one input. -/
def graphReachesWrong : ChangeSpec := { name := "graphReaches", fn := fun _ => fun
  | [d1, d2, d3, d4] => { results := [.lit (.bool false)], args := [d1, d2, d3, d4] }
  | _ => none }
def GraphReachesWrongFalsely : Prop := graphReachesRow.holds Try.pinned (OpenSpec.ofChange graphReachesWrong)

/-- 'colloquylaw11.GraphOrder': WHATEVER THE INPUT: true; the input reads as it did. -/
def graphOrderSpec : ChangeSpec := { name := "graphOrder", fn := fun _ => fun
  | [d1, d2] => { results := [.lit (.bool true)], args := [d1, d2] }
  | _ => none }
def graphOrderRow : OpenClaim := { program := "ythccfgkklimebaa", sum := "c69c09ab26e54d77f1f9a575fc7dceaeb875e568c0fc746141ba8d71e5f09d74", func := "colloquy/colloquylaw11.GraphOrder", spec := "graphOrder", unfollowed := true, recurses := true, apart := false }
def GraphOrderSaid : Prop := graphOrderRow.holds Try.pinned (OpenSpec.ofChange graphOrderSpec)

/-- ITS FALSE NEIGHBOUR: 'it returns false'. Refute it at one input. -/
def graphOrderWrong : ChangeSpec := { name := "graphOrder", fn := fun _ => fun
  | [d1, d2] => { results := [.lit (.bool false)], args := [d1, d2] }
  | _ => none }
def GraphOrderWrongFalsely : Prop := graphOrderRow.holds Try.pinned (OpenSpec.ofChange graphOrderWrong)

/-- 'colloquylaw11.GraphReach': WHATEVER THE INPUT: true; the input reads as it did. -/
def graphReachSpec : ChangeSpec := { name := "graphReach", fn := fun _ => fun
  | [d1, d2, d3, d4, d5, d6] => { results := [.lit (.bool true)], args := [d1, d2, d3, d4, d5, d6] }
  | _ => none }
def graphReachRow : OpenClaim := { program := "ythccfgkklimebaa", sum := "c69c09ab26e54d77f1f9a575fc7dceaeb875e568c0fc746141ba8d71e5f09d74", func := "colloquy/colloquylaw11.GraphReach", spec := "graphReach", unfollowed := true, recurses := true, apart := false }
def GraphReachSaid : Prop := graphReachRow.holds Try.pinned (OpenSpec.ofChange graphReachSpec)

/-- ITS FALSE NEIGHBOUR: 'it returns false'. Refute it at one input. -/
def graphReachWrong : ChangeSpec := { name := "graphReach", fn := fun _ => fun
  | [d1, d2, d3, d4, d5, d6] => { results := [.lit (.bool false)], args := [d1, d2, d3, d4, d5, d6] }
  | _ => none }
def GraphReachWrongFalsely : Prop := graphReachRow.holds Try.pinned (OpenSpec.ofChange graphReachWrong)

/-- 'colloquylaw11.GraphTwice': WHATEVER THE INPUT: true; the input reads as it did. -/
def graphTwiceSpec : ChangeSpec := { name := "graphTwice", fn := fun _ => fun
  | [d1, d2, d3] => { results := [.lit (.bool true)], args := [d1, d2, d3] }
  | _ => none }
def graphTwiceRow : OpenClaim := { program := "ythccfgkklimebaa", sum := "c69c09ab26e54d77f1f9a575fc7dceaeb875e568c0fc746141ba8d71e5f09d74", func := "colloquy/colloquylaw11.GraphTwice", spec := "graphTwice", unfollowed := true, recurses := true, apart := false }
def GraphTwiceSaid : Prop := graphTwiceRow.holds Try.pinned (OpenSpec.ofChange graphTwiceSpec)

/-- ITS FALSE NEIGHBOUR: 'it returns false'. Refute it at one input. -/
def graphTwiceWrong : ChangeSpec := { name := "graphTwice", fn := fun _ => fun
  | [d1, d2, d3] => { results := [.lit (.bool false)], args := [d1, d2, d3] }
  | _ => none }
def GraphTwiceWrongFalsely : Prop := graphTwiceRow.holds Try.pinned (OpenSpec.ofChange graphTwiceWrong)

/-- 'colloquylaw11.GraphLine': WHATEVER THE INPUT: true; the input reads as it did. -/
def graphLineSpec : ChangeSpec := { name := "graphLine", fn := fun _ => fun
  | [d] => { results := [.lit (.bool true)], args := [d] }
  | _ => none }
def graphLineRow : OpenClaim := { program := "ythccfgkklimebaa", sum := "c69c09ab26e54d77f1f9a575fc7dceaeb875e568c0fc746141ba8d71e5f09d74", func := "colloquy/colloquylaw11.GraphLine", spec := "graphLine", unfollowed := true, recurses := true, apart := false }
def GraphLineSaid : Prop := graphLineRow.holds Try.pinned (OpenSpec.ofChange graphLineSpec)

/-- ITS FALSE NEIGHBOUR: 'it returns false'. Refute it at one input. -/
def graphLineWrong : ChangeSpec := { name := "graphLine", fn := fun _ => fun
  | [d] => { results := [.lit (.bool false)], args := [d] }
  | _ => none }
def GraphLineWrongFalsely : Prop := graphLineRow.holds Try.pinned (OpenSpec.ofChange graphLineWrong)

/-- 'colloquylaw11.GraphClosure': WHATEVER THE INPUT: true; the input reads as it did. -/
def graphClosureSpec : ChangeSpec := { name := "graphClosure", fn := fun _ => fun
  | [d1, d2, d3] => { results := [.lit (.bool true)], args := [d1, d2, d3] }
  | _ => none }
def graphClosureRow : OpenClaim := { program := "ythccfgkklimebaa", sum := "c69c09ab26e54d77f1f9a575fc7dceaeb875e568c0fc746141ba8d71e5f09d74", func := "colloquy/colloquylaw11.GraphClosure", spec := "graphClosure", unfollowed := true, recurses := true, apart := false }
def GraphClosureSaid : Prop := graphClosureRow.holds Try.pinned (OpenSpec.ofChange graphClosureSpec)

/-- ITS FALSE NEIGHBOUR: 'it returns false'. Refute it at one input. -/
def graphClosureWrong : ChangeSpec := { name := "graphClosure", fn := fun _ => fun
  | [d1, d2, d3] => { results := [.lit (.bool false)], args := [d1, d2, d3] }
  | _ => none }
def GraphClosureWrongFalsely : Prop := graphClosureRow.holds Try.pinned (OpenSpec.ofChange graphClosureWrong)

/- THE SECOND FORM. 'bulk': how many values and letters a reading holds, each counted each time it is reached (what is shared counts as often as it is met; a slice's spare places count too). A statement '..UptoSaid' is the law's where the arguments, and the package variables that the reading takes, are together of bulk at most 1048576: NARROWER than '..Said'. Prove '..Said' where nothing that the law and all that it calls make is longer than what came in: it says more and counts as full. Else prove '..UptoSaid'. A law counts once. -/
mutual
def uptoBulk {H : Type} : DataW H → Nat
  | .lit (.string bytes) => bytes.length + 1
  | .lit _ => 1
  | .nil => 1
  | .ptr d => uptoBulk d + 1
  | .slice elems spare => uptoBulkAll elems + uptoBulkAll spare + 1
  | .agg parts => uptoBulkAll parts + 1
  | .iface _ d => uptoBulk d + 1
  | .map entries => uptoBulkEntries entries + 1
  | .held _ => 1
def uptoBulkAll {H : Type} : List (DataW H) → Nat
  | [] => 0
  | d :: r => uptoBulk d + uptoBulkAll r
def uptoBulkEntries {H : Type} : List (Lit × DataW H) → Nat
  | [] => 0
  | x :: r => uptoBulkEntry x + uptoBulkEntries r
def uptoBulkEntry {H : Type} : Lit × DataW H → Nat
  | (.string bytes, d) => bytes.length + uptoBulk d + 1
  | (_, d) => uptoBulk d + 1
 end
def uptoSmall : (H : Type) → List (DataW H) → Bool := fun _ ds => decide (uptoBulkAll ds ≤ 1048576)
def OpenSpec.upto (s : _root_.Go.ChangeSpec) : _root_.Go.OpenSpec := { _root_.Go.OpenSpec.ofChange s with cond := some uptoSmall }

/-- 'colloquylaw11.GraphParts', WHERE WHAT IT READS IS OF BULK AT MOST 1048576: true; the input reads as it did. -/
def graphPartsUptoRow : OpenClaim := { program := "ythccfgkklimebaa", sum := "c69c09ab26e54d77f1f9a575fc7dceaeb875e568c0fc746141ba8d71e5f09d74", func := "colloquy/colloquylaw11.GraphParts", spec := "graphParts", unfollowed := true, recurses := true, apart := false, narrowed := true }
def GraphPartsUptoSaid : Prop := graphPartsUptoRow.holds Try.pinned (OpenSpec.upto graphPartsSpec)

/-- 'colloquylaw11.GraphReaches', WHERE WHAT IT READS IS OF BULK AT MOST 1048576: true; the input reads as it did. -/
def graphReachesUptoRow : OpenClaim := { program := "ythccfgkklimebaa", sum := "c69c09ab26e54d77f1f9a575fc7dceaeb875e568c0fc746141ba8d71e5f09d74", func := "colloquy/colloquylaw11.GraphReaches", spec := "graphReaches", unfollowed := true, recurses := true, apart := false, narrowed := true }
def GraphReachesUptoSaid : Prop := graphReachesUptoRow.holds Try.pinned (OpenSpec.upto graphReachesSpec)

/-- 'colloquylaw11.GraphOrder', WHERE WHAT IT READS IS OF BULK AT MOST 1048576: true; the input reads as it did. -/
def graphOrderUptoRow : OpenClaim := { program := "ythccfgkklimebaa", sum := "c69c09ab26e54d77f1f9a575fc7dceaeb875e568c0fc746141ba8d71e5f09d74", func := "colloquy/colloquylaw11.GraphOrder", spec := "graphOrder", unfollowed := true, recurses := true, apart := false, narrowed := true }
def GraphOrderUptoSaid : Prop := graphOrderUptoRow.holds Try.pinned (OpenSpec.upto graphOrderSpec)

/-- 'colloquylaw11.GraphReach', WHERE WHAT IT READS IS OF BULK AT MOST 1048576: true; the input reads as it did. -/
def graphReachUptoRow : OpenClaim := { program := "ythccfgkklimebaa", sum := "c69c09ab26e54d77f1f9a575fc7dceaeb875e568c0fc746141ba8d71e5f09d74", func := "colloquy/colloquylaw11.GraphReach", spec := "graphReach", unfollowed := true, recurses := true, apart := false, narrowed := true }
def GraphReachUptoSaid : Prop := graphReachUptoRow.holds Try.pinned (OpenSpec.upto graphReachSpec)

/-- 'colloquylaw11.GraphTwice', WHERE WHAT IT READS IS OF BULK AT MOST 1048576: true; the input reads as it did. -/
def graphTwiceUptoRow : OpenClaim := { program := "ythccfgkklimebaa", sum := "c69c09ab26e54d77f1f9a575fc7dceaeb875e568c0fc746141ba8d71e5f09d74", func := "colloquy/colloquylaw11.GraphTwice", spec := "graphTwice", unfollowed := true, recurses := true, apart := false, narrowed := true }
def GraphTwiceUptoSaid : Prop := graphTwiceUptoRow.holds Try.pinned (OpenSpec.upto graphTwiceSpec)

/-- 'colloquylaw11.GraphLine', WHERE WHAT IT READS IS OF BULK AT MOST 1048576: true; the input reads as it did. -/
def graphLineUptoRow : OpenClaim := { program := "ythccfgkklimebaa", sum := "c69c09ab26e54d77f1f9a575fc7dceaeb875e568c0fc746141ba8d71e5f09d74", func := "colloquy/colloquylaw11.GraphLine", spec := "graphLine", unfollowed := true, recurses := true, apart := false, narrowed := true }
def GraphLineUptoSaid : Prop := graphLineUptoRow.holds Try.pinned (OpenSpec.upto graphLineSpec)

/-- 'colloquylaw11.GraphClosure', WHERE WHAT IT READS IS OF BULK AT MOST 1048576: true; the input reads as it did. -/
def graphClosureUptoRow : OpenClaim := { program := "ythccfgkklimebaa", sum := "c69c09ab26e54d77f1f9a575fc7dceaeb875e568c0fc746141ba8d71e5f09d74", func := "colloquy/colloquylaw11.GraphClosure", spec := "graphClosure", unfollowed := true, recurses := true, apart := false, narrowed := true }
def GraphClosureUptoSaid : Prop := graphClosureUptoRow.holds Try.pinned (OpenSpec.upto graphClosureSpec)

end Rows
end Go.Proofs.Ythccfgkklimebaa
