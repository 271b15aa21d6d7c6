/-
  No cell of these rows narrows 'for every input' (looked for: loops, veiled, ifaces, maps, wideKeys, modest, calm, conditions, laid).
  DERIVED. THE GIVEN ROWS OF THIS SEAT. 6 by the template 'for every input the law returns true; each argument reads behind the call as it read before'; 0 by the template 'total and deterministic' (their statements: YtdekelhmneeniaaTotals.lean).
  GIVEN WITH THE SEED: the statements are not yours to turn. If you find one false, say at which input.
  Laid BY PROGRAM, IN A SANDBOX (cutbox-rows.mjs): the forced cells as the released guide's own fill.sh prints them over the translation 385d1a706a72d23d… (all of the seat's roots in one cut). By AI agents, Wed Nov 11 2026. No macro, syntax, notation, axiom, sorry.
-/
import Derived.Test.YtdekelhmneeniaaChecked
import GoSem.Claim
import GoSem.ClaimJoined
import GoSem.ClaimMapViews
import Derived.JoinedTies
import Derived.KernelRfl
namespace Go.Proofs.Ytdekelhmneeniaa
/- THE CELL 'sum', in the pinned program and in every row, IS THE sha256 OF THE DUMP (.gsa) THAT YtdekelhmneeniaaProg.lean LOADS. Nothing in Lean hashes anything: it is a label: what it is worth is what the hold of that sum in a sandbox is worth. -/
noncomputable def Try.pinned : Pinned := { name := "ytdekelhmneeniaa", sum := "385d1a706a72d23dc751691eb199a175ec788e0cf267eae01768c947374b07e6", checked := Try.checked }
namespace Rows
def none {H : Type} : Left H := { results := [], args := [] }

/-- 'colloquylaw12.OrderRuns': WHATEVER THE INPUT: true; the input reads as it did. -/
def orderRunsSpec : ChangeSpec := { name := "orderRuns", fn := fun _ => fun
  | [d1, d2, d3, d4] => { results := [.lit (.bool true)], args := [d1, d2, d3, d4] }
  | _ => none }
def orderRunsRow : OpenClaim := { program := "ytdekelhmneeniaa", sum := "385d1a706a72d23dc751691eb199a175ec788e0cf267eae01768c947374b07e6", func := "colloquy/colloquylaw12.OrderRuns", spec := "orderRuns", unfollowed := true, recurses := true, plainKeys := false, apart := false }
def OrderRunsSaid : Prop := orderRunsRow.holds Try.pinned (OpenSpec.ofChange orderRunsSpec)

/-- ITS FALSE NEIGHBOUR: 'it returns false'. Refute it at one input. -/
def orderRunsWrong : ChangeSpec := { name := "orderRuns", fn := fun _ => fun
  | [d1, d2, d3, d4] => { results := [.lit (.bool false)], args := [d1, d2, d3, d4] }
  | _ => none }
def OrderRunsWrongFalsely : Prop := orderRunsRow.holds Try.pinned (OpenSpec.ofChange orderRunsWrong)

/-- 'colloquylaw12.OrderWaits': WHATEVER THE INPUT: true; the input reads as it did. -/
def orderWaitsSpec : ChangeSpec := { name := "orderWaits", fn := fun _ => fun
  | [d1, d2] => { results := [.lit (.bool true)], args := [d1, d2] }
  | _ => none }
def orderWaitsRow : OpenClaim := { program := "ytdekelhmneeniaa", sum := "385d1a706a72d23dc751691eb199a175ec788e0cf267eae01768c947374b07e6", func := "colloquy/colloquylaw12.OrderWaits", spec := "orderWaits", unfollowed := true, recurses := true, plainKeys := false, apart := false }
def OrderWaitsSaid : Prop := orderWaitsRow.holds Try.pinned (OpenSpec.ofChange orderWaitsSpec)

/-- ITS FALSE NEIGHBOUR: 'it returns false'. Refute it at one input. -/
def orderWaitsWrong : ChangeSpec := { name := "orderWaits", fn := fun _ => fun
  | [d1, d2] => { results := [.lit (.bool false)], args := [d1, d2] }
  | _ => none }
def OrderWaitsWrongFalsely : Prop := orderWaitsRow.holds Try.pinned (OpenSpec.ofChange orderWaitsWrong)

/-- 'colloquylaw12.OrderAgrees': WHATEVER THE INPUT: true; the input reads as it did. -/
def orderAgreesSpec : ChangeSpec := { name := "orderAgrees", fn := fun _ => fun
  | [d1, d2] => { results := [.lit (.bool true)], args := [d1, d2] }
  | _ => none }
def orderAgreesRow : OpenClaim := { program := "ytdekelhmneeniaa", sum := "385d1a706a72d23dc751691eb199a175ec788e0cf267eae01768c947374b07e6", func := "colloquy/colloquylaw12.OrderAgrees", spec := "orderAgrees", unfollowed := true, recurses := true, plainKeys := false, apart := false }
def OrderAgreesSaid : Prop := orderAgreesRow.holds Try.pinned (OpenSpec.ofChange orderAgreesSpec)

/-- ITS FALSE NEIGHBOUR: 'it returns false'. Refute it at one input. -/
def orderAgreesWrong : ChangeSpec := { name := "orderAgrees", fn := fun _ => fun
  | [d1, d2] => { results := [.lit (.bool false)], args := [d1, d2] }
  | _ => none }
def OrderAgreesWrongFalsely : Prop := orderAgreesRow.holds Try.pinned (OpenSpec.ofChange orderAgreesWrong)

/-- 'colloquylaw12.OrderMissing': WHATEVER THE INPUT: true; the input reads as it did. -/
def orderMissingSpec : ChangeSpec := { name := "orderMissing", fn := fun _ => fun
  | [d1, d2] => { results := [.lit (.bool true)], args := [d1, d2] }
  | _ => none }
def orderMissingRow : OpenClaim := { program := "ytdekelhmneeniaa", sum := "385d1a706a72d23dc751691eb199a175ec788e0cf267eae01768c947374b07e6", func := "colloquy/colloquylaw12.OrderMissing", spec := "orderMissing", unfollowed := true, recurses := true, plainKeys := false, apart := false }
def OrderMissingSaid : Prop := orderMissingRow.holds Try.pinned (OpenSpec.ofChange orderMissingSpec)

/-- ITS FALSE NEIGHBOUR: 'it returns false'. Refute it at one input. -/
def orderMissingWrong : ChangeSpec := { name := "orderMissing", fn := fun _ => fun
  | [d1, d2] => { results := [.lit (.bool false)], args := [d1, d2] }
  | _ => none }
def OrderMissingWrongFalsely : Prop := orderMissingRow.holds Try.pinned (OpenSpec.ofChange orderMissingWrong)

/-- 'colloquylaw12.OrderTold': WHATEVER THE INPUT: true; the input reads as it did. -/
def orderToldSpec : ChangeSpec := { name := "orderTold", fn := fun _ => fun
  | [d1, d2] => { results := [.lit (.bool true)], args := [d1, d2] }
  | _ => none }
def orderToldRow : OpenClaim := { program := "ytdekelhmneeniaa", sum := "385d1a706a72d23dc751691eb199a175ec788e0cf267eae01768c947374b07e6", func := "colloquy/colloquylaw12.OrderTold", spec := "orderTold", unfollowed := true, recurses := true, plainKeys := false, apart := false }
def OrderToldSaid : Prop := orderToldRow.holds Try.pinned (OpenSpec.ofChange orderToldSpec)

/-- ITS FALSE NEIGHBOUR: 'it returns false'. Refute it at one input. -/
def orderToldWrong : ChangeSpec := { name := "orderTold", fn := fun _ => fun
  | [d1, d2] => { results := [.lit (.bool false)], args := [d1, d2] }
  | _ => none }
def OrderToldWrongFalsely : Prop := orderToldRow.holds Try.pinned (OpenSpec.ofChange orderToldWrong)

/-- 'colloquylaw12.OrderBehind': WHATEVER THE INPUT: true; the input reads as it did. -/
def orderBehindSpec : ChangeSpec := { name := "orderBehind", fn := fun _ => fun
  | [d] => { results := [.lit (.bool true)], args := [d] }
  | _ => none }
def orderBehindRow : OpenClaim := { program := "ytdekelhmneeniaa", sum := "385d1a706a72d23dc751691eb199a175ec788e0cf267eae01768c947374b07e6", func := "colloquy/colloquylaw12.OrderBehind", spec := "orderBehind", unfollowed := true, recurses := true, plainKeys := false, apart := false }
def OrderBehindSaid : Prop := orderBehindRow.holds Try.pinned (OpenSpec.ofChange orderBehindSpec)

/-- ITS FALSE NEIGHBOUR: 'it returns false'. Refute it at one input. -/
def orderBehindWrong : ChangeSpec := { name := "orderBehind", fn := fun _ => fun
  | [d] => { results := [.lit (.bool false)], args := [d] }
  | _ => none }
def OrderBehindWrongFalsely : Prop := orderBehindRow.holds Try.pinned (OpenSpec.ofChange orderBehindWrong)

/- THE SECOND FORM. 'bulk': how many values and letters a reading holds, each counted each time it is reached (what is shared counts as often as it is met; a slice's spare places count too). A statement '..UptoSaid' is the law's where the arguments, and the package variables that the reading takes, are together of bulk at most 1048576: NARROWER than '..Said'. Prove '..Said' where nothing that the law and all that it calls make is longer than what came in: it says more and counts as full. Else prove '..UptoSaid'. A law counts once. -/
mutual
def uptoBulk {H : Type} : DataW H → Nat
  | .lit (.string bytes) => bytes.length + 1
  | .lit _ => 1
  | .nil => 1
  | .ptr d => uptoBulk d + 1
  | .slice elems spare => uptoBulkAll elems + uptoBulkAll spare + 1
  | .agg parts => uptoBulkAll parts + 1
  | .iface _ d => uptoBulk d + 1
  | .map entries => uptoBulkEntries entries + 1
  | .held _ => 1
def uptoBulkAll {H : Type} : List (DataW H) → Nat
  | [] => 0
  | d :: r => uptoBulk d + uptoBulkAll r
def uptoBulkEntries {H : Type} : List (Lit × DataW H) → Nat
  | [] => 0
  | x :: r => uptoBulkEntry x + uptoBulkEntries r
def uptoBulkEntry {H : Type} : Lit × DataW H → Nat
  | (.string bytes, d) => bytes.length + uptoBulk d + 1
  | (_, d) => uptoBulk d + 1
 end
def uptoSmall : (H : Type) → List (DataW H) → Bool := fun _ ds => decide (uptoBulkAll ds ≤ 1048576)
def OpenSpec.upto (s : _root_.Go.ChangeSpec) : _root_.Go.OpenSpec := { _root_.Go.OpenSpec.ofChange s with cond := some uptoSmall }

/-- 'colloquylaw12.OrderRuns', WHERE WHAT IT READS IS OF BULK AT MOST 1048576: true; the input reads as it did. -/
def orderRunsUptoRow : OpenClaim := { program := "ytdekelhmneeniaa", sum := "385d1a706a72d23dc751691eb199a175ec788e0cf267eae01768c947374b07e6", func := "colloquy/colloquylaw12.OrderRuns", spec := "orderRuns", unfollowed := true, recurses := true, plainKeys := false, apart := false, narrowed := true }
def OrderRunsUptoSaid : Prop := orderRunsUptoRow.holds Try.pinned (OpenSpec.upto orderRunsSpec)

/-- 'colloquylaw12.OrderWaits', WHERE WHAT IT READS IS OF BULK AT MOST 1048576: true; the input reads as it did. -/
def orderWaitsUptoRow : OpenClaim := { program := "ytdekelhmneeniaa", sum := "385d1a706a72d23dc751691eb199a175ec788e0cf267eae01768c947374b07e6", func := "colloquy/colloquylaw12.OrderWaits", spec := "orderWaits", unfollowed := true, recurses := true, plainKeys := false, apart := false, narrowed := true }
def OrderWaitsUptoSaid : Prop := orderWaitsUptoRow.holds Try.pinned (OpenSpec.upto orderWaitsSpec)

/-- 'colloquylaw12.OrderAgrees', WHERE WHAT IT READS IS OF BULK AT MOST 1048576: true; the input reads as it did. -/
def orderAgreesUptoRow : OpenClaim := { program := "ytdekelhmneeniaa", sum := "385d1a706a72d23dc751691eb199a175ec788e0cf267eae01768c947374b07e6", func := "colloquy/colloquylaw12.OrderAgrees", spec := "orderAgrees", unfollowed := true, recurses := true, plainKeys := false, apart := false, narrowed := true }
def OrderAgreesUptoSaid : Prop := orderAgreesUptoRow.holds Try.pinned (OpenSpec.upto orderAgreesSpec)

/-- 'colloquylaw12.OrderMissing', WHERE WHAT IT READS IS OF BULK AT MOST 1048576: true; the input reads as it did. -/
def orderMissingUptoRow : OpenClaim := { program := "ytdekelhmneeniaa", sum := "385d1a706a72d23dc751691eb199a175ec788e0cf267eae01768c947374b07e6", func := "colloquy/colloquylaw12.OrderMissing", spec := "orderMissing", unfollowed := true, recurses := true, plainKeys := false, apart := false, narrowed := true }
def OrderMissingUptoSaid : Prop := orderMissingUptoRow.holds Try.pinned (OpenSpec.upto orderMissingSpec)

/-- 'colloquylaw12.OrderTold', WHERE WHAT IT READS IS OF BULK AT MOST 1048576: true; the input reads as it did. -/
def orderToldUptoRow : OpenClaim := { program := "ytdekelhmneeniaa", sum := "385d1a706a72d23dc751691eb199a175ec788e0cf267eae01768c947374b07e6", func := "colloquy/colloquylaw12.OrderTold", spec := "orderTold", unfollowed := true, recurses := true, plainKeys := false, apart := false, narrowed := true }
def OrderToldUptoSaid : Prop := orderToldUptoRow.holds Try.pinned (OpenSpec.upto orderToldSpec)

/-- 'colloquylaw12.OrderBehind', WHERE WHAT IT READS IS OF BULK AT MOST 1048576: true; the input reads as it did. -/
def orderBehindUptoRow : OpenClaim := { program := "ytdekelhmneeniaa", sum := "385d1a706a72d23dc751691eb199a175ec788e0cf267eae01768c947374b07e6", func := "colloquy/colloquylaw12.OrderBehind", spec := "orderBehind", unfollowed := true, recurses := true, plainKeys := false, apart := false, narrowed := true }
def OrderBehindUptoSaid : Prop := orderBehindUptoRow.holds Try.pinned (OpenSpec.upto orderBehindSpec)

end Rows
end Go.Proofs.Ytdekelhmneeniaa
