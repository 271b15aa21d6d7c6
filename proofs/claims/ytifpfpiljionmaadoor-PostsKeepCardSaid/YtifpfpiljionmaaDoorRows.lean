/-
  NARROWER THAN 'FOR EVERY INPUT', by the rows' own cells (each row's printed sentence says how): PostsDo: laid · PostsPage: laid · PostsNumbers: laid · PostsTell: laid · PostsOwn: laid · PostsKeep: laid.
  DERIVED. THE GIVEN ROWS OF THIS SEAT. 6 by the template 'for every input the law returns true; each argument reads behind the call as it read before'; 0 by the template 'total and deterministic' (their statements: YtifpfpiljionmaaDoorTotals.lean).
  GIVEN WITH THE SEED: the statements are not yours to turn. If you find one false, say at which input.
  Laid BY PROGRAM, IN A SANDBOX (cutbox-rows.mjs): the forced cells as the released guide's own fill.sh prints them over the translation 830e4bb987f0144e… (all of the seat's roots in one cut). By AI agents, Wed Nov 11 2026. No macro, syntax, notation, axiom, sorry.
-/
import Derived.Test.YtifpfpiljionmaaDoorChecked
import GoSem.PinnedTables
import GoSem.Claim
import GoSem.ClaimJoined
import GoSem.ClaimMapViews
import Derived.JoinedTies
import Derived.KernelRfl
namespace Go.Proofs.YtifpfpiljionmaaDoor
/- THE CELL 'sum', in the pinned program and in every row, IS THE sha256 OF THE DUMP (.gsa) THAT YtifpfpiljionmaaDoorProg.lean LOADS. Nothing in Lean hashes anything: it is a label: what it is worth is what the hold of that sum in a sandbox is worth. -/
noncomputable def Tryd.pinned : Pinned := { name := "ytifpfpiljionmaadoor", sum := "830e4bb987f0144ed56a76146eac34500b69a80d3207868b715af1fc0f7dbac0", checked := Tryd.checked }
namespace Rows
def none {H : Type} : Left H := { results := [], args := [] }

/- WHAT THE LISTED PACKAGE-LEVEL VARIABLES READ AS WHEN THE CALL BEGINS. Each datum BY PROGRAM (the guide's laid-datum.mjs) off the statement by which the dump's own 'gosem.cut.vars' lays the variable. In a bare row this is a premise. The card (YtifpfpiljionmaaDoorCards.lean) ties it to the program's text. -/
def laid_unicode_utf8_acceptRanges {H : Type} : DataW H := .agg [.agg [.lit (.int .u8 128), .lit (.int .u8 191)], .agg [.lit (.int .u8 160), .lit (.int .u8 191)], .agg [.lit (.int .u8 128), .lit (.int .u8 159)], .agg [.lit (.int .u8 144), .lit (.int .u8 191)], .agg [.lit (.int .u8 128), .lit (.int .u8 143)], .agg [.lit (.int .u8 0), .lit (.int .u8 0)], .agg [.lit (.int .u8 0), .lit (.int .u8 0)], .agg [.lit (.int .u8 0), .lit (.int .u8 0)], .agg [.lit (.int .u8 0), .lit (.int .u8 0)], .agg [.lit (.int .u8 0), .lit (.int .u8 0)], .agg [.lit (.int .u8 0), .lit (.int .u8 0)], .agg [.lit (.int .u8 0), .lit (.int .u8 0)], .agg [.lit (.int .u8 0), .lit (.int .u8 0)], .agg [.lit (.int .u8 0), .lit (.int .u8 0)], .agg [.lit (.int .u8 0), .lit (.int .u8 0)], .agg [.lit (.int .u8 0), .lit (.int .u8 0)]]
/-- One of Go's own tables, pinned by name: the form's constant. -/
def laid_unicode_utf8_first : DataW Unit := Go.Pinned.utf8First

/-- 'colloquylaw16.PostsDo': WHATEVER THE INPUT: true; the input reads as it did. -/
def postsDoSpec : ChangeSpec := { name := "postsDo", fn := fun _ => fun
  | [d1, d2] => { results := [.lit (.bool true)], args := [d1, d2] }
  | _ => none }
def postsDoRow : OpenClaim := { program := "ytifpfpiljionmaadoor", sum := "830e4bb987f0144ed56a76146eac34500b69a80d3207868b715af1fc0f7dbac0", func := "colloquy/colloquylaw16.PostsDo", spec := "postsDo", unfollowed := true, recurses := true, named := ["unicode/utf8.first", "unicode/utf8.acceptRanges"], apart := false, laid := [("unicode/utf8.acceptRanges", laid_unicode_utf8_acceptRanges), ("unicode/utf8.first", laid_unicode_utf8_first)] }
def PostsDoSaid : Prop := postsDoRow.holds Tryd.pinned (OpenSpec.ofChange postsDoSpec)

/-- ITS FALSE NEIGHBOUR: 'it returns false'. Refute it at one input. -/
def postsDoWrong : ChangeSpec := { name := "postsDo", fn := fun _ => fun
  | [d1, d2] => { results := [.lit (.bool false)], args := [d1, d2] }
  | _ => none }
def PostsDoWrongFalsely : Prop := postsDoRow.holds Tryd.pinned (OpenSpec.ofChange postsDoWrong)

/-- 'colloquylaw16.PostsPage': WHATEVER THE INPUT: true; the input reads as it did. -/
def postsPageSpec : ChangeSpec := { name := "postsPage", fn := fun _ => fun
  | [d1, d2] => { results := [.lit (.bool true)], args := [d1, d2] }
  | _ => none }
def postsPageRow : OpenClaim := { program := "ytifpfpiljionmaadoor", sum := "830e4bb987f0144ed56a76146eac34500b69a80d3207868b715af1fc0f7dbac0", func := "colloquy/colloquylaw16.PostsPage", spec := "postsPage", unfollowed := true, recurses := true, named := ["unicode/utf8.first", "unicode/utf8.acceptRanges"], apart := false, laid := [("unicode/utf8.acceptRanges", laid_unicode_utf8_acceptRanges), ("unicode/utf8.first", laid_unicode_utf8_first)] }
def PostsPageSaid : Prop := postsPageRow.holds Tryd.pinned (OpenSpec.ofChange postsPageSpec)

/-- ITS FALSE NEIGHBOUR: 'it returns false'. Refute it at one input. -/
def postsPageWrong : ChangeSpec := { name := "postsPage", fn := fun _ => fun
  | [d1, d2] => { results := [.lit (.bool false)], args := [d1, d2] }
  | _ => none }
def PostsPageWrongFalsely : Prop := postsPageRow.holds Tryd.pinned (OpenSpec.ofChange postsPageWrong)

/-- 'colloquylaw16.PostsNumbers': WHATEVER THE INPUT: true; the input reads as it did. -/
def postsNumbersSpec : ChangeSpec := { name := "postsNumbers", fn := fun _ => fun
  | [d] => { results := [.lit (.bool true)], args := [d] }
  | _ => none }
def postsNumbersRow : OpenClaim := { program := "ytifpfpiljionmaadoor", sum := "830e4bb987f0144ed56a76146eac34500b69a80d3207868b715af1fc0f7dbac0", func := "colloquy/colloquylaw16.PostsNumbers", spec := "postsNumbers", unfollowed := true, recurses := true, named := ["unicode/utf8.first", "unicode/utf8.acceptRanges"], apart := false, laid := [("unicode/utf8.acceptRanges", laid_unicode_utf8_acceptRanges), ("unicode/utf8.first", laid_unicode_utf8_first)] }
def PostsNumbersSaid : Prop := postsNumbersRow.holds Tryd.pinned (OpenSpec.ofChange postsNumbersSpec)

/-- ITS FALSE NEIGHBOUR: 'it returns false'. Refute it at one input. -/
def postsNumbersWrong : ChangeSpec := { name := "postsNumbers", fn := fun _ => fun
  | [d] => { results := [.lit (.bool false)], args := [d] }
  | _ => none }
def PostsNumbersWrongFalsely : Prop := postsNumbersRow.holds Tryd.pinned (OpenSpec.ofChange postsNumbersWrong)

/-- 'colloquylaw16.PostsTell': WHATEVER THE INPUT: true; the input reads as it did. -/
def postsTellSpec : ChangeSpec := { name := "postsTell", fn := fun _ => fun
  | [d1, d2, d3, d4] => { results := [.lit (.bool true)], args := [d1, d2, d3, d4] }
  | _ => none }
def postsTellRow : OpenClaim := { program := "ytifpfpiljionmaadoor", sum := "830e4bb987f0144ed56a76146eac34500b69a80d3207868b715af1fc0f7dbac0", func := "colloquy/colloquylaw16.PostsTell", spec := "postsTell", unfollowed := true, recurses := true, named := ["unicode/utf8.first", "unicode/utf8.acceptRanges"], apart := false, laid := [("unicode/utf8.acceptRanges", laid_unicode_utf8_acceptRanges), ("unicode/utf8.first", laid_unicode_utf8_first)] }
def PostsTellSaid : Prop := postsTellRow.holds Tryd.pinned (OpenSpec.ofChange postsTellSpec)

/-- ITS FALSE NEIGHBOUR: 'it returns false'. Refute it at one input. -/
def postsTellWrong : ChangeSpec := { name := "postsTell", fn := fun _ => fun
  | [d1, d2, d3, d4] => { results := [.lit (.bool false)], args := [d1, d2, d3, d4] }
  | _ => none }
def PostsTellWrongFalsely : Prop := postsTellRow.holds Tryd.pinned (OpenSpec.ofChange postsTellWrong)

/-- 'colloquylaw16.PostsOwn': WHATEVER THE INPUT: true; the input reads as it did. -/
def postsOwnSpec : ChangeSpec := { name := "postsOwn", fn := fun _ => fun
  | [d1, d2, d3, d4, d5] => { results := [.lit (.bool true)], args := [d1, d2, d3, d4, d5] }
  | _ => none }
def postsOwnRow : OpenClaim := { program := "ytifpfpiljionmaadoor", sum := "830e4bb987f0144ed56a76146eac34500b69a80d3207868b715af1fc0f7dbac0", func := "colloquy/colloquylaw16.PostsOwn", spec := "postsOwn", unfollowed := true, recurses := true, named := ["unicode/utf8.first", "unicode/utf8.acceptRanges"], apart := false, laid := [("unicode/utf8.acceptRanges", laid_unicode_utf8_acceptRanges), ("unicode/utf8.first", laid_unicode_utf8_first)] }
def PostsOwnSaid : Prop := postsOwnRow.holds Tryd.pinned (OpenSpec.ofChange postsOwnSpec)

/-- ITS FALSE NEIGHBOUR: 'it returns false'. Refute it at one input. -/
def postsOwnWrong : ChangeSpec := { name := "postsOwn", fn := fun _ => fun
  | [d1, d2, d3, d4, d5] => { results := [.lit (.bool false)], args := [d1, d2, d3, d4, d5] }
  | _ => none }
def PostsOwnWrongFalsely : Prop := postsOwnRow.holds Tryd.pinned (OpenSpec.ofChange postsOwnWrong)

/-- 'colloquylaw16.PostsKeep': WHATEVER THE INPUT: true; the input reads as it did. -/
def postsKeepSpec : ChangeSpec := { name := "postsKeep", fn := fun _ => fun
  | [d1, d2, d3] => { results := [.lit (.bool true)], args := [d1, d2, d3] }
  | _ => none }
def postsKeepRow : OpenClaim := { program := "ytifpfpiljionmaadoor", sum := "830e4bb987f0144ed56a76146eac34500b69a80d3207868b715af1fc0f7dbac0", func := "colloquy/colloquylaw16.PostsKeep", spec := "postsKeep", unfollowed := true, recurses := true, named := ["unicode/utf8.first", "unicode/utf8.acceptRanges"], apart := false, laid := [("unicode/utf8.acceptRanges", laid_unicode_utf8_acceptRanges), ("unicode/utf8.first", laid_unicode_utf8_first)] }
def PostsKeepSaid : Prop := postsKeepRow.holds Tryd.pinned (OpenSpec.ofChange postsKeepSpec)

/-- ITS FALSE NEIGHBOUR: 'it returns false'. Refute it at one input. -/
def postsKeepWrong : ChangeSpec := { name := "postsKeep", fn := fun _ => fun
  | [d1, d2, d3] => { results := [.lit (.bool false)], args := [d1, d2, d3] }
  | _ => none }
def PostsKeepWrongFalsely : Prop := postsKeepRow.holds Tryd.pinned (OpenSpec.ofChange postsKeepWrong)

/- THE SECOND FORM. 'bulk': how many values and letters a reading holds, each counted each time it is reached (what is shared counts as often as it is met; a slice's spare places count too). A statement '..UptoSaid' is the law's where the arguments, and the package variables that the reading takes, are together of bulk at most 1048576: NARROWER than '..Said'. Prove '..Said' where nothing that the law and all that it calls make is longer than what came in: it says more and counts as full. Else prove '..UptoSaid'. A law counts once. -/
mutual
def uptoBulk {H : Type} : DataW H → Nat
  | .lit (.string bytes) => bytes.length + 1
  | .lit _ => 1
  | .nil => 1
  | .ptr d => uptoBulk d + 1
  | .slice elems spare => uptoBulkAll elems + uptoBulkAll spare + 1
  | .agg parts => uptoBulkAll parts + 1
  | .iface _ d => uptoBulk d + 1
  | .map entries => uptoBulkEntries entries + 1
  | .held _ => 1
def uptoBulkAll {H : Type} : List (DataW H) → Nat
  | [] => 0
  | d :: r => uptoBulk d + uptoBulkAll r
def uptoBulkEntries {H : Type} : List (Lit × DataW H) → Nat
  | [] => 0
  | x :: r => uptoBulkEntry x + uptoBulkEntries r
def uptoBulkEntry {H : Type} : Lit × DataW H → Nat
  | (.string bytes, d) => bytes.length + uptoBulk d + 1
  | (_, d) => uptoBulk d + 1
 end
def uptoSmall : (H : Type) → List (DataW H) → Bool := fun _ ds => decide (uptoBulkAll ds ≤ 1048576)
def OpenSpec.upto (s : _root_.Go.ChangeSpec) : _root_.Go.OpenSpec := { _root_.Go.OpenSpec.ofChange s with cond := some uptoSmall }

/-- 'colloquylaw16.PostsDo', WHERE WHAT IT READS IS OF BULK AT MOST 1048576: true; the input reads as it did. -/
def postsDoUptoRow : OpenClaim := { program := "ytifpfpiljionmaadoor", sum := "830e4bb987f0144ed56a76146eac34500b69a80d3207868b715af1fc0f7dbac0", func := "colloquy/colloquylaw16.PostsDo", spec := "postsDo", unfollowed := true, recurses := true, named := ["unicode/utf8.first", "unicode/utf8.acceptRanges"], apart := false, laid := [("unicode/utf8.acceptRanges", laid_unicode_utf8_acceptRanges), ("unicode/utf8.first", laid_unicode_utf8_first)], narrowed := true }
def PostsDoUptoSaid : Prop := postsDoUptoRow.holds Tryd.pinned (OpenSpec.upto postsDoSpec)

/-- 'colloquylaw16.PostsPage', WHERE WHAT IT READS IS OF BULK AT MOST 1048576: true; the input reads as it did. -/
def postsPageUptoRow : OpenClaim := { program := "ytifpfpiljionmaadoor", sum := "830e4bb987f0144ed56a76146eac34500b69a80d3207868b715af1fc0f7dbac0", func := "colloquy/colloquylaw16.PostsPage", spec := "postsPage", unfollowed := true, recurses := true, named := ["unicode/utf8.first", "unicode/utf8.acceptRanges"], apart := false, laid := [("unicode/utf8.acceptRanges", laid_unicode_utf8_acceptRanges), ("unicode/utf8.first", laid_unicode_utf8_first)], narrowed := true }
def PostsPageUptoSaid : Prop := postsPageUptoRow.holds Tryd.pinned (OpenSpec.upto postsPageSpec)

/-- 'colloquylaw16.PostsNumbers', WHERE WHAT IT READS IS OF BULK AT MOST 1048576: true; the input reads as it did. -/
def postsNumbersUptoRow : OpenClaim := { program := "ytifpfpiljionmaadoor", sum := "830e4bb987f0144ed56a76146eac34500b69a80d3207868b715af1fc0f7dbac0", func := "colloquy/colloquylaw16.PostsNumbers", spec := "postsNumbers", unfollowed := true, recurses := true, named := ["unicode/utf8.first", "unicode/utf8.acceptRanges"], apart := false, laid := [("unicode/utf8.acceptRanges", laid_unicode_utf8_acceptRanges), ("unicode/utf8.first", laid_unicode_utf8_first)], narrowed := true }
def PostsNumbersUptoSaid : Prop := postsNumbersUptoRow.holds Tryd.pinned (OpenSpec.upto postsNumbersSpec)

/-- 'colloquylaw16.PostsTell', WHERE WHAT IT READS IS OF BULK AT MOST 1048576: true; the input reads as it did. -/
def postsTellUptoRow : OpenClaim := { program := "ytifpfpiljionmaadoor", sum := "830e4bb987f0144ed56a76146eac34500b69a80d3207868b715af1fc0f7dbac0", func := "colloquy/colloquylaw16.PostsTell", spec := "postsTell", unfollowed := true, recurses := true, named := ["unicode/utf8.first", "unicode/utf8.acceptRanges"], apart := false, laid := [("unicode/utf8.acceptRanges", laid_unicode_utf8_acceptRanges), ("unicode/utf8.first", laid_unicode_utf8_first)], narrowed := true }
def PostsTellUptoSaid : Prop := postsTellUptoRow.holds Tryd.pinned (OpenSpec.upto postsTellSpec)

/-- 'colloquylaw16.PostsOwn', WHERE WHAT IT READS IS OF BULK AT MOST 1048576: true; the input reads as it did. -/
def postsOwnUptoRow : OpenClaim := { program := "ytifpfpiljionmaadoor", sum := "830e4bb987f0144ed56a76146eac34500b69a80d3207868b715af1fc0f7dbac0", func := "colloquy/colloquylaw16.PostsOwn", spec := "postsOwn", unfollowed := true, recurses := true, named := ["unicode/utf8.first", "unicode/utf8.acceptRanges"], apart := false, laid := [("unicode/utf8.acceptRanges", laid_unicode_utf8_acceptRanges), ("unicode/utf8.first", laid_unicode_utf8_first)], narrowed := true }
def PostsOwnUptoSaid : Prop := postsOwnUptoRow.holds Tryd.pinned (OpenSpec.upto postsOwnSpec)

/-- 'colloquylaw16.PostsKeep', WHERE WHAT IT READS IS OF BULK AT MOST 1048576: true; the input reads as it did. -/
def postsKeepUptoRow : OpenClaim := { program := "ytifpfpiljionmaadoor", sum := "830e4bb987f0144ed56a76146eac34500b69a80d3207868b715af1fc0f7dbac0", func := "colloquy/colloquylaw16.PostsKeep", spec := "postsKeep", unfollowed := true, recurses := true, named := ["unicode/utf8.first", "unicode/utf8.acceptRanges"], apart := false, laid := [("unicode/utf8.acceptRanges", laid_unicode_utf8_acceptRanges), ("unicode/utf8.first", laid_unicode_utf8_first)], narrowed := true }
def PostsKeepUptoSaid : Prop := postsKeepUptoRow.holds Tryd.pinned (OpenSpec.upto postsKeepSpec)

end Rows
end Go.Proofs.YtifpfpiljionmaaDoor
