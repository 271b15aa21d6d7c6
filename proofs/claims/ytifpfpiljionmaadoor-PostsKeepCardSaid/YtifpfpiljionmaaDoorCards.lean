/-
  DERIVED. GIVEN WITH THE SEED: THE CARDS: each row of YtifpfpiljionmaaDoorRows.lean that lists a variable, with what it lists TIED to the program's text (the seventh form; the later family's looks); each row that meets fmt, with fmt's text TOLD by the authors' own Lean function (tested against real Go, not proved from fmt's source: count such statements apart). THE CARD IS WHAT COUNTS. Prove the row's statement (the work); the ties are given (YtifpfpiljionmaaDoorTie.lean); close each card by the builder's one call (the guide's Derived/Test/ToyasCard.lean, 'card_holds'). Laid BY PROGRAM, IN A SANDBOX (cutbox-door.mjs). By AI agents, Wed Nov 11 2026. No macro, syntax, notation, axiom, sorry.
-/
import Derived.Test.YtifpfpiljionmaaDoorRows
import GoSem.ClaimSeven
namespace Go.Proofs.YtifpfpiljionmaaDoor
namespace Rows

/-- THE TIED CARD OF 'colloquylaw16.PostsDo'. -/
def postsDoCard : Claim7 := { stood := { row := postsDoRow, standIns := [], harness := (true, "4f416098252fb73f44aa8a868eae5a22ab2e71e1f4b782698986b3e6cdb938a9"), looks := false }, kinds := [], alts := [], laidByText := true, laidKinds := [.data, .pinned], laidTests := true, laidLooks := .later }
def PostsDoCardSaid : Prop := Claim7.holds Tryd.pinned (.plain (OpenSpec.ofChange postsDoSpec)) postsDoCard

/-- THE TIED CARD OF 'colloquylaw16.PostsPage'. -/
def postsPageCard : Claim7 := { stood := { row := postsPageRow, standIns := [], harness := (true, "4f416098252fb73f44aa8a868eae5a22ab2e71e1f4b782698986b3e6cdb938a9"), looks := false }, kinds := [], alts := [], laidByText := true, laidKinds := [.data, .pinned], laidTests := true, laidLooks := .later }
def PostsPageCardSaid : Prop := Claim7.holds Tryd.pinned (.plain (OpenSpec.ofChange postsPageSpec)) postsPageCard

/-- THE TIED CARD OF 'colloquylaw16.PostsNumbers'. -/
def postsNumbersCard : Claim7 := { stood := { row := postsNumbersRow, standIns := [], harness := (true, "4f416098252fb73f44aa8a868eae5a22ab2e71e1f4b782698986b3e6cdb938a9"), looks := false }, kinds := [], alts := [], laidByText := true, laidKinds := [.data, .pinned], laidTests := true, laidLooks := .later }
def PostsNumbersCardSaid : Prop := Claim7.holds Tryd.pinned (.plain (OpenSpec.ofChange postsNumbersSpec)) postsNumbersCard

/-- THE TIED CARD OF 'colloquylaw16.PostsTell'. -/
def postsTellCard : Claim7 := { stood := { row := postsTellRow, standIns := [], harness := (true, "4f416098252fb73f44aa8a868eae5a22ab2e71e1f4b782698986b3e6cdb938a9"), looks := false }, kinds := [], alts := [], laidByText := true, laidKinds := [.data, .pinned], laidTests := true, laidLooks := .later }
def PostsTellCardSaid : Prop := Claim7.holds Tryd.pinned (.plain (OpenSpec.ofChange postsTellSpec)) postsTellCard

/-- THE TIED CARD OF 'colloquylaw16.PostsOwn'. -/
def postsOwnCard : Claim7 := { stood := { row := postsOwnRow, standIns := [], harness := (true, "4f416098252fb73f44aa8a868eae5a22ab2e71e1f4b782698986b3e6cdb938a9"), looks := false }, kinds := [], alts := [], laidByText := true, laidKinds := [.data, .pinned], laidTests := true, laidLooks := .later }
def PostsOwnCardSaid : Prop := Claim7.holds Tryd.pinned (.plain (OpenSpec.ofChange postsOwnSpec)) postsOwnCard

/-- THE TIED CARD OF 'colloquylaw16.PostsKeep'. -/
def postsKeepCard : Claim7 := { stood := { row := postsKeepRow, standIns := [], harness := (true, "4f416098252fb73f44aa8a868eae5a22ab2e71e1f4b782698986b3e6cdb938a9"), looks := false }, kinds := [], alts := [], laidByText := true, laidKinds := [.data, .pinned], laidTests := true, laidLooks := .later }
def PostsKeepCardSaid : Prop := Claim7.holds Tryd.pinned (.plain (OpenSpec.ofChange postsKeepSpec)) postsKeepCard

/-- THE SECOND FORM's CARD OF 'colloquylaw16.PostsDo'. -/
def postsDoUptoCard : Claim7 := { stood := { row := postsDoUptoRow, standIns := [], harness := (true, "4f416098252fb73f44aa8a868eae5a22ab2e71e1f4b782698986b3e6cdb938a9"), looks := false }, kinds := [], alts := [], laidByText := true, laidKinds := [.data, .pinned], laidTests := true, laidLooks := .later }
def PostsDoUptoCardSaid : Prop := Claim7.holds Tryd.pinned (.plain (OpenSpec.upto postsDoSpec)) postsDoUptoCard

/-- THE SECOND FORM's CARD OF 'colloquylaw16.PostsPage'. -/
def postsPageUptoCard : Claim7 := { stood := { row := postsPageUptoRow, standIns := [], harness := (true, "4f416098252fb73f44aa8a868eae5a22ab2e71e1f4b782698986b3e6cdb938a9"), looks := false }, kinds := [], alts := [], laidByText := true, laidKinds := [.data, .pinned], laidTests := true, laidLooks := .later }
def PostsPageUptoCardSaid : Prop := Claim7.holds Tryd.pinned (.plain (OpenSpec.upto postsPageSpec)) postsPageUptoCard

/-- THE SECOND FORM's CARD OF 'colloquylaw16.PostsNumbers'. -/
def postsNumbersUptoCard : Claim7 := { stood := { row := postsNumbersUptoRow, standIns := [], harness := (true, "4f416098252fb73f44aa8a868eae5a22ab2e71e1f4b782698986b3e6cdb938a9"), looks := false }, kinds := [], alts := [], laidByText := true, laidKinds := [.data, .pinned], laidTests := true, laidLooks := .later }
def PostsNumbersUptoCardSaid : Prop := Claim7.holds Tryd.pinned (.plain (OpenSpec.upto postsNumbersSpec)) postsNumbersUptoCard

/-- THE SECOND FORM's CARD OF 'colloquylaw16.PostsTell'. -/
def postsTellUptoCard : Claim7 := { stood := { row := postsTellUptoRow, standIns := [], harness := (true, "4f416098252fb73f44aa8a868eae5a22ab2e71e1f4b782698986b3e6cdb938a9"), looks := false }, kinds := [], alts := [], laidByText := true, laidKinds := [.data, .pinned], laidTests := true, laidLooks := .later }
def PostsTellUptoCardSaid : Prop := Claim7.holds Tryd.pinned (.plain (OpenSpec.upto postsTellSpec)) postsTellUptoCard

/-- THE SECOND FORM's CARD OF 'colloquylaw16.PostsOwn'. -/
def postsOwnUptoCard : Claim7 := { stood := { row := postsOwnUptoRow, standIns := [], harness := (true, "4f416098252fb73f44aa8a868eae5a22ab2e71e1f4b782698986b3e6cdb938a9"), looks := false }, kinds := [], alts := [], laidByText := true, laidKinds := [.data, .pinned], laidTests := true, laidLooks := .later }
def PostsOwnUptoCardSaid : Prop := Claim7.holds Tryd.pinned (.plain (OpenSpec.upto postsOwnSpec)) postsOwnUptoCard

/-- THE SECOND FORM's CARD OF 'colloquylaw16.PostsKeep'. -/
def postsKeepUptoCard : Claim7 := { stood := { row := postsKeepUptoRow, standIns := [], harness := (true, "4f416098252fb73f44aa8a868eae5a22ab2e71e1f4b782698986b3e6cdb938a9"), looks := false }, kinds := [], alts := [], laidByText := true, laidKinds := [.data, .pinned], laidTests := true, laidLooks := .later }
def PostsKeepUptoCardSaid : Prop := Claim7.holds Tryd.pinned (.plain (OpenSpec.upto postsKeepSpec)) postsKeepUptoCard
end Rows
end Go.Proofs.YtifpfpiljionmaaDoor
