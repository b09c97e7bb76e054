/-
  DERIVED. GIVEN WITH THE SEED: THE CARDS: each row of YtbkgmhakiboioaaGreatDoorRows.lean that lists a variable, with what it lists TIED to the program's text (the seventh form; the later family's looks); each row that meets fmt, with fmt's text TOLD by the authors' own Lean function (tested against real Go, not proved from fmt's source: count such statements apart). THE CARD IS WHAT COUNTS. Prove the row's statement (the work); the ties are given (YtbkgmhakiboioaaGreatDoorTie.lean); close each card by the builder's one call (the guide's Derived/Test/ToyasCard.lean, 'card_holds'). Laid BY PROGRAM, IN A SANDBOX (cutbox-door.mjs). By AI agents, Wed Nov 11 2026. No macro, syntax, notation, axiom, sorry.
-/
import Derived.Test.YtbkgmhakiboioaaGreatDoorRows
import GoSem.ClaimSeven
namespace Go.Proofs.YtbkgmhakiboioaaGreatDoor
namespace Rows

/-- THE TIED CARD OF 'gabionlaw19.TreeWalks'. -/
def treeWalksCard : Claim7 := { stood := { row := treeWalksRow, standIns := [], harness := (true, "3284afa86d08f9c63676a8f7d3e13cfb4eaa8042535d24a3d4b9c9f321a29d74"), looks := true }, kinds := [], alts := [], laidByText := true, laidKinds := [.data, .pinned], laidTests := true, laidLooks := .later }
def TreeWalksCardSaid : Prop := Claim7.holds Tryz.pinned (.plain (OpenSpec.ofChange treeWalksSpec)) treeWalksCard

/-- THE TIED CARD OF 'gabionlaw19.TreeAgrees'. -/
def treeAgreesCard : Claim7 := { stood := { row := treeAgreesRow, standIns := [], harness := (true, "3284afa86d08f9c63676a8f7d3e13cfb4eaa8042535d24a3d4b9c9f321a29d74"), looks := true }, kinds := [], alts := [], laidByText := true, laidKinds := [.data, .pinned], laidTests := true, laidLooks := .later }
def TreeAgreesCardSaid : Prop := Claim7.holds Tryz.pinned (.plain (OpenSpec.ofChange treeAgreesSpec)) treeAgreesCard

/-- THE TIED CARD OF 'gabionlaw19.TreePlays'. -/
def treePlaysCard : Claim7 := { stood := { row := treePlaysRow, standIns := [], harness := (true, "3284afa86d08f9c63676a8f7d3e13cfb4eaa8042535d24a3d4b9c9f321a29d74"), looks := true }, kinds := [], alts := [], laidByText := true, laidKinds := [.data, .pinned], laidTests := true, laidLooks := .later }
def TreePlaysCardSaid : Prop := Claim7.holds Tryz.pinned (.plain (OpenSpec.ofChange treePlaysSpec)) treePlaysCard

/-- THE TIED CARD OF 'gabionlaw19.TreeNone'. -/
def treeNoneCard : Claim7 := { stood := { row := treeNoneRow, standIns := [], harness := (true, "3284afa86d08f9c63676a8f7d3e13cfb4eaa8042535d24a3d4b9c9f321a29d74"), looks := true }, kinds := [], alts := [], laidByText := true, laidKinds := [.data, .pinned], laidTests := true, laidLooks := .later }
def TreeNoneCardSaid : Prop := Claim7.holds Tryz.pinned (.plain (OpenSpec.ofChange treeNoneSpec)) treeNoneCard

/-- THE TIED CARD OF 'gabionlaw19.TreeBuilds'. -/
def treeBuildsCard : Claim7 := { stood := { row := treeBuildsRow, standIns := [], harness := (true, "3284afa86d08f9c63676a8f7d3e13cfb4eaa8042535d24a3d4b9c9f321a29d74"), looks := true }, kinds := [], alts := [], laidByText := true, laidKinds := [.data, .pinned], laidTests := true, laidLooks := .later }
def TreeBuildsCardSaid : Prop := Claim7.holds Tryz.pinned (.plain (OpenSpec.ofChange treeBuildsSpec)) treeBuildsCard

/-- THE TIED CARD OF 'gabionlaw19.TreeReaps'. -/
def treeReapsCard : Claim7 := { stood := { row := treeReapsRow, standIns := [], harness := (true, "3284afa86d08f9c63676a8f7d3e13cfb4eaa8042535d24a3d4b9c9f321a29d74"), looks := true }, kinds := [], alts := [], laidByText := true, laidKinds := [.data, .pinned], laidTests := true, laidLooks := .later }
def TreeReapsCardSaid : Prop := Claim7.holds Tryz.pinned (.plain (OpenSpec.ofChange treeReapsSpec)) treeReapsCard

/-- THE TIED CARD OF 'gabionlaw29.ModelRuns'. -/
def modelRunsCard : Claim7 := { stood := { row := modelRunsRow, standIns := [], harness := (true, "3284afa86d08f9c63676a8f7d3e13cfb4eaa8042535d24a3d4b9c9f321a29d74"), looks := true }, kinds := [], alts := [], laidByText := true, laidKinds := [.data, .data, .data, .data, .pinned], laidTests := true, laidLooks := .later }
def ModelRunsCardSaid : Prop := Claim7.holds Tryz.pinned (.plain (OpenSpec.ofChange modelRunsSpec)) modelRunsCard

/-- THE TIED CARD OF 'gabionlaw29.ModelCopies'. -/
def modelCopiesCard : Claim7 := { stood := { row := modelCopiesRow, standIns := [], harness := (true, "3284afa86d08f9c63676a8f7d3e13cfb4eaa8042535d24a3d4b9c9f321a29d74"), looks := true }, kinds := [], alts := [], laidByText := true, laidKinds := [.data, .data, .data, .data, .pinned], laidTests := true, laidLooks := .later }
def ModelCopiesCardSaid : Prop := Claim7.holds Tryz.pinned (.plain (OpenSpec.ofChange modelCopiesSpec)) modelCopiesCard

/-- THE SECOND FORM's CARD OF 'gabionlaw19.TreeWalks'. -/
def treeWalksUptoCard : Claim7 := { stood := { row := treeWalksUptoRow, standIns := [], harness := (true, "3284afa86d08f9c63676a8f7d3e13cfb4eaa8042535d24a3d4b9c9f321a29d74"), looks := true }, kinds := [], alts := [], laidByText := true, laidKinds := [.data, .pinned], laidTests := true, laidLooks := .later }
def TreeWalksUptoCardSaid : Prop := Claim7.holds Tryz.pinned (.plain (OpenSpec.upto treeWalksSpec)) treeWalksUptoCard

/-- THE SECOND FORM's CARD OF 'gabionlaw19.TreeAgrees'. -/
def treeAgreesUptoCard : Claim7 := { stood := { row := treeAgreesUptoRow, standIns := [], harness := (true, "3284afa86d08f9c63676a8f7d3e13cfb4eaa8042535d24a3d4b9c9f321a29d74"), looks := true }, kinds := [], alts := [], laidByText := true, laidKinds := [.data, .pinned], laidTests := true, laidLooks := .later }
def TreeAgreesUptoCardSaid : Prop := Claim7.holds Tryz.pinned (.plain (OpenSpec.upto treeAgreesSpec)) treeAgreesUptoCard

/-- THE SECOND FORM's CARD OF 'gabionlaw19.TreePlays'. -/
def treePlaysUptoCard : Claim7 := { stood := { row := treePlaysUptoRow, standIns := [], harness := (true, "3284afa86d08f9c63676a8f7d3e13cfb4eaa8042535d24a3d4b9c9f321a29d74"), looks := true }, kinds := [], alts := [], laidByText := true, laidKinds := [.data, .pinned], laidTests := true, laidLooks := .later }
def TreePlaysUptoCardSaid : Prop := Claim7.holds Tryz.pinned (.plain (OpenSpec.upto treePlaysSpec)) treePlaysUptoCard

/-- THE SECOND FORM's CARD OF 'gabionlaw19.TreeNone'. -/
def treeNoneUptoCard : Claim7 := { stood := { row := treeNoneUptoRow, standIns := [], harness := (true, "3284afa86d08f9c63676a8f7d3e13cfb4eaa8042535d24a3d4b9c9f321a29d74"), looks := true }, kinds := [], alts := [], laidByText := true, laidKinds := [.data, .pinned], laidTests := true, laidLooks := .later }
def TreeNoneUptoCardSaid : Prop := Claim7.holds Tryz.pinned (.plain (OpenSpec.upto treeNoneSpec)) treeNoneUptoCard

/-- THE SECOND FORM's CARD OF 'gabionlaw19.TreeBuilds'. -/
def treeBuildsUptoCard : Claim7 := { stood := { row := treeBuildsUptoRow, standIns := [], harness := (true, "3284afa86d08f9c63676a8f7d3e13cfb4eaa8042535d24a3d4b9c9f321a29d74"), looks := true }, kinds := [], alts := [], laidByText := true, laidKinds := [.data, .pinned], laidTests := true, laidLooks := .later }
def TreeBuildsUptoCardSaid : Prop := Claim7.holds Tryz.pinned (.plain (OpenSpec.upto treeBuildsSpec)) treeBuildsUptoCard

/-- THE SECOND FORM's CARD OF 'gabionlaw19.TreeReaps'. -/
def treeReapsUptoCard : Claim7 := { stood := { row := treeReapsUptoRow, standIns := [], harness := (true, "3284afa86d08f9c63676a8f7d3e13cfb4eaa8042535d24a3d4b9c9f321a29d74"), looks := true }, kinds := [], alts := [], laidByText := true, laidKinds := [.data, .pinned], laidTests := true, laidLooks := .later }
def TreeReapsUptoCardSaid : Prop := Claim7.holds Tryz.pinned (.plain (OpenSpec.upto treeReapsSpec)) treeReapsUptoCard

/-- THE SECOND FORM's CARD OF 'gabionlaw29.ModelRuns'. -/
def modelRunsUptoCard : Claim7 := { stood := { row := modelRunsUptoRow, standIns := [], harness := (true, "3284afa86d08f9c63676a8f7d3e13cfb4eaa8042535d24a3d4b9c9f321a29d74"), looks := true }, kinds := [], alts := [], laidByText := true, laidKinds := [.data, .data, .data, .data, .pinned], laidTests := true, laidLooks := .later }
def ModelRunsUptoCardSaid : Prop := Claim7.holds Tryz.pinned (.plain (OpenSpec.upto modelRunsSpec)) modelRunsUptoCard

/-- THE SECOND FORM's CARD OF 'gabionlaw29.ModelCopies'. -/
def modelCopiesUptoCard : Claim7 := { stood := { row := modelCopiesUptoRow, standIns := [], harness := (true, "3284afa86d08f9c63676a8f7d3e13cfb4eaa8042535d24a3d4b9c9f321a29d74"), looks := true }, kinds := [], alts := [], laidByText := true, laidKinds := [.data, .data, .data, .data, .pinned], laidTests := true, laidLooks := .later }
def ModelCopiesUptoCardSaid : Prop := Claim7.holds Tryz.pinned (.plain (OpenSpec.upto modelCopiesSpec)) modelCopiesUptoCard
end Rows
end Go.Proofs.YtbkgmhakiboioaaGreatDoor
