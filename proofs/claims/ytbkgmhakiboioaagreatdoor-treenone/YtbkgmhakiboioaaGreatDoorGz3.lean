/- Proved here: the law gabionlaw19.TreeNone answers true whatever its input, and its input reads as it did; its listed tables are tied to the program's text. Its conditions are the row's own. -/
import Derived.Test.YtbkgmhakiboioaaGreatDoorGz0
import Derived.Test.YtbkgmhakiboioaaGreatDoorGz1
import Derived.Test.YtbkgmhakiboioaaGreatDoorGz2
namespace Go.Proofs.YtbkgmhakiboioaaGreatDoor
open Go Go.RowKit Go.ChangeShapes Go.WideShapes Go.ChangeAt
theorem treeNone_holds : Rows.TreeNoneSaid :=
  OpenClaim.holds_of_wide 6 Tryz.f6 rfl rfl rfl rfl rfl rfl rfl ⟨rfl, rfl, rfl, rfl, rfl⟩ rfl rfl rfl rfl rfl (by kernel_rfl) Tryz.func6 treeNone_closed
    (of_decide_eq_true (by kernel_rfl)) (by unfold Func.isWrapper; first | (rw [if_pos (by decide +kernel)]; kernel_rfl) | (rw [if_neg (by decide +kernel)]; exact ⟨rfl, rfl⟩))
    (fun os started H enc _ => treeNone_lifted os started H enc)
theorem treeNone_card : Rows.TreeNoneCardSaid := treeNone_card_of treeNone_holds
#print axioms treeNone_card
end Go.Proofs.YtbkgmhakiboioaaGreatDoor
