/- The closed facts of TreeNone's row (a text of its own: the kernel wants 10 GB for them). -/
import Derived.Test.YtbkgmhakiboioaaGreatDoorTie
import Derived.Test.YtbkgmhakiboioaaGreatDoorCards
import Derived.ProofKit
import Derived.Lay
import Derived.LaidOnce
import Derived.SevenTiedAt
namespace Go.Proofs.YtbkgmhakiboioaaGreatDoor
open Go Go.RowKit Go.ChangeShapes Go.WideShapes Go.ChangeAt
theorem treeNone_closed : joinedFacts Tryz.pinned.checked.prog 6 Tryz.f6 Rows.treeNoneSpec Rows.treeNoneRow = true := by kernel_rfl
end Go.Proofs.YtbkgmhakiboioaaGreatDoor
