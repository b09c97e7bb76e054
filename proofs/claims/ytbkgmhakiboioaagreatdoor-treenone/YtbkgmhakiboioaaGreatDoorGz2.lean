/- TreeNone's tied card out of its row (a text of its own: the kernel wants 10 GB for it). -/
import Derived.Test.YtbkgmhakiboioaaGreatDoorTie
import Derived.Test.YtbkgmhakiboioaaGreatDoorCards
import Derived.ProofKit
import Derived.Lay
import Derived.LaidOnce
import Derived.SevenTiedAt
namespace Go.Proofs.YtbkgmhakiboioaaGreatDoor
open Go Go.RowKit Go.ChangeShapes Go.WideShapes Go.ChangeAt
theorem treeNone_card_of (h : Rows.TreeNoneSaid) : Rows.TreeNoneCardSaid :=
  Claim7.holds_tied_plain_at .later [] [.data, .pinned] true (true, "3284afa86d08f9c63676a8f7d3e13cfb4eaa8042535d24a3d4b9c9f321a29d74") true h (fun _ h => by cases h) (by kernel_rfl) (fun _ h => by cases h) treeNone_row_tie rfl ⟨rfl, rfl⟩ (by kernel_rfl) rfl
    (fun f fn hf hfn => by
      obtain rfl : f = 6 := Option.some.inj ((show Tryz.prog.funcNamed "gabion/gabionlaw19.TreeNone" = some 6 by kernel_rfl).symm.trans hf) |>.symm
      obtain rfl : fn = Tryz.f6 := (Option.some.inj (Tryz.func6.symm.trans hfn)).symm
      exact ⟨by kernel_rfl, fun j t ht => by
        rw [Tryz.params6] at ht
        have hm : t ∈ [3, 9] := by simpa using Array.mem_of_getElem? ht
        have hall : ([3, 9].all fun u => !Tryz.prog.wantsStandIn u) = true := by kernel_rfl
        exact (show Tryz.prog.wantsStandIn t = false by simpa using List.all_eq_true.1 hall t hm)⟩)
    (by kernel_rfl)
end Go.Proofs.YtbkgmhakiboioaaGreatDoor
