/-
  The order of the deeds' spots: cmp.Compare, cmp.Or, the closure.
-/
import Derived.Test.YtbkgmhakiboioaaGreatDoorGr4
import Derived.Shelf.SlSortCmp.NoneTotal
import Derived.Ground.SlsfProg
namespace Go.Proofs.Gab
open Go.RowKit Go.Maps Go.ChangeMaps Go.Shelf Go.Lib Go.Sort

def cmpIv (a b : Int) : Int := if a < b then -1 else if b < a then 1 else 0
def cmpSv (a b : ByteArray) : Int := if nlt a b = true then -1 else if nlt b a = true then 1 else 0
def cmpSpot (a b : Int × ByteArray) : Int := if cmpIv a.1 b.1 ≠ 0 then cmpIv a.1 b.1 else cmpSv a.2 b.2

set_option maxRecDepth 100000 in
theorem nanI_any (a : Int) (w : World) : Calls Tryz.prog 163 #[.int .i64 a] w fun e w' => e = .returned (.bool false) ∧ w = w' := by
  go_enter Tryz.func163, Tryz.ntmps163
  go_wp2
  go_ret
  exact ⟨by simp, rfl⟩
set_option maxRecDepth 100000 in
theorem nanS_any (a : ByteArray) (w : World) : Calls Tryz.prog 164 #[.string a] w fun e w' => e = .returned (.bool false) ∧ w = w' := by
  go_enter Tryz.func164, Tryz.ntmps164
  go_wp2
  go_ret
  exact ⟨by simp, rfl⟩
set_option maxRecDepth 100000 in
theorem cmpI_any (a b : Int) (w : World) : Calls Tryz.prog 91 #[.int .i64 a, .int .i64 b] w fun e w' => e = .returned (.int .i64 (cmpIv a b)) ∧ w = w' := by
  go_enter Tryz.func91, Tryz.ntmps91
  have hn := Go.Lib.hid (nanI_any)
  go_wp2_with (go_at_call 163; refine (hn.out _ _).mono ?_; rintro e w1 ⟨rfl, rfl⟩)
  all_goals go_ret
  all_goals refine ⟨?_, rfl⟩
  all_goals unfold cmpIv
  all_goals (repeat' split) <;> first | rfl | (exfalso; omega)
set_option maxRecDepth 100000 in
theorem cmpS_any (a b : ByteArray) (w : World) : Calls Tryz.prog 92 #[.string a, .string b] w fun e w' => e = .returned (.int .i64 (cmpSv a b)) ∧ w = w' := by
  go_enter Tryz.func92, Tryz.ntmps92
  have hn := Go.Lib.hid (nanS_any)
  go_wp2_with (go_at_call 164; refine (hn.out _ _).mono ?_; rintro e w1 ⟨rfl, rfl⟩)
  all_goals go_ret
  all_goals refine ⟨?_, rfl⟩
  · rename_i h
    have h' : nlt a b = true := h
    simp [cmpSv, h']
  · have h1' : nlt a b = false := (by assumption : Op.bytesLess a.toList b.toList = false)
    have h2 : (!a.toList == b.toList) = true := by assumption
    have hne : a ≠ b := by rintro rfl; simp at h2
    have h3 : nlt b a = true := by
      rcases nlt_total hne with h | h
      · rw [h1'] at h; cases h
      · exact h
    simp [cmpSv, h1', h3]
  · have h2 : (!a.toList == b.toList) = false := by assumption
    have hab : a = b := toList_inj (by simpa using h2)
    subst hab
    simp [cmpSv, nlt_irrefl]
set_option maxRecDepth 100000 in
theorem cmpOr_any (a b : Int) (c : Nat) (w : World) (k : Nat) (ha : w.cell? ⟨k, 0, none⟩ = some (.int .i64 a)) (hb : w.cell? ⟨k, 1, none⟩ = some (.int .i64 b)) :
    Calls Tryz.prog 90 #[.slice (some ⟨k, 0, none⟩) 2 c] w fun e w' => e = .returned (.int .i64 (if a ≠ 0 then a else b)) ∧ w = w' := by
  by_cases h1 : a = 0
  · subst h1
    by_cases h2 : b = 0
    · subst h2
      go_enter Tryz.func90, Tryz.ntmps90
      go_wp2
      refine wp_loop_rounds 3 ?_
      rw [rounds_succ]
      go_wp2
      rw [rounds_succ]
      go_wp2
      rw [rounds_succ]
      go_wp2
      go_ret
      exact ⟨rfl, rfl⟩
    · have hx : (b != 0) = true := by simpa using h2
      go_enter Tryz.func90, Tryz.ntmps90
      go_wp2
      refine wp_loop_rounds 3 ?_
      rw [rounds_succ]
      go_wp2
      rw [rounds_succ]
      go_wp2
      · go_ret
        exact ⟨by simp, rfl⟩
      all_goals (exfalso; simp_all; done)
  · have hx : (a != 0) = true := by simpa using h1
    go_enter Tryz.func90, Tryz.ntmps90
    go_wp2
    refine wp_loop_rounds 3 ?_
    rw [rounds_succ]
    go_wp2
    · go_ret
      exact ⟨by simp [h1], rfl⟩
    all_goals (exfalso; simp_all; done)
end Go.Proofs.Gab
