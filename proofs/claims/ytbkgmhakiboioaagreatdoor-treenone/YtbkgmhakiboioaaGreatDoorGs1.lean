/-
  The closure of Deeds that orders the spots.
-/
import Derived.Test.YtbkgmhakiboioaaGreatDoorGs0
import Derived.StillTailTactics
namespace Go.Proofs.Gab
open Go.RowKit Go.Maps Go.ChangeMaps Go.Shelf Go.Lib Go.Sort

theorem still_tail {P : Program} {id : Nat} {Q : Exit → Act → World → Prop} {a : Act} {w : World} {l : List Oper} (n : Nat) (hm : P.follows .mixedOrders = true) (hB : Region.lexTailB .any l.toArray n = true)
    (h : ∀ W, W = w.drew → wpStill P l.toArray W (fun a' => wpList P l.toArray Q (l.drop n) a' W) (l.take n) a) : (Code.region id l.toArray true).wp P Q a w := wp_region_still_tail n hm hB (h _ rfl)

set_option maxRecDepth 100000 in
set_option maxHeartbeats 2000000 in
theorem deedsCmp_any (x y : Int × ByteArray) (w : World) : Calls Tryz.prog 89 #[.agg #[.int .i64 x.1, .string x.2], .agg #[.int .i64 y.1, .string y.2]] w fun e w' => e = .returned (.int .i64 (cmpSpot x y)) ∧ ∃ q os', w' = grow (w.drewN q) os' := by
  obtain ⟨x1, x2⟩ := x
  obtain ⟨y1, y2⟩ := y
  simp only [cmpSpot]
  have hi := Go.Lib.hid (cmpI_any x1 y1)
  have hs := Go.Lib.hid (cmpS_any x2 y2)
  generalize cmpIv x1 y1 = a at hi ⊢
  generalize cmpSv x2 y2 = b at hs ⊢
  have ho0 := cmpOr_any a b
  generalize (if a ≠ 0 then a else b) = r at ho0 ⊢
  have ho := Go.Lib.hid ho0
  clear ho0
  go_enter Tryz.func89, Tryz.ntmps89
  go_wp2_with (fail)
  have c0 : ((w.alloc (.cells #[.int .i64 x1, .string x2] 201)).alloc (.cells #[.int .i64 y1, .string y2] 201)).drew.cell? ⟨w.heap.size, 0, none⟩ = some (.int .i64 x1) := cell_of ((alloc_old _ (by simp)).trans (alloc_new w _)) 0 rfl
  have c1 : ((w.alloc (.cells #[.int .i64 x1, .string x2] 201)).alloc (.cells #[.int .i64 y1, .string y2] 201)).drew.cell? ⟨w.heap.size, 1, none⟩ = some (.string x2) := cell_of ((alloc_old _ (by simp)).trans (alloc_new w _)) 1 rfl
  have hs1 : (w.alloc (.cells #[.int .i64 x1, .string x2] 201)).heap.size = w.heap.size + 1 := by simp
  have d0 : ((w.alloc (.cells #[.int .i64 x1, .string x2] 201)).alloc (.cells #[.int .i64 y1, .string y2] 201)).drew.cell? ⟨w.heap.size + 1, 0, none⟩ = some (.int .i64 y1) := by rw [← hs1]; exact cell_of (alloc_new _ _) 0 rfl
  have d1 : ((w.alloc (.cells #[.int .i64 x1, .string x2] 201)).alloc (.cells #[.int .i64 y1, .string y2] 201)).drew.cell? ⟨w.heap.size + 1, 1, none⟩ = some (.string y2) := by rw [← hs1]; exact cell_of (alloc_new _ _) 1 rfl
  have hG : ∃ q os', ((w.alloc (.cells #[.int .i64 x1, .string x2] 201)).alloc (.cells #[.int .i64 y1, .string y2] 201)).drew = grow (w.drewN q) os' := ⟨1, #[.cells #[.int .i64 x1, .string x2] 201, .cells #[.int .i64 y1, .string y2] 201], by
    rw [alloc_eq_grow, alloc_eq_grow, grow_grow]; rfl⟩
  clear hs1
  refine still_tail 10 (by kernel_rfl) (by kernel_rfl) ?_
  intro W2 hW2
  rw [← hW2] at c0 c1 d0 d1 hG
  clear hW2
  simp only [List.take_succ_cons, List.take_zero, List.drop_succ_cons, List.drop_zero]
  iterate 4 still_step
  still_call ((hi.out _).mono (fun e w' h => ⟨h.1, h.2.symm⟩))
  iterate 4 still_step
  still_call ((hs.out _).mono (fun e w' h => ⟨h.1, h.2.symm⟩))
  refine wpStill_nil ?_
  have hO := Go.Lib.hid (ho.out 2 (W2.alloc (.cells #[.int .i64 a, .int .i64 b] 3)) W2.heap.size (cell_of (alloc_new _ _) 0 rfl) (cell_of (alloc_new _ _) 1 rfl))
  go_wp2_with (go_at_call 90; refine hO.out.mono ?_; rintro e w1 ⟨rfl, rfl⟩)
  go_ret
  obtain ⟨q, os', rfl⟩ := hG
  exact ⟨rfl, q, _, by rw [alloc_eq_grow, grow_grow]⟩
end Go.Proofs.Gab
