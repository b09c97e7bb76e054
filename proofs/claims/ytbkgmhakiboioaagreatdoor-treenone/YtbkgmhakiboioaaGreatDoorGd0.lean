/-
  (*Tree).name: the deed of a spot.
-/
import Derived.Test.YtbkgmhakiboioaaGreatDoorGt3
import Derived.Lib.Hide
namespace Go.Proofs.Gab
open Go.RowKit Go.Maps Go.ChangeMaps

set_option maxRecDepth 100000 in
theorem keySpot_inv {n : Int} {s : ByteArray} {kl : Lit} (h : keyOf Tryz.prog 201 (.agg #[.int .i64 n, .string s]) = some kl) : (Lit.int .i64 n).wf = true ∧ s.size ≤ maxLen := by
  obtain ⟨m, hm⟩ := sizeTypes
  unfold keyOf at h
  rw [Tryz.underlying201] at h
  simp only [deepSpot, Value.formed, Tryz.underlying201, cellsSpot, hm] at h
  simp [Program.keyLits, Tryz.underlying201, cellsSpot, Tryz.underlying3, Tryz.underlying9, cellsInt, cellsStr, Value.cells] at h
  by_cases h1 : (Lit.int .i64 n).wf = true
  · refine ⟨h1, ?_⟩
    by_cases h2 : s.size ≤ maxLen
    · exact h2
    · rw [if_pos h1, if_neg h2] at h
      simp at h
  · rw [if_neg h1] at h
    simp at h

def deedK (E : Int) : Int := if E = 0 then 3 else 4
set_option maxRecDepth 100000 in
theorem tname_of {tv : Value} {n E g : Int} {s : ByteArray} {w : World} (hF : ∀ w', Below w.heap.size w w' → Calls Tryz.prog 30 #[tv, .int .i64 n, .string s] w' fun e w1 => e = .returned (.tuple #[.int .i64 g, .int .i64 E]) ∧ ∃ k, w1 = w'.drewN k) :
    Calls Tryz.prog 95 #[tv, .agg #[.int .i64 n, .string s]] w fun e w' => e = .returned (.agg #[.int .i64 (deedK E), .int .i64 n, .string s]) ∧ Below w.heap.size w w' := by
  have H := Go.Lib.hid hF
  clear hF
  go_enter Tryz.func95, Tryz.ntmps95
  have hE0 : (E != 0) = true ∨ E = 0 := by by_cases h : E = 0 <;> simp [h]
  go_wp2_with (go_at_call 30; refine (H.out _ (((Below.refl _ _).alloc (Nat.le_refl _) _).alloc (by simp) _)).mono ?_; rintro e w1 ⟨rfl, k, rfl⟩; have k0 : (((w.alloc (.cells #[.int .i64 n, .string s] 201)).alloc (.cells #[.int .i64 0, .int .i64 0, .string ⟨#[]⟩] 72)).drewN k).heap[w.heap.size]? = _ := (two_new w _ _).1; have k1 : (((w.alloc (.cells #[.int .i64 n, .string s] 201)).alloc (.cells #[.int .i64 0, .int .i64 0, .string ⟨#[]⟩] 72)).drewN k).heap[w.heap.size + 1]? = _ := (two_new w _ _).2; have d0 := cell_of k0 0 rfl; have d1 := cell_of k0 1 rfl; have g0 := cell_of k1 0 rfl; have g1 := cell_of k1 1 rfl; have g2 := cell_of k1 2 rfl; have p0 := free_of k1 0; have p1 := free_of k1 1; have p2 := free_of k1 2; clear k0 k1; have HB := Go.Lib.hid (p := Below w.heap.size w (((w.alloc (.cells #[.int .i64 n, .string s] 201)).alloc (.cells #[.int .i64 0, .int .i64 0, .string ⟨#[]⟩] 72)).drewN k)) (below_drewN (((Below.refl _ _).alloc (Nat.le_refl _) _).alloc (by simp) _) k); generalize ((w.alloc (.cells #[.int .i64 n, .string s] 201)).alloc (.cells #[.int .i64 0, .int .i64 0, .string ⟨#[]⟩] 72)).drewN k = w2 at *)
  · have hE : E ≠ 0 := by
      have h : (E != 0) = true := by assumption
      simpa using h
    refine bodyPost_ret (v := .agg #[.int .i64 4, .int .i64 n, .string s]) (by simp [results, Tryz.results95, go_sem, g0, g1, g2]) rfl ⟨by simp [deedK, hE], ?_⟩
    exact Below.setCell (Below.setCell (Below.setCell HB.out (by simp) _) (by simp) _) (by simp) _
  · have hE : E = 0 := by
      have h : (E != 0) = false := by assumption
      simpa using h
    refine bodyPost_ret (v := .agg #[.int .i64 3, .int .i64 n, .string s]) (by simp [results, Tryz.results95, go_sem, g0, g1, g2]) rfl ⟨by simp [deedK, hE], ?_⟩
    exact Below.setCell (Below.setCell (Below.setCell HB.out (by simp) _) (by simp) _) (by simp) _
end Go.Proofs.Gab
