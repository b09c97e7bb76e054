/-
  The keys of the tree's maps: whole numbers, and spots (a number and a name).
-/
import Derived.Test.YtbkgmhakiboioaaGreatDoorGb3
import Derived.DeepKeys4
namespace Go.Proofs.Gab
open Go.RowKit Go.Maps Go.ChangeMaps Go.Deep

/-! ### the keys -/
theorem laidOutT : laidOutB Tryz.prog = true := by kernel_rfl
set_option maxRecDepth 100000 in
theorem rowSpot : (201 : TypeId) < Tryz.prog.types.size := of_decide_eq_true (by kernel_rfl)
theorem wideSpot : (match Tryz.prog.underlying 201 with | some (.array _ _) | some (.struct _) => true | _ => false) = true := by kernel_rfl
theorem deepSpot2 : Tryz.prog.keyTypeAt 2 201 = true := by kernel_rfl
set_option maxRecDepth 100000 in
theorem lawSpot : Keyed Tryz.prog 201 := Keyed.of_law (deep_law_laid laidOutT (m := 2) (by omega) rowSpot deepSpot2 wideSpot)
theorem lawI : Keyed Tryz.prog 3 := int_keyed Tryz.underlying3
theorem keyI {n : Int} (h : (Lit.int .i64 n).wf = true) : keyOf Tryz.prog 3 (.int .i64 n) = some (.int .i64 n) := keyOf_int_mk Tryz.underlying3 h
theorem deepSpot : Tryz.prog.keyType 201 = true := by kernel_rfl
theorem cellsSpot : Tryz.prog.cellsOf 201 = 2 := by kernel_rfl
theorem cellsInt : Tryz.prog.cellsOf 3 = 1 := by kernel_rfl
theorem cellsStr : Tryz.prog.cellsOf 9 = 1 := by kernel_rfl
set_option maxRecDepth 100000 in
theorem sizeTypes : ∃ n, Tryz.prog.types.size + 1 = n + 2 := ⟨Tryz.prog.types.size - 1, by have : 2 ≤ Tryz.prog.types.size := of_decide_eq_true (by kernel_rfl); omega⟩
set_option maxRecDepth 100000 in
theorem keySpot {n : Int} {s : ByteArray} (h : (Lit.int .i64 n).wf = true) (hs : s.size ≤ maxLen) : ∃ kl, keyOf Tryz.prog 201 (.agg #[.int .i64 n, .string s]) = some kl := by
  obtain ⟨m, hm⟩ := sizeTypes
  refine ⟨.string (keyBytes [.int .i64 n, .string s.data.toList]), ?_⟩
  unfold keyOf
  rw [Tryz.underlying201]
  simp only [deepSpot, Value.formed, Tryz.underlying201, cellsSpot, hm]
  simp [Program.keyLits, Tryz.underlying201, cellsSpot, Tryz.underlying3, Tryz.underlying9, cellsInt, cellsStr, Value.cells, h, hs]
end Go.Proofs.Gab
