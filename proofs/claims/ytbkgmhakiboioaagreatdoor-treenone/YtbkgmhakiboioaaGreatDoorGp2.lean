/-
  path.Parse.
-/
import Derived.Test.YtbkgmhakiboioaaGreatDoorGa0
import Derived.Test.YtbkgmhakiboioaaGreatDoorGp1
import Derived.Test.YtbkgmhakiboioaaGreatDoorGr3
import Derived.Test.YtbkgmhakiboioaaGreatDoorGt3
import Derived.Shelf.Strings.Prefix
namespace Go.Proofs.Gab
open Go.RowKit Go.Maps Go.ChangeMaps Go.Shelf Go.Lib
attribute [local go_sem] Oper.semAt_some

theorem hasPrefix_any (s p : ByteArray) (w : World) : Calls Tryz.prog 71 #[.string s, .string p] w fun e w' => e = .returned (.bool (Lib.hasPrefix s.data.toList p.data.toList)) ∧ w' = w := Any.strings_HasPrefix Tryz.laysPrefixG s p w

/-- the world behind SplitSeq: three boxes more -/
def split3 (s : List UInt8) (w : World) : World := ((w.alloc (.cells #[strL s] 9)).alloc (.cells #[strL [47]] 9)).alloc (.cells #[.int .i64 0] 3)
def iterV (b : Nat) : Value := .func (.func 204) #[] #[.pointer (some ⟨b + 1, 0, none⟩), .pointer (some ⟨b, 0, none⟩), .pointer (some ⟨b + 2, 0, none⟩)]
set_option maxRecDepth 100000 in
theorem splitSeq_any (s : List UInt8) (w : World) : Calls Tryz.prog 152 #[strL s, strL [47], .int .i64 0] w fun e w' => e = .returned (iterV w.heap.size) ∧ split3 s w = w' := by
  unfold strL
  go_enter Tryz.func152, Tryz.ntmps152
  go_wp2
  go_ret
  exact ⟨rfl, rfl⟩
set_option maxRecDepth 100000 in
theorem sSplitSeq_any (s : List UInt8) (w : World) : Calls Tryz.prog 72 #[strL s, strL [47]] w fun e w' => e = .returned (iterV w.heap.size) ∧ split3 s w = w' := by
  have H := Go.Lib.hid (splitSeq_any s w)
  unfold strL at *
  go_enter Tryz.func72, Tryz.ntmps72
  go_wp2_with (go_at_call 152; refine H.out.mono ?_; rintro e w1 ⟨rfl, rfl⟩)
  go_ret
  exact ⟨rfl, rfl⟩
theorem split3_boxes (s : List UInt8) (w : World) : boxS (split3 s w) w.heap.size s ∧ boxS (split3 s w) (w.heap.size + 1) [47] ∧ (split3 s w).heap[w.heap.size + 2]? = some (.cells #[.int .i64 0] 3 (0, 0)) ∧ (split3 s w).heap.size = w.heap.size + 3 ∧ Below w.heap.size w (split3 s w) := by
  have s1 : (w.alloc (.cells #[strL s] 9)).heap.size = w.heap.size + 1 := by simp
  have s2 : ((w.alloc (.cells #[strL s] 9)).alloc (.cells #[strL [47]] 9)).heap.size = w.heap.size + 2 := by simp
  unfold split3 boxS
  refine ⟨?_, ?_, ?_, by simp, (((Below.refl _ w).alloc (Nat.le_refl _) _).alloc (by simp) _).alloc (by simp; omega) _⟩
  · rw [alloc_old _ (by omega), alloc_old _ (by omega), alloc_new]
  · rw [alloc_old _ (by omega), ← s1, alloc_new]
  · rw [← s2, alloc_new]

/-! ### what is parsed -/
def isHere (p : List UInt8) : Bool := p == [] || p == [46]
def lastHere (ps : List (List UInt8)) : Bool := match ps.getLast? with | none => false | some p => isHere p
def keptParts (ps : List (List UInt8)) : List (List UInt8) := ps.filter fun p => !isHere p
def badPart (nE : List UInt8 → Int) (p : List UInt8) : Bool := !isHere p && (decide (nE p ≠ 0) && p != [46, 46])
theorem lastHere_snoc (ps : List (List UInt8)) (p : List UInt8) : lastHere (ps ++ [p]) = isHere p := by simp [lastHere]
theorem keptParts_snoc (ps : List (List UInt8)) (p : List UInt8) : keptParts (ps ++ [p]) = if isHere p then keptParts ps else keptParts ps ++ [p] := by
  unfold keptParts; cases h : isHere p <;> simp [h]
end Go.Proofs.Gab
