/-
  A tree: what is refused: each method, where the first look fails.
-/
import Derived.Test.YtbkgmhakiboioaaGreatDoorGt6
namespace Go.Proofs.Gab
open Go.RowKit Go.Maps Go.ChangeMaps Go.Deep

/-- what a look for a name comes to that fails -/
def NoFind (E : Int) (tv : Value) (n : Int) (s : ByteArray) (w : World) : Prop := Calls Tryz.prog 30 #[tv, .int .i64 n, .string s] w fun e w' => e = .returned (.tuple #[.int .i64 0, .int .i64 E]) ∧ Below w.heap.size w w'
section
variable {tv : Value} {n E : Int} {s : ByteArray} {w : World}
set_option maxRecDepth 100000 in
theorem tNames_of (h : NoNode 77 E tv n w) (hE : (E != 0) = true) : Calls Tryz.prog 21 #[tv, .int .i64 n] w fun e w' => e = .returned (.tuple #[.slice none 0 0, .int .i64 E]) ∧ w = w' := by
  unfold NoNode at *
  have H := Go.Lib.hid h
  clear h
  go_enter Tryz.func21, Tryz.ntmps21
  go_wp2_with (go_at_call 77; refine H.out.mono ?_; rintro e w1 ⟨rfl, rfl⟩)
  go_ret2
  exact ⟨rfl, rfl⟩
set_option maxRecDepth 100000 in
theorem tUnlink_of (h : NoFind E tv n s w) (hE : (E != 0) = true) : Calls Tryz.prog 27 #[tv, .int .i64 n, .string s] w fun e w' => e = .returned (.tuple #[.slice none 0 0, .int .i64 E]) ∧ Below w.heap.size w w' := by
  unfold NoFind at *
  have H := Go.Lib.hid h
  clear h
  go_enter Tryz.func27, Tryz.ntmps27
  go_wp2_with (go_at_call 30; refine H.out.mono ?_; rintro e w1 ⟨rfl, hb⟩; have HB := Go.Lib.hid hb; clear hb)
  go_ret2
  exact ⟨rfl, HB.out⟩
set_option maxRecDepth 100000 in
theorem tRmdir_of (h : NoFind E tv n s w) (hE : (E != 0) = true) : Calls Tryz.prog 34 #[tv, .int .i64 n, .string s] w fun e w' => e = .returned (.int .i64 E) ∧ Below w.heap.size w w' := by
  unfold NoFind at *
  have H := Go.Lib.hid h
  clear h
  go_enter Tryz.func34, Tryz.ntmps34
  go_wp2_with (go_at_call 30; refine H.out.mono ?_; rintro e w1 ⟨rfl, hb⟩; have HB := Go.Lib.hid hb; clear hb)
  go_ret
  exact ⟨rfl, HB.out⟩
set_option maxRecDepth 100000 in
theorem tmovable_of (m : Int) (s' : ByteArray) (h : NoNode 85 E tv n w) (hE : (E != 0) = true) : Calls Tryz.prog 104 #[tv, .int .i64 n, .string s, .int .i64 m, .string s'] w fun e w' => e = .returned (.tuple #[.int .i64 0, .int .i64 E]) ∧ w = w' := by
  unfold NoNode at *
  have H := Go.Lib.hid h
  clear h
  go_enter Tryz.func104, Tryz.ntmps104
  go_wp2_with (go_at_call 85; refine H.out.mono ?_; rintro e w1 ⟨rfl, rfl⟩)
  go_ret2
  exact ⟨rfl, rfl⟩
set_option maxRecDepth 100000 in
theorem tRename_of (m : Int) (s' : ByteArray) (h : NoNode 85 E tv n w) (hE : (E != 0) = true) : Calls Tryz.prog 31 #[tv, .int .i64 n, .string s, .int .i64 m, .string s'] w fun e w' => e = .returned (.tuple #[.slice none 0 0, .int .i64 E]) ∧ w = w' := by
  have H := Go.Lib.hid (tmovable_of (s := s) m s' h hE)
  clear h
  go_enter Tryz.func31, Tryz.ntmps31
  go_wp2_with (go_at_call 104; refine H.out.mono ?_; rintro e w1 ⟨rfl, rfl⟩)
  go_ret2
  exact ⟨rfl, rfl⟩
set_option maxRecDepth 100000 in
theorem tUnpin_of (h : NoNode 75 E tv n w) (hE : (E != 0) = true) : Calls Tryz.prog 32 #[tv, .int .i64 n] w fun e w' => e = .returned (.tuple #[.slice none 0 0, .int .i64 E]) ∧ w = w' := by
  unfold NoNode at *
  have H := Go.Lib.hid h
  clear h
  go_enter Tryz.func32, Tryz.ntmps32
  go_wp2_with (go_at_call 75; refine H.out.mono ?_; rintro e w1 ⟨rfl, rfl⟩)
  go_ret2
  exact ⟨rfl, rfl⟩
set_option maxRecDepth 100000 in
theorem tLink_of (m : Int) (h : NoNode 75 E tv n w) (hE : (E != 0) = true) : Calls Tryz.prog 33 #[tv, .int .i64 n, .int .i64 m, .string s] w fun e w' => e = .returned (.int .i64 E) ∧ w = w' := by
  unfold NoNode at *
  have H := Go.Lib.hid h
  clear h
  go_enter Tryz.func33, Tryz.ntmps33
  go_wp2_with (go_at_call 75; refine H.out.mono ?_; rintro e w1 ⟨rfl, rfl⟩)
  go_ret
  exact ⟨rfl, rfl⟩
set_option maxRecDepth 100000 in
theorem tSet_of (size : Int) (bv : Value) (h : NoNode 75 E tv n w) (hE : (E != 0) = true) : Calls Tryz.prog 35 #[tv, .int .i64 n, .int .i64 size, bv] w fun e w' => e = .returned (.int .i64 E) ∧ w = w' := by
  unfold NoNode at *
  have H := Go.Lib.hid h
  clear h
  go_enter Tryz.func35, Tryz.ntmps35
  go_wp2_with (go_at_call 75; refine H.out.mono ?_; rintro e w1 ⟨rfl, rfl⟩)
  go_ret
  exact ⟨rfl, rfl⟩
set_option maxRecDepth 100000 in
theorem tPin_of (h : NoNode 75 E tv n w) (hE : (E == 0) = false) : Calls Tryz.prog 36 #[tv, .int .i64 n] w fun e w' => e = .returned (.int .i64 E) ∧ w = w' := by
  unfold NoNode at *
  have H := Go.Lib.hid h
  clear h
  go_enter Tryz.func36, Tryz.ntmps36
  go_wp2_with (go_at_call 75; refine H.out.mono ?_; rintro e w1 ⟨rfl, rfl⟩)
  go_ret
  exact ⟨rfl, rfl⟩
set_option maxRecDepth 100000 in
theorem tWalk_of (last : Bool) (way : Array Value) (hw : way.size = 3 + 0) (h : ∀ w', Below w.heap.size w w' → NoNode 75 E tv n w') (hE : (E != 0) = true) (ab : Bool) (pv : Value) (db : Bool) :
    Calls Tryz.prog 17 #[tv, .int .i64 n, .agg #[.bool ab, .slice none 0 0, .bool db], .bool last] w fun e w' => e = .returned (.tuple #[.int .i64 0, .int .i64 E]) ∧ Below w.heap.size w w' := by
  unfold NoNode at *
  have H := Go.Lib.hid h
  clear h
  go_enter Tryz.func17, Tryz.ntmps17
  go_wp2_with (go_at_call 75; refine (H.out _ ((Below.refl _ _).alloc (Nat.le_refl _) _)).mono ?_; rintro e w1 ⟨rfl, rfl⟩)
  go_ret2
  exact ⟨rfl, (Below.refl _ _).alloc (Nat.le_refl _) _⟩
end
set_option maxRecDepth 100000 in
theorem tCopy_nil (w : World) : Calls Tryz.prog 24 #[.pointer none] w fun e w' => e = .returned (.pointer none) ∧ w = w' := by
  go_enter Tryz.func24, Tryz.ntmps24
  go_wp2
  go_ret
  exact ⟨rfl, rfl⟩
set_option maxRecDepth 100000 in
theorem tAll_nil (w : World) : Calls Tryz.prog 19 #[.pointer none] w fun e w' => e = .returned (.slice none 0 0) ∧ w = w' := by
  go_enter Tryz.func19, Tryz.ntmps19
  go_wp2
  go_ret
  exact ⟨rfl, rfl⟩
set_option maxRecDepth 100000 in
theorem tDeeds_nil (w : World) : Calls Tryz.prog 25 #[.pointer none] w fun e w' => e = .returned (.slice none 0 0) ∧ w = w' := by
  go_enter Tryz.func25, Tryz.ntmps25
  go_wp2
  go_ret
  exact ⟨rfl, rfl⟩
end Go.Proofs.Gab
