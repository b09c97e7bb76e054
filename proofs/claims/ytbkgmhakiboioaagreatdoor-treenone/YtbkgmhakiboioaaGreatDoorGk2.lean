/-
  A nil tree's answers, and an empty tree's.
-/
import Derived.Test.YtbkgmhakiboioaaGreatDoorGk1
namespace Go.Proofs.Gab
open Go.RowKit Go.Maps Go.ChangeMaps Go.Shelf Go.Lib

/-- a call whose answer is known in every world -/
def Known (f : Nat) (args : Array Value) (v : Value) : Prop := ∀ w, Calls Tryz.prog f args w fun e w' => e = .returned v ∧ Below w.heap.size w w'
def nilP : Value := .pointer none
theorem known_same {f : Nat} {args : Array Value} {v : Value} (h : ∀ w, Calls Tryz.prog f args w fun e w' => e = .returned v ∧ w = w') : Known f args v :=
  fun w => (h w).mono fun e w' ⟨h1, h2⟩ => ⟨h1, h2 ▸ Below.refl _ _⟩
theorem kInode (n : Int) : Known 20 #[.pointer none, .int .i64 n] (.tuple #[.agg #[.int .u8 0, .int .i64 0, .int .i64 0, .slice none 0 0, .string ⟨#[]⟩], .int .i64 1]) := fun w => tInode_of (fun w' _ => tget_nil n w') (by decide)
theorem kNames (n : Int) : Known 21 #[.pointer none, .int .i64 n] (.tuple #[.slice none 0 0, .int .i64 1]) := known_same fun w => tNames_of (tdir_nil n w) (by decide)
theorem kFind (n : Int) (s : ByteArray) : Known 30 #[.pointer none, .int .i64 n, .string s] (.tuple #[.int .i64 0, .int .i64 1]) := known_same fun w => tFind_of s (tdir_nil n w) (by decide)
theorem kWalk (n : Int) : Known 17 #[.pointer none, .int .i64 n, .agg #[.bool false, .slice none 0 0, .bool false], .bool true] (.tuple #[.int .i64 0, .int .i64 1]) := fun w => tWalk_of true #[undef, undef, undef] rfl (fun w' _ => tget_nil n w') (by decide) false undef false
theorem kMake (n : Int) (s : ByteArray) (xv : Value) : Known 28 #[.pointer none, .int .i64 n, .string s, xv] (.tuple #[.int .i64 0, .int .i64 1]) := fun w => tMake_no xv (fun w' _ => tvacant_open s (topen_nil n w') (by decide)) (by decide)
theorem kUp (n : Int) : Known 22 #[.pointer none, .int .i64 n] (.tuple #[.int .i64 0, .int .i64 1]) := known_same fun w => tUp_of (topen_nil n w) (by decide)
theorem kUnlink (n : Int) (s : ByteArray) : Known 27 #[.pointer none, .int .i64 n, .string s] (.tuple #[.slice none 0 0, .int .i64 1]) := fun w => tUnlink_of ((tFind_of s (tdir_nil n w) (by decide)).mono fun e w'' ⟨h1, h2⟩ => ⟨h1, h2 ▸ Below.refl _ _⟩) (by decide)
theorem kRmdir (n : Int) (s : ByteArray) : Known 34 #[.pointer none, .int .i64 n, .string s] (.int .i64 1) := fun w => tRmdir_of ((tFind_of s (tdir_nil n w) (by decide)).mono fun e w'' ⟨h1, h2⟩ => ⟨h1, h2 ▸ Below.refl _ _⟩) (by decide)
theorem kRename (n : Int) (s : ByteArray) : Known 31 #[.pointer none, .int .i64 n, .string s, .int .i64 n, .string s] (.tuple #[.slice none 0 0, .int .i64 1]) := known_same fun w => tRename_of n s (topen_nil n w) (by decide)
theorem kUnpin (n : Int) : Known 32 #[.pointer none, .int .i64 n] (.tuple #[.slice none 0 0, .int .i64 1]) := known_same fun w => tUnpin_of (tget_nil n w) (by decide)
theorem kLink (n : Int) (s : ByteArray) : Known 33 #[.pointer none, .int .i64 n, .int .i64 n, .string s] (.int .i64 1) := known_same fun w => tLink_of n (tget_nil n w) (by decide)
theorem kSet (n : Int) : Known 35 #[.pointer none, .int .i64 n, .int .i64 0, .slice none 0 0] (.int .i64 1) := known_same fun w => tSet_of 0 _ (tget_nil n w) (by decide)
theorem kPin (n : Int) : Known 36 #[.pointer none, .int .i64 n] (.int .i64 1) := known_same fun w => tPin_of (tget_nil n w) (by decide)
theorem kCopy : Known 24 #[.pointer none] (.pointer none) := known_same tCopy_nil
theorem kLen : Known 37 #[.pointer none] (.int .i64 0) := known_same tLen_nil
theorem kAll : Known 19 #[.pointer none] (.slice none 0 0) := known_same tAll_nil
theorem kDeeds : Known 25 #[.pointer none] (.slice none 0 0) := known_same tDeeds_nil

/-! ### a new tree, at a number that it does not have -/
section
variable {w : World} {own : Nat → Option Tag} {β : Int → Nat} {t bn bs be : Nat}
theorem newTr_none {n : Int} (h : n ≠ 1) : newTr.get? n = none := by
  have h' : ¬ (1 : Int) = n := fun e => h e.symm
  simp [Tr.get?, newTr, iget?, h']
theorem eInode (h : TreeLay w own β t bn bs be 0 newTr) {n : Int} (hn : (Lit.int .i64 n).wf = true) (h1 : n ≠ 1) : Calls Tryz.prog 20 #[.pointer (some ⟨t, 0, none⟩), .int .i64 n] w fun e w' => e = .returned (.tuple #[.agg #[.int .u8 0, .int .i64 0, .int .i64 0, .slice none 0 0, .string ⟨#[]⟩], .int .i64 13]) ∧ Below w.heap.size w w' := tInode_of (fun w' hb => tget_none (h.below hb) hn (newTr_none h1)) (by decide)
theorem eNames (h : TreeLay w own β t bn bs be 0 newTr) {n : Int} (hn : (Lit.int .i64 n).wf = true) (h1 : n ≠ 1) : Calls Tryz.prog 21 #[.pointer (some ⟨t, 0, none⟩), .int .i64 n] w fun e w' => e = .returned (.tuple #[.slice none 0 0, .int .i64 13]) ∧ w = w' := tNames_of (tdir_none h hn (newTr_none h1)) (by decide)
theorem eMake (h : TreeLay w own β t bn bs be 0 newTr) {n : Int} (hn : (Lit.int .i64 n).wf = true) (h1 : n ≠ 1) (s : ByteArray) (xv : Value) : Calls Tryz.prog 28 #[.pointer (some ⟨t, 0, none⟩), .int .i64 n, .string s, xv] w fun e w' => e = .returned (.tuple #[.int .i64 0, .int .i64 13]) ∧ Below w.heap.size w w' :=
  tMake_no xv (fun w' hb => tvacant_open s (topen_of (tdir_none (h.below hb) hn (newTr_none h1)) (by decide)) (by decide)) (by decide)
theorem eSet (h : TreeLay w own β t bn bs be 0 newTr) {n : Int} (hn : (Lit.int .i64 n).wf = true) (h1 : n ≠ 1) : Calls Tryz.prog 35 #[.pointer (some ⟨t, 0, none⟩), .int .i64 n, .int .i64 0, .slice none 0 0] w fun e w' => e = .returned (.int .i64 13) ∧ w = w' := tSet_of 0 _ (tget_none h hn (newTr_none h1)) (by decide)
theorem newTr_dirs : newTr.Dirs := by
  intro p hp
  have : p = (1, rootNd) := by simpa [newTr] using hp
  subst this
  decide
theorem eDeeds (h : TreeLay w own β t bn bs be 0 newTr) (B0 : Nat) (hB0 : B0 ≤ w.heap.size) (ho : ∀ k, own k ≠ none → B0 ≤ k) :
    Calls Tryz.prog 25 #[.pointer (some ⟨t, 0, none⟩)] w fun e w' => ∃ q c, e = .returned (.slice q 0 c) ∧ Below B0 w w' ∧ TreeLay w' own β t bn bs be 0 newTr := by
  refine (tDeeds_any h (by omega) newTr_dirs).mono ?_
  rintro e w' ⟨v, rfl, hr, ht, hf⟩
  have hbl : Below B0 w w' := hf.below hB0 (fun k hk => by
    rintro (rfl | rfl)
    · have := ho _ (by rw [h.os]; simp); omega
    · have := ho _ (by rw [h.oe]; simp); omega)
  have hlen : newTr.deeds.length = 0 := rfl
  unfold DeedRow at hr
  rw [hlen] at hr
  rcases hr.2 with ⟨rfl, _⟩ | ⟨g, cap, cur, rfl, _⟩
  · exact ⟨_, _, rfl, hbl, ht⟩
  · exact ⟨_, _, rfl, hbl, ht⟩
theorem eLen (h : TreeLay w own β t bn bs be 0 newTr) : Calls Tryz.prog 37 #[.pointer (some ⟨t, 0, none⟩)] w fun e w' => e = .returned (.int .i64 1) ∧ w = w' := tLen_any h
end
end Go.Proofs.Gab
