/-
  (*walker).part.
-/
import Derived.Test.YtbkgmhakiboioaaGreatDoorGn0
import Derived.Test.YtbkgmhakiboioaaGreatDoorGt7
namespace Go.Proofs.Gab
open Go.RowKit Go.Maps Go.ChangeMaps Go.Shelf Go.Lib

def walkC (t : Nat) (at_ : Int) (lv : Value) (must : Bool) (links : Int) : Array Value := #[.pointer (some ⟨t, 0, none⟩), .int .i64 at_, lv, .bool must, .int .i64 links]
/-- strings in memory from an address on -/
def StrsIn (w : World) (g off : Nat) (ps : List (List UInt8)) : Prop := ∃ cur, w.heap[g]? = some (.cells cur 9 (0, 0)) ∧ ∀ (i : Nat) (h : i < ps.length), cur[off + i]? = some (strL ps[i])
def Tr.part (T : Tr) (at_ : Int) (p : List UInt8) : Int × Int := if p = [46, 46] then (T.up at_, T.openE at_) else (T.find at_ ⟨p.toArray⟩, T.findE at_ ⟨p.toArray⟩)

section
variable {w : World} {own : Nat → Option Tag} {β : Int → Nat} {t bn bs be B : Nat} {T : Tr}
def nextLeft (g off n c : Nat) : Value := .slice (some ⟨g, if c = 1 then off else off + 1, none⟩) n (c - 1)
set_option maxRecDepth 100000 in
set_option maxHeartbeats 1000000 in
theorem wpart_any (h : TreeLay w own β t bn bs be B T) (hB : B ≤ 1073741824) (hD : T.Dirs) {bw g off c : Nat} {at_ : Int} {p : List UInt8} {ps : List (List UInt8)} {must : Bool} {links : Int} (hat : (Lit.int .i64 at_).wf = true)
    (hw : w.heap[bw]? = some (.cells (walkC t at_ (.slice (some ⟨g, off, none⟩) (ps.length + 1) c) must links) 188 (0, 0))) (hown : own bw = none) (hs : StrsIn w g off (p :: ps)) (hp : p.length ≤ 4294967280) (hc : ps.length + 1 ≤ c) (hc2 : c ≤ maxLen) :
    Calls Tryz.prog 154 #[.pointer (some ⟨bw, 0, none⟩)] w fun e w' => e = .returned (.tuple #[.int .i64 (T.part at_ p).1, .int .i64 (T.part at_ p).2]) ∧ ∃ k, w' = (w.setCell ⟨bw, 2, none⟩ (nextLeft g off ps.length c)).drewN k := by
  unfold walkC at hw
  have key : ∀ (o' : Nat) , (c = 1 → o' = off) → (c ≠ 1 → o' = off + 1) → Calls Tryz.prog 154 #[.pointer (some ⟨bw, 0, none⟩)] w fun e w' => e = .returned (.tuple #[.int .i64 (T.part at_ p).1, .int .i64 (T.part at_ p).2]) ∧ ∃ k, w' = (w.setCell ⟨bw, 2, none⟩ (.slice (some ⟨g, o', none⟩) ps.length (c - 1))).drewN k := by
    intro o' ho1 ho2
    have hf := Fr.setCell w ⟨bw, 2, none⟩ (.slice (some ⟨g, o', none⟩) ps.length (c - 1)) (F := fun k => k = bw) rfl
    have h' := h.frame hf (fun k hk e => hk (e ▸ hown))
    obtain ⟨cur, hcur, hcs⟩ := hs
    have e0 : w.cell? ⟨g, off, none⟩ = some (.string ⟨p.toArray⟩) := cell_of hcur off (hcs 0 (by simp))
    have c0 := cell_of hw 0 rfl
    have c1 := cell_of hw 1 rfl
    have c2 := cell_of hw 2 rfl
    have f2 := free_of hw 2
    have hw' := set_of hw 2 (.slice (some ⟨g, o', none⟩) ps.length (c - 1))
    have d0 := cell_of hw' 0 rfl
    have d1 := cell_of hw' 1 rfl
    have HU := Go.Lib.hid (p := ∀ n, _) (fun n => (tUp_any (h'.drewN n) hat).mono (fun e w' h => (⟨h.1, 0, h.2.symm⟩ : _ ∧ ∃ m, w' = ((w.setCell ⟨bw, 2, none⟩ (.slice (some ⟨g, o', none⟩) ps.length (c - 1))).drewN n).drewN m)))
    have HF := Go.Lib.hid (p := ∀ n, _) (fun n => tFind_any (h'.drewN n) hB hD (s := ⟨p.toArray⟩) hat (by simp [maxLen, ByteArray.size]; omega))
    have hpa : T.part at_ p = if p = [46, 46] then (T.up at_, T.openE at_) else (T.find at_ ⟨p.toArray⟩, T.findE at_ ⟨p.toArray⟩) := rfl
    rw [hpa]
    clear h h' hf hcs hcur hw hw' hD hpa
    by_cases hpp : p = [46, 46]
    · subst hpp
      simp only [if_true]
      by_cases hc1 : c = 1
      · obtain rfl : o' = off := ho1 hc1
        subst hc1
        obtain rfl : ps = [] := List.eq_nil_of_length_eq_zero (by omega)
        simp only [List.length_nil, Nat.sub_self, Nat.zero_add] at *
        go_enter Tryz.func154, Tryz.ntmps154
        go_wp2_with (fail)
        go_quiet ((go_at_call 22; exact Calls.quiet_of (HU.out _)))
        go_wp2
        go_ret2
        exact ⟨rfl, _, rfl⟩
      · obtain rfl : o' = off + 1 := ho2 hc1
        go_enter Tryz.func154, Tryz.ntmps154
        go_wp2_with (fail)
        go_quiet ((go_at_call 22; exact Calls.quiet_of (HU.out _)))
        go_wp2
        go_ret2
        exact ⟨rfl, _, rfl⟩
    · have hx : (p == [46, 46]) = false := by simpa using hpp
      simp only [if_neg hpp]
      by_cases hc1 : c = 1
      · obtain rfl : o' = off := ho1 hc1
        subst hc1
        obtain rfl : ps = [] := List.eq_nil_of_length_eq_zero (by omega)
        simp only [List.length_nil, Nat.sub_self, Nat.zero_add] at *
        go_enter Tryz.func154, Tryz.ntmps154
        go_wp2_with (fail)
        go_quiet ((go_at_call 30; exact Calls.quiet_of (HF.out _)))
        go_wp2
        go_ret2
        exact ⟨rfl, _, rfl⟩
      · obtain rfl : o' = off + 1 := ho2 hc1
        go_enter Tryz.func154, Tryz.ntmps154
        go_wp2_with (fail)
        go_quiet ((go_at_call 30; exact Calls.quiet_of (HF.out _)))
        go_wp2
        go_ret2
        exact ⟨rfl, _, rfl⟩
  exact key _ (fun h => by simp [h]) (fun h => by simp [h])
end
end Go.Proofs.Gab
