/-
  dir.Name.
-/
import Derived.Test.YtbkgmhakiboioaaGreatDoorGa0
import Derived.Test.YtbkgmhakiboioaaGreatDoorGp3
import Derived.Shelf.Strings.IndexAnyAll
import Derived.Shelf.Strings.AsciiSet
namespace Go.Proofs.Gab
open Go.RowKit Go.Maps Go.ChangeMaps Go.Shelf Go.Lib

def nameE (l : List UInt8) (c : Bool) : Int := if l = [] ∨ 32 < l.length ∨ l = [46] ∨ l = [46, 46] ∨ c = true then 18 else 0
set_option maxRecDepth 100000 in
theorem name_of (l : List UInt8) (c : Bool) (hl : l.length ≤ 4294967280) (hc : ∀ w, Calls Tryz.prog 153 #[.string ⟨l.toArray⟩, .string ⟨#[47, 0]⟩] w fun e w' => e = .returned (.bool c) ∧ Below w.heap.size w w') : NameIs ⟨l.toArray⟩ (nameE l c) := by
  intro w
  have hC := Go.Lib.hid hc
  clear hc
  have hsz : (⟨l.toArray⟩ : ByteArray).size = l.length := by simp [ByteArray.size]
  have hb0 := Below.refl w.heap.size w
  have HB := Go.Lib.hid hb0
  clear hb0
  go_enter Tryz.func73, Tryz.ntmps73
  go_wp2_with (go_at_call 153; refine (hC.out _).mono ?_; rintro e w1 ⟨rfl, hb⟩; replace HB := Go.Lib.hid (HB.out.trans hb); clear hb; go_frame)
  · go_ret
    have h : l = [] := by assumption
    exact ⟨by rw [nameE, if_pos (.inl h)]; rfl, HB.out⟩
  · go_ret
    have h : l = [46] := by assumption
    exact ⟨by rw [nameE, if_pos (.inr (.inr (.inl h)))]; rfl, HB.out⟩
  · go_ret
    have h : l = [46, 46] := by assumption
    exact ⟨by rw [nameE, if_pos (.inr (.inr (.inr (.inl h))))]; rfl, HB.out⟩
  · go_ret
    have h1 : ¬ l = [] := by assumption
    have h2 : (l.length : Int) ≤ 32 := by assumption
    have h3 : ¬ l = [46] := by assumption
    have h4 : ¬ l = [46, 46] := by assumption
    have h5 : (((l.isEmpty = true ∨ 32 < (l.length : Int)) ∨ (l == [46]) = true) ∨ (l == [46, 46]) = true) ∨ c = true := by assumption
    have hc : c = true := by
      rcases h5 with (((h | h) | h) | h) | h
      · exact absurd (by simpa using h) h1
      · omega
      · exact absurd (by simpa using h) h3
      · exact absurd (by simpa using h) h4
      · exact h
    exact ⟨by rw [nameE, if_pos (.inr (.inr (.inr (.inr hc))))]; rfl, HB.out⟩
  · go_ret
    have h1 : ¬ l = [] := by assumption
    have h2 : (l.length : Int) ≤ 32 := by assumption
    have h3 : ¬ l = [46] := by assumption
    have h4 : ¬ l = [46, 46] := by assumption
    have h5 : (((l.isEmpty = false ∧ (l.length : Int) ≤ 32) ∧ (l == [46]) = false) ∧ (l == [46, 46]) = false) ∧ c = false := by assumption
    refine ⟨?_, HB.out⟩
    rw [nameE, if_neg]
    · rfl
    rintro (h | h | h | h | h)
    · exact h1 h
    · omega
    · exact h3 h
    · exact h4 h
    · rw [h5.2] at h; cases h
  · go_ret
    have h : 32 < (l.length : Int) := by assumption
    exact ⟨by rw [nameE, if_pos (.inr (.inl (by omega)))]; rfl, HB.out⟩

theorem containsAny_ascii (l : List UInt8) (hl : l.length < 4294967281) (ha : ∀ b ∈ l, b.toNat < 128) (w : World) :
    Calls Tryz.prog 153 #[.string ⟨l.toArray⟩, .string ⟨#[47, 0]⟩] w fun e w' => e = .returned (.bool (Lib.containsAny l [47, 0])) ∧ Below w.heap.size w w' :=
  Any.strings_ContainsAny_laid Tryz.laysContainsAnyG (by kernel_rfl) ⟨l.toArray⟩ ⟨#[47, 0]⟩ w (by simpa [ByteArray.size] using hl) (by decide) (fun j b h => ha b (List.mem_of_getElem? (by simpa using h))) (fun j b h => by
    match j, h with
    | 0, h => cases h; decide
    | 1, h => cases h; decide)
theorem name_ascii (l : List UInt8) (hl : l.length ≤ 4294967280) (ha : ∀ b ∈ l, b.toNat < 128) : NameIs ⟨l.toArray⟩ (nameE l (Lib.containsAny l [47, 0])) :=
  name_of l _ hl (fun w => containsAny_ascii l (by omega) ha w)
end Go.Proofs.Gab
