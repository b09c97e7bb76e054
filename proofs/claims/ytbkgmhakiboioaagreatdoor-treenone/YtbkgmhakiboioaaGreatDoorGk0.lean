/-
  wakes: the plain facts.
-/
import Derived.Test.YtbkgmhakiboioaaGreatDoorGw2
import Derived.Test.YtbkgmhakiboioaaGreatDoorGd2
import Derived.Test.YtbkgmhakiboioaaGreatDoorGt6
namespace Go.Proofs.Gab
open Go.RowKit Go.Maps Go.ChangeMaps Go.Shelf Go.Lib

def wA : ByteArray := ⟨#[97]⟩
def tA : Tr := newTr.mkdir 1 wA
theorem tA_len : tA.nodes.length = 2 := by rfl
theorem tA_deeds : tA.deeds.length = 3 := by rfl
theorem tA_free : newTr.free = 2 := by rfl
theorem tA_vac : newTr.vacE 1 wA 0 = 0 := by rfl
theorem tA_part1 : tA.part 1 [97] = (2, 0) := by rfl
theorem tA_part2 : tA.part 2 [46, 46] = (1, 0) := by rfl
theorem tA_root : ∃ x, tA.get? 1 = some x ∧ x.ino.kind = 2 ∧ x.ino.links = 3 ∧ x.ino.blocks = [] ∧ x.ino.size = 0 := ⟨_, rfl, rfl, rfl, rfl, rfl⟩
theorem tA_two : ∃ x, tA.get? 2 = some x ∧ x.ino.kind = 2 := ⟨_, rfl, rfl⟩
theorem wf2 : (Lit.int .i64 2).wf = true := by decide
theorem tA_steps : Steps tA 1 [[97], [46, 46], [97]] 2 := by
  obtain ⟨x, h1, h2, _⟩ := tA_root
  obtain ⟨y, h3, h4⟩ := tA_two
  exact .cons tA_part1 wf2 h3 (by rw [h4]; decide) (by simp) (.cons tA_part2 wf1 h1 (by rw [h2]; decide) (by simp) (.cons tA_part1 wf2 h3 (by rw [h4]; decide) (by simp) (.nil 2)))
def wPath : List UInt8 := [47, 97, 47, 46, 46, 47, 97]
def wE (p : List UInt8) : Int := nameE p (Lib.containsAny p [47, 0])
theorem wPath_cuts : cuts wPath = [[], [97], [46, 46], [97]] := by decide
theorem wPath_find : (cuts wPath).find? (badPart wE) = none := by rw [wPath_cuts]; decide
theorem wPath_last : lastHere (cuts wPath) = false := by rw [wPath_cuts]; decide
theorem wPath_kept : keptParts (cuts wPath) = [[97], [46, 46], [97]] := by rw [wPath_cuts]; decide
theorem wPath_abs : Lib.hasPrefix wPath [47] = true := by decide
theorem wName : NameIs wA 0 := by
  have h := name_ascii [97] (by decide) (by decide)
  have e : nameE [97] (Lib.containsAny [97] [47, 0]) = 0 := by decide
  rw [e] at h
  exact h
theorem wParse (w : World) : Calls Tryz.prog 15 #[strL wPath] w fun e w' => ∃ v, e = .returned (.tuple #[wayV true v false, .int .i64 0]) ∧ StrRow w' w.heap.size v [[97], [46, 46], [97]] ∧ Below w.heap.size w w' := by
  refine (callsIn_wide.1 (parse_in wE (s := wPath) (fun p hp _ => ?_) (by decide) (by decide) w)).mono ?_
  · rw [wPath_cuts] at hp
    refine name_ascii p ?_ ?_
    · simp at hp; rcases hp with rfl | rfl | rfl | rfl <;> decide
    · simp at hp; rcases hp with rfl | rfl | rfl | rfl <;> decide
  · rintro e w' ⟨hb, hm⟩
    rw [wPath_find] at hm
    obtain ⟨v, h1, h2⟩ := hm
    rw [wPath_last, wPath_abs] at h1
    rw [wPath_kept] at h2
    exact ⟨v, h1, h2, hb⟩
theorem put_empty (w : World) (O : Nat → Prop) (d B : Nat) (hD : DirAt w O d B []) (hB : B < 1073741824) (v : Int) (hv : 0 ≤ v ∧ v ≤ 65535) : PutSpec w O d B [] wA v := by
  obtain ⟨arr, nb, cap, cs, bk, h⟩ := hD
  refine (dPut_new h hB (s := wA) (by decide) hv wName (by rfl) (by have := h.pos; simp; omega)).mono ?_
  rintro e w' ⟨h1, h2, h3⟩
  refine ⟨h1, h2, h3.wider (fun k hk => .inl hk) (fun k hk => ?_)⟩
  obtain ⟨_, _, _, _, _, h4⟩ := h3
  rcases hk with hk | hk
  · exact h4.olt k hk
  · exact hk.2
end Go.Proofs.Gab
