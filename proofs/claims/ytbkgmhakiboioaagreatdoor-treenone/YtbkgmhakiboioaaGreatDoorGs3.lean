/-
  slices.SortedFunc(maps.Keys(names), order).
-/
import Derived.Test.YtbkgmhakiboioaaGreatDoorGs2
import Derived.Lib.Hide
namespace Go.Proofs.Gab
open Go.RowKit Go.Maps Go.ChangeMaps Go.Shelf Go.Lib Go.Sort

/-- a slice of spots that the call owns -/
def SpotRow (w : World) (B : Nat) (v : Value) (xs : List (Int × ByteArray)) : Prop :=
  (v = .slice none 0 0 ∧ xs = []) ∨ ∃ g cap cur, v = .slice (some ⟨g, 0, none⟩) xs.length cap ∧ B ≤ g ∧ w.heap[g]? = some (.cells cur 201 (0, 0)) ∧ xs.length ≤ cap ∧ cap ≤ maxLen ∧ cur.size = cap * 2 ∧ cur.toList.take (xs.length * 2) = flatS xs

theorem keysS_any (b : Option Nat) (w : World) : Calls Tryz.prog 94 #[.map b] w fun e w' => e = .returned (.func (.func 167) #[] #[.pointer (some ⟨w.heap.size, 0, none⟩)]) ∧ w.alloc (.cells #[.map b] 158) = w' := by
  go_enter Tryz.func94, Tryz.ntmps94
  go_wp2
  go_ret
  exact ⟨rfl, rfl⟩
theorem collectS_any (Bm b : Nat) (xs : List (Int × ByteArray)) (w : World) (hBm : Bm < w.heap.size)
    (hm : w.cell? ⟨Bm, 0, none⟩ = some (.map (some b))) (hM : MapOf Tryz.prog 201 w b (xs.map encS)) (hN : xs.length ≤ 4000000000000) :
    Calls Tryz.prog 165 #[.func (.func 167) #[] #[.pointer (some ⟨Bm, 0, none⟩)]] w fun e w' => ∃ v ys, e = .returned v ∧ ys.Perm xs ∧ SpotRow w' w.heap.size v ys ∧ Below w.heap.size w w' :=
  (callsIn_wide.1 (collectS_in Fence.wide 4 trivial trivial trivial rfl (by omega) Bm b xs w hBm hm hM hN)).mono fun e w' h => by
    obtain ⟨v, ys, he, hp, hr, hv, hb⟩ := h
    refine ⟨v, ys, he, hp, ?_, hb⟩
    rcases hr.2 with ⟨h1, h2⟩ | h
    · exact .inl ⟨h1, List.eq_nil_of_length_eq_zero h2⟩
    · obtain ⟨g, cap, cur, h1, h2, h3, h4, h5, h6, h7⟩ := h
      exact .inr ⟨g, cap, cur, h1, h2, h3, h4, h5, h6, h7⟩
theorem sortSpots_row {w : World} {B : Nat} {v : Value} {ys xs : List (Int × ByteArray)} (h : SpotRow w B v ys) (hN : xs.length ≤ 4000000000000) (hp : ys.Perm xs) (hs : SSort xs) (hB : B ≤ w.heap.size) :
    Calls Tryz.prog 166 #[v, .func (.func 89) #[] #[]] w fun e w' => e = .returned (.tuple #[]) ∧ SpotRow w' B v xs ∧ Below B w w' := by
  have hlen := hp.length_eq
  rcases h with ⟨rfl, rfl⟩ | ⟨g, cap, cur, rfl, hg, hb, h1, h2, h3, h4⟩
  · have hx : xs = [] := List.eq_nil_of_length_eq_zero (by simpa using hlen.symm)
    subst hx
    refine (AnyF.slices_SortFunc_none Tryz.sortSpot none 0 (.func (.func 89) #[] #[]) w).mono ?_
    rintro e w' ⟨rfl, rfl⟩
    exact ⟨rfl, .inl ⟨rfl, rfl⟩, Below.refl _ _⟩
  · refine (sortSpots g cap cur ys xs w hb h4 h1 h3 (by omega) hp hs).mono ?_
    rintro e w' ⟨rfl, hgr, cur', h5, h6, h7⟩
    refine ⟨rfl, .inr ⟨g, cap, cur', by rw [hlen], hg, h5, by omega, h2, h6, h7⟩, (Below.refl B w).grown hgr hB (fun k e => by cases e; exact hg)⟩
theorem sortedFuncS_any (Bm b : Nat) (xs : List (Int × ByteArray)) (w : World) (hBm : Bm < w.heap.size)
    (hm : w.cell? ⟨Bm, 0, none⟩ = some (.map (some b))) (hM : MapOf Tryz.prog 201 w b (xs.map encS)) (hN : xs.length ≤ 4000000000000) (hs : SSort xs) :
    Calls Tryz.prog 93 #[.func (.func 167) #[] #[.pointer (some ⟨Bm, 0, none⟩)], .func (.func 89) #[] #[]] w fun e w' => ∃ v, e = .returned v ∧ SpotRow w' w.heap.size v xs ∧ Below w.heap.size w w' := by
  have hC := Go.Lib.hid (collectS_any Bm b xs w hBm hm hM hN)
  have hS := Go.Lib.hid (p := ∀ (w1 : World) (v : Value) (ys : List (Int × ByteArray)), SpotRow w1 w.heap.size v ys → ys.Perm xs → w.heap.size ≤ w1.heap.size → Calls Tryz.prog 166 #[v, .func (.func 89) #[] #[]] w1 fun e w' => e = .returned (.tuple #[]) ∧ SpotRow w' w.heap.size v xs ∧ Below w.heap.size w1 w') (fun w1 v ys h hp hB => sortSpots_row h hN hp hs hB)
  clear hm hM hs hN
  go_enter Tryz.func93, Tryz.ntmps93
  go_wp2_with (first
    | (go_at_call 165; refine hC.out.mono ?_; rintro e w1 ⟨v, ys, rfl, hp, hr, hb⟩; have hS1 := Go.Lib.hid (hS.out w1 v ys hr hp hb.size); have hbb := Go.Lib.hid hb; clear hb hp hr)
    | (go_at_call 166; refine hS1.out.mono ?_; rintro e w2 ⟨rfl, hr2, hb2⟩))
  go_ret
  exact ⟨_, rfl, hr2, hbb.out.trans hb2⟩
end Go.Proofs.Gab
