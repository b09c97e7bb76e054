/-
  slices.Sorted(maps.Keys(seen)).
-/
import Derived.Test.YtbkgmhakiboioaaGreatDoorGa0
import Derived.Test.YtbkgmhakiboioaaGreatDoorGs3
import Derived.Shelf.SortM.Plain
import Derived.Shelf.SortM.SortNone
import Derived.Ground.SlgmProg
import Derived.Lib.SlKeysI
namespace Go.Proofs.Gab
open Go.RowKit Go.Maps Go.ChangeMaps Go.Shelf Go.Lib Go.Sort


/-- a slice of whole numbers that the call owns -/
def IntRow (w : World) (B : Nat) (v : Value) (xs : List Int) : Prop :=
  (v = .slice none 0 0 ∧ xs = []) ∨ ∃ g cap cur, v = .slice (some ⟨g, 0, none⟩) xs.length cap ∧ B ≤ g ∧ w.heap[g]? = some (.cells cur 3 (0, 0)) ∧ xs.length ≤ cap ∧ cap ≤ maxLen ∧ cur.size = cap ∧ cur.toList.take xs.length = flatI xs
def Rising (xs : List Int) : Prop := xs.Pairwise fun a b => a < b

theorem keysI_any (b : Option Nat) (w : World) : Calls Tryz.prog 96 #[.map b] w fun e w' => e = .returned (.func (.func 168) #[] #[.pointer (some ⟨w.heap.size, 0, none⟩)]) ∧ w.alloc (.cells #[.map b] 159) = w' := by
  go_enter Tryz.func96, Tryz.ntmps96
  go_wp2
  go_ret
  exact ⟨rfl, rfl⟩
theorem collectI_any (Bm b : Nat) (xs : List Int) (w : World) (hBm : Bm < w.heap.size)
    (hm : w.cell? ⟨Bm, 0, none⟩ = some (.map (some b))) (hM : MapOf Tryz.prog 3 w b (xs.map encJ)) (hN : xs.length ≤ 4000000000000) :
    Calls Tryz.prog 156 #[.func (.func 168) #[] #[.pointer (some ⟨Bm, 0, none⟩)]] w fun e w' => ∃ v ys, e = .returned v ∧ ys.Perm xs ∧ IntRow w' w.heap.size v ys ∧ Below w.heap.size w w' :=
  (callsIn_wide.1 (collectI_in Fence.wide 4 trivial trivial trivial rfl (by omega) Bm b xs w hBm hm hM hN)).mono fun e w' h => by
    obtain ⟨v, ys, he, hp, hr, hv, hb⟩ := h
    refine ⟨v, ys, he, hp, ?_, hb⟩
    rcases hr.2 with ⟨h1, h2⟩ | h
    · exact .inl ⟨h1, List.eq_nil_of_length_eq_zero h2⟩
    · obtain ⟨g, cap, cur, h1, h2, h3, h4, h5, h6, h7⟩ := h
      exact .inr ⟨g, cap, cur, h1, h2, h3, h4, h5, by omega, by simpa using h7⟩
theorem sort_ints {ys xs : List Int} (hp : ys.Perm xs) (hs : Rising xs) : ys.mergeSort (fun x y => decide (x ≤ y)) = xs := by
  have tr : ∀ a b c : Int, decide (a ≤ b) = true → decide (b ≤ c) = true → decide (a ≤ c) = true := fun a b c h1 h2 => by simp only [decide_eq_true_eq] at *; omega
  have to : ∀ a b : Int, (decide (a ≤ b) || decide (b ≤ a)) = true := fun a b => by simp only [Bool.or_eq_true, decide_eq_true_eq]; omega
  refine List.Perm.eq_of_pairwise (le := fun a b => decide (a ≤ b) = true) (fun a b _ _ h1 h2 => ?_) (List.pairwise_mergeSort tr to ys) (hs.imp fun {a b} h => ?_) ((List.mergeSort_perm ys _).trans hp)
  · simp only [decide_eq_true_eq] at h1 h2; omega
  · simp only [decide_eq_true_eq]; omega
theorem sortInts_row {w : World} {B : Nat} {v : Value} {ys xs : List Int} (h : IntRow w B v ys) (hN : xs.length ≤ 4000000000000) (hp : ys.Perm xs) (hs : Rising xs) (hB : B ≤ w.heap.size) :
    Calls Tryz.prog 157 #[v] w fun e w' => e = .returned (.tuple #[]) ∧ IntRow w' B v xs ∧ Below B w w' := by
  have hlen := hp.length_eq
  rcases h with ⟨rfl, rfl⟩ | ⟨g, cap, cur, rfl, hg, hb, h1, h2, h3, h4⟩
  · have hx : xs = [] := List.eq_nil_of_length_eq_zero (by simpa using hlen.symm)
    subst hx
    refine (AnyM.slices_Sort_int_none Tryz.sortInt none 0 w).mono ?_
    rintro e w' ⟨rfl, rfl⟩
    exact ⟨rfl, .inl ⟨rfl, rfl⟩, Below.refl _ _⟩
  · have hH : Holds (Value.int .i64) w g 0 ys.toArray := holds_of_block_i hb h4
    refine (AnyM.slices_Sort_int Tryz.sortInt g 0 cap ys w hH (heap_lt hb) (by omega)).mono ?_
    rintro e w' ⟨rfl, n, os, rfl⟩
    rw [sort_ints hp hs]
    refine ⟨rfl, .inr ⟨g, cap, _, by rw [hlen], hg, heap_sorted_i xs.toArray hb, by omega, h2, by simp [putCells, h3], take_putCells_i cur xs (by omega)⟩, (Below.refl B w).grown (grownBy_sorted_i _) hB (fun k e => by cases e; exact hg)⟩
set_option maxRecDepth 100000 in
theorem sortedI_any (Bm b : Nat) (xs : List Int) (w : World) (hBm : Bm < w.heap.size)
    (hm : w.cell? ⟨Bm, 0, none⟩ = some (.map (some b))) (hM : MapOf Tryz.prog 3 w b (xs.map encJ)) (hN : xs.length ≤ 4000000000000) (hs : Rising xs) :
    Calls Tryz.prog 81 #[.func (.func 168) #[] #[.pointer (some ⟨Bm, 0, none⟩)]] w fun e w' => ∃ v, e = .returned v ∧ IntRow w' w.heap.size v xs ∧ Below w.heap.size w w' := by
  have hC := Go.Lib.hid (collectI_any Bm b xs w hBm hm hM hN)
  have hS := Go.Lib.hid (p := ∀ (w1 : World) (v : Value) (ys : List Int), IntRow w1 w.heap.size v ys → ys.Perm xs → w.heap.size ≤ w1.heap.size → Calls Tryz.prog 157 #[v] w1 fun e w' => e = .returned (.tuple #[]) ∧ IntRow w' w.heap.size v xs ∧ Below w.heap.size w1 w') (fun w1 v ys h hp hB => sortInts_row h hN hp hs hB)
  clear hm hM hs hN
  go_enter Tryz.func81, Tryz.ntmps81
  go_wp2_with (first
    | (go_at_call 156; refine hC.out.mono ?_; rintro e w1 ⟨v, ys, rfl, hp, hr, hb⟩; have hS1 := Go.Lib.hid (hS.out w1 v ys hr hp hb.size); have hbb := Go.Lib.hid hb; clear hb hp hr)
    | (go_at_call 157; refine hS1.out.mono ?_; rintro e w2 ⟨rfl, hr2, hb2⟩))
  go_ret
  exact ⟨_, rfl, hr2, hbb.out.trans hb2⟩
end Go.Proofs.Gab
