/-
  maps.Keys over a set of spots: the iterator's contract.
-/
import Derived.Test.YtbkgmhakiboioaaGreatDoorGr0
import Derived.Test.YtbkgmhakiboioaaGreatDoorGt0
import Derived.Shelf.Abstract
import Derived.Shelf.RegionOpen
import Derived.OwnWalkIn
import Derived.TacticsInMore
import Derived.LoopNIn
import Derived.LoopIn
namespace Go.Proofs.Gab
open Go.RowKit Go.Maps Go.ChangeMaps Go.Shelf
attribute [local go_sem] Oper.semAt_some

def valS (p : Int × ByteArray) : Value := .agg #[.int .i64 p.1, .string p.2]
theorem valS_inj {p q : Int × ByteArray} (h : valS p = valS q) : p = q := by
  cases p; cases q; simpa [valS] using h

set_option maxRecDepth 100000 in
set_option maxHeartbeats 1000000 in
theorem keysS1_stops (F : Fence) (n : Nat) (hf : F.fn 167) (hro : F.round = none) (hn : 1 ≤ n) (Bm b : Nat) (xs : List (Int × ByteArray)) (w : World) (hBm : Bm < w.heap.size)
    (hm : w.cell? ⟨Bm, 0, none⟩ = some (.map (some b))) (hM : MapOf Tryz.prog 201 w b (xs.map encS)) :
    SeqStopsK F n Tryz.prog 167 #[.pointer (some ⟨Bm, 0, none⟩)] (fun p : Int × ByteArray => #[valS p]) KeepsWalks (fun ys => ys.Perm xs) (fun _ => True) xs.length w := fun l J Jx W hW hJ hJx hY h0 => by
  have hm' : W.cell? ⟨Bm, 0, none⟩ = some (.map (some b)) := (hW.cell (p := ⟨Bm, 0, none⟩) hBm).trans hm
  have hM' : MapOf Tryz.prog 201 W b (xs.map encS) := hM.kept (hW.block b hM.lt)
  clear hm hM
  refine callsIn_of_wp Tryz.func167 rfl hf ?_ hro
  simp only [Tryz.ntmps167, List.size_toArray, List.length_cons, List.length_nil, Nat.reduceAdd, Nat.reduceSub, Array.replicate_succ, Array.replicate_zero, List.push_toArray, List.append_toArray, List.nil_append, List.cons_append]
  gi_wp2_with (first
    | (gi_at_range; refine wpLI_range _ rfl _ 158 rfl Tryz.underlying158 b _ rfl hM' ?_; intro w0 hrg0 hg0 hs0)
    | gi_in)
  gi_loopw [3] (fun _ wr => ∃ (left ys : List (Int × ByteArray)), MRange Tryz.prog 201 wr b W.heap.size (xs.map encS) (left.map encS) ∧ (ys ++ left).Perm xs ∧ J ys wr)
    (fun _ wr => wr.rangeLeft b W.heap.size)
  case atStart =>
    exact ⟨xs, [], hrg0, by simp, hJ [] W w0 none h0 hg0 (fun r e => by cases e)⟩
  case round =>
    obtain ⟨left, ys, hrg, hp, hJs⟩ := hrel
    gi_wp2_with (first
      | (gi_at_next; refine wpLI_next _ rfl _ rfl b W.heap.size _ _ rfl hrg ?_ ?_)
      | gi_in)
    · intro hl0
      have hl0' : left = [] := by simpa using hl0
      subst hl0'
      gi_wp2
      go_end0
      exact ⟨⟨_, rfl⟩, .inl ⟨ys, by simpa using hp, hJs⟩⟩
    · intro key v left' w2 hpl hrg2 hg2 hs2 hen
      obtain ⟨x, hx, hxe⟩ := List.mem_map.1 (hpl.mem_iff.2 (List.mem_cons_self ..))
      simp only [encS, Prod.mk.injEq] at hxe
      obtain ⟨hk, hv⟩ := hxe
      subst hk hv
      obtain ⟨rest, hpx⟩ : ∃ rest, left.Perm (x :: rest) := by
        obtain ⟨s, t, rfl⟩ := List.append_of_mem hx
        exact ⟨s ++ t, List.perm_middle⟩
      have hpl' : left'.Perm (rest.map encS) := by
        have h1 := hpl.symm.trans (hpx.map encS)
        simp only [List.map_cons] at h1
        exact List.Perm.cons_inv h1
      have hrg3 := hrg2.perm hpl'
      have hp2 : (ys ++ [x] ++ rest).Perm xs := by
        refine List.Perm.trans ?_ hp
        simp only [List.append_assoc, List.singleton_append]
        exact (hpx.symm).append_left ys
      have hlen : ys.length < xs.length := by
        have := hp2.length_eq; simp at this; omega
      have hJ2 : J ys w2 := hJ ys wr w2 (some W.heap.size) hJs hg2 (fun r e => by cases e; exact ⟨Nat.le_refl _, hrg.iter⟩)
      have hrg4 := hrg3.kept (w' := w2.alloc (.cells #[.int .i64 x.1, .string x.2] 201)) (Below.heap_alloc _ _ _ hrg3.mapOf.lt) (Below.heap_alloc _ _ _ (by rw [hs2]; obtain ⟨o, ho, _⟩ := hrg.iter; exact (Array.getElem?_eq_some_iff.1 ho).1))
      have hJ3 : J ys (w2.alloc (.cells #[.int .i64 x.1, .string x.2] 201)) := hJ ys w2 _ none hJ2 (World.grownBy_alloc _ _ none) (fun r e => by cases e)
      obtain ⟨fn, tmps, assign, body, hy, hR⟩ := hY ys x _ hJ3 hlen
      clear hs2
      dsimp only [valS] at hy
      gi_wp2
      refine hR.mono ?_
      rintro e W3 (⟨rfl, hJ4, hk4⟩ | ⟨rfl, hJx4⟩)
      · have hrg5 := hrg4.walks hk4
        gi_wp2
        go_roundw
        case rel => exact ⟨rest, ys ++ [x], hrg5, hp2, hJ4⟩
        case measure =>
          rw [hrg5.left_eq, hrg.left_eq]
          have := hpx.length_eq
          simp at this ⊢
          omega
      · gi_wp2
        refine bodyPost_ret (results_none rfl _ _ _) rfl ?_
        exact ⟨⟨_, rfl⟩, .inr ⟨_, trivial, hJx4⟩⟩
end Go.Proofs.Gab
