/-
  maps.Keys over a set of whole numbers: the iterator's contract.
-/
import Derived.Test.YtbkgmhakiboioaaGreatDoorGr0
import Derived.Test.YtbkgmhakiboioaaGreatDoorGt0
import Derived.Shelf.Abstract
import Derived.Shelf.RegionOpen
import Derived.OwnWalkIn
import Derived.TacticsInMore
import Derived.LoopNIn
import Derived.LoopIn
namespace Go.Proofs.Gab
open Go.RowKit Go.Maps Go.ChangeMaps Go.Shelf
attribute [local go_sem] Oper.semAt_some

def valI (n : Int) : Value := .int .i64 n
def encJ (n : Int) : Value × Value := (.int .i64 n, .bool true)

set_option maxRecDepth 100000 in
set_option maxHeartbeats 1000000 in
theorem keysI1_stops (F : Fence) (n : Nat) (hf : F.fn 168) (hro : F.round = none) (hn : 1 ≤ n) (Bm b : Nat) (xs : List (Int)) (w : World) (hBm : Bm < w.heap.size)
    (hm : w.cell? ⟨Bm, 0, none⟩ = some (.map (some b))) (hM : MapOf Tryz.prog 3 w b (xs.map encJ)) :
    SeqStopsK F n Tryz.prog 168 #[.pointer (some ⟨Bm, 0, none⟩)] (fun p : Int => #[valI p]) KeepsWalks (fun ys => ys.Perm xs) (fun _ => True) xs.length w := fun l J Jx W hW hJ hJx hY h0 => by
  have hm' : W.cell? ⟨Bm, 0, none⟩ = some (.map (some b)) := (hW.cell (p := ⟨Bm, 0, none⟩) hBm).trans hm
  have hM' : MapOf Tryz.prog 3 W b (xs.map encJ) := hM.kept (hW.block b hM.lt)
  clear hm hM
  refine callsIn_of_wp Tryz.func168 rfl hf ?_ hro
  simp only [Tryz.ntmps168, List.size_toArray, List.length_cons, List.length_nil, Nat.reduceAdd, Nat.reduceSub, Array.replicate_succ, Array.replicate_zero, List.push_toArray, List.append_toArray, List.nil_append, List.cons_append]
  gi_wp2_with (first
    | (gi_at_range; refine wpLI_range _ rfl _ 159 rfl Tryz.underlying159 b _ rfl hM' ?_; intro w0 hrg0 hg0 hs0)
    | gi_in)
  gi_loopw [3] (fun _ wr => ∃ (left ys : List (Int)), MRange Tryz.prog 3 wr b W.heap.size (xs.map encJ) (left.map encJ) ∧ (ys ++ left).Perm xs ∧ J ys wr)
    (fun _ wr => wr.rangeLeft b W.heap.size)
  case atStart =>
    exact ⟨xs, [], hrg0, by simp, hJ [] W w0 none h0 hg0 (fun r e => by cases e)⟩
  case round =>
    obtain ⟨left, ys, hrg, hp, hJs⟩ := hrel
    gi_wp2_with (first
      | (gi_at_next; refine wpLI_next _ rfl _ rfl b W.heap.size _ _ rfl hrg ?_ ?_)
      | gi_in)
    · intro hl0
      have hl0' : left = [] := by simpa using hl0
      subst hl0'
      gi_wp2
      go_end0
      exact ⟨⟨_, rfl⟩, .inl ⟨ys, by simpa using hp, hJs⟩⟩
    · intro key v left' w2 hpl hrg2 hg2 hs2 hen
      obtain ⟨x, hx, hxe⟩ := List.mem_map.1 (hpl.mem_iff.2 (List.mem_cons_self ..))
      simp only [encJ, Prod.mk.injEq] at hxe
      obtain ⟨hk, hv⟩ := hxe
      subst hk hv
      obtain ⟨rest, hpx⟩ : ∃ rest, left.Perm (x :: rest) := by
        obtain ⟨s, t, rfl⟩ := List.append_of_mem hx
        exact ⟨s ++ t, List.perm_middle⟩
      have hpl' : left'.Perm (rest.map encJ) := by
        have h1 := hpl.symm.trans (hpx.map encJ)
        simp only [List.map_cons] at h1
        exact List.Perm.cons_inv h1
      have hrg3 := hrg2.perm hpl'
      have hp2 : (ys ++ [x] ++ rest).Perm xs := by
        refine List.Perm.trans ?_ hp
        simp only [List.append_assoc, List.singleton_append]
        exact (hpx.symm).append_left ys
      have hlen : ys.length < xs.length := by
        have := hp2.length_eq; simp at this; omega
      have hJ2 : J ys w2 := hJ ys wr w2 (some W.heap.size) hJs hg2 (fun r e => by cases e; exact ⟨Nat.le_refl _, hrg.iter⟩)
      obtain ⟨fn, tmps, assign, body, hy, hR⟩ := hY ys x _ hJ2 hlen
      clear hs2
      dsimp only [valI] at hy
      gi_wp2
      refine hR.mono ?_
      rintro e W3 (⟨rfl, hJ4, hk4⟩ | ⟨rfl, hJx4⟩)
      · have hrg5 := hrg3.walks hk4
        gi_wp2
        go_roundw
        case rel => exact ⟨rest, ys ++ [x], hrg5, hp2, hJ4⟩
        case measure =>
          rw [hrg5.left_eq, hrg.left_eq]
          have := hpx.length_eq
          simp at this ⊢
          omega
      · gi_wp2
        refine bodyPost_ret (results_none rfl _ _ _) rfl ?_
        exact ⟨⟨_, rfl⟩, .inr ⟨_, trivial, hJx4⟩⟩
end Go.Proofs.Gab
