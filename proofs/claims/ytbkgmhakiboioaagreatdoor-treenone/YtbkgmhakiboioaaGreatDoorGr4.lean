/-
  slices.AppendSeq and slices.Collect over the whole numbers of a set.
-/
import Derived.Test.YtbkgmhakiboioaaGreatDoorGr2
import Derived.Test.YtbkgmhakiboioaaGreatDoorGr3
import Derived.RangeFuncBox
import Derived.RangeFuncLeaves
namespace Go.Proofs.Gab
open Go.RowKit Go.Maps Go.ChangeMaps Go.Shelf
attribute [local go_sem] Oper.semAt_some

def flatI (ys : List Int) : List Value := ys.map fun n => Value.int .i64 n
theorem flatI_snoc (ys : List Int) (n : Int) : flatI (ys ++ [n]) = flatI ys ++ [Value.int .i64 n] := by simp [flatI]
theorem infoInt : (Tryz.prog.info? 3).map (fun i => (i.zero, i.size, i.bytes)) = some (some (.int .i64 0), 1, 8) := by kernel_rfl

set_option maxRecDepth 100000 in
set_option maxHeartbeats 2000000 in
theorem appendSeqI_in (F : Fence) (n : Nat) (hf : F.fn 209) (hk : F.fn 168) (hro : F.round = none) (hn : 3 ≤ n) (Bm b : Nat) (xs : List (Int)) (w : World) (hBm : Bm < w.heap.size)
    (hm : w.cell? ⟨Bm, 0, none⟩ = some (.map (some b))) (hM : MapOf Tryz.prog 3 w b (xs.map encJ)) (hN : xs.length ≤ 4000000000000) :
    CallsIn F n Tryz.prog 209 #[.slice none 0 0, .func (.func 168) #[] #[.pointer (some ⟨Bm, 0, none⟩)]] w fun e w' =>
      ∃ v ys, e = .returned v ∧ ys.Perm xs ∧ w'.ownsRow w.heap.size 3 1 v ys.length (flatI ys) ∧ (v = .slice none 0 0 ↔ ys = []) ∧ Below w.heap.size w w' := by
  have h1 : 1 ≤ n := by omega
  obtain ⟨i0, hi, hz0, hz1, hz2⟩ := info_parts infoInt
  refine callsIn_of_wp_marks Tryz.func209 rfl hf ?_ hro
  simp only [Tryz.ntmps209, List.size_toArray, List.length_cons, List.length_nil, Nat.reduceAdd, Nat.reduceSub, Array.replicate_succ, Array.replicate_zero, List.push_toArray, List.append_toArray, List.nil_append, List.cons_append]
  gi_wp2
  have bO := Boxed.new w 40 (.slice none 0 0)
  have hB0 : Below w.heap.size w (w.alloc (.cells #[.slice none 0 0] 40)) := (Below.refl _ w).alloc (Nat.le_refl _) _
  have hm0 : (w.alloc (.cells #[.slice none 0 0] 40)).cell? ⟨Bm, 0, none⟩ = some (.map (some b)) := (hB0.cell (p := ⟨Bm, 0, none⟩) hBm).trans hm
  have hM0 : MapOf Tryz.prog 3 (w.alloc (.cells #[.slice none 0 0] 40)) b (xs.map encJ) := hM.kept (hB0.block b hM.lt)
  have hsz : (w.alloc (.cells #[.slice none 0 0] 40)).heap.size = w.heap.size + 1 := by simp
  obtain ⟨W0, hW0⟩ : ∃ W0, w.alloc (.cells #[.slice none 0 0] 40) = W0 := ⟨_, rfl⟩
  rw [hW0] at bO hB0 hsz hm0 hM0 ⊢
  clear hW0
  refine wpIn_rangeFunc_ownH hro h1 (gf := 168) (lb := #[.pointer (some ⟨Bm, 0, none⟩)]) rfl hk (enters_of Tryz.func168 (by kernel_rfl) rfl)
    (keysI1_stops F (n - 1) hk hro (by omega) Bm b xs W0 (by omega) hm0 hM0) walksK_t walksK_b (Below.refl _ _) (fun _ => rfl)
    (fun pre W => (∃ v, Boxed W w.heap.size 40 v ∧ W.ownsRow w.heap.size 3 1 v pre.length (flatI pre) ∧ (v = .slice none 0 0 ↔ pre = [])) ∧ Below w.heap.size w W)
    (fun _ _ _ => False)
    (OwnFrom.and (Own.from (holdsRow_own w.heap.size w.heap.size 40 3 1 (fun pre => pre.length) (fun pre => flatI pre) (fun pre v => v = .slice none 0 0 ↔ pre = [])) _) (ownFrom_below (Nat.le_refl _) (by omega)))
    (fun _ _ _ _ _ hs _ _ => hs)
    ⟨⟨_, bO, World.ownsRow_nil _ _ _ _, by simp⟩, hB0⟩
    (fun x a' W => a' = { tmps := #[.slice none 0 0, .func (.func 168) #[] #[.pointer (some ⟨Bm, 0, none⟩)], .pointer (some ⟨w.heap.size, 0, none⟩), undef, .slice none 0 0, .int .i64 x, .func (.func 168) #[] #[.pointer (some ⟨Bm, 0, none⟩)], valI x, undef, undef, undef, undef, undef], defers := [] })
    (fun _ _ _ _ _ _ hs _ _ => hs)
    ?assign ?body ?done ?stop
  case assign =>
    rintro l pre x W K ⟨⟨v, hv, hrow, hnil⟩, hB1⟩ hK
    simp only [valI] at hK ⊢
    gi_wp2
    exact hK _ _ (KeepsFrom.refl _ _) (KeepsWalks.refl _) ⟨⟨v, hv, hrow, hnil⟩, hB1⟩ rfl
  case body =>
    rintro l pre x a' W hl ⟨r, hr⟩ ⟨⟨v, hv, hrow, hnil⟩, hB⟩ rfl hlt
    have hc := hv.cell
    simp only [valI]
    gi_wp2_with (gi_at_builtin; refine wpListIn_append_own _ rfl _ _ 40 rfl w.heap.size 3 i0 (.int .i64 0) 1 8 Tryz.underlying40 hi hz0 hz1 hz2 rfl (by decide) _ _ _ rfl (hrow.alloc _) ⟨W.heap.size, 0, none⟩ 1 1 [.int .i64 x] rfl rfl (cell_one_new _ _ _) (by simp [Value.oneCell']) (by simp only [maxLen]; omega) (by omega) (by have := hB.size; simp; omega) ?_; intro v' w1 hown' hgrow _; obtain ⟨g', cap', rfl⟩ := ownsRow_succ hown'; obtain ⟨hv1, hv2, hr2, hk2, hb2⟩ := hv.appended (by decide) hrow hB.size (Nat.le_refl _) hown' hgrow; have hc1 := hv1.cell; have hf1 := hv1.frozen)
    exact ⟨hk2.from _, hk2.walks, ⟨_, hv2, by rw [flatI_snoc]; simpa using hr2, by simp⟩, hB.trans hb2⟩
  case done =>
    rintro D ys W hD hp ⟨⟨v, hv, hrow, hnil⟩, hB⟩ hK
    have hc := hv.cell
    gi_wp2
    refine ⟨by simp, .inl ⟨_, _, rfl, run_takeDeferred hK, ?_⟩⟩
    exact ⟨_, results_tmp rfl _ _ _, v, ys, rfl, hp, ownsRow_putObj hrow _ hK rfl, hnil, hB.trans (belowK_b (w := w) (Nat.le_refl _) W D _ _ (by omega) hK rfl rfl)⟩
  case stop =>
    rintro D c pre W _ _ h _
    exact h.elim

set_option maxRecDepth 100000 in
theorem collectI_in (F : Fence) (n : Nat) (hc : F.fn 156) (hf : F.fn 209) (hk : F.fn 168) (hro : F.round = none) (hn : 4 ≤ n) (Bm b : Nat) (xs : List (Int)) (w : World) (hBm : Bm < w.heap.size)
    (hm : w.cell? ⟨Bm, 0, none⟩ = some (.map (some b))) (hM : MapOf Tryz.prog 3 w b (xs.map encJ)) (hN : xs.length ≤ 4000000000000) :
    CallsIn F n Tryz.prog 156 #[.func (.func 168) #[] #[.pointer (some ⟨Bm, 0, none⟩)]] w fun e w' =>
      ∃ v ys, e = .returned v ∧ ys.Perm xs ∧ w'.ownsRow w.heap.size 3 1 v ys.length (flatI ys) ∧ (v = .slice none 0 0 ↔ ys = []) ∧ Below w.heap.size w w' := by
  have h1 : 1 ≤ n := by omega
  refine callsIn_of_wp Tryz.func156 rfl hc ?_ hro
  simp only [Tryz.ntmps156, List.size_toArray, List.length_cons, List.length_nil, Nat.reduceAdd, Nat.reduceSub, Array.replicate_succ, Array.replicate_zero, List.push_toArray, List.append_toArray, List.nil_append, List.cons_append]
  gi_wp2_with (gi_at_call 209; refine (appendSeqI_in F (n - 1) hf hk hro (by omega) Bm b xs _ hBm hm hM hN).mono ?_; rintro e w' ⟨v, ys, rfl, hp, hr, hv, hb⟩; have hv' := hv)
  go_ret
  exact ⟨_, _, rfl, hp, hr, hv, hb⟩
end Go.Proofs.Gab
