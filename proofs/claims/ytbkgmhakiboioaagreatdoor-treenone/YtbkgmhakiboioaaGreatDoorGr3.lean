/-
  slices.AppendSeq and slices.Collect over the spots of a set.
-/
import Derived.Test.YtbkgmhakiboioaaGreatDoorGr1
import Derived.RangeFuncBox
import Derived.RangeFuncLeaves
namespace Go.Proofs.Gab
open Go.RowKit Go.Maps Go.ChangeMaps Go.Shelf
attribute [local go_sem] Oper.semAt_some

def flatS (ys : List (Int × ByteArray)) : List Value := ys.flatMap fun p => [Value.int .i64 p.1, Value.string p.2]
theorem flatS_length (ys : List (Int × ByteArray)) : (flatS ys).length = ys.length * 2 := by
  induction ys with
  | nil => rfl
  | cons a ys ih => simp only [flatS, List.flatMap_cons, List.length_append, List.length_cons, List.length_nil] at ih ⊢; omega
theorem flatS_snoc (ys : List (Int × ByteArray)) (p : Int × ByteArray) : flatS (ys ++ [p]) = flatS ys ++ [Value.int .i64 p.1, Value.string p.2] := by simp [flatS]
theorem cell_two_new (w : World) (u v : Value) (e : TypeId) : ∀ j x, [u, v][j]? = some x → (w.alloc (.cells #[u, v] e)).cell? ((⟨w.heap.size, 0, none⟩ : Addr).add j) = some x := by
  intro j x h
  have hn := World.alloc_heap_new w (.cells #[u, v] e)
  have ha : (⟨w.heap.size, 0, none⟩ : Addr).add j = ⟨w.heap.size, j, none⟩ := by by_cases h0 : j = 0 <;> simp [Addr.add, h0]
  rw [ha]
  refine cell_of hn j ?_
  match j, h with
  | 0, h => exact h
  | 1, h => exact h
theorem cells_own {β : Type} (B : Nat) (o : Obj) (ho : o.isCells = true) : Own (fun (_ : β) W => W.heap[B]? = some o) := fun _ X Y row hs hg hrow =>
  (hg.block B (Array.getElem?_eq_some_iff.1 hs).1 (fun e' => by obtain ⟨o', ho', hc⟩ := hrow B e'.symm; rw [hs] at ho'; cases ho'; rw [ho] at hc; cases hc)).trans hs
theorem infoSpot : (Tryz.prog.info? 201).map (fun i => (i.zero, i.size, i.bytes)) = some (some (.agg #[.int .i64 0, .string ⟨#[]⟩]), 2, 24) := by kernel_rfl

set_option maxRecDepth 100000 in
set_option maxHeartbeats 2000000 in
theorem appendSeqS_in (F : Fence) (n : Nat) (hf : F.fn 213) (hk : F.fn 167) (hro : F.round = none) (hn : 3 ≤ n) (Bm b : Nat) (xs : List (Int × ByteArray)) (w : World) (hBm : Bm < w.heap.size)
    (hm : w.cell? ⟨Bm, 0, none⟩ = some (.map (some b))) (hM : MapOf Tryz.prog 201 w b (xs.map encS)) (hN : xs.length ≤ 4000000000000) :
    CallsIn F n Tryz.prog 213 #[.slice none 0 0, .func (.func 167) #[] #[.pointer (some ⟨Bm, 0, none⟩)]] w fun e w' =>
      ∃ v ys, e = .returned v ∧ ys.Perm xs ∧ w'.ownsRow w.heap.size 201 2 v ys.length (flatS ys) ∧ (v = .slice none 0 0 ↔ ys = []) ∧ Below w.heap.size w w' := by
  have h1 : 1 ≤ n := by omega
  obtain ⟨i0, hi, hz0, hz1, hz2⟩ := info_parts infoSpot
  refine callsIn_of_wp_marks Tryz.func213 rfl hf ?_ hro
  simp only [Tryz.ntmps213, List.size_toArray, List.length_cons, List.length_nil, Nat.reduceAdd, Nat.reduceSub, Array.replicate_succ, Array.replicate_zero, List.push_toArray, List.append_toArray, List.nil_append, List.cons_append]
  gi_wp2
  have bO := Boxed.new w 206 (.slice none 0 0)
  have hB0 : Below w.heap.size w (w.alloc (.cells #[.slice none 0 0] 206)) := (Below.refl _ w).alloc (Nat.le_refl _) _
  have hm0 : (w.alloc (.cells #[.slice none 0 0] 206)).cell? ⟨Bm, 0, none⟩ = some (.map (some b)) := (hB0.cell (p := ⟨Bm, 0, none⟩) hBm).trans hm
  have hM0 : MapOf Tryz.prog 201 (w.alloc (.cells #[.slice none 0 0] 206)) b (xs.map encS) := hM.kept (hB0.block b hM.lt)
  have hsz : (w.alloc (.cells #[.slice none 0 0] 206)).heap.size = w.heap.size + 1 := by simp
  obtain ⟨W0, hW0⟩ : ∃ W0, w.alloc (.cells #[.slice none 0 0] 206) = W0 := ⟨_, rfl⟩
  rw [hW0] at bO hB0 hsz hm0 hM0 ⊢
  clear hW0
  refine wpIn_rangeFunc_ownH hro h1 (gf := 167) (lb := #[.pointer (some ⟨Bm, 0, none⟩)]) rfl hk (enters_of Tryz.func167 (by kernel_rfl) rfl)
    (keysS1_stops F (n - 1) hk hro (by omega) Bm b xs W0 (by omega) hm0 hM0) walksK_t walksK_b (Below.refl _ _) (fun _ => rfl)
    (fun pre W => (∃ v, Boxed W w.heap.size 206 v ∧ W.ownsRow w.heap.size 201 2 v pre.length (flatS pre) ∧ (v = .slice none 0 0 ↔ pre = [])) ∧ Below w.heap.size w W)
    (fun _ _ _ => False)
    (OwnFrom.and (Own.from (holdsRow_own w.heap.size w.heap.size 206 201 2 (fun pre => pre.length) (fun pre => flatS pre) (fun pre v => v = .slice none 0 0 ↔ pre = [])) _) (ownFrom_below (Nat.le_refl _) (by omega)))
    (fun _ _ _ _ _ hs _ _ => hs)
    ⟨⟨_, bO, World.ownsRow_nil _ _ _ _, by simp⟩, hB0⟩
    (fun x a' W => ∃ Bx, w.heap.size < Bx ∧ W.heap[Bx]? = some (.cells #[.int .i64 x.1, .string x.2] 201 (0, 0)) ∧ a' = { tmps := #[.slice none 0 0, .func (.func 167) #[] #[.pointer (some ⟨Bm, 0, none⟩)], .pointer (some ⟨w.heap.size, 0, none⟩), undef, .slice none 0 0, .pointer (some ⟨Bx, 0, none⟩), .func (.func 167) #[] #[.pointer (some ⟨Bm, 0, none⟩)], valS x, undef, undef, undef, undef, undef], defers := [] })
    (fun x a' _ X Y row hs hg hr => by obtain ⟨Bx, h1, h2, h3⟩ := hs; exact ⟨Bx, h1, cells_own (β := Unit) Bx _ rfl () X Y row h2 hg (fun r e => (hr r e).2), h3⟩)
    ?assign ?body ?done ?stop
  case assign =>
    rintro l pre x W K ⟨⟨v, hv, hrow, hnil⟩, hB1⟩ hK
    simp only [valS] at hK ⊢
    gi_wp2
    exact hK _ _ ((KeepsOthers.alloc _ _).from _) (KeepsOthers.alloc _ _).walks ⟨⟨v, hv.alloc _, hrow.alloc _, hnil⟩, hB1.alloc hB1.size _⟩ ⟨W.heap.size, hv.lt, World.alloc_heap_new W _, rfl⟩
  case body =>
    rintro l pre x a' W hl ⟨r, hr⟩ ⟨⟨v, hv, hrow, hnil⟩, hB⟩ ⟨Bx, hBx, bX, rfl⟩ hlt
    have hc := hv.cell
    have x0 := cell_of bX 0 rfl
    have x1 := cell_of bX 1 rfl
    simp only [valS]
    gi_wp2_with (gi_at_builtin; refine wpListIn_append_own _ rfl _ _ 206 rfl w.heap.size 201 i0 (.agg #[.int .i64 0, .string ⟨#[]⟩]) 2 24 Tryz.underlying206 hi hz0 hz1 hz2 rfl (by decide) _ _ _ rfl (hrow.alloc _) ⟨W.heap.size, 0, none⟩ 1 1 [.int .i64 x.1, .string x.2] rfl rfl (cell_two_new _ _ _ _) (by simp [Value.oneCell']) (by simp only [maxLen]; omega) (by omega) (by have := hB.size; simp; omega) ?_; intro v' w1 hown' hgrow _; obtain ⟨g', cap', rfl⟩ := ownsRow_succ hown'; obtain ⟨hv1, hv2, hr2, hk2, hb2⟩ := hv.appended (by decide) hrow hB.size (Nat.le_refl _) hown' hgrow; have hc1 := hv1.cell; have hf1 := hv1.frozen)
    exact ⟨hk2.from _, hk2.walks, ⟨_, hv2, by rw [flatS_snoc]; simpa using hr2, by simp⟩, hB.trans hb2⟩
  case done =>
    rintro D ys W hD hp ⟨⟨v, hv, hrow, hnil⟩, hB⟩ hK
    have hc := hv.cell
    gi_wp2
    refine ⟨by simp, .inl ⟨_, _, rfl, run_takeDeferred hK, ?_⟩⟩
    exact ⟨_, results_tmp rfl _ _ _, v, ys, rfl, hp, ownsRow_putObj hrow _ hK rfl, hnil, hB.trans (belowK_b (w := w) (Nat.le_refl _) W D _ _ (by omega) hK rfl rfl)⟩
  case stop =>
    rintro D c pre W _ _ h _
    exact h.elim

set_option maxRecDepth 100000 in
theorem collectS_in (F : Fence) (n : Nat) (hc : F.fn 165) (hf : F.fn 213) (hk : F.fn 167) (hro : F.round = none) (hn : 4 ≤ n) (Bm b : Nat) (xs : List (Int × ByteArray)) (w : World) (hBm : Bm < w.heap.size)
    (hm : w.cell? ⟨Bm, 0, none⟩ = some (.map (some b))) (hM : MapOf Tryz.prog 201 w b (xs.map encS)) (hN : xs.length ≤ 4000000000000) :
    CallsIn F n Tryz.prog 165 #[.func (.func 167) #[] #[.pointer (some ⟨Bm, 0, none⟩)]] w fun e w' =>
      ∃ v ys, e = .returned v ∧ ys.Perm xs ∧ w'.ownsRow w.heap.size 201 2 v ys.length (flatS ys) ∧ (v = .slice none 0 0 ↔ ys = []) ∧ Below w.heap.size w w' := by
  have h1 : 1 ≤ n := by omega
  refine callsIn_of_wp Tryz.func165 rfl hc ?_ hro
  simp only [Tryz.ntmps165, List.size_toArray, List.length_cons, List.length_nil, Nat.reduceAdd, Nat.reduceSub, Array.replicate_succ, Array.replicate_zero, List.push_toArray, List.append_toArray, List.nil_append, List.cons_append]
  gi_wp2_with (gi_at_call 213; refine (appendSeqS_in F (n - 1) hf hk hro (by omega) Bm b xs _ hBm hm hM hN).mono ?_; rintro e w' ⟨v, ys, rfl, hp, hr, hv, hb⟩; have hv' := hv)
  go_ret
  exact ⟨_, _, rfl, hp, hr, hv, hb⟩
end Go.Proofs.Gab
