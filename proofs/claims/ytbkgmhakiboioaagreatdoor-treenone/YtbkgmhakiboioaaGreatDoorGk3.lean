/-
  TreeNone: the walk.
-/
import Derived.Test.YtbkgmhakiboioaaGreatDoorGk2
namespace Go.Proofs.Gab
open Go.RowKit Go.Maps Go.ChangeMaps Go.Shelf Go.Lib

theorem Known.at {f : Nat} {args : Array Value} {v : Value} (h : Known f args v) {w0 w : World} (hb : Below w0.heap.size w0 w) : Calls Tryz.prog f args w fun e w' => e = .returned v ∧ Below w0.heap.size w0 w' := (h w).mono fun e w' ⟨h1, h2⟩ => ⟨h1, hb.trans (h2.mono hb.size)⟩
set_option maxRecDepth 100000 in
set_option maxHeartbeats 4000000 in
theorem treeNone_walk (n : Int) (s : ByteArray) (hn : (Lit.int .i64 n).wf = true) (w : World) : Calls Tryz.prog 6 #[.int .i64 n, .string s] w fun e w' => e = .returned (.bool true) ∧ Below w.heap.size w w' := by
  have H1 := Go.Lib.hid (kInode n)
  have H2 := Go.Lib.hid (kNames n)
  have H3 := Go.Lib.hid (kFind n s)
  have H4 := Go.Lib.hid (kWalk n)
  have H5 := Go.Lib.hid (p := ∀ xv, _) (fun xv => kMake n s xv)
  have H6 := Go.Lib.hid (kUnlink n s)
  have H7 := Go.Lib.hid (kRename n s)
  have H8 := Go.Lib.hid (kUnpin n)
  have H9 := Go.Lib.hid (kUp n)
  have H10 := Go.Lib.hid (kLink n s)
  have H11 := Go.Lib.hid (kRmdir n s)
  have H12 := Go.Lib.hid (kSet n)
  have H13 := Go.Lib.hid (kPin n)
  have HB := Go.Lib.hid (Below.refl w.heap.size w)
  go_enter Tryz.func6, Tryz.ntmps6
  go_wp2_with (first
    | (go_at_call 20; go_must (refine (H1.out.at HB.out).mono ?_; rintro e w1 ⟨rfl, hb⟩; replace HB := Go.Lib.hid (p := Below w.heap.size w (w1.alloc (.cells #[.int .u8 0, .int .i64 0, .int .i64 0, .slice none 0 0, .string ⟨#[]⟩] 53))) (hb.alloc hb.size _); clear hb); go_frame)
    | (go_at_call 21; go_must (refine (H2.out.at HB.out).mono ?_; rintro e w1 ⟨rfl, hb⟩; replace HB := Go.Lib.hid hb; clear hb); go_frame)
    | (go_at_call 30; go_must (refine (H3.out.at HB.out).mono ?_; rintro e w1 ⟨rfl, hb⟩; replace HB := Go.Lib.hid hb; clear hb); go_frame)
    | (go_at_call 17; go_must (refine (H4.out.at HB.out).mono ?_; rintro e w1 ⟨rfl, hb⟩; replace HB := Go.Lib.hid hb; clear hb); go_frame)
    | (go_at_call 28; go_must (refine ((H5.out _).at HB.out).mono ?_; rintro e w1 ⟨rfl, hb⟩; replace HB := Go.Lib.hid hb; clear hb); go_frame)
    | (go_at_call 27; go_must (refine (H6.out.at HB.out).mono ?_; rintro e w1 ⟨rfl, hb⟩; replace HB := Go.Lib.hid hb; clear hb); go_frame)
    | (go_at_call 31; go_must (refine (H7.out.at HB.out).mono ?_; rintro e w1 ⟨rfl, hb⟩; replace HB := Go.Lib.hid hb; clear hb); go_frame)
    | (go_at_call 32; go_must (refine (H8.out.at HB.out).mono ?_; rintro e w1 ⟨rfl, hb⟩; replace HB := Go.Lib.hid hb; clear hb); go_frame)
    | (go_at_call 22; go_must (refine (H9.out.at HB.out).mono ?_; rintro e w1 ⟨rfl, hb⟩; replace HB := Go.Lib.hid hb; clear hb); go_frame)
    | (go_at_call 33; go_must (refine (H10.out.at HB.out).mono ?_; rintro e w1 ⟨rfl, hb⟩; replace HB := Go.Lib.hid hb; clear hb); go_frame)
    | (go_at_call 34; go_must (refine (H11.out.at HB.out).mono ?_; rintro e w1 ⟨rfl, hb⟩; replace HB := Go.Lib.hid hb; clear hb); go_frame)
    | (go_at_call 35; go_must (refine (H12.out.at HB.out).mono ?_; rintro e w1 ⟨rfl, hb⟩; replace HB := Go.Lib.hid hb; clear hb); go_frame)
    | (go_at_call 36; go_must (refine (H13.out.at HB.out).mono ?_; rintro e w1 ⟨rfl, hb⟩; replace HB := Go.Lib.hid hb; clear hb); go_frame))
  have hC := alloc_new w1 (.cells #[.int .i64 1, .int .i64 1, .int .i64 1, .int .i64 1, .int .i64 1, .int .i64 1, .int .i64 1, .int .i64 1, .int .i64 1, .int .i64 1, .int .i64 1, .int .i64 1, .int .i64 1] 34)
  have hBa : Below w.heap.size w (w1.alloc (.cells #[.int .i64 1, .int .i64 1, .int .i64 1, .int .i64 1, .int .i64 1, .int .i64 1, .int .i64 1, .int .i64 1, .int .i64 1, .int .i64 1, .int .i64 1, .int .i64 1, .int .i64 1] 34)) := HB.out.alloc HB.out.size _
  generalize hgB : w1.heap.size = gb at *
  generalize w1.alloc (.cells #[.int .i64 1, .int .i64 1, .int .i64 1, .int .i64 1, .int .i64 1, .int .i64 1, .int .i64 1, .int .i64 1, .int .i64 1, .int .i64 1, .int .i64 1, .int .i64 1, .int .i64 1] 34) = W0 at *
  clear H1 H2 H3 H4 H5 H6 H7 H8 H9 H10 H11 H12 H13 HB
  have HB0 := Go.Lib.hid hBa
  clear hBa
  have HN := Go.Lib.hid (p := ∀ w, _) (fun w => tNew_any w)
  have HW := Go.Lib.hid (p := ∀ w, _) (fun w => wakes_any w)
  have K1 := Go.Lib.hid kCopy
  have K2 := Go.Lib.hid kLen
  have K3 := Go.Lib.hid kAll
  have K4 := Go.Lib.hid kDeeds
  unfold Known at K1 K2 K3 K4
  go_loopw [115] (fun i wr => ∃ j : Nat, j ≤ 13 ∧ i = .int .i64 j ∧ wr = W0) (fun i wr => 13 - (intOf i).toNat)
  case atStart => exact ⟨0, by omega, rfl, rfl⟩
  case round =>
    obtain ⟨j, hj, rfl, rfl⟩ := hrel
    by_cases hlt : j < 13
    · have k0 := cell_of hC j (v := .int .i64 1) (by
        match j, hlt with
        | 0, _ => rfl
        | 1, _ => rfl
        | 2, _ => rfl
        | 3, _ => rfl
        | 4, _ => rfl
        | 5, _ => rfl
        | 6, _ => rfl
        | 7, _ => rfl
        | 8, _ => rfl
        | 9, _ => rfl
        | 10, _ => rfl
        | 11, _ => rfl
        | 12, _ => rfl)
      clear hC HN HW K1 K2 K3 K4 HB0
      go_wp2
      go_roundw
      case rel => exact ⟨j + 1, by omega, by go_num, by first | rfl | trivial⟩
      case measure => simp [intOf]; omega
    · obtain rfl : j = 13 := by omega
      clear hC
      by_cases hn1 : n = 1
      · subst hn1
        have hm : (Lit.int .i64 (2 : Int)).wf = true := wf2
        have hm1 : (2 : Int) ≠ 1 := by decide
        go_wp2_with (first
          | (go_at_call 11; go_must (refine (HN.out _).mono ?_; rintro e w2 ⟨own, β, t, bn, bs, be, rfl, hb, ht, ho⟩; have HT := Go.Lib.hid ht; have HO := Go.Lib.hid (p := ∀ k, own k ≠ none → w.heap.size ≤ k) (fun k hk => Nat.le_trans HB0.out.size (ho k hk)); have HB := Go.Lib.hid (HB0.out.trans (hb.mono HB0.out.size)); clear hb ht ho HB0); go_frame)
          | (go_at_call 20; go_must (refine (eInode HT.out hm hm1).mono ?_; rintro e w2 ⟨rfl, hb⟩; replace HB := Go.Lib.hid (HB.out.trans (hb.mono HB.out.size)); replace HT := Go.Lib.hid (HT.out.below hb); clear hb); go_frame)
          | (go_at_call 21; go_must (refine (eNames HT.out hm hm1).mono ?_; rintro e w2 ⟨rfl, rfl⟩); go_frame)
          | (go_at_call 28; go_must (refine (eMake HT.out hm hm1 _ _).mono ?_; rintro e w2 ⟨rfl, hb⟩; replace HB := Go.Lib.hid (HB.out.trans (hb.mono HB.out.size)); replace HT := Go.Lib.hid (HT.out.below hb); clear hb); go_frame)
          | (go_at_call 13; go_must (refine (HW.out _).mono ?_; rintro e w2 ⟨rfl, hb⟩; replace HB := Go.Lib.hid (HB.out.trans (hb.mono HB.out.size)); replace HT := Go.Lib.hid (HT.out.below hb); clear hb); go_frame)
          | (go_at_call 24; go_must (refine (K1.out _).mono ?_; rintro e w2 ⟨rfl, hb⟩; replace HB := Go.Lib.hid (HB.out.trans (hb.mono HB.out.size)); replace HT := Go.Lib.hid (HT.out.below hb); clear hb); go_frame)
          | (go_at_call 19; go_must (refine (K3.out _).mono ?_; rintro e w2 ⟨rfl, hb⟩; replace HB := Go.Lib.hid (HB.out.trans (hb.mono HB.out.size)); replace HT := Go.Lib.hid (HT.out.below hb); clear hb); go_frame)
          | (go_at_call 37; refine (K2.out _).mono ?_; clear K2; rintro e w2 ⟨rfl, hb⟩; replace HB := Go.Lib.hid (HB.out.trans (hb.mono HB.out.size)); replace HT := Go.Lib.hid (HT.out.below hb); clear hb; go_frame)
          | (go_at_call 37; go_must (refine (eLen HT.out).mono ?_; rintro e w2 ⟨rfl, rfl⟩); go_frame)
          | (go_at_call 25; refine (K4.out _).mono ?_; clear K4; rintro e w2 ⟨rfl, hb⟩; replace HB := Go.Lib.hid (HB.out.trans (hb.mono HB.out.size)); replace HT := Go.Lib.hid (HT.out.below hb); clear hb; go_frame)
          | (go_at_call 25; go_must (refine (eDeeds HT.out w.heap.size HB.out.size HO.out).mono ?_; rintro e w2 ⟨q, c, rfl, hb, ht⟩; replace HB := Go.Lib.hid (HB.out.trans hb); replace HT := Go.Lib.hid ht; clear hb ht); go_frame)
          | (go_at_call 35; go_must (refine (eSet HT.out hm hm1).mono ?_; rintro e w2 ⟨rfl, rfl⟩); go_frame))
        all_goals first | (go_ret; exact ⟨rfl, HB.out⟩) | go_ways
      · have hm : (Lit.int .i64 n).wf = true := hn
        have hm1 : n ≠ 1 := hn1
        have hx1 : (n == 1) = false := by simpa using hn1
        go_wp2_with (first
          | (go_at_call 11; go_must (refine (HN.out _).mono ?_; rintro e w2 ⟨own, β, t, bn, bs, be, rfl, hb, ht, ho⟩; have HT := Go.Lib.hid ht; have HO := Go.Lib.hid (p := ∀ k, own k ≠ none → w.heap.size ≤ k) (fun k hk => Nat.le_trans HB0.out.size (ho k hk)); have HB := Go.Lib.hid (HB0.out.trans (hb.mono HB0.out.size)); clear hb ht ho HB0); go_frame)
          | (go_at_call 20; go_must (refine (eInode HT.out hm hm1).mono ?_; rintro e w2 ⟨rfl, hb⟩; replace HB := Go.Lib.hid (HB.out.trans (hb.mono HB.out.size)); replace HT := Go.Lib.hid (HT.out.below hb); clear hb); go_frame)
          | (go_at_call 21; go_must (refine (eNames HT.out hm hm1).mono ?_; rintro e w2 ⟨rfl, rfl⟩); go_frame)
          | (go_at_call 28; go_must (refine (eMake HT.out hm hm1 _ _).mono ?_; rintro e w2 ⟨rfl, hb⟩; replace HB := Go.Lib.hid (HB.out.trans (hb.mono HB.out.size)); replace HT := Go.Lib.hid (HT.out.below hb); clear hb); go_frame)
          | (go_at_call 13; go_must (refine (HW.out _).mono ?_; rintro e w2 ⟨rfl, hb⟩; replace HB := Go.Lib.hid (HB.out.trans (hb.mono HB.out.size)); replace HT := Go.Lib.hid (HT.out.below hb); clear hb); go_frame)
          | (go_at_call 24; go_must (refine (K1.out _).mono ?_; rintro e w2 ⟨rfl, hb⟩; replace HB := Go.Lib.hid (HB.out.trans (hb.mono HB.out.size)); replace HT := Go.Lib.hid (HT.out.below hb); clear hb); go_frame)
          | (go_at_call 19; go_must (refine (K3.out _).mono ?_; rintro e w2 ⟨rfl, hb⟩; replace HB := Go.Lib.hid (HB.out.trans (hb.mono HB.out.size)); replace HT := Go.Lib.hid (HT.out.below hb); clear hb); go_frame)
          | (go_at_call 37; refine (K2.out _).mono ?_; clear K2; rintro e w2 ⟨rfl, hb⟩; replace HB := Go.Lib.hid (HB.out.trans (hb.mono HB.out.size)); replace HT := Go.Lib.hid (HT.out.below hb); clear hb; go_frame)
          | (go_at_call 37; go_must (refine (eLen HT.out).mono ?_; rintro e w2 ⟨rfl, rfl⟩); go_frame)
          | (go_at_call 25; refine (K4.out _).mono ?_; clear K4; rintro e w2 ⟨rfl, hb⟩; replace HB := Go.Lib.hid (HB.out.trans (hb.mono HB.out.size)); replace HT := Go.Lib.hid (HT.out.below hb); clear hb; go_frame)
          | (go_at_call 25; go_must (refine (eDeeds HT.out w.heap.size HB.out.size HO.out).mono ?_; rintro e w2 ⟨q, c, rfl, hb, ht⟩; replace HB := Go.Lib.hid (HB.out.trans hb); replace HT := Go.Lib.hid ht; clear hb ht); go_frame)
          | (go_at_call 35; go_must (refine (eSet HT.out hm hm1).mono ?_; rintro e w2 ⟨rfl, rfl⟩); go_frame))
        all_goals first | (go_ret; exact ⟨rfl, HB.out⟩) | go_ways
end Go.Proofs.Gab
