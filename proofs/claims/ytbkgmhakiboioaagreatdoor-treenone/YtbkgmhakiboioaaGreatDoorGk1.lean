/-
  wakes.
-/
import Derived.Test.YtbkgmhakiboioaaGreatDoorGk0
namespace Go.Proofs.Gab
open Go.RowKit Go.Maps Go.ChangeMaps Go.Shelf Go.Lib

theorem wParse' (w : World) : Calls Tryz.prog 15 #[.string ⟨#[47, 97, 47, 46, 46, 47, 97]⟩] w fun e w' => ∃ q c, e = .returned (.tuple #[.agg #[.bool true, .slice q 3 c, .bool false], .int .i64 0]) ∧ LeftAt w' (.slice q 3 c) [[97], [46, 46], [97]] ∧ Below w.heap.size w w' := by
  refine (wParse w).mono ?_
  rintro e w' ⟨v, rfl, hr, hb⟩
  rcases hr.2 with ⟨_, h⟩ | ⟨g, cap, cur, rfl, _, hg, h1, h2, h3, h4⟩
  · simp at h
  · refine ⟨_, _, rfl, ⟨_, _, rfl, fun _ => ⟨g, 0, rfl, ⟨cur, hg, fun i hi => ?_⟩, h1, h2⟩⟩, hb⟩
    have h5 : (cur.toList.take 3)[i]? = ([[97], [46, 46], [97]].map strL)[i]? := by rw [← h4]; rfl
    have hi' : i < 3 := hi
    rw [List.getElem?_take_of_lt hi', Array.getElem?_toList] at h5
    rw [Nat.zero_add, h5]
    match i, hi' with
    | 0, _ => rfl
    | 1, _ => rfl
    | 2, _ => rfl
theorem wInode {w : World} {own : Nat → Option Tag} {β : Int → Nat} {t bn bs be B : Nat} (h : TreeLay w own β t bn bs be B tA) :
    Calls Tryz.prog 20 #[.pointer (some ⟨t, 0, none⟩), .int .i64 1] w fun e w' => ∃ ba bl bc, e = .returned (.tuple #[.agg #[.int .u8 2, .int .i64 3, .int .i64 0, .slice ba bl bc, .string ⟨#[]⟩], .int .i64 0]) ∧ Below w.heap.size w w' := by
  have hg : tA.get? 1 = some ⟨⟨2, 3, 0, [], ⟨#[]⟩⟩, some [(wA, 2)], 1, 0⟩ := by rfl
  refine (tInode_some h wf1 hg (by simp)).mono ?_
  rintro e w' ⟨bv, rfl, hb, hr⟩
  obtain ⟨ba, bl, bc, rfl⟩ := hr.form
  exact ⟨ba, bl, bc, rfl, hb⟩
theorem wMake {w : World} {own : Nat → Option Tag} {β : Int → Nat} {t bn bs be : Nat} (h : TreeLay w own β t bn bs be 0 newTr) :
    Calls Tryz.prog 28 #[.pointer (some ⟨t, 0, none⟩), .int .i64 1, .string ⟨#[97]⟩, .agg #[.int .u8 2, .int .i64 0, .int .i64 0, .slice none 0 0, .string ⟨#[]⟩]] w fun e w' => e = .returned (.tuple #[.int .i64 2, .int .i64 0]) ∧ TPost w own t bn bs be 3 tA w' := by
  have hg : newTr.get? 1 = some rootNd := by rfl
  refine tMake_dir h (by omega) ?_ wf1 (s := wA) (by decide) wName tA_vac (by decide) hg (by decide) ?_
  · intro p hp
    have : p = (1, rootNd) := by simpa [newTr] using hp
    subst this
    decide
  · intro w O d B hD hB
    rw [tA_free]
    exact put_empty w O d B hD hB 2 (by decide)
theorem tA_dirs : tA.Dirs := by
  intro p hp
  have e : tA.nodes = [(1, ⟨⟨2, 3, 0, [], ⟨#[]⟩⟩, some [(wA, 2)], 1, 0⟩), (2, ⟨⟨2, 2, 0, [], ⟨#[]⟩⟩, some [], 1, 0⟩)] := by rfl
  rw [e] at hp
  simp at hp
  rcases hp with rfl | rfl <;> simp
theorem wDeeds {w : World} {own : Nat → Option Tag} {β : Int → Nat} {t bn bs be : Nat} (h : TreeLay w own β t bn bs be 3 tA) (B0 : Nat) (hB0 : B0 ≤ w.heap.size) (ho : ∀ k, own k ≠ none → B0 ≤ k) :
    Calls Tryz.prog 25 #[.pointer (some ⟨t, 0, none⟩)] w fun e w' => ∃ q c, e = .returned (.slice q 3 c) ∧ Below B0 w w' := by
  refine (tDeeds_any h (by omega) tA_dirs).mono ?_
  rintro e w' ⟨v, rfl, hr, _, hf⟩
  have hbl : Below B0 w w' := hf.below hB0 (fun k hk => by
    rintro (rfl | rfl)
    · have := ho _ (by rw [h.os]; simp); omega
    · have := ho _ (by rw [h.oe]; simp); omega)
  have hlen := tA_deeds
  unfold DeedRow at hr
  rw [hlen] at hr
  rcases hr.2 with ⟨_, h0⟩ | ⟨g, cap, cur, rfl, _⟩
  · omega
  · exact ⟨_, _, rfl, hbl⟩
theorem wWalk {w : World} {own : Nat → Option Tag} {β : Int → Nat} {t bn bs be : Nat} (h : TreeLay w own β t bn bs be 3 tA) {q : Option Addr} {c : Nat} (hl : LeftAt w (.slice q 3 c) [[97], [46, 46], [97]]) :
    Calls Tryz.prog 17 #[.pointer (some ⟨t, 0, none⟩), .int .i64 1, .agg #[.bool true, .slice q 3 c, .bool false], .bool true] w fun e' w' => e' = .returned (.tuple #[.int .i64 2, .int .i64 0]) ∧ Below w.heap.size w w' := by
  obtain ⟨x, hx, _⟩ := tA_root
  exact tWalk_steps h (by omega) tA_dirs (ab := true) wf1 hx hl tA_steps

set_option maxRecDepth 100000 in
set_option maxHeartbeats 2000000 in
theorem wakes_any (w : World) : Calls Tryz.prog 13 #[] w fun e w' => e = .returned (.bool true) ∧ Below w.heap.size w w' := by
  have HN := Go.Lib.hid (p := ∀ w, _) (fun w => tNew_any w)
  have HP := Go.Lib.hid (p := ∀ w, _) (fun w => wParse' w)
  go_enter Tryz.func13, Tryz.ntmps13
  go_wp2_with (first
    | (go_at_call 11; go_must (refine (HN.out _).mono ?_; rintro e w1 ⟨own, β, t, bn, bs, be, rfl, hb1, h1, ho1⟩; have HM := Go.Lib.hid (wMake h1); have HB1 := Go.Lib.hid hb1; have HO1 := Go.Lib.hid ho1; clear hb1 h1 ho1); go_frame)
    | (go_at_call 28; go_must (refine HM.out.mono ?_; rintro e w2 ⟨rfl, hf2, own', β', ho2, h2⟩; have HI := Go.Lib.hid (wInode h2); have HT2 := Go.Lib.hid h2; have HB2 := Go.Lib.hid (p := Below w.heap.size w w2) (HB1.out.trans (hf2.below HB1.out.size (fun k hk hown => by have := HO1.out k hown; omega))); have HO2 := Go.Lib.hid (p := ∀ k, own' k ≠ none → w.heap.size ≤ k) (fun k hk => by
        by_cases hlt : k < w1.heap.size
        · exact HO1.out k (ho2 k hlt hk)
        · have := HB1.out.size; omega); clear hf2 ho2 h2); go_frame)
    | (go_at_call 20; go_must (refine HI.out.mono ?_; rintro e w3 ⟨ba, bl, bc, rfl, hb3⟩; have HB3 := Go.Lib.hid hb3; clear hb3); go_frame)
    | (go_at_call 15; go_must (refine (HP.out _).mono ?_; rintro e w4 ⟨q, c, rfl, hl, hb4⟩; have hX4 : (w4.alloc (.cells #[.bool true, .slice q 3 c, .bool false] 33)).heap[w3.heap.size]? = some (.cells #[.int .u8 2, .int .i64 3, .int .i64 0, .slice ba bl bc, .string ⟨#[]⟩] 53 (0, 0)) := (alloc_old _ (Nat.lt_of_lt_of_le (by simp) hb4.size)).trans ((hb4.block _ (by simp)).trans (alloc_new w3 _)); have HT4 := Go.Lib.hid (p := TreeLay (w4.alloc (.cells #[.bool true, .slice q 3 c, .bool false] 33)) own' β' t bn bs be 3 tA) ((((HT2.out.below HB3.out).below ((Below.refl _ _).alloc (Nat.le_refl _) _)).below hb4).below ((Below.refl _ _).alloc (Nat.le_refl _) _)); have HL4 := Go.Lib.hid (p := LeftAt (w4.alloc (.cells #[.bool true, .slice q 3 c, .bool false] 33)) (.slice q 3 c) [[97], [46, 46], [97]]) (hl.keep (fun g cur hg => alloc_old _ (heap_lt hg))); have HW := Go.Lib.hid (wWalk HT4.out HL4.out); have hB3w : Below w.heap.size w w3 := HB2.out.trans (HB3.out.mono HB2.out.size); have hB4w := (hB3w.alloc hB3w.size (.cells #[.int .u8 2, .int .i64 3, .int .i64 0, .slice ba bl bc, .string ⟨#[]⟩] 53)); have hB4x := hB4w.trans (hb4.mono hB4w.size); have HB4 := Go.Lib.hid (hB4x.alloc hB4x.size (.cells #[.bool true, .slice q 3 c, .bool false] 33)); have HX4 := Go.Lib.hid hX4; clear hl hb4 hB3w hB4w hB4x hX4); go_frame)
    | (go_at_call 17; go_must (refine HW.out.mono ?_; rintro e w5 ⟨rfl, hb5⟩; have hX5 := (hb5.block _ (heap_lt HX4.out)).trans HX4.out; have x1 := cell_of hX5 1 rfl; have hT5 := HT4.out.below hb5; have hLn := tLen_any hT5; rw [tA_len] at hLn; have HLn := Go.Lib.hid hLn; have hB5 := HB4.out.trans (hb5.mono HB4.out.size); have HD := Go.Lib.hid (wDeeds hT5 w.heap.size hB5.size HO2.out); have HB5 := Go.Lib.hid hB5; clear hX5 hT5 hLn hB5 hb5); go_frame)
    | (go_at_call 37; go_must (refine HLn.out.mono ?_; rintro e w6 ⟨rfl, rfl⟩); go_frame)
    | (go_at_call 25; go_must (refine HD.out.mono ?_; rintro e w7 ⟨q2, c2, rfl, hb7⟩); go_frame))
  go_ret
  exact ⟨rfl, HB5.out.trans hb7⟩
end Go.Proofs.Gab
