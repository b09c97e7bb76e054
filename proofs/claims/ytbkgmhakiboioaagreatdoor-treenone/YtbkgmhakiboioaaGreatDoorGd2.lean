/-
  (*Tree).Deeds.
-/
import Derived.Test.YtbkgmhakiboioaaGreatDoorGd1
namespace Go.Proofs.Gab
open Go.RowKit Go.Maps Go.ChangeMaps Go.Shelf

theorem deed_step {w w2 w3 : World} {v v' : Value} {ds : List (Int × Int × ByteArray)} {d : Int × Int × ByteArray} {o : Obj} (hr : DeedRow w2 w.heap.size v ds) (hb : Below w.heap.size w w2)
    (hown : w3.ownsRow w.heap.size 72 3 v' (ds.length + 1) (flatD ds ++ [Value.int .i64 d.1, Value.int .i64 d.2.1, Value.string d.2.2])) (hg : (w2.alloc o).grownBy w3 v.ownBlock) :
    DeedRow w3 w.heap.size v' (ds ++ [d]) ∧ Below w.heap.size w w3 ∧ ∀ (g : Nat) (cur : Array Value) (e : TypeId), e ≠ 72 → w2.heap[g]? = some (Obj.cells cur e (0, 0)) → w3.heap[g]? = w2.heap[g]? := by
  have hr' : DeedRow (w2.alloc o) w.heap.size v ds := hr.below ((Below.refl _ _).alloc (Nat.le_refl _) _)
  refine ⟨?_, hr'.grown (hb.alloc hb.size o) (Nat.le_refl _) (Nat.le_refl _) hg, ?_⟩
  · unfold DeedRow
    rw [flatD_snoc]
    simpa using hown
  · intro g cur e he h
    have h' : (w2.alloc o).heap[g]? = some (Obj.cells cur e (0, 0)) := (alloc_old o (heap_lt h)).trans h
    exact (hg.block g (heap_lt h') (hr'.ne h' he)).trans (alloc_old o (heap_lt h))

theorem cell_three_new (w : World) (u v x : Value) (e : TypeId) : ∀ j y, [u, v, x][j]? = some y → (w.alloc (.cells #[u, v, x] e)).cell? ((⟨w.heap.size, 0, none⟩ : Addr).add j) = some y := by
  intro j y h
  have hn := World.alloc_heap_new w (.cells #[u, v, x] e)
  have ha : (⟨w.heap.size, 0, none⟩ : Addr).add j = ⟨w.heap.size, j, none⟩ := by by_cases h0 : j = 0 <;> simp [Addr.add, h0]
  rw [ha]
  refine cell_of hn j ?_
  match j, h with
  | 0, h => exact h
  | 1, h => exact h
  | 2, h => exact h
theorem DeedRow.owns {w : World} {B : Nat} {v : Value} {ds : List (Int × Int × ByteArray)} (h : DeedRow w B v ds) : w.ownsRow B 72 3 v ds.length (flatD ds) := h
theorem DeedRow.frame {w w' : World} {B : Nat} {v : Value} {ds : List (Int × Int × ByteArray)} (h : DeedRow w B v ds) {F : Nat → Prop} (hf : Fr F w w') (hF : ∀ (g : Nat) (cur : Array Value), w.heap[g]? = some (Obj.cells cur 72 (0, 0)) → ¬ F g) : DeedRow w' B v ds := by
  refine ⟨h.1, ?_⟩
  rcases h.2 with h1 | ⟨g, cap, cur, h1, h2, h3, h4⟩
  · exact .inl h1
  · exact .inr ⟨g, cap, cur, h1, h2, hf.heap h3 (hF g cur h3), h4⟩
theorem spots_keys {w : World} {own : Nat → Option Tag} {β : Int → Nat} {t bn bs be B : Nat} {T : Tr} (h : TreeLay w own β t bn bs be B T) {p : Int × ByteArray} (hp : p ∈ T.spots) : (Lit.int .i64 p.1).wf = true ∧ p.2.size ≤ maxLen := by
  obtain ⟨es, clock, hb, s, z, r, q⟩ := h.spots
  have hm := q.mem_iff.2 (List.mem_map.2 ⟨p, hp, rfl⟩)
  obtain ⟨x, hx, hxe⟩ := List.mem_map.1 hm
  obtain ⟨kl, hk⟩ := r x hx
  simp only [encS, Prod.mk.injEq] at hxe
  rw [hxe.1] at hk
  exact keySpot_inv hk
theorem seen_keys {w : World} {own : Nat → Option Tag} {β : Int → Nat} {t bn bs be B : Nat} {T : Tr} (h : TreeLay w own β t bn bs be B T) {p : Int × Unit} (hp : p ∈ T.seen) : (Lit.int .i64 p.1).wf = true := by
  obtain ⟨es, clock, hb, s, z, r, q⟩ := h.seen
  have hm := q.mem_iff.2 (List.mem_map.2 ⟨p, hp, rfl⟩)
  obtain ⟨x, hx, hxe⟩ := List.mem_map.1 hm
  obtain ⟨kl, hk⟩ := r x hx
  simp only [encU, Prod.mk.injEq] at hxe
  rw [hxe.1] at hk
  obtain ⟨y, hy, _, hw⟩ := Maps.keyOf_i64 Tryz.underlying3 hk
  cases hy
  exact hw
theorem take_succ {α : Type} (xs : List α) (j : Nat) (h : j < xs.length) : xs.take (j + 1) = xs.take j ++ [xs[j]] := by
  rw [List.take_add_one]
  simp [h]

section
variable {w : World} {own : Nat → Option Tag} {β : Int → Nat} {t bn bs be B : Nat} {T : Tr}
theorem TreeLay.cleared (h : TreeLay w own β t bn bs be B T) {w' : World} (hf : Fr (fun k => k = bs ∨ k = be) w w') (h1 : MapOf Tryz.prog 201 w' bs []) (h2 : MapOf Tryz.prog 3 w' be []) : TreeLay w' own β t bn bs be B { T with spots := [], seen := [] } := by
  have ne : ∀ k, own k ≠ some .spots → own k ≠ some .seen → ¬ (k = bs ∨ k = be) := by
    rintro k h3 h4 (rfl | rfl)
    · exact h3 h.os
    · exact h4 h.oe
  exact
  { head := hf.heap h.head (ne _ (by rw [h.ot]; simp) (by rw [h.ot]; simp)), ot := h.ot
    nodes := h.nodes.frame hf (ne _ (by rw [h.on]; simp) (by rw [h.on]; simp)), on := h.on
    spots := h1, os := h.os, seen := h2, oe := h.oe
    node := fun n x hx => by
      obtain ⟨bv, dv, hn⟩ := h.node n x hx
      exact ⟨bv, dv, hn.frame hf (fun k hk => ne k (by rcases hk with e | e | e <;> rw [e] <;> simp) (by rcases hk with e | e | e <;> rw [e] <;> simp))⟩
    olt := fun k hk => Nat.lt_of_lt_of_le (h.olt k hk) hf.size
    sort := h.sort, sortE := List.Pairwise.nil, sortS := List.Pairwise.nil, spotsB := Nat.zero_le _, seenB := Nat.zero_le _, keyN := h.keyN }
set_option maxRecDepth 100000 in
set_option maxHeartbeats 2000000 in
theorem tDeeds_any (h : TreeLay w own β t bn bs be B T) (hB : B ≤ 1073741824) (hD : T.Dirs) :
    Calls Tryz.prog 25 #[.pointer (some ⟨t, 0, none⟩)] w fun e w' => ∃ v, e = .returned v ∧ DeedRow w' w.heap.size v T.deeds ∧ TreeLay w' own β t bn bs be B { T with spots := [], seen := [] } ∧ Fr (fun k => k = bs ∨ k = be) w w' := by
  obtain ⟨i0, hi, hz0, hz1, hz2⟩ := info_parts infoDeed
  have hsl := h.spotsB
  have hel := h.seenB
  have hHead := h.head
  have c0 := cell_of hHead 0 rfl
  have c1 := cell_of hHead 1 rfl
  have c2 := cell_of hHead 2 rfl
  have hbt := heap_lt hHead
  -- the spots, sorted
  have HK := Go.Lib.hid (keysS_any (some bs) w)
  have HS := Go.Lib.hid (sortedFuncS_any w.heap.size bs T.spots (w.alloc (.cells #[.map (some bs)] 158)) (by simp) (cell_of (alloc_new _ _) 0 rfl) (h.spots.kept (alloc_old _ h.spots.lt)) (by omega) h.sortS)
  have HN := Go.Lib.hid (p := ∀ w', Below w.heap.size w w' → ∀ p ∈ T.spots, Calls Tryz.prog 95 #[.pointer (some ⟨t, 0, none⟩), .agg #[.int .i64 p.1, .string p.2]] w' fun e w1 => e = .returned (.agg #[.int .i64 (deedK (T.findE p.1 p.2)), .int .i64 p.1, .string p.2]) ∧ Below w'.heap.size w' w1) (fun w' hb p hp => tname_of (fun w'' hb' => tFind_any (h.below (hb.trans (hb'.mono hb.size))) hB hD (spots_keys h hp).1 (spots_keys h hp).2))
  go_enter Tryz.func25, Tryz.ntmps25
  go_wp2_with (first
    | (go_at_call 94; refine HK.out.mono ?_; rintro e w1 ⟨rfl, rfl⟩)
    | (go_at_call 93; refine HS.out.mono ?_; rintro e w1 ⟨v, rfl, hr, hb⟩; obtain ⟨p, c, rfl⟩ := hr.form; have hb1 : Below w.heap.size w w1 := ((Below.refl _ w).alloc (Nat.le_refl _) _).trans (hb.mono (by simp)); have hr1 : SpotRow w1 (w.heap.size) (.slice p T.spots.length c) T.spots := by
        rcases hr with h1 | ⟨g, cap, cur, h1, h2, h3⟩
        · exact .inl h1
        · exact .inr ⟨g, cap, cur, h1, by simp at h2; omega, h3⟩
       clear hr hb; go_frame))
  go_loopw [3, 19] (fun out i wr => ∃ j : Nat, j ≤ T.spots.length ∧ i = .int .i64 j ∧ DeedRow wr w.heap.size out ((T.spots.take j).map T.spotDeed) ∧ SpotRow wr w.heap.size (.slice p T.spots.length c) T.spots ∧ Below w.heap.size w wr) (fun out i wr => T.spots.length - (intOf i).toNat)
  case atStart => exact ⟨0, Nat.zero_le _, rfl, World.ownsRow_nil _ _ _ _, hr1, hb1⟩
  case round =>
    obtain ⟨j, hj, rfl, hdr, hsr, hbw⟩ := hrel
    by_cases hlt : j < T.spots.length
    · obtain ⟨g, rfl, _, k0, k1⟩ := hsr.cells hlt
      have hmem : T.spots[j] ∈ T.spots := List.getElem_mem hlt
      have hd0 : T.spotDeed T.spots[j] = (deedK (T.findE T.spots[j].1 T.spots[j].2), T.spots[j].1, T.spots[j].2) := rfl
      have htk := take_succ T.spots j hlt
      have hN := Go.Lib.hid (HN.out (wr.alloc (.cells #[.int .i64 T.spots[j].1, .string T.spots[j].2] 201)) (hbw.alloc hbw.size _) _ hmem)
      generalize hdk : deedK (T.findE T.spots[j].1 T.spots[j].2) = K at hN hd0
      generalize hx1 : T.spots[j].1 = x1 at *
      generalize hx2 : T.spots[j].2 = x2 at *
      have hdl : ((T.spots.take j).map T.spotDeed).length = j := by simp; omega
      have hdr' := Go.Lib.hid (p := DeedRow (wr.alloc (.cells #[.int .i64 x1, .string x2] 201)) w.heap.size _ ((T.spots.take j).map T.spotDeed)) (hdr.below ((Below.refl _ _).alloc (Nat.le_refl _) _))
      have hsr' := Go.Lib.hid (p := SpotRow (wr.alloc (.cells #[.int .i64 x1, .string x2] 201)) w.heap.size (.slice (some ⟨g, 0, none⟩) T.spots.length c) T.spots) (hsr.below ((Below.refl _ _).alloc (Nat.le_refl _) _))
      have hbw' := Go.Lib.hid (p := Below w.heap.size w (wr.alloc (.cells #[.int .i64 x1, .string x2] 201))) (hbw.alloc hbw.size _)
      have hrest : (T.spots.take (j + 1)).map T.spotDeed = (T.spots.take j).map T.spotDeed ++ [(K, x1, x2)] := by rw [htk, List.map_append, List.map_singleton, hd0]
      have hjB : j + 1 ≤ 1073741824 := by omega
      generalize (T.spots.take j).map T.spotDeed = ds at *
      clear hdr hsr hbw hHead h HK HS HN hr1 hb1 hdk hx1 hx2 hd0 htk
      go_wp2_with (first
        | (go_at_call 95; refine hN.out.mono ?_; rintro e w2 ⟨rfl, hb2⟩; have hdr2 := Go.Lib.hid (hdr'.out.below hb2); have hsr2 := Go.Lib.hid (hsr'.out.below hb2); have hbw2 := Go.Lib.hid (hbw'.out.trans (hb2.mono hbw'.out.size)); clear hb2; go_frame)
        | (at_builtin; refine wpList_append_own _ rfl _ _ 63 rfl w.heap.size 72 i0 (.agg #[.int .i64 0, .int .i64 0, .string ⟨#[]⟩]) 3 32 Tryz.underlying63 hi hz0 hz1 hz2 rfl (by decide) _ _ _ rfl (hdr2.out.owns.alloc _) ⟨w2.heap.size, 0, none⟩ 1 1 [.int .i64 K, .int .i64 x1, .string x2] rfl rfl (cell_three_new _ _ _ _ _) (by simp [Value.oneCell']) (by simp only [maxLen]; omega) (by omega) (by have := hbw2.out.size; simp; omega) ?_; intro v' w3 hown hgrow _; have HX := Go.Lib.hid (deed_step (d := (K, x1, x2)) hdr2.out hbw2.out hown hgrow); clear hown hgrow; go_frame))
      go_roundw
      case rel => exact ⟨j + 1, by omega, by go_num, by rw [hrest]; exact HX.out.1, hsr2.out.kept (fun g cur hg => HX.out.2.2 g cur _ (by decide) hg), HX.out.2.1⟩
      case measure => simp [intOf]; omega
    · obtain rfl : j = T.spots.length := by omega
      rw [List.take_length] at hdr
      have hdl : (T.spots.map T.spotDeed).length = T.spots.length := by simp
      generalize hds : T.spots.map T.spotDeed = ds at *
      have HT := Go.Lib.hid (p := ∀ w', Below w.heap.size w w' → TreeLay w' own β t bn bs be B T) (fun w' hb => h.below hb)
      have hseen : Rising (T.seen.map (·.1)) := List.pairwise_map.2 h.sortE
      have hmap : T.seen.map encU = (T.seen.map (·.1)).map encJ := by simp [encU, encJ, List.map_map, Function.comp_def]
      have hsl2 : (T.seen.map (·.1)).length = T.seen.length := by simp
      have hwr := HT.out wr hbw
      have c2' : wr.cell? ⟨t, 2, none⟩ = some (.map (some be)) := (hbw.cell (p := ⟨t, 2, none⟩) hbt).trans c2
      have HK2 := Go.Lib.hid (keysI_any (some be) wr)
      have HS2 := Go.Lib.hid (sortedI_any wr.heap.size be (T.seen.map (·.1)) (wr.alloc (.cells #[.map (some be)] 159)) (by simp) (cell_of (alloc_new _ _) 0 rfl) (by rw [← hmap]; exact hwr.seen.kept (alloc_old _ hwr.seen.lt)) (by omega) hseen)
      have hwf : ∀ n ∈ T.seen.map (·.1), (Lit.int .i64 n).wf = true := fun n hn => by
        obtain ⟨p, hp, rfl⟩ := List.mem_map.1 hn
        exact seen_keys h hp
      generalize hns : T.seen.map (·.1) = ns at *
      have hnl : ns.length ≤ 1073741824 := by omega
      have hdn : ds.length ≤ 1073741824 := by omega
      have hdr0 := Go.Lib.hid hdr
      have hbw0 := Go.Lib.hid hbw
      clear hdr hbw hsr hwr HK HS HN hr1 hb1 h hsl2
      go_wp2_with (first
        | (go_at_call 96; refine HK2.out.mono ?_; rintro e w1 ⟨rfl, rfl⟩; go_frame)
        | (go_at_call 81; refine HS2.out.mono ?_; rintro e w1 ⟨v, rfl, hr, hb⟩; obtain ⟨p2, c3, rfl⟩ := hr.form; have hb1 : Below wr.heap.size wr w1 := ((Below.refl _ wr).alloc (Nat.le_refl _) _).trans (hb.mono (by simp)); have hr1 : IntRow w1 wr.heap.size (.slice p2 ns.length c3) ns := by
            rcases hr with h1 | ⟨g, cap, cur, h1, h2, h3⟩
            · exact .inl h1
            · exact .inr ⟨g, cap, cur, h1, by simp at h2; omega, h3⟩
           clear hr hb; go_frame))
      have hdr1 : DeedRow w1 w.heap.size u3 ds := hdr0.out.below hb1
      have hbw1 : Below w.heap.size w w1 := hbw0.out.trans (hb1.mono hbw0.out.size)
      go_loopw [3, 37] (fun out i wr2 => ∃ j : Nat, j ≤ ns.length ∧ i = .int .i64 j ∧ DeedRow wr2 w.heap.size out (ds ++ (ns.take j).map T.seenDeed) ∧ IntRow wr2 wr.heap.size (.slice p2 ns.length c3) ns ∧ Below w.heap.size w wr2) (fun out i wr2 => ns.length - (intOf i).toNat)
      case atStart => exact ⟨0, Nat.zero_le _, rfl, by simpa using hdr1, hr1, hbw1⟩
      case round =>
        obtain ⟨j, hj, rfl, hdr, hsr, hbw⟩ := hrel
        by_cases hlt : j < ns.length
        · obtain ⟨g, rfl, _, k0⟩ := hsr.cells hlt
          have hmem : ns[j] ∈ ns := List.getElem_mem hlt
          have hwn := hwf _ hmem
          have htk := take_succ ns j hlt
          have hT := HT.out wr hbw
          have c0' : wr.cell? ⟨t, 0, none⟩ = some (.map (some bn)) := (hbw.cell (p := ⟨t, 0, none⟩) hbt).trans c0
          have hdl2 : ((ns.take j).map T.seenDeed).length = j := by simp; omega
          have hrest : ds ++ (ns.take (j + 1)).map T.seenDeed = (ds ++ (ns.take j).map T.seenDeed) ++ [T.seenDeed ns[j]] := by rw [htk, List.map_append, List.map_singleton, List.append_assoc]
          have hlen : (ds ++ (ns.take j).map T.seenDeed).length ≤ 2147483648 := by simp only [List.length_append, hdl2]; omega
          generalize ds ++ (ns.take j).map T.seenDeed = dj at *
          have hdrh := Go.Lib.hid hdr
          have hsrh := Go.Lib.hid hsr
          have hbwh := Go.Lib.hid hbw
          cases hx : T.get? ns[j] with
          | none =>
            have hl := hT.look_none hwn hx false
            have hd0 : T.seenDeed ns[j] = (2, ns[j], ⟨#[]⟩) := by simp [Tr.seenDeed, hx]
            rw [hd0] at hrest
            generalize ns[j] = n at *
            clear hdr hsr hbw hT hx hd0 htk hdl2 hmem hwn hdl
            go_wp2_with (at_builtin; refine wpList_append_own _ rfl _ _ 63 rfl w.heap.size 72 i0 (.agg #[.int .i64 0, .int .i64 0, .string ⟨#[]⟩]) 3 32 Tryz.underlying63 hi hz0 hz1 hz2 rfl (by decide) _ _ _ rfl (hdrh.out.owns.alloc _) ⟨wr.heap.size, 0, none⟩ 1 1 [.int .i64 2, .int .i64 n, .string ⟨#[]⟩] rfl rfl (cell_three_new _ _ _ _ _) (by simp [Value.oneCell']) (by simp only [maxLen]; omega) (by omega) (by have := hbwh.out.size; simp; omega) ?_; intro v' w3 hown hgrow _; have HX := Go.Lib.hid (deed_step (d := (2, n, ⟨#[]⟩)) hdrh.out hbwh.out hown hgrow); clear hown hgrow; go_frame)
            go_roundw
            case rel => exact ⟨j + 1, by omega, by go_num, by rw [hrest]; exact HX.out.1, hsrh.out.kept (fun g cur hg => HX.out.2.2 g cur _ (by decide) hg), HX.out.2.1⟩
            case measure => simp [intOf]; omega
          | some x =>
            have hl := hT.look_some hwn hx false
            have hd0 : T.seenDeed ns[j] = (1, ns[j], ⟨#[]⟩) := by simp [Tr.seenDeed, hx]
            rw [hd0] at hrest
            generalize ns[j] = n at *
            clear hdr hsr hbw hT hx hd0 htk hdl2 hmem hwn hdl
            go_wp2_with (at_builtin; refine wpList_append_own _ rfl _ _ 63 rfl w.heap.size 72 i0 (.agg #[.int .i64 0, .int .i64 0, .string ⟨#[]⟩]) 3 32 Tryz.underlying63 hi hz0 hz1 hz2 rfl (by decide) _ _ _ rfl (hdrh.out.owns.alloc _) ⟨wr.heap.size, 0, none⟩ 1 1 [.int .i64 1, .int .i64 n, .string ⟨#[]⟩] rfl rfl (cell_three_new _ _ _ _ _) (by simp [Value.oneCell']) (by simp only [maxLen]; omega) (by omega) (by have := hbwh.out.size; simp; omega) ?_; intro v' w3 hown hgrow _; have HX := Go.Lib.hid (deed_step (d := (1, n, ⟨#[]⟩)) hdrh.out hbwh.out hown hgrow); clear hown hgrow; go_frame)
            go_roundw
            case rel => exact ⟨j + 1, by omega, by go_num, by rw [hrest]; exact HX.out.1, hsrh.out.kept (fun g cur hg => HX.out.2.2 g cur _ (by decide) hg), HX.out.2.1⟩
            case measure => simp [intOf]; omega
        · obtain rfl : j = ns.length := by omega
          rw [List.take_length] at hdr
          have hT := HT.out wr hbw
          have hb1 : wr.cell? ⟨t, 1, none⟩ = some (.map (some bs)) := (hbw.cell (p := ⟨t, 1, none⟩) hbt).trans c1
          have hTs := Go.Lib.hid hT.spots
          have hTt := Go.Lib.hid hT
          have hdrh := Go.Lib.hid hdr
          have hbwh := Go.Lib.hid hbw
          have hte : t ≠ bs := fun e => by have h1 := hT.ot; rw [e, hT.os] at h1; cases h1
          have hee : be ≠ bs := fun e => by have h1 := hT.oe; rw [e, hT.os] at h1; cases h1
          clear hT hdr hsr hbw
          go_wp2_with (first
            | (refine wpL_clear _ rfl _ 158 rfl Tryz.underlying158 bs _ rfl hTs.out ?_; intro w4 hm4 hf4 hs4; have hb2 : w4.cell? ⟨t, 2, none⟩ = some (.map (some be)) := cell_of (hf4.heap hTt.out.head hte) 2 rfl; have hTe := Go.Lib.hid (hTt.out.seen.frame hf4 hee); have HM4 := Go.Lib.hid hm4; have HF4 := Go.Lib.hid hf4; clear hm4 hf4; go_frame)
            | (refine wpL_clear _ rfl _ 159 rfl Tryz.underlying159 be _ rfl hTe.out ?_; intro w5 hm5 hf5 hs5; have HM5 := Go.Lib.hid hm5; have HF5 := Go.Lib.hid hf5; clear hm5 hf5; go_frame))
          have hfr : Fr (fun k => k = bs ∨ k = be) wr w5 := (HF4.out.mono (fun k _ h => .inl h)).trans (HF5.out.mono (fun k _ h => .inr h))
          have hdd : T.deeds = ds ++ ns.map T.seenDeed := by simp only [Tr.deeds, hds, hns]
          have htree := hTt.out.cleared hfr (HM4.out.frame HF5.out (fun e => hee e.symm)) HM5.out
          have hrow : DeedRow w5 w.heap.size u3 T.deeds := by
            rw [hdd]
            refine hdrh.out.frame hfr (fun g cur hg => ?_)
            rintro (rfl | rfl)
            · exact hTs.out.not_cells hg rfl
            · exact hTt.out.seen.not_cells hg rfl
          have hfin : Fr (fun k => k = bs ∨ k = be) w w5 := (Fr.of_below_all hbwh.out _).trans hfr
          clear hfr hdd
          go_ret
          exact ⟨_, rfl, hrow, htree, hfin⟩
end
end Go.Proofs.Gab
