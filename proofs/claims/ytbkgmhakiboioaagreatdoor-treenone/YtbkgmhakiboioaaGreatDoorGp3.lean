/-
  path.Parse: the walk.
-/
import Derived.Test.YtbkgmhakiboioaaGreatDoorGp2
namespace Go.Proofs.Gab
open Go.RowKit Go.Maps Go.ChangeMaps Go.Shelf Go.Lib
attribute [local go_sem] Oper.semAt_some

def wayV (ab : Bool) (v : Value) (d : Bool) : Value := .agg #[.bool ab, v, .bool d]
/-- a slice of strings that the call owns -/
def StrRow (w : World) (B : Nat) (v : Value) (ps : List (List UInt8)) : Prop := w.ownsRow B 9 1 v ps.length (ps.map strL)
def ParsePost (nE : List UInt8 → Int) (s : List UInt8) (w : World) (e : Ending) (w' : World) : Prop := Below w.heap.size w w' ∧
      match (cuts s).find? (badPart nE) with
      | some p => e = .returned (.tuple #[wayV false (.slice none 0 0) false, .int .i64 (nE p)])
      | none => ∃ v, e = .returned (.tuple #[wayV (Lib.hasPrefix s [47]) v (lastHere (cuts s)), .int .i64 0]) ∧ StrRow w' w.heap.size v (keptParts (cuts s))

theorem KeepsBoxes.trans {b : Nat} {A B C : World} (h : KeepsBoxes b A B) (k : KeepsBoxes b B C) : KeepsBoxes b A C := ⟨Nat.le_trans h.1 k.1, fun i hi => (k.2 i hi).trans (h.2 i hi)⟩
theorem KeepsBoxes.refl (b : Nat) (A : World) : KeepsBoxes b A A := ⟨Nat.le_refl _, fun _ _ => rfl⟩
theorem KeepsBoxes.alloc {b : Nat} {A W : World} (h : KeepsBoxes b A W) (hb : b + 2 < W.heap.size) (o : Obj) : KeepsBoxes b A (W.alloc o) :=
  ⟨by have := h.1; simp; omega, fun k hk => (alloc_old o (by omega)).trans (h.2 k hk)⟩
theorem KeepsBoxes.put {b l : Nat} {W : World} {o o' : Obj} (hb : b + 2 < l) (hl : W.heap[l]? = some o) : KeepsBoxes b W (W.putObj l o') :=
  ⟨by have := (grownBy_putObj' W l o').size; exact this, fun k hk => World.putObj_heap_other (by omega)⟩
theorem own_keeps {A B : World} {row : Option Nat} {B0 : Nat} (hg : A.grownBy B row) (hr : ∀ r, row = some r → B0 ≤ r ∧ ∃ o : Obj, A.heap[r]? = some o ∧ o.isCells = false) {k : Nat} {cs : Array Value} {t : TypeId} {fr : Nat × Nat} (h : A.heap[k]? = some (.cells cs t fr)) : B.heap[k]? = some (.cells cs t fr) := by
  refine (hg.block k (heap_lt h) ?_).trans h
  intro e
  obtain ⟨_, o, ho, hc⟩ := hr k e.symm
  rw [h] at ho; cases ho; cases hc
theorem StrRow.keeps {A B : World} {row : Option Nat} {B0 B1 : Nat} {v : Value} {ps : List (List UInt8)} (hg : A.grownBy B row) (hr : ∀ r, row = some r → B0 ≤ r ∧ ∃ o : Obj, A.heap[r]? = some o ∧ o.isCells = false) (h : StrRow A B1 v ps) : StrRow B B1 v ps := by
  refine ⟨h.1, ?_⟩
  rcases h.2 with h1 | ⟨g, cap, cur, h1, h2, h3, h4⟩
  · exact .inl h1
  · exact .inr ⟨g, cap, cur, h1, h2, own_keeps hg hr h3, h4⟩
theorem StrRow.set {A : World} {B1 k : Nat} {v u : Value} {ps : List (List UInt8)} (hk : k < B1) (h : StrRow A B1 v ps) : StrRow (A.setCell ⟨k, 0, none⟩ u) B1 v ps := by
  refine ⟨h.1, ?_⟩
  rcases h.2 with h1 | ⟨g, cap, cur, h1, h2, h3, h4⟩
  · exact .inl h1
  · exact .inr ⟨g, cap, cur, h1, h2, (set_other (show g ≠ k by omega)).trans h3, h4⟩

/-- between two rounds -/
def ParseI (nE : List UInt8 → Int) (pf : Bool) (w : World) (B1 : Nat) (pre : List (List UInt8)) (W : World) : Prop :=
  pre.find? (badPart nE) = none ∧ W.heap[w.heap.size]? = some (.cells #[.bool false, .slice none 0 0, .bool false] 33 (0, 0)) ∧ W.heap[w.heap.size + 1]? = some (.cells #[.int .i64 0] 34 (0, 0)) ∧
    (∃ v, W.heap[w.heap.size + 2]? = some (.cells #[.bool pf, v, .bool (lastHere pre)] 33 (0, 0)) ∧ StrRow W B1 v (keptParts pre)) ∧ Below w.heap.size w W ∧ B1 ≤ W.heap.size
def ParseX (nE : List UInt8 → Int) (w : World) (c : Code) (pre : List (List UInt8)) (W : World) : Prop :=
  c = .ret ∧ Below w.heap.size w W ∧ W.heap[w.heap.size]? = some (.cells #[.bool false, .slice none 0 0, .bool false] 33 (0, 0)) ∧ ∃ p, pre.find? (badPart nE) = some p ∧ W.heap[w.heap.size + 1]? = some (.cells #[.int .i64 (nE p)] 34 (0, 0))
theorem parseI_own (nE : List UInt8 → Int) (pf : Bool) (w : World) (B1 : Nat) (h1 : w.heap.size + 2 < B1) : OwnFrom B1 (ParseI nE pf w B1) := by
  rintro pre A B row ⟨h2, h3, h4, ⟨v, h5, h6⟩, h7, h8⟩ hg hr
  exact ⟨h2, own_keeps hg hr h3, own_keeps hg hr h4, ⟨v, own_keeps hg hr h5, h6.keeps hg hr⟩, h7.grown hg h7.size (fun k e => by have := (hr k e).1; omega), Nat.le_trans h8 hg.size⟩
theorem parseX_own (nE : List UInt8 → Int) (w : World) (B1 : Nat) (h1 : w.heap.size + 2 < B1) (c : Code) : OwnFrom B1 (ParseX nE w c) := by
  rintro pre A B row ⟨h2, h3, h4, p, h5, h6⟩ hg hr
  exact ⟨h2, h3.grown hg h3.size (fun k e => by have := (hr k e).1; omega), own_keeps hg hr h4, p, h5, own_keeps hg hr h6⟩
theorem parseI_set (nE : List UInt8 → Int) (pf : Bool) (w : World) (pre : List (List UInt8)) (W : World) (v : Value) (h : ParseI nE pf w (w.heap.size + 6) pre W) : ParseI nE pf w (w.heap.size + 6) pre (W.setCell ⟨w.heap.size + 3, 0, none⟩ v) := by
  obtain ⟨h2, h3, h4, ⟨u, h5, h6⟩, h7, h8⟩ := h
  refine ⟨h2, (set_other (by simp)).trans h3, (set_other (by simp)).trans h4, ⟨u, (set_other (by simp)).trans h5, h6.set (by omega)⟩, h7.setCell (by simp) _, by simp; omega⟩

theorem str_step {w2 w3 : World} {B1 : Nat} {v v' : Value} {ps : List (List UInt8)} {x : List UInt8} {o : Obj} (hr : StrRow w2 B1 v ps) (hown : w3.ownsRow B1 9 1 v' (ps.length + 1) (ps.map strL ++ [strL x])) (hg : (w2.alloc o).grownBy w3 v.ownBlock) :
    StrRow w3 B1 v' (ps ++ [x]) ∧ KeepsOthers w2 w3 ∧ (∀ k, k < B1 → k < w2.heap.size → w3.heap[k]? = w2.heap[k]?) := by
  refine ⟨by unfold StrRow; simpa using hown, ?_, ?_⟩
  · refine (KeepsOthers.alloc w2 o).trans (KeepsOthers.of_grownBy hg fun j ob ej hj => ?_)
    rcases hr.2 with ⟨rfl, _⟩ | ⟨g, cap, cur, rfl, _, hgb, _⟩
    · simp [Value.ownBlock] at ej
    · obtain rfl : g = j := by simpa [Value.ownBlock] using ej
      rw [alloc_old o (heap_lt hgb), hgb] at hj
      cases hj; rfl
  · intro k hk hk2
    refine (hg.block k (by simp; omega) ?_).trans (alloc_old o hk2)
    rcases hr.2 with ⟨rfl, _⟩ | ⟨g, cap, cur, rfl, hB, _⟩
    · simp [Value.ownBlock]
    · intro e
      have : g = k := by simpa [Value.ownBlock] using e.symm
      omega
theorem keepsOthers_of_below {w w' : World} (h : Below w.heap.size w w') : KeepsOthers w w' := ⟨h.size, fun k o hk _ => (h.block k (heap_lt hk)).trans hk⟩
theorem StrRow.below {w w' : World} {B : Nat} {v : Value} {ps : List (List UInt8)} (h : StrRow w B v ps) (hb : Below w.heap.size w w') : StrRow w' B v ps := by
  refine ⟨h.1, ?_⟩
  rcases h.2 with h1 | ⟨g, cap, cur, h1, h2, h3, h4⟩
  · exact .inl h1
  · exact .inr ⟨g, cap, cur, h1, h2, (hb.block g (heap_lt h3)).trans h3, h4⟩
theorem StrRow.set' {A : World} {B1 k i : Nat} {v u : Value} {ps : List (List UInt8)} (hk : k < B1) (h : StrRow A B1 v ps) : StrRow (A.setCell ⟨k, i, none⟩ u) B1 v ps := by
  refine ⟨h.1, ?_⟩
  rcases h.2 with h1 | ⟨g, cap, cur, h1, h2, h3, h4⟩
  · exact .inl h1
  · exact .inr ⟨g, cap, cur, h1, h2, (set_other (show g ≠ k by omega)).trans h3, h4⟩
theorem cuts_len (l : List UInt8) : (cuts l).length ≤ l.length + 1 := by
  induction l with
  | nil => simp [cuts]
  | cons c r ih =>
    simp only [cuts]
    split <;> simp <;> omega
theorem StrRow.owns {w : World} {B : Nat} {v : Value} {ps : List (List UInt8)} (h : StrRow w B v ps) : w.ownsRow B 9 1 v ps.length (ps.map strL) := h
theorem infoStr : (Tryz.prog.info? 9).map (fun i => (i.zero, i.size, i.bytes)) = some (some (.string ⟨#[]⟩), 1, 16) := by kernel_rfl

set_option maxRecDepth 100000 in
set_option maxHeartbeats 4000000 in
theorem parse_in (nE : List UInt8 → Int) {s : List UInt8} (hN : ∀ p, p ∈ cuts s → isHere p = false → NameIs ⟨p.toArray⟩ (nE p)) (h0 : s ≠ []) (hl : s.length ≤ 256) (w : World) :
    CallsIn Fence.wide 8 Tryz.prog 15 #[strL s] w (ParsePost nE s w) := by
  have hs0 : s.isEmpty = false := by cases s with
    | nil => exact absurd rfl h0
    | cons a r => rfl
  have hsz : (⟨s.toArray⟩ : ByteArray).size = s.length := by simp [ByteArray.size]
  have hgt : decide ((s.length : Int) > 256) = false := by simp; omega
  have HP := Go.Lib.hid (p := ∀ w, _) (fun w => hasPrefix_any ⟨s.toArray⟩ ⟨#[47]⟩ w)
  have HS := Go.Lib.hid (p := ∀ w, _) (fun w => sSplitSeq_any s w)
  unfold strL at HS ⊢
  have hf1 : Fence.wide.fn 71 := trivial
  have hf2 : Fence.wide.fn 72 := trivial
  have hf3 : Fence.wide.fn 73 := trivial
  have h1n : 1 ≤ 8 := by omega
  refine callsIn_of_wp_marks Tryz.func15 rfl trivial ?_ rfl
  simp only [Tryz.ntmps15, List.size_toArray, List.length_cons, List.length_nil, Nat.reduceAdd, Nat.reduceSub, Array.replicate_succ, Array.replicate_zero, List.push_toArray, List.append_toArray, List.nil_append, List.cons_append]
  gi_wp2_with (first
    | (gi_at_call 71; refine (callsIn_wide.2 (HP.out _)).mono ?_; rintro e w1 ⟨rfl, rfl⟩)
    | (gi_at_call 72; refine (callsIn_wide.2 (HS.out _)).mono ?_; rintro e w1 ⟨rfl, hw1⟩))
  all_goals try (exfalso; simp_all; done)
  have hA1 : (w.alloc (.cells #[.bool false, .slice none 0 0, .bool false] 33)).heap.size = w.heap.size + 1 := by simp
  have hA2 : ((w.alloc (.cells #[.bool false, .slice none 0 0, .bool false] 33)).alloc (.cells #[.int .i64 0] 34)).heap.size = w.heap.size + 2 := by simp
  have hA3 : (((w.alloc (.cells #[.bool false, .slice none 0 0, .bool false] 33)).alloc (.cells #[.int .i64 0] 34)).alloc (.cells #[.bool (Lib.hasPrefix s [47]), .slice none 0 0, .bool false] 33)).heap.size = w.heap.size + 3 := by simp
  obtain ⟨b0, b1, b2, hsz1, hbel⟩ := split3_boxes s (((w.alloc (.cells #[.bool false, .slice none 0 0, .bool false] 33)).alloc (.cells #[.int .i64 0] 34)).alloc (.cells #[.bool (Lib.hasPrefix s [47]), .slice none 0 0, .bool false] 33))
  rw [hA3] at b0 b1 b2 hsz1
  have k0 : w1.heap[w.heap.size]? = some (.cells #[.bool false, .slice none 0 0, .bool false] 33 (0, 0)) := by
    rw [← hw1, hbel.block _ (by omega), alloc_old _ (by omega), alloc_old _ (by omega), alloc_new]
  have k1 : w1.heap[w.heap.size + 1]? = some (.cells #[.int .i64 0] 34 (0, 0)) := by
    rw [← hw1, hbel.block _ (by omega), alloc_old _ (by omega), ← hA1, alloc_new]
  have k2 : w1.heap[w.heap.size + 2]? = some (.cells #[.bool (Lib.hasPrefix s [47]), .slice none 0 0, .bool false] 33 (0, 0)) := by
    rw [← hw1, hbel.block _ (by omega), ← hA2, alloc_new]
  have hB1 : Below w.heap.size w w1 := by
    rw [← hw1]
    exact ((((Below.refl _ w).alloc (Nat.le_refl _) _).alloc (by simp) _).alloc (by simp; omega) _).trans (hbel.mono (by omega))
  rw [hw1] at b0 b1 b2 hsz1
  clear hw1 hbel hA1 hA2 hA3
  have hw6 : w1.heap.size = w.heap.size + 6 := by omega
  generalize hpf : Lib.hasPrefix s [47] = pf at *
  refine wpIn_rangeFunc_cell rfl h1n (gf := 204) (lb := #[.pointer (some ⟨w.heap.size + 3 + 1, 0, none⟩), .pointer (some ⟨w.heap.size + 3, 0, none⟩), .pointer (some ⟨w.heap.size + 3 + 2, 0, none⟩)]) (by rfl) trivial (enters_of Tryz.func204 (by kernel_rfl) rfl)
    (splitSeq1_cell (8 - 1) (by omega) (w.heap.size + 3) s w1 (by omega) b0 b1 b2) rfl (by omega) KeepsBoxes.trans (KeepsBoxes.refl _ _) (fun A W o h hk => hk.alloc (by omega) o) (fun W l o o' hl hW _ => KeepsBoxes.put (by omega) hW)
    (ParseI nE pf w (w.heap.size + 6)) (ParseX nE w) (by rw [hw6]; exact parseI_own _ _ _ _ (by omega)) (fun c => by rw [hw6]; exact parseX_own _ _ _ (by omega) c) (fun pre W v h => parseI_set _ _ _ _ _ _ h)
    ⟨rfl, k0, k1, ⟨_, k2, World.ownsRow_nil _ _ _ _⟩, hB1, by omega⟩
    (fun x => { tmps := #[.string ⟨s.toArray⟩, undef, .pointer (some ⟨w.heap.size, 0, none⟩), .pointer (some ⟨w.heap.size + 1, 0, none⟩), .pointer (some ⟨w.heap.size + 1 + 1, 0, none⟩), strL x, undef, .bool false, .string ⟨s.toArray⟩, .bool false, undef, .bool false, .string ⟨s.toArray⟩, .int .i64 s.length, .bool false, undef, .string ⟨s.toArray⟩, .bool pf, .agg #[.bool pf, .slice none 0 0, .bool false], .string ⟨s.toArray⟩, iterV (w.heap.size + 1 + 1 + 1), strL x, undef, undef, undef, undef, undef, undef, undef, undef, undef, undef, undef, undef, undef, undef, undef, undef, undef, undef, undef, undef, undef, undef, undef, undef, undef, undef], defers := [] })
    ?assign ?body ?done ?stop
  case assign =>
    intro l x W K hK
    unfold strL at *
    gi_wp2
    exact hK
  case body =>
    rintro l pre x W ⟨hfi, d0, d1, ⟨v, d2, hrow⟩, hB, hsz'⟩ hpre
    have e2 := cell_of d2 2 rfl
    have f2 := free_of d2 2
    have hw6' : w.heap.size + 1 + 1 = w.heap.size + 2 := by omega
    rw [hw6']
    obtain ⟨i0, hi, hz0, hz1, hz2⟩ := info_parts infoStr
    have hset := set_of d2 2 (.bool (isHere x))
    have a0 : (W.setCell ⟨w.heap.size + 2, 2, none⟩ (.bool (isHere x))).heap[w.heap.size]? = _ := (set_other (by simp)).trans d0
    have a1 : (W.setCell ⟨w.heap.size + 2, 2, none⟩ (.bool (isHere x))).heap[w.heap.size + 1]? = _ := (set_other (by simp)).trans d1
    have a2 : (W.setCell ⟨w.heap.size + 2, 2, none⟩ (.bool (isHere x))).heap[w.heap.size + 2]? = some (.cells #[.bool pf, v, .bool (isHere x)] 33 (0, 0)) := set_of d2 2 _
    have ar : StrRow (W.setCell ⟨w.heap.size + 2, 2, none⟩ (.bool (isHere x))) (w.heap.size + 6) v (keptParts pre) := hrow.set' (by omega)
    have aB : Below w.heap.size w (W.setCell ⟨w.heap.size + 2, 2, none⟩ (.bool (isHere x))) := hB.setCell (by simp) _
    have ak : KeepsBoxes (w.heap.size + 3) W (W.setCell ⟨w.heap.size + 2, 2, none⟩ (.bool (isHere x))) := ⟨by simp, fun k hk => set_other (by simp; omega)⟩
    have ao : KeepsOthers W (W.setCell ⟨w.heap.size + 2, 2, none⟩ (.bool (isHere x))) := KeepsOthers.setCell _ _ _
    have az : (W.setCell ⟨w.heap.size + 2, 2, none⟩ (.bool (isHere x))).heap.size = W.heap.size := by simp
    unfold strL
    clear b0 b1 b2 k0 k1 k2 HP HS hset
    by_cases hh : isHere x = true
    · rw [hh] at a0 a1 a2 ar aB ak ao az
      have hI : ParseI nE pf w (w.heap.size + 6) (pre ++ [x]) (W.setCell ⟨w.heap.size + 2, 2, none⟩ (.bool true)) :=
        ⟨by rw [List.find?_append, hfi]; simp [badPart, hh], a0, a1, ⟨v, by rw [lastHere_snoc, hh]; exact a2, by rw [keptParts_snoc, hh]; exact ar⟩, aB, by omega⟩
      have hII := Go.Lib.hid hI
      have hAk := Go.Lib.hid ak
      have hAo := Go.Lib.hid ao
      clear a0 a1 a2 ar aB ak ao az d0 d1 d2 hrow hB hI
      by_cases hx1 : x.isEmpty = true
      · gi_wp2
        all_goals first | exact ⟨hAo.out.from _, hAk.out, hII.out⟩ | (exfalso; simp_all; done)
      · have hx1' : x.isEmpty = false := by simpa using hx1
        have hx2 : (x == [46]) = true := by cases x <;> simp_all [isHere]
        gi_wp2
        all_goals first | exact ⟨hAo.out.from _, hAk.out, hII.out⟩ | (exfalso; simp_all; done)
    · have hx1 : x.isEmpty = false := by cases x <;> simp_all [isHere]
      have hx2 : (x == [46]) = false := by simp_all [isHere]
      have hh' : isHere x = false := by simpa using hh
      rw [hh'] at a0 a1 a2 ar aB ak ao az
      have hNm := Go.Lib.hid (hN x (hpre.subset (by simp)) hh')
      unfold NameIs at hNm
      have hbad : badPart nE x = (decide (nE x ≠ 0) && x != [46, 46]) := by simp [badPart, hh']
      have hfind : (pre ++ [x]).find? (badPart nE) = if badPart nE x = true then some x else none := by
        rw [List.find?_append, hfi]
        cases h : badPart nE x <;> simp [h]
      have hlast : lastHere (pre ++ [x]) = false := by rw [lastHere_snoc, hh']
      have hkept : keptParts (pre ++ [x]) = keptParts pre ++ [x] := by rw [keptParts_snoc, hh']; rfl
      have hklen : (keptParts pre).length + 1 ≤ 4000000000 := by
        have h1 : (keptParts pre).length ≤ pre.length := List.length_filter_le _ _
        have h2 := hpre.length_le
        have h3 := cuts_len s
        simp at h2
        omega
      clear d0 d1 d2 hrow hB hN hpre
      generalize hE : nE x = E at *
      gi_wp2_with (first
        | (gi_at_call 73; refine (CallsIn.inRound l (callsIn_wide.2 (hNm.out _))).mono ?_; rintro e w2 ⟨rfl, hb2⟩; have g0 := (hb2.block _ (heap_lt a0)).trans a0; have g1 := (hb2.block _ (heap_lt a1)).trans a1; have g2 := (hb2.block _ (heap_lt a2)).trans a2; have gr := ar.below hb2; have gB := aB.trans (hb2.mono aB.size); have go' := ao.trans (keepsOthers_of_below hb2); have gk := ak.trans ⟨hb2.size, fun k hk => hb2.block k (by omega)⟩; have c20 := cell_of g2 1 rfl; have fr1 := free_of g2 1; have fz0 := free_of g0 0; have fz1 := free_of g0 1; have fz2 := free_of g0 2; have fz3 := free_of g1 0; have cz0 := cell_of g0 0 rfl; have cz1 := cell_of g0 1 rfl; have cz2 := cell_of g0 2 rfl; have cz3 := cell_of g1 0 rfl; go_frame)
        | (gi_at_builtin; refine wpListIn_append_own _ rfl _ _ 31 rfl (w.heap.size + 6) 9 i0 (.string ⟨#[]⟩) 1 16 Tryz.underlying31 hi hz0 hz1 hz2 rfl (by decide) _ _ _ rfl (gr.owns.alloc _) ⟨w2.heap.size, 0, none⟩ 1 1 [.string ⟨x.toArray⟩] rfl rfl (cell_one_new _ _ _) (by simp [Value.oneCell']) (by simp only [maxLen]; omega) (by omega) (by have := hb2.size; simp; omega) ?_; intro v' w3 hown hgrow _; obtain ⟨g', cap', rfl⟩ := ownsRow_succ hown; obtain ⟨hr3, ho3, hk3⟩ := str_step (x := x) gr hown hgrow; have hos : w3.os = w2.os := hgrow.os; have htp : w3.tape = w2.tape := hgrow.tape; have hout : w3.output = w2.output := hgrow.output; have q0 := (hk3 w.heap.size (by omega) (heap_lt g0)).trans g0; have q1 := (hk3 (w.heap.size + 1) (by omega) (heap_lt g1)).trans g1; have q2 := (hk3 (w.heap.size + 2) (by omega) (heap_lt g2)).trans g2; have fq := free_of q2 1; have cq := cell_of q2 1 rfl; clear hown hgrow; go_frame))
      · have hE0 : E = 0 := by assumption
        have hnb : badPart nE x = false := by rw [hbad]; simp [hE0]
        exact ⟨(go'.trans (ho3.trans (KeepsOthers.setCell _ _ _))).from _, gk.trans ⟨by have := ho3.size; simp; omega, fun k hk => (set_other (show k ≠ w.heap.size + 2 by omega)).trans (hk3 k (by omega) (by have := hb2.size; omega))⟩,
          by rw [hfind, hnb]; rfl, (set_other (show w.heap.size ≠ w.heap.size + 2 by omega)).trans q0, (set_other (show w.heap.size + 1 ≠ w.heap.size + 2 by omega)).trans q1, ⟨_, by rw [hlast]; exact set_of q2 1 _, by rw [hkept]; exact hr3.set' (by omega)⟩,
          ((gB.trans ⟨hos, htp, hout, ho3.size, fun k hk => hk3 k (by omega) (by have := gB.size; omega)⟩).setCell (by simp) _), by have := ho3.size; have := hb2.size; simp; omega⟩
      · obtain ⟨hE1, hx3⟩ : (E != 0) = true ∧ (!x == [46, 46]) = true := by assumption
        have hyb : badPart nE x = true := by
          rw [hbad]
          have h1 : E ≠ 0 := by simpa using hE1
          have h2 : (x != [46, 46]) = true := hx3
          simp [h1, h2]
        have m0 := (set_other (a := ⟨w.heap.size + 1, 0, none⟩) (v := .int .i64 E) (show w.heap.size ≠ w.heap.size + 1 by omega)).trans (set_of (set_of (set_of g0 0 (.bool false)) 1 (.slice none 0 0)) 2 (.bool false))
        have n1 : (((w2.setCell ⟨w.heap.size, 0, none⟩ (.bool false)).setCell ⟨w.heap.size, 1, none⟩ (.slice none 0 0)).setCell ⟨w.heap.size, 2, none⟩ (.bool false)).heap[w.heap.size + 1]? = _ := (set_other (show w.heap.size + 1 ≠ w.heap.size by omega)).trans ((set_other (show w.heap.size + 1 ≠ w.heap.size by omega)).trans ((set_other (show w.heap.size + 1 ≠ w.heap.size by omega)).trans g1))
        have m1 := set_of n1 0 (.int .i64 E)
        exact ⟨(go'.trans ((((KeepsOthers.setCell _ _ _).trans (KeepsOthers.setCell _ _ _)).trans (KeepsOthers.setCell _ _ _)).trans (KeepsOthers.setCell _ _ _))).from _, rfl, (((gB.setCell (by simp) _).setCell (by simp) _).setCell (by simp) _).setCell (by simp) _, m0, x, by rw [hfind, hyb]; rfl, by rw [hE]; exact m1⟩
      · have hor : (E != 0) = false ∨ (!x == [46, 46]) = false := by assumption
        have hnb : badPart nE x = false := by
          rw [hbad]
          rcases hor with h | h
          · have h1 : E = 0 := by simpa using h
            simp [h1]
          · have h2 : (x != [46, 46]) = false := h
            simp [h2]
        exact ⟨(go'.trans (ho3.trans (KeepsOthers.setCell _ _ _))).from _, gk.trans ⟨by have := ho3.size; simp; omega, fun k hk => (set_other (show k ≠ w.heap.size + 2 by omega)).trans (hk3 k (by omega) (by have := hb2.size; omega))⟩,
          by rw [hfind, hnb]; rfl, (set_other (show w.heap.size ≠ w.heap.size + 2 by omega)).trans q0, (set_other (show w.heap.size + 1 ≠ w.heap.size + 2 by omega)).trans q1, ⟨_, by rw [hlast]; exact set_of q2 1 _, by rw [hkept]; exact hr3.set' (by omega)⟩,
          ((gB.trans ⟨hos, htp, hout, ho3.size, fun k hk => hk3 k (by omega) (by have := gB.size; omega)⟩).setCell (by simp) _), by have := ho3.size; have := hb2.size; simp; omega⟩
  case done =>
    rintro D W hD ⟨hfi, d0, d1, ⟨v, d2, hrow⟩, hB, hsz'⟩ hK
    obtain ⟨vp, vc, rfl⟩ : ∃ vp vc, v = .slice vp (keptParts (cuts s)).length vc := by
      rcases hrow.2 with ⟨h1, h2⟩ | ⟨g, cap, cur, h1, _⟩
      · exact ⟨none, 0, by rw [h1, h2]⟩
      · exact ⟨_, _, h1⟩
    have hw6' : w.heap.size + 1 + 1 = w.heap.size + 2 := by omega
    rw [hw6']
    have e0 := cell_of d2 0 rfl
    have e1 := cell_of d2 1 rfl
    have e2 := cell_of d2 2 rfl
    have z0 := cell_of d0 0 rfl
    have z1 := cell_of d0 1 rfl
    have z2 := cell_of d0 2 rfl
    have z3 := cell_of d1 0 rfl
    have f0 := free_of d0 0
    have f1 := free_of d0 1
    have f2 := free_of d0 2
    have f3 := free_of d1 0
    clear b0 b1 b2 k0 k1 k2 HP HS
    gi_wp2
    have m0 := (set_other (a := ⟨w.heap.size + 1, 0, none⟩) (v := .int .i64 0) (show w.heap.size ≠ w.heap.size + 1 by omega)).trans (set_of (set_of (set_of d0 0 (.bool pf)) 1 (.slice vp (keptParts (cuts s)).length vc)) 2 (.bool (lastHere (cuts s))))
    have n1 : (((W.setCell ⟨w.heap.size, 0, none⟩ (.bool pf)).setCell ⟨w.heap.size, 1, none⟩ (.slice vp (keptParts (cuts s)).length vc)).setCell ⟨w.heap.size, 2, none⟩ (.bool (lastHere (cuts s)))).heap[w.heap.size + 1]? = _ := (set_other (show w.heap.size + 1 ≠ w.heap.size by omega)).trans ((set_other (show w.heap.size + 1 ≠ w.heap.size by omega)).trans ((set_other (show w.heap.size + 1 ≠ w.heap.size by omega)).trans d1))
    have m1 := set_of n1 0 (.int .i64 0)
    have hKF := ((((KeepsOthers.setCell W ⟨w.heap.size, 0, none⟩ (.bool pf)).trans (KeepsOthers.setCell _ ⟨w.heap.size, 1, none⟩ (.slice vp (keptParts (cuts s)).length vc))).trans (KeepsOthers.setCell _ ⟨w.heap.size, 2, none⟩ (.bool (lastHere (cuts s))))).trans (KeepsOthers.setCell _ ⟨w.heap.size + 1, 0, none⟩ (.int .i64 0))).same D _ hK rfl
    have hrF : StrRow ((((W.setCell ⟨w.heap.size, 0, none⟩ (.bool pf)).setCell ⟨w.heap.size, 1, none⟩ (.slice vp (keptParts (cuts s)).length vc)).setCell ⟨w.heap.size, 2, none⟩ (.bool (lastHere (cuts s)))).setCell ⟨w.heap.size + 1, 0, none⟩ (.int .i64 0)) (w.heap.size + 6) _ _ := (((hrow.set' (i := 0) (k := w.heap.size) (by omega)).set' (by omega)).set' (by omega)).set' (by omega)
    have hBF : Below w.heap.size w ((((W.setCell ⟨w.heap.size, 0, none⟩ (.bool pf)).setCell ⟨w.heap.size, 1, none⟩ (.slice vp (keptParts (cuts s)).length vc)).setCell ⟨w.heap.size, 2, none⟩ (.bool (lastHere (cuts s)))).setCell ⟨w.heap.size + 1, 0, none⟩ (.int .i64 0)) := (((hB.setCell (by simp) _).setCell (by simp) _).setCell (by simp) _).setCell (by simp) _
    generalize (((W.setCell ⟨w.heap.size, 0, none⟩ (.bool pf)).setCell ⟨w.heap.size, 1, none⟩ (.slice vp (keptParts (cuts s)).length vc)).setCell ⟨w.heap.size, 2, none⟩ (.bool (lastHere (cuts s)))).setCell ⟨w.heap.size + 1, 0, none⟩ (.int .i64 0) = WF at *
    have hg := grownBy_putObj' WF D (.deferred none)
    have hr : ∀ r, some D = some r → ∃ o : Obj, WF.heap[r]? = some o ∧ o.isCells = false := fun r e => by cases e; exact ⟨_, hKF, rfl⟩
    have y0 := cell_kept (cell_of m0 0 rfl) hg hr
    have y1 := cell_kept (cell_of m0 1 rfl) hg hr
    have y2 := cell_kept (cell_of m0 2 rfl) hg hr
    have y3 := cell_kept (cell_of m1 0 rfl) hg hr
    refine ⟨by simp, .inl ⟨_, _, rfl, run_takeDeferred hKF, ?_⟩⟩
    refine ⟨.tuple #[wayV pf (.slice vp (keptParts (cuts s)).length vc) (lastHere (cuts s)), .int .i64 0], by simp [results, Tryz.results15, go_sem, y0, y1, y2, y3, wayV], ?_⟩
    unfold ParsePost
    rw [hfi, hpf]
    refine ⟨hBF.trans (belowK_b (w := w) (Nat.le_refl _) WF D _ _ (by omega) hKF rfl rfl), _, rfl, ?_⟩
    have hrF' := ownsRow_putObj hrF.owns (.deferred none) hKF rfl
    refine ⟨hrF'.1, ?_⟩
    rcases hrF'.2 with h1 | ⟨g, cap, cur, h1, h2, h3⟩
    · exact .inl h1
    · exact .inr ⟨g, cap, cur, h1, by omega, h3⟩
  case stop =>
    rintro D c pre W hD hpre ⟨rfl, hB, d0, p, hp, d1⟩ hK
    have hf : (cuts s).find? (badPart nE) = some p := by
      obtain ⟨t, ht⟩ := hpre
      rw [← ht]
      simp [List.find?_append, hp]
    have e0 := cell_of d0 0 rfl
    have e1 := cell_of d0 1 rfl
    have e2 := cell_of d0 2 rfl
    have e3 := cell_of d1 0 rfl
    have hg := grownBy_putObj' W D (.deferred none)
    have hr : ∀ r, some D = some r → ∃ o : Obj, W.heap[r]? = some o ∧ o.isCells = false := fun r e => by cases e; exact ⟨_, hK, rfl⟩
    have e0' := cell_kept e0 hg hr
    have e1' := cell_kept e1 hg hr
    have e2' := cell_kept e2 hg hr
    have e3' := cell_kept e3 hg hr
    gi_wp2
    refine ⟨by simp, .inl ⟨_, _, rfl, run_takeDeferred hK, ?_⟩⟩
    refine ⟨.tuple #[wayV false (.slice none 0 0) false, .int .i64 (nE p)], by simp [results, Tryz.results15, go_sem, e0', e1', e2', e3', wayV], ?_⟩
    unfold ParsePost
    rw [hf]
    exact ⟨hB.trans (belowK_b (w := w) (Nat.le_refl _) W D _ _ (by omega) hK rfl rfl), rfl⟩
end Go.Proofs.Gab
