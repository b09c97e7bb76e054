/-
  (*Tree).Walk where no link is met and no directory is asked for.
-/
import Derived.Test.YtbkgmhakiboioaaGreatDoorGw1
namespace Go.Proofs.Gab
open Go.RowKit Go.Maps Go.ChangeMaps Go.Shelf Go.Lib

inductive Steps (T : Tr) : Int → List (List UInt8) → Int → Prop
  | nil (a : Int) : Steps T a [] a
  | cons {a n e : Int} {p : List UInt8} {ps : List (List UInt8)} {x : Nd} (h1 : T.part a p = (n, 0)) (h2 : (Lit.int .i64 n).wf = true) (h3 : T.get? n = some x) (h4 : x.ino.kind ≠ 3) (h5 : p.length ≤ 4294967280) (h6 : Steps T n ps e) : Steps T a (p :: ps) e
/-- how many parts are left -/
def leftN (w : World) (bw : Nat) : Nat := match w.cell? ⟨bw, 2, none⟩ with | some (.slice _ n _) => n | _ => 0
/-- what a walker has left -/
def LeftAt (w : World) (lv : Value) (ps : List (List UInt8)) : Prop := ∃ q c, lv = .slice q ps.length c ∧ (ps ≠ [] → ∃ g off, q = some ⟨g, off, none⟩ ∧ StrsIn w g off ps ∧ ps.length ≤ c ∧ c ≤ maxLen)
theorem LeftAt.keep {w w' : World} {lv : Value} {ps : List (List UInt8)} (h : LeftAt w lv ps) (hk : ∀ (g : Nat) (cur : Array Value), w.heap[g]? = some (Obj.cells cur 9 (0, 0)) → w'.heap[g]? = w.heap[g]?) : LeftAt w' lv ps := by
  obtain ⟨q, c, h1, h2⟩ := h
  refine ⟨q, c, h1, fun hne => ?_⟩
  obtain ⟨g, off, h3, ⟨cur, h4, h5⟩, h6⟩ := h2 hne
  exact ⟨g, off, h3, ⟨cur, (hk g cur h4).trans h4, h5⟩, h6⟩

section
variable {w : World} {own : Nat → Option Tag} {β : Int → Nat} {t bn bs be B : Nat} {T : Tr}
/-- a step, as the loop needs it -/
theorem wstep_loop (h : TreeLay w own β t bn bs be B T) (hB : B ≤ 1073741824) (hD : T.Dirs) {bw : Nat} {a n : Int} {x : Nd} {p : List UInt8} {ps : List (List UInt8)} {lv : Value} {last : Bool} {links : Int} (hat : (Lit.int .i64 a).wf = true)
    (hw : w.heap[bw]? = some (.cells (walkC t a lv false links) 188 (0, 0))) (hown : own bw = none) (hl : LeftAt w lv (p :: ps))
    (h1 : T.part a p = (n, 0)) (h2 : (Lit.int .i64 n).wf = true) (h3 : T.get? n = some x) (h4 : x.ino.kind ≠ 3) (h5 : p.length ≤ 4294967280) :
    Calls Tryz.prog 76 #[.pointer (some ⟨bw, 0, none⟩), .bool last] w fun e w' => e = .returned (.int .i64 0) ∧ Fr (fun k => k = bw) w w' ∧ w'.heap.size = w.heap.size ∧ ∃ lv', w'.heap[bw]? = some (.cells (walkC t n lv' false links) 188 (0, 0)) ∧ LeftAt w' lv' ps := by
  obtain ⟨q, c, rfl, hq⟩ := hl
  obtain ⟨g, off, rfl, hs, hc, hc2⟩ := hq (by simp)
  obtain ⟨cur, hcur, hcs⟩ := hs
  have hgb : g ≠ bw := by
    rintro rfl
    rw [hw] at hcur
    simp at hcur
  refine (wstep_ok h hB hD hat hw hown ⟨cur, hcur, hcs⟩ h5 (by simpa using hc) hc2 h1 h2 h3 h4).mono ?_
  rintro e' w' ⟨rfl, k, rfl⟩
  unfold walkC at hw
  have hw1 := set_of hw 2 (nextLeft g off ps.length c)
  have hw2 : (((w.setCell ⟨bw, 2, none⟩ (nextLeft g off ps.length c)).drewN k).setCell ⟨bw, 1, none⟩ (.int .i64 n)).heap[bw]? = _ := set_of (w := (w.setCell ⟨bw, 2, none⟩ (nextLeft g off ps.length c)).drewN k) hw1 1 (.int .i64 n)
  refine ⟨rfl, ((Fr.setCell w ⟨bw, 2, none⟩ _ (F := fun k => k = bw) rfl).trans (Fr.drewN _ k _)).trans (Fr.setCell _ ⟨bw, 1, none⟩ _ (F := fun k => k = bw) rfl), by simp, _, hw2, ?_⟩
  refine ⟨_, _, rfl, fun hne => ⟨g, _, rfl, ⟨cur, ?_, ?_⟩, ?_, ?_⟩⟩
  · exact (set_other hgb).trans ((set_other hgb).trans hcur)
  · intro i hi
    have hc1 : c ≠ 1 := by
      intro e
      have : ps.length = 0 := by simp at hc; omega
      exact hne (List.eq_nil_of_length_eq_zero this)
    rw [if_neg hc1]
    have := hcs (i + 1) (by simp; omega)
    rw [show off + 1 + i = off + (i + 1) by omega]
    simpa using this
  · simp at hc; omega
  · omega
set_option maxRecDepth 100000 in
set_option maxHeartbeats 1000000 in
theorem tWalk_steps (h : TreeLay w own β t bn bs be B T) (hB : B ≤ 1073741824) (hD : T.Dirs) {n e : Int} {x : Nd} {ab : Bool} {lv : Value} {ps : List (List UInt8)} {last : Bool} (hn : (Lit.int .i64 n).wf = true) (hx : T.get? n = some x)
    (hl : LeftAt w lv ps) (hs : Steps T (if ab then 1 else n) ps e) :
    Calls Tryz.prog 17 #[.pointer (some ⟨t, 0, none⟩), .int .i64 n, wayV ab lv false, .bool last] w fun e' w' => e' = .returned (.tuple #[.int .i64 e, .int .i64 0]) ∧ Below w.heap.size w w' := by
  have HG := Go.Lib.hid (p := ∀ w', Below w.heap.size w w' → _) (fun w' hb => tget_some (h.below hb) hn hx)
  obtain ⟨q, c, hlv, hq⟩ := hl
  subst hlv
  unfold wayV
  have HL := Go.Lib.hid hq
  have HH := Go.Lib.hid h
  clear hq h
  cases ab with
  | true =>
    go_enter Tryz.func17, Tryz.ntmps17
    go_wp2_with (go_at_call 75; refine (HG.out _ ((Below.refl _ _).alloc (Nat.le_refl _) _)).mono ?_; rintro e w1 ⟨rfl, rfl⟩)
    go_loopw [13] (fun _ wr => ∃ (a : Int) (ps' : List (List UInt8)) (lv' : Value) (links : Int), wr.heap[w.heap.size + 1]? = some (.cells (walkC t a lv' false links) 188 (0, 0)) ∧ (Lit.int .i64 a).wf = true ∧ LeftAt wr lv' ps' ∧ Steps T a ps' e ∧ Below w.heap.size w wr) (fun _ wr => leftN wr (w.heap.size + 1))
    case atStart =>
      have hbb : Below w.heap.size w ((w.alloc (.cells #[.bool true, .slice q ps.length c, .bool false] 33)).alloc (.cells (walkC t 1 (.slice q ps.length c) false 0) 188)) := ((Below.refl _ w).alloc (Nat.le_refl _) _).alloc (by simp) _
      have hlw : LeftAt w (.slice q ps.length c) ps := ⟨q, c, rfl, HL.out⟩
      exact ⟨1, ps, _, 0, (two_new w _ _).2, wf1, hlw.keep (fun g cur hg => hbb.block g (heap_lt hg)), by simpa using hs, hbb⟩
    case round =>
      obtain ⟨a, ps', lv', links, hwk, hwa, hleft, hst, hbl⟩ := hrel
      cases hst with
      | nil =>
        obtain ⟨q', c', rfl, _⟩ := hleft
        unfold walkC at hwk
        have k1 := cell_of hwk 1 rfl
        have k2 := cell_of hwk 2 rfl
        have k3 := cell_of hwk 3 rfl
        simp only [List.length_nil] at k2
        clear hwk
        go_wp2
        go_ret2
        exact ⟨rfl, hbl⟩
      | cons h1 h2 h3 h4 h5 h6 =>
        rename_i n' p' ps'' x'
        have hwl : own (w.heap.size + 1) = none := by
          cases ho : own (w.heap.size + 1) with
          | none => rfl
          | some tg => have := HH.out.olt _ (by rw [ho]; simp); omega
        have hS := wstep_loop (HH.out.below hbl) hB hD (last := last) hwa hwk hwl hleft h1 h2 h3 h4 h5
        have HS := Go.Lib.hid hS
        obtain ⟨q', c', rfl, _⟩ := hleft
        unfold walkC at hwk
        have k2 := cell_of hwk 2 rfl
        have hpos : decide (((p' :: ps'').length : Int) > 0) = true := by simp
        have hm : leftN wr (w.heap.size + 1) = ps''.length + 1 := by
          unfold leftN; rw [k2]; simp
        clear hwk hS h1 h3 h4
        go_wp2_with (go_at_call 76; refine HS.out.mono ?_; rintro e' w2 ⟨rfl, hf2, hs2, lv2, hw2, hl2⟩; go_frame)
        go_roundw
        case rel => exact ⟨n', ps'', lv2, links, hw2, h2, hl2, h6, hbl.trans (hf2.below hbl.size (fun k hk e => by omega))⟩
        case measure =>
          rw [hm]
          obtain ⟨q2, c2, rfl, _⟩ := hl2
          unfold walkC at hw2
          have k22 := cell_of hw2 2 rfl
          unfold leftN
          rw [k22]
          simp
  | false =>
    go_enter Tryz.func17, Tryz.ntmps17
    go_wp2_with (go_at_call 75; refine (HG.out _ ((Below.refl _ _).alloc (Nat.le_refl _) _)).mono ?_; rintro e w1 ⟨rfl, rfl⟩)
    go_loopw [13] (fun _ wr => ∃ (a : Int) (ps' : List (List UInt8)) (lv' : Value) (links : Int), wr.heap[w.heap.size + 1]? = some (.cells (walkC t a lv' false links) 188 (0, 0)) ∧ (Lit.int .i64 a).wf = true ∧ LeftAt wr lv' ps' ∧ Steps T a ps' e ∧ Below w.heap.size w wr) (fun _ wr => leftN wr (w.heap.size + 1))
    case atStart =>
      have hbb : Below w.heap.size w ((w.alloc (.cells #[.bool false, .slice q ps.length c, .bool false] 33)).alloc (.cells (walkC t n (.slice q ps.length c) false 0) 188)) := ((Below.refl _ w).alloc (Nat.le_refl _) _).alloc (by simp) _
      have hlw : LeftAt w (.slice q ps.length c) ps := ⟨q, c, rfl, HL.out⟩
      exact ⟨n, ps, _, 0, (two_new w _ _).2, hn, hlw.keep (fun g cur hg => hbb.block g (heap_lt hg)), by simpa using hs, hbb⟩
    case round =>
      obtain ⟨a, ps', lv', links, hwk, hwa, hleft, hst, hbl⟩ := hrel
      cases hst with
      | nil =>
        obtain ⟨q', c', rfl, _⟩ := hleft
        unfold walkC at hwk
        have k1 := cell_of hwk 1 rfl
        have k2 := cell_of hwk 2 rfl
        have k3 := cell_of hwk 3 rfl
        simp only [List.length_nil] at k2
        clear hwk
        go_wp2
        go_ret2
        exact ⟨rfl, hbl⟩
      | cons h1 h2 h3 h4 h5 h6 =>
        rename_i n' p' ps'' x'
        have hwl : own (w.heap.size + 1) = none := by
          cases ho : own (w.heap.size + 1) with
          | none => rfl
          | some tg => have := HH.out.olt _ (by rw [ho]; simp); omega
        have hS := wstep_loop (HH.out.below hbl) hB hD (last := last) hwa hwk hwl hleft h1 h2 h3 h4 h5
        have HS := Go.Lib.hid hS
        obtain ⟨q', c', rfl, _⟩ := hleft
        unfold walkC at hwk
        have k2 := cell_of hwk 2 rfl
        have hpos : decide (((p' :: ps'').length : Int) > 0) = true := by simp
        have hm : leftN wr (w.heap.size + 1) = ps''.length + 1 := by
          unfold leftN; rw [k2]; simp
        clear hwk hS h1 h3 h4
        go_wp2_with (go_at_call 76; refine HS.out.mono ?_; rintro e' w2 ⟨rfl, hf2, hs2, lv2, hw2, hl2⟩; go_frame)
        go_roundw
        case rel => exact ⟨n', ps'', lv2, links, hw2, h2, hl2, h6, hbl.trans (hf2.below hbl.size (fun k hk e => by omega))⟩
        case measure =>
          rw [hm]
          obtain ⟨q2, c2, rfl, _⟩ := hl2
          unfold walkC at hw2
          have k22 := cell_of hw2 2 rfl
          unfold leftN
          rw [k22]
          simp
end
end Go.Proofs.Gab
