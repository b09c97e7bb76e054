/-
  A tree: New, Len, dir, open, Up, Find.
-/
import Derived.Test.YtbkgmhakiboioaaGreatDoorGt0
import Derived.Deep.RegionWith
import Derived.Deep.RegionHeld3
namespace Go.Proofs.Gab
open Go.RowKit Go.Maps Go.ChangeMaps Go.Deep

def rootIno : Ino := ⟨2, 2, 0, [], ByteArray.empty⟩
def rootNd : Nd := ⟨rootIno, some [], 1, 0⟩
def newTr : Tr := ⟨[(1, rootNd)], [], []⟩

/-- the four blocks that New makes first -/
def new4 (w : World) : World := (((w.alloc (.map #[] 0)).alloc (.map #[] 0)).alloc (.map #[] 0)).alloc (.cells #[.map (some w.heap.size), .map (some (w.heap.size + 1)), .map (some (w.heap.size + 1 + 1))] 161)
def rootCells (d : Nat) : Array Value := #[.int .u8 2, .int .i64 2, .int .i64 0, .slice none 0 0, .string ⟨#[]⟩, .pointer (some ⟨d, 0, none⟩), .int .i64 1, .int .i64 0]
theorem new4_size (w : World) : (new4 w).heap.size = w.heap.size + 4 := by simp [new4]
theorem alloc_get (w : World) (o : Obj) (k : Nat) : (w.alloc o).heap[k]? = if k = w.heap.size then some o else w.heap[k]? := by
  show (w.heap.push o)[k]? = _
  rw [Array.getElem?_push]
theorem new4_heap (w : World) : (new4 w).heap[w.heap.size]? = some (.map #[] 0) ∧ (new4 w).heap[w.heap.size + 1]? = some (.map #[] 0) ∧ (new4 w).heap[w.heap.size + 1 + 1]? = some (.map #[] 0) ∧
    (new4 w).heap[w.heap.size + 1 + 1 + 1]? = some (.cells #[.map (some w.heap.size), .map (some (w.heap.size + 1)), .map (some (w.heap.size + 1 + 1))] 161 (0, 0)) := by
  unfold new4
  have s1 : (w.alloc (.map #[] 0)).heap.size = w.heap.size + 1 := by simp
  have s2 : ((w.alloc (.map #[] 0)).alloc (.map #[] 0)).heap.size = w.heap.size + 1 + 1 := by simp
  have s3 : (((w.alloc (.map #[] 0)).alloc (.map #[] 0)).alloc (.map #[] 0)).heap.size = w.heap.size + 1 + 1 + 1 := by simp
  refine ⟨?_, ?_, ?_, ?_⟩
  · rw [alloc_old _ (by omega), alloc_old _ (by omega), alloc_old _ (by omega), alloc_new]
  · rw [alloc_old _ (by omega), alloc_old _ (by omega), ← s1, alloc_new]
  · rw [alloc_old _ (by omega), ← s2, alloc_new]
  · rw [← s3, alloc_new]
theorem new4_below (w : World) : Below w.heap.size w (new4 w) := ((((Below.refl _ _).alloc (Nat.le_refl _) _).alloc (by simp) _).alloc (by simp; omega) _).alloc (by simp; omega) _
theorem empty_map {w : World} {b : Nat} (h : w.heap[b]? = some (.map #[] 0)) (kt : TypeId) : MapOf Tryz.prog kt w b [] := ⟨#[], 0, h, MapKept.stamped_empty 0, by simp, by simp, by simp⟩
theorem wf1 : (Lit.int .i64 1).wf = true := by decide
/-- what New comes to -/
theorem new_lay {w w1 w2 : World} {d : Nat} (hB : Below (new4 w).heap.size (new4 w) w1) (hle : (new4 w).heap.size ≤ d) (hd : DirAt w1 (fun k => (new4 w).heap.size ≤ k ∧ k < w1.heap.size) d 0 [])
    (hm : MapOf Tryz.prog 3 w2 w.heap.size [(.int .i64 1, .pointer (some ⟨w1.heap.size, 0, none⟩))]) (hf : Fr (fun k => k = w.heap.size) (w1.alloc (.cells (rootCells d) 166)) w2) :
    ∃ own β t bn bs be, some ⟨w.heap.size + 1 + 1 + 1, 0, none⟩ = some (⟨t, 0, none⟩ : Addr) ∧ Below w.heap.size w w2 ∧ TreeLay w2 own β t bn bs be 0 newTr ∧ ∀ k, own k ≠ none → w.heap.size ≤ k := by
  have hs := new4_size w
  have hs1 := hB.size
  obtain ⟨g0, g1, g2, g3⟩ := new4_heap w
  have old : ∀ k o, k < (new4 w).heap.size → k ≠ w.heap.size → (new4 w).heap[k]? = some o → w2.heap[k]? = some o := by
    intro k o hk hne ho
    refine hf.heap ?_ hne
    rw [alloc_old _ (by omega), hB.block k hk]; exact ho
  have hs2 := hf.size
  simp at hs2
  have hnode : w2.heap[w1.heap.size]? = some (.cells (rootCells d) 166 (0, 0)) := hf.heap (alloc_new _ _) (by omega)
  have hd2 : DirAt w2 (fun k => (new4 w).heap.size ≤ k ∧ k < w1.heap.size) d 0 [] := (hd.frame (Fr.alloc w1 _ (fun _ => False)) (fun _ _ => id)).frame hf (fun k hk => by omega)
  refine ⟨fun k => if k = w.heap.size + 1 + 1 + 1 then some .head else if k = w.heap.size then some .nodes else if k = w.heap.size + 1 then some .spots else if k = w.heap.size + 1 + 1 then some .seen else if k = w1.heap.size then some (.node 1) else if (new4 w).heap.size ≤ k ∧ k < w1.heap.size then some (.dir 1) else none,
    fun _ => w1.heap.size, w.heap.size + 1 + 1 + 1, w.heap.size, w.heap.size + 1, w.heap.size + 1 + 1, rfl, ?_, ?_, ?_⟩
  · refine (new4_below w).trans ((hB.mono (by omega)).trans ⟨hf.os, hf.tape, hf.output, by have := hf.size; simp at this; omega, fun k hk => ?_⟩)
    rw [hf.block k (by simp; omega) (by omega), alloc_old _ (by omega)]
  · refine ⟨old _ _ (by omega) (by omega) g3, by simp, hm, by simp <;> omega, ?_, by simp <;> omega, ?_, by simp <;> omega, ?_, ?_, by simp [newTr, ISort], by simp [newTr, ISort], by simp [newTr, SSort], by simp [newTr], by simp [newTr], by simp [newTr]⟩
    · exact empty_map (old _ _ (by omega) (by omega) g1) _
    · exact empty_map (old _ _ (by omega) (by omega) g2) _
    · intro n x hx
      simp [newTr] at hx
      obtain ⟨rfl, rfl⟩ := hx
      refine ⟨.slice none 0 0, .pointer (some ⟨d, 0, none⟩), hnode, ?_, .inl ⟨rfl, .inl rfl⟩, d, rfl, ?_⟩
      · have e1 : w1.heap.size ≠ w.heap.size + 1 + 1 + 1 := by omega
        have e2 : w1.heap.size ≠ w.heap.size := by omega
        have e3 : w1.heap.size ≠ w.heap.size + 1 := by omega
        have e4 : w1.heap.size ≠ w.heap.size + 1 + 1 := by omega
        simp [e1, e2, e3, e4]
      · refine hd2.wider ?_ ?_
        · intro k hk
          have e1 : k ≠ w.heap.size + 1 + 1 + 1 := by omega
          have e2 : k ≠ w.heap.size := by omega
          have e3 : k ≠ w.heap.size + 1 := by omega
          have e4 : k ≠ w.heap.size + 1 + 1 := by omega
          have e5 : k ≠ w1.heap.size := by omega
          simp [e1, e2, e3, e4, e5, hk]
        · intro k hk
          try dsimp only at hk
          split at hk
          · cases hk
          split at hk
          · cases hk
          split at hk
          · cases hk
          split at hk
          · cases hk
          split at hk
          · cases hk
          split at hk
          · rename_i h; omega
          · cases hk
    · intro k hk
      try dsimp only at hk
      split at hk
      · omega
      split at hk
      · omega
      split at hk
      · omega
      split at hk
      · omega
      split at hk
      · omega
      split at hk
      · omega
      · exact absurd rfl hk
  · intro k hk
    try dsimp only at hk
    split at hk
    · omega
    split at hk
    · omega
    split at hk
    · omega
    split at hk
    · omega
    split at hk
    · omega
    split at hk
    · omega
    · exact absurd rfl hk
theorem below_undrew {B : Nat} {w w' : World} (h : Below B w.drew w') : Below B w w' := ⟨h.os, h.tape, h.output, h.size, h.block⟩
def NewPost (w : World) (e : Ending) (w' : World) : Prop := ∃ own β t bn bs be, e = .returned (.pointer (some ⟨t, 0, none⟩)) ∧ Below w.heap.size w w' ∧ TreeLay w' own β t bn bs be 0 newTr ∧ ∀ k, own k ≠ none → w.heap.size ≤ k
theorem new_done {w w1 w2 : World} {d : Nat} (hB : Below (new4 w).heap.size (new4 w) w1) (hle : (new4 w).heap.size ≤ d) (hd : DirAt w1 (fun k => (new4 w).heap.size ≤ k ∧ k < w1.heap.size) d 0 [])
    (hm : MapOf Tryz.prog 3 w2 w.heap.size [(.int .i64 1, .pointer (some ⟨w1.heap.size, 0, none⟩))]) (hf : Fr (fun k => k = w.heap.size) (w1.alloc (.cells (rootCells d) 166)) w2) : NewPost w (.returned (.pointer (some ⟨w.heap.size + 1 + 1 + 1, 0, none⟩))) w2 := by
  obtain ⟨own, β, t, bn, bs, be, e, h⟩ := new_lay hB hle hd hm hf
  exact ⟨own, β, t, bn, bs, be, by rw [e], h⟩
theorem new_store {w w1 : World} {d : Nat} (hB : Below (new4 w).heap.size (new4 w) w1) : ∃ o, (Instr.mapUpdate 157 (.map (some w.heap.size)) (.int .i64 1) (.pointer (some ⟨w1.heap.size, 0, none⟩))).run Tryz.prog (w1.alloc (.cells (rootCells d) 166)) = .ok () (setBlock (w1.alloc (.cells (rootCells d) 166)) w.heap.size o) ∧
    MapOf Tryz.prog 3 (setBlock (w1.alloc (.cells (rootCells d) 166)) w.heap.size o) w.heap.size [(.int .i64 1, .pointer (some ⟨w1.heap.size, 0, none⟩))] ∧ Fr (fun k => k = w.heap.size) (w1.alloc (.cells (rootCells d) 166)) (setBlock (w1.alloc (.cells (rootCells d) 166)) w.heap.size o) ∧ (setBlock (w1.alloc (.cells (rootCells d) 166)) w.heap.size o).cell? ⟨w.heap.size + 1 + 1 + 1, 0, none⟩ = some (.map (some w.heap.size)) := by
  have hs := new4_size w
  have hs1 := hB.size
  have h0 : (w1.alloc (.cells (rootCells d) 166)).heap[w.heap.size]? = some (.map #[] 0) := by
    rw [alloc_old _ (by omega), hB.block _ (by omega)]; exact (new4_heap w).1
  obtain ⟨o, h1, h2⟩ := (empty_map h0 3).store lawI Tryz.underlying157 (key := .int .i64 1) (val := .pointer (some ⟨w1.heap.size, 0, none⟩)) (by simp [maxLen]) (keyI wf1) [(.int .i64 1, .pointer (some ⟨w1.heap.size, 0, none⟩))] (by simp) (by simp) (by simp) (by simp)
  refine ⟨o, h1, h2, Fr.setBlock h0 o rfl, ?_⟩
  have h3 : (w1.alloc (.cells (rootCells d) 166)).heap[w.heap.size + 1 + 1 + 1]? = some (.cells #[.map (some w.heap.size), .map (some (w.heap.size + 1)), .map (some (w.heap.size + 1 + 1))] 161 (0, 0)) := by
    rw [alloc_old _ (by omega), hB.block _ (by omega)]; exact (new4_heap w).2.2.2
  exact cell_of ((Fr.setBlock h0 o (F := fun k => k = w.heap.size) rfl).heap h3 (by omega)) 0 rfl
set_option maxRecDepth 100000 in
theorem tNew_any (w : World) : Calls Tryz.prog 11 #[] w (NewPost w) := by
  have hmm := @run_makeMap Tryz.prog
  have HC := Go.Lib.hid (p := ∀ w, _) (fun w => dNew_any w)
  go_enter Tryz.func11, Tryz.ntmps11
  go_wp2
  have c0 := cell_of (new4_heap w).2.2.2 0 rfl
  unfold new4 at c0
  go_region_held3 (fun w' => w'.cell? ⟨w.heap.size + 1 + 1 + 1, 0, none⟩ = some (.map (some w.heap.size))) (go_keep) (first
    | (go_at_call 61; go_must (refine (HC.out _).mono ?_; rintro e w1 ⟨d, rfl, hB0, hle0, hd0⟩; have hB : Below (new4 w).heap.size (new4 w) w1 := below_undrew hB0; have hle : (new4 w).heap.size ≤ d := hle0; have hd : DirAt w1 (fun k => (new4 w).heap.size ≤ k ∧ k < w1.heap.size) d 0 [] := hd0; clear hB0 hle0 hd0; obtain ⟨o, hrun, hm, hf, c2⟩ := new_store (d := d) hB; unfold rootCells at hrun c2; have c1 : w1.cell? ⟨w.heap.size + 1 + 1 + 1, 0, none⟩ = some (.map (some w.heap.size)) := cell_of ((hB.block _ (by rw [new4_size]; omega)).trans (new4_heap w).2.2.2) 0 rfl; have HD := Go.Lib.hid (new_done hB hle hd hm hf); unfold rootCells at HD; clear hB hle hd hm hf)))
  go_wp2
  go_ret
  exact HD.out

section
variable {w : World} {own : Nat → Option Tag} {β : Int → Nat} {t bn bs be B : Nat} {T : Tr}
/-- a call that hands back a node, the world as it was -/
def HasNode (f : Nat) (tv : Value) (n : Int) (b : Nat) (w : World) : Prop := Calls Tryz.prog f #[tv, .int .i64 n] w fun e w' => e = .returned (.tuple #[.pointer (some ⟨b, 0, none⟩), .int .i64 0]) ∧ w = w'
set_option maxRecDepth 100000 in
theorem tdir_dir (h : TreeLay w own β t bn bs be B T) {n : Int} {x : Nd} (hn : (Lit.int .i64 n).wf = true) (hx : T.get? n = some x) (hk : x.ino.kind = 2) : HasNode 77 (.pointer (some ⟨t, 0, none⟩)) n (β n) w := by
  unfold HasNode
  obtain ⟨bv, dv, hnd⟩ := h.node' hx
  have c0 := cell_of hnd.cells 0 rfl
  have HG := Go.Lib.hid (tget_some h hn hx)
  rw [hk] at c0
  clear h hnd hk hx
  go_enter Tryz.func77, Tryz.ntmps77
  go_wp2_with (go_at_call 75; refine HG.out.mono ?_; rintro e w1 ⟨rfl, rfl⟩)
  go_ret2
  exact ⟨rfl, rfl⟩
set_option maxRecDepth 100000 in
theorem tdir_file (h : TreeLay w own β t bn bs be B T) {n : Int} {x : Nd} (hn : (Lit.int .i64 n).wf = true) (hx : T.get? n = some x) (hk : x.ino.kind ≠ 2) : NoNode 77 16 (.pointer (some ⟨t, 0, none⟩)) n w := by
  unfold NoNode
  obtain ⟨bv, dv, hnd⟩ := h.node' hx
  have c0 := cell_of hnd.cells 0 rfl
  have HG := Go.Lib.hid (tget_some h hn hx)
  have hk' : (x.ino.kind != 2) = true := by simpa using hk
  generalize x.ino.kind = k at *
  clear h hnd hk hx
  go_enter Tryz.func77, Tryz.ntmps77
  go_wp2_with (go_at_call 75; refine HG.out.mono ?_; rintro e w1 ⟨rfl, rfl⟩)
  go_ret2
  exact ⟨rfl, rfl⟩
theorem tdir_none (h : TreeLay w own β t bn bs be B T) {n : Int} (hn : (Lit.int .i64 n).wf = true) (hx : T.get? n = none) : NoNode 77 13 (.pointer (some ⟨t, 0, none⟩)) n w := tdir_of (tget_none h hn hx) (by decide)
theorem tdir_nil (n : Int) (w : World) : NoNode 77 1 (.pointer none) n w := tdir_of (tget_nil n w) (by decide)
theorem topen_nil (n : Int) (w : World) : NoNode 85 1 (.pointer none) n w := topen_of (tdir_nil n w) (by decide)
/-- dir, whatever stands there -/
theorem tdir_no (h : TreeLay w own β t bn bs be B T) {n : Int} (hn : (Lit.int .i64 n).wf = true) (hE : T.dirE n ≠ 0) : NoNode 77 (T.dirE n) (.pointer (some ⟨t, 0, none⟩)) n w := by
  unfold Tr.dirE at *
  cases hx : T.get? n with
  | none => exact tdir_none h hn hx
  | some x =>
    rw [hx] at hE
    simp only at hE ⊢
    by_cases hk : x.ino.kind = 2
    · rw [if_pos hk] at hE; exact absurd rfl hE
    · rw [if_neg hk]; exact tdir_file h hn hx hk
theorem Tr.dir_ok {n : Int} (hE : T.dirE n = 0) : ∃ x, T.get? n = some x ∧ x.ino.kind = 2 := by
  unfold Tr.dirE at hE
  cases hx : T.get? n with
  | none => rw [hx] at hE; cases hE
  | some x =>
    rw [hx] at hE
    simp only at hE
    by_cases hk : x.ino.kind = 2
    · exact ⟨x, rfl, hk⟩
    · rw [if_neg hk] at hE; cases hE
theorem tdir_ok (h : TreeLay w own β t bn bs be B T) {n : Int} (hn : (Lit.int .i64 n).wf = true) (hE : T.dirE n = 0) : HasNode 77 (.pointer (some ⟨t, 0, none⟩)) n (β n) w := by
  obtain ⟨x, hx, hk⟩ := Tr.dir_ok hE
  exact tdir_dir h hn hx hk
theorem Tr.open_ok {n : Int} (hE : T.openE n = 0) : ∃ x, T.get? n = some x ∧ x.ino.kind = 2 ∧ x.ino.links ≠ 0 := by
  unfold Tr.openE at hE
  cases hx : T.get? n with
  | none => rw [hx] at hE; cases hE
  | some x =>
    rw [hx] at hE
    simp only at hE
    by_cases hk : x.ino.kind = 2
    · rw [if_pos hk] at hE
      by_cases hl : x.ino.links = 0
      · rw [if_pos hl] at hE; cases hE
      · exact ⟨x, rfl, hk, hl⟩
    · rw [if_neg hk] at hE; cases hE
set_option maxRecDepth 100000 in
theorem topen_ok (h : TreeLay w own β t bn bs be B T) {n : Int} (hn : (Lit.int .i64 n).wf = true) (hE : T.openE n = 0) : HasNode 85 (.pointer (some ⟨t, 0, none⟩)) n (β n) w := by
  obtain ⟨x, hx, hk, hl⟩ := Tr.open_ok hE
  have HG := Go.Lib.hid (tdir_dir h hn hx hk)
  unfold HasNode
  obtain ⟨bv, dv, hnd⟩ := h.node' hx
  have c1 := cell_of hnd.cells 1 rfl
  have hl' : (x.ino.links == 0) = false := by simpa using hl
  generalize x.ino.links = k at *
  clear h hnd hk hx hl hE
  go_enter Tryz.func85, Tryz.ntmps85
  go_wp2_with (go_at_call 77; refine HG.out.mono ?_; rintro e w1 ⟨rfl, rfl⟩)
  go_ret2
  exact ⟨rfl, rfl⟩
set_option maxRecDepth 100000 in
theorem topen_dead (h : TreeLay w own β t bn bs be B T) {n : Int} {x : Nd} (hn : (Lit.int .i64 n).wf = true) (hx : T.get? n = some x) (hk : x.ino.kind = 2) (hl : x.ino.links = 0) : NoNode 85 13 (.pointer (some ⟨t, 0, none⟩)) n w := by
  have HG := Go.Lib.hid (tdir_dir h hn hx hk)
  unfold NoNode
  obtain ⟨bv, dv, hnd⟩ := h.node' hx
  have c1 := cell_of hnd.cells 1 rfl
  rw [hl] at c1
  clear h hnd hk hx hl
  go_enter Tryz.func85, Tryz.ntmps85
  go_wp2_with (go_at_call 77; refine HG.out.mono ?_; rintro e w1 ⟨rfl, rfl⟩)
  go_ret2
  exact ⟨rfl, rfl⟩
theorem topen_no (h : TreeLay w own β t bn bs be B T) {n : Int} (hn : (Lit.int .i64 n).wf = true) (hE : T.openE n ≠ 0) : NoNode 85 (T.openE n) (.pointer (some ⟨t, 0, none⟩)) n w := by
  unfold Tr.openE at *
  cases hx : T.get? n with
  | none => exact topen_of (tdir_none h hn hx) (by decide)
  | some x =>
    rw [hx] at hE
    simp only at hE ⊢
    by_cases hk : x.ino.kind = 2
    · rw [if_pos hk] at hE ⊢
      by_cases hl : x.ino.links = 0
      · rw [if_pos hl]; exact topen_dead h hn hx hk hl
      · rw [if_neg hl] at hE; exact absurd rfl hE
    · rw [if_neg hk]; exact topen_of (tdir_file h hn hx hk) (by decide)

/-! ### Up, Find -/
def Tr.up (T : Tr) (n : Int) : Int := match T.get? n with | none => 0 | some x => if T.openE n = 0 then x.up else 0
set_option maxRecDepth 100000 in
theorem tUp_of {tv : Value} {n E : Int} {w : World} (h : NoNode 85 E tv n w) (hE : (E != 0) = true) : Calls Tryz.prog 22 #[tv, .int .i64 n] w fun e w' => e = .returned (.tuple #[.int .i64 0, .int .i64 E]) ∧ w = w' := by
  unfold NoNode at *
  have H := Go.Lib.hid h
  clear h
  go_enter Tryz.func22, Tryz.ntmps22
  go_wp2_with (go_at_call 85; refine H.out.mono ?_; rintro e w1 ⟨rfl, rfl⟩)
  go_ret2
  exact ⟨rfl, rfl⟩
set_option maxRecDepth 100000 in
theorem tUp_ok (h : TreeLay w own β t bn bs be B T) {n : Int} (hn : (Lit.int .i64 n).wf = true) (hE : T.openE n = 0) : Calls Tryz.prog 22 #[.pointer (some ⟨t, 0, none⟩), .int .i64 n] w fun e w' => e = .returned (.tuple #[.int .i64 (T.up n), .int .i64 0]) ∧ w = w' := by
  have HG := Go.Lib.hid (topen_ok h hn hE)
  obtain ⟨x, hx, hk, hl⟩ := Tr.open_ok hE
  have e : T.up n = x.up := by unfold Tr.up; rw [hx]; simp [hE]
  rw [e]
  obtain ⟨bv, dv, hnd⟩ := h.node' hx
  have c1 := cell_of hnd.cells 6 rfl
  generalize x.up = k at *
  clear h hnd hk hx hl hE e
  go_enter Tryz.func22, Tryz.ntmps22
  go_wp2_with (go_at_call 85; refine HG.out.mono ?_; rintro e w1 ⟨rfl, rfl⟩)
  go_ret2
  exact ⟨rfl, rfl⟩
/-- the whole of Up -/
theorem tUp_any (h : TreeLay w own β t bn bs be B T) {n : Int} (hn : (Lit.int .i64 n).wf = true) : Calls Tryz.prog 22 #[.pointer (some ⟨t, 0, none⟩), .int .i64 n] w fun e w' => e = .returned (.tuple #[.int .i64 (T.up n), .int .i64 (T.openE n)]) ∧ w = w' := by
  by_cases hE : T.openE n = 0
  · rw [hE]; exact tUp_ok h hn hE
  · have e : T.up n = 0 := by
      unfold Tr.up
      cases T.get? n with
      | none => rfl
      | some x => simp [hE]
    rw [e]
    exact tUp_of (topen_no h hn hE) (by simpa using hE)
set_option maxRecDepth 100000 in
theorem tFind_of {tv : Value} {n E : Int} {w : World} (s : ByteArray) (h : NoNode 77 E tv n w) (hE : (E != 0) = true) : Calls Tryz.prog 30 #[tv, .int .i64 n, .string s] w fun e w' => e = .returned (.tuple #[.int .i64 0, .int .i64 E]) ∧ w = w' := by
  unfold NoNode at *
  have H := Go.Lib.hid h
  clear h
  go_enter Tryz.func30, Tryz.ntmps30
  go_wp2_with (go_at_call 77; refine H.out.mono ?_; rintro e w1 ⟨rfl, rfl⟩)
  go_ret2
  exact ⟨rfl, rfl⟩
/-- the names of a directory; of what is none, none -/
def Tr.namesOf (T : Tr) (n : Int) : DL := match T.get? n with | none => [] | some x => x.dir.getD []
/-- a directory's dir is there, and just a directory's -/
def Tr.Dirs (T : Tr) : Prop := ∀ p ∈ T.nodes, (p.2.ino.kind = 2 ↔ p.2.dir ≠ none)
def Tr.findE (T : Tr) (n : Int) (s : ByteArray) : Int := if T.dirE n = 0 then (if dhas (T.namesOf n) s = true then 0 else 13) else T.dirE n
def Tr.find (T : Tr) (n : Int) (s : ByteArray) : Int := if T.dirE n = 0 then dget (T.namesOf n) s else 0
theorem TreeLay.dirAt (h : TreeLay w own β t bn bs be B T) (hD : T.Dirs) {n : Int} {x : Nd} (hx : T.get? n = some x) (hk : x.ino.kind = 2) : ∃ bv d, NodeLay w own n (β n) B x bv (.pointer (some ⟨d, 0, none⟩)) ∧ DirAt w (fun k => own k = some (.dir n)) d B (T.namesOf n) := by
  obtain ⟨bv, dv, hnd⟩ := h.node' hx
  have hd := (hD _ ((iget?_some h.sort.nodup).1 hx)).1 hk
  have hdv := hnd.dir
  cases hl : x.dir with
  | none => exact absurd hl hd
  | some l =>
    rw [hl] at hdv
    obtain ⟨d, rfl, hda⟩ := hdv
    refine ⟨bv, d, hnd, ?_⟩
    unfold Tr.namesOf
    rw [hx]; simp only [hl, Option.getD_some]
    exact hda
set_option maxRecDepth 100000 in
theorem tFind_dir (h : TreeLay w own β t bn bs be B T) (hB : B ≤ 1073741824) (hD : T.Dirs) {n : Int} {s : ByteArray} (hn : (Lit.int .i64 n).wf = true) (hs : s.size ≤ maxLen) (hE : T.dirE n = 0) :
    Calls Tryz.prog 30 #[.pointer (some ⟨t, 0, none⟩), .int .i64 n, .string s] w fun e w' => e = .returned (.tuple #[.int .i64 (dget (T.namesOf n) s), .int .i64 (if dhas (T.namesOf n) s = true then 0 else 13)]) ∧ ∃ k, w' = w.drewN k := by
  have HG := Go.Lib.hid (tdir_ok h hn hE)
  obtain ⟨x, hx, hk⟩ := Tr.dir_ok hE
  obtain ⟨bv, d, hnd, hda⟩ := h.dirAt hD hx hk
  have c5 := cell_of hnd.cells 5 rfl
  have hg := dGet_any hda hB hs
  cases hh : dhas (T.namesOf n) s with
  | true =>
    rw [hh] at hg
    have HD := Go.Lib.hid hg
    clear h hnd hk hx hE hda hg hh
    simp only [if_true]
    generalize dget (T.namesOf n) s = v at *
    go_enter Tryz.func30, Tryz.ntmps30
    go_wp2_with (first
      | (go_at_call 77; refine HG.out.mono ?_; rintro e w1 ⟨rfl, rfl⟩)
      | (go_at_call 103; refine HD.out.mono ?_; rintro e w1 ⟨rfl, k, rfl⟩))
    go_ret2
    exact ⟨rfl, _, rfl⟩
  | false =>
    rw [hh] at hg
    have e0 := dget_miss hh
    rw [e0] at hg ⊢
    have HD := Go.Lib.hid hg
    clear h hnd hk hx hE hda hg hh e0
    simp only [Bool.false_eq_true, if_false]
    go_enter Tryz.func30, Tryz.ntmps30
    go_wp2_with (first
      | (go_at_call 77; refine HG.out.mono ?_; rintro e w1 ⟨rfl, rfl⟩)
      | (go_at_call 103; refine HD.out.mono ?_; rintro e w1 ⟨rfl, k, rfl⟩))
    go_ret2
    exact ⟨rfl, _, rfl⟩
theorem tFind_any (h : TreeLay w own β t bn bs be B T) (hB : B ≤ 1073741824) (hD : T.Dirs) {n : Int} {s : ByteArray} (hn : (Lit.int .i64 n).wf = true) (hs : s.size ≤ maxLen) :
    Calls Tryz.prog 30 #[.pointer (some ⟨t, 0, none⟩), .int .i64 n, .string s] w fun e w' => e = .returned (.tuple #[.int .i64 (T.find n s), .int .i64 (T.findE n s)]) ∧ ∃ k, w' = w.drewN k := by
  unfold Tr.find Tr.findE
  by_cases hE : T.dirE n = 0
  · simp only [hE, if_true]; exact tFind_dir h hB hD hn hs hE
  · simp only [hE, if_false]
    exact (tFind_of s (tdir_no h hn hE) (by simpa using hE)).mono fun e w' ⟨h1, h2⟩ => ⟨h1, 0, h2.symm⟩
end
end Go.Proofs.Gab
