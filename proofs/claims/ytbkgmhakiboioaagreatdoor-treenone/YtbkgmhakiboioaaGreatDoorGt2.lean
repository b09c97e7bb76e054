/-
  A tree: a clone of extents, Inode, Len, number, vacant.
-/
import Derived.Test.YtbkgmhakiboioaaGreatDoorGt1
import Derived.WalkSpells
namespace Go.Proofs.Gab
open Go.RowKit Go.Maps Go.ChangeMaps Go.Deep

theorem infoX : (Tryz.prog.info? 198).map (fun i => (i.zero, i.size, i.bytes)) = some (some (.agg #[.int .i64 0, .int .i64 0]), 2, 16) := by kernel_rfl
theorem flatX_len (xs : List (Int × Int)) : (flatX xs).length = xs.length * 2 := by
  induction xs with
  | nil => rfl
  | cons x r ih => simp only [flatX, List.flatMap_cons, List.length_append] at ih ⊢; rw [ih]; simp; omega
theorem flatX_one (xs : List (Int × Int)) : ∀ u ∈ flatX xs, u.oneCell' = true := by
  intro u hu
  simp only [flatX, List.mem_flatMap] at hu
  obtain ⟨p, _, hp⟩ := hu
  simp at hp
  rcases hp with rfl | rfl <;> rfl
/-- a slice's value whose block is one of O, and what it holds -/
theorem RowAt.of_owns {w : World} {base : Nat} {v : Value} {n : Nat} {xs : List (Int × Int)} (h : w.ownsRow base 198 2 v n (flatX xs)) (hn : n = xs.length) : RowAt w (fun k => base ≤ k ∧ k < w.heap.size) v xs := by
  subst hn
  rcases h.2 with ⟨rfl, hn⟩ | ⟨g, cap, cur, rfl, hb, hg, h1, h2, h3, h4⟩
  · exact .inl ⟨List.eq_nil_of_length_eq_zero hn, .inl rfl⟩
  · by_cases e : xs = []
    · subst e; exact .inl ⟨rfl, .inr ⟨_, _, rfl⟩⟩
    · exact .inr ⟨e, g, cap, cur, rfl, hg, h4, h1, h2, h3, hb, heap_lt hg⟩
def ClonePost (w : World) (xs : List (Int × Int)) (e : Ending) (w' : World) : Prop := ∃ v', e = .returned v' ∧ Below w.heap.size w w' ∧ RowAt w' (fun k => w.heap.size ≤ k ∧ k < w'.heap.size) v' xs
set_option maxRecDepth 100000 in
theorem clone_nil (w : World) : Calls Tryz.prog 83 #[.slice none 0 0] w fun e w' => e = .returned (.slice none 0 0) ∧ w = w' := by
  have h0 := Go.Lib.run_eql_slice_nil (P := Tryz.prog)
  go_enter Tryz.func83, Tryz.ntmps83
  go_wp2
  go_ret
  exact ⟨rfl, rfl⟩
set_option maxRecDepth 100000 in
theorem clone_some (w : World) (a : Addr) (xs : List (Int × Int)) (c : Nat) (hc : ∀ j u, (flatX xs)[j]? = some u → w.cell? (a.add j) = some u) (hx : xs.length ≤ 1048576) (hlt : xs ≠ [] → a.block < w.heap.size) :
    Calls Tryz.prog 83 #[.slice (some a) xs.length c] w (ClonePost w xs) := by
  obtain ⟨i0, hi, hz0, hz1, hz2⟩ := info_parts infoX
  have h0 := fun (W : World) => Go.Lib.run_eql_slice_nil (P := Tryz.prog) W 51 198 (some a) xs.length c 0 0 Tryz.underlying51
  have hc' : ∀ j u, (flatX xs)[j]? = some u → (w.alloc (.cells #[] 198)).cell? (a.add j) = some u := by
    intro j u hj
    have h := hc j u hj
    rw [World.cell?_alloc_lt _ _ _ (World.block_lt_of_cell? _ _ h)]; exact h
  have HC := Go.Lib.hid hc'
  clear hc hc'
  have hl := flatX_len xs
  have h1 := flatX_one xs
  have HL := Go.Lib.hid hl
  have H1 := Go.Lib.hid h1
  clear hl h1
  generalize hf : flatX xs = f at HC HL H1
  have HF := Go.Lib.hid hf
  clear hf
  generalize hm : xs.length = m at *
  have HM := Go.Lib.hid hm
  clear hm
  go_enter Tryz.func83, Tryz.ntmps83
  go_wp2_with (at_builtin; refine wpList_append_own _ rfl _ _ 51 rfl w.heap.size 198 i0 (.agg #[.int .i64 0, .int .i64 0]) 2 16 Tryz.underlying51 hi hz0 hz1 hz2 rfl (by decide) _ 0 [] rfl (World.ownsRow_made w #[] 0 (Nat.le_refl _) (by unfold maxLen; omega) rfl) a m c f rfl HL.out HC.out H1.out (by unfold maxLen; omega) (by omega) (by simp) ?_; intro v' w1 hown' hgrow _; have HO := Go.Lib.hid hown'; have HG := Go.Lib.hid hgrow; clear hown' hgrow)
  go_ret
  have ho := HO.out
  rw [List.nil_append, ← HF.out] at ho
  exact ⟨_, rfl, ((Below.refl _ _).alloc (Nat.le_refl _) _).grown HG.out (by simp) (fun k e => by cases e; exact Nat.le_refl _), RowAt.of_owns ho (by rw [← HM.out]; simp)⟩
theorem RowAt.clone {w : World} {O : Nat → Prop} {v : Value} {xs : List (Int × Int)} (h : RowAt w O v xs) (hx : xs.length ≤ 1048576) : Calls Tryz.prog 83 #[v] w (ClonePost w xs) := by
  rcases h with ⟨rfl, rfl | ⟨a, c, rfl⟩⟩ | ⟨h0, b, cap, cs, rfl, hb, h1, _⟩
  · exact (clone_nil w).mono fun e w' ⟨h1, h2⟩ => ⟨_, h1, h2 ▸ Below.refl _ _, .inl ⟨rfl, .inl rfl⟩⟩
  · exact clone_some w a [] c (by simp [flatX]) (by simp) (fun h => absurd rfl h)
  · refine clone_some w ⟨b, 0, none⟩ xs cap ?_ hx (fun _ => heap_lt hb)
    intro j u hj
    have : (⟨b, 0, none⟩ : Addr).add j = ⟨b, j, none⟩ := by unfold Addr.add; split <;> simp_all
    rw [this]
    refine cell_of hb j ?_
    rw [← h1, List.getElem?_take] at hj
    split at hj
    · simpa using hj
    · cases hj

/-! ### Inode -/
def inoV (x : Ino) (bv : Value) : Value := .agg #[.int .u8 x.kind, .int .i64 x.links, .int .i64 x.size, bv, .string x.target]
def noIno : Value := .agg #[.int .u8 0, .int .i64 0, .int .i64 0, .slice none 0 0, .string ⟨#[]⟩]
def InodePost (w : World) (x : Ino) (e : Ending) (w' : World) : Prop := ∃ bv, e = .returned (.tuple #[inoV x bv, .int .i64 0]) ∧ Below w.heap.size w w' ∧ RowAt w' (fun k => w.heap.size ≤ k ∧ k < w'.heap.size) bv x.blocks
set_option maxRecDepth 100000 in
theorem tInode_of {tv : Value} {n E : Int} {w : World} (h : ∀ w', Below w.heap.size w w' → NoNode 75 E tv n w') (hE : (E != 0) = true) : Calls Tryz.prog 20 #[tv, .int .i64 n] w fun e w' => e = .returned (.tuple #[noIno, .int .i64 E]) ∧ Below w.heap.size w w' := by
  unfold NoNode at *
  have H := Go.Lib.hid h
  clear h
  unfold noIno
  go_enter Tryz.func20, Tryz.ntmps20
  go_wp2_with (go_at_call 75; refine (H.out _ ((Below.refl _ _).alloc (Nat.le_refl _) _)).mono ?_; rintro e w1 ⟨rfl, rfl⟩)
  refine bodyPost_ret (v := .tuple #[.agg #[.int .u8 0, .int .i64 0, .int .i64 0, .slice none 0 0, .string ⟨#[]⟩], .int .i64 E]) (by simp [results, Tryz.results20, go_sem]) rfl ⟨rfl, ?_⟩
  exact (Below.refl _ _).alloc (Nat.le_refl _) _
theorem RowAt.form {w : World} {O : Nat → Prop} {v : Value} {xs : List (Int × Int)} (h : RowAt w O v xs) : ∃ a n c, v = .slice a n c := by
  rcases h with ⟨_, rfl | ⟨a, c, rfl⟩⟩ | ⟨_, b, cap, cs, rfl, _⟩
  · exact ⟨_, _, _, rfl⟩
  · exact ⟨_, _, _, rfl⟩
  · exact ⟨_, _, _, rfl⟩
theorem RowAt.mono {w : World} {O O' : Nat → Prop} {v : Value} {xs : List (Int × Int)} (h : RowAt w O v xs) (hO : ∀ k, O k → O' k) : RowAt w O' v xs := by
  rcases h with h | ⟨h0, b, cap, cs, h1, h2, h3, h4, h5, h6, h7⟩
  · exact .inl h
  · exact .inr ⟨h0, b, cap, cs, h1, h2, h3, h4, h5, h6, hO _ h7⟩
theorem two_new (w : World) (A B : Obj) : ((w.alloc A).alloc B).heap[w.heap.size]? = some A ∧ ((w.alloc A).alloc B).heap[w.heap.size + 1]? = some B := by
  have s1 : (w.alloc A).heap.size = w.heap.size + 1 := by simp
  refine ⟨?_, ?_⟩
  · rw [alloc_old _ (by omega), alloc_new]
  · rw [← s1, alloc_new]
set_option maxRecDepth 100000 in
theorem tInode_some {w : World} {own : Nat → Option Tag} {β : Int → Nat} {t bn bs be B : Nat} {T : Tr} (h : TreeLay w own β t bn bs be B T) {n : Int} {x : Nd} (hn : (Lit.int .i64 n).wf = true) (hx : T.get? n = some x) (hl : x.ino.blocks.length ≤ 1048576) :
    Calls Tryz.prog 20 #[.pointer (some ⟨t, 0, none⟩), .int .i64 n] w (InodePost w x.ino) := by
  have HG := Go.Lib.hid (p := ∀ w', Below w.heap.size w w' → _) (fun w' hb => tget_some (h.below hb) hn hx)
  obtain ⟨bv, dv, hnd⟩ := h.node' hx
  obtain ⟨ba, bl, bc, rfl⟩ := hnd.row.form
  have HC := Go.Lib.hid (p := ∀ w', Below w.heap.size w w' → Calls Tryz.prog 83 #[.slice ba bl bc] w' (ClonePost w' x.ino.blocks)) (fun w' hb => (hnd.row.frame (Fr.of_below_all hb (fun _ => False)) (fun _ _ => id)).clone hl)
  have c0 := cell_of hnd.cells 0 rfl
  have c1 := cell_of hnd.cells 1 rfl
  have c2 := cell_of hnd.cells 2 rfl
  have c3 := cell_of hnd.cells 3 rfl
  have c4 := cell_of hnd.cells 4 rfl
  have hlt := heap_lt hnd.cells
  obtain ⟨⟨kind, links, size, blocks, target⟩, dir, up, pins⟩ := x
  dsimp only at *
  clear h hnd hx hl
  generalize β n = b at *
  go_enter Tryz.func20, Tryz.ntmps20
  go_wp2_with (first
    | (go_at_call 75; refine (HG.out _ ((Below.refl _ _).alloc (Nat.le_refl _) _)).mono ?_; rintro e w1 ⟨rfl, rfl⟩)
    | (go_at_call 83; refine (HC.out _ (((Below.refl _ _).alloc (Nat.le_refl _) _).alloc (by simp) _)).mono ?_; rintro e w1 ⟨v', rfl, hb, hr⟩; obtain ⟨na, nl, nc, rfl⟩ := hr.form; have k1 := (hb.block (w.heap.size + 1) (by simp)).trans (two_new w _ _).2; have k0 := (hb.block w.heap.size (by simp; omega)).trans (two_new w _ _).1; have d0 := cell_of k1 0 rfl; have d1 := cell_of k1 1 rfl; have d2 := cell_of k1 2 rfl; have d3 := cell_of k1 3 rfl; have d4 := cell_of k1 4 rfl; have f3 := free_of k1 3; have g0 := cell_of k0 0 rfl; have g1 := cell_of k0 1 rfl; have g2 := cell_of k0 2 rfl; have g3 := cell_of k0 3 rfl; have g4 := cell_of k0 4 rfl; have p0 := free_of k0 0; have p1 := free_of k0 1; have p2 := free_of k0 2; have p3 := free_of k0 3; have p4 := free_of k0 4; clear k0 k1; have HB := Go.Lib.hid hb; have HR := Go.Lib.hid hr; clear hb hr))
  refine bodyPost_ret (v := .tuple #[.agg #[.int .u8 kind, .int .i64 links, .int .i64 size, .slice na nl nc, .string target], .int .i64 0]) (by simp [results, Tryz.results20, go_sem, g0, g1, g2, g3, g4]) rfl ⟨.slice na nl nc, rfl, ?_, ?_⟩
  · have hb := HB.out
    refine Below.setCell (Below.setCell (Below.setCell (Below.setCell (Below.setCell (Below.setCell ?_ (by simp) _) (by simp) _) (by simp) _) (by simp) _) (by simp) _) (by simp) _
    exact (((Below.refl _ _).alloc (Nat.le_refl _) _).alloc (by simp) _).trans (hb.mono (by simp; omega))
  · have hsz := HB.out.size
    simp at hsz
    refine RowAt.mono (RowAt.frame HR.out (F := fun k => k = w.heap.size ∨ k = w.heap.size + 1) ?_ (by intro k hk; simp at hk; omega)) (fun k hk => by simp at hk ⊢; omega)
    exact ((((((Fr.setCell _ _ _ (by simp)).trans (Fr.setCell _ _ _ (by simp))).trans (Fr.setCell _ _ _ (by simp))).trans (Fr.setCell _ _ _ (by simp))).trans (Fr.setCell _ _ _ (by simp))).trans (Fr.setCell _ _ _ (by simp)))
/-! ### Len -/
set_option maxRecDepth 100000 in
theorem tLen_nil (w : World) : Calls Tryz.prog 37 #[.pointer none] w fun e w' => e = .returned (.int .i64 0) ∧ w = w' := by
  go_enter Tryz.func37, Tryz.ntmps37
  go_wp2
  go_ret
  exact ⟨rfl, rfl⟩
set_option maxRecDepth 100000 in
theorem tLen_any {w : World} {own : Nat → Option Tag} {β : Int → Nat} {t bn bs be B : Nat} {T : Tr} (h : TreeLay w own β t bn bs be B T) : Calls Tryz.prog 37 #[.pointer (some ⟨t, 0, none⟩)] w fun e w' => e = .returned (.int .i64 T.nodes.length) ∧ w = w' := by
  have c0 := cell_of h.head 0 rfl
  have hl := fun ty => h.nodes.len Tryz.underlying157 ty
  simp only [List.length_map] at hl
  clear h
  go_enter Tryz.func37, Tryz.ntmps37
  go_wp2
  go_ret
  exact ⟨rfl, rfl⟩
end Go.Proofs.Gab
