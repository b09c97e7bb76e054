/-
  A tree: an inode that stays; links; a new inode.
-/
import Derived.Test.YtbkgmhakiboioaaGreatDoorGt4
namespace Go.Proofs.Gab
open Go.RowKit Go.Maps Go.ChangeMaps Go.Deep

section
variable {w : World} {own : Nat → Option Tag} {β : Int → Nat} {t bn bs be B : Nat} {T : Tr}
set_option maxRecDepth 100000 in
theorem treap_keep (h : TreeLay w own β t bn bs be B T) {n : Int} {x : Nd} (hn : (Lit.int .i64 n).wf = true) (hx : T.get? n = some x) (hk : 0 < x.ino.links ∨ 0 < x.pins) :
    Calls Tryz.prog 106 #[.pointer (some ⟨t, 0, none⟩), .int .i64 n] w fun e w' => e = .returned (.slice none 0 0) ∧ w = w' := by
  obtain ⟨bv, dv, hnd⟩ := h.node' hx
  have hl := h.look_some hn hx false
  simp only [Bool.false_eq_true, if_false] at hl
  have c0 := cell_of h.head 0 rfl
  have c1 := cell_of hnd.cells 1 rfl
  have c7 := cell_of hnd.cells 7 rfl
  obtain ⟨⟨kind, links, size, blocks, target⟩, dir, up, pins⟩ := x
  dsimp only at *
  simp only [List.getElem_toArray, List.getElem_cons_succ, List.getElem_cons_zero] at c1 c7
  clear h hnd hx
  by_cases h1 : 0 < links
  · clear hk
    go_enter Tryz.func106, Tryz.ntmps106
    go_wp2
    go_ret
    exact ⟨rfl, rfl⟩
  · have h2 : 0 < pins := hk.resolve_left h1
    clear hk
    go_enter Tryz.func106, Tryz.ntmps106
    go_wp2
    go_ret
    exact ⟨rfl, rfl⟩
def Nd.lnk (x : Nd) (more : Int) : Nd := { x with ino := { x.ino with links := x.ino.links + more } }
def Tr.lnk (T : Tr) (n more : Int) : Tr := match T.get? n with | none => T | some x => (T.upd n (x.lnk more)).see n
theorem Tr.get?_upd {T : Tr} (hs : ISort T.nodes) (n m : Int) (x : Nd) : (T.upd n x).get? m = if m = n then some x else T.get? m := iget?_iput hs n m x
/-- the first half of links: the count and the note -/
theorem lnk_lay (h : TreeLay w own β t bn bs be B T) {n more : Int} {x : Nd} (hx : T.get? n = some x) {w3 : World} (hf : Fr (fun k => k = be) (w.setCell ⟨β n, 1, none⟩ (.int .i64 (x.ino.links + more))) w3)
    (hm : MapOf Tryz.prog 3 w3 be ((iput T.seen n ()).map encU)) : TreeLay w3 own β t bn bs be (B + 1) (T.lnk n more) := by
  unfold Tr.lnk
  rw [hx]
  have h1 := h.setCell hx (x' := x.lnk more) 1 (.int .i64 (x.ino.links + more)) (fun bv dv => by simp [Nd.lnk]) rfl rfl
  exact h1.turnSeen hf (iput_sort h.sortE n ()) hm (Nat.le_succ B) (by have := length_iput T.seen n (); have := h.seenB; omega)
set_option maxRecDepth 100000 in
theorem tlinks_keep (h : TreeLay w own β t bn bs be B T) (hB : B < 1073741824) {n more : Int} {x : Nd} (hn : (Lit.int .i64 n).wf = true) (hx : T.get? n = some x) (hb : -1073741824 ≤ x.ino.links ∧ x.ino.links ≤ 1073741824) (hb' : -1073741824 ≤ more ∧ more ≤ 1073741824) (hk : 0 < x.ino.links + more ∨ 0 < x.pins) :
    Calls Tryz.prog 99 #[.pointer (some ⟨t, 0, none⟩), .int .i64 n, .int .i64 more] w fun e w' => e = .returned (.slice none 0 0) ∧ Fr (fun k => own k ≠ none) w w' ∧ w'.heap.size = w.heap.size ∧ TreeLay w' own β t bn bs be (B + 1) (T.lnk n more) := by
  obtain ⟨bv, dv, hnd⟩ := h.node' hx
  have hl := h.look_some hn hx false
  simp only [Bool.false_eq_true, if_false] at hl
  have c0 := cell_of h.head 0 rfl
  have c2 := cell_of h.head 2 rfl
  have hnh : t ≠ β n := by
    rintro e
    have := h.ot; rw [e, hnd.ob] at this; cases this
  have hne : be ≠ β n := by
    rintro e
    have := h.oe; rw [e, hnd.ob] at this; cases this
  have c1 := cell_of hnd.cells 1 rfl
  have f1 := free_of hnd.cells 1
  simp only [List.getElem_toArray, List.getElem_cons_succ, List.getElem_cons_zero] at c1
  have d2 : (w.setCell ⟨β n, 1, none⟩ (.int .i64 (x.ino.links + more))).cell? ⟨t, 2, none⟩ = some (.map (some be)) := (World.cell?_setCell_other _ _ _ _ (by simp)).trans c2
  have hm1 := h.seen.kept (w' := w.setCell ⟨β n, 1, none⟩ (.int .i64 (x.ino.links + more))) (set_other hne)
  have hs := h.seenB
  have hlen : (T.seen.map encU).length < maxLen := by simp [maxLen]; omega
  have hsp := Go.Lib.hid (seen_put h.sortE n)
  have hnd2 := Go.Lib.hid (seen_nodup (iput_sort h.sortE n ()))
  have hk' : ∀ w3, Fr (fun k => k = be) (w.setCell ⟨β n, 1, none⟩ (.int .i64 (x.ino.links + more))) w3 → MapOf Tryz.prog 3 w3 be ((iput T.seen n ()).map encU) → Calls Tryz.prog 106 #[.pointer (some ⟨t, 0, none⟩), .int .i64 n] w3 fun e w' => e = .returned (.slice none 0 0) ∧ w3 = w' := by
    intro w3 hf hm
    have hl := lnk_lay h hx hf hm
    refine treap_keep hl hn (x := x.lnk more) ?_ hk
    unfold Tr.lnk; rw [hx]
    show (T.upd n (x.lnk more)).get? n = _
    rw [Tr.get?_upd h.sort, if_pos rfl]
  have HK := Go.Lib.hid hk'
  have H := Go.Lib.hid h
  have HX := Go.Lib.hid hx
  have HM := Go.Lib.hid hm1
  have HO := Go.Lib.hid hnd.ob
  obtain ⟨⟨kind, links, size, blocks, target⟩, dir, up, pins⟩ := x
  dsimp only at *
  clear h hnd hx hk' hm1 hk
  go_enter Tryz.func99, Tryz.ntmps99
  go_wp2_with (first
    | (at_mapUpdate; refine wpL_store _ rfl _ _ _ 159 rfl lawI Tryz.underlying159 be (T.seen.map encU) ((iput T.seen n ()).map encU) rfl HM.out hlen (.int .i64 n) (.bool true) _ rfl rfl (keyI hn) hsp.out.1 hsp.out.2.1 hsp.out.2.2 hnd2.out ?_; intro w3 hm3 hf3 hz3; have M3 := Go.Lib.hid hm3; have F3 := Go.Lib.hid hf3; have Z3 := Go.Lib.hid hz3; clear hm3 hf3 hz3)
    | (go_at_call 106; refine (HK.out _ F3.out M3.out).mono ?_; rintro e w4 ⟨rfl, rfl⟩))
  go_ret
  refine ⟨rfl, ?_, by rw [Z3.out]; simp, lnk_lay H.out HX.out F3.out M3.out⟩
  exact (Fr.setCell _ _ _ (by simp only [HO.out]; simp)).trans (F3.out.mono fun k _ e => by rw [e, H.out.oe]; simp)
end
end Go.Proofs.Gab
