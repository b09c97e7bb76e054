/-
  (*walker).step where no link is met.
-/
import Derived.Test.YtbkgmhakiboioaaGreatDoorGw0
namespace Go.Proofs.Gab
open Go.RowKit Go.Maps Go.ChangeMaps Go.Shelf Go.Lib

section
variable {w : World} {own : Nat → Option Tag} {β : Int → Nat} {t bn bs be B : Nat} {T : Tr}
set_option maxRecDepth 100000 in
set_option maxHeartbeats 1000000 in
theorem wstep_ok (h : TreeLay w own β t bn bs be B T) (hB : B ≤ 1073741824) (hD : T.Dirs) {bw g off c : Nat} {at_ n : Int} {x : Nd} {p : List UInt8} {ps : List (List UInt8)} {must last : Bool} {links : Int} (hat : (Lit.int .i64 at_).wf = true)
    (hw : w.heap[bw]? = some (.cells (walkC t at_ (.slice (some ⟨g, off, none⟩) (ps.length + 1) c) must links) 188 (0, 0))) (hown : own bw = none) (hs : StrsIn w g off (p :: ps)) (hp : p.length ≤ 4294967280) (hc : ps.length + 1 ≤ c) (hc2 : c ≤ maxLen)
    (hpart : T.part at_ p = (n, 0)) (hn : (Lit.int .i64 n).wf = true) (hx : T.get? n = some x) (hk : x.ino.kind ≠ 3) :
    Calls Tryz.prog 76 #[.pointer (some ⟨bw, 0, none⟩), .bool last] w fun e w' => e = .returned (.int .i64 0) ∧ ∃ k, w' = ((w.setCell ⟨bw, 2, none⟩ (nextLeft g off ps.length c)).drewN k).setCell ⟨bw, 1, none⟩ (.int .i64 n) := by
  have HP0 := wpart_any h hB hD hat hw hown hs hp hc hc2
  rw [hpart] at HP0
  have HP := Go.Lib.hid HP0
  unfold walkC at hw
  have hf := Fr.setCell w ⟨bw, 2, none⟩ (nextLeft g off ps.length c) (F := fun k => k = bw) rfl
  have h' := h.frame hf (fun k hk e => hk (e ▸ hown))
  have hw' := set_of hw 2 (nextLeft g off ps.length c)
  have HT := Go.Lib.hid (p := ∀ k, TreeLay ((w.setCell ⟨bw, 2, none⟩ (nextLeft g off ps.length c)).drewN k) own β t bn bs be B T) (fun k => h'.drewN k)
  have hk3 : (x.ino.kind == 3) = false := by simpa using hk
  clear HP0 h h' hf hs hD hpart hB
  obtain ⟨np, hnl⟩ : ∃ np, nextLeft g off ps.length c = .slice (some np) ps.length (c - 1) := ⟨_, rfl⟩
  rw [hnl] at HP hw' HT ⊢
  clear hnl
  go_enter Tryz.func76, Tryz.ntmps76
  go_wp2_with (go_at_call 154; go_loud (refine HP.out.mono ?_; rintro e w1 ⟨rfl, k, hw1⟩; have hT := HT.out k; have hwk := (congrArg (fun W : World => W.heap[bw]?) hw1).trans hw'; rw [← hw1] at hT; have t0 := cell_of hT.head 0 rfl; have d0 := cell_of hwk 0 rfl; have d1 := cell_of hwk 1 rfl; have d2 := cell_of hwk 2 rfl; have d3 := cell_of hwk 3 rfl; have f1 := free_of hwk 1; have hl := hT.look_some hn hx false; obtain ⟨bv, dv, hnd⟩ := hT.node' hx; have n0 := cell_of hnd.cells 0 rfl; have hW1 := Go.Lib.hid hw1; clear hT hwk hnd hw1); go_frame)
  go_ret
  exact ⟨rfl, k, by rw [hW1.out]⟩
end
end Go.Proofs.Gab
