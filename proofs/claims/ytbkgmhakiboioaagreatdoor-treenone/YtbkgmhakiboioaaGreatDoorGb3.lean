/-
  A directory: a name is put.
-/
import Derived.Test.YtbkgmhakiboioaaGreatDoorGb2
namespace Go.Proofs.Gab
open Go.RowKit Go.Maps Go.ChangeMaps Go.Deep
theorem bucket_put {l : DL} (h : DSort l) {nb : Nat} {s : ByteArray} {v : Int} :
    (∀ p, p ∈ (inB nb (c16 s % nb) (dput l s v)).map encE → p = (Value.string s, Value.int .i64 v) ∨ (p.1 ≠ .string s ∧ p ∈ (inB nb (c16 s % nb) l).map encE)) ∧
    (∀ p, p ∈ (inB nb (c16 s % nb) l).map encE → p.1 ≠ Value.string s → p ∈ (inB nb (c16 s % nb) (dput l s v)).map encE) ∧ (Value.string s, Value.int .i64 v) ∈ (inB nb (c16 s % nb) (dput l s v)).map encE := by
  refine ⟨?_, ?_, mem_bucket.2 ((mem_dput h).2 (.inl rfl))⟩
  · intro p hp
    simp only [List.mem_map, inB, List.mem_filter, mem_dput h, decide_eq_true_eq] at hp ⊢
    obtain ⟨x, ⟨rfl | ⟨h1, h2⟩, h3⟩, rfl⟩ := hp
    · exact .inl rfl
    · exact .inr ⟨by simpa [encE] using h1, x, ⟨h2, h3⟩, rfl⟩
  · intro p hp hne
    simp only [List.mem_map, inB, List.mem_filter, mem_dput h, decide_eq_true_eq] at hp ⊢
    obtain ⟨x, ⟨h2, h3⟩, rfl⟩ := hp
    exact ⟨x, ⟨.inr ⟨by simpa [encE] using hne, h2⟩, h3⟩, rfl⟩
theorem inB_len (nb i : Nat) (l : DL) : ((inB nb i l).map encE).length ≤ l.length := by
  rw [List.length_map]; exact List.length_filter_le _ _
theorem DirLay.count {w : World} {O : Nat → Prop} {d B : Nat} {l : DL} {arr nb cap : Nat} {cs : Array Value} {bk : Nat → Nat} (h : DirLay w O d B l arr nb cap cs bk) : (w.setCell ⟨d, 1, none⟩ (.int .i64 (l.length : Nat))).heap[d]? = w.heap[d]? := by
  rw [set_of h.hd, h.hd]; simp
set_option maxRecDepth 100000 in
theorem dPut_new {w : World} {O : Nat → Prop} {d B : Nat} {l : DL} {arr nb cap : Nat} {cs : Array Value} {bk : Nat → Nat} (h : DirLay w O d B l arr nb cap cs bk) (hB : B < 1073741824) {s : ByteArray} (hs : s.size ≤ 32) {v : Int} (hv : 0 ≤ v ∧ v ≤ 65535)
    (hn : ∀ w, Calls Tryz.prog 73 #[.string s] w fun e w' => e = .returned (.int .i64 0) ∧ Below w.heap.size w w') (hh : dhas l s = false) (hroom : l.length + 1 ≤ 4 * nb) :
    Calls Tryz.prog 170 #[.pointer (some ⟨d, 0, none⟩), .string s, .int .i64 v] w fun e w' => e = .returned (.int .i64 0) ∧ Fr O w w' ∧ DirAt w' O d (B + 1) (dput l s v) := by
  have hs' : s.size ≤ maxLen := by unfold maxLen; omega
  have HN := Go.Lib.hid hn
  clear hn
  have hlt := Nat.mod_lt (c16 s) h.pos
  have hlB := h.lB
  have hnB := h.nbB
  have hnum : num16 v = true := by simp [num16, hv]
  have hp := bucket_put (l := l) h.sort (nb := nb) (s := s) (v := v)
  have hnd := nodup_enc (inB_nodup (dput_sort h.sort s v) nb (c16 s % nb))
  have hlen := length_dput_new hh v
  have hdne := h.d_ne hlt
  have hln : ((inB nb (c16 s % nb) l).map encE).length < maxLen := by have := inB_len nb (c16 s % nb) l; unfold maxLen; omega
  have H := Go.Lib.hid h
  have HP := Go.Lib.hid hp
  have HL := Go.Lib.hid hlen
  have HH := Go.Lib.hid hh
  clear hp hlen hh h
  generalize hb : bk (c16 s % nb) = b at hdne
  have Hb := Go.Lib.hid hb
  clear hb
  generalize hll : (inB nb (c16 s % nb) l).map encE = ll at hln
  have Hll := Go.Lib.hid hll
  clear hll
  have z1 : ¬ (4 * (nb : Int) < (l.length : Int) + 1) := by omega
  go_enter Tryz.func170, Tryz.ntmps170
  go_wp2_with (go_at_call 73; refine (HN.out _).mono ?_; rintro e w1 ⟨rfl, hb1⟩)
  have h1 := H.out.frame (Fr.of_below_all hb1 (fun _ => False)) (fun _ _ => id)
  have g1 := dGet_any ⟨arr, nb, cap, cs, bk, h1⟩ (by omega) hs'
  rw [HH.out] at g1
  have c1 := cell_of h1.hd 1 rfl
  have c0 := cell_of h1.hd 0 rfl
  have f1 := free_of h1.hd 1
  have hsz := hb1.size
  have H1 := Go.Lib.hid h1
  have HB1 := Go.Lib.hid hb1
  have G1 := Go.Lib.hid g1
  have N1 := Go.Lib.hid (p := Calls Tryz.prog 215 #[.int .i64 v] w1 fun e w' => e = .returned (.bool true) ∧ w1 = w') (hnum ▸ dNumber_any v w1)
  clear hb1 h1 g1 hnum
  go_wp2_with (first
    | (go_at_call 215; refine N1.out.mono ?_; rintro e w2 ⟨rfl, rfl⟩)
    | (go_at_call 103; refine G1.out.mono ?_; rintro e w2 ⟨rfl, n, rfl⟩))
  have e1 : IntKind.i64.wrap (4 * (nb : Int)) = 4 * nb := IntWalk.i64_in _ (by omega)
  have z2 : decide (4 * (nb : Int) < (l.length : Int) + 1) = false := by simp; omega
  have hlv : ((l.length : Int) + 1) = ((dput l s v).length : Nat) := by rw [HL.out]; omega
  have HLV := Go.Lib.hid hlv
  clear hlv
  have k0 : ((w1.drewN n).setCell ⟨d, 1, none⟩ (.int .i64 ((l.length : Int) + 1))).cell? ⟨d, 0, none⟩ = some (.slice (some ⟨arr, 0, none⟩) nb cap) := by
    refine (World.cell?_setCell_other _ _ _ _ (by simp)).trans c0
  have k1 : ((w1.drewN n).setCell ⟨d, 1, none⟩ (.int .i64 ((l.length : Int) + 1))).cell? ⟨arr, c16 s % nb, none⟩ = some (.map (some b)) := by
    refine (World.cell?_setCell_other _ _ _ _ (by have := H.out.da; simp [this])).trans ?_
    exact cell_of H1.out.ar _ (Hb.out ▸ H1.out.cell _ hlt)
  have km : MapOf Tryz.prog 9 ((w1.drewN n).setCell ⟨d, 1, none⟩ (.int .i64 ((l.length : Int) + 1))) b ll := by
    refine MapOf.kept ?_ (set_other hdne)
    have := H1.out.map _ hlt
    rw [Hb.out, Hll.out] at this
    exact this
  have kd : ((w1.drewN n).setCell ⟨d, 1, none⟩ (.int .i64 ((l.length : Int) + 1))).heap[d]? = some (.cells #[.slice (some ⟨arr, 0, none⟩) nb cap, .int .i64 ((l.length : Int) + 1)] 270 (0, 0)) := by
    have := set_of (w := w1.drewN n) (show _ from H1.out.hd) 1 (.int .i64 ((l.length : Int) + 1)); simpa using this
  have KB := Go.Lib.hid (p := ∀ m, Calls Tryz.prog 171 #[.pointer (some ⟨d, 0, none⟩), .string s] (((w1.drewN n).setCell ⟨d, 1, none⟩ (.int .i64 ((l.length : Int) + 1))).drewN m) fun e w' => e = .returned (.map (some b)) ∧ ∃ k, w' = (((w1.drewN n).setCell ⟨d, 1, none⟩ (.int .i64 ((l.length : Int) + 1))).drewN m).drewN k)
    (fun m => bucket_any s d arr nb cap (c16 s) (c16 s % nb) b _ hs' k0 rfl rfl hlt (by omega) k1)
  have KM := Go.Lib.hid km
  have KD := Go.Lib.hid kd
  clear km kd k0 k1
  go_quiet (fail)
  go_wp2_with (first
    | (go_at_call 171; refine (KB.out _).mono ?_; rintro e w2 ⟨rfl, m, rfl⟩)
    | (at_mapUpdate; refine wpL_store _ rfl _ _ _ 282 rfl lawS Tryz.underlying282 b ll ((inB nb (c16 s % nb) (dput l s v)).map encE) rfl KM.out hln (.string s) (.int .i64 v) _ rfl rfl (keyS hs') (Hll.out ▸ HP.out.1) (Hll.out ▸ HP.out.2.1) HP.out.2.2 hnd ?_; intro w3 hm3 hf3 hz3; have M3 := Go.Lib.hid hm3; have F3 := Go.Lib.hid hf3; have Z3 := Go.Lib.hid hz3; clear hm3 hf3 hz3))
  go_ret
  have F3 := F3.out
  have F3' : Fr (fun k => k = b) ((w1.drewN n).setCell ⟨d, 1, none⟩ (.int .i64 ((l.length : Int) + 1))) w3 := ⟨F3.os, F3.tape, F3.output, F3.size, F3.block⟩
  have hD3 := F3'.heap KD.out hdne.symm
  rw [HLV.out] at hD3
  have hfr1 : Fr (fun k => k = b ∨ k = d) w1 w3 := (Fr.drewN w1 n _).trans ((Fr.setCell _ _ _ (.inr rfl)).trans (F3'.mono fun _ _ e => .inl e))
  have hlay := H1.out.turn (s := s) (l' := dput l s v) (Hb.out.symm ▸ hfr1) hD3 (Hb.out.symm ▸ M3.out) (B' := B + 1) ?_ (dput_sort H.out.sort s v) ?_ (by omega) (by rw [HL.out]; omega)
  · refine ⟨rfl, ?_, arr, nb, cap, cs, bk, hlay⟩
    refine (Fr.of_below_all HB1.out _).trans (hfr1.mono fun k _ e => ?_)
    rcases e with rfl | rfl
    · rw [← Hb.out]; exact H.out.ob _ hlt
    · exact H.out.od
  · intro e he
    rw [mem_dput H.out.sort]
    exact ⟨fun h => .inr ⟨he, h⟩, fun h => h.elim (fun e' => absurd (by rw [e']) he) fun h => h.2⟩
  · intro e he
    rcases (mem_dput H.out.sort).1 he with rfl | ⟨_, h⟩
    · exact ⟨hs, hv⟩
    · exact H.out.fit e h
end Go.Proofs.Gab
