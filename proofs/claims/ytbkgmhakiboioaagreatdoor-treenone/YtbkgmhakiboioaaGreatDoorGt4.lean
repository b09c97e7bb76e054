/-
  A tree: number; a name put and dropped; links; an inode that stays.
-/
import Derived.Test.YtbkgmhakiboioaaGreatDoorGt3
import Derived.Test.YtbkgmhakiboioaaGreatDoorGtU
namespace Go.Proofs.Gab
open Go.RowKit Go.Maps Go.ChangeMaps Go.Deep

section
variable {w : World} {own : Nat → Option Tag} {β : Int → Nat} {t bn bs be B : Nat} {T : Tr}
/-! ### number -/
def Tr.freeFrom (T : Tr) : Nat → Int → Int
  | 0, n => n
  | k + 1, n => match T.get? n with | none => n | some _ => T.freeFrom k (n + 1)
/-- the least number that none has -/
def Tr.free (T : Tr) : Int := T.freeFrom 1024 1
theorem Tr.freeFrom_none {T : Tr} {k : Nat} {n : Int} (h : T.get? n = none) : T.freeFrom k n = n := by
  cases k with
  | zero => rfl
  | succ k => simp [Tr.freeFrom, h]
theorem Tr.freeFrom_some {T : Tr} {k : Nat} {n : Int} {x : Nd} (h : T.get? n = some x) : T.freeFrom (k + 1) n = T.freeFrom k (n + 1) := by
  simp [Tr.freeFrom, h]
set_option maxRecDepth 100000 in
theorem tnumber_any (h : TreeLay w own β t bn bs be B T) : Calls Tryz.prog 101 #[.pointer (some ⟨t, 0, none⟩)] w fun e w' => e = .returned (.int .i64 T.free) ∧ w = w' := by
  have c0 := cell_of h.head 0 rfl
  have H := Go.Lib.hid h
  clear h
  go_enter Tryz.func101, Tryz.ntmps101
  go_wp2
  go_loop [3] (fun i => ∃ k : Nat, k ≤ 1024 ∧ i = .int .i64 ((k : Int) + 1) ∧ T.freeFrom (1024 - k) ((k : Int) + 1) = T.free) (fun i => 1025 - (intOf i).toNat)
  case atStart => exact ⟨0, by omega, rfl, rfl⟩
  case round =>
    obtain ⟨k, hk, rfl, hf⟩ := hrel
    have HF := Go.Lib.hid hf
    clear hf
    have hwf : (Lit.int .i64 ((k : Int) + 1)).wf = true := by simp [Lit.wf, IntKind.min, IntKind.max, IntKind.signed, IntKind.bits]; omega
    cases hx : T.get? ((k : Int) + 1) with
    | none =>
      have hl := H.out.look_none hwf hx false
      have hr := Tr.freeFrom_none (k := 1024 - k) hx
      have HR := Go.Lib.hid hr
      clear hr hx hwf
      simp only [Bool.false_eq_true, if_false] at hl
      go_wp2
      go_ret
      exact ⟨by rw [← HF.out, HR.out]; rfl, rfl⟩
    | some x =>
      have hl := H.out.look_some hwf hx false
      have hle := (H.out.keyN _ ((iget?_some H.out.sort.nodup).1 hx)).2
      have hr := Tr.freeFrom_some (k := 1024 - (k + 1)) hx
      have HR := Go.Lib.hid hr
      clear hr hx hwf
      simp only [Bool.false_eq_true, if_false] at hl
      simp only at hle
      go_wp2
      go_round
      case rel =>
        refine ⟨k + 1, by omega, by go_num, ?_⟩
        have h1 := HF.out
        have h2 := HR.out
        rw [show 1024 - (k + 1) + 1 = 1024 - k by omega, h1] at h2
        rw [h2]; congr 1
      case measure => simp [intOf]; omega

/-! ### put, drop -/
/-- what dir.Put of a new name comes to -/
def PutSpec (w : World) (O : Nat → Prop) (d B : Nat) (l : DL) (s : ByteArray) (v : Int) : Prop :=
  Calls Tryz.prog 170 #[.pointer (some ⟨d, 0, none⟩), .string s, .int .i64 v] w fun e w' => e = .returned (.int .i64 0) ∧ Fr O w w' ∧ DirAt w' (fun k => O k ∨ (w.heap.size ≤ k ∧ k < w'.heap.size)) d (B + 1) (dput l s v)
def Tr.setDir (T : Tr) (n : Int) (l : DL) : Tr := match T.get? n with | none => T | some x => T.upd n { x with dir := some l }
def Tr.put (T : Tr) (n : Int) (s : ByteArray) (v : Int) : Tr := (T.setDir n (dput (T.namesOf n) s v)).spot n s
def Tr.drop (T : Tr) (n : Int) (s : ByteArray) : Tr := (T.setDir n (ddel (T.namesOf n) s)).spot n s
/-- a tree after a step: laid with more blocks, which are new; outside its blocks nothing has turned -/
def TStep (w : World) (own : Nat → Option Tag) (t B : Nat) (T : Tr) (β : Int → Nat) (bn bs be : Nat) (w' : World) : Prop :=
  Fr (fun k => own k ≠ none) w w' ∧ ∃ own', (∀ k, k < w.heap.size → own' k ≠ none → own k ≠ none) ∧ TreeLay w' own' β t bn bs be B T
set_option maxRecDepth 100000 in
theorem tput_any (h : TreeLay w own β t bn bs be B T) (hD : T.Dirs) {n v : Int} {s : ByteArray} (hn : (Lit.int .i64 n).wf = true) (hs : s.size ≤ maxLen) (hd : T.dirE n = 0) (hB : B < 1073741824)
    (hp : ∀ d, DirAt w (fun k => own k = some (.dir n)) d B (T.namesOf n) → PutSpec w (fun k => own k = some (.dir n)) d B (T.namesOf n) s v) :
    Calls Tryz.prog 102 #[.pointer (some ⟨t, 0, none⟩), .int .i64 n, .string s, .int .i64 v] w fun e w' => e = .returned (.tuple #[]) ∧ TStep w own t (B + 1) (T.put n s v) β bn bs be w' := by
  obtain ⟨x, hx, hk⟩ := Tr.dir_ok hd
  obtain ⟨bv, d, hnd, hda⟩ := h.dirAt hD hx hk
  have hp' := hp d hda
  have hl := h.look_some hn hx false
  simp only [Bool.false_eq_true, if_false] at hl
  have c0 := cell_of h.head 0 rfl
  have c5 := cell_of hnd.cells 5 rfl
  have hh := h.head
  have ht := h.ot
  have HP := Go.Lib.hid hp'
  have H := Go.Lib.hid h
  have HN := Go.Lib.hid hnd
  have HX := Go.Lib.hid hx
  clear h hnd hda hp hp' hk hd hx
  obtain ⟨kl, hkl⟩ := keySpot hn hs
  have hsb := H.out.spotsB
  have hlen : (T.spots.map encS).length < maxLen := by simp [maxLen]; omega
  have hsp := Go.Lib.hid (spot_put (l := T.spots) n s)
  have hnd2 := Go.Lib.hid (encS_nodup (sput_sort H.out.sortS (n, s)))
  go_enter Tryz.func102, Tryz.ntmps102
  go_wp2_with (first
    | (go_at_call 170; refine HP.out.mono ?_; rintro e w1 ⟨rfl, hf1, hd1⟩; have hh1 := hf1.heap hh (by rw [ht]; simp); have k1 := cell_of hh1 1 rfl; have hm1 := H.out.spots.frame hf1 (by rw [H.out.os]; simp); have HM := Go.Lib.hid hm1; have HF := Go.Lib.hid hf1; have HD := Go.Lib.hid hd1; clear hh1 hf1 hd1 hm1)
    | (at_mapUpdate; refine wpL_store _ rfl _ _ _ 158 rfl lawSpot Tryz.underlying158 bs (T.spots.map encS) ((sput T.spots (n, s)).map encS) rfl HM.out hlen (.agg #[.int .i64 n, .string s]) (.bool true) _ rfl rfl hkl hsp.out.1 hsp.out.2.1 hsp.out.2.2 hnd2.out ?_; intro w3 hm3 hf3 hz3; have M3 := Go.Lib.hid hm3; have F3 := Go.Lib.hid hf3; clear hm3 hf3 hz3))
  go_end0
  have hsd := H.out.setDir HX.out HN.out HF.out (Nat.le_succ B) HD.out
  have hst := hsd.turnSpots F3.out (sput_sort H.out.sortS (n, s)) M3.out (Nat.le_refl _) (by have := length_sput T.spots (n, s); omega)
  refine ⟨rfl, (HF.out.mono fun k _ e => by rw [e]; simp).trans' (F3.out.mono fun k _ e => e) (fun k _ e => by rw [e, H.out.os]; simp), fun k => if w.heap.size ≤ k ∧ k < w1.heap.size then some (.dir n) else own k, ?_, ?_⟩
  · intro k hk hne
    by_cases e : w.heap.size ≤ k ∧ k < w1.heap.size
    · omega
    · simpa only [if_neg e] using hne
  · unfold Tr.put Tr.setDir
    rw [HX.out]
    exact hst
set_option maxRecDepth 100000 in
theorem tdrop_any (h : TreeLay w own β t bn bs be B T) (hD : T.Dirs) {n : Int} {s : ByteArray} (hn : (Lit.int .i64 n).wf = true) (hs : s.size ≤ maxLen) (hd : T.dirE n = 0) (hB : B < 1073741824) (hh : dhas (T.namesOf n) s = true) :
    Calls Tryz.prog 98 #[.pointer (some ⟨t, 0, none⟩), .int .i64 n, .string s] w fun e w' => e = .returned (.tuple #[]) ∧ TStep w own t (B + 1) (T.drop n s) β bn bs be w' := by
  obtain ⟨x, hx, hk⟩ := Tr.dir_ok hd
  obtain ⟨bv, d, hnd, hda⟩ := h.dirAt hD hx hk
  have hp' := dDrop_has hda (by omega) hs hh
  have hl := h.look_some hn hx false
  simp only [Bool.false_eq_true, if_false] at hl
  have c0 := cell_of h.head 0 rfl
  have c5 := cell_of hnd.cells 5 rfl
  have hhd := h.head
  have ht := h.ot
  have HP := Go.Lib.hid hp'
  have H := Go.Lib.hid h
  have HN := Go.Lib.hid hnd
  have HX := Go.Lib.hid hx
  clear h hnd hda hp' hk hd hx hh
  obtain ⟨kl, hkl⟩ := keySpot hn hs
  have hsb := H.out.spotsB
  have hlen : (T.spots.map encS).length < maxLen := by simp [maxLen]; omega
  have hsp := Go.Lib.hid (spot_put (l := T.spots) n s)
  have hnd2 := Go.Lib.hid (encS_nodup (sput_sort H.out.sortS (n, s)))
  go_enter Tryz.func98, Tryz.ntmps98
  go_wp2_with (first
    | (go_at_call 169; refine HP.out.mono ?_; rintro e w1 ⟨rfl, hf1, hz1, hd1⟩; have hh1 := hf1.heap hhd (by rw [ht]; simp); have k1 := cell_of hh1 1 rfl; have hm1 := H.out.spots.frame hf1 (by rw [H.out.os]; simp); have HM := Go.Lib.hid hm1; have HF := Go.Lib.hid hf1; have HD := Go.Lib.hid hd1; have HZ := Go.Lib.hid hz1; clear hh1 hf1 hd1 hm1 hz1)
    | (at_mapUpdate; refine wpL_store _ rfl _ _ _ 158 rfl lawSpot Tryz.underlying158 bs (T.spots.map encS) ((sput T.spots (n, s)).map encS) rfl HM.out hlen (.agg #[.int .i64 n, .string s]) (.bool true) _ rfl rfl hkl hsp.out.1 hsp.out.2.1 hsp.out.2.2 hnd2.out ?_; intro w3 hm3 hf3 hz3; have M3 := Go.Lib.hid hm3; have F3 := Go.Lib.hid hf3; clear hm3 hf3 hz3))
  go_end0
  have hwd : DirAt w1 (fun k => own k = some (.dir n) ∨ (w.heap.size ≤ k ∧ k < w1.heap.size)) d (B + 1) (ddel (T.namesOf n) s) := by
    refine (HD.out.mono (Nat.le_succ B)).wider (fun k hk => .inl hk) (fun k hk => ?_)
    rcases hk with hk | hk
    · exact HD.out.olt k hk
    · exact hk.2
  have hsd := H.out.setDir HX.out HN.out HF.out (Nat.le_succ B) hwd
  have hst := hsd.turnSpots F3.out (sput_sort H.out.sortS (n, s)) M3.out (Nat.le_refl _) (by have := length_sput T.spots (n, s); omega)
  refine ⟨rfl, (HF.out.mono fun k _ e => by rw [e]; simp).trans' (F3.out.mono fun k _ e => e) (fun k _ e => by rw [e, H.out.os]; simp), fun k => if w.heap.size ≤ k ∧ k < w1.heap.size then some (.dir n) else own k, ?_, ?_⟩
  · intro k hk hne
    by_cases e : w.heap.size ≤ k ∧ k < w1.heap.size
    · omega
    · simpa only [if_neg e] using hne
  · unfold Tr.drop Tr.setDir
    rw [HX.out]
    exact hst
end
end Go.Proofs.Gab
