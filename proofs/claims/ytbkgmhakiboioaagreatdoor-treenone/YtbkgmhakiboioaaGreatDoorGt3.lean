/-
  A tree: vacant, number; a name put and dropped; links; reap.
-/
import Derived.Test.YtbkgmhakiboioaaGreatDoorGt2
namespace Go.Proofs.Gab
open Go.RowKit Go.Maps Go.ChangeMaps Go.Deep

def NameIs (s : ByteArray) (E : Int) : Prop := ∀ w, Calls Tryz.prog 73 #[.string s] w fun e w' => e = .returned (.int .i64 E) ∧ Below w.heap.size w w'
theorem below_drewN {w w' : World} {B : Nat} (h : Below B w w') (n : Nat) : Below B w (w'.drewN n) := ⟨h.os, h.tape, h.output, h.size, h.block⟩
section
variable {w : World} {own : Nat → Option Tag} {β : Int → Nat} {t bn bs be B : Nat} {T : Tr}
/-- whether a name may be made: E is what dir.Name says of it -/
def Tr.vacE (T : Tr) (n : Int) (s : ByteArray) (E : Int) : Int := if T.openE n ≠ 0 then T.openE n else if E ≠ 0 then E else if dhas (T.namesOf n) s = true then 14 else 0
set_option maxRecDepth 100000 in
theorem tvacant_open {tv : Value} {n E : Int} {w : World} (s : ByteArray) (h : NoNode 85 E tv n w) (hE : (E != 0) = true) : Calls Tryz.prog 100 #[tv, .int .i64 n, .string s] w fun e w' => e = .returned (.tuple #[.pointer none, .int .i64 E]) ∧ Below w.heap.size w w' := by
  unfold NoNode at h
  have H := Go.Lib.hid h
  clear h
  go_enter Tryz.func100, Tryz.ntmps100
  go_wp2_with (go_at_call 85; refine H.out.mono ?_; rintro e w1 ⟨rfl, rfl⟩)
  go_ret2
  exact ⟨rfl, Below.refl _ _⟩
set_option maxRecDepth 100000 in
theorem tvacant_name (h : TreeLay w own β t bn bs be B T) {n E : Int} {s : ByteArray} (hn : (Lit.int .i64 n).wf = true) (hO : T.openE n = 0) (hN : NameIs s E) (hE : (E != 0) = true) :
    Calls Tryz.prog 100 #[.pointer (some ⟨t, 0, none⟩), .int .i64 n, .string s] w fun e w' => e = .returned (.tuple #[.pointer none, .int .i64 E]) ∧ Below w.heap.size w w' := by
  have H := Go.Lib.hid (topen_ok h hn hO)
  have HN := Go.Lib.hid hN
  clear h hO hN
  go_enter Tryz.func100, Tryz.ntmps100
  go_wp2_with (first
    | (go_at_call 85; refine H.out.mono ?_; rintro e w1 ⟨rfl, rfl⟩)
    | (go_at_call 73; refine (HN.out _).mono ?_; rintro e w1 ⟨rfl, hb⟩; have HB := Go.Lib.hid hb; clear hb))
  go_ret2
  exact ⟨rfl, HB.out⟩
set_option maxRecDepth 100000 in
theorem tvacant_in (h : TreeLay w own β t bn bs be B T) (hB : B ≤ 1073741824) (hD : T.Dirs) {n : Int} {s : ByteArray} (hn : (Lit.int .i64 n).wf = true) (hs : s.size ≤ maxLen) (hO : T.openE n = 0) (hN : NameIs s 0) :
    Calls Tryz.prog 100 #[.pointer (some ⟨t, 0, none⟩), .int .i64 n, .string s] w fun e w' => e = .returned (.tuple (if dhas (T.namesOf n) s = true then #[.pointer none, .int .i64 14] else #[.pointer (some ⟨β n, 0, none⟩), .int .i64 0])) ∧ Below w.heap.size w w' := by
  have H := Go.Lib.hid (topen_ok h hn hO)
  have HN := Go.Lib.hid hN
  obtain ⟨x, hx, hk, _⟩ := Tr.open_ok hO
  obtain ⟨bv, d, hnd, hda⟩ := h.dirAt hD hx hk
  have c5 := cell_of hnd.cells 5 rfl
  have hlt := heap_lt hnd.cells
  have HD := Go.Lib.hid (p := ∀ w', Below w.heap.size w w' → _) (fun w' hb => dGet_any (hda.frame (Fr.of_below_all hb (fun _ => False)) (fun _ _ => id)) hB hs)
  cases hh : dhas (T.namesOf n) s with
  | true =>
    rw [hh] at HD
    clear h hO hN hnd hk hx hda hh
    simp only [if_true]
    generalize β n = b at *
    generalize dget (T.namesOf n) s = v at *
    go_enter Tryz.func100, Tryz.ntmps100
    go_wp2_with (first
      | (go_at_call 85; refine H.out.mono ?_; rintro e w1 ⟨rfl, rfl⟩)
      | (go_at_call 73; refine (HN.out _).mono ?_; rintro e w1 ⟨rfl, hb⟩; have d5 := (hb.cell (p := ⟨b, 5, none⟩) hlt).trans c5; have HB := Go.Lib.hid hb; clear hb)
      | (go_at_call 103; refine (HD.out _ HB.out).mono ?_; rintro e w2 ⟨rfl, k, rfl⟩))
    go_ret2
    exact ⟨rfl, below_drewN HB.out _⟩
  | false =>
    rw [hh] at HD
    clear h hO hN hnd hk hx hda hh
    simp only [Bool.false_eq_true, if_false]
    generalize β n = b at *
    generalize dget (T.namesOf n) s = v at *
    go_enter Tryz.func100, Tryz.ntmps100
    go_wp2_with (first
      | (go_at_call 85; refine H.out.mono ?_; rintro e w1 ⟨rfl, rfl⟩)
      | (go_at_call 73; refine (HN.out _).mono ?_; rintro e w1 ⟨rfl, hb⟩; have d5 := (hb.cell (p := ⟨b, 5, none⟩) hlt).trans c5; have HB := Go.Lib.hid hb; clear hb)
      | (go_at_call 103; refine (HD.out _ HB.out).mono ?_; rintro e w2 ⟨rfl, k, rfl⟩))
    go_ret2
    exact ⟨rfl, below_drewN HB.out _⟩
/-- vacant, whatever stands there -/
theorem tvacant_no (h : TreeLay w own β t bn bs be B T) (hB : B ≤ 1073741824) (hD : T.Dirs) {n E : Int} {s : ByteArray} (hn : (Lit.int .i64 n).wf = true) (hs : s.size ≤ maxLen) (hN : NameIs s E) (hE : T.vacE n s E ≠ 0) :
    Calls Tryz.prog 100 #[.pointer (some ⟨t, 0, none⟩), .int .i64 n, .string s] w fun e w' => e = .returned (.tuple #[.pointer none, .int .i64 (T.vacE n s E)]) ∧ Below w.heap.size w w' := by
  unfold Tr.vacE at *
  by_cases h1 : T.openE n = 0
  · simp only [h1, ne_eq, not_true_eq_false, if_false] at hE ⊢
    by_cases h2 : E = 0
    · subst h2
      simp only [not_true_eq_false, if_false] at hE ⊢
      have := tvacant_in h hB hD hn hs h1 hN
      by_cases h3 : dhas (T.namesOf n) s = true
      · simp only [h3, if_true] at this ⊢; exact this
      · simp only [h3] at hE; exact absurd rfl hE
    · simp only [h2, not_false_eq_true, if_true]
      exact tvacant_name h hn h1 hN (by simpa using h2)
  · simp only [h1, ne_eq, not_false_eq_true, if_true]
    exact tvacant_open s (topen_no h hn h1) (by simpa using h1)
theorem Tr.vac_ok {n E : Int} {s : ByteArray} (hE : T.vacE n s E = 0) : T.openE n = 0 ∧ E = 0 ∧ dhas (T.namesOf n) s = false := by
  unfold Tr.vacE at hE
  by_cases h1 : T.openE n = 0
  · simp only [h1, ne_eq, not_true_eq_false, if_false] at hE
    by_cases h2 : E = 0
    · subst h2
      simp only [not_true_eq_false, if_false] at hE
      by_cases h3 : dhas (T.namesOf n) s = true
      · simp only [h3, if_true] at hE; cases hE
      · exact ⟨h1, rfl, by simpa using h3⟩
    · simp only [h2, not_false_eq_true, if_true] at hE
  · simp only [h1, ne_eq, not_false_eq_true, if_true] at hE
theorem tvacant_ok (h : TreeLay w own β t bn bs be B T) (hB : B ≤ 1073741824) (hD : T.Dirs) {n E : Int} {s : ByteArray} (hn : (Lit.int .i64 n).wf = true) (hs : s.size ≤ maxLen) (hN : NameIs s E) (hE : T.vacE n s E = 0) :
    Calls Tryz.prog 100 #[.pointer (some ⟨t, 0, none⟩), .int .i64 n, .string s] w fun e w' => e = .returned (.tuple #[.pointer (some ⟨β n, 0, none⟩), .int .i64 0]) ∧ Below w.heap.size w w' := by
  obtain ⟨h1, rfl, h3⟩ := Tr.vac_ok hE
  have := tvacant_in h hB hD hn hs h1 hN
  simp only [h3, Bool.false_eq_true, if_false] at this
  exact this
end
end Go.Proofs.Gab
