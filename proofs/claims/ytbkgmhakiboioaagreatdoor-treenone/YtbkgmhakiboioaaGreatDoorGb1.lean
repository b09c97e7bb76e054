/-
  The check of 16 bits, and the buckets of a directory: that each call computes what is said of it, in whatever world.
-/
import Derived.Test.YtbkgmhakiboioaaGreatDoorProg
import Derived.Test.YtbkgmhakiboioaaGreatDoorGb0
import Derived.WalkKit
import Derived.Outline
import Derived.WalkLawsBesides
import Derived.WalkSpells
import Derived.Lib.Hide
import Derived.Deep.QuietTactic
import Derived.BigQuiet
import Derived.IntWalk
namespace Go.Proofs.Gab
open Go.RowKit Go.Maps
def crcIn (r : Int) (b : Int) : Int := bits BinOp.xor IntKind.u16 r (IntKind.u16.wrap (IntKind.u16.wrap b * 256))
def crcBit (r : Int) : Int := if (bits BinOp.and IntKind.u16 r 32768 != 0) = true then bits BinOp.xor IntKind.u16 (IntKind.u16.wrap (r * 2)) 4129 else IntKind.u16.wrap (r * 2)
def crcBits : Nat → Int → Int
  | 0, r => r
  | n + 1, r => crcBit (crcBits n r)
def crcTo (s : ByteArray) : Nat → Int
  | 0 => 65535
  | k + 1 => if h : k < s.size then crcBits 8 (crcIn (crcTo s k) (s[k].toNat : Int)) else 0
def c16 (s : ByteArray) : Nat := (crcTo s s.size).toNat
theorem crcTo_succ (s : ByteArray) (k : Nat) (h : k < s.size) : crcTo s (k + 1) = crcBits 8 (crcIn (crcTo s k) (s[k].toNat : Int)) := by simp [crcTo, h]
theorem wrap16 (n : Int) : 0 ≤ IntKind.u16.wrap n ∧ IntKind.u16.wrap n ≤ 65535 := by simp [IntKind.wrap, IntKind.bits, IntKind.signed]; omega
theorem crcBit_bd (r : Int) : 0 ≤ crcBit r ∧ crcBit r ≤ 65535 := by
  unfold crcBit
  split
  · exact ⟨bits_lo_u16 _ _ _, bits_hi_u16 _ _ _⟩
  · exact wrap16 _
theorem crcBits_bd (n : Nat) (r : Int) : 0 ≤ crcBits (n + 1) r ∧ crcBits (n + 1) r ≤ 65535 := crcBit_bd _
theorem crcTo_bd (s : ByteArray) (k : Nat) : 0 ≤ crcTo s k ∧ crcTo s k ≤ 65535 := by
  cases k with
  | zero => simp [crcTo]
  | succ k =>
    simp only [crcTo]
    split
    · exact crcBits_bd _ _
    · simp
theorem c16_le (s : ByteArray) : c16 s ≤ 65535 := by
  have := crcTo_bd s s.size
  unfold c16; omega
set_option maxRecDepth 100000 in
theorem sum16_0 (s : ByteArray) (w : World) (hs : s.size ≤ maxLen) : Calls Tryz.prog 217 #[.string s] w fun e w' => e = .returned (.int .u16 (crcTo s s.size)) ∧ w = w' := by
  unfold maxLen at hs
  go_enter Tryz.func217, Tryz.ntmps217
  go_wp2
  go_loop [3, 4, 5, 8] (fun r a b i => ∃ k : Nat, k ≤ s.size ∧ i = .int .i64 k ∧ r = .int .u16 (crcTo s k)) (fun r a b i => s.size - (intOf i).toNat)
  case atStart => exact ⟨0, Nat.zero_le _, rfl, rfl⟩
  case round =>
    obtain ⟨k, hk, rfl, rfl⟩ := hrel
    by_cases hlt : k < s.size
    · have hsn := Go.Lib.hid (crcTo_succ s k hlt)
      go_wp2
      go_loop [3, 5, 18] (fun r b i => ∃ j : Nat, j ≤ 8 ∧ i = .int .i64 j ∧ r = .int .u16 (crcBits j (crcIn (crcTo s k) (s[k].toNat : Int)))) (fun r b i => 8 - (intOf i).toNat)
      case atStart => exact ⟨0, Nat.zero_le _, rfl, rfl⟩
      case round =>
        obtain ⟨j, hj, rfl, rfl⟩ := hrel
        by_cases hjt : j < 8
        · generalize hx : crcBits j (crcIn (crcTo s k) (s[k].toNat : Int)) = x
          have HX := Go.Lib.hid hx
          clear hx
          by_cases hb : (bits BinOp.and IntKind.u16 x 32768 != 0) = true
          · go_wp2
            all_goals
              go_round
              case rel => exact ⟨j + 1, by omega, by go_num, by simp only [crcBits]; rw [HX.out]; simp only [crcBit]; rw [if_pos hb]⟩
              case measure => simp [intOf]; omega
          · have hb' : (bits BinOp.and IntKind.u16 x 32768 != 0) = false := by simpa using hb
            clear hb
            go_wp2
            all_goals
              go_round
              case rel => exact ⟨j + 1, by omega, by go_num, by simp only [crcBits]; rw [HX.out]; simp only [crcBit]; rw [if_neg (by simp [hb'])]⟩
              case measure => simp [intOf]; omega
        · obtain rfl : j = 8 := by omega
          go_wp2
          go_round
          case rel => exact ⟨k + 1, by omega, by go_num, by rw [hsn.out]⟩
          case measure => simp [intOf]; omega
    · obtain rfl : k = s.size := by omega
      go_wp2
      go_ret
      exact ⟨rfl, rfl⟩
theorem sum16 (s : ByteArray) (w : World) (hs : s.size ≤ maxLen) : Calls Tryz.prog 217 #[.string s] w fun e w' => e = .returned (.int .u16 (c16 s : Nat)) ∧ w' = w :=
  (sum16_0 s w hs).mono fun e w' ⟨he, hw⟩ => ⟨by rw [he]; unfold c16; rw [Int.toNat_of_nonneg (crcTo_bd s s.size).1], hw.symm⟩
set_option maxRecDepth 100000 in
theorem bucket_any (s : ByteArray) (d arr nb cap h i b : Nat) (w : World) (hs : s.size ≤ maxLen) (c0 : w.cell? ⟨d, 0, none⟩ = some (.slice (some ⟨arr, 0, none⟩) nb cap))
   (hh : h = c16 s) (hi : i = h % nb) (hin : i < nb) (hnb : nb ≤ 1099511627776) (ci : w.cell? ⟨arr, i, none⟩ = some (.map (some b))) :
    Calls Tryz.prog 171 #[.pointer (some ⟨d, 0, none⟩), .string s] w fun e w' => e = .returned (.map (some b)) ∧ ∃ n, w' = w.drewN n := by
  have h5 : h ≤ 65535 := by rw [hh]; exact c16_le s
  have hc : ∀ w, Calls Tryz.prog 217 #[.string s] w fun e w' => e = .returned (.int .u16 (h : Nat)) ∧ w' = w := fun w => by rw [hh]; exact sum16 s w hs
  have HC := Go.Lib.hid hc
  clear hc hh
  have e1 : IntKind.i64.wrap (h : Int) = h := IntWalk.i64_in _ (by omega)
  have e2 : Int.tmod (h : Int) (nb : Int) = (i : Int) := by rw [hi]; exact (Int.ofNat_tmod h nb).symm
  have e3 : IntKind.i64.wrap (i : Int) = i := IntWalk.i64_in _ (by omega)
  have z1 : (0 : Int) ≤ i := by omega
  have z2 : (i : Int) < nb := by omega
  have z3 : ((nb : Int) == 0) = false := by simp; omega
  clear hi
  go_enter Tryz.func171, Tryz.ntmps171
  go_wp2
  go_quiet ((go_at_call 217; exact Calls.quiet_of_same (HC.out _)))
  go_wp2
  go_ret
  exact ⟨rfl, _, rfl⟩
end Go.Proofs.Gab
