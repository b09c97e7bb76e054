/-
  strings.SplitSeq(s, "/"): the iterator's contract.
-/
import Derived.Test.YtbkgmhakiboioaaGreatDoorGa0
import Derived.Test.YtbkgmhakiboioaaGreatDoorGp0
import Derived.Test.YtbkgmhakiboioaaGreatDoorGt0
import Derived.Lib.Hide
import Derived.IntWalk
import Derived.Shelf.Small.Strs
import Derived.Shelf.Strings.Search2
import Derived.Shelf.Strings.Search3
import Derived.Lib.IndexLaws
import Derived.Shelf.Abstract
import Derived.Shelf.RegionOpen
import Derived.OwnWalkIn
import Derived.TacticsInMore
import Derived.LoopNIn
import Derived.LoopIn
namespace Go.Proofs.Gab
open Go.RowKit Go.Maps Go.ChangeMaps Go.Shelf Go.Lib
attribute [local go_sem] Oper.semAt_some

/-- the parts of a path between its slashes -/
def cuts : List UInt8 → List (List UInt8)
  | [] => [[]]
  | c :: r => if c = 47 then [] :: cuts r else (c :: (cuts r).headD []) :: (cuts r).tail
theorem cuts_ne (l : List UInt8) : cuts l ≠ [] := by
  cases l with
  | nil => simp [cuts]
  | cons c r => simp only [cuts]; split <;> simp
theorem cuts_none : ∀ {l : List UInt8}, Lib.indexByte l 47 = -1 → cuts l = [l]
  | [], _ => rfl
  | c :: r, h => by
    simp only [Lib.indexByte] at h
    by_cases hc : c = 47
    · subst hc; simp at h
    · have hge := Lib.indexByte_ge r 47
      have hc' : (c == 47) = false := by simpa using hc
      rw [hc'] at h
      simp only [Bool.false_eq_true, if_false] at h
      have hr : Lib.indexByte r 47 = -1 := by
        by_cases h1 : Lib.indexByte r 47 = -1
        · exact h1
        · have h1' : (Lib.indexByte r 47 == -1) = false := by simpa using h1
          rw [h1'] at h
          simp at h
          omega
      simp [cuts, hc, cuts_none hr]
theorem cuts_some : ∀ {l : List UInt8} {i : Nat}, Lib.indexByte l 47 = i → i < l.length ∧ cuts l = l.take i :: cuts (l.drop (i + 1))
  | [], i, h => by simp only [Lib.indexByte] at h; omega
  | c :: r, i, h => by
    simp only [Lib.indexByte] at h
    by_cases hc : c = 47
    · subst hc
      simp at h
      obtain rfl : i = 0 := by omega
      simp [cuts]
    · have hge := Lib.indexByte_ge r 47
      have hc' : (c == 47) = false := by simpa using hc
      rw [hc'] at h
      simp only [Bool.false_eq_true, if_false] at h
      by_cases h1 : Lib.indexByte r 47 = -1
      · simp only [h1] at h; simp at h
      · have h1' : (Lib.indexByte r 47 == -1) = false := by simpa using h1
        rw [h1'] at h
        simp at h
        obtain ⟨i', rfl⟩ : ∃ i' : Nat, i = i' + 1 := ⟨i - 1, by omega⟩
        have hi : Lib.indexByte r 47 = (i' : Int) := by omega
        obtain ⟨h2, h3⟩ := cuts_some hi
        refine ⟨by simp; omega, ?_⟩
        simp [cuts, hc, h3]
theorem ext_take (l : List UInt8) (i : Nat) (h : i ≤ l.length) : (⟨l.toArray⟩ : ByteArray).extract 0 i = ⟨(l.take i).toArray⟩ := by
  apply ByteArray.ext
  simp [ByteArray.data_extract]
theorem ext_drop (l : List UInt8) (i : Nat) : (⟨l.toArray⟩ : ByteArray).extract i (⟨l.toArray⟩ : ByteArray).size = ⟨(l.drop i).toArray⟩ := by
  apply ByteArray.ext
  simp only [ByteArray.data_extract, ByteArray.size]
  simp
  rw [List.take_of_length_le (by simp)]
def strL (l : List UInt8) : Value := .string ⟨l.toArray⟩
def boxS (w : World) (b : Nat) (l : List UInt8) : Prop := w.heap[b]? = some (.cells #[strL l] 9 (0, 0))
/-- how much of it is left -/
def strLeft (w : World) (b : Nat) : Nat := match w.cell? ⟨b, 0, none⟩ with | some (.string s) => s.size | _ => 0
theorem strLeft_box {w : World} {b : Nat} {l : List UInt8} (h : boxS w b l) : strLeft w b = l.length := by
  have h0 := cell_of h 0 rfl
  unfold strL at h0
  simp [strLeft, h0, ByteArray.size]
/-- the three boxes are as they were -/
def KeepsBoxes (b : Nat) (w w' : World) : Prop := w.heap.size ≤ w'.heap.size ∧ ∀ k, k = b ∨ k = b + 1 ∨ k = b + 2 → w'.heap[k]? = w.heap[k]?

theorem sIndex_slash (s : ByteArray) (w : World) : Calls Tryz.prog 206 #[.string s, .string ⟨#[47]⟩] w fun e w' => e = .returned (.int .i64 (Lib.indexByte s.data.toList 47)) ∧ w' = w := Any.strings_Index_one Tryz.laysIndexG s 47 w

set_option maxRecDepth 100000 in
set_option maxHeartbeats 1000000 in
theorem splitSeq1_cell (n : Nat) (hn : 1 ≤ n) (b : Nat) (s : List UInt8) (w : World) (hs : s.length ≤ 1073741824)
    (h0 : boxS w b s) (h1 : boxS w (b + 1) [47]) (h2 : w.heap[b + 2]? = some (.cells #[.int .i64 0] 3 (0, 0))) :
    SeqCell Fence.wide n Tryz.prog 204 #[.pointer (some ⟨b + 1, 0, none⟩), .pointer (some ⟨b, 0, none⟩), .pointer (some ⟨b + 2, 0, none⟩)] strL (KeepsBoxes b) b (cuts s) w := fun l J Jx W hKW hJ hY hj => by
  refine callsIn_of_wp Tryz.func204 rfl trivial ?_ rfl
  simp only [Tryz.ntmps204, List.size_toArray, List.length_cons, List.length_nil, Nat.reduceAdd, Nat.reduceSub, Array.replicate_succ, Array.replicate_zero, List.push_toArray, List.append_toArray, List.nil_append, List.cons_append]
  have b0 : boxS W b s := (hKW.2 b (.inl rfl)).trans h0
  have b1 : boxS W (b + 1) [47] := (hKW.2 _ (.inr (.inl rfl))).trans h1
  have b2 := (hKW.2 _ (.inr (.inr rfl))).trans h2
  have c1 := cell_of b1 0 rfl
  have c2 := cell_of b2 0 rfl
  unfold strL at c1
  gi_wp2
  gi_loopw [7] (fun _ wr => ∃ (pre : List (List UInt8)) (rest : List UInt8), cuts s = pre ++ cuts rest ∧ rest.length ≤ s.length ∧ boxS wr b rest ∧ boxS wr (b + 1) [47] ∧ wr.heap[b + 2]? = some (.cells #[.int .i64 0] 3 (0, 0)) ∧ J pre wr) (fun _ wr => strLeft wr b)
  case atStart => exact ⟨[], s, rfl, Nat.le_refl _, b0, b1, b2, hj⟩
  case round =>
    obtain ⟨pre, rest, hp, hlen, d0, d1, d2, hjp⟩ := hrel
    have e0 := cell_of d0 0 rfl
    have e1 := cell_of d1 0 rfl
    have e2 := cell_of d2 0 rfl
    have f0 := free_of d0 0
    unfold strL at e0 e1
    have hfi : Fence.wide.fn 206 := trivial
    have hI := Go.Lib.hid (sIndex_slash ⟨rest.toArray⟩ wr)
    by_cases hneg : Lib.indexByte rest 47 = -1
    · have hx : Lib.indexByte rest 47 < 0 := by omega
      simp only [hneg] at hI
      obtain ⟨fn, tmps, assign, body, hy, hR⟩ := hY pre rest wr hjp (by rw [hp, cuts_none hneg]; exact List.prefix_refl _)
      dsimp only [strL] at hy
      have hcs : cuts s = pre ++ [rest] := by rw [hp, cuts_none hneg]
      clear b0 b1 b2 c1 c2 h0 h1 h2 hY hJ hjp hj hKW hneg hx
      gi_wp2_with (gi_at_call 206; refine (callsIn_wide.2 hI.out).mono ?_; rintro e w' ⟨rfl, rfl⟩)
      refine hR.mono ?_
      rintro e W3 (⟨rfl, hJ3, hk3⟩ | ⟨rfl, hJx3⟩)
      · gi_wp2
        go_end0
        exact ⟨⟨_, rfl⟩, .inl (hcs ▸ hJ3)⟩
      · gi_wp2
        go_end0
        exact ⟨⟨_, rfl⟩, .inr ⟨_, by rw [hcs]; exact List.prefix_refl _, hJx3⟩⟩
    · obtain ⟨i, hi⟩ : ∃ i : Nat, Lib.indexByte rest 47 = i := ⟨(Lib.indexByte rest 47).toNat, by have := Lib.indexByte_ge rest 47; omega⟩
      obtain ⟨hlt, hcut⟩ := cuts_some hi
      rw [hi] at hI
      have k1 : IntKind.i64.wrap ((i : Int) + 0) = i := IntWalk.i64_in _ (by omega)
      have k2 : IntKind.i64.wrap ((i : Int) + 1) = i + 1 := IntWalk.i64_in _ (by omega)
      have hcs : cuts s = (pre ++ [rest.take i]) ++ cuts (rest.drop (i + 1)) := by rw [hp, hcut]; simp
      obtain ⟨fn, tmps, assign, body, hy, hR⟩ := hY pre (rest.take i) wr hjp (by rw [hcs]; exact List.prefix_append _ _)
      dsimp only [strL] at hy
      rw [← ext_take rest i (by omega)] at hy
      have hdl : (rest.drop (i + 1)).length ≤ s.length := by simp; omega
      have hsz : (⟨rest.toArray⟩ : ByteArray).size = rest.length := by simp [ByteArray.size]
      clear b0 b1 b2 c1 c2 h0 h1 h2 hY hjp hj hKW hcut
      gi_wp2_with (gi_at_call 206; refine (callsIn_wide.2 hI.out).mono ?_; rintro e w' ⟨rfl, rfl⟩)
      refine hR.mono ?_
      rintro e W3 (⟨rfl, hJ3, hk3⟩ | ⟨rfl, hJx3⟩)
      · have d0' : boxS W3 b rest := (hk3.2 b (.inl rfl)).trans d0
        have d1' : boxS W3 (b + 1) [47] := (hk3.2 _ (.inr (.inl rfl))).trans d1
        have d2' := (hk3.2 _ (.inr (.inr rfl))).trans d2
        have g0 := cell_of d0' 0 rfl
        have g1 := cell_of d1' 0 rfl
        have g2 := cell_of d2' 0 rfl
        have f0' := free_of d0' 0
        unfold strL at g0 g1
        have hw0 : (W3.setCell ⟨b, 0, none⟩ (.string ⟨(rest.drop (i + 1)).toArray⟩)).heap[b]? = some (.cells #[strL (rest.drop (i + 1))] 9 (0, 0)) := set_of d0' 0 _
        have hx1 := ext_drop rest (i + 1)
        rw [hsz] at hx1
        gi_wp2
        go_roundw
        case rel => exact ⟨pre ++ [rest.take i], rest.drop (i + 1), hcs, hdl, hw0, (set_other (by simp)).trans d1', (set_other (by simp)).trans d2', hJ _ _ _ hJ3⟩
        case measure =>
          rw [strLeft_box hw0, strLeft_box d0]
          simp; omega
      · gi_wp2
        refine bodyPost_ret (results_none rfl _ _ _) rfl ?_
        exact ⟨⟨_, rfl⟩, .inr ⟨_, by rw [hcs]; exact List.prefix_append _ _, hJx3⟩⟩
end Go.Proofs.Gab
