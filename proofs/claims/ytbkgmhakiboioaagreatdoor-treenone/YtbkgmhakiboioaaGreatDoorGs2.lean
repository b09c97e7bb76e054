/-
  slices.SortFunc at spots, slices.SortedFunc.
-/
import Derived.Test.YtbkgmhakiboioaaGreatDoorGa0
import Derived.Test.YtbkgmhakiboioaaGreatDoorGs1
namespace Go.Proofs.Gab
open Go.RowKit Go.Maps Go.ChangeMaps Go.Shelf Go.Lib Go.Sort


def encSp (x : Int × ByteArray) : List Value := [.int .i64 x.1, .string x.2]
theorem flatS_get (xs : List (Int × ByteArray)) (t : Nat) (h : t < xs.length * 2) : (flatS xs)[t]? = some ((encSp xs[t / 2]!)[t % 2]!) := by
  induction xs generalizing t with
  | nil => simp at h
  | cons a xs ih =>
    have hf : flatS (a :: xs) = Value.int .i64 a.1 :: Value.string a.2 :: flatS xs := by simp [flatS]
    rw [hf]
    match t with
    | 0 => rfl
    | 1 => rfl
    | t + 2 =>
      have h' : t < xs.length * 2 := by simp at h; omega
      have e1 : (t + 2) / 2 = t / 2 + 1 := by omega
      have e2 : (t + 2) % 2 = t % 2 := by omega
      rw [List.getElem?_cons_succ, List.getElem?_cons_succ, ih t h', e1, e2]
      simp
theorem flatK_flatS (xs : List (Int × ByteArray)) : (flatK encSp 2 xs.toArray).toList = flatS xs := by
  apply List.ext_getElem?
  intro t
  by_cases h : t < xs.length * 2
  · rw [flatS_get xs t h]
    simp [flatK, h]
  · rw [List.getElem?_eq_none (by simp; omega), List.getElem?_eq_none (by rw [flatS_length]; omega)]
theorem take_put (cur : Array Value) (F : List Value) (h : F.length ≤ cur.size) : (putCells id 0 F.toArray cur).toList.take F.length = F := by
  apply List.ext_getElem?
  intro j
  by_cases hj : j < F.length
  · rw [List.getElem?_take_of_lt hj, Array.getElem?_toList]
    simp [putCells, hj, show j < cur.size by omega]
  · rw [List.getElem?_take_eq_none (by omega), List.getElem?_eq_none (by omega)]
theorem heap_sorted {w : World} {g n : Nat} {os : Array Obj} {cur : Array Value} {e : TypeId} {fr : Nat × Nat} (F : Array Value) (hb : w.heap[g]? = some (.cells cur e fr)) :
    (grow (putRow id (Sort.ahead w n) g 0 F) os).heap[g]? = some (.cells (putCells id 0 F cur) e fr) := by
  have hg : g < w.heap.size := (Array.getElem?_eq_some_iff.1 hb).1
  rw [heap_grow_old _ _ (by simpa using hg)]
  simp [putRow, mapBlock, Sort.ahead, Array.getElem?_modify, hb, onCells]
theorem grownBy_sorted {w : World} {g n : Nat} {os : Array Obj} (F : Array Value) : w.grownBy (grow (putRow id (Sort.ahead w n) g 0 F) os) (some g) := by
  refine ⟨rfl, rfl, rfl, by simp, fun k hk hne => ?_⟩
  rw [heap_grow_old _ _ (by simpa using hk)]
  have : g ≠ k := fun e => hne (by rw [e])
  simp [putRow, mapBlock, Sort.ahead, Array.getElem?_modify, this]

/-! ### the order -/
theorem lt_cmpSpot (x y : Int × ByteArray) : ltOf cmpSpot x y = slt x y := by
  obtain ⟨x1, x2⟩ := x
  obtain ⟨y1, y2⟩ := y
  simp only [ltOf, cmpSpot, cmpIv, slt]
  by_cases h1 : x1 < y1
  · simp [h1]
  · by_cases h2 : y1 < x1
    · have : x1 ≠ y1 := by omega
      simp [h1, h2, this]
    · have : x1 = y1 := by omega
      subst this
      simp only [cmpSv]
      by_cases h3 : nlt x2 y2 = true <;> by_cases h4 : nlt y2 x2 = true <;> simp [h3, h4]
theorem swoSpot : SWO (ltOf cmpSpot) where
  irrefl x := by rw [lt_cmpSpot]; exact slt_irrefl x
  trans x y z h1 h2 := by rw [lt_cmpSpot] at *; exact slt_trans h1 h2
  ntrans x y z h1 h2 := by
    rw [lt_cmpSpot] at *
    cases h : slt x z with
    | false => rfl
    | true =>
      by_cases hxy : x = y
      · subst hxy; rw [h] at h2; cases h2
      · rcases slt_total hxy with e | e
        · rw [e] at h1; cases h1
        · have := slt_trans e h
          rw [this] at h2; cases h2
theorem sort_spots {ys xs : List (Int × ByteArray)} (hp : ys.Perm xs) (hs : SSort xs) : ys.mergeSort (fun x y => !(ltOf cmpSpot) y x) = xs := by
  have tr : ∀ a b c : Int × ByteArray, (!(ltOf cmpSpot) b a) = true → (!(ltOf cmpSpot) c b) = true → (!(ltOf cmpSpot) c a) = true := fun a b c h1 h2 => by
    simp only [Bool.not_eq_true', lt_cmpSpot] at *
    have := swoSpot.ntrans c b a (by rw [lt_cmpSpot]; exact h2) (by rw [lt_cmpSpot]; exact h1)
    rwa [lt_cmpSpot] at this
  have to : ∀ a b : Int × ByteArray, (!(ltOf cmpSpot) b a || !(ltOf cmpSpot) a b) = true := fun a b => by
    simp only [lt_cmpSpot, Bool.or_eq_true, Bool.not_eq_true']
    cases h : slt b a with
    | false => exact .inl rfl
    | true =>
      refine .inr ?_
      cases h' : slt a b with
      | false => rfl
      | true => have := slt_trans h h'; rw [slt_irrefl] at this; cases this
  refine List.Perm.eq_of_pairwise (le := fun a b => (!(ltOf cmpSpot) b a) = true) (fun a b _ _ h1 h2 => ?_) (List.pairwise_mergeSort tr to ys) (hs.imp fun {a b} h => ?_) ((List.mergeSort_perm ys _).trans hp)
  · simp only [lt_cmpSpot, Bool.not_eq_true'] at h1 h2
    by_cases hab : a = b
    · exact hab
    · rcases slt_total hab with e | e
      · rw [e] at h2; cases h2
      · rw [e] at h1; cases h1
  · simp only [lt_cmpSpot, Bool.not_eq_true']
    cases h' : slt b a with
    | false => rfl
    | true => have := slt_trans h h'; rw [slt_irrefl] at this; cases this

set_option maxRecDepth 100000 in
theorem sortSpots (g cap : Nat) (cur : Array Value) (ys xs : List (Int × ByteArray)) (w : World) (hb : w.heap[g]? = some (.cells cur 201 (0, 0))) (ht : cur.toList.take (ys.length * 2) = flatS ys) (h1 : ys.length ≤ cap) (h3 : cur.size = cap * 2) (hsz : ys.length < 4611686018427387904) (hp : ys.Perm xs) (hs : SSort xs) :
    Calls Tryz.prog 166 #[.slice (some ⟨g, 0, none⟩) ys.length cap, .func (.func 89) #[] #[]] w fun e w' => e = .returned (.tuple #[]) ∧ w.grownBy w' (some g) ∧ ∃ cur', w'.heap[g]? = some (.cells cur' 201 (0, 0)) ∧ cur'.size = cap * 2 ∧ cur'.toList.take (xs.length * 2) = flatS xs := by
  have hg := heap_lt hb
  have hH : HoldsK encSp 2 w g 0 ys.toArray := by
    intro j hj
    have hj' : j < ys.length * 2 := by simpa using hj
    refine ⟨?_, by simp [World.frozen?, hb]⟩
    have h1 : (cur.toList.take (ys.length * 2))[j]? = (flatS ys)[j]? := by rw [ht]
    rw [List.getElem?_take_of_lt hj', Array.getElem?_toList] at h1
    rw [Nat.zero_add]
    refine cell_of hb j ?_
    rw [h1, ← flatK_flatS, Array.getElem?_toList]
    simp [hj']
  have hcon := AnyQ.slices_SortFunc_total Tryz.sortSpot 2 (fun w => by kernel_rfl) (fun w => by kernel_rfl) encSp (fun _ => rfl) (fun x v hv => by simp [encSp] at hv; rcases hv with rfl | rfl <;> rfl) cmpSpot swoSpot 89 #[] g 0 cap ys.toArray w
    (enters_of Tryz.func89 (by kernel_rfl) rfl) (fun _ _ _ _ x y => deedsCmp_any x y _) hH hg (by simpa using hsz) (fun x y hx hy => by
      rw [lt_cmpSpot] at hx hy
      by_cases hab : x = y
      · exact hab
      · rcases slt_total hab with e | e
        · rw [e] at hx; cases hx
        · rw [e] at hy; cases hy)
  change Calls Tryz.prog 166 _ _ _ at hcon
  have hys : (ys.toArray.toList.mergeSort fun x y => !(ltOf cmpSpot) y x) = xs := sort_spots hp hs
  rw [hys] at hcon
  have hlen := hp.length_eq
  refine hcon.mono ?_
  rintro e w' ⟨rfl, n, os, rfl⟩
  refine ⟨rfl, grownBy_sorted _, _, heap_sorted _ hb, by simp [putCells, h3], ?_⟩
  have h5 : flatK encSp 2 xs.toArray = (flatS xs).toArray := by rw [← flatK_flatS]
  rw [h5, ← flatS_length]
  exact take_put cur _ (by rw [flatS_length, h3]; omega)
end Go.Proofs.Gab
