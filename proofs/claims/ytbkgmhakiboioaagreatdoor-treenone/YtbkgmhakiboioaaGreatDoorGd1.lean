/-
  Deeds: what is told, and the rows that hold it.
-/
import Derived.Test.YtbkgmhakiboioaaGreatDoorGd0
import Derived.Test.YtbkgmhakiboioaaGreatDoorGs4
import Derived.Test.YtbkgmhakiboioaaGreatDoorGtU
namespace Go.Proofs.Gab
open Go.RowKit Go.Maps Go.ChangeMaps Go.Shelf

def flatD (ds : List (Int × Int × ByteArray)) : List Value := ds.flatMap fun d => [Value.int .i64 d.1, Value.int .i64 d.2.1, Value.string d.2.2]
theorem flatD_snoc (ds : List (Int × Int × ByteArray)) (d : Int × Int × ByteArray) : flatD (ds ++ [d]) = flatD ds ++ [Value.int .i64 d.1, Value.int .i64 d.2.1, Value.string d.2.2] := by simp [flatD]
theorem flatD_length (ds : List (Int × Int × ByteArray)) : (flatD ds).length = ds.length * 3 := by
  induction ds with
  | nil => rfl
  | cons a ys ih => simp only [flatD, List.flatMap_cons, List.length_append, List.length_cons, List.length_nil] at ih ⊢; omega
def Tr.spotDeed (T : Tr) (p : Int × ByteArray) : Int × Int × ByteArray := (deedK (T.findE p.1 p.2), p.1, p.2)
def Tr.seenDeed (T : Tr) (n : Int) : Int × Int × ByteArray := (if T.get? n = none then 2 else 1, n, ⟨#[]⟩)
/-- What Deeds tells. -/
def Tr.deeds (T : Tr) : List (Int × Int × ByteArray) := T.spots.map T.spotDeed ++ (T.seen.map (·.1)).map T.seenDeed
theorem infoDeed : (Tryz.prog.info? 72).map (fun i => (i.zero, i.size, i.bytes)) = some (some (.agg #[.int .i64 0, .int .i64 0, .string ⟨#[]⟩]), 3, 32) := by kernel_rfl
/-- a slice of deeds that the call owns -/
def DeedRow (w : World) (B : Nat) (v : Value) (ds : List (Int × Int × ByteArray)) : Prop := w.ownsRow B 72 3 v ds.length (flatD ds)

theorem SpotRow.form {w : World} {B : Nat} {v : Value} {xs : List (Int × ByteArray)} (h : SpotRow w B v xs) : ∃ p c, v = .slice p xs.length c := by
  rcases h with ⟨rfl, rfl⟩ | ⟨g, cap, cur, rfl, _⟩
  · exact ⟨none, 0, rfl⟩
  · exact ⟨_, _, rfl⟩
theorem IntRow.form {w : World} {B : Nat} {v : Value} {xs : List Int} (h : IntRow w B v xs) : ∃ p c, v = .slice p xs.length c := by
  rcases h with ⟨rfl, rfl⟩ | ⟨g, cap, cur, rfl, _⟩
  · exact ⟨none, 0, rfl⟩
  · exact ⟨_, _, rfl⟩
theorem SpotRow.kept {w w' : World} {B : Nat} {v : Value} {xs : List (Int × ByteArray)} (h : SpotRow w B v xs) (hk : ∀ (g : Nat) (cur : Array Value), w.heap[g]? = some (Obj.cells cur 201 (0, 0)) → w'.heap[g]? = w.heap[g]?) : SpotRow w' B v xs := by
  rcases h with h | ⟨g, cap, cur, h1, h2, h3, h4⟩
  · exact .inl h
  · exact .inr ⟨g, cap, cur, h1, h2, (hk g cur h3).trans h3, h4⟩
theorem IntRow.kept {w w' : World} {B : Nat} {v : Value} {xs : List Int} (h : IntRow w B v xs) (hk : ∀ (g : Nat) (cur : Array Value), w.heap[g]? = some (Obj.cells cur 3 (0, 0)) → w'.heap[g]? = w.heap[g]?) : IntRow w' B v xs := by
  rcases h with h | ⟨g, cap, cur, h1, h2, h3, h4⟩
  · exact .inl h
  · exact .inr ⟨g, cap, cur, h1, h2, (hk g cur h3).trans h3, h4⟩
theorem SpotRow.below {w w' : World} {B : Nat} {v : Value} {xs : List (Int × ByteArray)} (h : SpotRow w B v xs) (hb : Below w.heap.size w w') : SpotRow w' B v xs := h.kept (fun g cur hg => hb.block g (heap_lt hg))
theorem IntRow.below {w w' : World} {B : Nat} {v : Value} {xs : List Int} (h : IntRow w B v xs) (hb : Below w.heap.size w w') : IntRow w' B v xs := h.kept (fun g cur hg => hb.block g (heap_lt hg))
theorem SpotRow.cells {w : World} {B : Nat} {p : Option Addr} {n c : Nat} {xs : List (Int × ByteArray)} (h : SpotRow w B (.slice p n c) xs) {j : Nat} (hj : j < xs.length) :
    ∃ g, p = some ⟨g, 0, none⟩ ∧ n = xs.length ∧ w.cell? ⟨g, j * 2, none⟩ = some (.int .i64 xs[j].1) ∧ w.cell? ⟨g, j * 2 + 1, none⟩ = some (.string xs[j].2) := by
  rcases h with ⟨h1, rfl⟩ | ⟨g, cap, cur, h1, h2, h3, h4, h5, h6, h7⟩
  · simp at hj
  · have hp := h1
    simp only [Value.slice.injEq] at hp
    obtain ⟨rfl, rfl, rfl⟩ := hp
    have key : ∀ t v, t < xs.length * 2 → (flatS xs)[t]? = some v → w.cell? ⟨g, t, none⟩ = some v := by
      intro t v ht hv
      refine cell_of h3 t ?_
      rw [← h7, List.getElem?_take_of_lt ht, Array.getElem?_toList] at hv
      exact hv
    refine ⟨g, rfl, rfl, key _ _ (by omega) ?_, key _ _ (by omega) ?_⟩
    · rw [flatS_get xs _ (by omega), show j * 2 / 2 = j by omega, show j * 2 % 2 = 0 by omega, getElem!_pos xs j hj]; rfl
    · rw [flatS_get xs _ (by omega), show (j * 2 + 1) / 2 = j by omega, show (j * 2 + 1) % 2 = 1 by omega, getElem!_pos xs j hj]; rfl
theorem IntRow.cells {w : World} {B : Nat} {p : Option Addr} {n c : Nat} {xs : List Int} (h : IntRow w B (.slice p n c) xs) {j : Nat} (hj : j < xs.length) :
    ∃ g, p = some ⟨g, 0, none⟩ ∧ n = xs.length ∧ w.cell? ⟨g, j, none⟩ = some (.int .i64 xs[j]) := by
  rcases h with ⟨h1, rfl⟩ | ⟨g, cap, cur, h1, h2, h3, h4, h5, h6, h7⟩
  · simp at hj
  · have hp := h1
    simp only [Value.slice.injEq] at hp
    obtain ⟨rfl, rfl, rfl⟩ := hp
    refine ⟨g, rfl, rfl, cell_of h3 j ?_⟩
    have h8 : (cur.toList.take xs.length)[j]? = (flatI xs)[j]? := by rw [h7]
    rw [List.getElem?_take_of_lt hj, Array.getElem?_toList] at h8
    rw [h8]
    simp [flatI, hj]
theorem DeedRow.own {w : World} {B : Nat} {v : Value} {ds : List (Int × Int × ByteArray)} (h : DeedRow w B v ds) : v = .slice none 0 0 ∨ ∃ g cap cur, v = .slice (some ⟨g, 0, none⟩) ds.length cap ∧ B ≤ g ∧ w.heap[g]? = some (.cells cur 72 (0, 0)) := by
  rcases h.2 with ⟨h1, _⟩ | ⟨g, cap, cur, h1, h2, h3, _⟩
  · exact .inl h1
  · exact .inr ⟨g, cap, cur, h1, h2, h3⟩
theorem DeedRow.ne {w : World} {B : Nat} {v : Value} {ds : List (Int × Int × ByteArray)} (h : DeedRow w B v ds) {k : Nat} {cur : Array Value} {e : TypeId} (hk : w.heap[k]? = some (.cells cur e (0, 0))) (he : e ≠ 72) : some k ≠ v.ownBlock := by
  rcases h.own with rfl | ⟨g, cap, cur', rfl, _, hg⟩
  · simp [Value.ownBlock]
  · intro e'
    obtain rfl : k = g := by simpa [Value.ownBlock] using e'
    rw [hk] at hg
    simp at hg
    exact he hg.2
theorem DeedRow.below {w w' : World} {B : Nat} {v : Value} {ds : List (Int × Int × ByteArray)} (h : DeedRow w B v ds) (hb : Below w.heap.size w w') : DeedRow w' B v ds := by
  refine ⟨h.1, ?_⟩
  rcases h.2 with h1 | ⟨g, cap, cur, h1, h2, h3, h4⟩
  · exact .inl h1
  · exact .inr ⟨g, cap, cur, h1, h2, (hb.block g (heap_lt h3)).trans h3, h4⟩
theorem DeedRow.grown {w w' : World} {B : Nat} {v : Value} {ds : List (Int × Int × ByteArray)} (h : DeedRow w B v ds) {B0 : Nat} {w0 : World} (hb : Below B0 w0 w) (hB0 : B0 ≤ w0.heap.size) (hB : B0 ≤ B) (hg : w.grownBy w' v.ownBlock) : Below B0 w0 w' := by
  refine hb.grown hg (Nat.le_trans hB0 hb.size) (fun k e => ?_)
  rcases h.own with rfl | ⟨g, cap, cur', rfl, hB', _⟩
  · simp [Value.ownBlock] at e
  · obtain rfl : g = k := by simpa [Value.ownBlock] using e
    omega
end Go.Proofs.Gab
