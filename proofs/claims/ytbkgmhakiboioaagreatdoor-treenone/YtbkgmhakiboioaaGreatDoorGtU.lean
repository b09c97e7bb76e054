/-
  How the laying of a tree turns: one node, a spot, an inode that was seen, a new node, one that is gone.
-/
import Derived.Test.YtbkgmhakiboioaaGreatDoorGt0
namespace Go.Proofs.Gab
open Go.RowKit Go.Maps Go.ChangeMaps Go.Deep

theorem iput_keys {α : Type} {l : IL α} {n : Int} {x v : α} (hs : ISort l) (h : (n, x) ∈ l) : (iput l n v).map (·.1) = l.map (·.1) := by
  induction l with
  | nil => cases h
  | cons q r ih =>
    obtain ⟨k, y⟩ := q
    obtain ⟨hk, hr⟩ := List.pairwise_cons.1 hs
    unfold iput
    by_cases e : k = n
    · subst e; rw [if_pos rfl]; rfl
    · rw [if_neg e]
      rcases List.mem_cons.1 h with h1 | h1
      · cases h1; exact absurd rfl e
      · have := hk _ h1
        simp only at this
        rw [if_neg (by omega)]
        simp [ih hr h1]
def Tr.upd (T : Tr) (n : Int) (x : Nd) : Tr := { T with nodes := iput T.nodes n x }
/-- the tag is one of node n's -/
def Tag.of (n : Int) (g : Option Tag) : Prop := g = some (.node n) ∨ g = some (.row n) ∨ g = some (.dir n)
theorem Tag.of_ne {n m : Int} {g : Option Tag} (h : Tag.of n g) (h' : Tag.of m g) : n = m := by
  unfold Tag.of at *
  rcases h with rfl | rfl | rfl <;> simpa using h'
theorem RowAt.mono' {w : World} {O O' : Nat → Prop} {v : Value} {xs : List (Int × Int)} (h : RowAt w O v xs) (hO : ∀ k, O k → O' k) : RowAt w O' v xs := by
  rcases h with h | ⟨h0, b, cap, cs, h1, h2, h3, h4, h5, h6, h7⟩
  · exact .inl h
  · exact .inr ⟨h0, b, cap, cs, h1, h2, h3, h4, h5, h6, hO _ h7⟩
section
variable {w : World} {own : Nat → Option Tag} {β : Int → Nat} {t bn bs be B : Nat} {T : Tr}
theorem TreeLay.upd (h : TreeLay w own β t bn bs be B T) {n : Int} {x x' : Nd} (hx : T.get? n = some x) {w' : World} {own' : Nat → Option Tag} {B' : Nat} (hB : B ≤ B') (hf : Fr (fun k => Tag.of n (own k)) w w')
    (hown : ∀ k, k < w.heap.size → own' k = own k) (hnew : ∀ k, w.heap.size ≤ k → own' k ≠ none → k < w'.heap.size) {bv dv : Value} (hnd : NodeLay w' own' n (β n) B' x' bv dv)
    (hb : ∀ m y bv dv, m ≠ n → (m, y) ∈ T.nodes → NodeLay w' own' m (β m) B y bv dv → NodeLay w' own' m (β m) B' y bv dv) : TreeLay w' own' β t bn bs be B' (T.upd n x') := by
  have hmem := (iget?_some h.sort.nodup).1 hx
  have lt : ∀ {k g}, own k = some g → k < w.heap.size := fun {k g} e => h.olt k (by rw [e]; simp)
  have no : ∀ {k g}, own k = some g → ¬ Tag.of n (some g) → ¬ Tag.of n (own k) := fun e hne => by rw [e]; exact hne
  refine { head := hf.heap h.head (no h.ot (by simp [Tag.of])), ot := (hown _ (lt h.ot)).trans h.ot, nodes := ?_, on := (hown _ (lt h.on)).trans h.on, spots := h.spots.frame hf (no h.os (by simp [Tag.of])), os := (hown _ (lt h.os)).trans h.os,
           seen := h.seen.frame hf (no h.oe (by simp [Tag.of])), oe := (hown _ (lt h.oe)).trans h.oe, node := ?_, olt := ?_, sort := iput_sort h.sort _ _, sortE := h.sortE, sortS := h.sortS, spotsB := Nat.le_trans h.spotsB hB, seenB := Nat.le_trans h.seenB hB, keyN := ?_ }
  · have e : (T.upd n x').nodes.map (encN β) = T.nodes.map (encN β) := by
      have h1 := iput_keys (v := x') h.sort hmem
      have h2 := congrArg (List.map fun m : Int => (Value.int .i64 m, Value.pointer (some ⟨β m, 0, none⟩))) h1
      rw [List.map_map, List.map_map] at h2; exact h2
    rw [e]
    exact h.nodes.frame hf (no h.on (by simp [Tag.of]))
  · intro m y hm
    rcases (mem_iput h.sort).1 hm with e | ⟨hne, hm'⟩
    · cases e; exact ⟨bv, dv, hnd⟩
    · obtain ⟨bv, dv, hy⟩ := h.node m y hm'
      have hy' := hy.frame hf (fun k hk hk' => hne (Tag.of_ne (n := m) (m := n) hk hk'))
      refine ⟨bv, dv, hb m y bv dv hne hm' ⟨hy'.cells, (hown _ (lt hy.ob)).trans hy.ob, ?_, ?_⟩⟩
      · rcases hy'.row with hr | ⟨h0, b, cap, cs, h1, h2, h3, h4, h5, h6, h7⟩
        · exact .inl hr
        · exact .inr ⟨h0, b, cap, cs, h1, h2, h3, h4, h5, h6, (hown _ (lt h7)).trans h7⟩
      · have hd := hy'.dir
        have hd0 := hy.dir
        cases hyd : y.dir with
        | none => rw [hyd] at hd; exact hd
        | some l =>
          rw [hyd] at hd hd0
          obtain ⟨d, e, hda⟩ := hd
          obtain ⟨d0, e0, hda0⟩ := hd0
          refine ⟨d, e, hda.wider (fun k hk => (hown _ (lt hk)).trans hk) (fun k hk => ?_)⟩
          by_cases hlt : k < w.heap.size
          · exact Nat.lt_of_lt_of_le hlt hf.size
          · exact hnew k (by omega) (by rw [hk]; simp)
  · intro k hk
    by_cases hlt : k < w.heap.size
    · exact Nat.lt_of_lt_of_le hlt hf.size
    · exact hnew k (by omega) hk
  · intro p hp
    rcases (mem_iput h.sort).1 hp with e | ⟨_, hp'⟩
    · rw [e]; have := h.keyN _ hmem; exact this
    · exact h.keyN _ hp'
theorem NodeLay.mono {n : Int} {b B' : Nat} {y : Nd} {bv dv : Value} (h : NodeLay w own n b B y bv dv) (hB : B ≤ B') : NodeLay w own n b B' y bv dv :=
  ⟨h.cells, h.ob, h.row, by
    have hd := h.dir
    cases hyd : y.dir with
    | none => rw [hyd] at hd; exact hd
    | some l => rw [hyd] at hd; obtain ⟨d, e, hda⟩ := hd; exact ⟨d, e, hda.mono hB⟩⟩
theorem TreeLay.mono (h : TreeLay w own β t bn bs be B T) {B' : Nat} (hB : B ≤ B') : TreeLay w own β t bn bs be B' T :=
  { h with node := fun n x hx => by obtain ⟨bv, dv, hn⟩ := h.node n x hx; exact ⟨bv, dv, hn.mono hB⟩, spotsB := Nat.le_trans h.spotsB hB, seenB := Nat.le_trans h.seenB hB }

/-- one cell of a node's struct has turned -/
theorem TreeLay.setCell (h : TreeLay w own β t bn bs be B T) {n : Int} {x x' : Nd} (hx : T.get? n = some x) (i : Nat) (v : Value)
    (hc : ∀ bv dv, (#[.int .u8 x.ino.kind, .int .i64 x.ino.links, .int .i64 x.ino.size, bv, .string x.ino.target, dv, .int .i64 x.up, .int .i64 x.pins] : Array Value).setIfInBounds i v = #[.int .u8 x'.ino.kind, .int .i64 x'.ino.links, .int .i64 x'.ino.size, bv, .string x'.ino.target, dv, .int .i64 x'.up, .int .i64 x'.pins])
    (hb : x'.ino.blocks = x.ino.blocks) (hd : x'.dir = x.dir) : TreeLay (w.setCell ⟨β n, i, none⟩ v) own β t bn bs be B (T.upd n x') := by
  obtain ⟨bv, dv, hnd⟩ := h.node' hx
  have hf : Fr (fun k => Tag.of n (own k)) w (w.setCell ⟨β n, i, none⟩ v) := Fr.setCell _ _ _ (by simp only [hnd.ob]; exact .inl rfl)
  refine h.upd hx (Nat.le_refl _) hf (fun _ _ => rfl) (fun k hk ho => absurd (h.olt k ho) (by omega)) (bv := bv) (dv := dv) ?_ (fun _ _ _ _ _ _ => id)
  have hne : ∀ k, own k = some (.row n) ∨ own k = some (.dir n) → k ≠ β n := by
    rintro k hk rfl
    rw [hnd.ob] at hk; simp at hk
  have hf' : Fr (fun k => k = β n) w (w.setCell ⟨β n, i, none⟩ v) := Fr.setCell _ _ _ rfl
  refine ⟨?_, hnd.ob, ?_, ?_⟩
  · rw [← hc bv dv]; exact set_of hnd.cells i v
  · rw [hb]; exact hnd.row.frame hf' (fun k hk => hne k (.inl hk))
  · rw [hd]; exact hnd.dir.frame hf' (fun k hk => hne k (.inr hk))

/-- a node's directory has turned -/
theorem TreeLay.setDir (h : TreeLay w own β t bn bs be B T) {n : Int} {x : Nd} (hx : T.get? n = some x) {bv : Value} {d : Nat} (hnd : NodeLay w own n (β n) B x bv (.pointer (some ⟨d, 0, none⟩))) {w' : World} (hf : Fr (fun k => own k = some (.dir n)) w w') {B' : Nat} (hB : B ≤ B') {l' : DL}
    (hda : DirAt w' (fun k => own k = some (.dir n) ∨ (w.heap.size ≤ k ∧ k < w'.heap.size)) d B' l') :
    TreeLay w' (fun k => if w.heap.size ≤ k ∧ k < w'.heap.size then some (.dir n) else own k) β t bn bs be B' (T.upd n { x with dir := some l' }) := by
  have hlt := heap_lt hnd.cells
  refine h.upd hx hB (hf.mono fun k _ e => .inr (.inr e)) ?_ ?_ (bv := bv) (dv := .pointer (some ⟨d, 0, none⟩)) ?_ (fun _ _ _ _ _ _ hy => hy.mono hB)
  · intro k hk
    rw [if_neg (by omega)]
  · intro k hk ho
    by_cases e : w.heap.size ≤ k ∧ k < w'.heap.size
    · exact e.2
    · simp only [if_neg e] at ho; exact absurd (h.olt k ho) (by omega)
  · have old : ∀ {k g}, own k = some g → (if w.heap.size ≤ k ∧ k < w'.heap.size then some (Tag.dir n) else own k) = some g := fun {k g} e => by
      rw [if_neg (by have := h.olt k (by rw [e]; simp); omega)]; exact e
    refine ⟨hf.heap hnd.cells (by rw [hnd.ob]; simp), old hnd.ob, ?_, d, rfl, hda.wider ?_ ?_⟩
    · refine RowAt.mono' (hnd.row.frame hf (fun k hk => by rw [hk]; simp)) (fun k hk => old hk)
    · rintro k (hk | hk)
      · exact old hk
      · simp only [if_pos hk]
    · intro k hk
      by_cases e : w.heap.size ≤ k ∧ k < w'.heap.size
      · exact e.2
      · simp only [if_neg e] at hk
        have := h.olt k (by rw [hk]; simp)
        exact Nat.lt_of_lt_of_le this hf.size

/-! ### the maps of what was changed -/
theorem encS_inj {a b : Int × ByteArray} (h : (encS a).1 = (encS b).1) : a = b := by
  obtain ⟨a1, a2⟩ := a
  obtain ⟨b1, b2⟩ := b
  simp [encS] at h
  rw [h.1, h.2]
theorem encS_nodup {l : List (Int × ByteArray)} (h : SSort l) : ((l.map encS).map (·.1)).Nodup := by
  rw [List.map_map]
  exact List.pairwise_map.2 (h.nodup.imp fun hne e => hne (encS_inj e))
/-- what the store of a spot asks -/
theorem spot_put {l : List (Int × ByteArray)} (n : Int) (s : ByteArray) :
    (∀ p, p ∈ (sput l (n, s)).map encS → p = (Value.agg #[.int .i64 n, .string s], Value.bool true) ∨ (p.1 ≠ .agg #[.int .i64 n, .string s] ∧ p ∈ l.map encS)) ∧
    (∀ p, p ∈ l.map encS → p.1 ≠ Value.agg #[.int .i64 n, .string s] → p ∈ (sput l (n, s)).map encS) ∧ (Value.agg #[.int .i64 n, .string s], Value.bool true) ∈ (sput l (n, s)).map encS := by
  refine ⟨?_, ?_, List.mem_map.2 ⟨(n, s), (mem_sput _ _ _).2 (.inl rfl), rfl⟩⟩
  · intro p hp
    obtain ⟨q, hq, rfl⟩ := List.mem_map.1 hp
    by_cases e : q = (n, s)
    · subst e; exact .inl rfl
    · rcases (mem_sput _ _ _).1 hq with h | h
      · exact absurd h e
      · exact .inr ⟨fun e' => e (encS_inj (b := (n, s)) e'), List.mem_map.2 ⟨q, h, rfl⟩⟩
  · intro p hp _
    obtain ⟨q, hq, rfl⟩ := List.mem_map.1 hp
    exact List.mem_map.2 ⟨q, (mem_sput _ _ _).2 (.inr hq), rfl⟩
theorem seen_nodup {l : IL Unit} (h : ISort l) : ((l.map encU).map (·.1)).Nodup := by
  rw [List.map_map]
  exact List.pairwise_map.2 ((List.pairwise_map.1 h.nodup).imp fun hne e => hne (by simpa [encU] using e))
theorem seen_put {l : IL Unit} (h : ISort l) (n : Int) :
    (∀ p, p ∈ (iput l n ()).map encU → p = (Value.int .i64 n, Value.bool true) ∨ (p.1 ≠ .int .i64 n ∧ p ∈ l.map encU)) ∧
    (∀ p, p ∈ l.map encU → p.1 ≠ Value.int .i64 n → p ∈ (iput l n ()).map encU) ∧ (Value.int .i64 n, Value.bool true) ∈ (iput l n ()).map encU := by
  refine ⟨?_, ?_, List.mem_map.2 ⟨(n, ()), (mem_iput h).2 (.inl rfl), rfl⟩⟩
  · intro p hp
    obtain ⟨q, hq, rfl⟩ := List.mem_map.1 hp
    rcases (mem_iput h).1 hq with e | ⟨h1, h2⟩
    · subst e; exact .inl rfl
    · exact .inr ⟨by simpa [encU] using h1, List.mem_map.2 ⟨q, h2, rfl⟩⟩
  · intro p hp hne
    obtain ⟨q, hq, rfl⟩ := List.mem_map.1 hp
    exact List.mem_map.2 ⟨q, (mem_iput h).2 (.inr ⟨by simpa [encU] using hne, hq⟩), rfl⟩
def Tr.spot (T : Tr) (n : Int) (s : ByteArray) : Tr := { T with spots := sput T.spots (n, s) }
def Tr.see (T : Tr) (n : Int) : Tr := { T with seen := iput T.seen n () }
theorem TreeLay.turnSpots (h : TreeLay w own β t bn bs be B T) {w' : World} (hf : Fr (fun k => k = bs) w w') {S : List (Int × ByteArray)} (hss : SSort S) (hm : MapOf Tryz.prog 201 w' bs (S.map encS)) {B' : Nat} (hB : B ≤ B') (hS : S.length ≤ B') : TreeLay w' own β t bn bs be B' { T with spots := S } := by
  have hne : ∀ {k g}, own k = some g → g ≠ Tag.spots → ¬ k = bs := by
    rintro k g e hg rfl; rw [h.os] at e; cases e; exact hg rfl
  have h1 := h.mono hB
  refine { head := hf.heap h.head (hne h.ot (by simp)), ot := h.ot, nodes := h.nodes.frame hf (hne h.on (by simp)), on := h.on, spots := hm, os := h.os, seen := h.seen.frame hf (hne h.oe (by simp)), oe := h.oe, node := ?_, olt := fun k hk => Nat.lt_of_lt_of_le (h.olt k hk) hf.size, sort := h.sort, sortE := h.sortE, sortS := hss, spotsB := hS, seenB := h1.seenB, keyN := h.keyN }
  intro n x hx
  obtain ⟨bv, dv, hn⟩ := h1.node n x hx
  exact ⟨bv, dv, hn.frame hf (fun k hk => by rcases hk with e | e | e <;> exact hne e (by simp))⟩
theorem TreeLay.turnSeen (h : TreeLay w own β t bn bs be B T) {w' : World} (hf : Fr (fun k => k = be) w w') {S : IL Unit} (hs : ISort S) (hm : MapOf Tryz.prog 3 w' be (S.map encU)) {B' : Nat} (hB : B ≤ B') (hS : S.length ≤ B') : TreeLay w' own β t bn bs be B' { T with seen := S } := by
  have hne : ∀ {k g}, own k = some g → g ≠ Tag.seen → ¬ k = be := by
    rintro k g e hg rfl; rw [h.oe] at e; cases e; exact hg rfl
  have h1 := h.mono hB
  refine { head := hf.heap h.head (hne h.ot (by simp)), ot := h.ot, nodes := h.nodes.frame hf (hne h.on (by simp)), on := h.on, spots := h.spots.frame hf (hne h.os (by simp)), os := h.os, seen := hm, oe := h.oe, node := ?_, olt := fun k hk => Nat.lt_of_lt_of_le (h.olt k hk) hf.size, sort := h.sort, sortE := hs, sortS := h.sortS, spotsB := h1.spotsB, seenB := hS, keyN := h.keyN }
  intro n x hx
  obtain ⟨bv, dv, hn⟩ := h1.node n x hx
  exact ⟨bv, dv, hn.frame hf (fun k hk => by rcases hk with e | e | e <;> exact hne e (by simp))⟩

/-! ### a new node -/
def Tr.add (T : Tr) (k : Int) (x : Nd) : Tr := { T with nodes := iput T.nodes k x, seen := iput T.seen k () }
theorem TreeLay.addNode (h : TreeLay w own β t bn bs be B T) {k : Int} (hk : T.get? k = none) (hk1 : 1 ≤ k ∧ k ≤ 1024) {w' : World} (hf : Fr (fun j => j = bn ∨ j = be) w w') {own' : Nat → Option Tag} (hown : ∀ j, own j ≠ none → own' j = own j)
    (hlt : ∀ j, own' j ≠ none → j < w'.heap.size) {Y B' : Nat} (hB : B < B') {x : Nd} (hm : MapOf Tryz.prog 3 w' bn ((iput T.nodes k x).map (encN fun m => if m = k then Y else β m))) (hs : MapOf Tryz.prog 3 w' be ((iput T.seen k ()).map encU))
    {bv dv : Value} (hnd : NodeLay w' own' k Y B' x bv dv) : TreeLay w' own' (fun m => if m = k then Y else β m) t bn bs be B' (T.add k x) := by
  have hmono := h.mono (Nat.le_of_lt hB)
  have keep : ∀ {j g}, own j = some g → own' j = some g := fun {j g} e => (hown j (by rw [e]; simp)).trans e
  have no : ∀ {j g}, own j = some g → g ≠ Tag.nodes → g ≠ Tag.seen → ¬ (j = bn ∨ j = be) := by
    rintro j g e h1 h2 (rfl | rfl)
    · rw [h.on] at e; cases e; exact h1 rfl
    · rw [h.oe] at e; cases e; exact h2 rfl
  refine { head := hf.heap h.head (no h.ot (by simp) (by simp)), ot := keep h.ot, nodes := hm, on := keep h.on, spots := h.spots.frame hf (no h.os (by simp) (by simp)), os := keep h.os, seen := hs, oe := keep h.oe, node := ?_, olt := hlt,
           sort := iput_sort h.sort _ _, sortE := iput_sort h.sortE _ _, sortS := h.sortS, spotsB := hmono.spotsB, seenB := ?_, keyN := ?_ }
  · intro m y hm'
    rcases (mem_iput h.sort).1 hm' with e | ⟨hne, hy⟩
    · cases e; rw [if_pos rfl]; exact ⟨bv, dv, hnd⟩
    · simp only at hne
      rw [if_neg hne]
      obtain ⟨bv, dv, hn⟩ := hmono.node m y hy
      have hn' := hn.frame hf (fun j hj => by rcases hj with e | e | e <;> exact no e (by simp) (by simp))
      refine ⟨bv, dv, hn'.cells, keep hn.ob, hn'.row.mono' (fun j hj => keep hj), ?_⟩
      have hd := hn'.dir
      cases hyd : y.dir with
      | none => rw [hyd] at hd; exact hd
      | some l =>
        rw [hyd] at hd
        obtain ⟨d, e, hda⟩ := hd
        exact ⟨d, e, hda.wider (fun j hj => keep hj) (fun j hj => hlt j (by rw [hj]; simp))⟩
  · have := length_iput T.seen k (); have := h.seenB; show (iput T.seen k ()).length ≤ B'; omega
  · intro p hp
    rcases (mem_iput h.sort).1 hp with e | ⟨_, hp'⟩
    · rw [e]; exact hk1
    · exact h.keyN _ hp'
/-- what the store of a node asks -/
theorem node_put {l : IL Nd} (hs : ISort l) {k : Int} (hk : iget? l k = none) (x : Nd) (β : Int → Nat) (Y : Nat) :
    (∀ p, p ∈ (iput l k x).map (encN fun m => if m = k then Y else β m) → p = (Value.int .i64 k, Value.pointer (some ⟨Y, 0, none⟩)) ∨ (p.1 ≠ .int .i64 k ∧ p ∈ l.map (encN β))) ∧
    (∀ p, p ∈ l.map (encN β) → p.1 ≠ Value.int .i64 k → p ∈ (iput l k x).map (encN fun m => if m = k then Y else β m)) ∧ (Value.int .i64 k, Value.pointer (some ⟨Y, 0, none⟩)) ∈ (iput l k x).map (encN fun m => if m = k then Y else β m) ∧
    (((iput l k x).map (encN fun m => if m = k then Y else β m)).map (·.1)).Nodup := by
  refine ⟨?_, ?_, List.mem_map.2 ⟨(k, x), (mem_iput hs).2 (.inl rfl), by simp [encN]⟩, ?_⟩
  · intro p hp
    obtain ⟨q, hq, rfl⟩ := List.mem_map.1 hp
    rcases (mem_iput hs).1 hq with e | ⟨h1, h2⟩
    · subst e; exact .inl (by simp [encN])
    · exact .inr ⟨by simpa [encN] using h1, List.mem_map.2 ⟨q, h2, by simp [encN, h1]⟩⟩
  · intro p hp hne
    obtain ⟨q, hq, rfl⟩ := List.mem_map.1 hp
    have h1 : q.1 ≠ k := by simpa [encN] using hne
    exact List.mem_map.2 ⟨q, (mem_iput hs).2 (.inr ⟨h1, hq⟩), by simp [encN, h1]⟩
  · rw [List.map_map]
    exact List.pairwise_map.2 ((List.pairwise_map.1 (iput_sort hs k x).nodup).imp fun hne e => hne (by simpa [encN] using e))
/-- a node's directory is made: the last block of its struct but two -/
theorem TreeLay.giveDir (h : TreeLay w own β t bn bs be B T) {n : Int} {x : Nd} (hx : T.get? n = some x) (hxd : x.dir = none) {w1 : World} (hb : Below w.heap.size w w1) {d : Nat} (hda : DirAt w1 (fun k => w.heap.size ≤ k ∧ k < w1.heap.size) d 0 []) :
    TreeLay (w1.setCell ⟨β n, 5, none⟩ (.pointer (some ⟨d, 0, none⟩))) (fun k => if w.heap.size ≤ k ∧ k < w1.heap.size then some (.dir n) else own k) β t bn bs be B (T.upd n { x with dir := some [] }) := by
  obtain ⟨bv, dv, hnd⟩ := h.node' hx
  have hlt := heap_lt hnd.cells
  have hf : Fr (fun k => k = β n) w (w1.setCell ⟨β n, 5, none⟩ (.pointer (some ⟨d, 0, none⟩))) := (Fr.of_below_all hb _).trans (Fr.setCell _ _ _ rfl)
  have hsz : (w1.setCell ⟨β n, 5, none⟩ (.pointer (some ⟨d, 0, none⟩))).heap.size = w1.heap.size := by simp
  have old : ∀ {k g}, own k = some g → (if w.heap.size ≤ k ∧ k < w1.heap.size then some (Tag.dir n) else own k) = some g := fun {k g} e => by
    rw [if_neg (by have := h.olt k (by rw [e]; simp); omega)]; exact e
  refine h.upd hx (Nat.le_refl _) (hf.mono fun k _ e => by rw [e, hnd.ob]; exact .inl rfl) ?_ ?_ (bv := bv) (dv := .pointer (some ⟨d, 0, none⟩)) ?_ (fun _ _ _ _ _ _ hy => hy)
  · intro k hk
    rw [if_neg (by omega)]
  · intro k hk ho
    by_cases e : w.heap.size ≤ k ∧ k < w1.heap.size
    · rw [hsz]; exact e.2
    · simp only [if_neg e] at ho; exact absurd (h.olt k ho) (by omega)
  · have hc1 : w1.heap[β n]? = _ := (hb.block _ hlt).trans hnd.cells
    refine ⟨?_, old hnd.ob, RowAt.mono' (hnd.row.frame hf (fun k hk => by rintro rfl; rw [hnd.ob] at hk; cases hk)) (fun k hk => old hk), d, rfl, ?_⟩
    · have := set_of hc1 5 (.pointer (some ⟨d, 0, none⟩)); simpa using this
    · refine ((hda.mono (Nat.zero_le B)).frame (Fr.setCell _ _ _ (F := fun k => k = β n) rfl) (fun k hk => by omega)).wider (fun k hk => by simp only [if_pos hk]) (fun k hk => ?_)
      by_cases e : w.heap.size ≤ k ∧ k < w1.heap.size
      · rw [hsz]; exact e.2
      · simp only [if_neg e] at hk
        have := h.olt k (by rw [hk]; simp)
        rw [hsz]; exact Nat.lt_of_lt_of_le this hb.size
end
end Go.Proofs.Gab
