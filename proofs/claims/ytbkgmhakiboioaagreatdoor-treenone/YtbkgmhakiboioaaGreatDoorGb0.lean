/-
  Words of my own, of no program: a frame ('Fr F w w'': outside F the old blocks are as they were), a map's block as a list of keys and elements ('MapOf'), its laws at the run of each operation.
-/
import Derived.WalkKit
import Derived.Maps.OwnSet
import Derived.Maps.RangeWalk
import Derived.Deep.Draws
namespace Go.Proofs.Gab
open Go.RowKit Go.Maps Go.MapKept Go.ChangeMaps

/-- Outside F the blocks that were there are as they were. -/
structure Fr (F : Nat → Prop) (w w' : World) : Prop where
  os : w'.os = w.os
  tape : w'.tape = w.tape
  output : w'.output = w.output
  size : w.heap.size ≤ w'.heap.size
  block : ∀ k, k < w.heap.size → ¬ F k → w'.heap[k]? = w.heap[k]?

def none_ : Nat → Prop := fun _ => False

theorem Fr.refl (F : Nat → Prop) (w : World) : Fr F w w := ⟨rfl, rfl, rfl, Nat.le_refl _, fun _ _ _ => rfl⟩
theorem Fr.trans {F : Nat → Prop} {a b c : World} (h : Fr F a b) (k : Fr F b c) : Fr F a c :=
  ⟨k.os.trans h.os, k.tape.trans h.tape, k.output.trans h.output, Nat.le_trans h.size k.size,
    fun i hi hf => (k.block i (Nat.lt_of_lt_of_le hi h.size) hf).trans (h.block i hi hf)⟩
theorem Fr.mono {F G : Nat → Prop} {w w' : World} (h : Fr F w w') (hs : ∀ k, k < w.heap.size → F k → G k) : Fr G w w' :=
  ⟨h.os, h.tape, h.output, h.size, fun k hk hg => h.block k hk (fun hf => hg (hs k hk hf))⟩
/-- The second step may write what is new, too. -/
theorem Fr.trans' {F G : Nat → Prop} {a b c : World} (h : Fr F a b) (k : Fr G b c) (hs : ∀ i, i < a.heap.size → G i → F i) : Fr F a c :=
  ⟨k.os.trans h.os, k.tape.trans h.tape, k.output.trans h.output, Nat.le_trans h.size k.size,
    fun i hi hf => (k.block i (Nat.lt_of_lt_of_le hi h.size) (fun hg => hf (hs i hi hg))).trans (h.block i hi hf)⟩
theorem Fr.alloc (w : World) (o : Obj) (F : Nat → Prop) : Fr F w (w.alloc o) :=
  ⟨rfl, rfl, rfl, by simp, fun k hk _ => Below.heap_alloc w o k hk⟩
theorem Fr.setCell (w : World) (a : Addr) (v : Value) {F : Nat → Prop} (h : F a.block) : Fr F w (w.setCell a v) :=
  ⟨rfl, rfl, rfl, by simp, fun k _ hf => Below.heap_setCell w a v k (fun e => hf (e ▸ h))⟩
theorem Fr.drew (w : World) (F : Nat → Prop) : Fr F w w.drew := ⟨rfl, rfl, rfl, Nat.le_refl _, fun _ _ _ => rfl⟩
theorem Fr.drewN (w : World) (n : Nat) (F : Nat → Prop) : Fr F w (w.drewN n) := ⟨rfl, rfl, rfl, Nat.le_refl _, fun _ _ _ => rfl⟩
theorem Fr.setBlock {w : World} {b : Nat} {es : Array MapEntry} {clock : Nat} (hb : w.heap[b]? = some (.map es clock)) (o : Obj) {F : Nat → Prop} (h : F b) : Fr F w (setBlock w b o) :=
  ⟨rfl, rfl, rfl, by simp [ChangeMaps.setBlock], fun k _ hf => heap_setBlock_other hb o (fun e => hf (e ▸ h))⟩
theorem Fr.grown {w w' : World} {row : Option Nat} (hg : w.grownBy w' row) {F : Nat → Prop} (h : ∀ k, k < w.heap.size → row = some k → F k) : Fr F w w' :=
  ⟨hg.os, hg.tape, hg.output, hg.size, fun k hk hf => hg.block k hk (fun e => hf (h k hk e.symm))⟩
theorem Fr.of_below {B : Nat} {w w' : World} (h : Below B w w') (hB : B ≤ w.heap.size) : Fr (fun k => B ≤ k) w w' :=
  ⟨h.os, h.tape, h.output, h.size, fun k _ hf => h.block k (by omega)⟩
theorem Fr.below {F : Nat → Prop} {w w' : World} (h : Fr F w w') {B : Nat} (hB : B ≤ w.heap.size) (hF : ∀ k, k < B → ¬ F k) : Below B w w' :=
  ⟨h.os, h.tape, h.output, h.size, fun k hk => h.block k (by omega) (hF k hk)⟩
theorem Fr.of_below_all {w w' : World} (h : Below w.heap.size w w') (F : Nat → Prop) : Fr F w w' :=
  ⟨h.os, h.tape, h.output, h.size, fun k hk _ => h.block k hk⟩
theorem Fr.heap {F : Nat → Prop} {w w' : World} (h : Fr F w w') {k : Nat} {o : Obj} (hk : w.heap[k]? = some o) (hf : ¬ F k) : w'.heap[k]? = some o :=
  (h.block k (Array.getElem?_eq_some_iff.1 hk).1 hf).trans hk
theorem heap_lt {w : World} {k : Nat} {o : Obj} (hk : w.heap[k]? = some o) : k < w.heap.size := (Array.getElem?_eq_some_iff.1 hk).1

/-! ### a block of cells -/
theorem cell_of {w : World} {b : Nat} {cs : Array Value} {e : TypeId} {fr : Nat × Nat} (h : w.heap[b]? = some (.cells cs e fr)) (i : Nat) {v : Value} (hv : cs[i]? = some v) : w.cell? ⟨b, i, none⟩ = some v := by
  simp [World.cell?, h, hv]
theorem free_of {w : World} {b : Nat} {cs : Array Value} {e : TypeId} (h : w.heap[b]? = some (.cells cs e (0, 0))) (i : Nat) : w.frozen? ⟨b, i, none⟩ = false := by
  simp [World.frozen?, h]
theorem set_of {w : World} {b : Nat} {cs : Array Value} {e : TypeId} {fr : Nat × Nat} (h : w.heap[b]? = some (.cells cs e fr)) (i : Nat) (v : Value) : (w.setCell ⟨b, i, none⟩ v).heap[b]? = some (.cells (cs.setIfInBounds i v) e fr) := by
  simp [World.setCell, Array.getElem?_modify, h]
theorem set_other {w : World} {a : Addr} {v : Value} {k : Nat} (h : k ≠ a.block) : (w.setCell a v).heap[k]? = w.heap[k]? := Below.heap_setCell w a v k h
theorem alloc_new (w : World) (o : Obj) : (w.alloc o).heap[w.heap.size]? = some o := heap_alloc_new w o
theorem alloc_old {w : World} (o : Obj) {k : Nat} (h : k < w.heap.size) : (w.alloc o).heap[k]? = w.heap[k]? := Below.heap_alloc w o k h

/-! ### a map's block -/
section
variable {P : Program} {kt : TypeId} {w : World} {b : Nat} {l : List (Value × Value)}
/-- Block b is a map that holds just the keys and elements of l (in whatever order), each key once. -/
def MapOf (P : Program) (kt : TypeId) (w : World) (b : Nat) (l : List (Value × Value)) : Prop :=
  ∃ es clock, w.heap[b]? = some (.map es clock) ∧ Stamped es clock ∧ es.size ≤ maxLen ∧ (∀ x ∈ es.toList, ∃ kl, keyOf P kt x.key = some kl) ∧ (es.toList.map fun x => (x.key, x.val)).Perm l

theorem MapOf.lt (h : MapOf P kt w b l) : b < w.heap.size := by
  obtain ⟨es, clock, hb, _⟩ := h
  exact heap_lt hb
theorem MapOf.perm (h : MapOf P kt w b l) {l' : List (Value × Value)} (hp : l.Perm l') : MapOf P kt w b l' := by
  obtain ⟨es, clock, hb, s, z, r, q⟩ := h
  exact ⟨es, clock, hb, s, z, r, q.trans hp⟩
theorem MapOf.kept (h : MapOf P kt w b l) {w' : World} (hb' : w'.heap[b]? = w.heap[b]?) : MapOf P kt w' b l := by
  obtain ⟨es, clock, hb, r⟩ := h
  exact ⟨es, clock, hb'.trans hb, r⟩
theorem MapOf.frame (h : MapOf P kt w b l) {F : Nat → Prop} {w' : World} (hf : Fr F w w') (hb : ¬ F b) : MapOf P kt w' b l := h.kept (hf.block b h.lt hb)
theorem MapOf.keys (h : MapOf P kt w b l) : (l.map (·.1)).Nodup := by
  obtain ⟨es, clock, hb, s, z, r, q⟩ := h
  have := (q.map (·.1)).nodup_iff.1 (by simpa [List.map_map, Function.comp_def] using s.2.2)
  exact this
theorem MapOf.not_cells (h : MapOf P kt w b l) {cs : Array Value} {e : TypeId} {fr : Nat × Nat} {b' : Nat} (h' : w.heap[b']? = some (.cells cs e fr)) : b ≠ b' := by
  obtain ⟨es, clock, hb, _⟩ := h
  rintro rfl
  rw [hb] at h'; cases h'
theorem MapOf.made (w : World) (P : Program) (kt : TypeId) : MapOf P kt (w.alloc (.map #[] 0)) w.heap.size [] :=
  ⟨#[], 0, alloc_new w _, stamped_empty 0, by simp, by simp, by simp⟩

variable {t e : TypeId}
/-- m[k], the key being there. -/
theorem MapOf.hit (h : MapOf P kt w b l) (K : Keyed P kt) (ht : P.underlying t = some (.map kt e)) {key v : Value} {kl : Lit} (hkey : keyOf P kt key = some kl) (hm : (key, v) ∈ l) (c : Bool) :
    (Instr.lookup t (.map (some b)) key c).run P w = .ok (if c then .tuple #[v, .bool true] else v) w := by
  obtain ⟨es, clock, hb, s, z, r, q⟩ := h
  have hmem := q.mem_iff.2 hm
  obtain ⟨x, hx, hxe⟩ := List.mem_map.1 hmem
  simp only [Prod.mk.injEq] at hxe
  obtain ⟨rfl, rfl⟩ := hxe
  rcases K.find w hkey es.toList r with ⟨h1, h2⟩ | ⟨j, e0, h1, h2, h3⟩
  · exact absurd rfl (h2 x hx)
  · have he : e0 = x := by
      have hp := ((stamped_iff es clock).1 s).2.2
      obtain ⟨i, hi, rfl⟩ := List.getElem_of_mem hx
      obtain ⟨hj, rfl⟩ := List.getElem?_eq_some_iff.1 h2
      by_cases hij : i = j
      · subst hij; rfl
      · rcases Nat.lt_or_gt_of_ne hij with hlt | hlt
        · exact absurd h3.symm (List.pairwise_iff_getElem.1 hp i j hi hj hlt)
        · exact absurd h3 (List.pairwise_iff_getElem.1 hp j i hj hi hlt)
    subst he
    cases c <;> simp [Instr.lookup, run_underlying ht, MapKept.run_getObj_map hb, K.check w _ hkey, h1, Result.andThen]
/-- m[k], the key not being there. -/
theorem MapOf.miss (h : MapOf P kt w b l) (K : Keyed P kt) (ht : P.underlying t = some (.map kt e)) {zv : Value} (hz : (zeroValue e).run P w = .ok zv w) {key : Value} {kl : Lit} (hkey : keyOf P kt key = some kl) (hm : ∀ v, (key, v) ∉ l) (c : Bool) :
    (Instr.lookup t (.map (some b)) key c).run P w = .ok (if c then .tuple #[zv, .bool false] else zv) w := by
  obtain ⟨es, clock, hb, s, z, r, q⟩ := h
  rcases K.find w hkey es.toList r with ⟨h1, h2⟩ | ⟨j, e0, h1, h2, h3⟩
  · cases c <;> simp [Instr.lookup, run_underlying ht, MapKept.run_getObj_map hb, K.check w _ hkey, h1, hz, Result.andThen]
  · exact absurd (q.mem_iff.1 (List.mem_map.2 ⟨e0, List.mem_of_getElem? h2, by rw [h3]⟩)) (hm e0.val)
/-- m[k] = v. -/
theorem MapOf.store (h : MapOf P kt w b l) (K : Keyed P kt) (ht : P.underlying t = some (.map kt e)) (hn : l.length < maxLen) {key val : Value} {kl : Lit} (hkey : keyOf P kt key = some kl) (l' : List (Value × Value))
    (hl' : ∀ p, p ∈ l' → p = (key, val) ∨ (p.1 ≠ key ∧ p ∈ l)) (hl'' : ∀ p, p ∈ l → p.1 ≠ key → p ∈ l') (hin : (key, val) ∈ l') (hd' : (l'.map (·.1)).Nodup) :
    ∃ o, (Instr.mapUpdate t (.map (some b)) key val).run P w = .ok () (setBlock w b o) ∧ MapOf P kt (setBlock w b o) b l' := by
  have hkeys := h.keys
  obtain ⟨es, clock, hb, s, z, r, q⟩ := h
  have hsz : es.size < maxLen := by
    have := q.length_eq; simp at this; omega
  have nodupP : ∀ {m : List (Value × Value)}, (m.map (·.1)).Nodup → m.Nodup := fun hm => (List.pairwise_map.1 hm).imp (fun hne e => hne (by rw [e]))
  rcases K.find w hkey es.toList r with ⟨h1, h2⟩ | ⟨j, e0, h1, h2, h3⟩
  · refine ⟨.map (es.push ⟨key, val, clock⟩) (clock + 1), ?_, es.push ⟨key, val, clock⟩, clock + 1, heap_setBlock_same hb _, stamped_push s h2, by simp; omega, ?_, ?_⟩
    · simp [Instr.mapUpdate, run_underlying ht, MapKept.run_getObj_map hb, K.check w false hkey, h1, MapKept.run_setObj_map _ hb, Result.andThen, setBlock]
    · intro x hx
      simp only [Array.toList_push, List.mem_append, List.mem_singleton] at hx
      rcases hx with hx | rfl
      · exact r x hx
      · exact ⟨_, hkey⟩
    · have s' := (stamped_iff _ _).1 (stamped_push s h2 (val := val))
      refine (List.perm_ext_iff_of_nodup ?_ (nodupP hd')).2 ?_
      · refine nodupP ?_
        have := s'.2.2
        rw [List.map_map]
        exact List.pairwise_map.2 this
      · intro p
        simp only [Array.toList_push, List.map_append, List.map_cons, List.map_nil, List.mem_append, List.mem_singleton]
        constructor
        · rintro (hp | rfl)
          · have hpl := q.mem_iff.1 hp
            refine hl'' p hpl ?_
            obtain ⟨x, hx, rfl⟩ := List.mem_map.1 hp
            exact h2 x hx
          · exact hin
        · intro hp
          rcases hl' p hp with rfl | ⟨_, hp'⟩
          · exact .inr rfl
          · exact .inl (q.mem_iff.2 hp')
  · have hj : es[j]? = some e0 := by simpa using h2
    have hjl : j < es.toList.length := (List.getElem?_eq_some_iff.1 h2).1
    have hkeyf : ∀ e', es[j]? = some e' → ({ e' with key := key, val := val } : MapEntry).key = e'.key := fun e' he' => by rw [hj] at he'; cases he'; exact h3.symm
    have hlist : (es.modify j (fun e' => { e' with key := key, val := val })).toList = es.toList.set j { e0 with key := key, val := val } := by rw [Array.toList_modify, modify_eq_set _ _ _ _ h2]
    have s2 : Stamped (es.modify j (fun e' => { e' with key := key, val := val })) clock := stamped_modify s _ _ (fun _ _ => rfl) (fun e' _ he' => hkeyf e' he')
    have memset : ∀ x, x ∈ es.toList.set j { e0 with key := key, val := val } ↔ (x = { e0 with key := key, val := val } ∨ (x ∈ es.toList ∧ x.key ≠ key)) := by
      intro x
      have hp := ((stamped_iff es clock).1 s).2.2
      obtain ⟨hj', he0⟩ := List.getElem?_eq_some_iff.1 h2
      constructor
      · intro hx
        obtain ⟨i, hi, ex⟩ := List.getElem_of_mem hx
        rw [List.getElem_set] at ex
        split at ex
        · exact .inl ex.symm
        · rename_i hne
          have hi' : i < es.toList.length := by simpa using hi
          refine .inr ⟨ex ▸ List.getElem_mem hi', ?_⟩
          intro hk
          rw [← ex] at hk
          have h3' : es.toList[j].key = key := by rw [he0]; exact h3
          rcases Nat.lt_or_gt_of_ne hne with hlt | hlt
          · exact List.pairwise_iff_getElem.1 hp j i hj' hi' hlt (h3'.trans hk.symm)
          · exact List.pairwise_iff_getElem.1 hp i j hi' hj' hlt (hk.trans h3'.symm)
      · rintro (rfl | ⟨hx, hne⟩)
        · exact List.mem_iff_getElem.2 ⟨j, by simpa using hj', by simp⟩
        · obtain ⟨i, hi, rfl⟩ := List.getElem_of_mem hx
          have hij : j ≠ i := by rintro rfl; exact hne (by rw [he0]; exact h3)
          exact List.mem_iff_getElem.2 ⟨i, by simpa using hi, by rw [List.getElem_set_ne hij]⟩
    refine ⟨.map (es.modify j (fun e' => { e' with key := key, val := val })) clock, ?_, es.modify j (fun e' => { e' with key := key, val := val }), clock, heap_setBlock_same hb _, s2, by simpa using z, ?_, ?_⟩
    · simp [Instr.mapUpdate, run_underlying ht, MapKept.run_getObj_map hb, K.check w false hkey, h1, hj, h3, K.stays w hkey, MapKept.run_setObj_map _ hb, Result.andThen, setBlock]
    · intro x hx
      rw [hlist] at hx
      rcases (memset x).1 hx with rfl | ⟨hx', _⟩
      · exact ⟨_, hkey⟩
      · exact r x hx'
    · refine (List.perm_ext_iff_of_nodup ?_ (nodupP hd')).2 ?_
      · refine nodupP ?_
        have := ((stamped_iff _ _).1 s2).2.2
        rw [List.map_map]
        exact List.pairwise_map.2 this
      · intro p
        rw [hlist]
        simp only [List.mem_map, memset]
        constructor
        · rintro ⟨x, rfl | ⟨hx, hne⟩, rfl⟩
          · exact hin
          · exact hl'' _ (q.mem_iff.1 (List.mem_map.2 ⟨x, hx, rfl⟩)) hne
        · intro hp
          rcases hl' p hp with rfl | ⟨hne, hp'⟩
          · exact ⟨_, .inl rfl, rfl⟩
          · obtain ⟨x, hx, rfl⟩ := List.mem_map.1 (q.mem_iff.2 hp')
            exact ⟨x, .inr ⟨hx, hne⟩, rfl⟩

/-- delete(m, k). -/
theorem MapOf.drop (h : MapOf P kt w b l) (K : Keyed P kt) (ht : P.underlying t = some (.map kt e)) {key : Value} {kl : Lit} (hkey : keyOf P kt key = some kl) (ty : TypeId) (l' : List (Value × Value))
    (hl' : ∀ p, p ∈ l' ↔ (p ∈ l ∧ p.1 ≠ key)) (hd' : (l'.map (·.1)).Nodup) :
    ∃ o, (Builtin.delete_ #[t, kt] ty #[.map (some b), key]).run P w = .ok (.tuple #[]) (setBlock w b o) ∧ MapOf P kt (setBlock w b o) b l' := by
  obtain ⟨es, clock, hb, s, z, r, q⟩ := h
  have nodupP : ∀ {m : List (Value × Value)}, (m.map (·.1)).Nodup → m.Nodup := fun hm => (List.pairwise_map.1 hm).imp (fun hne e => hne (by rw [e]))
  rcases K.find w hkey es.toList r with ⟨h1, h2⟩ | ⟨j, e0, h1, h2, h3⟩
  · refine ⟨.map es clock, ?_, es, clock, heap_setBlock_same hb _, s, z, r, ?_⟩
    · simp [Builtin.delete_, run_underlying ht, MapKept.run_getObj_map hb, K.check w _ hkey, h1, MapKept.run_setObj_map _ hb, Result.andThen, setBlock]
    · refine (List.perm_ext_iff_of_nodup ?_ (nodupP hd')).2 ?_
      · refine nodupP ?_
        rw [List.map_map]
        exact s.2.2
      · intro p
        rw [hl', q.mem_iff]
        constructor
        · intro hp
          refine ⟨hp, ?_⟩
          obtain ⟨x, hx, rfl⟩ := List.mem_map.1 (q.mem_iff.2 hp)
          exact h2 x hx
        · exact fun hp => hp.1
  · have hjl : j < es.toList.length := (List.getElem?_eq_some_iff.1 h2).1
    have hjs : j < es.size := by simpa using hjl
    have hsub : (es.eraseIdxIfInBounds j).toList = es.toList.eraseIdx j := by
      unfold Array.eraseIdxIfInBounds
      rw [dif_pos hjs]
      simp
    have s2 := stamped_erase s j
    refine ⟨.map (es.eraseIdxIfInBounds j) clock, ?_, es.eraseIdxIfInBounds j, clock, heap_setBlock_same hb _, s2, Nat.le_trans (MapFrom.size_erase es j) z, ?_, ?_⟩
    · simp [Builtin.delete_, run_underlying ht, MapKept.run_getObj_map hb, K.check w _ hkey, h1, MapKept.run_setObj_map _ hb, Result.andThen, setBlock]
    · intro x hx
      rw [hsub] at hx
      exact r x ((List.eraseIdx_sublist _ _).subset hx)
    · refine (List.perm_ext_iff_of_nodup ?_ (nodupP hd')).2 ?_
      · refine nodupP ?_
        rw [List.map_map]
        exact s2.2.2
      · intro p
        rw [hl', hsub, ← q.mem_iff]
        have hp := ((stamped_iff es clock).1 s).2.2
        obtain ⟨hj', he0⟩ := List.getElem?_eq_some_iff.1 h2
        simp only [List.mem_map, List.mem_eraseIdx_iff_getElem]
        constructor
        · rintro ⟨x, ⟨i, hi, hne, rfl⟩, rfl⟩
          refine ⟨⟨_, List.getElem_mem hi, rfl⟩, ?_⟩
          intro hk
          have hk' : es.toList[i].key = key := hk
          have h3' : es.toList[j].key = key := by rw [he0]; exact h3
          rcases Nat.lt_or_gt_of_ne hne with hlt | hlt
          · exact List.pairwise_iff_getElem.1 hp i j hi hj' hlt (hk'.trans h3'.symm)
          · exact List.pairwise_iff_getElem.1 hp j i hj' hi hlt (h3'.trans hk'.symm)
        · rintro ⟨⟨x, hx, rfl⟩, hne⟩
          obtain ⟨i, hi, rfl⟩ := List.getElem_of_mem hx
          exact ⟨_, ⟨i, hi, by rintro rfl; exact hne (by rw [he0]; exact h3), rfl⟩, rfl⟩

/-- m[k] = v, in two halves (an assignment of several): the entry, then the store. -/
theorem MapOf.entry (h : MapOf P kt w b l) (K : Keyed P kt) (ht : P.underlying t = some (.map kt e)) {zv : Value} (hz : ∀ w, (zeroValue e).run P w = .ok zv w) (hn : l.length < maxLen) {key : Value} {kl : Lit} (hkey : keyOf P kt key = some kl) (val : Value) (l' : List (Value × Value))
    (hl' : ∀ p, p ∈ l' → p = (key, val) ∨ (p.1 ≠ key ∧ p ∈ l)) (hl'' : ∀ p, p ∈ l → p.1 ≠ key → p ∈ l') (hin : (key, val) ∈ l') (hd' : (l'.map (·.1)).Nodup) :
    ∃ old st w1 w2, (Instr.mapEntry t (.map (some b)) key).run P w = .ok (.tuple #[old, .int .i64 st]) w1 ∧ (Instr.entryStore t (.map (some b)) (.int .i64 st) val).run P w1 = .ok () w2 ∧ MapOf P kt w2 b l' ∧
      Fr (fun k => k = b) w w1 ∧ Fr (fun k => k = b) w w2 ∧ w1.heap.size = w.heap.size ∧ w2.heap.size = w.heap.size := by
  have hkeys := h.keys
  have h0 := h
  obtain ⟨es, clock, hb, s, z, r, q⟩ := h
  have hsz : es.size < maxLen := by
    have := q.length_eq; simp at this; omega
  obtain ⟨o, hrun, hmap⟩ := h0.store K ht hn hkey l' hl' hl'' hin hd'
  rcases K.find w hkey es.toList r with ⟨h1, h2⟩ | ⟨j, e0, h1, h2, h3⟩
  · have hfind : (es.push ⟨key, zv, clock⟩).findIdx? (fun e => (e.born : Int) == (clock : Int)) = some es.size := by
      rw [Array.findIdx?_eq_some_iff_getElem]
      refine ⟨by simp, by simp, ?_⟩
      intro j hj
      have hj' : j < es.size := by simpa using hj
      have := s.1 es[j] (by simp)
      rw [Array.getElem_push_lt hj']
      simp; omega
    have hmod : (es.push ⟨key, zv, clock⟩).modify es.size (fun e => { e with val := val }) = es.push ⟨key, val, clock⟩ := by
      apply Array.ext_getElem?
      intro i
      simp only [Array.getElem?_modify, Array.getElem?_push]
      by_cases e : es.size = i
      · subst e; simp
      · simp [e, show ¬ i = es.size from fun e' => e e'.symm]
    have hrun' : (Instr.mapUpdate t (.map (some b)) key val).run P w = .ok () (setBlock w b (.map (es.push ⟨key, val, clock⟩) (clock + 1))) := by
      simp [Instr.mapUpdate, run_underlying ht, MapKept.run_getObj_map hb, K.check w false hkey, h1, MapKept.run_setObj_map _ hb, Result.andThen, setBlock]
    rw [hrun'] at hrun
    simp only [Result.ok.injEq, true_and] at hrun
    have hb1 := heap_setBlock_same hb (.map (es.push ⟨key, zv, clock⟩) (clock + 1))
    have hss : setBlock (setBlock w b (.map (es.push ⟨key, zv, clock⟩) (clock + 1))) b (.map (es.push ⟨key, val, clock⟩) (clock + 1)) = setBlock w b (.map (es.push ⟨key, val, clock⟩) (clock + 1)) := by
      simp [setBlock]
    refine ⟨zv, clock, setBlock w b (.map (es.push ⟨key, zv, clock⟩) (clock + 1)), setBlock w b (.map (es.push ⟨key, val, clock⟩) (clock + 1)), ?_, ?_, hrun ▸ hmap, Fr.setBlock hb _ rfl, Fr.setBlock hb _ rfl, by simp [setBlock], by simp [setBlock]⟩
    · simp [Instr.mapEntry, run_underlying ht, MapKept.run_getObj_map hb, K.check w false hkey, h1, hz, MapKept.run_setObj_map _ hb, Result.andThen, setBlock, goInt]
    · rw [← hss]
      simp [Instr.entryStore, MapKept.run_getObj_map hb1, asInt, asIntOf, hfind, hmod, MapKept.run_setObj_map _ hb1, Result.andThen]
      simp [setBlock]
  · have hj : es[j]? = some e0 := by simpa using h2
    have hjl : j < es.size := by have := (List.getElem?_eq_some_iff.1 h2).1; simpa using this
    have hje : es[j] = e0 := by have := Array.getElem?_eq_some_iff.1 hj; exact this.2
    have hfind : (es.modify j (fun e => { e with key := key })).findIdx? (fun e => (e.born : Int) == (e0.born : Int)) = some j := by
      rw [Array.findIdx?_eq_some_iff_getElem]
      refine ⟨by simpa using hjl, by simp [Array.getElem_modify, hje], ?_⟩
      intro i hi
      have hi' : i < es.size := by omega
      have hne := s.2.1
      rw [Array.getElem_modify]
      rw [if_neg (by omega)]
      simp only [Bool.not_eq_true, beq_eq_false_iff_ne, ne_eq]
      intro e1
      have hp := List.pairwise_iff_getElem.1 (List.pairwise_map.1 hne) i j (by simpa using hi') (by simpa using hjl) hi
      simp at hp
      exact hp (by rw [hje]; exact_mod_cast e1)
    have hmod : (es.modify j (fun e => { e with key := key })).modify j (fun e => { e with val := val }) = es.modify j (fun e => { e with key := key, val := val }) := by
      apply Array.ext_getElem?
      intro i
      simp only [Array.getElem?_modify]
      by_cases e : j = i
      · subst e; simp [hj]
      · simp [e]
    have hrun' : (Instr.mapUpdate t (.map (some b)) key val).run P w = .ok () (setBlock w b (.map (es.modify j (fun e => { e with key := key, val := val })) clock)) := by
      simp [Instr.mapUpdate, run_underlying ht, MapKept.run_getObj_map hb, K.check w false hkey, h1, hj, h3, K.stays w hkey, MapKept.run_setObj_map _ hb, Result.andThen, setBlock]
    rw [hrun'] at hrun
    simp only [Result.ok.injEq, true_and] at hrun
    have hb1 := heap_setBlock_same hb (.map (es.modify j (fun e => { e with key := key })) clock)
    have hss : setBlock (setBlock w b (.map (es.modify j (fun e => { e with key := key })) clock)) b (.map (es.modify j (fun e => { e with key := key, val := val })) clock) = setBlock w b (.map (es.modify j (fun e => { e with key := key, val := val })) clock) := by
      simp [setBlock]
    refine ⟨e0.val, e0.born, setBlock w b (.map (es.modify j (fun e => { e with key := key })) clock), setBlock w b (.map (es.modify j (fun e => { e with key := key, val := val })) clock), ?_, ?_, hrun ▸ hmap, Fr.setBlock hb _ rfl, Fr.setBlock hb _ rfl, by simp [setBlock], by simp [setBlock]⟩
    · simp [Instr.mapEntry, run_underlying ht, MapKept.run_getObj_map hb, K.check w false hkey, h1, hj, h3, K.stays w hkey, MapKept.run_setObj_map _ hb, Result.andThen, setBlock, goInt]
    · rw [← hss]
      simp [Instr.entryStore, MapKept.run_getObj_map hb1, asInt, asIntOf, hfind, hmod, MapKept.run_setObj_map _ hb1, Result.andThen]
      simp [setBlock]

/-- len(m). -/
theorem MapOf.len (h : MapOf P kt w b l) (ht : P.underlying t = some (.map kt e)) (ty : TypeId) :
    (Builtin.len_ #[t] ty #[.map (some b)]).run P w = .ok (.int .i64 l.length) w := by
  obtain ⟨es, clock, hb, s, z, r, q⟩ := h
  have hl := q.length_eq
  simp at hl
  simp [Builtin.len_, Builtin.lenOf, run_underlying ht, MapKept.run_getObj_map hb, Result.andThen, hl, goInt]
end

/-! ### the laws at the operation, for a walk -/
section
variable {P : Program} {kt e : TypeId} (w : World) {ops : Array Oper} {rest : List Oper} {o : Oper} {a : Act} {Q : Exit → Act → World → Prop}
theorem wpL_look (hg : o.guard = none) (m x : Operand) (t : TypeId) (c : Bool) (hop : o.op = Op.lookup t m x c) (b : Nat) (key : Value) (hm : a.eval m = .map (some b)) (hx : a.eval x = key) (v : Value)
    (hrun : (Instr.lookup t (.map (some b)) key c).run P w = .ok v w) (hK : wpList P ops Q rest (a.put o.dst v) w) : wpList P ops Q (o :: rest) a w := by
  refine wpList_plain hg fun K' hK' => ?_
  unfold Oper.wp
  simp [execOp, hop, hm, hx, hrun, Result.andThen]
  exact hK' _ _ hK
theorem wpL_store (hg : o.guard = none) (m x v : Operand) (t : TypeId) (hop : o.op = Op.mapUpdate t m x v) (K : Keyed P kt) (ht : P.underlying t = some (.map kt e)) (b : Nat) (l l' : List (Value × Value))
    (hm : a.eval m = .map (some b)) (h : MapOf P kt w b l) (hn : l.length < maxLen) (key val : Value) (kl : Lit) (hx : a.eval x = key) (hv : a.eval v = val) (hkey : keyOf P kt key = some kl)
    (hl' : ∀ p, p ∈ l' → p = (key, val) ∨ (p.1 ≠ key ∧ p ∈ l)) (hl'' : ∀ p, p ∈ l → p.1 ≠ key → p ∈ l') (hin : (key, val) ∈ l') (hd' : (l'.map (·.1)).Nodup)
    (hK : ∀ w', MapOf P kt w' b l' → Fr (fun k => k = b) w w' → w'.heap.size = w.heap.size → wpList P ops Q rest (a.put o.dst undef) w') : wpList P ops Q (o :: rest) a w := by
  refine wpList_plain hg fun K' hK' => ?_
  obtain ⟨ob, hrun, hm'⟩ := h.store K ht hn hkey l' hl' hl'' hin hd'
  obtain ⟨es, clock, hb, _⟩ := h
  unfold Oper.wp
  simp [execOp, hop, hm, hx, hv, hrun, Result.andThen]
  exact hK' _ _ (hK _ hm' (Fr.setBlock hb ob rfl) (by simp [ChangeMaps.setBlock]))
theorem wpL_drop (hg : o.guard = none) (m x : Operand) (t : TypeId) (hop : o.op = Op.call { callee := Callee.builtin Builtin.delete, args := #[m, x], argTypes := #[t, kt] }) (K : Keyed P kt) (ht : P.underlying t = some (.map kt e)) (b : Nat) (l l' : List (Value × Value))
    (hm : a.eval m = .map (some b)) (h : MapOf P kt w b l) (key : Value) (kl : Lit) (hx : a.eval x = key) (hkey : keyOf P kt key = some kl)
    (hl' : ∀ p, p ∈ l' ↔ (p ∈ l ∧ p.1 ≠ key)) (hd' : (l'.map (·.1)).Nodup)
    (hK : ∀ w', MapOf P kt w' b l' → Fr (fun k => k = b) w w' → w'.heap.size = w.heap.size → wpList P ops Q rest (a.put o.dst (.tuple #[])) w') : wpList P ops Q (o :: rest) a w := by
  refine wpList_plain hg fun K' hK' => ?_
  obtain ⟨ob, hrun, hm'⟩ := h.drop K ht hkey o.type l' hl' hd'
  obtain ⟨es, clock, hb, _⟩ := h
  unfold Oper.wp
  simp [execOp, hop, resolve, invoke, builtin, hm, hx, hrun, Result.andThen]
  exact hK' _ _ (hK _ hm' (Fr.setBlock hb ob rfl) (by simp [ChangeMaps.setBlock]))
theorem wpL_len (hg : o.guard = none) (m : Operand) (t : TypeId) (hop : o.op = Op.call { callee := Callee.builtin Builtin.len, args := #[m], argTypes := #[t] }) (ht : P.underlying t = some (.map kt e)) (b : Nat) (l : List (Value × Value))
    (hm : a.eval m = .map (some b)) (h : MapOf P kt w b l) (hK : wpList P ops Q rest (a.put o.dst (.int .i64 l.length)) w) : wpList P ops Q (o :: rest) a w := by
  refine wpList_plain hg fun K' hK' => ?_
  unfold Oper.wp
  simp [execOp, hop, resolve, invoke, builtin, hm, h.len ht o.type, Result.andThen]
  exact hK' _ _ hK
end
end Go.Proofs.Gab
