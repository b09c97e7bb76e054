/-
  A tree: a new directory is made.
-/
import Derived.Test.YtbkgmhakiboioaaGreatDoorGt5
import Derived.RegionTactic
namespace Go.Proofs.Gab
open Go.RowKit Go.Maps Go.ChangeMaps Go.Deep

def dirV (l : Int) : Value := .agg #[.int .u8 2, .int .i64 l, .int .i64 0, .slice none 0 0, .string ⟨#[]⟩]
set_option maxRecDepth 100000 in
theorem right_dir (w : World) : Calls Tryz.prog 23 #[dirV 2] w fun e w' => e = .returned (.bool true) ∧ Below w.heap.size w w' := by
  unfold dirV
  go_enter Tryz.func23, Tryz.ntmps23
  go_wp2
  go_ret
  exact ⟨rfl, (Below.refl _ _).alloc (Nat.le_refl _) _⟩
theorem nodup_le {r l : List Int} (hr : r.Nodup) (hs : ∀ x ∈ r, x ∈ l) : r.length ≤ l.length := by
  induction r generalizing l with
  | nil => simp
  | cons a r ih =>
    have ha := hs a (by simp)
    have hnd := List.nodup_cons.1 hr
    have h1 := ih hnd.2 (l := l.erase a) (fun x hx => (List.mem_erase_of_ne (by rintro rfl; exact hnd.1 hx)).2 (hs x (by simp [hx])))
    rw [List.length_erase_of_mem ha] at h1
    have := List.length_pos_of_mem ha
    simp; omega
theorem wf_small {k : Int} (h : -1073741824 ≤ k ∧ k ≤ 1073741824) : (Lit.int .i64 k).wf = true := by simp [Lit.wf, IntKind.min, IntKind.max, IntKind.signed, IntKind.bits]; omega
/-- the least free number: none has it, and it is not too great -/
theorem freeFrom_spec {T : Tr} : ∀ (k : Nat) (n : Int), ((∃ j : Nat, j < k ∧ T.get? (n + j) = none) → T.get? (T.freeFrom k n) = none ∧ n ≤ T.freeFrom k n ∧ T.freeFrom k n < n + k)
  | 0, n, ⟨j, hj, _⟩ => by omega
  | k + 1, n, ⟨j, hj, hn⟩ => by
    cases hx : T.get? n with
    | none => rw [Tr.freeFrom_none hx]; exact ⟨hx, by omega, by omega⟩
    | some x =>
      rw [Tr.freeFrom_some hx]
      have hj0 : j ≠ 0 := by rintro rfl; simp at hn; rw [hx] at hn; cases hn
      obtain ⟨h1, h2, h3⟩ := freeFrom_spec k (n + 1) ⟨j - 1, by omega, by rw [← hn]; congr 1; omega⟩
      exact ⟨h1, by omega, by omega⟩
theorem free_spec {w : World} {own : Nat → Option Tag} {β : Int → Nat} {t bn bs be B : Nat} {T : Tr} (h : TreeLay w own β t bn bs be B T) (hlen : T.nodes.length < 1024) : T.get? T.free = none ∧ (1 ≤ T.free ∧ T.free ≤ 1024) ∧ (Lit.int .i64 T.free).wf = true := by
  have hex : ∃ j : Nat, j < 1024 ∧ T.get? (1 + j) = none := by
    refine Classical.byContradiction fun hno => ?_
    have hall : ∀ j : Nat, j < 1024 → ((1 : Int) + j) ∈ T.nodes.map (·.1) := by
      intro j hj
      cases hx : T.get? (1 + (j : Int)) with
      | none => exact absurd ⟨j, hj, hx⟩ hno
      | some x => exact List.mem_map.2 ⟨_, (iget?_some h.sort.nodup).1 hx, rfl⟩
    have hsub : (List.range 1024).map (fun j : Nat => (1 : Int) + j) ⊆ T.nodes.map (·.1) := by
      intro m hm
      obtain ⟨j, hj, rfl⟩ := List.mem_map.1 hm
      exact hall j (List.mem_range.1 hj)
    have hnd : ((List.range 1024).map (fun j : Nat => (1 : Int) + j)).Nodup := by
      refine List.pairwise_map.2 (List.nodup_range.imp fun hne e => hne (by omega))
    have hle := nodup_le hnd hsub
    simp at hle
    omega
  have hs := freeFrom_spec 1024 1 hex
  exact ⟨hs.1, ⟨hs.2.1, by have := hs.2.2; unfold Tr.free; omega⟩, wf_small ⟨by have := hs.2.1; unfold Tr.free; omega, by have := hs.2.2; unfold Tr.free; omega⟩⟩
section
variable {w : World} {own : Nat → Option Tag} {β : Int → Nat} {t bn bs be B : Nat} {T : Tr}
set_option maxRecDepth 100000 in
theorem tMake_no {tv : Value} {n E : Int} {s : ByteArray} (xv : Value) (h : ∀ w', Below w.heap.size w w' → Calls Tryz.prog 100 #[tv, .int .i64 n, .string s] w' fun e w'' => e = .returned (.tuple #[.pointer none, .int .i64 E]) ∧ Below w'.heap.size w' w'') (hE : (E != 0) = true) :
    Calls Tryz.prog 28 #[tv, .int .i64 n, .string s, xv] w fun e w' => e = .returned (.tuple #[.int .i64 0, .int .i64 E]) ∧ Below w.heap.size w w' := by
  have H := Go.Lib.hid h
  clear h
  go_enter Tryz.func28, Tryz.ntmps28
  go_wp2_with (go_at_call 100; refine (H.out _ ((Below.refl _ _).alloc (Nat.le_refl _) _)).mono ?_; rintro e w1 ⟨rfl, hb⟩; have HB := Go.Lib.hid hb; clear hb)
  go_ret2
  exact ⟨rfl, ((Below.refl _ _).alloc (Nat.le_refl _) _).trans (HB.out.mono (by simp))⟩
theorem make_mid {w w1 w2 : World} (hb1 : Below w.heap.size w w1) (k1 : w1.heap[w.heap.size]? = some (.cells #[.int .u8 2, .int .i64 0, .int .i64 0, .slice none 0 0, .string ⟨#[]⟩] 53 (0, 0)))
    (hb2 : Below (((w1.setCell ⟨w.heap.size, 1, none⟩ (.int .i64 1)).setCell ⟨w.heap.size, 3, none⟩ (.slice none 0 0)).setCell ⟨w.heap.size, 1, none⟩ (.int .i64 2)).heap.size (((w1.setCell ⟨w.heap.size, 1, none⟩ (.int .i64 1)).setCell ⟨w.heap.size, 3, none⟩ (.slice none 0 0)).setCell ⟨w.heap.size, 1, none⟩ (.int .i64 2)) w2) :
    Below w.heap.size w w2 ∧ w2.heap[w.heap.size]? = some (.cells #[.int .u8 2, .int .i64 2, .int .i64 0, .slice none 0 0, .string ⟨#[]⟩] 53 (0, 0)) := by
  have hlt := heap_lt k1
  refine ⟨?_, ?_⟩
  · refine (((hb1.setCell (Nat.le_refl _) _).setCell (Nat.le_refl _) _).setCell (Nat.le_refl _) _).trans (hb2.mono (by simp; exact hb1.size))
  · rw [hb2.block _ (by simpa using hlt)]
    have h1 := set_of k1 1 (.int .i64 1)
    have h2 := set_of h1 3 (.slice none 0 0)
    have h3 := set_of h2 1 (.int .i64 2)
    simpa using h3
def newDir (n : Int) : Nd := ⟨⟨2, 2, 0, [], ByteArray.empty⟩, none, n, 0⟩
theorem zeroB (w : World) : (zeroValue 4).run Tryz.prog w = .ok (.bool false) w := by kernel_rfl
/-- both maps' entries, one behind the other -/
theorem make_maps {w : World} {own : Nat → Option Tag} {β : Int → Nat} {t bn bs be B : Nat} {T : Tr} (h : TreeLay w own β t bn bs be B T) (hB : B < 1073741820) {k : Int} (hk : T.get? k = none) (hwf : (Lit.int .i64 k).wf = true) (hln : T.nodes.length < 1024) (N : Obj) (x : Nd) :
    ∃ o1 st1 wa wb o2 st2 wc wd, (Instr.mapEntry 157 (.map (some bn)) (.int .i64 k)).run Tryz.prog (w.alloc N).drew = .ok (.tuple #[o1, .int .i64 st1]) wa ∧ (Instr.entryStore 157 (.map (some bn)) (.int .i64 st1) (.pointer (some ⟨w.heap.size, 0, none⟩))).run Tryz.prog wa = .ok () wb ∧
      (Instr.mapEntry 159 (.map (some be)) (.int .i64 k)).run Tryz.prog wb = .ok (.tuple #[o2, .int .i64 st2]) wc ∧ (Instr.entryStore 159 (.map (some be)) (.int .i64 st2) (.bool true)).run Tryz.prog wc = .ok () wd ∧
      MapOf Tryz.prog 3 wd bn ((iput T.nodes k x).map (encN fun m => if m = k then w.heap.size else β m)) ∧ MapOf Tryz.prog 3 wd be ((iput T.seen k ()).map encU) ∧ Fr (fun j => j = bn ∨ j = be) (w.alloc N) wd ∧ wd.heap.size = w.heap.size + 1 := by
  have hne : bn ≠ be := by
    rintro rfl
    have := h.on.symm.trans h.oe; cases this
  have hw : Fr (fun _ => False) w (w.alloc N).drew := (Fr.alloc w N _).trans (Fr.drew _ _)
  have hsp := node_put h.sort hk x β w.heap.size
  obtain ⟨o1, st1, wa, wb, r1, r2, m1, f1, f2, z1, z2⟩ := (h.nodes.frame hw id).entry lawI Tryz.underlying157 zeroP (by simp [maxLen]; omega) (keyI hwf) (.pointer (some ⟨w.heap.size, 0, none⟩)) _ hsp.1 hsp.2.1 hsp.2.2.1 hsp.2.2.2
  have hsq := seen_put h.sortE k
  have hsB := h.seenB
  obtain ⟨o2, st2, wc, wd, r3, r4, m2, f3, f4, z3, z4⟩ := ((h.seen.frame hw id).frame f2 hne.symm).entry lawI Tryz.underlying159 zeroB (by simp [maxLen]; omega) (keyI hwf) (.bool true) _ hsq.1 hsq.2.1 hsq.2.2 (seen_nodup (iput_sort h.sortE k ()))
  refine ⟨o1, st1, wa, wb, o2, st2, wc, wd, r1, r2, r3, r4, m1.frame f4 hne, m2, ?_, by rw [z4, z2]; simp⟩
  exact ((Fr.drew _ _).trans (f2.mono fun _ _ e => .inl e)).trans (f4.mono fun _ _ e => .inr e)
def emptyDir (n : Int) : Nd := ⟨⟨2, 2, 0, [], ByteArray.empty⟩, some [], n, 0⟩
theorem iput_iput {α : Type} (l : IL α) (n : Int) (u v : α) : iput (iput l n u) n v = iput l n v := by
  induction l with
  | nil => simp [iput]
  | cons q r ih =>
    obtain ⟨k, x⟩ := q
    by_cases e : k = n
    · subst e; simp [iput]
    · by_cases e' : n < k
      · simp [iput, e, e']
      · simp [iput, e, e', ih]
def nodeCells (n : Int) : Array Value := #[.int .u8 2, .int .i64 2, .int .i64 0, .slice none 0 0, .string ⟨#[]⟩, .pointer none, .int .i64 n, .int .i64 0]
/-- behind the two maps' stores: the new node is laid, its directory not yet -/
theorem make_lay1 {w wd : World} {own : Nat → Option Tag} {β : Int → Nat} {t bn bs be B : Nat} {T : Tr} (h : TreeLay w own β t bn bs be B T) {k n : Int} (hk : T.get? k = none) (hk1 : 1 ≤ k ∧ k ≤ 1024)
    (hm1 : MapOf Tryz.prog 3 wd bn ((iput T.nodes k (newDir n)).map (encN fun m => if m = k then w.heap.size else β m))) (hm2 : MapOf Tryz.prog 3 wd be ((iput T.seen k ()).map encU)) (hf : Fr (fun j => j = bn ∨ j = be) (w.alloc (.cells (nodeCells n) 166)) wd) :
    TreeLay wd (fun j => if j = w.heap.size then some (.node k) else own j) (fun m => if m = k then w.heap.size else β m) t bn bs be (B + 1) (T.add k (newDir n)) := by
  have h1 : TreeLay (w.alloc (.cells (nodeCells n) 166)) own β t bn bs be B T := h.frame (Fr.alloc w _ (fun _ => False)) (fun _ _ => id)
  have hsz := hf.size
  simp at hsz
  have nb := h.olt bn (by rw [h.on]; simp)
  have ne := h.olt be (by rw [h.oe]; simp)
  refine h1.addNode hk hk1 hf ?_ ?_ (Nat.lt_succ_self B) hm1 hm2 (bv := .slice none 0 0) (dv := .pointer none) ⟨?_, by simp, .inl ⟨rfl, .inl rfl⟩, rfl⟩
  · intro j hj
    rw [if_neg (by have := h.olt j hj; omega)]
  · intro j hj
    by_cases e : j = w.heap.size
    · omega
    · simp only [if_neg e] at hj; have := h.olt j hj; omega
  · exact hf.heap (alloc_new _ _) (by omega)
theorem add_upd (T : Tr) (k n : Int) : (T.add k (newDir n)).upd k { newDir n with dir := some [] } = T.add k (emptyDir n) := by
  simp only [Tr.add, Tr.upd, iput_iput]; rfl
theorem get?_add {T : Tr} (hs : ISort T.nodes) (k m : Int) (x : Nd) : (T.add k x).get? m = if m = k then some x else T.get? m := iget?_iput hs k m x
def Tr.mkdir (T : Tr) (n : Int) (s : ByteArray) : Tr := ((T.add T.free (emptyDir n)).lnk n 1).put n s T.free
/-- a tree behind a call: laid anew, with more blocks, which are new -/
def TPost (w : World) (own : Nat → Option Tag) (t bn bs be B : Nat) (T : Tr) (w' : World) : Prop :=
  Fr (fun k => own k ≠ none) w w' ∧ ∃ own' β', (∀ k, k < w.heap.size → own' k ≠ none → own k ≠ none) ∧ TreeLay w' own' β' t bn bs be B T
theorem make_lay2 {w w5 : World} {own : Nat → Option Tag} {β : Int → Nat} {t bn bs be B Y d : Nat} {T : Tr} {k n : Int} (h : TreeLay w own β t bn bs be B (T.add k (newDir n))) (hs : ISort T.nodes) (hY : β k = Y) (hb : Below w.heap.size w w5)
    (hd : DirAt w5 (fun j => w.heap.size ≤ j ∧ j < w5.heap.size) d 0 []) :
    TreeLay (w5.setCell ⟨Y, 5, none⟩ (.pointer (some ⟨d, 0, none⟩))) (fun j => if w.heap.size ≤ j ∧ j < w5.heap.size then some (.dir k) else own j) β t bn bs be B (T.add k (emptyDir n)) := by
  have := h.giveDir (x := newDir n) (by rw [get?_add hs, if_pos rfl]) rfl hb hd
  rw [add_upd, hY] at this
  exact this
theorem Tr.get?_lnk {T : Tr} (hs : ISort T.nodes) (n more j : Int) : (T.lnk n more).get? j = if j = n then (T.get? n).map (·.lnk more) else T.get? j := by
  unfold Tr.lnk
  cases hx : T.get? n with
  | none =>
    by_cases e : j = n
    · subst e; simp [hx]
    · simp [e]
  | some x =>
    show (T.upd n (x.lnk more)).get? j = _
    rw [Tr.get?_upd hs]; rfl
theorem Tr.Dirs.get {T : Tr} (h : T.Dirs) (hs : ISort T.nodes) {n : Int} {x : Nd} (hx : T.get? n = some x) : x.ino.kind = 2 ↔ x.dir ≠ none := h _ ((iget?_some hs.nodup).1 hx)
theorem Tr.Dirs.of_get {T : Tr} (hs : ISort T.nodes) (h : ∀ n x, T.get? n = some x → (x.ino.kind = 2 ↔ x.dir ≠ none)) : T.Dirs := fun p hp => h p.1 p.2 ((iget?_some hs.nodup).2 hp)
theorem Tr.lnk_sort {T : Tr} (hs : ISort T.nodes) (n more : Int) : ISort (T.lnk n more).nodes := by
  unfold Tr.lnk
  split
  · exact hs
  · exact iput_sort hs _ _
theorem dirs_mk {T : Tr} (h : T.Dirs) (hs : ISort T.nodes) (k n : Int) : ((T.add k (emptyDir n)).lnk n 1).Dirs := by
  refine Tr.Dirs.of_get (Tr.lnk_sort (iput_sort hs _ _) _ _) fun m x hx => ?_
  rw [Tr.get?_lnk (iput_sort hs _ _)] at hx
  have ha : ∀ m x, (T.add k (emptyDir n)).get? m = some x → (x.ino.kind = 2 ↔ x.dir ≠ none) := by
    intro m x hx
    rw [get?_add hs] at hx
    split at hx
    · cases hx; simp [emptyDir]
    · exact h.get hs hx
  split at hx
  · obtain ⟨y, hy, rfl⟩ := Option.map_eq_some_iff.1 hx
    exact ha n y hy
  · exact ha _ _ hx
theorem get_mk {T : Tr} (hs : ISort T.nodes) {k n : Int} {x : Nd} (hk : T.get? k = none) (hx : T.get? n = some x) : (T.add k (emptyDir n)).get? n = some x ∧ ((T.add k (emptyDir n)).lnk n 1).get? n = some (x.lnk 1) := by
  have hne : n ≠ k := by rintro rfl; rw [hk] at hx; cases hx
  have h1 : (T.add k (emptyDir n)).get? n = some x := by rw [get?_add hs, if_neg hne, hx]
  refine ⟨h1, ?_⟩
  rw [Tr.get?_lnk (iput_sort hs _ _), if_pos rfl, h1]; rfl
theorem zeroB_ (w : World) : (zeroValue 4).run Tryz.prog w = .ok (.bool false) w := by kernel_rfl
set_option maxRecDepth 100000 in
theorem tMake_dir (h : TreeLay w own β t bn bs be B T) (hB : B < 1073741820) (hD : T.Dirs) {n : Int} {s : ByteArray} (hn : (Lit.int .i64 n).wf = true) (hs : s.size ≤ maxLen) (hN : NameIs s 0) (hE : T.vacE n s 0 = 0) (hlen : T.nodes.length < 1024)
    {x : Nd} (hx : T.get? n = some x) (hlk : 0 < x.ino.links ∧ x.ino.links < 1000) (hP : ∀ w O d B, DirAt w O d B (T.namesOf n) → B < 1073741824 → PutSpec w O d B (T.namesOf n) s T.free) :
    Calls Tryz.prog 28 #[.pointer (some ⟨t, 0, none⟩), .int .i64 n, .string s, dirV 0] w fun e w' => e = .returned (.tuple #[.int .i64 T.free, .int .i64 0]) ∧ TPost w own t bn bs be (B + 3) (T.mkdir n s) w' := by
  unfold dirV
  have HV := Go.Lib.hid (p := ∀ w', Below w.heap.size w w' → _) (fun w' hb => tvacant_ok (h.below hb) (by omega) hD hn hs hN hE)
  have HC := Go.Lib.hid (p := ∀ w, _) (fun w => clone_nil w)
  have HR := Go.Lib.hid (p := ∀ w, _) (fun w => right_dir w)
  have HNb := Go.Lib.hid (p := ∀ w', Below w.heap.size w w' → _) (fun w' hb => tnumber_any (h.below hb))
  have H := Go.Lib.hid h
  unfold dirV at HR
  obtain ⟨bv, dv, hnd⟩ := h.node' hx
  have c1 := cell_of hnd.cells 1 rfl
  have clt := heap_lt hnd.cells
  have hh := h.head
  have hhl := heap_lt hh
  have hnl := Go.Lib.hid (p := ∀ w', Below w.heap.size w w' → ∀ ty, (Builtin.len_ #[157] ty #[.map (some bn)]).run Tryz.prog w' = .ok (.int .i64 T.nodes.length) w') (fun w' hb ty => by have := (h.below hb).nodes.len Tryz.underlying157 ty; simpa using this)
  obtain ⟨⟨kind, links, size, blocks, target⟩, dir, up, pins⟩ := x
  dsimp only at *
  simp only [List.getElem_toArray, List.getElem_cons_succ, List.getElem_cons_zero] at c1
  obtain ⟨hl1, hl2⟩ := hlk
  have hlen' : (T.nodes.length : Int) < 1024 := by omega
  have HX := Go.Lib.hid hx
  have HND := Go.Lib.hid hnd
  have HLN := Go.Lib.hid hlen
  have hfr := free_spec h hlen
  have HF := Go.Lib.hid hfr.1
  have HVE := Go.Lib.hid (Tr.vac_ok hE).1
  have HP0 := Go.Lib.hid hP
  clear hP
  have HWF := Go.Lib.hid hfr.2.2
  have HF1 := Go.Lib.hid hfr.2.1
  clear h hnd hx hlen hE hfr
  generalize β n = bb at *
  generalize hln : T.nodes.length = ln at *
  have hln' := Go.Lib.hid hln
  clear hln
  generalize hkk : T.free = k at *
  have HKK := Go.Lib.hid hkk
  clear hkk
  go_enter Tryz.func28, Tryz.ntmps28
  go_wp2_with (first
    | (go_at_call 100; refine (HV.out _ ((Below.refl _ _).alloc (Nat.le_refl _) _)).mono ?_; rintro e w1 ⟨rfl, hb⟩; have k1 := (hb.block w.heap.size (by simp)).trans (alloc_new w _); have d0 := cell_of k1 0 rfl; have d1 := cell_of k1 1 rfl; have d2 := cell_of k1 2 rfl; have d3 := cell_of k1 3 rfl; have d4 := cell_of k1 4 rfl; have f1 := free_of k1 1; have f3 := free_of k1 3; have HB1 := Go.Lib.hid (((Below.refl _ _).alloc (Nat.le_refl _) _).trans (hb.mono (by simp))); have HK1 := Go.Lib.hid k1; clear k1 hb)
    | (go_at_call 83; refine (HC.out _).mono ?_; rintro e w2 ⟨rfl, rfl⟩)
    | (go_at_call 23; refine (HR.out _).mono ?_; rintro e w2 ⟨rfl, hb2⟩; obtain ⟨hb3, k2⟩ := make_mid HB1.out HK1.out hb2; have e0 := cell_of k2 0 rfl; have e1 := cell_of k2 1 rfl; have e2 := cell_of k2 2 rfl; have e3 := cell_of k2 3 rfl; have e4 := cell_of k2 4 rfl; have b1 := (hb3.cell (p := ⟨bb, 1, none⟩) clt).trans c1; have hh2 := (hb3.block t hhl).trans hh; have t0 := cell_of hh2 0 rfl; have t2 := cell_of hh2 2 rfl; have hl := hnl.out w2 hb3; have HB3 := Go.Lib.hid hb3; have HK2 := Go.Lib.hid k2; clear hb2 hb3 k2 hh2 d0 d1 d2 d3 d4 f1 f3)
    | (go_at_call 101; refine (HNb.out _ HB3.out).mono ?_; rintro e w3 ⟨rfl, rfl⟩))
  have hT2 := H.out.below HB3.out
  have hsz2 := HB3.out.size
  obtain ⟨o1, st1, wa, wb, o2, st2, wc, wd, r1, r2, r3, r4, m1, m2, f1, z1⟩ := make_maps hT2 hB HF.out HWF.out (hln'.out.symm ▸ HLN.out) (.cells #[.int .u8 2, .int .i64 2, .int .i64 0, .slice none 0 0, .string ⟨#[]⟩, .pointer none, .int .i64 n, .int .i64 0] 166) (newDir n)
  have u0 : (w2.alloc (.cells #[.int .u8 2, .int .i64 2, .int .i64 0, .slice none 0 0, .string ⟨#[]⟩, .pointer none, .int .i64 n, .int .i64 0] 166)).cell? ⟨t, 0, none⟩ = some (.map (some bn)) := (World.cell?_alloc_lt _ _ _ (by simp; omega)).trans t0
  have u2 : (w2.alloc (.cells #[.int .u8 2, .int .i64 2, .int .i64 0, .slice none 0 0, .string ⟨#[]⟩, .pointer none, .int .i64 n, .int .i64 0] 166)).cell? ⟨t, 2, none⟩ = some (.map (some be)) := (World.cell?_alloc_lt _ _ _ (by simp; omega)).trans t2
  have M1 := Go.Lib.hid m1
  have M2 := Go.Lib.hid m2
  have F1 := Go.Lib.hid f1
  have Z1 := Go.Lib.hid z1
  have H2 := Go.Lib.hid hT2
  clear m1 m2 f1 z1 hT2 e0 e1 e2 e3 e4 b1 hl t0 t2
  go_region
  have fx := F1.out
  have hbn := H.out.olt bn (by rw [H.out.on]; simp)
  have hbe := H.out.olt be (by rw [H.out.oe]; simp)
  have kx := fx.heap ((alloc_old _ (heap_lt HK2.out)).trans HK2.out) (by omega)
  have x0 := cell_of kx 0 rfl
  have ky := fx.heap (alloc_new w2 _) (by omega)
  have L1 := make_lay1 H2.out HF.out HF1.out M1.out M2.out fx
  have hDn := dNew_any wd
  obtain ⟨β1, hβ⟩ : ∃ b, b = fun m => if m = k then w2.heap.size else β m := ⟨_, rfl⟩
  rw [← hβ] at L1
  have hY : β1 k = w2.heap.size := by rw [hβ]; exact if_pos rfl
  have hylt := heap_lt ky
  have HL1 := Go.Lib.hid L1
  have HY := Go.Lib.hid hY
  have HDN := Go.Lib.hid hDn
  have HKY := Go.Lib.hid ky
  have HLK := Go.Lib.hid (p := ∀ W own, TreeLay W own β1 t bn bs be (B + 1) (T.add k (emptyDir n)) → _) (fun W own L => tlinks_keep L (by omega) hn (get_mk H.out.sort HF.out HX.out).1 (more := 1) ⟨by dsimp only; omega, by dsimp only; omega⟩ (by omega) (.inl (by dsimp only; omega)))
  have hP1 : ((T.add k (emptyDir n)).lnk n 1).namesOf n = T.namesOf n := by
    unfold Tr.namesOf; rw [(get_mk H.out.sort HF.out HX.out).2, HX.out]; rfl
  have hP2 : ((T.add k (emptyDir n)).lnk n 1).dirE n = 0 := by
    have := Tr.open_ok HVE.out
    obtain ⟨y, hy, hy2, _⟩ := this
    rw [HX.out] at hy; cases hy
    unfold Tr.dirE; rw [(get_mk H.out.sort HF.out HX.out).2]; exact if_pos hy2
  have HPT := Go.Lib.hid (p := ∀ W own, TreeLay W own β1 t bn bs be (B + 1 + 1) ((T.add k (emptyDir n)).lnk n 1) → _) (fun W own L => tput_any L (dirs_mk hD H.out.sort k n) hn hs hP2 (v := k) (by omega) (fun d hda => by rw [hP1] at hda ⊢; exact HP0.out _ _ d _ hda (by omega)))
  clear L1 hY hβ hDn kx fx ky hbn hbe u0 u2 r1 r2 r3 r4 hP1 hP2
  go_wp2_with (first
    | (go_at_call 61; refine HDN.out.mono ?_; rintro e w5 ⟨d, rfl, hb5, hle5, hd5⟩; have ky5 := (hb5.block _ hylt).trans HKY.out; have y5 := cell_of ky5 5 rfl; have g5 := free_of ky5 5; have HL2 := Go.Lib.hid (make_lay2 HL1.out H.out.sort HY.out hb5 hd5); have HB5 := Go.Lib.hid hb5; clear hb5 hle5 hd5 ky5)
    | (go_at_call 99; refine (HLK.out _ _ HL2.out).mono ?_; rintro e w6 ⟨rfl, hf6, hz6, hl6⟩; have F6 := Go.Lib.hid hf6; have Z6 := Go.Lib.hid hz6; have L6 := Go.Lib.hid hl6; clear hf6 hz6 hl6)
    | (go_at_call 102; refine (HPT.out _ _ L6.out).mono ?_; rintro e w7 ⟨rfl, hst⟩; have ST := Go.Lib.hid hst; clear hst))
  go_ret2
  have b3 := HB3.out
  have f1 := F1.out
  have b5 := HB5.out
  have f6 := F6.out
  have z6 := Z6.out
  obtain ⟨f7, own', ho7, l7⟩ := ST.out
  have s3 := b3.size
  have s1 := Z1.out
  have s5 := b5.size
  simp at z6
  have hown : ∀ j, j < w.heap.size → (if wd.heap.size ≤ j ∧ j < w5.heap.size then some (Tag.dir k) else if j = w2.heap.size then some (Tag.node k) else own j) ≠ none → own j ≠ none := by
    intro j hj hne
    rw [if_neg (by omega), if_neg (by omega)] at hne
    exact hne
  have hmaps : ∀ j, (j = bn ∨ j = be) → own j ≠ none := by
    intro j e
    rcases e with rfl | rfl
    · rw [H.out.on]; simp
    · rw [H.out.oe]; simp
  have fA : Fr (fun j => own j ≠ none) w wd := ((Fr.of_below_all b3 _).trans (Fr.alloc _ _ _)).trans (f1.mono fun j _ e => hmaps j e)
  have fB : Fr (fun j => own j ≠ none) w (w5.setCell ⟨w2.heap.size, 5, none⟩ (.pointer (some ⟨d, 0, none⟩))) := (fA.trans (Fr.of_below_all b5 _)).trans' (Fr.setCell _ _ _ (F := fun j => j = w2.heap.size) rfl) (fun i hi e => by omega)
  refine ⟨rfl, (fB.trans' f6 hown).trans' f7 hown, own', β1, ?_, ?_⟩
  · intro j hj hne
    exact hown j hj (ho7 j (by omega) hne)
  · unfold Tr.mkdir
    rw [HKK.out]
    exact l7
end
end Go.Proofs.Gab
