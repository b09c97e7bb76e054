/-
  A directory in memory ('DirAt'), and what its methods do to it.
-/
import Derived.Test.YtbkgmhakiboioaaGreatDoorGb1
import Derived.Test.YtbkgmhakiboioaaGreatDoorGbL
import Derived.Deep.OwnRows
namespace Go.Proofs.Gab
open Go.RowKit Go.Maps Go.ChangeMaps Go.Deep

/-! ### the buckets -/
/-- n maps without entries: a row of them in block A; all of it from A on. -/
def Bks (A n k : Nat) (w : World) : Prop :=
  A < w.heap.size ∧ ∃ (cs : Array Value) (bk : Nat → Nat), w.heap[A]? = some (.cells cs 282 (0, 0)) ∧ cs.size = n ∧ (∀ j, j < k → cs[j]? = some (.map (some (bk j)))) ∧
    (∀ j, j < k → MapOf Tryz.prog 9 w (bk j) []) ∧ (∀ j, j < k → A < bk j ∧ bk j < w.heap.size) ∧ (∀ i j, i < k → j < k → bk i = bk j → i = j)
theorem infoM : (Tryz.prog.info? 282).map (fun i => (i.zero, i.size, i.bytes)) = some (some (.map none), 1, 8) := by kernel_rfl
theorem Bks.step {A n k : Nat} {w : World} (h : Bks A n k w) (hk : k < n) : Bks A n (k + 1) ((w.setCell ⟨A, k, none⟩ (.map (some w.heap.size))).alloc (.map #[] 0)) := by
  obtain ⟨hA, cs, bk, h1, h2, h3, h4, h5, h6⟩ := h
  have hA' := set_of h1 k (.map (some w.heap.size))
  have hsz : (w.setCell ⟨A, k, none⟩ (.map (some w.heap.size))).heap.size = w.heap.size := by simp
  refine ⟨by simp; omega, cs.setIfInBounds k (.map (some w.heap.size)), fun j => if j = k then w.heap.size else bk j, (alloc_old _ (by simpa using hA)).trans hA', by simpa using h2, ?_, ?_, ?_, ?_⟩
  · intro j hj
    dsimp only
    by_cases e : j = k
    · subst e; simp [h2, hk]
    · rw [if_neg e, Array.getElem?_setIfInBounds_ne (by omega)]; exact h3 j (by omega)
  · intro j hj
    dsimp only
    by_cases e : j = k
    · subst e; rw [if_pos rfl]
      have := MapOf.made (w.setCell ⟨A, j, none⟩ (.map (some w.heap.size))) Tryz.prog 9
      rw [hsz] at this
      exact this
    · rw [if_neg e]
      have := h5 j (by omega)
      exact ((h4 j (by omega)).kept (set_other (by simp; omega))).kept (alloc_old _ (by simp; omega))
  · intro j hj
    dsimp only
    by_cases e : j = k
    · subst e; rw [if_pos rfl]; simp; omega
    · rw [if_neg e]; have := h5 j (by omega); simp; omega
  · intro i j hi hj
    dsimp only
    by_cases e : i = k <;> by_cases e' : j = k
    · intro _; omega
    · rw [if_pos e, if_neg e']; have := h5 j (by omega); intro; omega
    · rw [if_neg e, if_pos e']; have := h5 i (by omega); intro; omega
    · rw [if_neg e, if_neg e']; exact h6 i j (by omega) (by omega)
theorem Bks.facts {A n k : Nat} {w : World} (h : Bks A n k w) (hk : k < n) : ∃ x, w.cell? ⟨A, k, none⟩ = some x ∧ w.frozen? ⟨A, k, none⟩ = false ∧ (w.alloc (.map #[] 0)).cell? ⟨A, k, none⟩ = some x ∧ (w.alloc (.map #[] 0)).frozen? ⟨A, k, none⟩ = false := by
  obtain ⟨hA, cs, bk, h1, h2, _⟩ := h
  have c0 : w.cell? ⟨A, k, none⟩ = some cs[k] := cell_of h1 k (by simp [h2, hk])
  refine ⟨_, c0, free_of h1 k, ?_, ?_⟩
  · rw [World.cell?_alloc_lt _ _ _ hA]; exact c0
  · rw [World.frozen?_alloc_old _ _ _ (by simp; omega)]; exact free_of h1 k
set_option maxRecDepth 100000 in
theorem buckets_any (n : Nat) (w : World) (h1 : n ≤ 1099511627776) :
    Calls Tryz.prog 140 #[.int .i64 n] w fun e w' => e = .returned (.slice (some ⟨w.heap.size, 0, none⟩) n n) ∧ Below w.heap.size w w' ∧ Bks w.heap.size n n w' := by
  have hmm := @run_makeMap Tryz.prog
  have hmk := run_make_row' (P := Tryz.prog) 267 282 (.map none) 8 Tryz.underlying267 infoM rfl .i64 .i64 n (by omega) (by omega)
  go_enter Tryz.func140, Tryz.ntmps140
  go_wp2
  go_loopw [4, 9] (fun a i wr => ∃ k : Nat, k ≤ n ∧ i = .int .i64 k ∧ Below w.heap.size w wr ∧ Bks w.heap.size n k wr) (fun a i wr => n - (intOf i).toNat)
  case atStart =>
    refine ⟨0, Nat.zero_le _, rfl, (Below.refl _ _).alloc (Nat.le_refl _) _, by simp, _, fun _ => 0, alloc_new _ _, size_madeCells _ _, ?_, ?_, ?_, ?_⟩
    all_goals (intro j; intros; omega)
  case round =>
    obtain ⟨k, hk, rfl, hB, hb⟩ := hrel
    by_cases hlt : k < n
    · have hst := Go.Lib.hid (hb.step hlt)
      have hA := hb.1
      obtain ⟨x, c0, f0, c1, f1⟩ := hb.facts hlt
      have HB := Go.Lib.hid hB
      clear hb hB
      go_wp2
      go_roundw
      case rel => exact ⟨k + 1, by omega, by go_num, (HB.out.setCell (by simp) _).alloc (by simp; omega) _, hst.out⟩
      case measure => simp [intOf]; omega
    · obtain rfl : k = n := by omega
      go_wp2
      go_ret
      exact ⟨rfl, hB, hb⟩

/-! ### a directory -/
def encE (e : ByteArray × Int) : Value × Value := (.string e.1, .int .i64 e.2)
/-- the names of one bucket -/
def inB (nb i : Nat) (l : DL) : DL := l.filter fun e => decide (c16 e.1 % nb = i)
/-- what names and numbers may be -/
def DFit (l : DL) : Prop := ∀ e ∈ l, e.1.size ≤ 32 ∧ 0 ≤ e.2 ∧ e.2 ≤ 65535
structure DirLay (w : World) (O : Nat → Prop) (d B : Nat) (l : DL) (arr nb cap : Nat) (cs : Array Value) (bk : Nat → Nat) : Prop where
  hd : w.heap[d]? = some (.cells #[.slice (some ⟨arr, 0, none⟩) nb cap, .int .i64 (l.length : Nat)] 270 (0, 0))
  ar : w.heap[arr]? = some (.cells cs 282 (0, 0))
  pos : 0 < nb
  nbB : nb ≤ B + 4
  lB : l.length ≤ B
  csz : nb ≤ cs.size
  nbc : nb ≤ cap
  cell : ∀ i, i < nb → cs[i]? = some (.map (some (bk i)))
  map : ∀ i, i < nb → MapOf Tryz.prog 9 w (bk i) ((inB nb i l).map encE)
  inj : ∀ i j, i < nb → j < nb → bk i = bk j → i = j
  od : O d
  oa : O arr
  ob : ∀ i, i < nb → O (bk i)
  olt : ∀ k, O k → k < w.heap.size
  sort : DSort l
  fit : DFit l
/-- In w, with blocks of O alone, d is a directory of the names l. -/
def DirAt (w : World) (O : Nat → Prop) (d B : Nat) (l : DL) : Prop := ∃ arr nb cap cs bk, DirLay w O d B l arr nb cap cs bk

theorem DirLay.frame {w : World} {O : Nat → Prop} {d B : Nat} {l : DL} {arr nb cap : Nat} {cs : Array Value} {bk : Nat → Nat} (h : DirLay w O d B l arr nb cap cs bk) {F : Nat → Prop} {w' : World} (hf : Fr F w w') (hF : ∀ k, O k → ¬ F k) : DirLay w' O d B l arr nb cap cs bk :=
  { h with hd := hf.heap h.hd (hF _ h.od), ar := hf.heap h.ar (hF _ h.oa), map := fun i hi => (h.map i hi).frame hf (hF _ (h.ob i hi)), olt := fun k hk => Nat.lt_of_lt_of_le (h.olt k hk) hf.size }
theorem DirAt.frame {w : World} {O : Nat → Prop} {d B : Nat} {l : DL} (h : DirAt w O d B l) {F : Nat → Prop} {w' : World} (hf : Fr F w w') (hF : ∀ k, O k → ¬ F k) : DirAt w' O d B l := by
  obtain ⟨arr, nb, cap, cs, bk, h⟩ := h
  exact ⟨arr, nb, cap, cs, bk, h.frame hf hF⟩
theorem DirAt.mono {w : World} {O : Nat → Prop} {d B B' : Nat} {l : DL} (h : DirAt w O d B l) (hB : B ≤ B') : DirAt w O d B' l := by
  obtain ⟨arr, nb, cap, cs, bk, h⟩ := h
  exact ⟨arr, nb, cap, cs, bk, { h with nbB := by have := h.nbB; omega, lB := by have := h.lB; omega }⟩
theorem DirAt.wider {w : World} {O O' : Nat → Prop} {d B : Nat} {l : DL} (h : DirAt w O d B l) (hO : ∀ k, O k → O' k) (hlt : ∀ k, O' k → k < w.heap.size) : DirAt w O' d B l := by
  obtain ⟨arr, nb, cap, cs, bk, h⟩ := h
  exact ⟨arr, nb, cap, cs, bk, { h with od := hO _ h.od, oa := hO _ h.oa, ob := fun i hi => hO _ (h.ob i hi), olt := hlt }⟩
theorem DirAt.sort {w : World} {O : Nat → Prop} {d B : Nat} {l : DL} (h : DirAt w O d B l) : DSort l := by
  obtain ⟨arr, nb, cap, cs, bk, h⟩ := h
  exact h.sort
theorem DirAt.fit {w : World} {O : Nat → Prop} {d B : Nat} {l : DL} (h : DirAt w O d B l) : DFit l := by
  obtain ⟨arr, nb, cap, cs, bk, h⟩ := h
  exact h.fit
theorem DirAt.olt {w : World} {O : Nat → Prop} {d B : Nat} {l : DL} (h : DirAt w O d B l) : ∀ k, O k → k < w.heap.size := by
  obtain ⟨arr, nb, cap, cs, bk, h⟩ := h
  exact h.olt
theorem DirAt.od {w : World} {O : Nat → Prop} {d B : Nat} {l : DL} (h : DirAt w O d B l) : O d := by
  obtain ⟨arr, nb, cap, cs, bk, h⟩ := h
  exact h.od
theorem DirAt.len {w : World} {O : Nat → Prop} {d B : Nat} {l : DL} (h : DirAt w O d B l) : l.length ≤ B := by
  obtain ⟨arr, nb, cap, cs, bk, h⟩ := h
  exact h.lB
theorem DirAt.drewN {w : World} {O : Nat → Prop} {d B : Nat} {l : DL} (h : DirAt w O d B l) (n : Nat) : DirAt (w.drewN n) O d B l := h.frame (Fr.drewN w n (fun _ => False)) (fun _ _ => id)

theorem keyS {s : ByteArray} (h : s.size ≤ maxLen) : keyOf Tryz.prog 9 (.string s) = some (.string s.data.toList) := Go.WideMaps.keyOf_string_mk Tryz.underlying9 h
theorem lawS : Keyed Tryz.prog 9 := string_keyed Tryz.underlying9
theorem zeroI (w : World) : (zeroValue 3).run Tryz.prog w = .ok (.int .i64 0) w := by kernel_rfl

/-! ### New, Len, number -/
set_option maxRecDepth 100000 in
theorem dNew_any (w : World) : Calls Tryz.prog 61 #[] w fun e w' => ∃ d, e = .returned (.pointer (some ⟨d, 0, none⟩)) ∧ Below w.heap.size w w' ∧ w.heap.size ≤ d ∧ DirAt w' (fun k => w.heap.size ≤ k ∧ k < w'.heap.size) d 0 [] := by
  have hc := buckets_any 4 w (by omega)
  have HC := Go.Lib.hid hc
  clear hc
  go_enter Tryz.func61, Tryz.ntmps61
  go_wp2_with (go_at_call 140; refine HC.out.mono ?_; rintro e w1 ⟨rfl, hB, hk⟩; have HB := Go.Lib.hid hB; have HK := Go.Lib.hid hk; clear hB hk)
  go_ret
  obtain ⟨hA, cs, bk, h1, h2, h3, h4, h5, h6⟩ := HK.out
  have hB := HB.out
  refine ⟨w1.heap.size, rfl, hB.alloc hB.size _, hB.size, w.heap.size, 4, 4, cs, bk, ?_⟩
  refine ⟨alloc_new _ _, (alloc_old _ hA).trans h1, by omega, by omega, by simp, by omega, by omega, h3, ?_, h6, ?_, ?_, ?_, ?_, by simp [DSort], by simp [DFit]⟩
  · intro i hi; exact (h4 i hi).kept (alloc_old _ (h5 i hi).2)
  · simp; exact hB.size
  · simp; omega
  · intro i hi; have := h5 i hi; simp; omega
  · intro k hk; exact hk.2

theorem mem_bucket {nb : Nat} {l : DL} {s : ByteArray} {v : Int} : ((Value.string s, Value.int .i64 v) ∈ (inB nb (c16 s % nb) l).map encE) ↔ (s, v) ∈ l := by
  simp only [List.mem_map, encE, inB, List.mem_filter, decide_eq_true_eq]
  constructor
  · rintro ⟨⟨k, x⟩, ⟨h1, h2⟩, h3⟩
    simp at h3
    obtain ⟨rfl, rfl⟩ := h3
    exact h1
  · intro h
    exact ⟨(s, v), ⟨h, rfl⟩, rfl⟩
theorem mem_bucket' {nb i : Nat} {l : DL} {s : ByteArray} {v : Value} (h : (Value.string s, v) ∈ (inB nb i l).map encE) : ∃ x, v = .int .i64 x ∧ (s, x) ∈ l := by
  simp only [List.mem_map, encE, inB, List.mem_filter, decide_eq_true_eq] at h
  obtain ⟨⟨k, x⟩, ⟨h1, h2⟩, h3⟩ := h
  simp at h3
  obtain ⟨rfl, rfl⟩ := h3
  exact ⟨x, rfl, h1⟩
/-- the bucket's look-up, in whatever later world in which nothing of O has turned -/
theorem DirLay.look {w : World} {O : Nat → Prop} {d B : Nat} {l : DL} {arr nb cap : Nat} {cs : Array Value} {bk : Nat → Nat} (h : DirLay w O d B l arr nb cap cs bk) {s : ByteArray} (hs : s.size ≤ maxLen) (c : Bool) :
    (Instr.lookup 282 (.map (some (bk (c16 s % nb)))) (.string s) c).run Tryz.prog w = .ok (if c then .tuple #[.int .i64 (dget l s), .bool (dhas l s)] else .int .i64 (dget l s)) w := by
  have hm := h.map (c16 s % nb) (Nat.mod_lt _ h.pos)
  cases hh : dhas l s with
  | true => exact hm.hit lawS Tryz.underlying282 (keyS hs) (mem_bucket.2 (dget_mem h.sort.nodup hh)) c
  | false =>
    rw [dget_miss hh]
    exact hm.miss lawS Tryz.underlying282 (zeroI w) (keyS hs) (fun v hv => by
      obtain ⟨x, _, hx⟩ := mem_bucket' hv
      exact dhas_false hh x hx) c
theorem DirLay.bucket {w : World} {O : Nat → Prop} {d B : Nat} {l : DL} {arr nb cap : Nat} {cs : Array Value} {bk : Nat → Nat} (h : DirLay w O d B l arr nb cap cs bk) (hB : B ≤ 1073741824) {s : ByteArray} (hs : s.size ≤ maxLen) :
    Calls Tryz.prog 171 #[.pointer (some ⟨d, 0, none⟩), .string s] w fun e w' => e = .returned (.map (some (bk (c16 s % nb)))) ∧ ∃ n, w' = w.drewN n := by
  have hlt := Nat.mod_lt (c16 s) h.pos
  exact bucket_any s d arr nb cap (c16 s) (c16 s % nb) (bk (c16 s % nb)) w hs (cell_of h.hd 0 rfl) rfl rfl hlt (by have := h.nbB; omega) (cell_of h.ar _ (h.cell _ hlt))
set_option maxRecDepth 100000 in
theorem dGet_any {w : World} {O : Nat → Prop} {d B : Nat} {l : DL} (h : DirAt w O d B l) (hB : B ≤ 1073741824) {s : ByteArray} (hs : s.size ≤ maxLen) :
    Calls Tryz.prog 103 #[.pointer (some ⟨d, 0, none⟩), .string s] w fun e w' => e = .returned (.tuple #[.int .i64 (dget l s), .bool (dhas l s)]) ∧ ∃ n, w' = w.drewN n := by
  obtain ⟨arr, nb, cap, cs, bk, h⟩ := h
  have hl : ∀ n, (Instr.lookup 282 (.map (some (bk (c16 s % nb)))) (.string s) true).run Tryz.prog (w.drewN n) = .ok (.tuple #[.int .i64 (dget l s), .bool (dhas l s)]) (w.drewN n) :=
    fun n => (h.frame (Fr.drewN w n (fun _ => False)) (fun _ _ => id)).look hs true
  have hb := Go.Lib.hid (h.bucket hB hs)
  clear h
  generalize dget l s = v at *
  generalize dhas l s = b at *
  go_enter Tryz.func103, Tryz.ntmps103
  go_wp2_with (go_at_call 171; refine hb.out.mono ?_; rintro e w1 ⟨rfl, n, rfl⟩)
  go_ret2
  exact ⟨rfl, _, rfl⟩
set_option maxRecDepth 100000 in
theorem dGet_nil (s : ByteArray) (w : World) : Calls Tryz.prog 103 #[.pointer none, .string s] w fun e w' => e = .returned (.tuple #[.int .i64 0, .bool false]) ∧ w = w' := by
  go_enter Tryz.func103, Tryz.ntmps103
  go_wp2
  go_ret2
  exact ⟨rfl, rfl⟩
set_option maxRecDepth 100000 in
theorem dLen_any {w : World} {O : Nat → Prop} {d B : Nat} {l : DL} (h : DirAt w O d B l) : Calls Tryz.prog 107 #[.pointer (some ⟨d, 0, none⟩)] w fun e w' => e = .returned (.int .i64 (l.length : Nat)) ∧ w = w' := by
  obtain ⟨arr, nb, cap, cs, bk, h⟩ := h
  have c1 := cell_of h.hd 1 rfl
  clear h
  go_enter Tryz.func107, Tryz.ntmps107
  go_wp2
  go_ret
  exact ⟨rfl, rfl⟩
set_option maxRecDepth 100000 in
theorem dLen_nil (w : World) : Calls Tryz.prog 107 #[.pointer none] w fun e w' => e = .returned (.int .i64 0) ∧ w = w' := by
  go_enter Tryz.func107, Tryz.ntmps107
  go_wp2
  go_ret
  exact ⟨rfl, rfl⟩
def num16 (n : Int) : Bool := decide (0 ≤ n) && decide (n ≤ 65535)
set_option maxRecDepth 100000 in
theorem dNumber_any (n : Int) (w : World) : Calls Tryz.prog 215 #[.int .i64 n] w fun e w' => e = .returned (.bool (num16 n)) ∧ w = w' := by
  by_cases h0 : 0 ≤ n
  · by_cases h1 : n ≤ 65535
    · have e : num16 n = true := by simp [num16, h0, h1]
      have E := Go.Lib.hid e
      clear e
      go_enter Tryz.func215, Tryz.ntmps215
      go_wp2
      go_ret
      exact ⟨by rw [E.out]; rfl, rfl⟩
    · have e : num16 n = false := by simp [num16, h1]
      have E := Go.Lib.hid e
      clear e
      have h1' : 65535 < n := by omega
      have hd : decide (n ≤ 65535) = false := by simp; omega
      clear h1
      go_enter Tryz.func215, Tryz.ntmps215
      go_wp2
      go_ret
      exact ⟨by rw [E.out]; rfl, rfl⟩
  · have e : num16 n = false := by simp [num16, h0]
    have E := Go.Lib.hid e
    clear e
    have hd : decide (0 ≤ n) = false := by simp; omega
    have h1' : n < 0 := by omega
    clear h0
    go_enter Tryz.func215, Tryz.ntmps215
    go_wp2
    go_ret
    exact ⟨by rw [E.out]; rfl, rfl⟩

/-! ### Drop -/
theorem DirLay.d_ne {w : World} {O : Nat → Prop} {d B : Nat} {l : DL} {arr nb cap : Nat} {cs : Array Value} {bk : Nat → Nat} (h : DirLay w O d B l arr nb cap cs bk) {i : Nat} (hi : i < nb) : bk i ≠ d := (h.map i hi).not_cells h.hd
theorem DirLay.a_ne {w : World} {O : Nat → Prop} {d B : Nat} {l : DL} {arr nb cap : Nat} {cs : Array Value} {bk : Nat → Nat} (h : DirLay w O d B l arr nb cap cs bk) {i : Nat} (hi : i < nb) : bk i ≠ arr := (h.map i hi).not_cells h.ar
theorem DirLay.da {w : World} {O : Nat → Prop} {d B : Nat} {l : DL} {arr nb cap : Nat} {cs : Array Value} {bk : Nat → Nat} (h : DirLay w O d B l arr nb cap cs bk) : d ≠ arr := by
  rintro rfl
  have := h.hd.symm.trans h.ar
  simp at this
theorem nodup_enc {l : DL} (h : (l.map (·.1)).Nodup) : ((l.map encE).map (·.1)).Nodup := by
  rw [List.map_map]
  refine List.pairwise_map.2 ((List.pairwise_map.1 h).imp fun hne e => hne ?_)
  simp [encE] at e; exact e
theorem inB_nodup {l : DL} (h : DSort l) (nb i : Nat) : ((inB nb i l).map (·.1)).Nodup := DSort.nodup (h.filter _)
/-- one bucket and the count have turned -/
theorem DirLay.turn {w w2 : World} {O : Nat → Prop} {d B : Nat} {l l' : DL} {arr nb cap : Nat} {cs : Array Value} {bk : Nat → Nat} (h : DirLay w O d B l arr nb cap cs bk) {s : ByteArray} (hf : Fr (fun k => k = bk (c16 s % nb) ∨ k = d) w w2)
    (hd2 : w2.heap[d]? = some (.cells #[.slice (some ⟨arr, 0, none⟩) nb cap, .int .i64 (l'.length : Nat)] 270 (0, 0)))
    (hm : MapOf Tryz.prog 9 w2 (bk (c16 s % nb)) ((inB nb (c16 s % nb) l').map encE)) (hoth : ∀ e : ByteArray × Int, e.1 ≠ s → (e ∈ l ↔ e ∈ l')) (hs' : DSort l') (hfit : DFit l') {B' : Nat} (hB : B ≤ B') (hlen : l'.length ≤ B') : DirLay w2 O d B' l' arr nb cap cs bk := by
  have hlt := Nat.mod_lt (c16 s) h.pos
  refine { h with hd := hd2, ar := ?_, map := ?_, olt := ?_, sort := hs', fit := hfit, lB := hlen, nbB := by have := h.nbB; omega }
  · exact hf.heap h.ar (fun e => e.elim (h.a_ne hlt).symm h.da.symm)
  · intro i hi
    by_cases e : i = c16 s % nb
    · rw [e]; exact hm
    · have h1 : MapOf Tryz.prog 9 w2 (bk i) ((inB nb i l).map encE) := (h.map i hi).frame hf (fun e' => e'.elim (fun e' => e (h.inj i _ hi hlt e')) (h.d_ne hi))
      refine h1.perm (List.Perm.map _ ?_)
      refine (List.perm_ext_iff_of_nodup ?_ ?_).2 ?_
      · exact (List.pairwise_map.1 (inB_nodup h.sort nb i)).imp fun hne e => hne (by rw [e])
      · exact (List.pairwise_map.1 (inB_nodup hs' nb i)).imp fun hne e => hne (by rw [e])
      · intro x
        simp only [inB, List.mem_filter, decide_eq_true_eq]
        refine ⟨fun ⟨hx, hi'⟩ => ⟨(hoth x ?_).1 hx, hi'⟩, fun ⟨hx, hi'⟩ => ⟨(hoth x ?_).2 hx, hi'⟩⟩ <;> (rintro rfl; exact e hi'.symm)
  · intro k hk; have := h.olt k hk; have := hf.size; omega
theorem bucket_del {l : DL} {nb i : Nat} {s : ByteArray} (p : Value × Value) : p ∈ (inB nb i (ddel l s)).map encE ↔ (p ∈ (inB nb i l).map encE ∧ p.1 ≠ .string s) := by
  simp only [List.mem_map, inB, List.mem_filter, mem_ddel, decide_eq_true_eq]
  constructor
  · rintro ⟨x, ⟨⟨h1, h2⟩, h3⟩, rfl⟩
    exact ⟨⟨x, ⟨h1, h3⟩, rfl⟩, by simpa [encE] using h2⟩
  · rintro ⟨⟨x, ⟨h1, h3⟩, rfl⟩, h2⟩
    exact ⟨x, ⟨⟨h1, by simpa [encE] using h2⟩, h3⟩, rfl⟩
set_option maxRecDepth 100000 in
theorem dDrop_has {w : World} {O : Nat → Prop} {d B : Nat} {l : DL} (h : DirAt w O d B l) (hB : B ≤ 1073741824) {s : ByteArray} (hs : s.size ≤ maxLen) (hh : dhas l s = true) :
    Calls Tryz.prog 169 #[.pointer (some ⟨d, 0, none⟩), .string s] w fun e w' => e = .returned (.int .i64 0) ∧ Fr O w w' ∧ w'.heap.size = w.heap.size ∧ DirAt w' O d B (ddel l s) := by
  obtain ⟨arr, nb, cap, cs, bk, h⟩ := h
  have hlt := Nat.mod_lt (c16 s) h.pos
  have hg := dGet_any ⟨arr, nb, cap, cs, bk, h⟩ hB hs
  rw [hh] at hg
  have hlen := length_ddel_has h.sort hh
  have hB' := h.lB
  have HG := Go.Lib.hid hg
  have HL := Go.Lib.hid (p := ∀ n, Calls Tryz.prog 171 #[.pointer (some ⟨d, 0, none⟩), .string s] (w.drewN n) fun e w' => e = .returned (.map (some (bk (c16 s % nb)))) ∧ ∃ m, w' = (w.drewN n).drewN m) (fun n => (h.frame (Fr.drewN w n (fun _ => False)) (fun _ _ => id)).bucket hB hs)
  have HM := Go.Lib.hid (p := ∀ n, MapOf Tryz.prog 9 (w.drewN n) (bk (c16 s % nb)) ((inB nb (c16 s % nb) l).map encE)) (fun n => (h.frame (Fr.drewN w n (fun _ => False)) (fun _ _ => id)).map _ hlt)
  have hnd := nodup_enc (inB_nodup (ddel_sort h.sort s) nb (c16 s % nb))
  have H := Go.Lib.hid h
  clear hg
  have HN := Go.Lib.hid hlen
  have hc : (l.length : Int) - 1 = ((ddel l s).length : Nat) := by omega
  have hln : (l.length : Nat) ≤ B := hB'
  have HC := Go.Lib.hid hc
  clear hlen hh hc
  have hd1 := h.hd
  have hdne := h.d_ne hlt
  clear h
  generalize hb : bk (c16 s % nb) = b at HL HM hdne
  have Hb := Go.Lib.hid hb
  clear hb
  generalize hll : (inB nb (c16 s % nb) l).map encE = ll at HM
  have Hll := Go.Lib.hid hll
  clear hll
  go_enter Tryz.func169, Tryz.ntmps169
  go_wp2_with (first
    | (go_at_call 103; refine HG.out.mono ?_; rintro e w1 ⟨rfl, n, rfl⟩)
    | (go_at_call 171; refine (HL.out _).mono ?_; rintro e w1 ⟨rfl, m, rfl⟩)
    | (at_delete; refine wpL_drop _ rfl _ _ 282 rfl lawS Tryz.underlying282 b ll ((inB nb (c16 s % nb) (ddel l s)).map encE) rfl (HM.out _) (.string s) _ rfl (keyS hs) (Hll.out ▸ bucket_del) hnd ?_; intro w2 hm2 hf2 hz2; have hd2 := hf2.heap hd1 hdne.symm; have c2 := cell_of hd2 1 rfl; have f2 := free_of hd2 1; clear hd2; have HM2 := Go.Lib.hid hm2; have HF2 := Go.Lib.hid hf2; have HZ2 := Go.Lib.hid hz2; clear hm2 hf2 hz2))
  go_ret
  have hfr : Fr (fun k => k = b) w w2 := ⟨HF2.out.os, HF2.out.tape, HF2.out.output, HF2.out.size, HF2.out.block⟩
  have hd2 := hfr.heap hd1 hdne.symm
  have hfr2 : Fr (fun k => k = b ∨ k = d) w (w2.setCell ⟨d, 1, none⟩ (.int .i64 ((l.length : Int) - 1))) := (hfr.mono fun _ _ e => .inl e).trans (Fr.setCell _ _ _ (.inr rfl))
  refine ⟨rfl, ?_, by simp; exact HZ2.out, arr, nb, cap, cs, bk, H.out.turn (s := s) (Hb.out.symm ▸ hfr2) ?_ ?_ ?_ (ddel_sort H.out.sort s) ?_ (Nat.le_refl _) ?_⟩
  · refine hfr2.mono fun k _ e => ?_
    rcases e with rfl | rfl
    · rw [← Hb.out]; exact H.out.ob _ hlt
    · exact H.out.od
  · have := set_of hd2 1 (.int .i64 ((l.length : Int) - 1))
    rw [HC.out] at this ⊢
    simpa using this
  · rw [Hb.out]; exact HM2.out.kept (set_other hdne)
  · intro e he; rw [mem_ddel]; exact ⟨fun h => ⟨h, he⟩, fun h => h.1⟩
  · intro e he; exact H.out.fit e (mem_ddel.1 he).1
  · have := HN.out; omega
end Go.Proofs.Gab
