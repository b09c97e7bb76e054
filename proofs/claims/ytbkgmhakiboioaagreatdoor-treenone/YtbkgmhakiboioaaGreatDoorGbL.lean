/-
  Plain lists: a directory's names, rising, each once ('dput', 'ddel', 'dget'); finite maps over whole numbers, rising ('iput', 'idel', 'iget').
-/
import Derived.Sort.Walk0
namespace Go.Proofs.Gab

/-- a name stands ahead of another one -/
def nlt (a b : ByteArray) : Bool := Op.bytesLess a.toList b.toList

theorem toList_inj {a b : ByteArray} (h : a.toList = b.toList) : a = b := by
  have h1 : a.data.toList = b.data.toList := by simpa [ByteArray.toList_eq] using h
  cases a; cases b; simp at h1; simp [h1]

theorem nlt_iff (a b : ByteArray) : nlt a b = true ↔ a.toList < b.toList := by
  unfold nlt; rw [bytesLess_eq]; simp
theorem nlt_irrefl (a : ByteArray) : nlt a a = false := by
  cases h : nlt a a with
  | false => rfl
  | true => exact absurd ((nlt_iff a a).1 h) (List.lt_irrefl _)
theorem nlt_trans {a b c : ByteArray} (h1 : nlt a b = true) (h2 : nlt b c = true) : nlt a c = true :=
  (nlt_iff a c).2 (List.lt_trans ((nlt_iff a b).1 h1) ((nlt_iff b c).1 h2))
theorem nlt_total {a b : ByteArray} (hne : a ≠ b) : nlt a b = true ∨ nlt b a = true := by
  rw [nlt_iff, nlt_iff]
  rcases Decidable.em (a.toList < b.toList) with h | h
  · exact .inl h
  · refine .inr ?_
    have h' : b.toList ≤ a.toList := List.not_lt.1 h
    rcases List.le_iff_lt_or_eq.1 h' with h'' | h''
    · exact h''
    · exact absurd (toList_inj h''.symm) hne

/-! ### names -/
abbrev DL := List (ByteArray × Int)
def dget? (l : DL) (s : ByteArray) : Option Int := (l.find? (fun e => decide (e.1 = s))).map (·.2)
def dhas (l : DL) (s : ByteArray) : Bool := (dget? l s).isSome
def dget (l : DL) (s : ByteArray) : Int := (dget? l s).getD 0
def dput : DL → ByteArray → Int → DL
  | [], s, v => [(s, v)]
  | (k, x) :: r, s, v => if k = s then (s, v) :: r else if nlt s k = true then (s, v) :: (k, x) :: r else (k, x) :: dput r s v
def ddel (l : DL) (s : ByteArray) : DL := l.filter fun e => decide (e.1 ≠ s)
/-- rising, hence each once -/
def DSort (l : DL) : Prop := l.Pairwise fun a b => nlt a.1 b.1 = true

theorem DSort.nodup {l : DL} (h : DSort l) : (l.map (·.1)).Nodup := by
  refine List.pairwise_map.2 (h.imp fun hab e => ?_)
  rw [e] at hab
  rw [nlt_irrefl] at hab; cases hab

theorem mem_key_inj {α β : Type} {l : List (α × β)} (hn : (l.map (·.1)).Nodup) {k : α} {x y : β} (hx : (k, x) ∈ l) (hy : (k, y) ∈ l) : x = y := by
  induction l with
  | nil => cases hx
  | cons p r ih =>
    simp only [List.map_cons, List.nodup_cons] at hn
    rcases List.mem_cons.1 hx with h1 | h1
    · rcases List.mem_cons.1 hy with h2 | h2
      · rw [← h1] at h2; cases h2; rfl
      · subst h1; exact absurd (List.mem_map.2 ⟨(k, y), h2, rfl⟩) hn.1
    · rcases List.mem_cons.1 hy with h2 | h2
      · subst h2; exact absurd (List.mem_map.2 ⟨(k, x), h1, rfl⟩) hn.1
      · exact ih hn.2 h1 h2

theorem dget?_some {l : DL} (hn : (l.map (·.1)).Nodup) {s : ByteArray} {v : Int} : dget? l s = some v ↔ (s, v) ∈ l := by
  unfold dget?
  constructor
  · intro h
    simp only [Option.map_eq_some_iff] at h
    obtain ⟨e, he, rfl⟩ := h
    have h1 := List.find?_some he
    have h2 := List.mem_of_find?_eq_some he
    simp at h1; subst h1; exact h2
  · intro h
    cases hf : l.find? (fun e => decide (e.1 = s)) with
    | none =>
      have := List.find?_eq_none.1 hf _ h
      simp at this
    | some e =>
      have h1 := List.find?_some hf
      have h2 := List.mem_of_find?_eq_some hf
      simp at h1; subst h1
      simp [mem_key_inj hn h2 h]
theorem dget?_none {l : DL} {s : ByteArray} : dget? l s = none ↔ ∀ v, (s, v) ∉ l := by
  unfold dget?
  simp only [Option.map_eq_none_iff, List.find?_eq_none]
  constructor
  · intro h v hv
    have := h _ hv
    simp at this
  · intro h e he
    simp only [decide_eq_true_eq]
    rintro rfl
    exact h e.2 he

theorem mem_dput {l : DL} (h : DSort l) {s : ByteArray} {v : Int} {p : ByteArray × Int} : p ∈ dput l s v ↔ p = (s, v) ∨ (p.1 ≠ s ∧ p ∈ l) := by
  induction l with
  | nil => simp [dput]
  | cons q r ih =>
    obtain ⟨k, x⟩ := q
    have hr : DSort r := (List.pairwise_cons.1 h).2
    have hk := (List.pairwise_cons.1 h).1
    unfold dput
    by_cases e : k = s
    · subst e
      rw [if_pos rfl]
      simp only [List.mem_cons]
      constructor
      · rintro (rfl | hp)
        · exact .inl rfl
        · refine .inr ⟨?_, .inr hp⟩
          intro e; have := hk p hp; simp only [e] at this; rw [nlt_irrefl] at this; cases this
      · rintro (rfl | ⟨hne, rfl | hp⟩)
        · exact .inl rfl
        · exact absurd rfl hne
        · exact .inr hp
    · rw [if_neg e]
      split
      · rename_i hlt
        simp only [List.mem_cons]
        constructor
        · rintro (rfl | rfl | hp)
          · exact .inl rfl
          · exact .inr ⟨e, .inl rfl⟩
          · refine .inr ⟨?_, .inr hp⟩
            intro e'; have := nlt_trans hlt (hk p hp); rw [e', nlt_irrefl] at this; cases this
        · rintro (rfl | ⟨_, rfl | hp⟩)
          · exact .inl rfl
          · exact .inr (.inl rfl)
          · exact .inr (.inr hp)
      · simp only [List.mem_cons, ih hr]
        constructor
        · rintro (rfl | rfl | ⟨h1, h2⟩)
          · exact .inr ⟨e, .inl rfl⟩
          · exact .inl rfl
          · exact .inr ⟨h1, .inr h2⟩
        · rintro (rfl | ⟨h1, rfl | h2⟩)
          · exact .inr (.inl rfl)
          · exact .inl rfl
          · exact .inr (.inr ⟨h1, h2⟩)
theorem dput_sort {l : DL} (h : DSort l) (s : ByteArray) (v : Int) : DSort (dput l s v) := by
  induction l with
  | nil => simp [dput, DSort]
  | cons q r ih =>
    obtain ⟨k, x⟩ := q
    obtain ⟨hk, hr⟩ := List.pairwise_cons.1 h
    unfold dput
    by_cases e : k = s
    · subst e
      rw [if_pos rfl]
      exact List.pairwise_cons.2 ⟨hk, hr⟩
    · rw [if_neg e]
      split
      · rename_i hlt
        refine List.pairwise_cons.2 ⟨?_, h⟩
        intro p hp
        rcases List.mem_cons.1 hp with rfl | hp
        · exact hlt
        · exact nlt_trans hlt (hk p hp)
      · rename_i hlt
        refine List.pairwise_cons.2 ⟨?_, ih hr⟩
        intro p hp
        rcases (mem_dput hr).1 hp with rfl | ⟨_, hp⟩
        · rcases nlt_total e with h' | h'
          · exact h'
          · exact absurd h' hlt
        · exact hk p hp
theorem ddel_sort {l : DL} (h : DSort l) (s : ByteArray) : DSort (ddel l s) := h.filter _
theorem mem_ddel {l : DL} {s : ByteArray} {p : ByteArray × Int} : p ∈ ddel l s ↔ p ∈ l ∧ p.1 ≠ s := by simp [ddel]
theorem length_dput_has {l : DL} (h : DSort l) {s : ByteArray} (hh : dhas l s = true) (v : Int) : (dput l s v).length = l.length := by
  induction l with
  | nil => simp [dhas, dget?] at hh
  | cons q r ih =>
    obtain ⟨k, x⟩ := q
    obtain ⟨hk, hr⟩ := List.pairwise_cons.1 h
    unfold dput
    by_cases e : k = s
    · rw [if_pos e]; simp
    · rw [if_neg e]
      have hh' : dhas r s = true := by simpa [dhas, dget?, e] using hh
      obtain ⟨y, hy⟩ := Option.isSome_iff_exists.1 hh'
      have hm := (dget?_some (DSort.nodup hr)).1 hy
      have := hk _ hm
      have hn : ¬ nlt s k = true := by
        intro h'; have := nlt_trans h' this; rw [nlt_irrefl] at this; cases this
      rw [if_neg hn]
      simp [ih hr hh']
theorem length_dput_new {l : DL} {s : ByteArray} (hh : dhas l s = false) (v : Int) : (dput l s v).length = l.length + 1 := by
  induction l with
  | nil => simp [dput]
  | cons q r ih =>
    obtain ⟨k, x⟩ := q
    unfold dput
    by_cases e : k = s
    · subst e; simp [dhas, dget?] at hh
    · rw [if_neg e]
      have hh' : dhas r s = false := by simpa [dhas, dget?, e] using hh
      split
      · simp
      · simp [ih hh']
theorem length_ddel_has {l : DL} (h : DSort l) {s : ByteArray} (hh : dhas l s = true) : (ddel l s).length + 1 = l.length := by
  induction l with
  | nil => simp [dhas, dget?] at hh
  | cons q r ih =>
    obtain ⟨k, x⟩ := q
    obtain ⟨hk, hr⟩ := List.pairwise_cons.1 h
    by_cases e : k = s
    · subst e
      have : ddel ((k, x) :: r) k = r := by
        unfold ddel
        rw [List.filter_cons_of_neg (by simp)]
        refine List.filter_eq_self.2 fun p hp => ?_
        simp only [decide_eq_true_eq]
        intro e; have := hk p hp; simp only [e] at this; rw [nlt_irrefl] at this; cases this
      rw [this]; rfl
    · have hh' : dhas r s = true := by simpa [dhas, dget?, e] using hh
      have : ddel ((k, x) :: r) s = (k, x) :: ddel r s := by
        unfold ddel; rw [List.filter_cons_of_pos (by simpa using e)]
      rw [this]
      simp [ih hr hh']

theorem dhas_iff {l : DL} (hn : (l.map (·.1)).Nodup) {s : ByteArray} : dhas l s = true ↔ ∃ v, (s, v) ∈ l := by
  unfold dhas
  rw [Option.isSome_iff_exists]
  exact exists_congr fun v => dget?_some hn
theorem dget_mem {l : DL} (hn : (l.map (·.1)).Nodup) {s : ByteArray} (h : dhas l s = true) : (s, dget l s) ∈ l := by
  obtain ⟨v, hv⟩ := (dhas_iff hn).1 h
  have := (dget?_some hn).2 hv
  unfold dget; rw [this]; exact hv
theorem dhas_false {l : DL} {s : ByteArray} (h : dhas l s = false) (v : Int) : (s, v) ∉ l := by
  have : dget? l s = none := by unfold dhas at h; simpa using h
  exact dget?_none.1 this v
theorem dget_miss {l : DL} {s : ByteArray} (h : dhas l s = false) : dget l s = 0 := by
  have : dget? l s = none := by unfold dhas at h; simpa using h
  unfold dget; rw [this]; rfl

/-! ### finite maps over whole numbers -/
section
variable {α : Type}
abbrev IL (α : Type) := List (Int × α)
def iget? (l : IL α) (n : Int) : Option α := (l.find? (fun e => decide (e.1 = n))).map (·.2)
def ihas (l : IL α) (n : Int) : Bool := (iget? l n).isSome
def iput : IL α → Int → α → IL α
  | [], n, v => [(n, v)]
  | (k, x) :: r, n, v => if k = n then (n, v) :: r else if n < k then (n, v) :: (k, x) :: r else (k, x) :: iput r n v
def idel (l : IL α) (n : Int) : IL α := l.filter fun e => decide (e.1 ≠ n)
def ISort (l : IL α) : Prop := l.Pairwise fun a b => a.1 < b.1
theorem ISort.nodup {l : IL α} (h : ISort l) : (l.map (·.1)).Nodup :=
  List.pairwise_map.2 (h.imp fun hab e => by rw [e] at hab; exact absurd hab (by omega))
theorem iget?_some {l : IL α} (hn : (l.map (·.1)).Nodup) {n : Int} {v : α} : iget? l n = some v ↔ (n, v) ∈ l := by
  unfold iget?
  constructor
  · intro h
    simp only [Option.map_eq_some_iff] at h
    obtain ⟨e, he, rfl⟩ := h
    have h1 := List.find?_some he
    have h2 := List.mem_of_find?_eq_some he
    simp at h1; subst h1; exact h2
  · intro h
    cases hf : l.find? (fun e => decide (e.1 = n)) with
    | none =>
      have := List.find?_eq_none.1 hf _ h
      simp at this
    | some e =>
      have h1 := List.find?_some hf
      have h2 := List.mem_of_find?_eq_some hf
      simp at h1; subst h1
      simp [mem_key_inj hn h2 h]
theorem iget?_none {l : IL α} {n : Int} : iget? l n = none ↔ ∀ v, (n, v) ∉ l := by
  unfold iget?
  simp only [Option.map_eq_none_iff, List.find?_eq_none]
  constructor
  · intro h v hv
    have := h _ hv
    simp at this
  · intro h e he
    simp only [decide_eq_true_eq]
    rintro rfl
    exact h e.2 he
theorem mem_iput {l : IL α} (h : ISort l) {n : Int} {v : α} {p : Int × α} : p ∈ iput l n v ↔ p = (n, v) ∨ (p.1 ≠ n ∧ p ∈ l) := by
  induction l with
  | nil => simp [iput]
  | cons q r ih =>
    obtain ⟨k, x⟩ := q
    have hr : ISort r := (List.pairwise_cons.1 h).2
    have hk := (List.pairwise_cons.1 h).1
    unfold iput
    by_cases e : k = n
    · subst e
      rw [if_pos rfl]
      simp only [List.mem_cons]
      constructor
      · rintro (rfl | hp)
        · exact .inl rfl
        · exact .inr ⟨fun e => by have := hk p hp; simp only [e] at this; omega, .inr hp⟩
      · rintro (rfl | ⟨hne, rfl | hp⟩)
        · exact .inl rfl
        · exact absurd rfl hne
        · exact .inr hp
    · rw [if_neg e]
      split
      · rename_i hlt
        simp only [List.mem_cons]
        constructor
        · rintro (rfl | rfl | hp)
          · exact .inl rfl
          · exact .inr ⟨e, .inl rfl⟩
          · exact .inr ⟨fun e' => by have := hk p hp; simp only at this; omega, .inr hp⟩
        · rintro (rfl | ⟨_, rfl | hp⟩)
          · exact .inl rfl
          · exact .inr (.inl rfl)
          · exact .inr (.inr hp)
      · simp only [List.mem_cons, ih hr]
        constructor
        · rintro (rfl | rfl | ⟨h1, h2⟩)
          · exact .inr ⟨e, .inl rfl⟩
          · exact .inl rfl
          · exact .inr ⟨h1, .inr h2⟩
        · rintro (rfl | ⟨h1, rfl | h2⟩)
          · exact .inr (.inl rfl)
          · exact .inl rfl
          · exact .inr (.inr ⟨h1, h2⟩)
theorem iput_sort {l : IL α} (h : ISort l) (n : Int) (v : α) : ISort (iput l n v) := by
  induction l with
  | nil => simp [iput, ISort]
  | cons q r ih =>
    obtain ⟨k, x⟩ := q
    obtain ⟨hk, hr⟩ := List.pairwise_cons.1 h
    unfold iput
    by_cases e : k = n
    · subst e
      rw [if_pos rfl]
      exact List.pairwise_cons.2 ⟨hk, hr⟩
    · rw [if_neg e]
      split
      · rename_i hlt
        refine List.pairwise_cons.2 ⟨?_, h⟩
        intro p hp
        rcases List.mem_cons.1 hp with rfl | hp
        · exact hlt
        · have := hk p hp; simp only at this ⊢; omega
      · rename_i hlt
        refine List.pairwise_cons.2 ⟨?_, ih hr⟩
        intro p hp
        rcases (mem_iput hr).1 hp with rfl | ⟨_, hp⟩
        · simp only; omega
        · exact hk p hp
theorem idel_sort {l : IL α} (h : ISort l) (n : Int) : ISort (idel l n) := h.filter _
theorem mem_idel {l : IL α} {n : Int} {p : Int × α} : p ∈ idel l n ↔ p ∈ l ∧ p.1 ≠ n := by simp [idel]
theorem iget?_iput {l : IL α} (h : ISort l) (n m : Int) (v : α) : iget? (iput l n v) m = if m = n then some v else iget? l m := by
  split
  · rename_i e; subst e
    exact (iget?_some (iput_sort h _ _).nodup).2 ((mem_iput h).2 (.inl rfl))
  · rename_i e
    cases hg : iget? l m with
    | some x =>
      exact (iget?_some (iput_sort h _ _).nodup).2 ((mem_iput h).2 (.inr ⟨e, (iget?_some h.nodup).1 hg⟩))
    | none =>
      refine iget?_none.2 fun x hx => ?_
      rcases (mem_iput h).1 hx with h1 | ⟨_, h1⟩
      · cases h1; exact e rfl
      · exact iget?_none.1 hg x h1
theorem iget?_idel {l : IL α} (h : ISort l) (n m : Int) : iget? (idel l n) m = if m = n then none else iget? l m := by
  split
  · rename_i e; subst e
    exact iget?_none.2 fun x hx => (mem_idel.1 hx).2 rfl
  · rename_i e
    cases hg : iget? l m with
    | some x => exact (iget?_some (idel_sort h _).nodup).2 (mem_idel.2 ⟨(iget?_some h.nodup).1 hg, e⟩)
    | none => exact iget?_none.2 fun x hx => iget?_none.1 hg x (mem_idel.1 hx).1
end

/-! ### spots, rising -/
def slt (a b : Int × ByteArray) : Bool := decide (a.1 < b.1) || (decide (a.1 = b.1) && nlt a.2 b.2)
def sput : List (Int × ByteArray) → Int × ByteArray → List (Int × ByteArray)
  | [], s => [s]
  | k :: r, s => if k = s then k :: r else if slt s k = true then s :: k :: r else k :: sput r s
theorem mem_sput (l : List (Int × ByteArray)) (s p : Int × ByteArray) : p ∈ sput l s ↔ p = s ∨ p ∈ l := by
  induction l with
  | nil => simp [sput]
  | cons k r ih =>
    unfold sput
    split
    · rename_i e; subst e; simp
    · split
      · simp
      · simp only [List.mem_cons, ih]
        constructor
        · rintro (h | h | h)
          · exact .inr (.inl h)
          · exact .inl h
          · exact .inr (.inr h)
        · rintro (h | h | h)
          · exact .inr (.inl h)
          · exact .inl h
          · exact .inr (.inr h)
theorem length_sput (l : List (Int × ByteArray)) (s : Int × ByteArray) : (sput l s).length ≤ l.length + 1 := by
  induction l with
  | nil => simp [sput]
  | cons k r ih =>
    unfold sput
    split
    · simp
    · split
      · simp
      · simp; omega
theorem length_iput {α : Type} (l : IL α) (n : Int) (v : α) : (iput l n v).length ≤ l.length + 1 := by
  induction l with
  | nil => simp [iput]
  | cons k r ih =>
    obtain ⟨k, x⟩ := k
    unfold iput
    split
    · simp
    · split
      · simp
      · simp; omega
/-- rising spots, each once -/
def SSort (l : List (Int × ByteArray)) : Prop := l.Pairwise fun a b => slt a b = true
theorem slt_irrefl (a : Int × ByteArray) : slt a a = false := by simp [slt, nlt_irrefl]
theorem slt_trans {a b c : Int × ByteArray} (h1 : slt a b = true) (h2 : slt b c = true) : slt a c = true := by
  simp only [slt, Bool.or_eq_true, Bool.and_eq_true, decide_eq_true_eq] at *
  rcases h1 with h1 | ⟨h1, h1'⟩ <;> rcases h2 with h2 | ⟨h2, h2'⟩
  · exact .inl (by omega)
  · exact .inl (by omega)
  · exact .inl (by omega)
  · exact .inr ⟨by omega, nlt_trans h1' h2'⟩
theorem slt_total {a b : Int × ByteArray} (hne : a ≠ b) : slt a b = true ∨ slt b a = true := by
  simp only [slt, Bool.or_eq_true, Bool.and_eq_true, decide_eq_true_eq]
  by_cases h : a.1 = b.1
  · have : a.2 ≠ b.2 := fun e => hne (Prod.ext h e)
    rcases nlt_total this with h' | h'
    · exact .inl (.inr ⟨h, h'⟩)
    · exact .inr (.inr ⟨h.symm, h'⟩)
  · rcases Int.lt_or_lt_of_ne h with h' | h'
    · exact .inl (.inl h')
    · exact .inr (.inl h')
theorem sput_sort {l : List (Int × ByteArray)} (h : SSort l) (s : Int × ByteArray) : SSort (sput l s) := by
  induction l with
  | nil => simp [sput, SSort]
  | cons k r ih =>
    obtain ⟨hk, hr⟩ := List.pairwise_cons.1 h
    unfold sput
    split
    · exact h
    · rename_i e
      split
      · rename_i hlt
        refine List.pairwise_cons.2 ⟨?_, h⟩
        intro p hp
        rcases List.mem_cons.1 hp with rfl | hp
        · exact hlt
        · exact slt_trans hlt (hk p hp)
      · rename_i hlt
        refine List.pairwise_cons.2 ⟨?_, ih hr⟩
        intro p hp
        rcases (mem_sput r s p).1 hp with rfl | hp
        · rcases slt_total e with h' | h'
          · exact h'
          · exact absurd h' hlt
        · exact hk p hp
theorem SSort.nodup {l : List (Int × ByteArray)} (h : SSort l) : l.Nodup := h.imp fun hab e => by rw [e, slt_irrefl] at hab; cases hab
end Go.Proofs.Gab
