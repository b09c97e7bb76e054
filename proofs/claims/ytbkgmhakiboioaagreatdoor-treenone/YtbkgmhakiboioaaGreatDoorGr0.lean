/-
  A walk over a map ('MRange'): what is left, as a list; 'clear'; the keys' iterator's steps.
-/
import Derived.Test.YtbkgmhakiboioaaGreatDoorGb0
import Derived.Maps.Range
import Derived.Maps.OwnIn
import Derived.RangeFuncNested
import Derived.RangeFuncBound
import Derived.RangeFuncCalls
import Derived.Sort.MapsRangeIn
import Derived.Maps.AppendAt
namespace Go.Proofs.Gab
open Go.RowKit Go.Maps Go.MapKept Go.ChangeMaps

section
variable {P : Program} {kt : TypeId} {w : World} {b it : Nat} {l left : List (Value × Value)}
/-- A walk over the map in block b, its state in block it: 'left' is still to come. -/
def MRange (P : Program) (kt : TypeId) (w : World) (b it : Nat) (l left : List (Value × Value)) : Prop :=
  ∃ es clock since seen c0, w.heap[b]? = some (.map es clock) ∧ Stamped es clock ∧ es.size ≤ maxLen ∧ (∀ x ∈ es.toList, ∃ kl, keyOf P kt x.key = some kl) ∧ (es.toList.map fun x => (x.key, x.val)).Perm l ∧
    w.heap[it]? = some (.mapIter (some b) since seen c0) ∧ (∀ x ∈ es.toList, x.born < since) ∧ since ≤ c0 ∧ since ≤ clock ∧ ((leftOf es seen).toList.map fun x => (x.key, x.val)).Perm left

theorem MRange.mapOf (h : MRange P kt w b it l left) : MapOf P kt w b l := by
  obtain ⟨es, clock, since, seen, c0, hb, s, z, r, q, _⟩ := h
  exact ⟨es, clock, hb, s, z, r, q⟩
theorem MRange.iter (h : MRange P kt w b it l left) : ∃ o : Obj, w.heap[it]? = some o ∧ o.isWalk = true := by
  obtain ⟨es, clock, since, seen, c0, hb, s, z, r, q, hi, _⟩ := h
  exact ⟨_, hi, rfl⟩
theorem MRange.left_eq (h : MRange P kt w b it l left) : w.rangeLeft b it = left.length := by
  obtain ⟨es, clock, since, seen, c0, hb, s, z, r, q, hi, h1, h2, h3, h4⟩ := h
  simp only [World.rangeLeft, hb, hi]
  have := h4.length_eq
  simpa using this
theorem MRange.kept (h : MRange P kt w b it l left) {w' : World} (hb : w'.heap[b]? = w.heap[b]?) (hi : w'.heap[it]? = w.heap[it]?) : MRange P kt w' b it l left := by
  obtain ⟨es, clock, since, seen, c0, hb0, s, z, r, q, hi0, h1⟩ := h
  exact ⟨es, clock, since, seen, c0, hb.trans hb0, s, z, r, q, hi.trans hi0, h1⟩
theorem MRange.walks (h : MRange P kt w b it l left) {w' : World} (hk : KeepsWalks w w') : MRange P kt w' b it l left := by
  obtain ⟨es, clock, since, seen, c0, hb0, s, z, r, q, hi0, h1⟩ := h
  exact ⟨es, clock, since, seen, c0, hk.same b _ hb0 rfl, s, z, r, q, hk.same it _ hi0 rfl, h1⟩
theorem MRange.perm (h : MRange P kt w b it l left) {left' : List (Value × Value)} (hp : left.Perm left') : MRange P kt w b it l left' := by
  obtain ⟨es, clock, since, seen, c0, hb0, s, z, r, q, hi0, h1, h2, h3, h4⟩ := h
  exact ⟨es, clock, since, seen, c0, hb0, s, z, r, q, hi0, h1, h2, h3, h4.trans hp⟩

variable {t e : TypeId}
/-- range m -/
theorem MapOf.range (h : MapOf P kt w b l) (ht : P.underlying t = some (.map kt e)) :
    ∃ w', (Instr.range t (.map (some b))).run P w = .ok (.pointer (some ⟨w.heap.size, 0, none⟩)) w' ∧ MRange P kt w' b w.heap.size l l ∧ w.grownBy w' none ∧ w'.heap.size = w.heap.size + 1 := by
  have hlt := h.lt
  obtain ⟨es, clock, hb, s, z, r, q⟩ := h
  refine ⟨_, run_range_map w t kt e b es clock ht hb, ⟨es, clock, clock, #[], clock, ((MapKept.heap_alloc w _).2 b hlt).trans hb, s, z, r, q, (MapKept.heap_alloc w _).1, s.1, Nat.le_refl _, Nat.le_refl _, ?_⟩, World.grownBy_alloc w _ none, by simp⟩
  have hl : leftOf es #[] = es := Array.filter_eq_self.2 (fun x _ => by simp)
  rw [hl]; exact q
theorem left_pushed (es : Array MapEntry) (seen : Array Nat) (e : MapEntry) (he : e ∈ (leftOf es seen).toList) (hn : (es.toList.map (·.born)).Nodup) :
    (leftOf es seen).toList.Perm (e :: (leftOf es (seen.push e.born)).toList) := by
  have h1 : (leftOf es (seen.push e.born)).toList = (leftOf es seen).toList.filter (fun x => !(x.born == e.born)) := by
    simp only [leftOf, Array.toList_filter, List.filter_filter]
    apply List.filter_congr
    intro x _
    simp only [Array.contains_push]
    cases seen.contains x.born <;> simp [BEq.comm]
  rw [h1]
  have hsub : ((leftOf es seen).toList.map (·.born)).Nodup := by
    refine (List.Sublist.map _ ?_).nodup hn
    simp only [leftOf, Array.toList_filter]
    exact List.filter_sublist
  generalize (leftOf es seen).toList = L at he hsub
  induction L with
  | nil => cases he
  | cons a L ih =>
    simp only [List.map_cons, List.nodup_cons] at hsub
    rcases List.mem_cons.1 he with rfl | he
    · have : L.filter (fun x => !(x.born == e.born)) = L := List.filter_eq_self.2 (fun x hx => by
        have : x.born ≠ e.born := fun e1 => hsub.1 (e1 ▸ List.mem_map.2 ⟨x, hx, rfl⟩)
        simpa using this)
      simp [this]
    · have hne : a.born ≠ e.born := fun e1 => hsub.1 (e1 ▸ List.mem_map.2 ⟨e, he, rfl⟩)
      have hf : (a :: L).filter (fun x => !(x.born == e.born)) = a :: L.filter (fun x => !(x.born == e.born)) := by
        rw [List.filter_cons_of_pos (by simpa using hne)]
      rw [hf]
      exact ((ih he hsub.2).cons a).trans (List.Perm.swap _ _ _)
/-- a step -/
theorem MRange.next (h : MRange P kt w b it l left) (ty : TypeId) :
    (left = [] ∧ (Instr.next (.pointer (some ⟨it, 0, none⟩)) false ty).run P w = .ok (.tuple #[.bool false]) w) ∨
    ∃ key v left' w', left.Perm ((key, v) :: left') ∧ (Instr.next (.pointer (some ⟨it, 0, none⟩)) false ty).run P w = .ok (.tuple #[.bool true, key, v]) w' ∧
      MRange P kt w' b it l left' ∧ w.grownBy w' (some it) ∧ w'.heap.size = w.heap.size ∧ (Instr.entry (.pointer (some ⟨it, 0, none⟩))).run P w' = .ok (.tuple #[key, v]) w' := by
  obtain ⟨es, clock, since, seen, c0, hb, s, z, r, q, hi, h1, h2, h3, h4⟩ := h
  have hne : it ≠ b := by rintro rfl; rw [hb] at hi; cases hi
  rcases run_next_at (P := P) w ty it b since c0 seen es clock hi hb h1 h2 with ⟨h0, hrun⟩ | ⟨e, he, w1, hal, hrun⟩
  · refine .inl ⟨?_, hrun⟩
    have := h4.length_eq
    simp [h0] at this
    exact List.eq_nil_of_length_eq_zero this.symm
  · obtain ⟨hem, hes⟩ := mem_left he
    have hr1 : w1.heap[it]? = some (.mapIter (some b) since seen c0) := by rcases hal with rfl | rfl <;> exact hi
    have hb1 : w1.heap[b]? = some (.map es clock) := by rcases hal with rfl | rfl <;> exact hb
    have hset := heap_set (o' := .mapIter (some b) since (seen.push e.born) clock) hr1
    have hs1 := hset.1
    have hb' : (setBlock w1 it (.mapIter (some b) since (seen.push e.born) clock)).heap[b]? = some (.map es clock) := (hset.2 b (fun e1 => hne e1.symm)).trans hb1
    refine .inr ⟨e.key, e.val, (leftOf es (seen.push e.born)).toList.map (fun x => (x.key, x.val)), _, ?_, hrun, ⟨es, clock, since, seen.push e.born, clock, hb', s, z, r, q, hs1, h1, h3, h3, List.Perm.refl _⟩, ?_, ?_,
      run_entry_at _ it b since seen es clock e hs1 hb' hem ((stamped_iff es clock).1 s).2.1⟩
    · exact h4.symm.trans ((left_pushed es seen e he ((stamped_iff es clock).1 s).2.1).map (fun x => (x.key, x.val)))
    · rcases hal with rfl | rfl <;> exact ⟨rfl, rfl, rfl, by simp [setBlock], fun i _ hi' => hset.2 i (fun e1 => hi' (by rw [e1]))⟩
    · rcases hal with rfl | rfl <;> simp [setBlock]
/-- clear(m) -/
theorem MapOf.clear (h : MapOf P kt w b l) (ht : P.underlying t = some (.map kt e)) (ty : TypeId) :
    ∃ o, (Builtin.clear_ #[t] ty #[.map (some b)]).run P w = .ok (.tuple #[]) (setBlock w b o) ∧ MapOf P kt (setBlock w b o) b [] := by
  obtain ⟨es, clock, hb, s, z, r, q⟩ := h
  refine ⟨.map #[] clock, ?_, #[], clock, heap_setBlock_same hb _, stamped_empty clock, by simp, by simp, by simp⟩
  simp [Builtin.clear_, run_underlying ht, MapKept.run_getObj_map hb, MapKept.run_setObj_map _ hb, Result.andThen, setBlock]
end

/-! ### at the operation -/
section
variable {P : Program} {kt e : TypeId} (w : World) {ops : Array Oper} {rest : List Oper} {o : Oper} {a : Act} {Q : Exit → Act → World → Prop}
theorem wpL_clear (hg : o.guard = none) (m : Operand) (t : TypeId) (hop : o.op = Op.call { callee := Callee.builtin Builtin.clear, args := #[m], argTypes := #[t] }) (ht : P.underlying t = some (.map kt e)) (b : Nat) (l : List (Value × Value))
    (hm : a.eval m = .map (some b)) (h : MapOf P kt w b l)
    (hK : ∀ w', MapOf P kt w' b [] → Fr (fun k => k = b) w w' → w'.heap.size = w.heap.size → wpList P ops Q rest (a.put o.dst (.tuple #[])) w') : wpList P ops Q (o :: rest) a w := by
  refine wpList_plain hg fun K' hK' => ?_
  obtain ⟨ob, hrun, hm'⟩ := h.clear ht o.type
  obtain ⟨es, clock, hb, _⟩ := h
  unfold Oper.wp
  simp [execOp, hop, resolve, invoke, builtin, hm, hrun, Result.andThen]
  exact hK' _ _ (hK _ hm' (Fr.setBlock hb ob rfl) (by simp [ChangeMaps.setBlock]))
variable {F : Fence} {n : Nat}
theorem wpLI_range (hg : o.guard = none) (m : Operand) (t : TypeId) (hop : o.op = Op.range t m) (ht : P.underlying t = some (.map kt e)) (b : Nat) (l : List (Value × Value))
    (hm : a.eval m = .map (some b)) (h : MapOf P kt w b l)
    (hK : ∀ w', MRange P kt w' b w.heap.size l l → w.grownBy w' none → w'.heap.size = w.heap.size + 1 → wpListIn F n P ops Q rest (a.put o.dst (.pointer (some ⟨w.heap.size, 0, none⟩))) w') :
    wpListIn F n P ops Q (o :: rest) a w := by
  refine wpListIn_plain hg fun K' hK' => ?_
  obtain ⟨w', hrun, r1, r2, r3⟩ := h.range ht
  unfold Oper.wpIn
  refine ⟨?_, ?_⟩
  · simp [Oper.about, hop]
  · rw [Oper.semAt_plain F _ _ (by rw [hop]; intro c hc'; cases hc')]
    simp [execOp, hop, hm, hrun, Result.andThen]
    exact hK' _ _ (hK w' r1 r2 r3)
theorem wpLI_next (hg : o.guard = none) (itr : Operand) (hop : o.op = Op.next itr false) (b it : Nat) (l left : List (Value × Value))
    (hit : a.eval itr = .pointer (some ⟨it, 0, none⟩)) (h : MRange P kt w b it l left)
    (hDone : left = [] → wpListIn F n P ops Q rest (a.put o.dst (.tuple #[.bool false])) w)
    (hMore : ∀ key v left' w', left.Perm ((key, v) :: left') → MRange P kt w' b it l left' → w.grownBy w' (some it) → w'.heap.size = w.heap.size →
      (Instr.entry (.pointer (some ⟨it, 0, none⟩))).run P w' = .ok (.tuple #[key, v]) w' → wpListIn F n P ops Q rest (a.put o.dst (.tuple #[.bool true, key, v])) w') :
    wpListIn F n P ops Q (o :: rest) a w := by
  refine wpListIn_plain hg fun K' hK' => ?_
  unfold Oper.wpIn
  refine ⟨by simp [Oper.about, hop], ?_⟩
  rw [Oper.semAt_plain F _ _ (by rw [hop]; intro c hc'; cases hc')]
  rcases h.next o.type with ⟨h0, hrun⟩ | ⟨key, v, left', w', hp, hrun, hrg, hgr, hsz, hen⟩
  · simp [execOp, hop, hit, hrun, Result.andThen]
    exact hK' _ _ (hDone h0)
  · simp [execOp, hop, hit, hrun, Result.andThen]
    exact hK' _ _ (hMore key v left' w' hp hrg hgr hsz hen)
end
end Go.Proofs.Gab
