/-
  A tree in memory ('TreeLay'), what it is ('Tr'), and how the laying stays while other blocks turn.
-/
import Derived.Test.YtbkgmhakiboioaaGreatDoorGtK
namespace Go.Proofs.Gab
open Go.RowKit Go.Maps Go.ChangeMaps Go.Deep

structure Ino where
  kind : Int
  links : Int
  size : Int
  blocks : List (Int × Int)
  target : ByteArray
structure Nd where
  ino : Ino
  dir : Option DL
  up : Int
  pins : Int
structure Tr where
  nodes : IL Nd
  spots : List (Int × ByteArray)
  seen : IL Unit

inductive Tag where
  | head | nodes | spots | seen
  | node (n : Int) | row (n : Int) | dir (n : Int)
  deriving DecidableEq

def flatX (xs : List (Int × Int)) : List Value := xs.flatMap fun p => [Value.int .i64 p.1, Value.int .i64 p.2]
/-- a slice of extents that nothing else writes -/
def RowAt (w : World) (O : Nat → Prop) (v : Value) (xs : List (Int × Int)) : Prop :=
  (xs = [] ∧ (v = .slice none 0 0 ∨ ∃ a c, v = .slice (some a) 0 c)) ∨ (xs ≠ [] ∧ ∃ b cap cs, v = .slice (some ⟨b, 0, none⟩) xs.length cap ∧ w.heap[b]? = some (.cells cs 198 (0, 0)) ∧ cs.toList.take (xs.length * 2) = flatX xs ∧ xs.length ≤ cap ∧ cap ≤ maxLen ∧ cs.size = cap * 2 ∧ O b)
def DirV (w : World) (O : Nat → Prop) (dv : Value) (B : Nat) : Option DL → Prop
  | none => dv = .pointer none
  | some l => ∃ d, dv = .pointer (some ⟨d, 0, none⟩) ∧ DirAt w O d B l
structure NodeLay (w : World) (own : Nat → Option Tag) (n : Int) (b B : Nat) (x : Nd) (bv dv : Value) : Prop where
  cells : w.heap[b]? = some (.cells #[.int .u8 x.ino.kind, .int .i64 x.ino.links, .int .i64 x.ino.size, bv, .string x.ino.target, dv, .int .i64 x.up, .int .i64 x.pins] 166 (0, 0))
  ob : own b = some (.node n)
  row : RowAt w (fun k => own k = some (.row n)) bv x.ino.blocks
  dir : DirV w (fun k => own k = some (.dir n)) dv B x.dir
def encN (β : Int → Nat) (p : Int × Nd) : Value × Value := (.int .i64 p.1, .pointer (some ⟨β p.1, 0, none⟩))
def encS (p : Int × ByteArray) : Value × Value := (.agg #[.int .i64 p.1, .string p.2], .bool true)
def encU (p : Int × Unit) : Value × Value := (.int .i64 p.1, .bool true)
structure TreeLay (w : World) (own : Nat → Option Tag) (β : Int → Nat) (t bn bs be B : Nat) (T : Tr) : Prop where
  head : w.heap[t]? = some (.cells #[.map (some bn), .map (some bs), .map (some be)] 161 (0, 0))
  ot : own t = some .head
  nodes : MapOf Tryz.prog 3 w bn (T.nodes.map (encN β))
  on : own bn = some .nodes
  spots : MapOf Tryz.prog 201 w bs (T.spots.map encS)
  os : own bs = some .spots
  seen : MapOf Tryz.prog 3 w be (T.seen.map encU)
  oe : own be = some .seen
  node : ∀ n x, (n, x) ∈ T.nodes → ∃ bv dv, NodeLay w own n (β n) B x bv dv
  olt : ∀ k, own k ≠ none → k < w.heap.size
  sort : ISort T.nodes
  sortE : ISort T.seen
  sortS : SSort T.spots
  spotsB : T.spots.length ≤ B
  seenB : T.seen.length ≤ B
  keyN : ∀ p ∈ T.nodes, 1 ≤ p.1 ∧ p.1 ≤ 1024

theorem RowAt.frame {w w' : World} {O F : Nat → Prop} {v : Value} {xs : List (Int × Int)} (h : RowAt w O v xs) (hf : Fr F w w') (hF : ∀ k, O k → ¬ F k) : RowAt w' O v xs := by
  rcases h with h | ⟨h0, b, cap, cs, h1, h2, h3⟩
  · exact .inl h
  · exact .inr ⟨h0, b, cap, cs, h1, hf.heap h2 (hF _ h3.2.2.2.2), h3⟩
theorem DirV.frame {w w' : World} {O F : Nat → Prop} {v : Value} {B : Nat} {x : Option DL} (h : DirV w O v B x) (hf : Fr F w w') (hF : ∀ k, O k → ¬ F k) : DirV w' O v B x := by
  cases x with
  | none => exact h
  | some l => obtain ⟨d, h1, h2⟩ := h; exact ⟨d, h1, h2.frame hf hF⟩
theorem NodeLay.frame {w w' : World} {own : Nat → Option Tag} {n : Int} {b B : Nat} {x : Nd} {bv dv : Value} (h : NodeLay w own n b B x bv dv) {F : Nat → Prop} (hf : Fr F w w') (hF : ∀ k, own k = some (.node n) ∨ own k = some (.row n) ∨ own k = some (.dir n) → ¬ F k) : NodeLay w' own n b B x bv dv :=
  ⟨hf.heap h.cells (hF _ (.inl h.ob)), h.ob, h.row.frame hf (fun k hk => hF k (.inr (.inl hk))), h.dir.frame hf (fun k hk => hF k (.inr (.inr hk)))⟩
theorem TreeLay.frame {w w' : World} {own : Nat → Option Tag} {β : Int → Nat} {t bn bs be B : Nat} {T : Tr} (h : TreeLay w own β t bn bs be B T) {F : Nat → Prop} (hf : Fr F w w') (hF : ∀ k, own k ≠ none → ¬ F k) : TreeLay w' own β t bn bs be B T :=
  { h with
    head := hf.heap h.head (hF _ (by rw [h.ot]; simp)), nodes := h.nodes.frame hf (hF _ (by rw [h.on]; simp)), spots := h.spots.frame hf (hF _ (by rw [h.os]; simp)), seen := h.seen.frame hf (hF _ (by rw [h.oe]; simp))
    node := fun n x hx => by
      obtain ⟨bv, dv, hn⟩ := h.node n x hx
      exact ⟨bv, dv, hn.frame hf (fun k hk => hF k (by rcases hk with e | e | e <;> rw [e] <;> simp))⟩
    olt := fun k hk => Nat.lt_of_lt_of_le (h.olt k hk) hf.size }
theorem TreeLay.drewN {w : World} {own : Nat → Option Tag} {β : Int → Nat} {t bn bs be B : Nat} {T : Tr} (h : TreeLay w own β t bn bs be B T) (n : Nat) : TreeLay (w.drewN n) own β t bn bs be B T := h.frame (Fr.drewN w n (fun _ => False)) (fun _ _ => id)
theorem TreeLay.below {w w' : World} {own : Nat → Option Tag} {β : Int → Nat} {t bn bs be B : Nat} {T : Tr} (h : TreeLay w own β t bn bs be B T) (hb : Below w.heap.size w w') : TreeLay w' own β t bn bs be B T := h.frame (Fr.of_below_all hb (fun _ => False)) (fun _ _ => id)

/-! ### what is asked of a tree -/
def Tr.get? (T : Tr) (n : Int) : Option Nd := iget? T.nodes n
def Tr.getE (T : Tr) (n : Int) : Int := match T.get? n with | none => 13 | some _ => 0
def Tr.dirE (T : Tr) (n : Int) : Int := match T.get? n with | none => 13 | some x => if x.ino.kind = 2 then 0 else 16
def Tr.openE (T : Tr) (n : Int) : Int := match T.get? n with | none => 13 | some x => if x.ino.kind = 2 then (if x.ino.links = 0 then 13 else 0) else 16

section
variable {w : World} {own : Nat → Option Tag} {β : Int → Nat} {t bn bs be B : Nat} {T : Tr}
theorem TreeLay.look_some (h : TreeLay w own β t bn bs be B T) {n : Int} {x : Nd} (hn : (Lit.int .i64 n).wf = true) (hx : T.get? n = some x) (c : Bool) :
    (Instr.lookup 157 (.map (some bn)) (.int .i64 n) c).run Tryz.prog w = .ok (if c then .tuple #[.pointer (some ⟨β n, 0, none⟩), .bool true] else .pointer (some ⟨β n, 0, none⟩)) w :=
  h.nodes.hit lawI Tryz.underlying157 (keyI hn) (List.mem_map.2 ⟨(n, x), (iget?_some h.sort.nodup).1 hx, rfl⟩) c
theorem zeroP (w : World) : (zeroValue 162).run Tryz.prog w = .ok (.pointer none) w := by kernel_rfl
theorem TreeLay.look_none (h : TreeLay w own β t bn bs be B T) {n : Int} (hn : (Lit.int .i64 n).wf = true) (hx : T.get? n = none) (c : Bool) :
    (Instr.lookup 157 (.map (some bn)) (.int .i64 n) c).run Tryz.prog w = .ok (if c then .tuple #[.pointer none, .bool false] else .pointer none) w :=
  h.nodes.miss lawI Tryz.underlying157 (zeroP w) (keyI hn) (fun v hv => by
    obtain ⟨⟨m, y⟩, hm, he⟩ := List.mem_map.1 hv
    simp [encN] at he
    obtain ⟨rfl, _⟩ := he
    exact iget?_none.1 hx y hm) c
theorem TreeLay.node' (h : TreeLay w own β t bn bs be B T) {n : Int} {x : Nd} (hx : T.get? n = some x) : ∃ bv dv, NodeLay w own n (β n) B x bv dv := h.node n x ((iget?_some h.sort.nodup).1 hx)

/-! ### get, dir, open -/
set_option maxRecDepth 100000 in
theorem tget_some (h : TreeLay w own β t bn bs be B T) {n : Int} {x : Nd} (hn : (Lit.int .i64 n).wf = true) (hx : T.get? n = some x) :
    Calls Tryz.prog 75 #[.pointer (some ⟨t, 0, none⟩), .int .i64 n] w fun e w' => e = .returned (.tuple #[.pointer (some ⟨β n, 0, none⟩), .int .i64 0]) ∧ w = w' := by
  have hl := h.look_some hn hx true
  have c0 := cell_of h.head 0 rfl
  clear h hx
  go_enter Tryz.func75, Tryz.ntmps75
  go_wp2
  go_ret2
  exact ⟨rfl, rfl⟩
set_option maxRecDepth 100000 in
theorem tget_none (h : TreeLay w own β t bn bs be B T) {n : Int} (hn : (Lit.int .i64 n).wf = true) (hx : T.get? n = none) :
    Calls Tryz.prog 75 #[.pointer (some ⟨t, 0, none⟩), .int .i64 n] w fun e w' => e = .returned (.tuple #[.pointer none, .int .i64 13]) ∧ w = w' := by
  have hl := h.look_none hn hx true
  have c0 := cell_of h.head 0 rfl
  clear h hx
  go_enter Tryz.func75, Tryz.ntmps75
  go_wp2
  go_ret2
  exact ⟨rfl, rfl⟩
end
set_option maxRecDepth 100000 in
theorem tget_nil (n : Int) (w : World) :
    Calls Tryz.prog 75 #[.pointer none, .int .i64 n] w fun e w' => e = .returned (.tuple #[.pointer none, .int .i64 1]) ∧ w = w' := by
  go_enter Tryz.func75, Tryz.ntmps75
  go_wp2
  go_ret2
  exact ⟨rfl, rfl⟩
/-- get, dir, open over a nil tree, or where there is no such inode: an error and no node -/
def NoNode (f : Nat) (E : Int) (tv : Value) (n : Int) (w : World) : Prop := Calls Tryz.prog f #[tv, .int .i64 n] w fun e w' => e = .returned (.tuple #[.pointer none, .int .i64 E]) ∧ w = w'
set_option maxRecDepth 100000 in
theorem tdir_of {tv : Value} {n E : Int} {w : World} (h : NoNode 75 E tv n w) (hE : (E == 0) = false) : NoNode 77 E tv n w := by
  unfold NoNode at *
  have H := Go.Lib.hid h
  clear h
  go_enter Tryz.func77, Tryz.ntmps77
  go_wp2_with (go_at_call 75; refine H.out.mono ?_; rintro e w1 ⟨rfl, rfl⟩)
  go_ret2
  exact ⟨rfl, rfl⟩
set_option maxRecDepth 100000 in
theorem topen_of {tv : Value} {n E : Int} {w : World} (h : NoNode 77 E tv n w) (hE : (E == 0) = false) : NoNode 85 E tv n w := by
  unfold NoNode at *
  have H := Go.Lib.hid h
  clear h
  go_enter Tryz.func85, Tryz.ntmps85
  go_wp2_with (go_at_call 77; refine H.out.mono ?_; rintro e w1 ⟨rfl, rfl⟩)
  go_ret2
  exact ⟨rfl, rfl⟩
end Go.Proofs.Gab
