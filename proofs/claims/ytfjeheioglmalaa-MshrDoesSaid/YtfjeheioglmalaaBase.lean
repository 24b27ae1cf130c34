/- Words for the proofs over files of misses: a miss as data, a file in memory, what a call may change. No statement of the seat is proved here. -/
import Derived.Test.YtfjeheioglmalaaProg
import Derived.WalkKit
import Derived.Deep.DeepMust
import Derived.Deep.MidRow
import Derived.Deep.DeepFit
import Derived.Lib.Hide
import Derived.BigQuiet
import Derived.Deep.QuietTactic
import Derived.WalkSpells
import Derived.Lib.SliceRun
import Derived.StillTailTactics
import Derived.Maps.AppendAt
import Derived.Deep.RegionWith
namespace Go.Proofs.Ytfjeheioglmalaa
open Go.RowKit

structure Ms where
  line : Int
  kind : Int
  needs : Int
  got : Int
  own : Int
  w0 : Int
  w1 : Int
  w2 : Int
  w3 : Int
  w4 : Int
  w5 : Int
  w6 : Int
  w7 : Int
  granted : Bool
  owes : Bool
  deriving DecidableEq, Inhabited

def Ms.cells (m : Ms) : List Value := [.int .i64 m.line, .int .i64 m.kind, .int .i64 m.needs, .int .i64 m.got, .int .i64 m.own, .int .i64 m.w0, .int .i64 m.w1, .int .i64 m.w2, .int .i64 m.w3, .int .i64 m.w4, .int .i64 m.w5, .int .i64 m.w6, .int .i64 m.w7, .bool m.granted, .bool m.owes]
def Ms.val (m : Ms) : Value := .agg m.cells.toArray
def Ms.zero : Ms := ⟨0, 0, 0, 0, 0, 0, 0, 0, 0, 0, 0, 0, 0, false, false⟩
theorem Ms.len (m : Ms) : m.cells.length = 15 := rfl
theorem Ms.one (m : Ms) : ∀ u ∈ m.cells, u.oneCell' = true := by
  intro u hu
  simp only [Ms.cells, List.mem_cons, List.not_mem_nil, or_false] at hu
  rcases hu with rfl | rfl | rfl | rfl | rfl | rfl | rfl | rfl | rfl | rfl | rfl | rfl | rfl | rfl | rfl <;> rfl

theorem Try.size34 : (Try.prog.info? 34).map (·.size) = some 15 := by kernel_rfl
theorem Try.cells34 : Try.prog.cellsOf 34 = 15 := by kernel_rfl
theorem Try.info34 : (Try.prog.info? 34).map (fun i => (i.zero, i.size, i.bytes)) = some (some Ms.zero.val, 15, 112) := by kernel_rfl
theorem Try.info39 : (Try.prog.info? 39).map (fun i => (i.zero, i.size, i.bytes)) = some (some Ms.zero.val, 15, 112) := by kernel_rfl
theorem Try.size39 : (Try.prog.info? 39).map (·.size) = some 15 := by kernel_rfl
theorem Try.cells39 : Try.prog.cellsOf 39 = 15 := by kernel_rfl

/-! ### Lists of rows of one length -/
theorem flat_length {α : Type} (l : List α) (f : α → List Value) (s : Nat) (hf : ∀ a, (f a).length = s) : (l.flatMap f).length = l.length * s := by
  induction l with
  | nil => simp
  | cons a l ih => rw [List.flatMap_cons, List.length_append, ih, hf, List.length_cons, Nat.succ_mul]; omega
theorem flat_get {α : Type} (l : List α) (f : α → List Value) (s : Nat) (hf : ∀ a, (f a).length = s) (i j : Nat) (a : α) (ha : l[i]? = some a) (hj : j < s) :
    (l.flatMap f)[i * s + j]? = (f a)[j]? := by
  induction l generalizing i with
  | nil => simp at ha
  | cons b l ih =>
    rw [List.flatMap_cons]
    cases i with
    | zero =>
      simp only [List.getElem?_cons_zero, Option.some.injEq] at ha
      subst ha
      rw [Nat.zero_mul, Nat.zero_add, List.getElem?_append_left (by rw [hf]; exact hj)]
    | succ i =>
      simp only [List.getElem?_cons_succ] at ha
      have e : (i + 1) * s + j - s = i * s + j := by rw [Nat.succ_mul]; omega
      rw [List.getElem?_append_right (by rw [hf, Nat.succ_mul]; omega), hf, e]
      exact ih i ha
theorem flat_set {α : Type} (l : List α) (f : α → List Value) (s : Nat) (hf : ∀ a, (f a).length = s) (i j : Nat) (a a' : α) (v : Value) (ha : l[i]? = some a) (hj : j < s) (h : f a' = (f a).set j v) :
    (l.flatMap f).set (i * s + j) v = (l.set i a').flatMap f := by
  induction l generalizing i with
  | nil => simp at ha
  | cons b l ih =>
    rw [List.flatMap_cons]
    cases i with
    | zero =>
      simp only [List.getElem?_cons_zero, Option.some.injEq] at ha
      subst ha
      rw [Nat.zero_mul, Nat.zero_add, List.set_append_left _ _ (by rw [hf]; exact hj), List.set_cons_zero, List.flatMap_cons, h]
    | succ i =>
      simp only [List.getElem?_cons_succ] at ha
      have e : (i + 1) * s + j - s = i * s + j := by rw [Nat.succ_mul]; omega
      rw [List.set_append_right _ _ (by rw [hf, Nat.succ_mul]; omega), hf, e, List.set_cons_succ, List.flatMap_cons, ih i ha]
theorem findIdx_none {α : Type} (l : List α) (p : α → Bool) (h : ∀ j, j < l.length → ∀ m, l[j]? = some m → p m = false) : l.findIdx? p = none := by
  rw [List.findIdx?_eq_none_iff]
  intro x hx
  obtain ⟨j, hj⟩ := List.getElem?_of_mem hx
  exact h j (List.getElem?_eq_some_iff.1 hj).1 x hj
theorem findIdx_some {α : Type} (l : List α) (p : α → Bool) (k : Nat) (a : α) (ha : l[k]? = some a) (hp : p a = true) (h : ∀ j, j < k → ∀ m, l[j]? = some m → p m = false) : l.findIdx? p = some k := by
  obtain ⟨hk, rfl⟩ := List.getElem?_eq_some_iff.1 ha
  rw [List.findIdx?_eq_some_iff_getElem]
  exact ⟨hk, hp, fun j hj => by rw [h j hj _ (List.getElem?_eq_getElem _)]; simp⟩
theorem ret_int {k : IntKind} {a b : Int} (h : a = b) : Ending.returned (.int k a) = .returned (.int k b) := by rw [h]

theorem findIdx_set {α : Type} (l : List α) (p : α → Bool) (i : Nat) (a b : α) (ha : l[i]? = some a) (hp : p b = p a) : (l.set i b).findIdx? p = l.findIdx? p := by
  induction l generalizing i with
  | nil => rfl
  | cons c l ih =>
    cases i with
    | zero =>
      simp only [List.getElem?_cons_zero, Option.some.injEq] at ha
      subst ha
      rw [List.set_cons_zero, List.findIdx?_cons, List.findIdx?_cons, hp]
    | succ i =>
      simp only [List.getElem?_cons_succ] at ha
      rw [List.set_cons_succ, List.findIdx?_cons, List.findIdx?_cons, ih i ha]
/-- The first place of a miss that is so, or -1. -/
def place (l : List Ms) (p : Ms → Bool) : Int := match l.findIdx? p with | some i => (i : Int) | none => -1
theorem place_some {l : List Ms} {p : Ms → Bool} {i : Nat} (h : l.findIdx? p = some i) : place l p = i := by unfold place; rw [h]
theorem place_none {l : List Ms} {p : Ms → Bool} (h : l.findIdx? p = none) : place l p = -1 := by unfold place; rw [h]
theorem findIdx_get {α : Type} {l : List α} {p : α → Bool} {i : Nat} (h : l.findIdx? p = some i) : ∃ m, l[i]? = some m ∧ p m = true := by
  obtain ⟨hi, hp, _⟩ := List.findIdx?_eq_some_iff_getElem.1 h
  exact ⟨_, List.getElem?_eq_getElem hi, hp⟩

/-! ### What a call may change: the blocks of E, and new ones -/
structure Chg (E : Nat → Prop) (w w' : World) : Prop where
  os : w'.os = w.os
  tape : w'.tape = w.tape
  output : w'.output = w.output
  size : w.heap.size ≤ w'.heap.size
  block : ∀ k, k < w.heap.size → ¬ E k → w'.heap[k]? = w.heap[k]?
theorem Chg.refl (E : Nat → Prop) (w : World) : Chg E w w := ⟨rfl, rfl, rfl, Nat.le_refl _, fun _ _ _ => rfl⟩
theorem Chg.trans {E E' : Nat → Prop} {a b c : World} (h : Chg E a b) (k : Chg E' b c) (he : ∀ i, i < a.heap.size → E' i → E i) : Chg E a c :=
  ⟨k.os.trans h.os, k.tape.trans h.tape, k.output.trans h.output, Nat.le_trans h.size k.size, fun i hi hn =>
    (k.block i (Nat.lt_of_lt_of_le hi h.size) (fun e => hn (he i hi e))).trans (h.block i hi hn)⟩
theorem Chg.mono {E E' : Nat → Prop} {a b : World} (h : Chg E a b) (he : ∀ i, i < a.heap.size → E i → E' i) : Chg E' a b :=
  ⟨h.os, h.tape, h.output, h.size, fun i hi hn => h.block i hi (fun e => hn (he i hi e))⟩
theorem Chg.of_below {E : Nat → Prop} {a b : World} (h : Below a.heap.size a b) : Chg E a b := ⟨h.os, h.tape, h.output, h.size, fun i hi _ => h.block i hi⟩
theorem Chg.below {E : Nat → Prop} {a b : World} {B : Nat} (h : Chg E a b) (hB : B ≤ a.heap.size) (he : ∀ i, i < B → ¬ E i) : Below B a b :=
  ⟨h.os, h.tape, h.output, h.size, fun i hi => h.block i (by omega) (he i hi)⟩
theorem Chg.then_below {E : Nat → Prop} {a b c : World} (h : Chg E a b) (k : Below b.heap.size b c) : Chg E a c := h.trans (Chg.of_below (E := E) k) (fun _ _ e => e)
theorem Chg.setCell {E : Nat → Prop} {a b : World} (h : Chg E a b) {p : Addr} (hp : E p.block) (u : Value) : Chg E a (b.setCell p u) :=
  ⟨h.os, h.tape, h.output, by simpa [World.setCell] using h.size, fun i hi hn => (Below.heap_setCell b p u i (fun e => hn (e ▸ hp))).trans (h.block i hi hn)⟩
theorem Chg.alloc {E : Nat → Prop} {a b : World} (h : Chg E a b) (o : Obj) : Chg E a (b.alloc o) :=
  h.then_below ((Below.refl _ _).alloc (Nat.le_refl _) o)
theorem Chg.drew {E : Nat → Prop} {a b : World} (h : Chg E a b) : Chg E a b.drew := ⟨h.os, h.tape, h.output, h.size, h.block⟩
theorem Chg.grown {E : Nat → Prop} {a b c : World} {row : Option Nat} (h : Chg E a b) (hg : b.grownBy c row) (hr : ∀ k, row = some k → E k) : Chg E a c :=
  ⟨hg.os.trans h.os, hg.tape.trans h.tape, hg.output.trans h.output, Nat.le_trans h.size hg.size, fun i hi hn =>
    (hg.block i (Nat.lt_of_lt_of_le hi h.size) (fun e => hn (hr i e.symm))).trans (h.block i hi hn)⟩
theorem grow_trans {a b c : World} (h : Below a.heap.size a b) (k : Below b.heap.size b c) : Below a.heap.size a c := h.trans (k.mono h.size)

theorem below_drawn {B : Nat} {a w : World} (h : Below B a w) (n : Nat) : Below B a (w.drewN n) := ⟨h.os, h.tape, h.output, h.size, h.block⟩
theorem chg_drawn {E : Nat → Prop} {a w : World} (h : Chg E a w) (n : Nat) : Chg E a (w.drewN n) := ⟨h.os, h.tape, h.output, h.size, h.block⟩
/-! ### Ranges of cells -/
theorem range_below {w w' : World} {B g o : Nat} {cs : List Value} (h : w.rangeAt g o cs) (hb : Below B w w') (hg : g < B) : w'.rangeAt g o cs := by
  intro j v hv
  rw [hb.cell (p := ⟨g, o + j, none⟩) hg]
  exact h j v hv
theorem range_elem {w : World} {g : Nat} {l : List Ms} (h : w.rangeAt g 0 (l.flatMap Ms.cells)) (k : Nat) (m : Ms) (hm : l[k]? = some m) : w.rangeAt g (k * 15) m.cells := by
  intro j v hv
  have hj : j < 15 := by have := (List.getElem?_eq_some_iff.1 hv).1; rwa [Ms.len] at this
  have := h (k * 15 + j) v (by rw [flat_get l Ms.cells 15 Ms.len k j m hm hj]; exact hv)
  rwa [Nat.zero_add] at this
theorem range_at {w : World} {g o : Nat} {cs : List Value} (h : w.rangeAt g o cs) (j : Nat) (v : Value) (hj : cs[j]? = some v) : w.cell? ⟨g, o + j, none⟩ = some v := h j v hj

/-! ### A file in memory: the struct's block fb (type ft), the row of misses (element type mt) -/
structure FileIs (w : World) (ft mt B fb : Nat) (sv : Value) (room : Int) (l : List Ms) : Prop where
  head : w.heap[fb]? = some (.cells #[.int .i64 room, sv] ft (0, 0))
  row : w.ownsRow B mt 15 sv l.length (l.flatMap Ms.cells)
  base : B ≤ fb
  apart : ft ≠ mt
def own (fb : Nat) (sv : Value) : Nat → Prop := fun k => k = fb ∨ sv.ownBlock = some k
theorem FileIs.lt {w : World} {ft mt B fb : Nat} {sv : Value} {room : Int} {l : List Ms} (h : FileIs w ft mt B fb sv room l) : fb < w.heap.size := (Array.getElem?_eq_some_iff.1 h.head).1
theorem FileIs.own_lt {w : World} {ft mt B fb : Nat} {sv : Value} {room : Int} {l : List Ms} (h : FileIs w ft mt B fb sv room l) {k : Nat} (hk : own fb sv k) : B ≤ k ∧ k < w.heap.size := by
  rcases hk with rfl | hk
  · exact ⟨h.base, h.lt⟩
  · exact h.row.lt k hk
/-- A file is as it was where none of its blocks changed. -/
theorem FileIs.keep {w w' : World} {ft mt B fb : Nat} {sv : Value} {room : Int} {l : List Ms} (h : FileIs w ft mt B fb sv room l) {E : Nat → Prop} (hc : Chg E w w') (hn : ∀ k, own fb sv k → ¬ E k) : FileIs w' ft mt B fb sv room l := by
  refine ⟨(hc.block fb h.lt (hn fb (.inl rfl))).trans h.head, ?_, h.base, h.apart⟩
  obtain ⟨h1, h2⟩ := h.row
  refine ⟨h1, ?_⟩
  rcases h2 with h2 | ⟨g, cap, cur, rfl, hb, hg, rest⟩
  · exact .inl h2
  · exact .inr ⟨g, cap, cur, rfl, hb, (hc.block g (Array.getElem?_eq_some_iff.1 hg).1 (hn g (.inr rfl))).trans hg, rest⟩
theorem FileIs.below {w w' : World} {ft mt B fb : Nat} {sv : Value} {room : Int} {l : List Ms} (h : FileIs w ft mt B fb sv room l) (hb : Below w.heap.size w w') : FileIs w' ft mt B fb sv room l :=
  h.keep (Chg.of_below (E := fun _ => False) hb) (fun _ _ => id)
/-- The row's blocks are of another type than another file's. -/
theorem FileIs.types {w : World} {ft mt B fb : Nat} {sv : Value} {room : Int} {l : List Ms} (h : FileIs w ft mt B fb sv room l) {k : Nat} (hk : own fb sv k) : ∃ c t f, w.heap[k]? = some (.cells c t f) ∧ (t = ft ∨ t = mt) := by
  rcases hk with rfl | hk
  · exact ⟨_, _, _, h.head, .inl rfl⟩
  · rcases h.row.2 with ⟨rfl, _⟩ | ⟨g, cap, cur, rfl, _, hg, _⟩
    · simp [Value.ownBlock] at hk
    · simp [Value.ownBlock] at hk
      subst hk
      exact ⟨_, _, _, hg, .inr rfl⟩
theorem FileIs.other {w : World} {ft mt B fb ft' mt' B' fb' : Nat} {sv sv' : Value} {room room' : Int} {l l' : List Ms} (h : FileIs w ft mt B fb sv room l) (h' : FileIs w ft' mt' B' fb' sv' room' l')
    (h1 : ft ≠ ft') (h2 : ft ≠ mt') (h3 : mt ≠ ft') (h4 : mt ≠ mt') : ∀ k, own fb sv k → ¬ own fb' sv' k := by
  intro k hk hk'
  obtain ⟨c, t, f, e, ht⟩ := h.types hk
  obtain ⟨c', t', f', e', ht'⟩ := h'.types hk'
  rw [e] at e'
  injection e' with e'
  injection e' with _ e'
  subst e'
  rcases ht with rfl | rfl <;> rcases ht' with h | h <;> contradiction
theorem FileIs.form {w : World} {ft mt B fb : Nat} {sv : Value} {room : Int} {l : List Ms} (h : FileIs w ft mt B fb sv room l) (hl : 0 < l.length) : ∃ g c, sv = .slice (some ⟨g, 0, none⟩) l.length c := by
  rcases h.row.2 with ⟨_, h0⟩ | ⟨g, cap, cur, rfl, _⟩
  · omega
  · exact ⟨g, cap, rfl⟩
section
variable {w : World} {ft mt B fb g n c : Nat} {room : Int} {l : List Ms}
theorem FileIs.head0 {sv : Value} (h : FileIs w ft mt B fb sv room l) : w.cell? ⟨fb, 0, none⟩ = some (.int .i64 room) := by rw [cell_of_row w fb 0 _ _ _ h.head]; rfl
theorem FileIs.head1 {sv : Value} (h : FileIs w ft mt B fb sv room l) : w.cell? ⟨fb, 1, none⟩ = some sv := by rw [cell_of_row w fb 1 _ _ _ h.head]; rfl
theorem FileIs.free {sv : Value} (h : FileIs w ft mt B fb sv room l) (j : Nat) : w.frozen? ⟨fb, j, none⟩ = false := frozen_of_row w fb j _ _ h.head
theorem FileIs.len (h : FileIs w ft mt B fb (.slice (some ⟨g, 0, none⟩) n c) room l) : n = l.length := by
  rcases h.row.2 with ⟨h0, _⟩ | ⟨g', cap, cur, hv, _⟩
  · cases h0
  · injection hv
theorem FileIs.range (h : FileIs w ft mt B fb (.slice (some ⟨g, 0, none⟩) n c) room l) : w.rangeAt g 0 (l.flatMap Ms.cells) := by
  intro j v hv
  have := h.row.cells (g := g) rfl j v hv
  rwa [Addr.add_mid] at this
theorem FileIs.elem (h : FileIs w ft mt B fb (.slice (some ⟨g, 0, none⟩) n c) room l) {i : Nat} {m : Ms} (hm : l[i]? = some m) : w.rangeAt g (i * 15) m.cells := range_elem h.range i m hm
theorem FileIs.block (h : FileIs w ft mt B fb (.slice (some ⟨g, 0, none⟩) n c) room l) : ∃ cur, w.heap[g]? = some (.cells cur mt (0, 0)) ∧ cur.size = c * 15 ∧ cur.toList.take (n * 15) = l.flatMap Ms.cells ∧ n ≤ c ∧ c ≤ maxLen ∧ B ≤ g := by
  rcases h.row.2 with ⟨h0, _⟩ | ⟨g', cap, cur, hv, hb, hh, hnc, hcm, hcs, ht⟩
  · cases h0
  · injection hv with e1 e2 e3
    injection e1 with e1
    injection e1 with e1
    subst e1
    subst e2
    subst e3
    exact ⟨cur, hh, hcs, ht, hnc, hcm, hb⟩
theorem FileIs.rowFree (h : FileIs w ft mt B fb (.slice (some ⟨g, 0, none⟩) n c) room l) (j : Nat) : w.frozen? ⟨g, j, none⟩ = false := by
  obtain ⟨cur, hh, _⟩ := h.block
  exact frozen_of_row w g j _ _ hh
theorem FileIs.row_lt (h : FileIs w ft mt B fb (.slice (some ⟨g, 0, none⟩) n c) room l) : g < w.heap.size := by
  obtain ⟨cur, hh, _⟩ := h.block
  exact (Array.getElem?_eq_some_iff.1 hh).1
theorem FileIs.ne (h : FileIs w ft mt B fb (.slice (some ⟨g, 0, none⟩) n c) room l) : fb ≠ g := by
  obtain ⟨cur, hh, _⟩ := h.block
  rintro rfl
  have := h.head
  rw [hh] at this
  injection this with this
  injection this with _ this
  exact h.apart this.symm
/-- One cell of one miss is written. -/
theorem FileIs.set (h : FileIs w ft mt B fb (.slice (some ⟨g, 0, none⟩) n c) room l) {i j : Nat} {m m' : Ms} {v : Value} (hm : l[i]? = some m) (hj : j < 15) (hv : m'.cells = m.cells.set j v) :
    FileIs (w.setCell ⟨g, i * 15 + j, none⟩ v) ft mt B fb (.slice (some ⟨g, 0, none⟩) n c) room (l.set i m') := by
  obtain ⟨cur, hh, hcs, ht, hnc, hcm, hb⟩ := h.block
  have hi : i < l.length := (List.getElem?_eq_some_iff.1 hm).1
  have hn := h.len
  have hlt : i * 15 + j < n * 15 := by rw [hn]; have := Nat.mul_le_mul_right 15 (show i + 1 ≤ l.length from hi); rw [Nat.succ_mul] at this; omega
  refine ⟨(Below.heap_setCell w _ v fb h.ne).trans h.head, ⟨?_, .inr ⟨g, c, cur.setIfInBounds (i * 15 + j) v, by rw [List.length_set, ← hn], hb, ?_, by rw [List.length_set, ← hn]; exact hnc, hcm, by rw [Array.size_setIfInBounds]; exact hcs, ?_⟩⟩, h.base, h.apart⟩
  · exact flat_length _ _ _ Ms.len
  · exact heap_setCell_same w g _ cur mt v hh
  · rw [List.length_set, ← hn, ← flat_set l Ms.cells 15 Ms.len i j m m' v hm hj hv, ← ht, Array.toList_setIfInBounds, List.take_set]
end

/-! ### Boxes: a struct of its own block, written and read whole -/
section
variable {P : Program}
theorem wpList_store_box {ops : Array Oper} {rest : List Oper} {o : Oper} {a : Act} {w : World} {Q : Exit → Act → World → Prop} (hgd : o.guard = none) (ty : TypeId) (x y : Operand) (ho : o.op = .store ty x y)
    (g : Nat) (cells : Array Value) (hx : a.eval x = .pointer (some ⟨g, 0, none⟩)) (hy : a.eval y = .agg cells)
    (t : TypeId) (old : Array Value) (hg : w.heap[g]? = some (.cells old t (0, 0))) (hi : (P.info? ty).map (·.size) = some cells.size)
    (hold : old.size = cells.size) (h1 : cells.all (·.oneCell') = true)
    (h : ∀ w2, w2.heap[g]? = some (.cells cells t (0, 0)) → Chg (· = g) w w2 → wpList P ops Q rest (a.put o.dst undef) w2) : wpList P ops Q (o :: rest) a w :=
  wpList_store_row hgd ty x y ho g cells hx hy t old hg hi hold h1
    (h _ (setRow_heap w g old cells t _ hg) ⟨rfl, rfl, rfl, by rw [size_setRow]; exact Nat.le_refl _, fun k _ hk => setRow_other w g k cells hk⟩)
theorem results_cell_tmp {fn : Func} {p q : Tmp} {ty : TypeId} (h : fn.results = #[.cell p ty, .tmp q]) (tmps : Array Value) (w : World) (g : Nat) (t : TypeId) (cs : Array Value) (fr : Nat × Nat) (d : TypeDesc)
    (hp : tmps.getD p undef = .pointer (some ⟨g, 0, none⟩)) (hg : w.heap[g]? = some (.cells cs t fr))
    (hu : P.underlying ty = some d) (hd : (match d with | .struct _ | .array _ _ => true | _ => false) = true) (hi : (P.info? ty).map (·.size) = some cs.size) :
    (results fn tmps).run P w = .ok (.tuple #[.agg cs, tmps.getD q undef]) w := by
  have hp' : tmps[p]?.getD undef = .pointer (some ⟨g, 0, none⟩) := by simpa using hp
  simp [results, h, hp', asAddr, run_loadVar_row w g t ty cs fr d hg hu hd hi]
theorem ret_cell_tmp {fn : Func} {p q : Tmp} {ty : TypeId} (h : fn.results = #[.cell p ty, .tmp q]) {R : Ending → World → Prop} {a : Act} {w : World} (g : Nat) (t : TypeId) (cs : Array Value) (fr : Nat × Nat) (d : TypeDesc) (u : Value)
    (hp : a.tmps.getD p undef = .pointer (some ⟨g, 0, none⟩)) (hq : a.tmps.getD q undef = u) (hg : w.heap[g]? = some (.cells cs t fr))
    (hu : P.underlying ty = some d) (hd : (match d with | .struct _ | .array _ _ => true | _ => false) = true) (hi : (P.info? ty).map (·.size) = some cs.size)
    (hda : a.defers = []) (hR : R (.returned (.tuple #[.agg cs, u])) w) : bodyPost P fn R .ret a w :=
  ⟨hda, _, results_cell_tmp h a.tmps w g t cs fr d hp hg hu hd hi, by rw [hq]; exact hR⟩
end
theorem box_kept {w w' : World} {o : Obj} (hb : Below (w.alloc o).heap.size (w.alloc o) w') : w'.heap[w.heap.size]? = some o :=
  (hb.block w.heap.size (by simp)).trans (heap_alloc_new w o)
theorem Ms.all (m : Ms) : m.cells.toArray.all (·.oneCell') = true := by
  simp [Ms.cells, Value.oneCell']

theorem FileIs.setAgain {w : World} {ft mt B fb g n c : Nat} {room : Int} {l : List Ms} {i j : Nat} {m1 : Ms} (m2 : Ms) {v : Value} (h : FileIs w ft mt B fb (.slice (some ⟨g, 0, none⟩) n c) room (l.set i m1)) (hi : i < l.length) (hj : j < 15) (hv : m2.cells = m1.cells.set j v) :
    FileIs (w.setCell ⟨g, i * 15 + j, none⟩ v) ft mt B fb (.slice (some ⟨g, 0, none⟩) n c) room (l.set i m2) := by
  have := h.set (m := m1) (m' := m2) (i := i) (by simp [hi]) hj hv
  rwa [List.set_set] at this
theorem FileIs.head_grown {w w' : World} {ft mt B fb : Nat} {sv : Value} {room : Int} {l : List Ms} (h : FileIs w ft mt B fb sv room l) (hg : w.grownBy w' sv.ownBlock) : w'.heap[fb]? = some (.cells #[.int .i64 room, sv] ft (0, 0)) := by
  have hne : some fb ≠ sv.ownBlock := by
    intro e
    rcases h.row.2 with ⟨rfl, _⟩ | ⟨g, cap, cur, rfl, _, hh, _⟩
    · simp [Value.ownBlock] at e
    · simp [Value.ownBlock] at e
      subst e
      have := h.head
      rw [hh] at this
      injection this with this
      injection this with _ this
      exact h.apart this.symm
  exact (hg.block fb h.lt hne).trans h.head
/-- A new row in the place of the old one: the file behind 'f.l = append(f.l, ..)'. -/
theorem FileIs.renew {w w' : World} {ft mt B fb : Nat} {sv v' : Value} {room : Int} {l l' : List Ms} (h : FileIs w ft mt B fb sv room l) (hg : w.grownBy w' sv.ownBlock) (hr : w'.ownsRow B mt 15 v' l'.length (l'.flatMap Ms.cells)) :
    FileIs (w'.setCell ⟨fb, 1, none⟩ v') ft mt B fb v' room l' := by
  have hh := h.head_grown hg
  refine ⟨heap_setCell_same w' fb 1 _ ft v' hh, ?_, h.base, h.apart⟩
  obtain ⟨h1, h2⟩ := hr
  refine ⟨h1, ?_⟩
  rcases h2 with h2 | ⟨g, cap, cur, rfl, hb, hg2, rest⟩
  · exact .inl h2
  · refine .inr ⟨g, cap, cur, rfl, hb, (Below.heap_setCell w' _ _ g ?_).trans hg2, rest⟩
    rintro rfl
    rw [hg2] at hh
    injection hh with hh
    injection hh with _ hh
    exact h.apart hh.symm
theorem new_plain (w : World) (cs : List Value) (t : TypeId) : ∀ j u, cs[j]? = some u → (w.alloc (.cells cs.toArray t)).cell? ((⟨w.heap.size, 0, none⟩ : Addr).add j) = some u := by
  intro j u hu
  rw [Addr.add_mid, Nat.zero_add, cell_of_row _ w.heap.size j cs.toArray t _ (heap_alloc_new w _)]
  simpa using hu
theorem own_form {w : World} {B e size n : Nat} {v : Value} {xs : List Value} (h : w.ownsRow B e size v n xs) : ∃ A c, v = .slice A n c := by
  rcases h.2 with ⟨rfl, rfl⟩ | ⟨g, cap, cur, rfl, _⟩
  · exact ⟨none, 0, rfl⟩
  · exact ⟨_, cap, rfl⟩
/-- The file holds l' now; none but its own blocks changed; its row lies where it lay, or in a new block. -/
def Did (ft mt B fb : Nat) (sv : Value) (room : Int) (l' : List Ms) (w w' : World) : Prop := ∃ sv', FileIs w' ft mt B fb sv' room l' ∧ Chg (own fb sv) w w' ∧ ∀ k, own fb sv' k → own fb sv k ∨ w.heap.size ≤ k
/-- .. with the same row in the same place. -/
def Kept (ft mt B fb : Nat) (sv : Value) (room : Int) (l' : List Ms) (w w' : World) : Prop := FileIs w' ft mt B fb sv room l' ∧ Chg (own fb sv) w w'
theorem Kept.did {ft mt B fb : Nat} {sv : Value} {room : Int} {l' : List Ms} {w w' : World} (h : Kept ft mt B fb sv room l' w w') : Did ft mt B fb sv room l' w w' := ⟨sv, h.1, h.2, fun _ => .inl⟩
theorem Did.same {w w' : World} {ft mt B fb : Nat} {sv : Value} {room : Int} {l : List Ms} (h : FileIs w ft mt B fb sv room l) (hb : Below w.heap.size w w') : Did ft mt B fb sv room l w w' := ⟨sv, h.below hb, Chg.of_below hb, fun _ => .inl⟩
end Go.Proofs.Ytfjeheioglmalaa
