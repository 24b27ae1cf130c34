/- A state of a law that holds one file; 'awake' answers true. -/
import Derived.Test.YtfjeheioglmalaaEq
namespace Go.Proofs.Ytfjeheioglmalaa
open Go.RowKit

/-- The file l lies in w; below B all is as in W; the blocks of K hold what they held and are not the file's. -/
def St (W : World) (B fb : Nat) (room : Int) (l : List Ms) (K : List (Nat × Obj)) (w : World) : Prop :=
  ∃ sv, FileIs w 60 34 B fb sv room l ∧ Below B W w ∧ ∀ p ∈ K, w.heap[p.1]? = some p.2 ∧ ¬ own fb sv p.1
theorem lt_of_block {w : World} {k : Nat} {o : Obj} (h : w.heap[k]? = some o) : k < w.heap.size := (Array.getElem?_eq_some_iff.1 h).1
theorem St.did {W w w' : World} {B fb : Nat} {sv : Value} {room : Int} {l l' : List Ms} {K : List (Nat × Obj)} (hf : FileIs w 60 34 B fb sv room l) (hb : Below B W w) (hk : ∀ p ∈ K, w.heap[p.1]? = some p.2 ∧ ¬ own fb sv p.1) (hd : Did 60 34 B fb sv room l' w w') : St W B fb room l' K w' := by
  obtain ⟨sv', h1, h2, h3⟩ := hd
  refine ⟨sv', h1, hb.trans (h2.below ?_ ?_), fun p hp => ?_⟩
  · have := hf.base; have := hf.lt; omega
  · intro i hi e
    have := (hf.own_lt e).1
    omega
  · obtain ⟨a, b⟩ := hk p hp
    have hlt := lt_of_block a
    refine ⟨(h2.block p.1 hlt b).trans a, fun e => ?_⟩
    rcases h3 p.1 e with h | h
    · exact b h
    · omega
theorem St.grow {W w w' : World} {B fb : Nat} {room : Int} {l : List Ms} {K : List (Nat × Obj)} (h : St W B fb room l K w) (hb : Below w.heap.size w w') : St W B fb room l K w' := by
  obtain ⟨sv, h1, h2, h3⟩ := h
  exact ⟨sv, h1.below hb, h2.trans (hb.mono (by have := h1.base; have := h1.lt; omega)), fun p hp => ⟨(hb.block p.1 (lt_of_block (h3 p hp).1)).trans (h3 p hp).1, (h3 p hp).2⟩⟩
theorem boxed {w w2 : World} {o : Obj} (h : Chg (· = w.heap.size) (w.alloc o) w2) : Below w.heap.size w w2 :=
  ((Below.refl _ _).alloc (Nat.le_refl _) o).trans (h.below (by simp) (by intro i hi e; omega))
/-- A new box. -/
theorem St.box {W w w2 : World} {B fb : Nat} {room : Int} {l : List Ms} {K : List (Nat × Obj)} {o o' : Obj} (h : St W B fb room l K w) (hc : Chg (· = w.heap.size) (w.alloc o) w2) (ho : w2.heap[w.heap.size]? = some o') : St W B fb room l ((w.heap.size, o') :: K) w2 := by
  obtain ⟨sv, h1, h2, h3⟩ := h.grow (boxed hc)
  refine ⟨sv, h1, h2, fun p hp => ?_⟩
  rcases List.mem_cons.1 hp with rfl | hp
  · refine ⟨ho, fun e => ?_⟩
    obtain ⟨sv0, g1, _⟩ := h
    have hh := h1.head
    rw [(boxed hc).block fb g1.lt, g1.head] at hh
    injection hh with hh
    injection hh with hh
    have e2 : sv0 = sv := by
      have := congrArg (fun a : Array Value => a[1]?) hh
      simpa using this
    subst e2
    have := (g1.own_lt e).2
    exact absurd this (Nat.lt_irrefl _)
  · exact h3 p hp
theorem St.cell {W w : World} {B fb : Nat} {room : Int} {l : List Ms} {K : List (Nat × Obj)} (h : St W B fb room l K w) {g t : Nat} {cs : Array Value} (hk : (g, Obj.cells cs t (0, 0)) ∈ K) (j : Nat) : w.cell? ⟨g, j, none⟩ = cs[j]? := by
  obtain ⟨sv, _, _, h3⟩ := h
  exact cell_of_row w g j cs t _ (h3 _ hk).1
theorem St.block {W w : World} {B fb : Nat} {room : Int} {l : List Ms} {K : List (Nat × Obj)} (h : St W B fb room l K w) {g : Nat} {o : Obj} (hk : (g, o) ∈ K) : w.heap[g]? = some o := by
  obtain ⟨sv, _, _, h3⟩ := h
  exact (h3 _ hk).1
theorem St.below {W w : World} {B fb : Nat} {room : Int} {l : List Ms} {K : List (Nat × Obj)} (h : St W B fb room l K w) : Below B W w := by
  obtain ⟨sv, _, h2, _⟩ := h
  exact h2
section
variable {W w : World} {B fb : Nat} {room : Int} {l : List Ms} {K : List (Nat × Obj)} (hm : l.length ≤ 1000) (h : St W B fb room l K w)
include hm h
theorem St.open_ (line kind : Int) : Calls Try.prog 16 #[.pointer (some ⟨fb, 0, none⟩), .int .i64 line, .int .i64 kind] w fun e w' => e = .returned (.int .i64 (sOpen room l line kind).1) ∧ St W B fb room (sOpen room l line kind).2 K w' := by
  obtain ⟨sv, h1, h2, h3⟩ := h
  exact (open_any w hm h1 line kind (by have := h1.base; have := h1.lt; omega)).mono fun _ _ ⟨a, b⟩ => ⟨a, St.did h1 h2 h3 b⟩
theorem St.data (line acks own : Int) (x : W8) : Calls Try.prog 19 #[.pointer (some ⟨fb, 0, none⟩), .int .i64 line, .int .i64 acks, .int .i64 own, x.val] w fun e w' => e = .returned (.int .i64 (sData l line acks own x).1) ∧ St W B fb room (sData l line acks own x).2 K w' := by
  obtain ⟨sv, h1, h2, h3⟩ := h
  exact (data_any w hm h1 line acks own x).mono fun _ _ ⟨a, b⟩ => ⟨a, St.did h1 h2 h3 b⟩
theorem St.grant (line acks : Int) : Calls Try.prog 18 #[.pointer (some ⟨fb, 0, none⟩), .int .i64 line, .int .i64 acks] w fun e w' => e = .returned (.int .i64 (sGrant l line acks).1) ∧ St W B fb room (sGrant l line acks).2 K w' := by
  obtain ⟨sv, h1, h2, h3⟩ := h
  exact (grant_any w hm h1 line acks).mono fun _ _ ⟨a, b⟩ => ⟨a, St.did h1 h2 h3 b⟩
theorem St.ack (line : Int) (hg : ∀ m ∈ l, 0 ≤ m.got ∧ m.got ≤ 1000) : Calls Try.prog 20 #[.pointer (some ⟨fb, 0, none⟩), .int .i64 line] w fun e w' => e = .returned (.int .i64 (sAck l line).1) ∧ St W B fb room (sAck l line).2 K w' := by
  obtain ⟨sv, h1, h2, h3⟩ := h
  exact (ack_any w hm h1 line hg).mono fun _ _ ⟨a, b⟩ => ⟨a, St.did h1 h2 h3 b⟩
theorem St.owe (line : Int) : Calls Try.prog 17 #[.pointer (some ⟨fb, 0, none⟩), .int .i64 line] w fun e w' => e = .returned (.tuple #[(sOwe l line).1.1.val, .bool (sOwe l line).1.2]) ∧ St W B fb room (sOwe l line).2 K w' := by
  obtain ⟨sv, h1, h2, h3⟩ := h
  exact (owe_any w hm h1 line).mono fun _ _ ⟨a, b⟩ => ⟨a, St.did h1 h2 h3 b⟩
theorem St.close (line : Int) : Calls Try.prog 21 #[.pointer (some ⟨fb, 0, none⟩), .int .i64 line] w fun e w' => e = .returned (.int .i64 (sClose l line).1) ∧ St W B fb room (sClose l line).2 K w' := by
  obtain ⟨sv, h1, h2, h3⟩ := h
  exact (close_any w hm h1 line).mono fun _ _ ⟨a, b⟩ => ⟨a, St.did h1 h2 h3 b⟩
theorem St.get (line : Int) : Calls Try.prog 13 #[.pointer (some ⟨fb, 0, none⟩), .int .i64 line] w fun e w' => e = .returned (.tuple #[(sGet l line).1.val, .bool (sGet l line).2]) ∧ St W B fb room l K w' := by
  have h' := h
  obtain ⟨sv, h1, h2, h3⟩ := h
  exact (get_any w hm h1 line).mono fun _ _ ⟨a, b⟩ => ⟨a, h'.grow b⟩
theorem St.owing : Calls Try.prog 11 #[.pointer (some ⟨fb, 0, none⟩)] w fun e w' => e = .returned (.tuple #[.int .i64 (sOwing l).1, .bool (sOwing l).2]) ∧ St W B fb room l K w' := by
  have h' := h
  obtain ⟨sv, h1, h2, h3⟩ := h
  exact (owing_any w hm h1).mono fun _ _ ⟨a, b⟩ => ⟨a, h'.grow b⟩
theorem St.list : Calls Try.prog 15 #[.pointer (some ⟨fb, 0, none⟩)] w fun e w' => ListPost l w e w' ∧ St W B fb room l K w' := by
  have h' := h
  obtain ⟨sv, h1, h2, h3⟩ := h
  exact (list_any w hm h1).mono fun _ _ a => ⟨a, h'.grow a.choose_spec.2.2⟩
end
theorem St.new (room : Int) (w : World) (h1 : 1 ≤ room) (h2 : room ≤ 8) : Calls Try.prog 7 #[.int .i64 room] w fun e w' => e = .returned (.tuple #[.pointer (some ⟨w.heap.size, 0, none⟩), .int .i64 0]) ∧ St w w.heap.size w.heap.size room [] [] w' :=
  (new_good room w h1 h2).mono fun _ _ ⟨a, b, c⟩ => ⟨a, _, b, c, fun p hp => by cases hp⟩

/-! ### awake -/
def L1 : List Ms := [Ms.new 5 2]
def L2 : List Ms := [{ Ms.new 5 2 with got := 1 }]
def x9 : W8 := (9, 0, 0, 0, 0, 0, 0, 0)
def m3 : Ms := ⟨5, 2, 2, 1, 4, 9, 0, 0, 0, 0, 0, 0, 0, false, false⟩
def m4 : Ms := ⟨5, 2, 2, 2, 4, 9, 0, 0, 0, 0, 0, 0, 0, false, false⟩
def m5 : Ms := ⟨5, 2, 2, 2, 4, 9, 0, 0, 0, 0, 0, 0, 0, false, true⟩
theorem e1 : sOpen 1 [] 5 2 = (0, L1) := by decide
theorem e2 : sOpen 1 L1 6 1 = (4, L1) := by decide
theorem e3 : sAck L1 5 = (0, L2) := by decide
theorem e4 : sData L2 5 2 4 x9 = (0, [m3]) := by decide
theorem e5 : sOwe [m3] 5 = ((Ms.zero, false), [m3]) := by decide
theorem e6 : sAck [m3] 5 = (0, [m4]) := by decide
theorem e7 : sAck [m4] 5 = (7, [m4]) := by decide
theorem e8 : sOwe [m4] 5 = ((m4, true), [m5]) := by decide
theorem e9 : sOwe [m5] 5 = ((Ms.zero, false), [m5]) := by decide
theorem e10 : sOwing [m5] = (5, true) := by decide
theorem e11 : sClose [m5] 5 = (0, []) := by decide
theorem e12 : sGet [] 5 = (Ms.zero, false) := by decide
theorem e13 : sAck [] 5 = (5, []) := by decide
theorem m4_cells : m4.cells = [.int .i64 5, .int .i64 2, .int .i64 2, .int .i64 2, .int .i64 4, .int .i64 9, .int .i64 0, .int .i64 0, .int .i64 0, .int .i64 0, .int .i64 0, .int .i64 0, .int .i64 0, .bool false, .bool false] := rfl
set_option maxHeartbeats 400000 in
set_option maxRecDepth 100000 in
theorem awake_true (w : World) : Calls Try.prog 6 #[] w fun e w' => e = .returned (.bool true) ∧ Below w.heap.size w w' := by
  go_enter Try.func6, Try.ntmps6
  go_wp2_with fail
  refine (St.new 1 w (by decide) (by decide)).mono ?_; rintro e w1 ⟨rfl, h⟩
  have H1 := Lib.hid h; clear h
  go_wp2_with fail
  refine (new_bad 0 _ (by decide)).mono ?_; rintro e w' ⟨rfl, rfl⟩
  go_wp2_with (fail)
  refine (St.open_ (by decide) H1.out 5 2).mono ?_; rw [e1]; rintro e w2 ⟨rfl, h⟩
  have H2 := Lib.hid h; clear h H1
  go_wp2_with (fail)
  refine (St.open_ (by decide) H2.out 6 1).mono ?_; rw [e2]; rintro e w3 ⟨rfl, h⟩
  have H3 := Lib.hid h; clear h H2
  go_wp2_with (fail)
  refine (St.ack (by decide) H3.out 5 (by decide)).mono ?_; rw [e3]; rintro e w4 ⟨rfl, h⟩
  have H4 := Lib.hid h; clear h H3
  go_wp2_with (fail)
  refine (St.data (by decide) H4.out 5 2 4 x9).mono ?_; rw [e4]; rintro e w5 ⟨rfl, h⟩
  have H5 := Lib.hid h; clear h H4
  go_wp2_with (fail)
  refine (St.owe (by decide) H5.out 5).mono ?_; rw [e5]; rintro e w6 ⟨rfl, h⟩
  have H6 := Lib.hid h; clear h H5
  go_wp2_with (refine wpList_store_box rfl 34 (.tmp 9) _ rfl _ Ms.zero.cells.toArray rfl rfl 34 _ (heap_alloc_new w6 _) Try.size34 rfl (Ms.all _) ?_; intro v6 hx hc; have Hb6 := Lib.hid (H6.out.box hc hx); clear hx hc)
  clear H6
  refine (St.ack (by decide) Hb6.out 5 (by decide)).mono ?_; rw [e6]; rintro e w7 ⟨rfl, h⟩
  have H7 := Lib.hid h; clear h Hb6
  go_wp2_with (fail)
  refine (St.ack (by decide) H7.out 5 (by decide)).mono ?_; rw [e7]; rintro e w8 ⟨rfl, h⟩
  have H8 := Lib.hid h; clear h H7
  go_wp2_with (fail)
  refine (St.owe (by decide) H8.out 5).mono ?_; rw [e8]; rintro e w9 ⟨rfl, h⟩
  have H9 := Lib.hid h; clear h H8
  go_wp2_with (refine wpList_store_box rfl 34 (.tmp 13) _ rfl _ m4.cells.toArray rfl rfl 34 _ (heap_alloc_new w9 _) Try.size34 rfl (Ms.all _) ?_; intro v9 hx hc; have Hb9 := Lib.hid (H9.out.box hc hx); clear hx hc)
  clear H9
  refine (St.owe (by decide) Hb9.out 5).mono ?_; rw [e9]; rintro e w10 ⟨rfl, h⟩
  have H10 := Lib.hid h; clear h Hb9
  go_wp2_with (refine wpList_store_box rfl 34 (.tmp 15) _ rfl _ Ms.zero.cells.toArray rfl rfl 34 _ (heap_alloc_new w10 _) Try.size34 rfl (Ms.all _) ?_; intro v10 hx hc; have Hb10 := Lib.hid (H10.out.box hc hx); clear hx hc)
  clear H10
  refine (St.owing (by decide) Hb10.out).mono ?_; rw [e10]; rintro e w11 ⟨rfl, h⟩
  have H11 := Lib.hid h; clear h Hb10
  go_wp2_with (fail)
  refine (St.close (by decide) H11.out 5).mono ?_; rw [e11]; rintro e w12 ⟨rfl, h⟩
  have H12 := Lib.hid h; clear h H11
  go_wp2_with (fail)
  refine (St.get (by decide) H12.out 5).mono ?_; rw [e12]; rintro e w13 ⟨rfl, h⟩
  have H13 := Lib.hid h; clear h H12
  have hb : ∀ v, St w w.heap.size w.heap.size 1 [] [(w13.heap.size, .cells Ms.zero.cells.toArray 34 (0, 0)), (w10.heap.size, .cells Ms.zero.cells.toArray 34 (0, 0)), (w9.heap.size, .cells m4.cells.toArray 34 (0, 0)), (w6.heap.size, .cells Ms.zero.cells.toArray 34 (0, 0))] v → ∀ j, v.cell? ⟨w9.heap.size, j, none⟩ = m4.cells[j]? := by
    intro v hv j
    have := hv.cell (g := w9.heap.size) (t := 34) (cs := m4.cells.toArray) (by simp) j
    simpa using this
  rw [m4_cells] at hb
  have q : ∀ (a0 a1 a2 a3 a4 a5 a6 a7 : Int) (w : World), (Op.equalIn 9999 32 (.agg #[.int .i64 a0, .int .i64 a1, .int .i64 a2, .int .i64 a3, .int .i64 a4, .int .i64 a5, .int .i64 a6, .int .i64 a7]) (.agg #[.int .i64 a0, .int .i64 a1, .int .i64 a2, .int .i64 a3, .int .i64 a4, .int .i64 a5, .int .i64 a6, .int .i64 a7])).run Try.prog w = .ok true w := fun a0 a1 a2 a3 a4 a5 a6 a7 w => equal_w8 9997 a0 a1 a2 a3 a4 a5 a6 a7 w
  have HC := Lib.hid hb; clear hb
  go_wp2_with (first | (refine wpList_store_box rfl 34 (.tmp 20) _ rfl _ Ms.zero.cells.toArray rfl rfl 34 _ (heap_alloc_new w13 _) Try.size34 rfl (Ms.all _) ?_; intro v13 hx hc; have Hb13 := Lib.hid (H13.out.box hc hx); clear hx hc; have c0 := HC.out _ Hb13.out 0; have c1 := HC.out _ Hb13.out 1; have c2 := HC.out _ Hb13.out 2; have c3 := HC.out _ Hb13.out 3; have c4 := HC.out _ Hb13.out 4; have c5 := HC.out _ Hb13.out 5; have c6 := HC.out _ Hb13.out 6; have c7 := HC.out _ Hb13.out 7; have c8 := HC.out _ Hb13.out 8; have c9 := HC.out _ Hb13.out 9; have c10 := HC.out _ Hb13.out 10; have c11 := HC.out _ Hb13.out 11; have c12 := HC.out _ Hb13.out 12; have c13 := HC.out _ Hb13.out 13; have c14 := HC.out _ Hb13.out 14))
  clear c0 c1 c2 c3 c4 c5 c6 c7 c8 c9 c10 c11 c12 c13 c14
  refine (St.ack (by decide) Hb13.out 5 (by decide)).mono ?_; rw [e13]; rintro e w14 ⟨rfl, h⟩
  have H14 := Lib.hid h; clear h Hb13
  go_wp2_with fail
  refine (St.list (by decide) H14.out).mono ?_; rintro e w15 ⟨⟨v, rfl, hv, _⟩, h⟩
  obtain ⟨A, c, hv2⟩ := own_form hv
  have H15 := Lib.hid h
  have HV := Lib.hid hv2
  clear h H14 hv hv2
  rw [HV.out]
  go_wp2_with fail
  go_ret
  exact ⟨rfl, H15.out.below⟩
end Go.Proofs.Ytfjeheioglmalaa
