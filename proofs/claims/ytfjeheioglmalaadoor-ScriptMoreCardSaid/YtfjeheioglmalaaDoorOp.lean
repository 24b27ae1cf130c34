/- The scanner's op. -/
import Derived.Test.YtfjeheioglmalaaDoorRune2
import Derived.Deep.RegionHeld3
namespace Go.Proofs.YtfjeheioglmalaaDoor
open Go.RowKit Go.Lib
set_option linter.unusedVariables false
def OpPost (g : Nat) (w : World) (r : Option PO) (e : Ending) (w' : World) : Prop :=
  ∃ x : PO, ((e = .returned (.tuple #[x.val, .bool true]) ∧ r = some x) ∨ (e = .returned (.tuple #[x.val, .bool false]) ∧ r = none)) ∧ w.grownBy w' (some g)
theorem bcell {W w1 : World} (hb : Below W.heap.size W w1) : (∀ b o, b < W.heap.size → w1.cell? ⟨b, o, none⟩ = W.cell? ⟨b, o, none⟩) ∧ (∀ b o, b < W.heap.size → w1.frozen? ⟨b, o, none⟩ = W.frozen? ⟨b, o, none⟩) :=
  ⟨fun b o h => hb.cell (p := ⟨b, o, none⟩) h, fun b o h => hb.frozen (p := ⟨b, o, none⟩) h⟩
/-- What the scanner's first cells hold. -/
def Three (w : World) (g : Nat) (a b c : Int) : Prop := w.cell? ⟨g, 0, none⟩ = some (.int .i64 a) ∧ w.cell? ⟨g, 1, none⟩ = some (.int .i64 b) ∧ w.cell? ⟨g, 2, none⟩ = some (.int .i64 c)
def Free (w : World) (r : Nat) : Prop := w.frozen? ⟨r, 0, none⟩ = false ∧ w.frozen? ⟨r, 1, none⟩ = false ∧ w.frozen? ⟨r, 2, none⟩ = false
theorem later {W w2 : World} {g r : Nat} {a b c x y z : Int} (hb : Below W.heap.size W w2) (hg : g < W.heap.size) (hr : r < W.heap.size) (h : Three W g a b c) (h' : Three W r x y z) (q : Free W r) : Three w2 g a b c ∧ Three w2 r x y z ∧ Free w2 r := by
  obtain ⟨hc, hf⟩ := bcell hb
  exact ⟨⟨(hc g 0 hg).trans h.1, (hc g 1 hg).trans h.2.1, (hc g 2 hg).trans h.2.2⟩, ⟨(hc r 0 hr).trans h'.1, (hc r 1 hr).trans h'.2.1, (hc r 2 hr).trans h'.2.2⟩, (hf r 0 hr).trans q.1, (hf r 1 hr).trans q.2.1, (hf r 2 hr).trans q.2.2⟩
theorem three_of {w : World} {g : Nat} {s : Sc} (h : ScIs w g s) : Three w g s.k s.a 0 := ⟨h.cells.1, h.cells.2.1, h.cells.2.2.1⟩
theorem box_three {w : World} {r : Nat} {a b c : Int} {t : TypeId} (h : w.heap[r]? = some (.cells #[.int .i64 a, .int .i64 b, .int .i64 c] t (0, 0))) : Three w r a b c ∧ Free w r :=
  ⟨⟨box_cell h 0 rfl, box_cell h 1 rfl, box_cell h 2 rfl⟩, frozen_of_row w r 0 _ _ h, frozen_of_row w r 1 _ _ h, frozen_of_row w r 2 _ _ h⟩
/-- The world in which the last statement begins: the scanner's op is (x, y, z), the result's box is empty. -/
def Last (w : World) (g : Nat) (x y z : Int) (W : World) : Prop := Three W g x y z ∧ Three W w.heap.size 0 0 0 ∧ Free W w.heap.size ∧ w.grownBy W (some g) ∧ w.heap.size < W.heap.size
theorem last1 {w : World} {g : Nat} {k a num dig : Int} {minus value : Bool} (hs : ScIs w g ⟨k, a, num, dig, minus, value⟩) :
    Last w g k num 0 ((w.setCell ⟨g, 1, none⟩ (.int .i64 num)).alloc (.cells #[.int .i64 0, .int .i64 0, .int .i64 0] 33)) := by
  have hg : g < w.heap.size := (Array.getElem?_eq_some_iff.1 hs).1
  have hz : (w.setCell ⟨g, 1, none⟩ (.int .i64 num)).heap.size = w.heap.size := by simp [World.setCell]
  have h1 := heap_setCell_same _ g 1 _ 63 (.int .i64 num) hs
  have h2 := (Below.heap_alloc (w.setCell ⟨g, 1, none⟩ (.int .i64 num)) (.cells #[.int .i64 0, .int .i64 0, .int .i64 0] 33) g (by omega)).trans h1
  have h3 := heap_alloc_new (w.setCell ⟨g, 1, none⟩ (.int .i64 num)) (.cells #[.int .i64 0, .int .i64 0, .int .i64 0] 33)
  rw [hz] at h3
  have h4 := box_three h3
  exact ⟨⟨box_cell h2 0 rfl, box_cell h2 1 rfl, box_cell h2 2 rfl⟩, h4.1, h4.2, (grown_set _ _ _ _).trans (World.grownBy_alloc _ _ _), by simp [World.setCell]⟩
theorem last2 {w : World} {g : Nat} {k a num dig : Int} {minus value : Bool} (hs : ScIs w g ⟨k, a, num, dig, minus, value⟩) (v : Int) :
    Last w g k a v ((w.setCell ⟨g, 2, none⟩ (.int .i64 v)).alloc (.cells #[.int .i64 0, .int .i64 0, .int .i64 0] 33)) := by
  have hg : g < w.heap.size := (Array.getElem?_eq_some_iff.1 hs).1
  have hz : (w.setCell ⟨g, 2, none⟩ (.int .i64 v)).heap.size = w.heap.size := by simp [World.setCell]
  have h1 := heap_setCell_same _ g 2 _ 63 (.int .i64 v) hs
  have h2 := (Below.heap_alloc (w.setCell ⟨g, 2, none⟩ (.int .i64 v)) (.cells #[.int .i64 0, .int .i64 0, .int .i64 0] 33) g (by omega)).trans h1
  have h3 := heap_alloc_new (w.setCell ⟨g, 2, none⟩ (.int .i64 v)) (.cells #[.int .i64 0, .int .i64 0, .int .i64 0] 33)
  rw [hz] at h3
  have h4 := box_three h3
  exact ⟨⟨box_cell h2 0 rfl, box_cell h2 1 rfl, box_cell h2 2 rfl⟩, h4.1, h4.2, (grown_set _ _ _ _).trans (World.grownBy_alloc _ _ _), by simp [World.setCell]⟩
theorem last0 {w : World} {g : Nat} {k a num dig : Int} {minus value : Bool} (hs : ScIs w g ⟨k, a, num, dig, minus, value⟩) :
    Last w g k a 0 (w.alloc (.cells #[.int .i64 0, .int .i64 0, .int .i64 0] 33)) := by
  have hg : g < w.heap.size := (Array.getElem?_eq_some_iff.1 hs).1
  have h1 : (w.alloc (.cells #[.int .i64 0, .int .i64 0, .int .i64 0] 33)).heap[g]? = _ := (Below.heap_alloc w _ g hg).trans hs
  have h3 := box_three (heap_alloc_new w (.cells #[.int .i64 0, .int .i64 0, .int .i64 0] 33))
  exact ⟨⟨box_cell h1 0 rfl, box_cell h1 1 rfl, box_cell h1 2 rfl⟩, h3.1, h3.2, World.grownBy_alloc w _ _, by simp⟩
def cut (x : PO) : Option PO := if x.may then some x else none
theorem op_1 {a num dig : Int} {minus value : Bool} (h : 0 < dig) : Sc.op ⟨1, a, num, dig, minus, value⟩ = cut ⟨1, num, 0⟩ := by
  unfold Sc.op cut
  simp [h]
theorem op_2 {k a num dig : Int} (h1 : ¬ k = 1) (h : 0 < dig) : Sc.op ⟨k, a, num, dig, true, true⟩ = cut ⟨k, a, -num⟩ := by
  unfold Sc.op cut
  simp [h, h1]
theorem op_3 {k a num dig : Int} (h1 : ¬ k = 1) (h : 0 < dig) : Sc.op ⟨k, a, num, dig, false, true⟩ = cut ⟨k, a, num⟩ := by
  unfold Sc.op cut
  simp [h, h1]
theorem op_4 {a num dig : Int} {minus value : Bool} (h : value = false ∨ dig = 0) : Sc.op ⟨4, a, num, dig, minus, value⟩ = cut ⟨4, a, 0⟩ := by
  unfold Sc.op cut
  rcases h with rfl | rfl <;> simp
theorem op_no {k a num dig : Int} {minus value : Bool} (h1 : ¬ (k = 1 ∧ 0 < dig)) (h : value = false ∨ dig = 0) (h4 : k ≠ 4) : Sc.op ⟨k, a, num, dig, minus, value⟩ = none := by
  unfold Sc.op
  rcases h with rfl | rfl <;> simp [h1, h4]
theorem op_post {w w' : World} {g : Nat} {x : PO} {b : Bool} (hb : b = x.may) (h : w.grownBy w' (some g)) : OpPost g w (cut x) (.returned (.tuple #[x.val, .bool b])) w' := by
  subst hb
  refine ⟨x, ?_, h⟩
  unfold cut
  cases hm : x.may
  · exact .inr ⟨rfl, rfl⟩
  · exact .inl ⟨rfl, rfl⟩
theorem op_grown {w W W' w2 : World} {g : Nat} (h : w.grownBy W (some g)) (hd : W'.heap = W.heap) (ho : W'.os = W.os ∧ W'.tape = W.tape ∧ W'.output = W.output) (hr : w.heap.size < W.heap.size) (hb : Below W'.heap.size W' w2) (x y z : Value) :
    w.grownBy (((w2.setCell ⟨w.heap.size, 0, none⟩ x).setCell ⟨w.heap.size, 1, none⟩ y).setCell ⟨w.heap.size, 2, none⟩ z) (some g) := by
  obtain ⟨o1, o2, o3⟩ := ho
  refine ⟨hb.os.trans (o1.trans h.os), hb.tape.trans (o2.trans h.tape), hb.output.trans (o3.trans h.output), ?_, fun k hk hn => ?_⟩
  · have := h.size
    have := hb.size
    rw [hd] at this
    simp [World.setCell]
    omega
  · have h1 := hb.block k (by rw [hd]; omega)
    rw [hd] at h1
    have h2 := h.block k hk hn
    rw [Below.heap_setCell _ _ _ k (by show k ≠ w.heap.size; omega), Below.heap_setCell _ _ _ k (by show k ≠ w.heap.size; omega), Below.heap_setCell _ _ _ k (by show k ≠ w.heap.size; omega), h1, h2]
set_option maxHeartbeats 2000000 in
theorem opw_load {k a num dig : Int} {minus value : Bool} (g : Nat) (w : World) (hs : ScIs w g ⟨1, a, num, dig, minus, value⟩) (hn0 : 0 ≤ num) (hn1 : num ≤ 2147483648) (hd0 : 0 ≤ dig) (hd1 : dig ≤ 5000)  (h : 0 < dig) :
    Calls Tryd.prog 29 #[.pointer (some ⟨g, 0, none⟩)] w (OpPost g w (cut ⟨1, num, 0⟩)) := by
  have hg : g < w.heap.size := (Array.getElem?_eq_some_iff.1 hs).1
  obtain ⟨c0, c1, c2, c3, c4, c5, c6⟩ := hs.cells
  have f1 := hs.free 1
  have f2 := hs.free 2
  have HS := Lib.hid hs
  simp only at c0 c1 c2 c3 c4 c5 c6
  clear hs
  go_enter Tryd.func29, Tryd.ntmps29
  go_wp2_with fail
  have hl := last1 HS.out
  generalize (w.setCell ⟨g, 1, none⟩ (.int .i64 num)).alloc (.cells #[.int .i64 0, .int .i64 0, .int .i64 0] 33) = W1 at hl ⊢
  obtain ⟨⟨g0, g1, g2⟩, ⟨r0, r1, r2⟩, ⟨q0, q1, q2⟩, hgr, hr1⟩ := hl
  have hg1 : g < W1.heap.size := by omega
  have HG := Lib.hid hgr
  clear hgr f1 f2 c0 c1 c2 c3 c4 c5 c6
  go_region_with (go_at_call 16; refine (may_walk ⟨1, num, 0⟩ _).mono ?_; rintro e w2 ⟨rfl, hb⟩; obtain ⟨⟨g0', g1', g2'⟩, ⟨r0', r1', r2'⟩, ⟨q0', q1', q2'⟩⟩ := later (g := g) (r := w.heap.size) hb (by simpa using hg1) (by simpa using hr1) ⟨by simpa using g0, by simpa using g1, by simpa using g2⟩ ⟨by simpa using r0, by simpa using r1, by simpa using r2⟩ ⟨by simpa using q0, by simpa using q1, by simpa using q2⟩; have HB := Lib.hid hb; clear hb)
  all_goals
    go_wp2
    exact bodyPost_ret (v := .tuple #[PO.val ⟨1, num, 0⟩, .bool (PO.may ⟨1, num, 0⟩)]) (by simp [results, Tryd.results29, go_sem, r0', r1', r2', PO.val, PO.arr]) rfl (op_post rfl (op_grown (W' := W1.drew) HG.out rfl ⟨rfl, rfl, rfl⟩ hr1 HB.out _ _ _))
set_option maxHeartbeats 2000000 in
theorem opw_neg {k a num dig : Int} {minus value : Bool} (g : Nat) (w : World) (hs : ScIs w g ⟨k, a, num, dig, true, true⟩) (hn0 : 0 ≤ num) (hn1 : num ≤ 2147483648) (hd0 : 0 ≤ dig) (hd1 : dig ≤ 5000)  (h : 0 < dig) (h1 : ¬ k = 1) :
    Calls Tryd.prog 29 #[.pointer (some ⟨g, 0, none⟩)] w (OpPost g w (cut ⟨k, a, -num⟩)) := by
  have hg : g < w.heap.size := (Array.getElem?_eq_some_iff.1 hs).1
  obtain ⟨c0, c1, c2, c3, c4, c5, c6⟩ := hs.cells
  have f1 := hs.free 1
  have f2 := hs.free 2
  have HS := Lib.hid hs
  simp only at c0 c1 c2 c3 c4 c5 c6
  clear hs
  go_enter Tryd.func29, Tryd.ntmps29
  go_wp2_with fail
  have hl := last2 HS.out (-num)
  generalize (w.setCell ⟨g, 2, none⟩ (.int .i64 (-num))).alloc (.cells #[.int .i64 0, .int .i64 0, .int .i64 0] 33) = W1 at hl ⊢
  obtain ⟨⟨g0, g1, g2⟩, ⟨r0, r1, r2⟩, ⟨q0, q1, q2⟩, hgr, hr1⟩ := hl
  have hg1 : g < W1.heap.size := by omega
  have HG := Lib.hid hgr
  clear hgr f1 f2 c0 c1 c2 c3 c4 c5 c6
  go_region_with (go_at_call 16; refine (may_walk ⟨k, a, -num⟩ _).mono ?_; rintro e w2 ⟨rfl, hb⟩; obtain ⟨⟨g0', g1', g2'⟩, ⟨r0', r1', r2'⟩, ⟨q0', q1', q2'⟩⟩ := later (g := g) (r := w.heap.size) hb (by simpa using hg1) (by simpa using hr1) ⟨by simpa using g0, by simpa using g1, by simpa using g2⟩ ⟨by simpa using r0, by simpa using r1, by simpa using r2⟩ ⟨by simpa using q0, by simpa using q1, by simpa using q2⟩; have HB := Lib.hid hb; clear hb)
  all_goals
    go_wp2
    exact bodyPost_ret (v := .tuple #[PO.val ⟨k, a, -num⟩, .bool (PO.may ⟨k, a, -num⟩)]) (by simp [results, Tryd.results29, go_sem, r0', r1', r2', PO.val, PO.arr]) rfl (op_post rfl (op_grown (W' := W1.drew) HG.out rfl ⟨rfl, rfl, rfl⟩ hr1 HB.out _ _ _))
set_option maxHeartbeats 2000000 in
theorem opw_pos {k a num dig : Int} {minus value : Bool} (g : Nat) (w : World) (hs : ScIs w g ⟨k, a, num, dig, false, true⟩) (hn0 : 0 ≤ num) (hn1 : num ≤ 2147483648) (hd0 : 0 ≤ dig) (hd1 : dig ≤ 5000)  (h : 0 < dig) (h1 : ¬ k = 1) :
    Calls Tryd.prog 29 #[.pointer (some ⟨g, 0, none⟩)] w (OpPost g w (cut ⟨k, a, num⟩)) := by
  have hg : g < w.heap.size := (Array.getElem?_eq_some_iff.1 hs).1
  obtain ⟨c0, c1, c2, c3, c4, c5, c6⟩ := hs.cells
  have f1 := hs.free 1
  have f2 := hs.free 2
  have HS := Lib.hid hs
  simp only at c0 c1 c2 c3 c4 c5 c6
  clear hs
  go_enter Tryd.func29, Tryd.ntmps29
  go_wp2_with fail
  have hl := last2 HS.out num
  generalize (w.setCell ⟨g, 2, none⟩ (.int .i64 num)).alloc (.cells #[.int .i64 0, .int .i64 0, .int .i64 0] 33) = W1 at hl ⊢
  obtain ⟨⟨g0, g1, g2⟩, ⟨r0, r1, r2⟩, ⟨q0, q1, q2⟩, hgr, hr1⟩ := hl
  have hg1 : g < W1.heap.size := by omega
  have HG := Lib.hid hgr
  clear hgr f1 f2 c0 c1 c2 c3 c4 c5 c6
  go_region_with (go_at_call 16; refine (may_walk ⟨k, a, num⟩ _).mono ?_; rintro e w2 ⟨rfl, hb⟩; obtain ⟨⟨g0', g1', g2'⟩, ⟨r0', r1', r2'⟩, ⟨q0', q1', q2'⟩⟩ := later (g := g) (r := w.heap.size) hb (by simpa using hg1) (by simpa using hr1) ⟨by simpa using g0, by simpa using g1, by simpa using g2⟩ ⟨by simpa using r0, by simpa using r1, by simpa using r2⟩ ⟨by simpa using q0, by simpa using q1, by simpa using q2⟩; have HB := Lib.hid hb; clear hb)
  all_goals
    go_wp2
    exact bodyPost_ret (v := .tuple #[PO.val ⟨k, a, num⟩, .bool (PO.may ⟨k, a, num⟩)]) (by simp [results, Tryd.results29, go_sem, r0', r1', r2', PO.val, PO.arr]) rfl (op_post rfl (op_grown (W' := W1.drew) HG.out rfl ⟨rfl, rfl, rfl⟩ hr1 HB.out _ _ _))
set_option maxHeartbeats 2000000 in
theorem op_fence {k a num dig : Int} {minus value : Bool} (g : Nat) (w : World) (hs : ScIs w g ⟨4, a, num, dig, minus, false⟩) (hn0 : 0 ≤ num) (hn1 : num ≤ 2147483648) (hd0 : 0 ≤ dig) (hd1 : dig ≤ 5000) :
    Calls Tryd.prog 29 #[.pointer (some ⟨g, 0, none⟩)] w (OpPost g w (cut ⟨4, a, 0⟩)) := by
  have hg : g < w.heap.size := (Array.getElem?_eq_some_iff.1 hs).1
  obtain ⟨c0, c1, c2, c3, c4, c5, c6⟩ := hs.cells
  have f1 := hs.free 1
  have f2 := hs.free 2
  have HS := Lib.hid hs
  simp only at c0 c1 c2 c3 c4 c5 c6
  clear hs
  go_enter Tryd.func29, Tryd.ntmps29
  go_wp2_with fail
  have hl := last0 HS.out
  generalize w.alloc (.cells #[.int .i64 0, .int .i64 0, .int .i64 0] 33) = W1 at hl ⊢
  obtain ⟨⟨g0, g1, g2⟩, ⟨r0, r1, r2⟩, ⟨q0, q1, q2⟩, hgr, hr1⟩ := hl
  have hg1 : g < W1.heap.size := by omega
  have HG := Lib.hid hgr
  clear hgr f1 f2 c0 c1 c2 c3 c4 c5 c6
  go_region_with (go_at_call 16; refine (may_walk ⟨4, a, 0⟩ _).mono ?_; rintro e w2 ⟨rfl, hb⟩; obtain ⟨⟨g0', g1', g2'⟩, ⟨r0', r1', r2'⟩, ⟨q0', q1', q2'⟩⟩ := later (g := g) (r := w.heap.size) hb (by simpa using hg1) (by simpa using hr1) ⟨by simpa using g0, by simpa using g1, by simpa using g2⟩ ⟨by simpa using r0, by simpa using r1, by simpa using r2⟩ ⟨by simpa using q0, by simpa using q1, by simpa using q2⟩; have HB := Lib.hid hb; clear hb)
  all_goals
    go_wp2
    exact bodyPost_ret (v := .tuple #[PO.val ⟨4, a, 0⟩, .bool (PO.may ⟨4, a, 0⟩)]) (by simp [results, Tryd.results29, go_sem, r0', r1', r2', PO.val, PO.arr]) rfl (op_post rfl (op_grown (W' := W1.drew) HG.out rfl ⟨rfl, rfl, rfl⟩ hr1 HB.out _ _ _))
set_option maxHeartbeats 2000000 in
theorem op_fence2 {k a num dig : Int} {minus value : Bool} (g : Nat) (w : World) (hs : ScIs w g ⟨4, a, num, 0, minus, true⟩) (hn0 : 0 ≤ num) (hn1 : num ≤ 2147483648) (hd0 : 0 ≤ dig) (hd1 : dig ≤ 5000) :
    Calls Tryd.prog 29 #[.pointer (some ⟨g, 0, none⟩)] w (OpPost g w (cut ⟨4, a, 0⟩)) := by
  have hg : g < w.heap.size := (Array.getElem?_eq_some_iff.1 hs).1
  obtain ⟨c0, c1, c2, c3, c4, c5, c6⟩ := hs.cells
  have f1 := hs.free 1
  have f2 := hs.free 2
  have HS := Lib.hid hs
  simp only at c0 c1 c2 c3 c4 c5 c6
  clear hs
  go_enter Tryd.func29, Tryd.ntmps29
  go_wp2_with fail
  have hl := last0 HS.out
  generalize w.alloc (.cells #[.int .i64 0, .int .i64 0, .int .i64 0] 33) = W1 at hl ⊢
  obtain ⟨⟨g0, g1, g2⟩, ⟨r0, r1, r2⟩, ⟨q0, q1, q2⟩, hgr, hr1⟩ := hl
  have hg1 : g < W1.heap.size := by omega
  have HG := Lib.hid hgr
  clear hgr f1 f2 c0 c1 c2 c3 c4 c5 c6
  go_region_with (go_at_call 16; refine (may_walk ⟨4, a, 0⟩ _).mono ?_; rintro e w2 ⟨rfl, hb⟩; obtain ⟨⟨g0', g1', g2'⟩, ⟨r0', r1', r2'⟩, ⟨q0', q1', q2'⟩⟩ := later (g := g) (r := w.heap.size) hb (by simpa using hg1) (by simpa using hr1) ⟨by simpa using g0, by simpa using g1, by simpa using g2⟩ ⟨by simpa using r0, by simpa using r1, by simpa using r2⟩ ⟨by simpa using q0, by simpa using q1, by simpa using q2⟩; have HB := Lib.hid hb; clear hb)
  all_goals
    go_wp2
    exact bodyPost_ret (v := .tuple #[PO.val ⟨4, a, 0⟩, .bool (PO.may ⟨4, a, 0⟩)]) (by simp [results, Tryd.results29, go_sem, r0', r1', r2', PO.val, PO.arr]) rfl (op_post rfl (op_grown (W' := W1.drew) HG.out rfl ⟨rfl, rfl, rfl⟩ hr1 HB.out _ _ _))
set_option maxHeartbeats 2000000 in
theorem opw_none {k a num dig : Int} {minus value : Bool} (g : Nat) (w : World) (hs : ScIs w g ⟨k, a, num, dig, minus, value⟩) (hd0 : 0 ≤ dig) (h1 : ¬ (k = 1 ∧ 0 < dig)) (h : value = false ∨ dig = 0) (h4 : k ≠ 4) :
    Calls Tryd.prog 29 #[.pointer (some ⟨g, 0, none⟩)] w (OpPost g w none) := by
  have hg : g < w.heap.size := (Array.getElem?_eq_some_iff.1 hs).1
  obtain ⟨c0, c1, c2, c3, c4, c5, c6⟩ := hs.cells
  have f1 := hs.free 1
  have f2 := hs.free 2
  have HS := Lib.hid hs
  simp only at c0 c1 c2 c3 c4 c5 c6
  clear hs
  have q4 : (k != 4) = true := by simpa using h4
  by_cases hk : k = 1
  · subst hk
    obtain rfl : dig = 0 := by omega
    clear h1 h h4 q4
    go_enter Tryd.func29, Tryd.ntmps29
    go_wp2_with fail
    all_goals exact bodyPost_ret (v := .tuple #[PO.val ⟨0, 0, 0⟩, .bool false]) (by simp [results, Tryd.results29, go_sem, PO.val, PO.arr]) rfl ⟨⟨0, 0, 0⟩, .inr ⟨rfl, rfl⟩, World.grownBy_alloc _ _ _⟩
  · rcases h with rfl | rfl
    all_goals
      clear h1 h4
      go_enter Tryd.func29, Tryd.ntmps29
      go_wp2_with fail
      all_goals exact bodyPost_ret (v := .tuple #[PO.val ⟨0, 0, 0⟩, .bool false]) (by simp [results, Tryd.results29, go_sem, PO.val, PO.arr]) rfl ⟨⟨0, 0, 0⟩, .inr ⟨rfl, rfl⟩, World.grownBy_alloc _ _ _⟩
theorem op_walk (s : Sc) (g : Nat) (w : World) (hs : ScIs w g s) (hn0 : 0 ≤ s.num) (hn1 : s.num ≤ 2147483648) (hd0 : 0 ≤ s.dig) (hd1 : s.dig ≤ 5000) :
    Calls Tryd.prog 29 #[.pointer (some ⟨g, 0, none⟩)] w (OpPost g w s.op) := by
  obtain ⟨k, a, num, dig, minus, value⟩ := s
  simp only at hn0 hn1 hd0 hd1
  by_cases hk : k = 1 ∧ 0 < dig
  · obtain ⟨rfl, h⟩ := hk
    rw [op_1 h]
    exact opw_load (k := 1) g w hs hn0 hn1 hd0 hd1 h
  · by_cases hv : value = true ∧ 0 < dig
    · obtain ⟨rfl, h⟩ := hv
      have h1 : ¬ k = 1 := fun e => hk ⟨e, h⟩
      cases minus
      · rw [op_3 h1 h]
        exact opw_pos (minus := false) (value := true) g w hs hn0 hn1 hd0 hd1 h h1
      · rw [op_2 h1 h]
        exact opw_neg (minus := true) (value := true) g w hs hn0 hn1 hd0 hd1 h h1
    · have hv' : value = false ∨ dig = 0 := by
        cases value
        · exact .inl rfl
        · exact .inr (by have : ¬ 0 < dig := fun e => hv ⟨rfl, e⟩; omega)
      by_cases h4 : k = 4
      · subst h4
        rw [op_4 hv']
        cases value
        · exact op_fence (k := 4) (value := false) g w hs hn0 hn1 hd0 hd1
        · obtain rfl : dig = 0 := by rcases hv' with h | h; cases h; exact h
          exact op_fence2 (k := 4) (dig := 0) (value := true) g w hs hn0 hn1 hd0 hd1
      · rw [op_no hk hv' h4]
        exact opw_none g w hs hd0 hk hv' h4
end Go.Proofs.YtfjeheioglmalaaDoor
