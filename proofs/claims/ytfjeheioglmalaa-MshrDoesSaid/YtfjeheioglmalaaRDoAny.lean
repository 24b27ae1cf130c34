/- 'own' of the laws: one operation on a file of the reference. (Printed by mkrdo.py from DoAny.) -/
import Derived.Test.YtfjeheioglmalaaRef9
namespace Go.Proofs.Ytfjeheioglmalaa
open Go.RowKit
set_option linter.unusedSectionVars false
/-- What 'own' comes to. -/
def RDoPost (B fb : Nat) (sv : Value) (room : Int) (l : List Ms) (o : Opr) (w : World) (e : Ending) (w' : World) : Prop :=
  e = .returned (.tuple #[(sDo room l o).1.1.val, .bool (sDo room l o).1.2.1, .int .i64 (sDo room l o).1.2.2]) ∧ Did 52 39 B fb sv room (sDo room l o).2 w w'
section
variable {B fb : Nat} {sv : Value} {room : Int} {l : List Ms} {t : Int} (w : World) (hm : l.length ≤ 1000) (hf : FileIs w 52 39 B fb sv room l) (hl : (l.length : Int) ≤ room) (he : ∀ m ∈ l, MOk t m) (ht : t ≤ 1000)
include hm hf hl he ht
theorem own_open (line n st : Int) (x : W8) :
    Calls Try.prog 10 #[.pointer (some ⟨fb, 0, none⟩), (⟨0, line, n, st, x⟩ : Opr).val] w fun e w' => e = .returned (.tuple #[Ms.zero.val, .bool false, .int .i64 (sOpen room l line n).1]) ∧ Did 52 39 B fb sv room (sOpen room l line n).2 w w' := by
  have HF := Lib.hid hf
  clear hf
  have hb0 : Below w.heap.size w ((w.alloc (.cells (⟨0, line, n, st, x⟩ : Opr).arr 38)).alloc (.cells Ms.zero.cells.toArray 39)) := ((Below.refl _ _).alloc (Nat.le_refl _) _).alloc (by simp) _
  have HF2 := Lib.hid (HF.out.below hb0)
  have HBS := Lib.hid (show B ≤ ((w.alloc (.cells (⟨0, line, n, st, x⟩ : Opr).arr 38)).alloc (.cells Ms.zero.cells.toArray 39)).heap.size by have := HF.out.base; have := HF.out.lt; simp; omega)
  have HB0 := Lib.hid hb0
  have HX := Lib.hid (heap_alloc_new (w.alloc (.cells (⟨0, line, n, st, x⟩ : Opr).arr 38)) (.cells Ms.zero.cells.toArray 39))
  clear hb0
  unfold Opr.val Opr.arr
  go_enter Try.func10, Try.ntmps10
  go_wp2_with (first | (go_at_call 22; go_must (refine (ropen_any _ hm HF2.out hl he ht line n HBS.out).mono ?_); rintro e w1 ⟨rfl, h⟩; have HD := Lib.hid h; have HX1 := Lib.hid (did_box_kept (g := w.heap.size + 1) HF.out h (by omega) (by simpa using HX.out)); clear h) | (refine wpList_store_box rfl 39 (.tmp 4) _ rfl _ Ms.zero.cells.toArray rfl rfl 39 _ HX1.out Try.size39 rfl (Ms.all _) ?_; intro w2 hx2 hc2; have HX2 := Lib.hid hx2; have HC2 := Lib.hid hc2; clear hx2 hc2))
  refine ret_cell_tmp2 (p := 4) (q := 5) (r := 6) (ty := 39) rfl (w.heap.size + 1) 39 Ms.zero.cells.toArray _ _ _ _ rfl rfl rfl HX2.out Try.underlying39 rfl Try.size39 rfl ⟨rfl, ?_⟩
  exact did_boxes HF.out HB0.out HD.out (g := w.heap.size + 1) (by omega) (by simp) HC2.out
theorem own_data (line n st : Int) (x : W8) :
    Calls Try.prog 10 #[.pointer (some ⟨fb, 0, none⟩), (⟨1, line, n, st, x⟩ : Opr).val] w fun e w' => e = .returned (.tuple #[Ms.zero.val, .bool false, .int .i64 (sData l line n st x).1]) ∧ Did 52 39 B fb sv room (sData l line n st x).2 w w' := by
  have HF := Lib.hid hf
  clear hf
  have hb0 : Below w.heap.size w ((w.alloc (.cells (⟨1, line, n, st, x⟩ : Opr).arr 38)).alloc (.cells Ms.zero.cells.toArray 39)) := ((Below.refl _ _).alloc (Nat.le_refl _) _).alloc (by simp) _
  have HF2 := Lib.hid (HF.out.below hb0)
  have HBS := Lib.hid (show B ≤ ((w.alloc (.cells (⟨1, line, n, st, x⟩ : Opr).arr 38)).alloc (.cells Ms.zero.cells.toArray 39)).heap.size by have := HF.out.base; have := HF.out.lt; simp; omega)
  have HB0 := Lib.hid hb0
  have HX := Lib.hid (heap_alloc_new (w.alloc (.cells (⟨1, line, n, st, x⟩ : Opr).arr 38)) (.cells Ms.zero.cells.toArray 39))
  clear hb0
  unfold Opr.val Opr.arr
  go_enter Try.func10, Try.ntmps10
  go_wp2_with (first | (go_at_call 23; go_must (refine (rdata_any _ hm HF2.out hl he ht line n st x).mono ?_); rintro e w1 ⟨rfl, h⟩; have HD := Lib.hid h; have HX1 := Lib.hid (did_box_kept (g := w.heap.size + 1) HF.out h (by omega) (by simpa using HX.out)); clear h) | (refine wpList_store_box rfl 39 (.tmp 4) _ rfl _ Ms.zero.cells.toArray rfl rfl 39 _ HX1.out Try.size39 rfl (Ms.all _) ?_; intro w2 hx2 hc2; have HX2 := Lib.hid hx2; have HC2 := Lib.hid hc2; clear hx2 hc2))
  refine ret_cell_tmp2 (p := 4) (q := 5) (r := 6) (ty := 39) rfl (w.heap.size + 1) 39 Ms.zero.cells.toArray _ _ _ _ rfl rfl rfl HX2.out Try.underlying39 rfl Try.size39 rfl ⟨rfl, ?_⟩
  exact did_boxes HF.out HB0.out HD.out (g := w.heap.size + 1) (by omega) (by simp) HC2.out
theorem own_grant (line n st : Int) (x : W8) :
    Calls Try.prog 10 #[.pointer (some ⟨fb, 0, none⟩), (⟨2, line, n, st, x⟩ : Opr).val] w fun e w' => e = .returned (.tuple #[Ms.zero.val, .bool false, .int .i64 (sGrant l line n).1]) ∧ Did 52 39 B fb sv room (sGrant l line n).2 w w' := by
  have HF := Lib.hid hf
  clear hf
  have hb0 : Below w.heap.size w ((w.alloc (.cells (⟨2, line, n, st, x⟩ : Opr).arr 38)).alloc (.cells Ms.zero.cells.toArray 39)) := ((Below.refl _ _).alloc (Nat.le_refl _) _).alloc (by simp) _
  have HF2 := Lib.hid (HF.out.below hb0)
  have HBS := Lib.hid (show B ≤ ((w.alloc (.cells (⟨2, line, n, st, x⟩ : Opr).arr 38)).alloc (.cells Ms.zero.cells.toArray 39)).heap.size by have := HF.out.base; have := HF.out.lt; simp; omega)
  have HB0 := Lib.hid hb0
  have HX := Lib.hid (heap_alloc_new (w.alloc (.cells (⟨2, line, n, st, x⟩ : Opr).arr 38)) (.cells Ms.zero.cells.toArray 39))
  clear hb0
  unfold Opr.val Opr.arr
  go_enter Try.func10, Try.ntmps10
  go_wp2_with (first | (go_at_call 24; go_must (refine (rgrant_any _ hm HF2.out hl he ht line n).mono ?_); rintro e w1 ⟨rfl, h⟩; have HD := Lib.hid h; have HX1 := Lib.hid (did_box_kept (g := w.heap.size + 1) HF.out h (by omega) (by simpa using HX.out)); clear h) | (refine wpList_store_box rfl 39 (.tmp 4) _ rfl _ Ms.zero.cells.toArray rfl rfl 39 _ HX1.out Try.size39 rfl (Ms.all _) ?_; intro w2 hx2 hc2; have HX2 := Lib.hid hx2; have HC2 := Lib.hid hc2; clear hx2 hc2))
  refine ret_cell_tmp2 (p := 4) (q := 5) (r := 6) (ty := 39) rfl (w.heap.size + 1) 39 Ms.zero.cells.toArray _ _ _ _ rfl rfl rfl HX2.out Try.underlying39 rfl Try.size39 rfl ⟨rfl, ?_⟩
  exact did_boxes HF.out HB0.out HD.out (g := w.heap.size + 1) (by omega) (by simp) HC2.out
theorem own_ack (line n st : Int) (x : W8) :
    Calls Try.prog 10 #[.pointer (some ⟨fb, 0, none⟩), (⟨3, line, n, st, x⟩ : Opr).val] w fun e w' => e = .returned (.tuple #[Ms.zero.val, .bool false, .int .i64 (sAck l line).1]) ∧ Did 52 39 B fb sv room (sAck l line).2 w w' := by
  have HF := Lib.hid hf
  clear hf
  have hb0 : Below w.heap.size w ((w.alloc (.cells (⟨3, line, n, st, x⟩ : Opr).arr 38)).alloc (.cells Ms.zero.cells.toArray 39)) := ((Below.refl _ _).alloc (Nat.le_refl _) _).alloc (by simp) _
  have HF2 := Lib.hid (HF.out.below hb0)
  have HBS := Lib.hid (show B ≤ ((w.alloc (.cells (⟨3, line, n, st, x⟩ : Opr).arr 38)).alloc (.cells Ms.zero.cells.toArray 39)).heap.size by have := HF.out.base; have := HF.out.lt; simp; omega)
  have HB0 := Lib.hid hb0
  have HX := Lib.hid (heap_alloc_new (w.alloc (.cells (⟨3, line, n, st, x⟩ : Opr).arr 38)) (.cells Ms.zero.cells.toArray 39))
  clear hb0
  unfold Opr.val Opr.arr
  go_enter Try.func10, Try.ntmps10
  go_wp2_with (first | (go_at_call 25; go_must (refine (rack_any _ hm HF2.out hl he ht line).mono ?_); rintro e w1 ⟨rfl, h⟩; have HD := Lib.hid h; have HX1 := Lib.hid (did_box_kept (g := w.heap.size + 1) HF.out h (by omega) (by simpa using HX.out)); clear h) | (refine wpList_store_box rfl 39 (.tmp 4) _ rfl _ Ms.zero.cells.toArray rfl rfl 39 _ HX1.out Try.size39 rfl (Ms.all _) ?_; intro w2 hx2 hc2; have HX2 := Lib.hid hx2; have HC2 := Lib.hid hc2; clear hx2 hc2))
  refine ret_cell_tmp2 (p := 4) (q := 5) (r := 6) (ty := 39) rfl (w.heap.size + 1) 39 Ms.zero.cells.toArray _ _ _ _ rfl rfl rfl HX2.out Try.underlying39 rfl Try.size39 rfl ⟨rfl, ?_⟩
  exact did_boxes HF.out HB0.out HD.out (g := w.heap.size + 1) (by omega) (by simp) HC2.out
theorem own_close (d : Int) (h0 : d ≠ 0) (h1 : d ≠ 1) (h2 : d ≠ 2) (h3 : d ≠ 3) (h4 : d ≠ 4) (line n st : Int) (x : W8) :
    Calls Try.prog 10 #[.pointer (some ⟨fb, 0, none⟩), (⟨d, line, n, st, x⟩ : Opr).val] w fun e w' => e = .returned (.tuple #[Ms.zero.val, .bool false, .int .i64 (sClose l line).1]) ∧ Did 52 39 B fb sv room (sClose l line).2 w w' := by
  have HF := Lib.hid hf
  clear hf
  have b0 : (d == 0) = false := by simpa using h0
  have b1 : (d == 1) = false := by simpa using h1
  have b2 : (d == 2) = false := by simpa using h2
  have b3 : (d == 3) = false := by simpa using h3
  have b4 : (d == 4) = false := by simpa using h4
  clear h0 h1 h2 h3 h4
  have hb0 : Below w.heap.size w ((w.alloc (.cells (⟨d, line, n, st, x⟩ : Opr).arr 38)).alloc (.cells Ms.zero.cells.toArray 39)) := ((Below.refl _ _).alloc (Nat.le_refl _) _).alloc (by simp) _
  have HF2 := Lib.hid (HF.out.below hb0)
  have HBS := Lib.hid (show B ≤ ((w.alloc (.cells (⟨d, line, n, st, x⟩ : Opr).arr 38)).alloc (.cells Ms.zero.cells.toArray 39)).heap.size by have := HF.out.base; have := HF.out.lt; simp; omega)
  have HB0 := Lib.hid hb0
  have HX := Lib.hid (heap_alloc_new (w.alloc (.cells (⟨d, line, n, st, x⟩ : Opr).arr 38)) (.cells Ms.zero.cells.toArray 39))
  clear hb0
  unfold Opr.val Opr.arr
  go_enter Try.func10, Try.ntmps10
  go_wp2_with (first | (go_at_call 27; go_must (refine (rclose_any _ hm HF2.out hl he ht line HBS.out).mono ?_); rintro e w1 ⟨rfl, h⟩; have HD := Lib.hid h; have HX1 := Lib.hid (did_box_kept (g := w.heap.size + 1) HF.out h (by omega) (by simpa using HX.out)); clear h) | (refine wpList_store_box rfl 39 (.tmp 4) _ rfl _ Ms.zero.cells.toArray rfl rfl 39 _ HX1.out Try.size39 rfl (Ms.all _) ?_; intro w2 hx2 hc2; have HX2 := Lib.hid hx2; have HC2 := Lib.hid hc2; clear hx2 hc2))
  refine ret_cell_tmp2 (p := 4) (q := 5) (r := 6) (ty := 39) rfl (w.heap.size + 1) 39 Ms.zero.cells.toArray _ _ _ _ rfl rfl rfl HX2.out Try.underlying39 rfl Try.size39 rfl ⟨rfl, ?_⟩
  exact did_boxes HF.out HB0.out HD.out (g := w.heap.size + 1) (by omega) (by simp) HC2.out
theorem own_owe (line n st : Int) (x : W8) :
    Calls Try.prog 10 #[.pointer (some ⟨fb, 0, none⟩), (⟨4, line, n, st, x⟩ : Opr).val] w fun e w' => e = .returned (.tuple #[(sOwe l line).1.1.val, .bool (sOwe l line).1.2, .int .i64 0]) ∧ Did 52 39 B fb sv room (sOwe l line).2 w w' := by
  have HF := Lib.hid hf
  clear hf
  have hb0 : Below w.heap.size w ((w.alloc (.cells (⟨4, line, n, st, x⟩ : Opr).arr 38)).alloc (.cells Ms.zero.cells.toArray 39)) := ((Below.refl _ _).alloc (Nat.le_refl _) _).alloc (by simp) _
  have HF2 := Lib.hid (HF.out.below hb0)
  have HB0 := Lib.hid hb0
  have HX := Lib.hid (heap_alloc_new (w.alloc (.cells (⟨4, line, n, st, x⟩ : Opr).arr 38)) (.cells Ms.zero.cells.toArray 39))
  clear hb0
  obtain ⟨m, hmm⟩ : ∃ m, (sOwe l line).1.1 = m := ⟨_, rfl⟩
  have HM := Lib.hid hmm
  clear hmm
  rw [HM.out]
  unfold Opr.val Opr.arr
  go_enter Try.func10, Try.ntmps10
  go_wp2_with (first | (go_at_call 26; go_must (refine (rowe_any _ hm HF2.out hl he ht line).mono ?_); rw [HM.out]; rintro e w1 ⟨rfl, h⟩; have HD := Lib.hid h; have HX1 := Lib.hid (did_box_kept (g := w.heap.size + 1) HF.out h (by omega) (by simpa using HX.out)); have hs1 := h.choose_spec.2.1.size; simp at hs1; clear h) | (refine wpList_store_box rfl 39 (.tmp 7) _ rfl _ m.cells.toArray rfl rfl 39 _ (heap_alloc_new w1 _) Try.size39 rfl (Ms.all _) ?_; intro v1 hx hc; have HB7 := Lib.hid (boxed hc); have HX7 := Lib.hid hx; have HX4 := Lib.hid (((boxed hc).block (w.heap.size + 1) (lt_of_block HX1.out)).trans HX1.out); clear hx hc) | (refine wpList_load_row rfl 39 (.tmp 7) rfl w1.heap.size rfl 39 m.cells.toArray (0, 0) _ HX7.out Try.underlying39 rfl Try.size39 ?_) | (refine wpList_store_box rfl 39 (.tmp 4) _ rfl _ m.cells.toArray rfl rfl 39 _ HX4.out Try.size39 rfl (Ms.all _) ?_; intro w2 hx2 hc2; have HX2 := Lib.hid hx2; have HC2 := Lib.hid hc2; clear hx2 hc2))
  refine ret_cell_tmp2 (p := 4) (q := 5) (r := 6) (ty := 39) rfl (w.heap.size + 1) 39 m.cells.toArray _ _ _ _ rfl rfl rfl HX2.out Try.underlying39 rfl Try.size39 rfl ⟨rfl, ?_⟩
  exact did_boxes HF.out HB0.out (HD.out.grow HB7.out) (g := w.heap.size + 1) (by omega) (by simp) HC2.out
theorem own_any (o : Opr) :
    Calls Try.prog 10 #[.pointer (some ⟨fb, 0, none⟩), o.val] w (RDoPost B fb sv room l o w) := by
  obtain ⟨d, line, n, st, x⟩ := o
  by_cases h0 : d = 0
  · subst h0
    refine (own_open w hm hf hl he ht line n st x).mono fun e w' h => ?_
    unfold RDoPost sDo
    exact h
  by_cases h1 : d = 1
  · subst h1
    refine (own_data w hm hf hl he ht line n st x).mono fun e w' h => ?_
    unfold RDoPost sDo
    exact h
  by_cases h2 : d = 2
  · subst h2
    refine (own_grant w hm hf hl he ht line n st x).mono fun e w' h => ?_
    unfold RDoPost sDo
    exact h
  by_cases h3 : d = 3
  · subst h3
    refine (own_ack w hm hf hl he ht line n st x).mono fun e w' h => ?_
    unfold RDoPost sDo
    exact h
  by_cases h4 : d = 4
  · subst h4
    refine (own_owe w hm hf hl he ht line n st x).mono fun e w' h => ?_
    unfold RDoPost sDo
    exact h
  · refine (own_close w hm hf hl he ht d h0 h1 h2 h3 h4 line n st x).mono fun e w' h => ?_
    unfold RDoPost sDo
    rw [if_neg h0, if_neg h1, if_neg h2, if_neg h3, if_neg h4]
    exact h
end
end Go.Proofs.Ytfjeheioglmalaa
