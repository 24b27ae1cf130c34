/- Data of the reference file of misses. -/
import Derived.Test.YtfjeheioglmalaaRef4
namespace Go.Proofs.Ytfjeheioglmalaa
open Go.RowKit
section
variable {B fb : Nat} {sv : Value} {room : Int} {l : List Ms} (line acks own' : Int) (x : W8) (w : World) (hm : l.length ≤ 1000)
include hm
theorem rdata_none (hf : FileIs w 52 39 B fb sv room l) (hi : l.findIdx? (fun m => m.line == line) = none) :
    Calls Try.prog 23 #[.pointer (some ⟨fb, 0, none⟩), .int .i64 line, .int .i64 acks, .int .i64 own', x.val] w fun e w' => e = .returned (.int .i64 5) ∧ Below w.heap.size w w' := by
  have HF := Lib.hid hf
  have HI := Lib.hid (place_none hi)
  clear hf hi
  unfold W8.val
  go_enter Try.func23, Try.ntmps23
  go_wp2_with (go_at_call 31; refine (rplace _ _ hm (HF.out.below ((Below.refl _ _).alloc (Nat.le_refl _) _))).mono ?_; rintro e w' ⟨rfl, hb⟩; rw [HI.out]; have HB := Lib.hid (below_same hb); clear hb)
  go_ret
  exact ⟨rfl, HB.out⟩
variable {g n c : Nat} (hf : FileIs w 52 39 B fb (.slice (some ⟨g, 0, none⟩) n c) room l) {i : Nat} {m : Ms} (hi : l.findIdx? (fun m => m.line == line) = some i) (hmi : l[i]? = some m)
include hf hi hmi
set_option maxHeartbeats 4000000 in
/-- Up to the tests: the words and the miss lie in boxes of their own. -/
theorem rdata_err (k : Int) (hk : m.kind = k) (h : 0 ≤ m.needs ∨ (m.needs < 0 ∧ acks < 0) ∨ (m.needs < 0 ∧ 0 ≤ acks ∧ acks < m.got) ∨ (m.needs < 0 ∧ 0 ≤ acks ∧ m.got ≤ acks ∧ own' ≠ 4 ∧ 0 < acks) ∨
      (m.needs < 0 ∧ acks = 0 ∧ m.got ≤ 0 ∧ own' ≠ 4 ∧ (k = 2 ∨ (k = 1 ∧ own' ≠ 1 ∧ own' ≠ 2))) ∨ (m.needs < 0 ∧ 0 ≤ acks ∧ m.got ≤ acks ∧ own' = 4 ∧ k = 1)) :
    Calls Try.prog 23 #[.pointer (some ⟨fb, 0, none⟩), .int .i64 line, .int .i64 acks, .int .i64 own', x.val] w fun e w' => e = .returned (.int .i64 7) ∧ Below w.heap.size w w' := by
  have h1 := hf.head1
  have hfb := hf.lt
  have hlt : i < n := by rw [hf.len]; exact (List.getElem?_eq_some_iff.1 hmi).1
  have hn : n ≤ 1000 := by rw [hf.len]; exact hm
  have HF := Lib.hid hf
  have HI := Lib.hid (place_some hi)
  have HM := Lib.hid hmi
  have HK := Lib.hid hk
  clear hf hi hmi hk
  unfold W8.val
  have h' : 0 ≤ m.needs ∨ (m.needs < 0 ∧ acks < 0) ∨ (m.needs < 0 ∧ 0 ≤ acks ∧ acks < m.got) ∨ (m.needs < 0 ∧ 0 ≤ acks ∧ m.got ≤ acks ∧ (own' != 4) = true ∧ 0 < acks) ∨
      (m.needs < 0 ∧ acks = 0 ∧ m.got ≤ 0 ∧ (own' != 4) = true ∧ (k = 2 ∨ (k = 1 ∧ (own' != 1) = true ∧ (own' != 2) = true))) ∨ (m.needs < 0 ∧ 0 ≤ acks ∧ m.got ≤ acks ∧ own' = 4 ∧ k = 1) := by simpa using h
  clear h
  rcases h' with t0 | ⟨t0, t1⟩ | ⟨t0, t1, t2⟩ | ⟨t0, t1, t2, t3, t4⟩ | ⟨t0, rfl, t2, t3, rfl | ⟨rfl, t4, t5⟩⟩ | ⟨t0, t1, t2, rfl, rfl⟩
  all_goals
    go_enter Try.func23, Try.ntmps23
    go_wp2_with (first | (go_at_call 31; refine (rplace _ _ hm (HF.out.below ((Below.refl _ _).alloc (Nat.le_refl _) _))).mono ?_; rintro e w1 ⟨rfl, hb⟩; rw [HI.out]; have HB := Lib.hid (below_same hb); have HF1 := Lib.hid (HF.out.below (below_same hb)); have h1 := HF1.out.head1; clear hb) | (refine wpList_load_mid rfl 39 (.tmp 23) rfl g (i * 15) rfl m.cells _ (HF1.out.elem HM.out) Try.underlying39 rfl Try.size39 ?_) | (refine wpList_store_box rfl 39 (.tmp 12) _ rfl _ m.cells.toArray rfl rfl 39 _ (heap_alloc_new w1 _) Try.size39 rfl (Ms.all _) ?_; intro w2 hx2 hc2; have b1 := box_cell (v := .int .i64 m.kind) hx2 1 rfl; rw [HK.out] at b1; have b2 := box_cell (v := .int .i64 m.needs) hx2 2 rfl; have b3 := box_cell (v := .int .i64 m.got) hx2 3 rfl; have HC2 := Lib.hid hc2; clear hx2 hc2; show Wall _))
    unfold Wall
    go_wp2
    go_ret
    exact ⟨rfl, HB.out.trans ((below_boxed HC2.out).mono HB.out.size)⟩
set_option maxHeartbeats 20000000 in
theorem rdata_ok (k : Int) (hk : m.kind = k) (t0 : m.needs < 0) (t1 : 0 ≤ acks) (t2 : m.got ≤ acks) (h : (own' = 4 ∧ k = 2) ∨ (acks = 0 ∧ k = 1 ∧ (own' = 1 ∨ own' = 2))) :
    Calls Try.prog 23 #[.pointer (some ⟨fb, 0, none⟩), .int .i64 line, .int .i64 acks, .int .i64 own', x.val] w fun e w' => e = .returned (.int .i64 0) ∧ Kept 52 39 B fb (.slice (some ⟨g, 0, none⟩) n c) room (l.set i (m.filled acks own' x)) w w' := by
  have h1 := hf.head1
  have hfb := hf.lt
  have hlt : i < n := by rw [hf.len]; exact (List.getElem?_eq_some_iff.1 hmi).1
  have hn : n ≤ 1000 := by rw [hf.len]; exact hm
  have HF := Lib.hid hf
  have HI := Lib.hid (place_some hi)
  have HM := Lib.hid hmi
  have HK := Lib.hid hk
  clear hf hi hmi hk
  have sl1 : (i : Int) < n := by omega
  unfold W8.val
  have h' : (k = 2 ∧ (own' != 4) = false) ∨ (k = 1 ∧ acks ≤ 0 ∧ (own' != 4) = true ∧ (own' != 1) = false) ∨ (k = 1 ∧ acks ≤ 0 ∧ (own' != 4) = true ∧ (own' != 1) = true ∧ (own' != 2) = false) := by
    rcases h with ⟨rfl, rfl⟩ | ⟨rfl, rfl, rfl | rfl⟩ <;> simp
  clear h
  rcases h' with ⟨rfl, t4⟩ | ⟨rfl, t3, t4, t5⟩ | ⟨rfl, t3, t4, t5, t6⟩
  all_goals
    go_enter Try.func23, Try.ntmps23
    go_wp2_with (first | (go_at_call 31; refine (rplace _ _ hm (HF.out.below ((Below.refl _ _).alloc (Nat.le_refl _) _))).mono ?_; rintro e w1 ⟨rfl, hb⟩; rw [HI.out]; have HB := Lib.hid (below_same hb); have HX := Lib.hid (box_same hb); have HF1 := Lib.hid (HF.out.below (below_same hb)); have h1 := HF1.out.head1; clear hb) | (refine wpList_load_mid rfl 39 (.tmp 23) rfl g (i * 15) rfl m.cells _ (HF1.out.elem HM.out) Try.underlying39 rfl Try.size39 ?_) | (refine wpList_store_box rfl 39 (.tmp 12) _ rfl _ m.cells.toArray rfl rfl 39 _ (heap_alloc_new w1 _) Try.size39 rfl (Ms.all _) ?_; intro w2 hx2 hc2; have b1 := box_cell (v := .int .i64 m.kind) hx2 1 rfl; rw [HK.out] at b1; have b2 := box_cell (v := .int .i64 m.needs) hx2 2 rfl; have b3 := box_cell (v := .int .i64 m.got) hx2 3 rfl; have b4 := box_cell (v := .int .i64 m.own) hx2 4 rfl; have fz := fun j => frozen_of_row w2 w1.heap.size j _ _ hx2; have HX2 := Lib.hid hx2; have HC2 := Lib.hid hc2; clear hx2 hc2; show Wall _))
    have hne : w.heap.size ≠ w1.heap.size := by have := HB.out.size; have := (Array.getElem?_eq_some_iff.1 HX.out).1; omega
    have HXW := Lib.hid ((HC2.out.block w.heap.size (by have := (Array.getElem?_eq_some_iff.1 HX.out).1; simp; omega) hne).trans ((Below.heap_alloc w1 _ w.heap.size (by exact (Array.getElem?_eq_some_iff.1 HX.out).1)).trans HX.out))
    have HF2 := Lib.hid (HF1.out.boxed HC2.out)
    have HNB := Lib.hid (show ∀ k, Go.Proofs.Ytfjeheioglmalaa.own fb (.slice (some ⟨g, 0, none⟩) n c) k → ¬ k = w1.heap.size by intro k hk e; have := (HF1.out.own_lt hk).2; omega)
    have HB2 := Lib.hid (HB.out.trans ((below_boxed HC2.out).mono HB.out.size))
    unfold Wall
    go_wp2_with (first | (refine wpList_load_row rfl 32 (.tmp 9) rfl w.heap.size rfl 32 _ _ _ ((Below.heap_setCell _ _ _ w.heap.size hne).trans ((Below.heap_setCell _ _ _ w.heap.size hne).trans HXW.out)) Try.underlying32 rfl Try.size32 ?_) | (refine wpList_store_words rfl 32 (.tmp 71) _ rfl w1.heap.size 39 { m with needs := acks, own := own' } (m.filled acks own' x) _ (heap_setCell_same _ _ 4 _ 39 _ (heap_setCell_same _ _ 2 _ 39 _ HX2.out)) rfl x rfl rfl rfl Try.size32 ?_; intro w3 hx3 hc3; show Wall _))
    have HX3 := Lib.hid hx3
    have h13 := ((((HF2.out.keep (Chg.setCell (E := (· = w1.heap.size)) (Chg.refl _ w2) (p := ⟨w1.heap.size, 2, none⟩) rfl (.int .i64 acks)) HNB.out).keep (Chg.setCell (E := (· = w1.heap.size)) (Chg.refl _ _) (p := ⟨w1.heap.size, 4, none⟩) rfl (.int .i64 own')) HNB.out).keep hc3 HNB.out))
    have hb3 : Below w.heap.size w w3 := HB2.out.trans ((((Chg.setCell (E := (· = w1.heap.size)) (Chg.refl _ w2) (p := ⟨w1.heap.size, 2, none⟩) rfl (.int .i64 acks)).setCell (p := ⟨w1.heap.size, 4, none⟩) rfl (.int .i64 own')).trans hc3 (fun _ _ e => e)).below (by exact HB2.out.size) (by intro j hj e; have := HB.out.size; omega))
    have HF3 := Lib.hid h13
    have HB3 := Lib.hid hb3
    clear hx3 hc3 h13 hb3 fz b1 b2 b3 b4 h1
    have h1 := HF3.out.head1
    unfold Wall
    go_wp2_with fail
    refine wp_region_still_tail 7 (by kernel_rfl) (by kernel_rfl) ?_
    simp only [List.take_succ_cons, List.take_zero, List.drop_succ_cons, List.drop_zero]
    still_step
    still_step
    still_step
    still_step
    still_step
    refine still_load_row rfl 39 (.tmp 12) rfl w1.heap.size rfl 39 _ _ _ HX3.out Try.underlying39 rfl Try.size39 ?_
    still_step
    refine wpStill_nil ?_
    refine wpList_store_elem (w := w3.drewN 1) rfl 39 (.tmp 78) (.tmp 77) rfl (HF3.out.below (below_drawn (Below.refl _ w3) 1)) HM.out (m.filled acks own' x) rfl rfl Try.size39 ?_
    intro w4 hf4 hc4
    have HF4 := Lib.hid hf4
    have HC4 := Lib.hid hc4
    clear hf4 hc4 sl1 h1
    go_wp2
    go_ret
    exact ⟨rfl, HF4.out, (chg_drawn (Chg.of_below HB3.out) 1).trans HC4.out (fun _ _ e => e)⟩
end
end Go.Proofs.Ytfjeheioglmalaa
