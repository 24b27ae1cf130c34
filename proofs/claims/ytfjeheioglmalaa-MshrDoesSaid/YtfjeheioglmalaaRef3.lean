/- Owe of the reference file of misses. -/
import Derived.Test.YtfjeheioglmalaaRef2
namespace Go.Proofs.Ytfjeheioglmalaa
open Go.RowKit

theorem rowe_none {B fb : Nat} {sv : Value} {room : Int} {l : List Ms} (line : Int) (w : World) (hm : l.length ≤ 1000) (hf : FileIs w 52 39 B fb sv room l) (hi : l.findIdx? (fun m => m.line == line) = none) :
    Calls Try.prog 26 #[.pointer (some ⟨fb, 0, none⟩), .int .i64 line] w fun e w' => e = .returned (.tuple #[Ms.zero.val, .bool false]) ∧ Below w.heap.size w w' := by
  have HF := Lib.hid hf
  have HI := Lib.hid (place_none hi)
  clear hf hi
  go_enter Try.func26, Try.ntmps26
  go_wp2_with (go_at_call 31; refine (rplace _ _ hm (HF.out.below ((Below.refl _ _).alloc (Nat.le_refl _) _))).mono ?_; rintro e w' ⟨rfl, hb⟩; rw [HI.out]; have HX := Lib.hid (box_same hb); have HB := Lib.hid (below_same hb); clear hb)
  go_quiet (fail)
  go_wp2_with (refine wpList_store_box rfl 39 (.tmp 4) _ rfl _ Ms.zero.cells.toArray rfl rfl 39 _ HX.out Try.size39 rfl (Ms.all _) ?_; intro w2 hx2 hc2; have HX2 := Lib.hid hx2; have HC2 := Lib.hid hc2; clear hx2 hc2)
  refine ret_cell_tmp (p := 4) (q := 5) (ty := 39) rfl w.heap.size 39 Ms.zero.cells.toArray _ _ _ rfl rfl HX2.out Try.underlying39 rfl Try.size39 rfl ⟨rfl, ?_⟩
  exact (below_drawn HB.out _).trans (HC2.out.below (by have := HB.out.size; simpa using this) (by intro i hi e; omega))
section
variable {B fb g n c : Nat} {room : Int} {l : List Ms} (line : Int) (w : World) (hm : l.length ≤ 1000) (hf : FileIs w 52 39 B fb (.slice (some ⟨g, 0, none⟩) n c) room l) {i : Nat} {m : Ms} (hi : l.findIdx? (fun m => m.line == line) = some i) (hmi : l[i]? = some m)
include hm hf hi hmi
set_option maxHeartbeats 4000000 in
theorem rowe_no (ht : m.owes = true ∨ m.needs < 0 ∨ m.needs ≠ m.got) :
    Calls Try.prog 26 #[.pointer (some ⟨fb, 0, none⟩), .int .i64 line] w fun e w' => e = .returned (.tuple #[Ms.zero.val, .bool false]) ∧ Below w.heap.size w w' := by
  have hlt : (i : Int) < (n : Int) := by have : i < n := by { rw [hf.len]; exact (List.getElem?_eq_some_iff.1 hmi).1 }; omega
  have hn : n ≤ 1000 := by rw [hf.len]; exact hm
  have HF := Lib.hid hf
  have HI := Lib.hid (place_some hi)
  have HM := Lib.hid hmi
  have hi0 : decide ((i : Int) < 0) = false := by simp
  clear hf hi hmi
  have ht2 : m.owes = true ∨ (m.owes = false ∧ decide (m.needs < 0) = true) ∨ (m.owes = false ∧ decide (m.needs < 0) = false ∧ (m.needs != m.got) = true) := by
    cases h : m.owes
    · by_cases h2 : m.needs < 0
      · exact .inr (.inl ⟨rfl, by simpa using h2⟩)
      · refine .inr (.inr ⟨rfl, by simpa using h2, ?_⟩)
        simpa [h, h2] using ht
    · exact .inl rfl
  clear ht
  rcases ht2 with t1 | ⟨t1, t2⟩ | ⟨t1, t2, t3⟩
  all_goals
    go_enter Try.func26, Try.ntmps26
    go_wp2_with (go_at_call 31; refine (rplace _ _ hm (HF.out.below ((Below.refl _ _).alloc (Nat.le_refl _) _))).mono ?_; rintro e w' ⟨rfl, hb⟩; rw [HI.out]; have HX := Lib.hid (box_same hb); have HB := Lib.hid (below_same hb); have h1 := (HF.out.below HB.out).head1; have c2 := (HF.out.below HB.out).elem HM.out 2 _ rfl; have c3 := (HF.out.below HB.out).elem HM.out 3 _ rfl; have c14 := (HF.out.below HB.out).elem HM.out 14 _ rfl; clear hb)
    go_quiet (fail)
    go_wp2_with (refine wpList_store_box rfl 39 (.tmp 4) _ rfl _ Ms.zero.cells.toArray rfl rfl 39 _ HX.out Try.size39 rfl (Ms.all _) ?_; intro w2 hx2 hc2; have HX2 := Lib.hid hx2; have HC2 := Lib.hid hc2; clear hx2 hc2)
    refine ret_cell_tmp (p := 4) (q := 5) (ty := 39) rfl w.heap.size 39 Ms.zero.cells.toArray _ _ _ rfl rfl HX2.out Try.underlying39 rfl Try.size39 rfl ⟨rfl, ?_⟩
    exact (below_drawn HB.out _).trans (HC2.out.below (by have := HB.out.size; simpa using this) (by intro i hi e; omega))
end
theorem below_eq {a b : World} (h : a = b) : Below a.heap.size a b := h ▸ Below.refl _ _
theorem rowe_yes {B fb g n c : Nat} {room : Int} {l : List Ms} (line : Int) (w : World) (hm : l.length ≤ 1000) (hf : FileIs w 52 39 B fb (.slice (some ⟨g, 0, none⟩) n c) room l) {i : Nat} {m : Ms} (hi : l.findIdx? (fun m => m.line == line) = some i) (hmi : l[i]? = some m)
    (ht1 : m.owes = false) (ht2 : m.needs = m.got) (ht0 : 0 ≤ m.needs) :
    Calls Try.prog 26 #[.pointer (some ⟨fb, 0, none⟩), .int .i64 line] w fun e w' => e = .returned (.tuple #[m.val, .bool true]) ∧ Kept 52 39 B fb (.slice (some ⟨g, 0, none⟩) n c) room (l.set i { m with owes := true }) w w' := by
  have hlt : (i : Int) < (n : Int) := by have : i < n := by { rw [hf.len]; exact (List.getElem?_eq_some_iff.1 hmi).1 }; omega
  have hn : n ≤ 1000 := by rw [hf.len]; exact hm
  have HF := Lib.hid hf
  have HI := Lib.hid (place_some hi)
  have HM := Lib.hid hmi
  clear hf hi hmi
  have t1 : (m.needs != m.got) = false := by simpa using ht2
  have t0 : decide (m.needs < 0) = false := by simpa using ht0
  have hi0 : decide ((i : Int) < 0) = false := by simp
  clear ht2 ht0
  go_enter Try.func26, Try.ntmps26
  go_wp2_with (go_at_call 31; refine (rplace _ _ hm (HF.out.below ((Below.refl _ _).alloc (Nat.le_refl _) _))).mono ?_; rintro e w1 ⟨rfl, hb0⟩; rw [HI.out]; have hb := below_eq hb0; clear hb0; have f1 := (HF.out.below ((Below.refl _ _).alloc (Nat.le_refl _) _)).below hb; have c2 := f1.elem HM.out 2 _ rfl; have c3 := f1.elem HM.out 3 _ rfl; have c14 := f1.elem HM.out 14 _ rfl; have h1 := f1.head1; have HF1 := Lib.hid f1; clear f1; have HB := Lib.hid hb; have HX := Lib.hid (box_kept hb); clear hb)
  go_quiet (fail)
  clear c2 c3 c14
  have fr : ∀ nq o w2, Chg (· = w1.heap.size) ((w1.drewN nq).alloc o) w2 → FileIs w2 52 39 B fb (.slice (some ⟨g, 0, none⟩) n c) room l := by
    intro nq o w2 hc
    refine ((HF1.out.below (below_drawn (Below.refl _ w1) nq)).below ((Below.refl _ (w1.drewN nq)).alloc (Nat.le_refl _) o)).keep hc ?_
    intro k hk e
    have := (HF1.out.own_lt hk).2
    omega
  have FR := Lib.hid fr
  clear fr
  have b4 : ∀ nq o w2 x, Chg (· = w1.heap.size) ((w1.drewN nq).alloc o) w2 → w1.heap[w.heap.size]? = some x → w2.heap[w.heap.size]? = some x := by
    intro nq o w2 x hc hx
    have hs := HB.out.size
    simp at hs
    have h1 : w.heap.size < ((w1.drewN nq).alloc o).heap.size := by simp; omega
    refine (hc.block w.heap.size h1 (by omega)).trans ((Below.heap_alloc (w1.drewN nq) o w.heap.size (by simp; omega)).trans hx)
  have B4 := Lib.hid b4
  clear b4
  have hg : g < w.heap.size := HF.out.row_lt
  have hg1 : g < w1.heap.size := HF1.out.row_lt
  go_wp2_with (first | (refine wpList_load_mid rfl 39 (.tmp 59) rfl g (i * 15) rfl m.cells _ (HF1.out.elem HM.out) Try.underlying39 rfl Try.size39 ?_) | (refine wpList_store_box rfl 39 (.tmp 7) _ rfl _ m.cells.toArray rfl rfl 39 _ (heap_alloc_new (World.drewN w1 _) _) Try.size39 rfl (Ms.all _) ?_; intro w2 hx2 hc2; have f2 := FR.out _ _ _ hc2; have h12 := f2.head1; have c14 := f2.elem HM.out 14 _ rfl; have fr14 := f2.rowFree (i * 15 + 14); have HX3 := Lib.hid (B4.out _ _ _ _ hc2 HX.out); have HF2 := Lib.hid f2; have HX2 := Lib.hid hx2; have HC2 := Lib.hid hc2; clear hx2 hc2 f2) | (refine wpList_load_row rfl 39 (.tmp 7) rfl w1.heap.size rfl 39 m.cells.toArray _ _ ((Below.heap_setCell w2 _ _ w1.heap.size (Nat.ne_of_gt hg1)).trans HX2.out) Try.underlying39 rfl Try.size39 ?_) | (refine wpList_store_box rfl 39 (.tmp 4) _ rfl _ m.cells.toArray rfl rfl 39 _ ((Below.heap_setCell w2 _ _ w.heap.size (Nat.ne_of_gt hg)).trans HX3.out) Try.size39 rfl (Ms.all _) ?_; intro w5 hx5 hc5; have HX5 := Lib.hid hx5; have HC5 := Lib.hid hc5; clear hx5 hc5))
  refine ret_cell_tmp (p := 4) (q := 5) (ty := 39) rfl w.heap.size 39 m.cells.toArray _ _ _ rfl rfl HX5.out Try.underlying39 rfl Try.size39 rfl ⟨rfl, (HF2.out.set (m' := { m with owes := true }) HM.out (by decide) rfl).keep HC5.out ?_, ?_⟩
  · intro k hk e
    subst e
    rcases hk with h | h
    · have := HF.out.lt; omega
    · simp [Value.ownBlock] at h; omega
  · have hs := HB.out.size
    simp at hs
    refine Chg.trans (E' := (· = w.heap.size)) (Chg.setCell (E := own fb (.slice (some ⟨g, 0, none⟩) n c)) (p := ⟨g, i * 15 + 14, none⟩) ?_ (.inr rfl) _) HC5.out (fun i hi e => by omega)
    refine Chg.trans (E' := (· = w1.heap.size)) ?_ HC2.out (fun i hi e => by omega)
    refine Chg.alloc (chg_drawn ?_ _) _
    exact Chg.of_below (((Below.refl _ _).alloc (Nat.le_refl _) _).trans (HB.out.mono (by simp)))

end Go.Proofs.Ytfjeheioglmalaa
