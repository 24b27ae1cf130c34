/- Owing, Ack and Owe of the reference file of misses. -/
import Derived.Test.YtfjeheioglmalaaRef1
namespace Go.Proofs.Ytfjeheioglmalaa
open Go.RowKit

/-- A walk stops here. -/
def Wall (p : Prop) : Prop := p
theorem rowing_any {B fb : Nat} {sv : Value} {room : Int} {l : List Ms} (w : World) (hm : l.length ≤ 1000) (hf : FileIs w 52 39 B fb sv room l) :
    Calls Try.prog 12 #[.pointer (some ⟨fb, 0, none⟩)] w fun e w' => e = .returned (.tuple #[.int .i64 (sOwing l).1, .bool (sOwing l).2]) ∧ w = w' := by
  by_cases hl : 0 < l.length
  · obtain ⟨g, c, rfl⟩ := hf.form hl
    have h1 := hf.head1
    have HF := Lib.hid hf
    clear hf hl
    go_enter Try.func12, Try.ntmps12
    go_wp2_with fail
    go_loopw [4] (fun v wr => ∃ k : Nat, v = .int .i64 k ∧ k ≤ l.length ∧ (∀ j, j < k → ∀ m, l[j]? = some m → m.owes = false) ∧ wr = w) (fun v _ => l.length - (intOf v).toNat)
    case atStart => exact ⟨0, rfl, by omega, fun j hj => by omega, rfl⟩
    case round =>
      obtain ⟨k, rfl, hk, hno, rfl⟩ := hrel
      have HNO := Lib.hid hno
      clear hno
      by_cases hlt : k < l.length
      · obtain ⟨m, hm1⟩ : ∃ m, l[k]? = some m := ⟨_, List.getElem?_eq_getElem hlt⟩
        have c0 := HF.out.elem hm1 0 _ rfl
        rw [Nat.add_zero] at c0
        have c14 := HF.out.elem hm1 14 _ rfl
        have HM := Lib.hid hm1
        clear hm1
        cases hpm : m.owes
        · go_wp2_with fail
          go_roundw
          case rel => exact ⟨k + 1, by go_num, by omega, (fun j hj m' hm' => by
            rcases Nat.lt_succ_iff_lt_or_eq.1 hj with h | h
            · exact HNO.out j h m' hm'
            · subst h; rw [HM.out] at hm'; injection hm' with hm'; subst hm'; exact hpm), trivial⟩
          case measure => simp [intOf]; omega
        · have e : sOwing l = (m.line, true) := by
            unfold sOwing
            rw [findIdx_some l (fun m => m.owes) k m HM.out hpm HNO.out]
            simp only []
            rw [getD_of HM.out]
          have E := Lib.hid e
          clear e
          go_wp2_with fail
          go_ret2
          rw [E.out]
          exact ⟨rfl, rfl⟩
      · have hkn : k = l.length := by omega
        have e : sOwing l = (0, false) := by
          unfold sOwing
          rw [findIdx_none l (fun m => m.owes) (by rw [← hkn]; exact HNO.out)]
        have E := Lib.hid e
        clear e
        go_wp2_with fail
        go_ret2
        rw [E.out]
        exact ⟨rfl, rfl⟩
  · have e0 : l = [] := List.eq_nil_of_length_eq_zero (by omega)
    subst e0
    obtain ⟨A, c, rfl⟩ := own_form hf.row
    have h1 := hf.head1
    clear hf
    go_enter Try.func12, Try.ntmps12
    go_wp2_with fail
    refine wp_loop_rounds 1 ?_
    rw [rounds_succ]
    go_wp2_with fail
    go_ret2
    exact ⟨rfl, rfl⟩

theorem box_cell {w : World} {g : Nat} {cs : Array Value} {t : TypeId} {f : Nat × Nat} (h : w.heap[g]? = some (.cells cs t f)) (j : Nat) {v : Value} (hj : cs[j]? = some v) : w.cell? ⟨g, j, none⟩ = some v := by
  rw [cell_of_row w g j _ _ _ h]; exact hj
/-- A new block was laid and filled: the file is as it was. -/
theorem FileIs.boxed {w w2 : World} {ft mt B fb : Nat} {sv : Value} {room : Int} {l : List Ms} (h : FileIs w ft mt B fb sv room l) {o : Obj} (hc : Chg (· = w.heap.size) (w.alloc o) w2) : FileIs w2 ft mt B fb sv room l := by
  refine (h.below ((Below.refl _ _).alloc (Nat.le_refl _) o)).keep hc ?_
  intro k hk e
  have := (h.own_lt hk).2
  omega
theorem below_boxed {w w2 : World} {o : Obj} (hc : Chg (· = w.heap.size) (w.alloc o) w2) : Below w.heap.size w w2 :=
  ((Below.refl _ _).alloc (Nat.le_refl _) o).trans (hc.below (by simp) (by intro i hi e; omega))
section
variable {B fb : Nat} {sv : Value} {room : Int} {l : List Ms} (line : Int) (w : World) (hm : l.length ≤ 1000)
include hm
theorem rack_none (hf : FileIs w 52 39 B fb sv room l) (hi : l.findIdx? (fun m => m.line == line) = none) :
    Calls Try.prog 25 #[.pointer (some ⟨fb, 0, none⟩), .int .i64 line] w fun e w' => e = .returned (.int .i64 5) ∧ w = w' := by
  have HF := Lib.hid hf
  have HI := Lib.hid (place_none hi)
  clear hf hi
  go_enter Try.func25, Try.ntmps25
  go_wp2_with (go_at_call 31; refine (rplace _ _ hm HF.out).mono ?_; rintro e w' ⟨rfl, rfl⟩; rw [HI.out])
  go_ret
  exact ⟨rfl, rfl⟩
variable {g n c : Nat} (hf : FileIs w 52 39 B fb (.slice (some ⟨g, 0, none⟩) n c) room l) {i : Nat} {m : Ms} (hi : l.findIdx? (fun m => m.line == line) = some i) (hmi : l[i]? = some m)
include hf hi hmi
theorem rack_kind (ht : m.kind = 1) :
    Calls Try.prog 25 #[.pointer (some ⟨fb, 0, none⟩), .int .i64 line] w fun e w' => e = .returned (.int .i64 7) ∧ Below w.heap.size w w' := by
  have h1 := hf.head1
  have hfb := hf.lt
  have hlt : i < n := by rw [hf.len]; exact (List.getElem?_eq_some_iff.1 hmi).1
  have hn : n ≤ 1000 := by rw [hf.len]; exact hm
  have HF := Lib.hid hf
  have HI := Lib.hid (place_some hi)
  have HR := Lib.hid (hf.elem hmi)
  clear hf hi hmi
  have K1 := Lib.hid (show m.cells.toArray[1]? = some (.int .i64 1) by simp [Ms.cells, ht])
  clear ht
  go_enter Try.func25, Try.ntmps25
  go_wp2_with (first | (go_at_call 31; refine (rplace _ _ hm HF.out).mono ?_; rintro e w' ⟨rfl, rfl⟩; rw [HI.out]) | (refine wpList_load_mid rfl 39 (.tmp 17) rfl g (i * 15) rfl m.cells _ HR.out Try.underlying39 rfl Try.size39 ?_) | (refine wpList_store_box rfl 39 (.tmp 6) _ rfl _ m.cells.toArray rfl rfl 39 _ (heap_alloc_new w _) Try.size39 rfl (Ms.all _) ?_; intro w2 hx2 hc2; have b1 := box_cell (v := .int .i64 1) hx2 1 K1.out; have b2 := box_cell (v := .int .i64 m.needs) hx2 2 rfl; have b3 := box_cell (v := .int .i64 m.got) hx2 3 rfl; have HC2 := Lib.hid hc2; clear hx2 hc2; show Wall _))
  unfold Wall
  go_wp2
  go_ret
  exact ⟨rfl, below_boxed HC2.out⟩
theorem rack_full (ht : m.kind ≠ 1) (t2 : 0 ≤ m.needs) (t3 : m.needs ≤ m.got) :
    Calls Try.prog 25 #[.pointer (some ⟨fb, 0, none⟩), .int .i64 line] w fun e w' => e = .returned (.int .i64 7) ∧ Below w.heap.size w w' := by
  have h1 := hf.head1
  have hfb := hf.lt
  have hlt : i < n := by rw [hf.len]; exact (List.getElem?_eq_some_iff.1 hmi).1
  have hn : n ≤ 1000 := by rw [hf.len]; exact hm
  have HF := Lib.hid hf
  have HI := Lib.hid (place_some hi)
  have HR := Lib.hid (hf.elem hmi)
  clear hf hi hmi
  have t1 : (m.kind == 1) = false := by simpa using ht
  clear ht
  go_enter Try.func25, Try.ntmps25
  go_wp2_with (first | (go_at_call 31; refine (rplace _ _ hm HF.out).mono ?_; rintro e w' ⟨rfl, rfl⟩; rw [HI.out]) | (refine wpList_load_mid rfl 39 (.tmp 17) rfl g (i * 15) rfl m.cells _ HR.out Try.underlying39 rfl Try.size39 ?_) | (refine wpList_store_box rfl 39 (.tmp 6) _ rfl _ m.cells.toArray rfl rfl 39 _ (heap_alloc_new w _) Try.size39 rfl (Ms.all _) ?_; intro w2 hx2 hc2; have b1 := box_cell (v := .int .i64 m.kind) hx2 1 rfl; have b2 := box_cell (v := .int .i64 m.needs) hx2 2 rfl; have b3 := box_cell (v := .int .i64 m.got) hx2 3 rfl; have HC2 := Lib.hid hc2; clear hx2 hc2; show Wall _))
  unfold Wall
  go_wp2
  go_ret
  exact ⟨rfl, below_boxed HC2.out⟩
theorem rack_table (ht : m.kind = 1 ∨ (0 ≤ m.needs ∧ m.needs ≤ m.got)) :
    Calls Try.prog 25 #[.pointer (some ⟨fb, 0, none⟩), .int .i64 line] w fun e w' => e = .returned (.int .i64 7) ∧ Below w.heap.size w w' := by
  by_cases h : m.kind = 1
  · exact rack_kind line w hm hf hi hmi h
  · have := ht.resolve_left h
    exact rack_full line w hm hf hi hmi h this.1 this.2
theorem rack_ok (ht1 : m.kind ≠ 1) (ht2 : m.needs < 0 ∨ m.got < m.needs) (h3 : 0 ≤ m.got) (h4 : m.got ≤ 1000) :
    Calls Try.prog 25 #[.pointer (some ⟨fb, 0, none⟩), .int .i64 line] w fun e w' => e = .returned (.int .i64 0) ∧ Kept 52 39 B fb (.slice (some ⟨g, 0, none⟩) n c) room (l.set i { m with got := m.got + 1 }) w w' := by
  have h1 := hf.head1
  have hfb := hf.lt
  have hlt : i < n := by rw [hf.len]; exact (List.getElem?_eq_some_iff.1 hmi).1
  have hn : n ≤ 1000 := by rw [hf.len]; exact hm
  have HF := Lib.hid hf
  have HI := Lib.hid (place_some hi)
  have HR := Lib.hid (hf.elem hmi)
  have HM := Lib.hid hmi
  have hw1 : IntKind.i64.wrap (m.got + 1) = m.got + 1 := IntWalk.i64_in _ (by omega)
  clear hf hi hmi
  have t1 : (m.kind == 1) = false := by simpa using ht1
  have t2 : (¬ 0 ≤ m.needs) ∨ (0 ≤ m.needs ∧ ¬ m.needs ≤ m.got) := by omega
  clear ht1 ht2
  rcases t2 with t2 | ⟨t2, t3⟩
  all_goals
    go_enter Try.func25, Try.ntmps25
    go_wp2_with (first | (go_at_call 31; refine (rplace _ _ hm HF.out).mono ?_; rintro e w' ⟨rfl, rfl⟩; rw [HI.out]) | (refine wpList_load_mid rfl 39 (.tmp 17) rfl g (i * 15) rfl m.cells _ HR.out Try.underlying39 rfl Try.size39 ?_) | (refine wpList_store_box rfl 39 (.tmp 6) _ rfl _ m.cells.toArray rfl rfl 39 _ (heap_alloc_new w _) Try.size39 rfl (Ms.all _) ?_; intro w2 hx2 hc2; have b1 := box_cell (v := .int .i64 m.kind) hx2 1 rfl; have b2 := box_cell (v := .int .i64 m.needs) hx2 2 rfl; have b3 := box_cell (v := .int .i64 m.got) hx2 3 rfl; have h1' := (HF.out.boxed hc2).head1; have f3 := (HF.out.boxed hc2).rowFree (i * 15 + 3); have c3 := (HF.out.boxed hc2).elem HM.out 3 _ rfl; have HC2 := Lib.hid hc2; clear hx2 hc2; show Wall _))
    unfold Wall
    go_wp2
    go_still_tail 10, (by kernel_rfl)
    clear hw1
    go_wp2
    go_ret
    refine ⟨rfl, ((HF.out.boxed HC2.out).below (below_drawn (Below.refl _ w2) 1)).set HM.out (by decide) rfl, ?_⟩
    exact (chg_drawn (Chg.of_below (below_boxed HC2.out)) 1).setCell (.inr rfl) _
end
end Go.Proofs.Ytfjeheioglmalaa
