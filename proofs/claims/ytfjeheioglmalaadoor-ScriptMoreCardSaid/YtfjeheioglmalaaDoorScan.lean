/- The scanner's methods. -/
import Derived.Test.YtfjeheioglmalaaDoorBox
import Derived.Maps.AppendAt
import Derived.BigRegion
namespace Go.Proofs.YtfjeheioglmalaaDoor
open Go.RowKit Go.Lib
/-- A scanner's cells. -/
def Sc.arr (s : Sc) : Array Value := #[.int .i64 s.k, .int .i64 s.a, .int .i64 0, .int .i64 s.num, .int .i64 s.dig, .bool s.minus, .bool s.value]
def ScIs (w : World) (g : Nat) (s : Sc) : Prop := w.heap[g]? = some (.cells s.arr 63 (0, 0))
theorem ScIs.cells {w : World} {g : Nat} {s : Sc} (h : ScIs w g s) : w.cell? ⟨g, 0, none⟩ = some (.int .i64 s.k) ∧ w.cell? ⟨g, 1, none⟩ = some (.int .i64 s.a) ∧ w.cell? ⟨g, 2, none⟩ = some (.int .i64 0) ∧ w.cell? ⟨g, 3, none⟩ = some (.int .i64 s.num) ∧ w.cell? ⟨g, 4, none⟩ = some (.int .i64 s.dig) ∧ w.cell? ⟨g, 5, none⟩ = some (.bool s.minus) ∧ w.cell? ⟨g, 6, none⟩ = some (.bool s.value) :=
  ⟨box_cell h 0 rfl, box_cell h 1 rfl, box_cell h 2 rfl, box_cell h 3 rfl, box_cell h 4 rfl, box_cell h 5 rfl, box_cell h 6 rfl⟩
theorem ScIs.free {w : World} {g : Nat} {s : Sc} (h : ScIs w g s) (j : Nat) : w.frozen? ⟨g, j, none⟩ = false := frozen_of_row w g j _ _ h
theorem ret_b {a b : Bool} (h : a = b) : Ending.returned (.bool a) = .returned (.bool b) := by rw [h]
def ScPost (g : Nat) (w : World) (r : Sc × Bool) (e : Ending) (w' : World) : Prop := e = .returned (.bool r.2) ∧ ScIs w' g r.1 ∧ w.grownBy w' (some g)
theorem grown_refl (w : World) (r : Option Nat) : w.grownBy w r := ⟨rfl, rfl, rfl, Nat.le_refl _, fun _ _ _ => rfl⟩
theorem grown_set (w : World) (g i : Nat) (v : Value) : w.grownBy (w.setCell ⟨g, i, none⟩ v) (some g) := ⟨rfl, rfl, rfl, by simp [World.setCell], fun k _ h => Below.heap_setCell _ _ _ k (fun e => h (by rw [e]))⟩
theorem grown_draw {w w' : World} {r : Option Nat} (h : w.grownBy w' r) : w.grownBy w'.drew r := ⟨h.os, h.tape, h.output, h.size, h.block⟩
theorem digit_fin {w : World} {g : Nat} {k a num dig : Int} {minus value : Bool} (h : ScIs w g ⟨k, a, num, dig, minus, value⟩) (x y : Int) :
    ScIs ((w.setCell ⟨g, 3, none⟩ (.int .i64 x)).setCell ⟨g, 4, none⟩ (.int .i64 y)).drew g ⟨k, a, x, y, minus, value⟩ ∧ w.grownBy ((w.setCell ⟨g, 3, none⟩ (.int .i64 x)).setCell ⟨g, 4, none⟩ (.int .i64 y)).drew (some g) :=
  ⟨heap_setCell_same _ g 4 _ 63 _ (heap_setCell_same w g 3 _ 63 _ h), grown_draw ((grown_set _ _ _ _).trans (grown_set _ _ _ _))⟩
theorem digit_no {w : World} {g : Nat} {k a num dig n : Int} {minus value : Bool} (hs : ScIs w g ⟨k, a, num, dig, minus, value⟩) (h : k = 0 ∨ k = 4 ∨ (0 < dig ∧ num = 0) ∨ (minus = true ∧ dig = 0 ∧ n = 0)) :
    ScPost g w (Sc.digit ⟨k, a, num, dig, minus, value⟩ n) (.returned (.bool false)) w := by
  unfold Sc.digit
  rw [if_pos h]
  exact ⟨rfl, hs, grown_refl _ _⟩
theorem digit_yes {w : World} {g : Nat} {k a num dig n : Int} {minus value : Bool} (hs : ScIs w g ⟨k, a, num, dig, minus, value⟩) (h : ¬ (k = 0 ∨ k = 4 ∨ (0 < dig ∧ num = 0) ∨ (minus = true ∧ dig = 0 ∧ n = 0))) (y : Int) (hy : y = dig + 1) :
    ScPost g w (Sc.digit ⟨k, a, num, dig, minus, value⟩ n) (.returned (.bool (decide (10 * num + n ≤ 2147483648)))) ((w.setCell ⟨g, 3, none⟩ (.int .i64 (10 * num + n))).setCell ⟨g, 4, none⟩ (.int .i64 y)).drew := by
  subst hy
  unfold Sc.digit
  rw [if_neg h]
  exact ⟨rfl, digit_fin hs _ _⟩
set_option maxHeartbeats 1000000 in
theorem digit_walk (s : Sc) (n : Int) (g : Nat) (w : World) (hs : ScIs w g s) (h0 : 0 ≤ n) (h9 : n ≤ 9) (hn0 : 0 ≤ s.num) (hn1 : s.num ≤ 2147483648) (hd0 : 0 ≤ s.dig) (hd1 : s.dig ≤ 5000) :
    Calls Tryd.prog 47 #[.pointer (some ⟨g, 0, none⟩), .int .i64 n] w (ScPost g w (s.digit n)) := by
  obtain ⟨k, a, num, dig, minus, value⟩ := s
  simp only at hn0 hn1 hd0 hd1
  obtain ⟨c0, c1, c2, c3, c4, c5, c6⟩ := hs.cells
  have f3 := hs.free 3
  have f4 := hs.free 4
  have HS := Lib.hid hs
  simp only at c0 c1 c2 c3 c4 c5 c6
  clear hs
  go_enter Tryd.func47, Tryd.ntmps47
  go_wp2_with fail
  all_goals (try (rename dig = 0 => q; subst q))
  all_goals (try (rename minus = true => q; subst q))
  all_goals (try (rename minus = false => q; subst q))
  all_goals first
    | (go_ret; refine digit_no HS.out ?_; first | (left; assumption) | (right; left; assumption) | (right; right; left; exact ⟨by assumption, by assumption⟩) | (right; right; right; exact ⟨rfl, rfl, by simpa using ‹(n == 0) = true›⟩))
    | (go_region; go_wp2; go_ret; refine digit_yes HS.out ?_ _ rfl; rintro (h | h | ⟨h1, h2⟩ | ⟨h1, h2, h3⟩) <;> first | omega | (cases h1; done) | (have := ‹(n == 0) = false›; rw [h3] at this; cases this))
    | (exfalso; omega)
end Go.Proofs.YtfjeheioglmalaaDoor
