/- May of package program and of its reference. -/
import Derived.Test.YtfjeheioglmalaaDoorBack
import Derived.Test.YtfjeheioglmalaaDoorProg
import Derived.WalkKit
import Derived.BigQuiet
import Derived.Deep.QuietTactic
import Derived.Deep.DeepMust
import Derived.Deep.MidRow
import Derived.Lib.Hide
import Derived.BigGuardPart
namespace Go.Proofs.YtfjeheioglmalaaDoor
open Go.RowKit
set_option linter.unusedSimpArgs false
def PO.arr (x : PO) : Array Value := #[.int .i64 x.k, .int .i64 x.a, .int .i64 x.v]
def PO.val (x : PO) : Value := .agg x.arr
theorem ret_bool {a b : Bool} (h : a = b) : Ending.returned (.bool a) = .returned (.bool b) := by rw [h]
theorem may_iff (k a v : Int) : PO.may ⟨k, a, v⟩ = true ↔ (k = 1 ∧ 0 ≤ a ∧ a ≤ 8191 ∧ v = 0) ∨ ((k = 2 ∨ k = 3) ∧ 0 ≤ a ∧ a ≤ 8191 ∧ -2147483648 ≤ v ∧ v ≤ 2147483647) ∨ (k = 4 ∧ a = 0 ∧ v = 0) := by
  unfold PO.may
  simp only
  by_cases h1 : k = 1
  · rw [if_pos h1]; simp; omega
  · rw [if_neg h1]
    by_cases h2 : k = 2 ∨ k = 3
    · rw [if_pos h2]; simp; omega
    · rw [if_neg h2]; simp; omega
theorem may_eq {b : Bool} {k a v : Int} (h : b = true ↔ (k = 1 ∧ 0 ≤ a ∧ a ≤ 8191 ∧ v = 0) ∨ ((k = 2 ∨ k = 3) ∧ 0 ≤ a ∧ a ≤ 8191 ∧ -2147483648 ≤ v ∧ v ≤ 2147483647) ∨ (k = 4 ∧ a = 0 ∧ v = 0)) : Ending.returned (.bool b) = .returned (.bool (PO.may ⟨k, a, v⟩)) := by
  rw [Bool.eq_iff_iff.2 (h.trans (may_iff k a v).symm)]
theorem may_walk (x : PO) (w : World) : Calls Tryd.prog 16 #[x.val] w fun e w' => e = .returned (.bool x.may) ∧ Below w.heap.size w w' := by
  obtain ⟨k, a, v⟩ := x
  unfold PO.val PO.arr
  go_enter Tryd.func16, Tryd.ntmps16
  go_wp2
  all_goals (go_ret; refine ⟨may_eq ?_, (Below.refl _ _).alloc (Nat.le_refl _) _⟩; simp only [beq_iff_eq, beq_eq_false_iff_ne, ne_eq, Bool.and_eq_true, Bool.or_eq_true, decide_eq_true_eq, decide_eq_false_iff_not, Bool.false_eq_true, false_iff, true_iff, Bool.true_eq_false, bne_iff_ne, bne_eq_false_iff_eq, Bool.and_eq_false_iff, Bool.or_eq_false_iff, Decidable.not_not, Bool.not_eq_true, Bool.not_eq_false] at *; (first | omega | (simp; done) | (simp; omega)))
theorem rmay_walk (x : PO) (w : World) : Calls Tryd.prog 17 #[x.val] w fun e w' => e = .returned (.bool x.may) ∧ Below w.heap.size w w' := by
  obtain ⟨k, a, v⟩ := x
  unfold PO.val PO.arr
  go_enter Tryd.func17, Tryd.ntmps17
  go_wp2
  all_goals (go_ret; refine ⟨may_eq ?_, (Below.refl _ _).alloc (Nat.le_refl _) _⟩; simp only [beq_iff_eq, beq_eq_false_iff_ne, ne_eq, Bool.and_eq_true, Bool.or_eq_true, decide_eq_true_eq, decide_eq_false_iff_not, Bool.false_eq_true, false_iff, true_iff, Bool.true_eq_false, bne_iff_ne, bne_eq_false_iff_eq, Bool.and_eq_false_iff, Bool.or_eq_false_iff, Decidable.not_not, Bool.not_eq_true, Bool.not_eq_false] at *; (first | omega | (simp; done) | (simp; omega)))
end Go.Proofs.YtfjeheioglmalaaDoor
