/- The text of an operation, by the reference and by the program. -/
import Derived.Test.YtfjeheioglmalaaDoorNumber
import Derived.StillTailTactics
namespace Go.Proofs.YtfjeheioglmalaaDoor
open Go.RowKit Go.Lib
theorem cat (x y : List UInt8) (hx : x.length ≤ 1000000) (hy : y.length ≤ 1000000) (w : World) : (Op.stringOp .add ⟨x.toArray⟩ ⟨y.toArray⟩).run Tryd.prog w = .ok (.string ⟨(x ++ y).toArray⟩) w := run_string_add_lists w x y (by omega) (by omega)
theorem number_same (n : Int) (h0 : -9223372036854775807 ≤ n) (h1 : n ≤ 9223372036854775807) (w : World) : Calls Tryd.prog 50 #[.int .i64 n] w fun e w' => e = .returned (.string ⟨(itoa n).toArray⟩) ∧ w' = w :=
  (number_walk n h0 h1 w).mono fun _ _ ⟨a, b⟩ => ⟨a, b.symm⟩
set_option maxRecDepth 100000 in
theorem rtext_walk (x : PO) (hm : x.may = true) (w : World) : Calls Tryd.prog 31 #[x.val] w fun e w' => e = .returned (.string ⟨x.txt.toArray⟩) ∧ Below w.heap.size w w' := by
  obtain ⟨k, a, v⟩ := x
  rw [may_iff] at hm
  rcases hm with ⟨rfl, a0, a1, rfl⟩ | ⟨hk, a0, a1, v0, v1⟩ | ⟨rfl, rfl, rfl⟩
  · have hL := itoa_length_le a (by omega) (by omega)
    have e : PO.txt ⟨1, a, 0⟩ = 76 :: itoa a := by simp [PO.txt, letter]
    rw [e]
    have ca := fun w => cat [76] (itoa a) (by simp) (by omega) w
    have h0 : -9223372036854775807 ≤ a := by omega
    have h1 : a ≤ 9223372036854775807 := by omega
    unfold PO.val PO.arr
    clear e
    go_enter Tryd.func31, Tryd.ntmps31
    go_wp2_with (go_at_call 50; refine (number_walk a h0 h1 _).mono ?_; rintro e w' ⟨rfl, hb⟩; have HB := Lib.hid hb; clear hb)
    go_ret
    exact ⟨rfl, HB.out ▸ (Below.refl _ _).alloc (Nat.le_refl _) _⟩
  · have hL := itoa_length_le a (by omega) (by omega)
    have hL2 := itoa_length_le v (by omega) (by omega)
    have h0 : -9223372036854775807 ≤ a := by omega
    have h1 : a ≤ 9223372036854775807 := by omega
    have h2 : -9223372036854775807 ≤ v := by omega
    have h3 : v ≤ 9223372036854775807 := by omega
    rcases hk with rfl | rfl
    · have e : PO.txt ⟨2, a, v⟩ = 83 :: (itoa a ++ 61 :: itoa v) := by simp [PO.txt, letter]
      rw [e]
      have ca := fun w => cat [83] (itoa a) (by simp) (by omega) w
      have cb := fun w => cat (83 :: itoa a) [61] (by simp; omega) (by simp) w
      have cc := fun w => cat (83 :: (itoa a ++ [61])) (itoa v) (by simp; omega) (by omega) w
      have HA := Lib.hid ((Below.refl w.heap.size w).alloc (Nat.le_refl _) (.cells #[.int .i64 2, .int .i64 a, .int .i64 v] 33))
      have c1 : (w.alloc (.cells #[.int .i64 2, .int .i64 a, .int .i64 v] 33)).cell? ⟨w.heap.size, 1, none⟩ = some (.int .i64 a) := by simp [go_sem]
      have c2 : (w.alloc (.cells #[.int .i64 2, .int .i64 a, .int .i64 v] 33)).cell? ⟨w.heap.size, 2, none⟩ = some (.int .i64 v) := by simp [go_sem]
      unfold PO.val PO.arr
      clear e
      go_enter Tryd.func31, Tryd.ntmps31
      go_wp2_with fail
      generalize w.alloc (.cells #[.int .i64 2, .int .i64 a, .int .i64 v] 33) = w1 at HA c1 c2 ⊢
      refine wp_region_still_lit (by kernel_rfl) (by kernel_rfl) ?_
      still_step
      still_step
      still_step
      still_call (number_same a h0 h1 _)
      still_step
      still_step
      still_step
      still_step
      still_call (number_same v h2 h3 _)
      still_step
      still_step
      refine wpStill_nil ?_
      clear c1 c2 ca cb cc
      change Exit.then _ _ _ _ (w1.drewN 1)
      go_wp2
      go_ret
      exact ⟨rfl, ⟨HA.out.os, HA.out.tape, HA.out.output, HA.out.size, HA.out.block⟩⟩
    · have e : PO.txt ⟨3, a, v⟩ = 88 :: (itoa a ++ 61 :: itoa v) := by simp [PO.txt, letter]
      rw [e]
      have ca := fun w => cat [88] (itoa a) (by simp) (by omega) w
      have cb := fun w => cat (88 :: itoa a) [61] (by simp; omega) (by simp) w
      have cc := fun w => cat (88 :: (itoa a ++ [61])) (itoa v) (by simp; omega) (by omega) w
      have HA := Lib.hid ((Below.refl w.heap.size w).alloc (Nat.le_refl _) (.cells #[.int .i64 3, .int .i64 a, .int .i64 v] 33))
      have c1 : (w.alloc (.cells #[.int .i64 3, .int .i64 a, .int .i64 v] 33)).cell? ⟨w.heap.size, 1, none⟩ = some (.int .i64 a) := by simp [go_sem]
      have c2 : (w.alloc (.cells #[.int .i64 3, .int .i64 a, .int .i64 v] 33)).cell? ⟨w.heap.size, 2, none⟩ = some (.int .i64 v) := by simp [go_sem]
      unfold PO.val PO.arr
      clear e
      go_enter Tryd.func31, Tryd.ntmps31
      go_wp2_with fail
      generalize w.alloc (.cells #[.int .i64 3, .int .i64 a, .int .i64 v] 33) = w1 at HA c1 c2 ⊢
      refine wp_region_still_lit (by kernel_rfl) (by kernel_rfl) ?_
      still_step
      still_step
      still_step
      still_call (number_same a h0 h1 _)
      still_step
      still_step
      still_step
      still_step
      still_call (number_same v h2 h3 _)
      still_step
      still_step
      refine wpStill_nil ?_
      clear c1 c2 ca cb cc
      change Exit.then _ _ _ _ (w1.drewN 1)
      go_wp2
      go_ret
      exact ⟨rfl, ⟨HA.out.os, HA.out.tape, HA.out.output, HA.out.size, HA.out.block⟩⟩
  · unfold PO.val PO.arr
    go_enter Tryd.func31, Tryd.ntmps31
    go_wp2
    go_ret
    exact ⟨rfl, (Below.refl _ _).alloc (Nat.le_refl _) _⟩
end Go.Proofs.YtfjeheioglmalaaDoor
