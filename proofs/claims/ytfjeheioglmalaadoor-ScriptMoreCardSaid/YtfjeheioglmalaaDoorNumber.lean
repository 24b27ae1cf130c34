/- The reference's 'number'. -/
import Derived.Test.YtfjeheioglmalaaDoorMay
import Derived.Lib.ItoaLen
namespace Go.Proofs.YtfjeheioglmalaaDoor
open Go.RowKit Go.Lib
theorem slice_digit (d : Nat) (h : d < 10) (w : World) : (Instr.slice 9 (.string ⟨#[48, 49, 50, 51, 52, 53, 54, 55, 56, 57]⟩) (some (.int .i64 (d : Int))) (some (.int .i64 ((d : Int) + 1))) none).run Tryd.prog w = .ok (.string ⟨[UInt8.ofNat (48 + d)].toArray⟩) w := by
  rw [run_slice_string w 9 _ .i64 .i64 _ _ Tryd.underlying9 (by omega) (by omega) (by show (d : Int) + 1 ≤ 10; omega)]
  have e1 : ((d : Int)).toNat = d := by omega
  have e2 : ((d : Int) + 1).toNat = d + 1 := by omega
  rw [e1, e2]
  have : (ByteArray.mk #[48, 49, 50, 51, 52, 53, 54, 55, 56, 57]).extract d (d + 1) = ByteArray.mk ((([48, 49, 50, 51, 52, 53, 54, 55, 56, 57] : List UInt8).drop d).take (d + 1 - d)).toArray := ByteArray.extract_mk [48, 49, 50, 51, 52, 53, 54, 55, 56, 57] d (d + 1)
  rw [this]
  have : d = 0 ∨ d = 1 ∨ d = 2 ∨ d = 3 ∨ d = 4 ∨ d = 5 ∨ d = 6 ∨ d = 7 ∨ d = 8 ∨ d = 9 := by omega
  rcases this with rfl | rfl | rfl | rfl | rfl | rfl | rfl | rfl | rfl | rfl <;> rfl
theorem app_digit (d : Nat) (l : List UInt8) : (ByteArray.mk #[48 + UInt8.ofNat d] ++ ByteArray.mk l.toArray) = ByteArray.mk (UInt8.ofNat (48 + d) :: l).toArray := by
  have := ByteArray.mk_append_mk [UInt8.ofNat (48 + d)] l
  simpa using this
theorem ret_str {a b : List UInt8} (h : a = b) : Ending.returned (.string ⟨a.toArray⟩) = .returned (.string ⟨b.toArray⟩) := by rw [h]
set_option maxRecDepth 100000 in
theorem number_nat (N : Nat) (hN : N ≤ 9223372036854775807) (w : World) : Calls Tryd.prog 50 #[.int .i64 N] w fun e w' => e = .returned (.string ⟨(decDigits N).toArray⟩) ∧ w = w' := by
  have hL := itoa_length_le (N : Int) (by omega) (by omega)
  rw [itoa_nonneg] at hL
  go_enter Tryd.func50, Tryd.ntmps50
  go_wp2_with fail
  go_loop [0, 3] (fun v s => ∃ (m : Nat) (l : List UInt8), v = .int .i64 m ∧ s = .string ⟨l.toArray⟩ ∧ m ≤ N ∧ decDigits N = decDigits m ++ l) (fun v _ => (intOf v).toNat)
  case atStart => exact ⟨N, [], rfl, rfl, Nat.le_refl _, by simp⟩
  case round =>
    obtain ⟨m, l, rfl, rfl, hm, hd⟩ := hrel
    have hl : l.length ≤ 21 := by rw [hd, List.length_append] at hL; omega
    have HD := Lib.hid hd
    clear hd
    have sl := slice_digit (m % 10) (by omega) w
    have ecast : ((m % 10 : Nat) : Int) = (m : Int) % 10 := by omega
    rw [ecast] at sl
    have ca : (Op.stringOp .add ⟨[UInt8.ofNat (48 + m % 10)].toArray⟩ ⟨l.toArray⟩).run Tryd.prog w = .ok (.string ⟨(UInt8.ofNat (48 + m % 10) :: l).toArray⟩) w := run_string_add_lists w [_] l (by simp) (by omega)
    clear ecast
    by_cases h10 : m < 10
    · go_wp2_with fail
      go_ret
      refine ⟨?_, rfl⟩
      rw [app_digit]
      refine ret_str ?_
      rw [HD.out, decDigits_one h10, Nat.mod_eq_of_lt h10]
      rfl
    · go_wp2_with fail
      go_round
      case rel =>
        refine ⟨m / 10, UInt8.ofNat (48 + m % 10) :: l, by congr 1, by rw [app_digit], by omega, ?_⟩
        rw [HD.out, decDigits, dif_neg h10]
        simp
      case measure => simp [intOf]; omega
theorem neg_fits (n : Int) (h0 : -9223372036854775807 ≤ n) (h1 : n < 0) : IntKind.i64.wrap (-n) = -n := IntWalk.i64_in _ (by omega)
set_option maxRecDepth 100000 in
theorem number_walk (n : Int) (h0 : -9223372036854775807 ≤ n) (h1 : n ≤ 9223372036854775807) (w : World) : Calls Tryd.prog 50 #[.int .i64 n] w fun e w' => e = .returned (.string ⟨(itoa n).toArray⟩) ∧ w = w' := by
  by_cases hn : n < 0
  · have hL := itoa_length_le n (by omega) (by omega)
    have e : itoa n = 45 :: decDigits n.natAbs := by unfold itoa; rw [if_pos hn]
    rw [e] at hL ⊢
    have HC := Lib.hid (number_nat n.natAbs (by omega) w)
    have ea : ((n.natAbs : Nat) : Int) = -n := by omega
    rw [ea] at HC
    have hw := neg_fits n h0 hn
    have hl : (decDigits n.natAbs).length ≤ 21 := by simp at hL; omega
    have ca : (Op.stringOp .add ⟨[45].toArray⟩ ⟨(decDigits n.natAbs).toArray⟩).run Tryd.prog w = .ok (.string ⟨(45 :: decDigits n.natAbs).toArray⟩) w := run_string_add_lists w [45] _ (by simp) (by omega)
    clear e hL ea
    go_enter Tryd.func50, Tryd.ntmps50
    go_wp2_with (go_at_call 50; refine HC.out.mono ?_; rintro e w' ⟨rfl, rfl⟩)
    go_ret
    exact ⟨rfl, rfl⟩
  · rw [itoa_nat (by omega)]
    have := number_nat n.toNat (by omega) w
    rwa [show ((n.toNat : Nat) : Int) = n by omega] at this
end Go.Proofs.YtfjeheioglmalaaDoor
