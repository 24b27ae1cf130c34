/- Power of package shape and of its reference. -/
import Derived.Test.YtfjeheioglmalaaDoorBox
namespace Go.Proofs.YtfjeheioglmalaaDoor
open Go.RowKit Go.Lib
set_option linter.unusedVariables false
/-- Which power of two a number up to 1024 is. -/
def powLog (n : Int) : Option Nat := (List.range 11).find? fun m => decide (n = 2 ^ m)
def isPow (n : Int) : Bool := (powLog n).isSome
def lg (n : Int) : Int := (powLog n).getD 0
def PowPost (n : Int) (w : World) (e : Ending) (w' : World) : Prop :=
  ∃ (k : Int) (b : Bool), e = .returned (.tuple #[.int .i64 k, .bool b]) ∧ w = w' ∧ (n < 1 → b = false) ∧ (1 ≤ n → n ≤ 1024 → b = isPow n ∧ k = lg n)
set_option maxRecDepth 100000 in
theorem land_pow (n : Int) (h0 : 1 ≤ n) (h1 : n ≤ 1024) : (bits .and .i64 n (n - 1) == 0) = isPow n := by
  have key : ∀ k : Fin 1025, 1 ≤ k.val → (bits .and .i64 (k.val : Int) ((k.val : Int) - 1) == 0) = isPow (k.val : Int) := by decide +kernel
  have := key ⟨n.toNat, by omega⟩ (by show 1 ≤ n.toNat; omega)
  rwa [show (((⟨n.toNat, by omega⟩ : Fin 1025).val : Nat) : Int) = n by show ((n.toNat : Nat) : Int) = n; omega] at this
theorem powLog_some {n : Int} {m : Nat} (h : powLog n = some m) : m < 11 ∧ n = 2 ^ m := by
  have h1 := List.mem_of_find?_eq_some h
  have h2 := List.find?_some h
  exact ⟨by simpa using h1, by simpa using h2⟩
theorem lg_none {n : Int} (h : isPow n = false) : lg n = 0 := by
  unfold isPow at h
  unfold lg
  cases hp : powLog n with
  | none => rfl
  | some m => rw [hp] at h; cases h
theorem log_up : ∀ m : Fin 11, ∀ k : Fin 11, k < m → (1 : Int) < (2 ^ m.val) / 2 ^ k.val := by decide +kernel
theorem log_at : ∀ m : Fin 11, ¬ (1 : Int) < (2 ^ m.val) / 2 ^ m.val := by decide +kernel
theorem lg_exit {n : Int} {k : Nat} (hp : isPow n = true) (hno : ∀ j, j < k → (1 : Int) < n / 2 ^ j) (h : ¬ (1 : Int) < n / 2 ^ k) : (k : Int) = lg n := by
  unfold isPow at hp
  cases hq : powLog n with
  | none => rw [hq] at hp; cases hp
  | some m =>
    obtain ⟨hm, rfl⟩ := powLog_some hq
    unfold lg
    rw [hq]
    show (k : Int) = (m : Int)
    rcases Nat.lt_trichotomy k m with hlt | rfl | hgt
    · exact absurd (log_up ⟨m, hm⟩ ⟨k, by omega⟩ hlt) h
    · rfl
    · exact absurd (hno m hgt) (log_at ⟨m, hm⟩)
set_option maxRecDepth 100000 in
theorem power_walk (n : Int) (h0 : -9223372036854775808 ≤ n) (h1 : n ≤ 9223372036854775807) (w : World) : Calls Tryd.prog 39 #[.int .i64 n] w (PowPost n w) := by
  by_cases hn : n < 1
  · go_enter Tryd.func39, Tryd.ntmps39
    go_wp2_with fail
    go_ret2
    exact ⟨0, false, rfl, rfl, fun _ => rfl, fun h => by omega⟩
  · by_cases hb : bits .and .i64 n (n - 1) = 0
    · have hq : (bits BinOp.and IntKind.i64 n (n - 1) != 0) = false := by simp [hb]
      have HB := Lib.hid hb
      clear hb
      go_enter Tryd.func39, Tryd.ntmps39
      go_wp2_with fail
      go_loop [4] (fun v => ∃ k : Nat, v = .int .i64 k ∧ k ≤ 63 ∧ ∀ j, j < k → (1 : Int) < n / 2 ^ j) (fun v => 64 - (RowKit.intOf v).toNat)
      case atStart => exact ⟨0, rfl, by omega, fun j hj => by omega⟩
      case round =>
        obtain ⟨k, rfl, hk, hno⟩ := hrel
        have HNO := Lib.hid hno
        clear hno hq
        by_cases ht : (1 : Int) < n / 2 ^ k
        · have hk63 : k < 63 := by
            rcases Nat.lt_or_ge k 63 with h | h
            · exact h
            · obtain rfl : k = 63 := by omega
              rw [show (2 : Int) ^ 63 = 9223372036854775808 by decide] at ht
              omega
          go_wp2_with fail
          go_round
          case rel => exact ⟨k + 1, by go_num, by omega, fun j hj => by
            rcases Nat.lt_succ_iff_lt_or_eq.1 hj with h | h
            · exact HNO.out j h
            · subst h; exact ht⟩
          case measure => simp [RowKit.intOf]; omega
        · go_wp2_with fail
          go_ret2
          refine ⟨k, true, rfl, rfl, fun h => by omega, fun a b => ?_⟩
          have hp : isPow n = true := by rw [← land_pow n a b, HB.out]; rfl
          exact ⟨hp.symm, lg_exit hp HNO.out (by omega)⟩
    · have hq : (bits BinOp.and IntKind.i64 n (n - 1) != 0) = true := by simp [hb]
      have HB := Lib.hid hb
      clear hb
      go_enter Tryd.func39, Tryd.ntmps39
      go_wp2_with fail
      go_ret2
      refine ⟨0, false, rfl, rfl, fun _ => rfl, fun a b => ?_⟩
      have hp : isPow n = false := by rw [← land_pow n a b]; simpa using HB.out
      exact ⟨hp.symm, (lg_none hp).symm⟩
theorem pow_range (k : Nat) (h : k ≤ 62) : (1 : Int) ≤ 2 ^ k ∧ (2 : Int) ^ k ≤ 4611686018427387904 := by
  have key : ∀ k : Fin 63, (1 : Int) ≤ 2 ^ k.val ∧ (2 : Int) ^ k.val ≤ 4611686018427387904 := by decide +kernel
  exact key ⟨k, by omega⟩
theorem pow_pos (k : Nat) (h : k ≤ 62) : (1 : Int) ≤ 2 ^ k := by
  have key : ∀ k : Fin 63, (1 : Int) ≤ 2 ^ k.val := by decide +kernel
  exact key ⟨k, by omega⟩
theorem powLog_of {n : Int} {k : Nat} (h : n = 2 ^ k) (h1 : n ≤ 1024) (hk : k ≤ 62) : powLog n = some k := by
  have key : ∀ k : Fin 63, (2 : Int) ^ k.val ≤ 1024 → powLog (2 ^ k.val) = some k.val := by decide +kernel
  subst h
  exact key ⟨k, by omega⟩ h1
set_option maxRecDepth 100000 in
theorem rpower_walk (n : Int) (w : World) : Calls Tryd.prog 57 #[.int .i64 n] w (PowPost n w) := by
  go_enter Tryd.func57, Tryd.ntmps57
  go_wp2_with fail
  go_loop [4, 5] (fun p v => ∃ k : Nat, v = .int .i64 k ∧ k ≤ 63 ∧ (k ≤ 62 → p = .int .i64 (2 ^ k)) ∧ (∃ q, p = .int .i64 q) ∧ ∀ j, j < k → n ≠ 2 ^ j) (fun _ v => 64 - (RowKit.intOf v).toNat)
  case atStart => exact ⟨0, rfl, by omega, fun _ => rfl, ⟨1, rfl⟩, fun j hj => by omega⟩
  case round =>
    obtain ⟨k, rfl, hk, hp, ⟨q, rfl⟩, hno⟩ := hrel
    have HNO := Lib.hid hno
    clear hno
    by_cases hk2 : k ≤ 62
    · have hq := hp hk2
      injection hq with _ hq
      subst hq
      clear hp
      have hpp := Lib.hid (pow_pos k hk2)
      obtain ⟨x, hx⟩ : ∃ x : Int, (2 : Int) ^ k = x := ⟨_, rfl⟩
      have HX := Lib.hid hx
      rw [hx]
      clear hx
      have hlt : (k : Int) < 63 := by omega
      by_cases he : x = n
      · have he' : (x == n) = true := by simp [he]
        have HE := Lib.hid he
        clear he
        go_wp2_with fail
        go_ret2
        have hpos := hpp.out
        rw [HX.out, HE.out] at hpos
        refine ⟨k, true, rfl, rfl, fun h => by omega, fun a b => ?_⟩
        have := powLog_of (n := n) (k := k) (by rw [HX.out, HE.out]) b hk2
        exact ⟨by unfold isPow; rw [this]; rfl, by unfold lg; rw [this]; rfl⟩
      · have he' : (x == n) = false := by simpa using he
        go_wp2_with fail
        go_round
        case rel =>
          refine ⟨k + 1, by go_num, by omega, fun h => ?_, ⟨_, rfl⟩, fun j hj => ?_⟩
          · have h2 : 2 * x = 2 ^ (k + 1) := by rw [Int.pow_succ, HX.out, Int.mul_comm]
            have hr := pow_range (k + 1) h
            rw [h2, IntWalk.wrap64_in _ (by omega)]
          · rcases Nat.lt_succ_iff_lt_or_eq.1 hj with h | h
            · exact HNO.out j h
            · subst h; rw [HX.out]; exact fun e => he e.symm
        case measure => simp [RowKit.intOf]; omega
    · have hge : ¬ (k : Int) < 63 := by omega
      go_wp2_with fail
      go_ret2
      refine ⟨0, false, rfl, rfl, fun _ => rfl, fun a b => ?_⟩
      have hnp : powLog n = none := by
        cases hq : powLog n with
        | none => rfl
        | some m =>
          obtain ⟨hm, e⟩ := powLog_some hq
          exact absurd e (HNO.out m (by omega))
      exact ⟨by unfold isPow; rw [hnp]; rfl, by unfold lg; rw [hnp]; rfl⟩
end Go.Proofs.YtfjeheioglmalaaDoor
