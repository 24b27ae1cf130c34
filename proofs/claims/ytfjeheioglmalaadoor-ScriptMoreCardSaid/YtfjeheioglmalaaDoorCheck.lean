/- Check of package shape and of its reference. -/
import Derived.Test.YtfjeheioglmalaaDoorPower
namespace Go.Proofs.YtfjeheioglmalaaDoor
open Go.RowKit Go.Lib
set_option linter.unusedVariables false
set_option linter.unusedSimpArgs false
/-- A machine's sizes. -/
structure Cfg where
  cores : Int
  homes : Int
  sets : Int
  ways : Int
  words : Int
  lines : Int
  pointers : Int
  mshrs : Int
  buffer : Int
  writebacks : Int
  r0 : Int
  r1 : Int
  r2 : Int
  deriving DecidableEq, Inhabited
def Cfg.nums (c : Cfg) : List Int := [c.cores, c.homes, c.sets, c.ways, c.words, c.lines, c.pointers, c.mshrs, c.buffer, c.writebacks, c.r0, c.r1, c.r2]
def Cfg.arr (c : Cfg) : Array Value := #[.int .i64 c.cores, .int .i64 c.homes, .int .i64 c.sets, .int .i64 c.ways, .int .i64 c.words, .int .i64 c.lines, .int .i64 c.pointers, .int .i64 c.mshrs, .int .i64 c.buffer, .int .i64 c.writebacks, .int .i64 c.r0, .int .i64 c.r1, .int .i64 c.r2]
def Cfg.val (c : Cfg) : Value := .agg c.arr
/-- Its numbers are those of int. -/
def Cfg.fine (c : Cfg) : Prop := ∀ n ∈ c.nums, -9223372036854775808 ≤ n ∧ n ≤ 9223372036854775807
/-- May a number be (a power of two?)? -/
def fitB (n least most : Int) (p : Bool) : Bool := (!p || (decide (n ≤ 1024) && decide (1 ≤ n) && isPow n)) && decide (least ≤ n) && decide (n ≤ most)
def Cfg.bounds (c : Cfg) : List (Int × Int × Int × Bool) := [(c.cores, 1, 64, false), (c.homes, 1, 16, true), (c.sets, 1, 64, true), (c.words, 1, 8, true), (c.lines, 1, 1024, true), (c.ways, 1, 8, false), (c.pointers, 0, 8, false), (c.mshrs, 1, 8, false), (c.buffer, 1, 16, false), (c.writebacks, 1, 8, false), (c.r0, 1, 64, false), (c.r1, 1, 64, false), (c.r2, 1, 64, false)]
def Cfg.ok (c : Cfg) : Bool := c.bounds.all fun b => fitB b.1 b.2.1 b.2.2.1 b.2.2.2
def okNo (c : Cfg) : Int := if c.ok then 0 else 1
theorem fit_plain (n least most : Int) : fitB n least most false = (decide (least ≤ n) && decide (n ≤ most)) := by simp [fitB]
theorem fit_no {n most : Int} (h : 1 ≤ n → n ≤ 1024 → false = isPow n) : fitB n 1 most true = false := by
  unfold fitB
  by_cases h1 : 1 ≤ n
  · by_cases h2 : n ≤ 1024
    · simp [← h h1 h2]
    · simp [h2]
  · simp [h1]
theorem fit_yes {n most : Int} (hm : most ≤ 1024) (h1 : 1 ≤ n) (h : n ≤ 1024 → true = isPow n) : fitB n 1 most true = decide (n ≤ most) := by
  unfold fitB
  by_cases h2 : n ≤ most
  · simp [← h (by omega), h1, h2]; omega
  · simp [h2]
theorem fits_walk (n least most : Int) (p : Bool) (h0 : -9223372036854775808 ≤ n) (h1 : n ≤ 9223372036854775807) (hm : most ≤ 1024) (hl : 0 ≤ least) (hlp : p = true → least = 1) (w : World) :
    Calls Tryd.prog 46 #[.agg #[.int .i64 n, .int .i64 least, .int .i64 most, .bool p]] w fun e w' => e = .returned (.bool (fitB n least most p)) ∧ Below w.heap.size w w' := by
  cases p
  · rw [fit_plain]
    by_cases hln : least ≤ n
    · have e : (decide (least ≤ n) && decide (n ≤ most)) = decide (n ≤ most) := by simp [hln]
      rw [e]
      clear e
      go_enter Tryd.func46, Tryd.ntmps46
      go_wp2_with fail
      go_ret
      exact ⟨rfl, (Below.refl _ _).alloc (Nat.le_refl _) _⟩
    · have e : (decide (least ≤ n) && decide (n ≤ most)) = false := by simp [hln]
      rw [e]
      clear e
      go_enter Tryd.func46, Tryd.ntmps46
      go_wp2_with fail
      go_ret
      exact ⟨rfl, (Below.refl _ _).alloc (Nat.le_refl _) _⟩
  · obtain rfl := hlp rfl
    go_enter Tryd.func46, Tryd.ntmps46
    go_wp2_with fail
    refine (power_walk n h0 h1 _).mono ?_
    rintro e w' ⟨k, b, rfl, rfl, hb1, hb2⟩
    have HB1 := Lib.hid hb1
    have HB2 := Lib.hid hb2
    clear hb1 hb2
    cases b
    · go_wp2_with fail
      go_ret
      exact ⟨ret_bool (fit_no (fun a b => (HB2.out a b).1)).symm, (Below.refl _ _).alloc (Nat.le_refl _) _⟩
    · by_cases hn : 1 ≤ n
      · go_wp2_with fail
        go_ret
        exact ⟨ret_bool (fit_yes hm hn (fun b => (HB2.out hn b).1)).symm, (Below.refl _ _).alloc (Nat.le_refl _) _⟩
      · exact absurd (HB1.out (by omega)) (by simp)
theorem in_walk (n least most : Int) (w : World) : Calls Tryd.prog 55 #[.int .i64 n, .int .i64 least, .int .i64 most] w fun e w' => e = .returned (.bool (fitB n least most false)) ∧ w = w' := by
  rw [fit_plain]
  by_cases hln : least ≤ n
  · have e : (decide (least ≤ n) && decide (n ≤ most)) = decide (n ≤ most) := by simp [hln]
    rw [e]
    clear e
    go_enter Tryd.func55, Tryd.ntmps55
    go_wp2_with fail
    go_ret
    exact ⟨rfl, rfl⟩
  · have e : (decide (least ≤ n) && decide (n ≤ most)) = false := by simp [hln]
    rw [e]
    clear e
    go_enter Tryd.func55, Tryd.ntmps55
    go_wp2_with fail
    go_ret
    exact ⟨rfl, rfl⟩
theorem rpow_walk (n most : Int) (hm : most ≤ 1024) (w : World) : Calls Tryd.prog 56 #[.int .i64 n, .int .i64 most] w fun e w' => e = .returned (.bool (fitB n 1 most true)) ∧ w = w' := by
  go_enter Tryd.func56, Tryd.ntmps56
  go_wp2_with fail
  refine (rpower_walk n _).mono ?_
  rintro e w' ⟨k, b, rfl, rfl, hb1, hb2⟩
  have HB1 := Lib.hid hb1
  have HB2 := Lib.hid hb2
  clear hb1 hb2
  cases b
  · go_wp2_with fail
    go_ret
    exact ⟨ret_bool (fit_no (fun a b => (HB2.out a b).1)).symm, rfl⟩
  · by_cases hn : 1 ≤ n
    · go_wp2_with fail
      go_ret
      exact ⟨ret_bool (fit_yes hm hn (fun b => (HB2.out hn b).1)).symm, rfl⟩
    · exact absurd (HB1.out (by omega)) (by simp)
theorem ok_1 {c : Cfg} {n : Int} (hn : okNo c = n) (h : c.ok = false) : Ending.returned (.int .i64 1) = .returned (.int .i64 n) := by
  rw [← hn]
  unfold okNo
  rw [h]; rfl
theorem ok_0 {c : Cfg} {n : Int} (hn : okNo c = n) (h : c.ok = true) : Ending.returned (.int .i64 0) = .returned (.int .i64 n) := by
  rw [← hn]
  unfold okNo
  rw [h]; rfl
set_option maxRecDepth 100000 in
set_option maxHeartbeats 4000000 in
theorem rcheck_walk (c : Cfg) (w : World) : Calls Tryd.prog 36 #[c.val] w fun e w' => e = .returned (.int .i64 (okNo c)) ∧ Below w.heap.size w w' := by
  obtain ⟨cores, homes, sets, ways, words, lines, pointers, mshrs, buffer, writebacks, r0, r1, r2⟩ := c
  obtain ⟨no, hno⟩ : ∃ n, okNo ⟨cores, homes, sets, ways, words, lines, pointers, mshrs, buffer, writebacks, r0, r1, r2⟩ = n := ⟨_, rfl⟩
  rw [hno]
  have HNO := Lib.hid hno
  clear hno
  unfold Cfg.val Cfg.arr
  go_enter Tryd.func36, Tryd.ntmps36
  go_wp2_with (first | (go_at_call 55; refine (in_walk _ _ _ _).mono ?_; rintro e w' ⟨rfl, rfl⟩) | (go_at_call 56; refine (rpow_walk _ _ (by decide) _).mono ?_; rintro e w' ⟨rfl, rfl⟩))
  all_goals try (go_ret; exact ⟨ok_1 HNO.out (by simp only [Cfg.ok, Cfg.bounds, List.all_cons, List.all_nil]; first | (simp [*]; done) | (simp only [Bool.not_eq_eq_eq_not, Bool.not_true, Bool.not_false] at *; simp [*]; done)), (Below.refl _ _).alloc (Nat.le_refl _) _⟩)
  refine wp_loop_rounds 4 ?_
  rw [rounds_succ]
  go_wp2_with (first | (go_at_call 55; refine (in_walk _ _ _ _).mono ?_; rintro e w' ⟨rfl, rfl⟩))
  all_goals try (go_ret; exact ⟨ok_1 HNO.out (by simp only [Cfg.ok, Cfg.bounds, List.all_cons, List.all_nil]; first | (simp [*]; done) | (simp only [Bool.not_eq_eq_eq_not, Bool.not_true, Bool.not_false] at *; simp [*]; done)), (Below.refl _ _).alloc (Nat.le_refl _) _⟩)
  rw [rounds_succ]
  go_wp2_with (first | (go_at_call 55; refine (in_walk _ _ _ _).mono ?_; rintro e w' ⟨rfl, rfl⟩))
  all_goals try (go_ret; exact ⟨ok_1 HNO.out (by simp only [Cfg.ok, Cfg.bounds, List.all_cons, List.all_nil]; first | (simp [*]; done) | (simp only [Bool.not_eq_eq_eq_not, Bool.not_true, Bool.not_false] at *; simp [*]; done)), (Below.refl _ _).alloc (Nat.le_refl _) _⟩)
  rw [rounds_succ]
  go_wp2_with (first | (go_at_call 55; refine (in_walk _ _ _ _).mono ?_; rintro e w' ⟨rfl, rfl⟩))
  all_goals try (go_ret; exact ⟨ok_1 HNO.out (by simp only [Cfg.ok, Cfg.bounds, List.all_cons, List.all_nil]; first | (simp [*]; done) | (simp only [Bool.not_eq_eq_eq_not, Bool.not_true, Bool.not_false] at *; simp [*]; done)), (Below.refl _ _).alloc (Nat.le_refl _) _⟩)
  rw [rounds_succ]
  go_wp2_with fail
  go_ret
  exact ⟨ok_0 HNO.out (by simp only [Cfg.ok, Cfg.bounds, List.all_cons, List.all_nil]; first | (simp [*]; done) | (simp only [Bool.not_eq_eq_eq_not, Bool.not_true, Bool.not_false] at *; simp [*]; done)), (Below.refl _ _).alloc (Nat.le_refl _) _⟩
end Go.Proofs.YtfjeheioglmalaaDoor
