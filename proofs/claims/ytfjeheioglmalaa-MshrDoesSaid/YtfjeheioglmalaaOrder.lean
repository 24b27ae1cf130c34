/- The law MshrOrder answers true at all numbers: in whichever order words and acks come, all came with the last one. -/
import Derived.Test.YtfjeheioglmalaaAwake
namespace Go.Proofs.Ytfjeheioglmalaa
open Go.RowKit

/-! ### The plain law -/
/-- The miss behind i steps: acks, but for the one at 'ahead', which brings the words. -/
def mOrd (line acks ahead : Int) (gr : Bool) (x : W8) (i : Nat) : Ms :=
  if (i : Int) ≤ ahead then { Ms.new line 2 with got := i } else { (if gr then { (Ms.new line 2).filled acks 4 W8.zero with granted := true } else (Ms.new line 2).filled acks 4 x) with got := (i : Int) - 1 }
theorem mOrd_line (line acks ahead : Int) (gr : Bool) (x : W8) (i : Nat) : (mOrd line acks ahead gr x i).line = line := by
  unfold mOrd; split
  · rfl
  · cases gr <;> rfl
theorem mOrd_owes (line acks ahead : Int) (gr : Bool) (x : W8) (i : Nat) : (mOrd line acks ahead gr x i).owes = false := by
  unfold mOrd; split
  · rfl
  · cases gr <;> rfl
theorem find_one (m : Ms) : sFind [m] m.line = some 0 := by simp [sFind, List.findIdx?_cons]
theorem ord_owe {line acks ahead : Int} {gr : Bool} {x : W8} {i : Nat} (h : (i : Int) ≤ acks) : sOwe [mOrd line acks ahead gr x i] line = ((Ms.zero, false), [mOrd line acks ahead gr x i]) := by
  have h1 : (mOrd line acks ahead gr x i).needs ≠ (mOrd line acks ahead gr x i).got := by
    unfold mOrd; split
    · show (-1 : Int) ≠ i; omega
    · cases gr
      · show acks ≠ (i : Int) - 1; omega
      · show acks ≠ (i : Int) - 1; omega
  have h2 := find_one (mOrd line acks ahead gr x i)
  rw [mOrd_line] at h2
  unfold sOwe
  rw [h2]
  simp only [List.getD_cons_zero]
  rw [if_pos (.inr h1)]
theorem ord_grant {line acks ahead : Int} {x : W8} {i : Nat} (h : (i : Int) = ahead) (ha : ahead ≤ acks) : sGrant [mOrd line acks ahead true x i] line acks = (0, [mOrd line acks ahead true x (i + 1)]) := by
  have h2 := find_one (mOrd line acks ahead true x i)
  rw [mOrd_line] at h2
  have e1 : mOrd line acks ahead true x i = { Ms.new line 2 with got := (i : Int) } := by unfold mOrd; rw [if_pos (by omega)]
  have e2 : mOrd line acks ahead true x (i + 1) = { (Ms.new line 2).filled acks 4 W8.zero with granted := true, got := (i : Int) } := by
    unfold mOrd; rw [if_neg (by omega)]; simp
  have e3 : fGrant acks (mOrd line acks ahead true x i) = (0, mOrd line acks ahead true x (i + 1)) := by
    unfold fGrant
    rw [if_pos ?_]
    · rw [e2, e1]; rfl
    · rw [e1]; simp [fitsB, Ms.new]; omega
  unfold sGrant sOn
  rw [h2]
  simp only [List.getD_cons_zero]
  rw [e3, if_pos rfl]
  rfl
theorem ord_data {line acks ahead : Int} {x : W8} {i : Nat} (h : (i : Int) = ahead) (ha : ahead ≤ acks) : sData [mOrd line acks ahead false x i] line acks 4 x = (0, [mOrd line acks ahead false x (i + 1)]) := by
  have h2 := find_one (mOrd line acks ahead false x i)
  rw [mOrd_line] at h2
  have e1 : mOrd line acks ahead false x i = { Ms.new line 2 with got := (i : Int) } := by unfold mOrd; rw [if_pos (by omega)]
  have e2 : mOrd line acks ahead false x (i + 1) = { (Ms.new line 2).filled acks 4 x with got := (i : Int) } := by
    unfold mOrd; rw [if_neg (by omega)]; simp
  have e3 : fData acks 4 x (mOrd line acks ahead false x i) = (0, mOrd line acks ahead false x (i + 1)) := by
    unfold fData
    rw [if_pos ?_]
    · rw [e2, e1]; rfl
    · rw [e1]; simp [fitsB, Ms.new]; omega
  unfold sData sOn
  rw [h2]
  simp only [List.getD_cons_zero]
  rw [e3, if_pos rfl]
  rfl
theorem ord_ack {line acks ahead : Int} {gr : Bool} {x : W8} {i : Nat} (h : (i : Int) ≠ ahead) (ha : (i : Int) ≤ acks) : sAck [mOrd line acks ahead gr x i] line = (0, [mOrd line acks ahead gr x (i + 1)]) := by
  have h2 := find_one (mOrd line acks ahead gr x i)
  rw [mOrd_line] at h2
  have e3 : fAck (mOrd line acks ahead gr x i) = (0, mOrd line acks ahead gr x (i + 1)) := by
    unfold fAck
    by_cases hi : (i : Int) ≤ ahead
    · have e1 : mOrd line acks ahead gr x i = { Ms.new line 2 with got := (i : Int) } := by unfold mOrd; rw [if_pos hi]
      have e2 : mOrd line acks ahead gr x (i + 1) = { Ms.new line 2 with got := (i : Int) + 1 } := by unfold mOrd; rw [if_pos (by omega)]; simp
      rw [e1, e2, if_neg (by show ¬ ((2 : Int) = 1 ∨ (-1 : Int) = (i : Int)); omega)]
    · have e1 : mOrd line acks ahead gr x i = { (if gr then { (Ms.new line 2).filled acks 4 W8.zero with granted := true } else (Ms.new line 2).filled acks 4 x) with got := (i : Int) - 1 } := by unfold mOrd; rw [if_neg hi]
      have e2 : mOrd line acks ahead gr x (i + 1) = { (if gr then { (Ms.new line 2).filled acks 4 W8.zero with granted := true } else (Ms.new line 2).filled acks 4 x) with got := (i : Int) } := by unfold mOrd; rw [if_neg (by omega)]; simp
      rw [e1, e2]
      cases gr
      · rw [if_neg (by simp [Ms.new, Ms.filled]; omega)]; simp
      · rw [if_neg (by simp [Ms.new, Ms.filled]; omega)]; simp
  unfold sAck sOn
  rw [h2]
  simp only [List.getD_cons_zero]
  rw [e3, if_pos rfl]
  rfl
theorem ord_got {line acks ahead : Int} {gr : Bool} {x : W8} {i : Nat} (h : (i : Int) ≤ 64) (h0 : 0 ≤ ahead) : ∀ m ∈ [mOrd line acks ahead gr x i], 0 ≤ m.got ∧ m.got ≤ 1000 := by
  intro m hm
  simp only [List.mem_singleton] at hm
  subst hm
  unfold mOrd; split
  · show 0 ≤ (i : Int) ∧ (i : Int) ≤ 1000; omega
  · show 0 ≤ (i : Int) - 1 ∧ (i : Int) - 1 ≤ 1000; omega
/-- The miss at the end. -/
def mEnd (line acks : Int) (gr : Bool) (x : W8) : Ms := if gr then { (Ms.new line 2).filled acks 4 W8.zero with granted := true, got := acks } else { (Ms.new line 2).filled acks 4 x with got := acks }
theorem ord_end {line acks ahead : Int} {gr : Bool} {x : W8} {i : Nat} (h : (i : Int) = acks + 1) (ha : ahead ≤ acks) : mOrd line acks ahead gr x i = mEnd line acks gr x := by
  unfold mOrd mEnd
  rw [if_neg (by omega), h]
  cases gr <;> simp
theorem end_line (line acks : Int) (gr : Bool) (x : W8) : (mEnd line acks gr x).line = line := by cases gr <;> rfl
theorem end_owe (line acks : Int) (gr : Bool) (x : W8) : sOwe [mEnd line acks gr x] line = ((mEnd line acks gr x, true), [{ mEnd line acks gr x with owes := true }]) := by
  have h2 := find_one (mEnd line acks gr x)
  rw [end_line] at h2
  unfold sOwe
  rw [h2]
  simp only [List.getD_cons_zero]
  rw [if_neg ?_]
  · rfl
  · cases gr <;> simp [mEnd, Ms.new, Ms.filled]
theorem end_ack (line acks : Int) (gr : Bool) (x : W8) : sAck [{ mEnd line acks gr x with owes := true }] line = (7, [{ mEnd line acks gr x with owes := true }]) := by
  have h2 := find_one { mEnd line acks gr x with owes := true }
  rw [show ({ mEnd line acks gr x with owes := true } : Ms).line = line from end_line line acks gr x] at h2
  have e3 : fAck { mEnd line acks gr x with owes := true } = (7, { mEnd line acks gr x with owes := true }) := by
    unfold fAck
    rw [if_pos (.inr (by cases gr <;> rfl))]
  unfold sAck sOn
  rw [h2]
  simp only [List.getD_cons_zero]
  rw [e3, if_neg (by simp)]
theorem end_close (line acks : Int) (gr : Bool) (x : W8) : sClose [{ mEnd line acks gr x with owes := true }] line = (0, []) := by
  have h2 := find_one { mEnd line acks gr x with owes := true }
  rw [show ({ mEnd line acks gr x with owes := true } : Ms).line = line from end_line line acks gr x] at h2
  unfold sClose
  rw [h2]
  rfl
theorem ord_open (line : Int) : sOpen 1 [] line 2 = (0, [Ms.new line 2]) := rfl
theorem ord_zero {line acks ahead : Int} {gr : Bool} {x : W8} (h : 0 ≤ ahead) : mOrd line acks ahead gr x 0 = Ms.new line 2 := by
  unfold mOrd; rw [if_pos (by simpa using h)]; rfl
end Go.Proofs.Ytfjeheioglmalaa
