/- The text of an operation, by the program. -/
import Derived.Test.YtfjeheioglmalaaDoorBox
import Derived.Test.YtfjeheioglmalaaDoorShelf
import Derived.Lib.AppendIntMem
namespace Go.Proofs.YtfjeheioglmalaaDoor
open Go.RowKit Go.Lib
/-- The library's table of powers of ten. -/
def Tab (w : World) : Prop := Lib.TabIs Tryd.prog w "internal/strconv.uint64pow10" .u64 Lib.pow10Tab
theorem tab_global : ∃ g, Tryd.prog.globalNamed "internal/strconv.uint64pow10" = some g := by
  cases h : Tryd.prog.globalNamed "internal/strconv.uint64pow10" with
  | some g => exact ⟨g, rfl⟩
  | none => exact absurd (show (Tryd.prog.globalNamed "internal/strconv.uint64pow10").isSome = true by kernel_rfl) (by rw [h]; simp)
theorem Tab.below {w w' : World} (h : Tab w) (hb : Below w.heap.size w w') : Tab w' := by
  obtain ⟨g, hg⟩ := tab_global
  unfold Tab Lib.TabIs World.var? at h ⊢
  rw [hg] at h ⊢
  simp only [Option.bind_some] at h ⊢
  have hlt : g < w.heap.size := by
    rcases Nat.lt_or_ge g w.heap.size with h' | h'
    · exact h'
    · rw [Array.getElem?_eq_none h'] at h; cases h
  rw [hb.block g hlt]
  exact h
theorem itoa_walk (n : Int) (h0 : -9223372036854775808 ≤ n) (h1 : n ≤ 9223372036854775807) (w : World) (ht : Tab w) : Calls Tryd.prog 51 #[.int .i64 n] w fun e w' => e = .returned (.string ⟨(itoa n).toArray⟩) ∧ Below w.heap.size w w' :=
  (Tryd.strconv_Itoa n h0 h1 w ht).mono fun _ _ ⟨a, k, os, b⟩ => ⟨a, b ▸ below_grow _ w (Nat.le_refl _) k os⟩
theorem slice_kind (k : Nat) (h : k = 1 ∨ k = 2 ∨ k = 3 ∨ k = 4) (w : World) : (Instr.slice 9 (.string ⟨#[32, 76, 83, 88, 70]⟩) (some (.int .i64 (k : Int))) (some (.int .i64 ((k : Int) + 1))) none).run Tryd.prog w = .ok (.string ⟨[letter k].toArray⟩) w := by
  rw [run_slice_string w 9 _ .i64 .i64 _ _ Tryd.underlying9 (by omega) (by omega) (by show (k : Int) + 1 ≤ 5; omega)]
  have e1 : ((k : Int)).toNat = k := by omega
  have e2 : ((k : Int) + 1).toNat = k + 1 := by omega
  rw [e1, e2]
  have : (ByteArray.mk #[32, 76, 83, 88, 70]).extract k (k + 1) = ByteArray.mk ((([32, 76, 83, 88, 70] : List UInt8).drop k).take (k + 1 - k)).toArray := ByteArray.extract_mk [32, 76, 83, 88, 70] k (k + 1)
  rw [this]
  rcases h with rfl | rfl | rfl | rfl <;> rfl
set_option maxRecDepth 100000 in
theorem text_walk (x : PO) (hm : x.may = true) (w : World) (ht : Tab w) : Calls Tryd.prog 32 #[x.val] w fun e w' => e = .returned (.string ⟨x.txt.toArray⟩) ∧ Below w.heap.size w w' := by
  obtain ⟨k, a, v⟩ := x
  rw [may_iff] at hm
  have HT := Lib.hid ht
  clear ht
  rcases hm with ⟨rfl, a0, a1, rfl⟩ | ⟨hk, a0, a1, v0, v1⟩ | ⟨rfl, rfl, rfl⟩
  · have hL := itoa_length_le a (by omega) (by omega)
    have e : PO.txt ⟨1, a, 0⟩ = 76 :: itoa a := by simp [PO.txt, letter]
    rw [e]
    have ca := fun w => cat [76] (itoa a) (by simp) (by omega) w
    have h0 : -9223372036854775808 ≤ a := by omega
    have h1 : a ≤ 9223372036854775807 := by omega
    have HA := Lib.hid ((Below.refl w.heap.size w).alloc (Nat.le_refl _) (.cells #[.int .i64 1, .int .i64 a, .int .i64 0] 33))
    have HC := Lib.hid (itoa_walk a h0 h1 _ (HT.out.below HA.out))
    unfold PO.val PO.arr
    clear e
    go_enter Tryd.func32, Tryd.ntmps32
    go_wp2_with (go_at_call 51; refine HC.out.mono ?_; rintro e w' ⟨rfl, hb⟩; have HB := Lib.hid hb; have c0 := box_cell (v := .int .i64 1) (box_kept hb) 0 rfl; clear hb)
    go_ret
    exact ⟨rfl, HA.out.trans (HB.out.mono (by simp))⟩
  · have hL := itoa_length_le a (by omega) (by omega)
    have hL2 := itoa_length_le v (by omega) (by omega)
    have h0 : -9223372036854775808 ≤ a := by omega
    have h1 : a ≤ 9223372036854775807 := by omega
    have h2 : -9223372036854775808 ≤ v := by omega
    have h3 : v ≤ 9223372036854775807 := by omega
    rcases hk with rfl | rfl
    · have e : PO.txt ⟨2, a, v⟩ = 83 :: (itoa a ++ 61 :: itoa v) := by simp [PO.txt, letter]
      rw [e]
      have ca := fun w => cat [83] (itoa a) (by simp) (by omega) w
      have cb := fun w => cat [61] (itoa v) (by simp) (by omega) w
      have cc := fun w => cat (83 :: itoa a) (61 :: itoa v) (by simp; omega) (by simp; omega) w
      have HA := Lib.hid ((Below.refl w.heap.size w).alloc (Nat.le_refl _) (.cells #[.int .i64 2, .int .i64 a, .int .i64 v] 33))
      have HC := Lib.hid (itoa_walk a h0 h1 _ (HT.out.below HA.out))
      unfold PO.val PO.arr
      clear e
      go_enter Tryd.func32, Tryd.ntmps32
      go_wp2_with fail
      refine HC.out.mono ?_; rintro e w1 ⟨rfl, hb⟩
      have c0 := box_cell (v := .int .i64 2) (box_kept hb) 0 rfl
      have c2 := box_cell (v := .int .i64 v) (box_kept hb) 2 rfl
      have HB := Lib.hid hb
      have HD := Lib.hid (itoa_walk v h2 h3 w1 ((HT.out.below HA.out).below hb))
      clear hb
      go_wp2_with fail
      refine HD.out.mono ?_; rintro e w2 ⟨rfl, hb⟩
      have HB2 := Lib.hid hb
      clear hb c0 c2
      go_wp2
      go_ret
      exact ⟨rfl, HA.out.trans ((HB.out.mono (by simp)).trans (HB2.out.mono (by have := HB.out.size; simp at this; omega)))⟩
    · have e : PO.txt ⟨3, a, v⟩ = 88 :: (itoa a ++ 61 :: itoa v) := by simp [PO.txt, letter]
      rw [e]
      have ca := fun w => cat [88] (itoa a) (by simp) (by omega) w
      have cb := fun w => cat [61] (itoa v) (by simp) (by omega) w
      have cc := fun w => cat (88 :: itoa a) (61 :: itoa v) (by simp; omega) (by simp; omega) w
      have HA := Lib.hid ((Below.refl w.heap.size w).alloc (Nat.le_refl _) (.cells #[.int .i64 3, .int .i64 a, .int .i64 v] 33))
      have HC := Lib.hid (itoa_walk a h0 h1 _ (HT.out.below HA.out))
      unfold PO.val PO.arr
      clear e
      go_enter Tryd.func32, Tryd.ntmps32
      go_wp2_with fail
      refine HC.out.mono ?_; rintro e w1 ⟨rfl, hb⟩
      have c0 := box_cell (v := .int .i64 3) (box_kept hb) 0 rfl
      have c2 := box_cell (v := .int .i64 v) (box_kept hb) 2 rfl
      have HB := Lib.hid hb
      have HD := Lib.hid (itoa_walk v h2 h3 w1 ((HT.out.below HA.out).below hb))
      clear hb
      go_wp2_with fail
      refine HD.out.mono ?_; rintro e w2 ⟨rfl, hb⟩
      have HB2 := Lib.hid hb
      clear hb c0 c2
      go_wp2
      go_ret
      exact ⟨rfl, HA.out.trans ((HB.out.mono (by simp)).trans (HB2.out.mono (by have := HB.out.size; simp at this; omega)))⟩
  · unfold PO.val PO.arr
    go_enter Tryd.func32, Tryd.ntmps32
    go_wp2
    go_ret
    exact ⟨rfl, (Below.refl _ _).alloc (Nat.le_refl _) _⟩
end Go.Proofs.YtfjeheioglmalaaDoor
