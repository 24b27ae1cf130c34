/- The reference file of misses (package mesneref10): place, Get, Owing, Ack, New: what each comes to. -/
import Derived.Test.YtfjeheioglmalaaInv
namespace Go.Proofs.Ytfjeheioglmalaa
open Go.RowKit

theorem rplace {B fb : Nat} {sv : Value} {room : Int} {l : List Ms} (line : Int) (w : World) (hm : l.length ≤ 1000) (hf : FileIs w 52 39 B fb sv room l) :
    Calls Try.prog 31 #[.pointer (some ⟨fb, 0, none⟩), .int .i64 line] w fun e w' => e = .returned (.int .i64 (place l (fun m => m.line == line))) ∧ w = w' := by
  by_cases hl : 0 < l.length
  · obtain ⟨g, c, rfl⟩ := hf.form hl
    have h1 := hf.head1
    have HF := Lib.hid hf
    clear hf hl
    go_enter Try.func31, Try.ntmps31
    go_wp2_with fail
    go_loopw [5] (fun v wr => ∃ k : Nat, v = .int .i64 k ∧ k ≤ l.length ∧ (∀ j, j < k → ∀ m, l[j]? = some m → (m.line == line) = false) ∧ wr = w) (fun v _ => l.length - (intOf v).toNat)
    case atStart => exact ⟨0, rfl, by omega, fun j hj => by omega, rfl⟩
    case round =>
      obtain ⟨k, rfl, hk, hno, rfl⟩ := hrel
      have HNO := Lib.hid hno
      clear hno
      by_cases hlt : k < l.length
      · obtain ⟨m, hm1⟩ : ∃ m, l[k]? = some m := ⟨_, List.getElem?_eq_getElem hlt⟩
        have c0 := HF.out.elem hm1 0 _ rfl
        rw [Nat.add_zero] at c0
        have HM := Lib.hid hm1
        clear hm1
        cases hpm : (m.line == line)
        · go_wp2_with fail
          go_roundw
          case rel => exact ⟨k + 1, by go_num, by omega, (fun j hj m' hm' => by
            rcases Nat.lt_succ_iff_lt_or_eq.1 hj with h | h
            · exact HNO.out j h m' hm'
            · subst h; rw [HM.out] at hm'; injection hm' with hm'; subst hm'; exact hpm), trivial⟩
          case measure => simp [intOf]; omega
        · go_wp2_with fail
          go_ret
          exact ⟨ret_int (place_some (findIdx_some l (fun m => m.line == line) k m HM.out hpm HNO.out)).symm, rfl⟩
      · have hkn : k = l.length := by omega
        go_wp2_with fail
        go_ret
        exact ⟨ret_int (place_none (findIdx_none l (fun m => m.line == line) (by rw [← hkn]; exact HNO.out))).symm, rfl⟩
  · have e0 : l = [] := List.eq_nil_of_length_eq_zero (by omega)
    subst e0
    obtain ⟨A, c, rfl⟩ := own_form hf.row
    have h1 := hf.head1
    clear hf
    go_enter Try.func31, Try.ntmps31
    go_wp2_with fail
    refine wp_loop_rounds 1 ?_
    rw [rounds_succ]
    go_wp2_with fail
    go_ret
    exact ⟨rfl, rfl⟩

theorem box_same {w w' : World} {o : Obj} (h : w.alloc o = w') : w'.heap[w.heap.size]? = some o := h ▸ heap_alloc_new w o
theorem below_same {w w' : World} {o : Obj} (h : w.alloc o = w') : Below w.heap.size w w' := h ▸ (Below.refl _ _).alloc (Nat.le_refl _) _
theorem rget_none {B fb : Nat} {sv : Value} {room : Int} {l : List Ms} (line : Int) (w : World) (hm : l.length ≤ 1000) (hf : FileIs w 52 39 B fb sv room l) (hi : l.findIdx? (fun m => m.line == line) = none) :
    Calls Try.prog 14 #[.pointer (some ⟨fb, 0, none⟩), .int .i64 line] w fun e w' => e = .returned (.tuple #[Ms.zero.val, .bool false]) ∧ Below w.heap.size w w' := by
  have HF := Lib.hid hf
  have HI := Lib.hid (place_none hi)
  clear hf hi
  go_enter Try.func14, Try.ntmps14
  go_wp2_with (first | (go_at_call 31; refine (rplace _ _ hm (HF.out.below ((Below.refl _ _).alloc (Nat.le_refl _) _))).mono ?_; rintro e w' ⟨rfl, hb⟩; rw [HI.out]; have HX := Lib.hid (box_same hb); subst hb) | (refine wpList_store_box rfl 39 (.tmp 4) _ rfl _ Ms.zero.cells.toArray rfl rfl 39 _ HX.out Try.size39 rfl (Ms.all _) ?_; intro w2 hx2 hc2; have HX2 := Lib.hid hx2; have HC2 := Lib.hid hc2; clear hx2 hc2))
  refine ret_cell_tmp (p := 4) (q := 5) (ty := 39) rfl w.heap.size 39 Ms.zero.cells.toArray _ _ _ rfl rfl HX2.out Try.underlying39 rfl Try.size39 rfl ⟨rfl, ?_⟩
  exact ((Below.refl _ _).alloc (Nat.le_refl _) _).trans (HC2.out.below (by simp) (by intro i hi e; omega))
theorem rget_some {B fb g n c : Nat} {room : Int} {l : List Ms} (line : Int) (w : World) (hm : l.length ≤ 1000) (hf : FileIs w 52 39 B fb (.slice (some ⟨g, 0, none⟩) n c) room l) {i : Nat} {m : Ms} (hi : l.findIdx? (fun m => m.line == line) = some i) (hmi : l[i]? = some m) :
    Calls Try.prog 14 #[.pointer (some ⟨fb, 0, none⟩), .int .i64 line] w fun e w' => e = .returned (.tuple #[m.val, .bool true]) ∧ Below w.heap.size w w' := by
  have h1 := hf.head1
  have hfb := hf.lt
  have hlt : i < n := by rw [hf.len]; exact (List.getElem?_eq_some_iff.1 hmi).1
  have hn : n ≤ 1000 := by rw [hf.len]; exact hm
  have HF := Lib.hid hf
  have HI := Lib.hid (place_some hi)
  have HM := Lib.hid hmi
  clear hf hi hmi
  go_enter Try.func14, Try.ntmps14
  go_wp2_with (first | (go_at_call 31; refine (rplace _ _ hm (HF.out.below ((Below.refl _ _).alloc (Nat.le_refl _) _))).mono ?_; rintro e w' ⟨rfl, hb⟩; rw [HI.out]; have HX := Lib.hid (box_same hb); have HR := Lib.hid ((HF.out.below (below_same hb)).elem HM.out); subst hb) | (refine wpList_load_mid rfl 39 (.tmp 18) rfl g (i * 15) rfl m.cells _ HR.out Try.underlying39 rfl Try.size39 ?_) | (refine wpList_store_box rfl 39 (.tmp 4) _ rfl _ m.cells.toArray rfl rfl 39 _ HX.out Try.size39 rfl (Ms.all _) ?_; intro w2 hx2 hc2; have HX2 := Lib.hid hx2; have HC2 := Lib.hid hc2; clear hx2 hc2))
  refine ret_cell_tmp (p := 4) (q := 5) (ty := 39) rfl w.heap.size 39 m.cells.toArray _ _ _ rfl rfl HX2.out Try.underlying39 rfl Try.size39 rfl ⟨rfl, ?_⟩
  exact ((Below.refl _ _).alloc (Nat.le_refl _) _).trans (HC2.out.below (by simp) (by intro i hi e; omega))
theorem rnew_bad (room : Int) (w : World) (h : room < 1 ∨ 8 < room) :
    Calls Try.prog 8 #[.int .i64 room] w fun e w' => e = .returned (.tuple #[.pointer none, .int .i64 1]) ∧ w = w' := by
  rcases h with h | h
  · go_enter Try.func8, Try.ntmps8
    go_wp2
    go_ret2
    exact ⟨rfl, rfl⟩
  · have h1 : ¬ room < 1 := by omega
    go_enter Try.func8, Try.ntmps8
    go_wp2
    go_ret2
    exact ⟨rfl, rfl⟩
theorem rnew_good (room : Int) (w : World) (h1 : 1 ≤ room) (h2 : room ≤ 8) :
    Calls Try.prog 8 #[.int .i64 room] w fun e w' => e = .returned (.tuple #[.pointer (some ⟨w.heap.size, 0, none⟩), .int .i64 0]) ∧ FileIs w' 52 39 w.heap.size w.heap.size (.slice none 0 0) room [] ∧ Below w.heap.size w w' := by
  go_enter Try.func8, Try.ntmps8
  go_wp2
  go_ret2
  exact ⟨rfl, ⟨heap_alloc_new _ _, World.ownsRow_nil _ _ _ _, Nat.le_refl _, by decide⟩, (Below.refl _ _).alloc (Nat.le_refl _) _⟩
end Go.Proofs.Ytfjeheioglmalaa
