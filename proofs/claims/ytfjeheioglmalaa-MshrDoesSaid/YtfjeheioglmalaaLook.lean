/- The look-ups of package mshr (at, of, IndexFunc and the closures): each comes to the first place that is so, and changes nothing that was there. -/
import Derived.Test.YtfjeheioglmalaaBase
namespace Go.Proofs.Ytfjeheioglmalaa
open Go.RowKit

/-- A closure that answers p of a miss, in every world that grew out of W. -/
def Tells (fn : FuncId) (cap : Array Value) (W : World) (p : Ms → Bool) : Prop :=
  ∀ (w : World) (m : Ms), Below W.heap.size W w → Calls Try.prog fn (#[.agg m.cells.toArray] ++ cap) w fun e w' => e = .returned (.bool (p m)) ∧ Below w.heap.size w w'
theorem Tells.at_ {fn : FuncId} {cap : Array Value} {W : World} {p : Ms → Bool} (h : Tells fn cap W p) (w : World) (m : Ms) (hb : Below W.heap.size W w) :
    Calls Try.prog fn (#[.agg m.cells.toArray] ++ cap) w fun e w' => e = .returned (.bool (p m)) ∧ Below w.heap.size w w' := h w m hb
theorem Tells.below {fn : FuncId} {cap : Array Value} {W W' : World} {p : Ms → Bool} (h : Tells fn cap W p) (hb : Below W.heap.size W W') : Tells fn cap W' p :=
  fun w m k => h w m (grow_trans hb k)
theorem of_closure (p : Nat) (line : Int) (W : World) (hc : W.cell? ⟨p, 0, none⟩ = some (.int .i64 line)) : Tells 36 #[.pointer (some ⟨p, 0, none⟩)] W (fun m => m.line == line) := by
  intro w m hb
  have hp : p < W.heap.size := World.block_lt_of_cell? W _ hc
  have hc2 : w.cell? ⟨p, 0, none⟩ = some (.int .i64 line) := (hb.cell (p := ⟨p, 0, none⟩) hp).trans hc
  have hp2 : p < w.heap.size := World.block_lt_of_cell? w _ hc2
  clear hc hb hp
  unfold Ms.cells
  go_enter Try.func36, Try.ntmps36
  go_wp2
  go_ret
  exact ⟨rfl, (Below.refl _ _).alloc (Nat.le_refl _) _⟩
theorem close_closure (p : Nat) (line : Int) (W : World) (hc : W.cell? ⟨p, 0, none⟩ = some (.int .i64 line)) : Tells 34 #[.pointer (some ⟨p, 0, none⟩)] W (fun m => m.line == line) := by
  intro w m hb
  have hp : p < W.heap.size := World.block_lt_of_cell? W _ hc
  have hc2 : w.cell? ⟨p, 0, none⟩ = some (.int .i64 line) := (hb.cell (p := ⟨p, 0, none⟩) hp).trans hc
  have hp2 : p < w.heap.size := World.block_lt_of_cell? w _ hc2
  clear hc hb hp
  unfold Ms.cells
  go_enter Try.func34, Try.ntmps34
  go_wp2
  go_ret
  exact ⟨rfl, (Below.refl _ _).alloc (Nat.le_refl _) _⟩
theorem owing_closure (W : World) : Tells 29 #[] W (fun m => m.owes) := by
  intro w m _
  unfold Ms.cells
  go_enter Try.func29, Try.ntmps29
  go_wp2
  go_ret
  exact ⟨rfl, (Below.refl _ _).alloc (Nat.le_refl _) _⟩
theorem callFunc36 (xs : Array Value) (w : World) : Sem.run Try.prog (callFunc 36 xs) w = .ok (.enter 36 xs) w := by simp [go_sem]
theorem callFunc34 (xs : Array Value) (w : World) : Sem.run Try.prog (callFunc 34 xs) w = .ok (.enter 34 xs) w := by simp [go_sem]
theorem callFunc29 (xs : Array Value) (w : World) : Sem.run Try.prog (callFunc 29 xs) w = .ok (.enter 29 xs) w := by simp [go_sem]

theorem indexfunc (fn : FuncId) (hcf : ∀ (xs : Array Value) (w : World), Sem.run Try.prog (callFunc fn xs) w = .ok (.enter fn xs) w) (g n c : Nat) (l : List Ms) (cap : Array Value) (p : Ms → Bool) (w : World) (hn : n = l.length) (hm : n ≤ 1000)
    (hr : w.rangeAt g 0 (l.flatMap Ms.cells)) (hg : g < w.heap.size) (ht : Tells fn cap w p) :
    Calls Try.prog 35 #[.slice (some ⟨g, 0, none⟩) n c, .func (.func fn) #[] cap] w fun e w' => e = .returned (.int .i64 (place l p)) ∧ Below w.heap.size w w' := by
  have HT := Lib.hid ht
  clear ht
  have HN := Lib.hid hn
  have HR := Lib.hid hr
  clear hn hr
  go_enter Try.func35, Try.ntmps35
  go_wp2_with fail
  go_loopw [8] (fun v wr => ∃ k : Nat, v = .int .i64 k ∧ k ≤ n ∧ (∀ j, j < k → ∀ m, l[j]? = some m → p m = false) ∧ Below w.heap.size w wr) (fun v _ => n - (intOf v).toNat)
  case atStart => exact ⟨0, rfl, by omega, fun j hj => by omega, Below.refl _ _⟩
  case round =>
    obtain ⟨k, rfl, hk, hno, hb⟩ := hrel
    have HNO := Lib.hid hno
    have HB := Lib.hid hb
    clear hno hb
    by_cases hlt : k < n
    · obtain ⟨m, hm1⟩ : ∃ m, l[k]? = some m := ⟨_, List.getElem?_eq_getElem (by rw [← HN.out]; exact hlt)⟩
      have HRM := Lib.hid (range_below (range_elem HR.out k m hm1) HB.out hg)
      have HM := Lib.hid hm1
      clear hm1
      cases hpm : p m
      · have HP := Lib.hid hpm
        clear hpm
        go_wp2_with (first | (refine wpList_load_mid rfl 34 _ rfl g (k * 15) rfl m.cells _ HRM.out Try.underlying34 rfl Try.size34 ?_) | ((with_reducible refine (HT.out.at_ _ m HB.out).mono ?_); rintro e w' ⟨rfl, hb2⟩; rw [HP.out]; have HB2 := Lib.hid hb2; clear hb2))
        go_roundw
        case rel => exact ⟨k + 1, by go_num, by omega, (fun j hj m' hm' => by
          rcases Nat.lt_succ_iff_lt_or_eq.1 hj with h | h
          · exact HNO.out j h m' hm'
          · subst h; rw [HM.out] at hm'; injection hm' with hm'; subst hm'; exact HP.out), HB.out.trans (HB2.out.mono HB.out.size)⟩
        case measure => simp [intOf]; omega
      · have HP := Lib.hid hpm
        clear hpm
        go_wp2_with (first | (refine wpList_load_mid rfl 34 _ rfl g (k * 15) rfl m.cells _ HRM.out Try.underlying34 rfl Try.size34 ?_) | ((with_reducible refine (HT.out.at_ _ m HB.out).mono ?_); rintro e w' ⟨rfl, hb2⟩; rw [HP.out]; have HB2 := Lib.hid hb2; clear hb2))
        go_ret
        exact ⟨ret_int (place_some (findIdx_some l p k m HM.out HP.out HNO.out)).symm, HB.out.trans (HB2.out.mono HB.out.size)⟩
    · have hkn : k = n := by omega
      go_wp2_with fail
      go_ret
      exact ⟨ret_int (place_none (findIdx_none l p (by rw [← HN.out, ← hkn]; exact HNO.out))).symm, HB.out⟩

theorem indexfunc_nil (fn : FuncId) (cap : Array Value) (p : Ms → Bool) (w : World) :
    Calls Try.prog 35 #[.slice none 0 0, .func (.func fn) #[] cap] w fun e w' => e = .returned (.int .i64 (place [] p)) ∧ w = w' := by
  go_enter Try.func35, Try.ntmps35
  go_wp2_with fail
  refine wp_loop_rounds 1 ?_
  rw [rounds_succ]
  go_wp2_with fail
  go_ret
  exact ⟨rfl, rfl⟩

/-- The first place of a miss that is so. -/
theorem at_any (fn : FuncId) (hcf : ∀ (xs : Array Value) (w : World), Sem.run Try.prog (callFunc fn xs) w = .ok (.enter fn xs) w) {B fb : Nat} {sv : Value} {room : Int} {l : List Ms} (cap : Array Value) (p : Ms → Bool) (w : World) (hm : l.length ≤ 1000)
    (hf : FileIs w 60 34 B fb sv room l) (ht : Tells fn cap w p) :
    Calls Try.prog 28 #[.pointer (some ⟨fb, 0, none⟩), .func (.func fn) #[] cap] w fun e w' => e = .returned (.int .i64 (place l p)) ∧ Below w.heap.size w w' := by
  have h1 := hf.head1
  have HT := Lib.hid ht
  have HF := Lib.hid hf
  clear ht hf
  by_cases hl : 0 < l.length
  · obtain ⟨g, c, rfl⟩ := HF.out.form hl
    go_enter Try.func28, Try.ntmps28
    go_wp2_with (go_at_call 35; refine (indexfunc fn hcf g l.length c l cap p w rfl hm HF.out.range HF.out.row_lt HT.out).mono ?_; rintro e w' ⟨rfl, hb⟩)
    go_ret
    exact ⟨rfl, hb⟩
  · have e0 : l = [] := List.eq_nil_of_length_eq_zero (by omega)
    subst e0
    rcases HF.out.row.2 with ⟨rfl, _⟩ | ⟨g, c, cur, rfl, _⟩
    · go_enter Try.func28, Try.ntmps28
      go_wp2_with (go_at_call 35; refine (indexfunc_nil fn cap p w).mono ?_; rintro e w' ⟨rfl, rfl⟩)
      go_ret
      exact ⟨rfl, Below.refl _ _⟩
    · go_enter Try.func28, Try.ntmps28
      go_wp2_with (go_at_call 35; refine (indexfunc fn hcf g 0 c [] cap p w rfl (by omega) HF.out.range HF.out.row_lt HT.out).mono ?_; rintro e w' ⟨rfl, hb⟩)
      go_ret
      exact ⟨rfl, hb⟩

theorem place_ge {l : List Ms} {p : Ms → Bool} {i : Nat} (h : l.findIdx? p = some i) : ¬ place l p < 0 := by rw [place_some h]; omega
/-- 'of': there is none. -/
theorem of_none {B fb : Nat} {sv : Value} {room : Int} {l : List Ms} (line : Int) (w : World) (hm : l.length ≤ 1000) (hf : FileIs w 60 34 B fb sv room l) (hi : l.findIdx? (fun m => m.line == line) = none) :
    Calls Try.prog 30 #[.pointer (some ⟨fb, 0, none⟩), .int .i64 line] w fun e w' => e = .returned (.pointer none) ∧ Below w.heap.size w w' := by
  have HF := Lib.hid hf
  have HI := Lib.hid (place_none hi)
  clear hf hi
  go_enter Try.func30, Try.ntmps30
  go_wp2_with (go_at_call 28; refine (at_any 36 callFunc36 _ _ _ hm (HF.out.below ((Below.refl _ _).alloc (Nat.le_refl _) _)) (of_closure w.heap.size line _ (by simp [go_sem]))).mono ?_; rintro e w' ⟨rfl, hb⟩; rw [HI.out]; have HB := Lib.hid hb; clear hb)
  go_ret
  exact ⟨rfl, ((Below.refl _ _).alloc (Nat.le_refl _) _).trans (HB.out.mono (by simp))⟩
/-- 'of': the miss at place i. -/
theorem of_some {B fb g n c : Nat} {room : Int} {l : List Ms} (line : Int) (w : World) (hm : l.length ≤ 1000) (hf : FileIs w 60 34 B fb (.slice (some ⟨g, 0, none⟩) n c) room l) {i : Nat} (hi : l.findIdx? (fun m => m.line == line) = some i) :
    Calls Try.prog 30 #[.pointer (some ⟨fb, 0, none⟩), .int .i64 line] w fun e w' => e = .returned (.pointer (some ⟨g, i * 15, none⟩)) ∧ Below w.heap.size w w' := by
  have HF := Lib.hid hf
  have HI := Lib.hid (place_some hi)
  obtain ⟨m, hm1, _⟩ := findIdx_get hi
  have hlt : i < n := by rw [hf.len]; exact (List.getElem?_eq_some_iff.1 hm1).1
  have hn : n ≤ 1000 := by rw [hf.len]; exact hm
  clear hf hi hm1
  go_enter Try.func30, Try.ntmps30
  go_wp2_with (go_at_call 28; refine (at_any 36 callFunc36 _ _ _ hm (HF.out.below ((Below.refl _ _).alloc (Nat.le_refl _) _)) (of_closure w.heap.size line _ (by simp [go_sem]))).mono ?_; rintro e w' ⟨rfl, hb⟩; rw [HI.out]; have h1 := ((HF.out.below ((Below.refl _ _).alloc (Nat.le_refl _) _)).below hb).head1; have HB := Lib.hid hb; clear hb)
  go_ret
  exact ⟨rfl, ((Below.refl _ _).alloc (Nat.le_refl _) _).trans (HB.out.mono (by simp))⟩
end Go.Proofs.Ytfjeheioglmalaa
