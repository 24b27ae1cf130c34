/- Size and Fits. -/
import Derived.Test.YtfjeheioglmalaaDoorCheck2
import Derived.Test.YtfjeheioglmalaaDoorRParse
namespace Go.Proofs.YtfjeheioglmalaaDoor
open Go.RowKit Go.Lib
set_option linter.unusedVariables false
set_option linter.unusedSimpArgs false
theorem Tryd.size31 : (Tryd.prog.info? 31).map (·.size) = some 13 := by kernel_rfl
def sizeP (c : Cfg) : Int := if c.ok then c.words * c.lines else 0
def fitsP (c : Cfg) (l : List PO) : Bool := c.ok && decide (l.length ≤ 64) && l.all fun x => x.may && decide (x.a < c.words * c.lines)
theorem ok_bounds {c : Cfg} (h : c.ok = true) : 1 ≤ c.words ∧ c.words ≤ 8 ∧ 1 ≤ c.lines ∧ c.lines ≤ 1024 := by
  unfold Cfg.ok Cfg.bounds at h
  simp only [List.all_cons, List.all_nil, Bool.and_eq_true, Bool.and_true, fitB, decide_eq_true_eq] at h
  omega
theorem mul_range {a b : Int} (h : 1 ≤ a ∧ a ≤ 8 ∧ 1 ≤ b ∧ b ≤ 1024) : 1 ≤ a * b ∧ a * b ≤ 8192 := by
  obtain ⟨h1, h2, h3, h4⟩ := h
  exact ⟨Int.mul_le_mul h1 h3 (by omega) (by omega), Int.mul_le_mul h2 h4 (by omega) (by omega)⟩
theorem size_range (c : Cfg) : 0 ≤ sizeP c ∧ sizeP c ≤ 8192 := by
  unfold sizeP
  split
  · rename_i h
    have := mul_range (ok_bounds h)
    omega
  · omega
/-- A machine's sizes lie in a block. -/
def CfgIn (w : World) (g : Nat) (c : Cfg) : Prop := w.cell? ⟨g, 0, none⟩ = some (.int .i64 c.cores) ∧ w.cell? ⟨g, 1, none⟩ = some (.int .i64 c.homes) ∧ w.cell? ⟨g, 2, none⟩ = some (.int .i64 c.sets) ∧ w.cell? ⟨g, 3, none⟩ = some (.int .i64 c.ways) ∧ w.cell? ⟨g, 4, none⟩ = some (.int .i64 c.words) ∧ w.cell? ⟨g, 5, none⟩ = some (.int .i64 c.lines) ∧ w.cell? ⟨g, 6, none⟩ = some (.int .i64 c.pointers) ∧ w.cell? ⟨g, 7, none⟩ = some (.int .i64 c.mshrs) ∧ w.cell? ⟨g, 8, none⟩ = some (.int .i64 c.buffer) ∧ w.cell? ⟨g, 9, none⟩ = some (.int .i64 c.writebacks) ∧ w.cell? ⟨g, 10, none⟩ = some (.int .i64 c.r0) ∧ w.cell? ⟨g, 11, none⟩ = some (.int .i64 c.r1) ∧ w.cell? ⟨g, 12, none⟩ = some (.int .i64 c.r2)
theorem cfg_in {w : World} {g : Nat} {c : Cfg} {t : TypeId} {f : Nat × Nat} (h : w.heap[g]? = some (.cells c.arr t f)) : CfgIn w g c :=
  ⟨box_cell h 0 rfl, box_cell h 1 rfl, box_cell h 2 rfl, box_cell h 3 rfl, box_cell h 4 rfl, box_cell h 5 rfl, box_cell h 6 rfl, box_cell h 7 rfl, box_cell h 8 rfl, box_cell h 9 rfl, box_cell h 10 rfl, box_cell h 11 rfl, box_cell h 12 rfl⟩
set_option maxRecDepth 100000 in
set_option maxHeartbeats 1000000 in
theorem size_walk (c : Cfg) (hc : c.fine) (w : World) : Calls Tryd.prog 35 #[c.val] w fun e w' => e = .returned (.int .i64 (sizeP c)) ∧ Below w.heap.size w w' := by
  have HC := Lib.hid (fun W => check_walk c hc W)
  clear hc
  have hno : okNo c = if c.ok then 0 else 1 := rfl
  have hsz : sizeP c = if c.ok then c.words * c.lines else 0 := rfl
  have HA := Lib.hid (heap_alloc_new w (.cells c.arr 31))
  cases hok : c.ok
  · rw [hok] at hno hsz
    have HNO := Lib.hid hno
    have HSZ := Lib.hid hsz
    clear hno hsz hok
    unfold Cfg.val
    go_enter Tryd.func35, Tryd.ntmps35
    go_wp2_with (first | (refine wpList_load_row rfl 31 (.tmp 1) rfl w.heap.size rfl 31 c.arr (0, 0) _ HA.out Tryd.underlying31 rfl Tryd.size31 ?_))
    refine (HC.out _).mono ?_
    rintro e w1 ⟨rfl, hb⟩
    rw [HNO.out]
    have HB := Lib.hid hb
    clear hb
    go_wp2_with fail
    go_ret
    rw [HSZ.out]
    exact ⟨rfl, ((Below.refl _ _).alloc (Nat.le_refl _) _).trans (HB.out.mono (by simp))⟩
  · have hr := ok_bounds hok
    have hm := mul_range hr
    rw [hok] at hno hsz
    have HNO := Lib.hid hno
    have HSZ := Lib.hid hsz
    obtain ⟨q1, q2, q3, q4⟩ := hr
    obtain ⟨m1, m2⟩ := hm
    have hwr : IntKind.i64.wrap (c.words * c.lines) = c.words * c.lines := IntWalk.i64_in _ (by omega)
    have HWR := Lib.hid hwr
    clear hno hsz hok
    unfold Cfg.val
    go_enter Tryd.func35, Tryd.ntmps35
    go_wp2_with (first | (refine wpList_load_row rfl 31 (.tmp 1) rfl w.heap.size rfl 31 c.arr (0, 0) _ HA.out Tryd.underlying31 rfl Tryd.size31 ?_))
    refine (HC.out _).mono ?_
    rintro e w1 ⟨rfl, hb⟩
    rw [HNO.out]
    obtain ⟨_, _, _, _, c4, c5, _⟩ := cfg_in (box_kept hb)
    have HB := Lib.hid hb
    clear hb
    go_wp2_with fail
    go_ret
    rw [HSZ.out]
    exact ⟨rfl, ((Below.refl _ _).alloc (Nat.le_refl _) _).trans (HB.out.mono (by simp))⟩
end Go.Proofs.YtfjeheioglmalaaDoor
