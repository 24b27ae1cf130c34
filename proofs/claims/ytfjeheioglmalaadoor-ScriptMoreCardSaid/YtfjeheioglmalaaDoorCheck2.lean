/- Check of package shape. -/
import Derived.Test.YtfjeheioglmalaaDoorCheck
namespace Go.Proofs.YtfjeheioglmalaaDoor
open Go.RowKit Go.Lib
set_option linter.unusedVariables false
set_option linter.unusedSimpArgs false
theorem Tryd.size84 : (Tryd.prog.info? 84).map (·.size) = some 52 := by kernel_rfl
theorem Tryd.size83 : (Tryd.prog.info? 83).map (·.size) = some 4 := by kernel_rfl
def bcells (b : Int × Int × Int × Bool) : Array Value := #[.int .i64 b.1, .int .i64 b.2.1, .int .i64 b.2.2.1, .bool b.2.2.2]
def Cfg.big (c : Cfg) : Array Value := #[.int .i64 c.cores, .int .i64 1, .int .i64 64, .bool false, .int .i64 c.homes, .int .i64 1, .int .i64 16, .bool true, .int .i64 c.sets, .int .i64 1, .int .i64 64, .bool true, .int .i64 c.words, .int .i64 1, .int .i64 8, .bool true, .int .i64 c.lines, .int .i64 1, .int .i64 1024, .bool true, .int .i64 c.ways, .int .i64 1, .int .i64 8, .bool false, .int .i64 c.pointers, .int .i64 0, .int .i64 8, .bool false, .int .i64 c.mshrs, .int .i64 1, .int .i64 8, .bool false, .int .i64 c.buffer, .int .i64 1, .int .i64 16, .bool false, .int .i64 c.writebacks, .int .i64 1, .int .i64 8, .bool false, .int .i64 c.r0, .int .i64 1, .int .i64 64, .bool false, .int .i64 c.r1, .int .i64 1, .int .i64 64, .bool false, .int .i64 c.r2, .int .i64 1, .int .i64 64, .bool false]
theorem Cfg.big_one (c : Cfg) : c.big.all (·.oneCell') = true := by simp [Cfg.big, Value.oneCell']
theorem bound_fine {c : Cfg} (hc : c.fine) {b : Int × Int × Int × Bool} (hb : b ∈ c.bounds) : -9223372036854775808 ≤ b.1 ∧ b.1 ≤ 9223372036854775807 ∧ b.2.2.1 ≤ 1024 ∧ 0 ≤ b.2.1 ∧ (b.2.2.2 = true → b.2.1 = 1) := by
  unfold Cfg.fine Cfg.nums at hc
  simp only [List.mem_cons, List.not_mem_nil, or_false, forall_eq_or_imp, forall_eq] at hc
  obtain ⟨h0, h1, h2, h3, h4, h5, h6, h7, h8, h9, h10, h11, h12⟩ := hc
  simp only [Cfg.bounds, List.mem_cons, List.not_mem_nil, or_false] at hb
  rcases hb with rfl | rfl | rfl | rfl | rfl | rfl | rfl | rfl | rfl | rfl | rfl | rfl | rfl
  all_goals simp only; refine ⟨by omega, by omega, by decide, by decide, ?_⟩; simp
theorem ok_bad {c : Cfg} {j : Nat} {b : Int × Int × Int × Bool} (h : c.bounds[j]? = some b) (hf : fitB b.1 b.2.1 b.2.2.1 b.2.2.2 = false) : c.ok = false := by
  unfold Cfg.ok
  rw [List.all_eq_false]
  exact ⟨b, List.mem_of_getElem? h, by rw [hf]; simp⟩
theorem ok_good {c : Cfg} (h : ∀ (j : Nat) (b : Int × Int × Int × Bool), c.bounds[j]? = some b → fitB b.1 b.2.1 b.2.2.1 b.2.2.2 = true) : c.ok = true := by
  unfold Cfg.ok
  rw [List.all_eq_true]
  intro b hb
  obtain ⟨j, hj⟩ := List.getElem?_of_mem hb
  exact h j b hj
theorem heap_alloc2 (w : World) (o o' : Obj) : ((w.alloc o).alloc o').heap[w.heap.size + 1]? = some o' := by
  have := heap_alloc_new (w.alloc o) o'
  simpa using this
set_option maxRecDepth 100000 in
theorem big_at (c : Cfg) (j : Nat) (b : Int × Int × Int × Bool) (h : c.bounds[j]? = some b) (w : World) : (Instr.index 84 (.agg c.big) (.int .i64 (j : Int))).run Tryd.prog w = .ok (.agg (bcells b)) w := by
  have hj : j < 13 := (List.getElem?_eq_some_iff.1 h).1
  obtain rfl | rfl | rfl | rfl | rfl | rfl | rfl | rfl | rfl | rfl | rfl | rfl | rfl : j = 0 ∨ j = 1 ∨ j = 2 ∨ j = 3 ∨ j = 4 ∨ j = 5 ∨ j = 6 ∨ j = 7 ∨ j = 8 ∨ j = 9 ∨ j = 10 ∨ j = 11 ∨ j = 12 := by omega
  · obtain rfl : (c.cores, 1, 64, false) = b := Option.some.inj h
    show _ = _
    kernel_rfl
  · obtain rfl : (c.homes, 1, 16, true) = b := Option.some.inj h
    show _ = _
    kernel_rfl
  · obtain rfl : (c.sets, 1, 64, true) = b := Option.some.inj h
    show _ = _
    kernel_rfl
  · obtain rfl : (c.words, 1, 8, true) = b := Option.some.inj h
    show _ = _
    kernel_rfl
  · obtain rfl : (c.lines, 1, 1024, true) = b := Option.some.inj h
    show _ = _
    kernel_rfl
  · obtain rfl : (c.ways, 1, 8, false) = b := Option.some.inj h
    show _ = _
    kernel_rfl
  · obtain rfl : (c.pointers, 0, 8, false) = b := Option.some.inj h
    show _ = _
    kernel_rfl
  · obtain rfl : (c.mshrs, 1, 8, false) = b := Option.some.inj h
    show _ = _
    kernel_rfl
  · obtain rfl : (c.buffer, 1, 16, false) = b := Option.some.inj h
    show _ = _
    kernel_rfl
  · obtain rfl : (c.writebacks, 1, 8, false) = b := Option.some.inj h
    show _ = _
    kernel_rfl
  · obtain rfl : (c.r0, 1, 64, false) = b := Option.some.inj h
    show _ = _
    kernel_rfl
  · obtain rfl : (c.r1, 1, 64, false) = b := Option.some.inj h
    show _ = _
    kernel_rfl
  · obtain rfl : (c.r2, 1, 64, false) = b := Option.some.inj h
    show _ = _
    kernel_rfl
set_option maxRecDepth 100000 in
set_option maxHeartbeats 4000000 in
theorem check_walk (c : Cfg) (hc : c.fine) (w : World) : Calls Tryd.prog 26 #[c.val] w fun e w' => e = .returned (.int .i64 (okNo c)) ∧ Below w.heap.size w w' := by
  have HC := Lib.hid hc
  clear hc
  obtain ⟨no, hno⟩ : ∃ n, okNo c = n := ⟨_, rfl⟩
  rw [hno]
  have HNO := Lib.hid hno
  clear hno
  unfold Cfg.val Cfg.arr
  go_enter Tryd.func26, Tryd.ntmps26
  go_wp2_with (first | (refine wpList_store_new rfl 84 (.tmp 3) (.tmp 48) rfl (w.heap.size + 1) c.big rfl rfl 84 _ (heap_alloc2 w _ _) Tryd.size84 rfl c.big_one w.heap.size (by omega) ?_; intro w3 hx3 hb3; have HX3 := Lib.hid hx3; have HB3 := Lib.hid hb3; clear hx3 hb3) | (refine wpList_load_row rfl 84 (.tmp 3) rfl (w.heap.size + 1) rfl 84 c.big (0, 0) _ HX3.out Tryd.underlying84 rfl Tryd.size84 ?_))
  have HB := Lib.hid ((((Below.refl w.heap.size w).alloc (Nat.le_refl _) _).alloc (by simp) _).trans HB3.out)
  obtain ⟨s48, h48⟩ : ∃ v : Value, Value.agg c.big = v := ⟨_, rfl⟩
  go_loopw [50] (fun v wr => ∃ j : Nat, v = .int .i64 j ∧ j ≤ 13 ∧ (∀ i b, i < j → c.bounds[i]? = some b → fitB b.1 b.2.1 b.2.2.1 b.2.2.2 = true) ∧ Below w.heap.size w wr) (fun v _ => 13 - (RowKit.intOf v).toNat)
  case atStart => exact ⟨0, rfl, by omega, fun i b hi => by omega, HB.out⟩
  case round =>
    obtain ⟨j, rfl, hj, hno, hb⟩ := hrel
    have HNOO := Lib.hid hno
    have HBB := Lib.hid hb
    clear hno hb h48
    by_cases hlt : j < 13
    · obtain ⟨b, hbj⟩ : ∃ b, c.bounds[j]? = some b := ⟨_, List.getElem?_eq_getElem hlt⟩
      have hidx := big_at c j b hbj
      have hfw := bound_fine HC.out (List.mem_of_getElem? hbj)
      obtain ⟨n, least, most, p⟩ := b
      have HF := Lib.hid (fun W => fits_walk n least most p hfw.1 hfw.2.1 hfw.2.2.1 hfw.2.2.2.1 hfw.2.2.2.2 W)
      have HBJ := Lib.hid hbj
      clear hbj hfw
      unfold bcells at hidx
      simp only at hidx
      have hlt' : (j : Int) < 13 := by omega
      go_wp2_with fail
      refine (HF.out _).mono ?_
      rintro e w4 ⟨rfl, hb4⟩
      have HB4 := Lib.hid hb4
      clear hb4 hidx
      cases hfb : fitB n least most p
      · have HFB := Lib.hid hfb
        clear hfb
        go_wp2
        go_ret
        exact ⟨ok_1 HNO.out (ok_bad HBJ.out HFB.out), HBB.out.trans ((((Below.refl wr.heap.size wr).alloc (Nat.le_refl _) _).trans (HB4.out.mono (by simp))).mono HBB.out.size)⟩
      · have HFB := Lib.hid hfb
        clear hfb
        go_wp2
        go_roundw
        case rel => exact ⟨j + 1, by go_num, by omega, (fun i b' hi hb' => by
          rcases Nat.lt_succ_iff_lt_or_eq.1 hi with h | h
          · exact HNOO.out i b' h hb'
          · subst h; rw [HBJ.out] at hb'; injection hb' with hb'; subst hb'; exact HFB.out), HBB.out.trans ((((Below.refl wr.heap.size wr).alloc (Nat.le_refl _) _).trans (HB4.out.mono (by simp))).mono HBB.out.size)⟩
        case measure => simp [RowKit.intOf]; omega
    · have hge : ¬ (j : Int) < 13 := by omega
      go_wp2_with fail
      go_ret
      exact ⟨ok_0 HNO.out (ok_good fun i b hb => HNOO.out i b (by have := (List.getElem?_eq_some_iff.1 hb).1; have h13 : c.bounds.length = 13 := rfl; omega) hb), HBB.out⟩
end Go.Proofs.YtfjeheioglmalaaDoor
