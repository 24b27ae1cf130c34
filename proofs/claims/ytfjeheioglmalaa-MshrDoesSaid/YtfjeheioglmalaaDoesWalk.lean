/- The walk of the law MshrDoes. -/
import Derived.Test.YtfjeheioglmalaaTwo
import Derived.Test.YtfjeheioglmalaaEq
namespace Go.Proofs.Ytfjeheioglmalaa
open Go.RowKit
/-- A guarded load of a boxed struct whose guard says yes. -/
theorem wpList_load_row_g {P : Program} {ops : Array Oper} {rest : List Oper} {o : Oper} {a : Act} {w : World} {Q : Exit → Act → World → Prop} (hw : Region.wanted o (yielded ops a.tmps) = true) (ty : TypeId) (x : Operand) (ho : o.op = .load ty x)
    (g : Nat) (hx : a.eval x = .pointer (some ⟨g, 0, none⟩)) (t : TypeId) (cs : Array Value) (fr : Nat × Nat) (d : TypeDesc) (hg : w.heap[g]? = some (.cells cs t fr)) (hu : P.underlying ty = some d) (hd : (match d with | .struct _ | .array _ _ => true | _ => false) = true) (hi : (P.info? ty).map (·.size) = some cs.size)
    (h : wpList P ops Q rest (a.put o.dst (.agg cs)) w) : wpList P ops Q (o :: rest) a w := by
  refine BigFrame.wpList_want hw fun K hK => ?_
  unfold Oper.wp execOp
  simp only [ho, hx, Instr.loadAt, Instr.sureAddr, Sem.run_bind, Sem.run_pure, Result.andThen_ok, run_loadVar_row w g t ty cs fr d hg hu hd hi]
  exact hK _ _ h
/-- In a region that draws: a struct in a row is read whole. -/
theorem still_load_mid {P : Program} {ops : Array Oper} {rest : List Oper} {o : Oper} {a : Act} {w : World} {Q : Act → Prop} (hgd : o.guard = none) (ty : TypeId) (x : Operand) (ho : o.op = .load ty x)
    (b off : Nat) (hx : a.eval x = .pointer (some ⟨b, off, none⟩)) (cs : List Value) (d : TypeDesc) (hc : w.rangeAt b off cs) (hu : P.underlying ty = some d) (hd : d.isRow = true) (hi : (P.info? ty).map (·.size) = some cs.length)
    (h : wpStill P ops w Q rest (a.put o.dst (.agg cs.toArray))) : wpStill P ops w Q (o :: rest) a := by
  refine wpStill_step (fun K hK => ?_)
  rw [if_pos (by simp [Region.wanted, hgd])]
  unfold Oper.still execOp
  simp only [ho, hx, Instr.loadAt, Instr.sureAddr, Sem.run_bind, Sem.run_pure, Result.andThen_ok, run_loadVar_mid w b off ty cs d hc hu hd hi, Oper.stillUpon_value]
  exact hK _ h
set_option maxRecDepth 100000 in
set_option maxHeartbeats 20000000 in
theorem mshrDoes_long (room : Int) (A : Option Addr) (n c : Nat) (w : World) (h : 60 < n) (hn : n ≤ 9223372036854775807) :
    Calls Try.prog 3 #[.int .i64 room, .slice A n c] w fun e w' => e = .returned (.bool true) ∧ Below w.heap.size w w' := by
  have h60 : (60 : Int) < n := by omega
  go_enter Try.func3, Try.ntmps3
  go_wp2_with (go_at_call 6; refine (awake_true _).mono ?_; rintro e w1 ⟨rfl, h⟩; have HB := Lib.hid h; clear h)
  go_ret
  exact ⟨rfl, HB.out⟩
set_option maxRecDepth 100000 in
set_option maxHeartbeats 20000000 in
theorem mshrDoes_bad (room : Int) (A : Option Addr) (n c : Nat) (w : World) (h : n ≤ 60) (hr : room < 1 ∨ 8 < room) :
    Calls Try.prog 3 #[.int .i64 room, .slice A n c] w fun e w' => e = .returned (.bool true) ∧ Below w.heap.size w w' := by
  have HR := Lib.hid hr
  clear hr
  have h60 : ¬ (60 : Int) < n := by omega
  go_enter Try.func3, Try.ntmps3
  go_wp2_with (first | (go_at_call 6; refine (awake_true _).mono ?_; rintro e w1 ⟨rfl, h⟩; have HB := Lib.hid h; clear h) | (go_at_call 7; refine (new_bad room _ HR.out).mono ?_; rintro e w2 ⟨rfl, rfl⟩) | (go_at_call 8; refine (rnew_bad room _ HR.out).mono ?_; rintro e w2 ⟨rfl, rfl⟩))
  refine wp_loop_rounds 1 ?_
  rw [rounds_succ]
  go_wp2_with fail
  go_ret
  exact ⟨rfl, HB.out⟩
set_option maxRecDepth 100000 in
set_option maxHeartbeats 20000000 in
theorem mshrDoes_good (room : Int) (A : Option Addr) (n c : Nat) (os : List Opr) (w : World) (h60 : n ≤ 60) (hn : n = os.length) (ha : OpsAt w A os) (hr1 : 1 ≤ room) (hr8 : room ≤ 8) :
    Calls Try.prog 3 #[.int .i64 room, .slice A n c] w fun e w' => e = .returned (.bool true) ∧ Below w.heap.size w w' := by
  have HN := Lib.hid hn
  have HA := Lib.hid ha
  clear hn ha
  have hn60 : ¬ (60 : Int) < n := by omega
  go_enter Try.func3, Try.ntmps3
  go_wp2_with fail
  refine (awake_true _).mono ?_; rintro e w1 ⟨rfl, h⟩
  have HB := Lib.hid h; clear h
  go_wp2_with fail
  refine (new_good room w1 hr1 hr8).mono ?_; rintro e w2 ⟨rfl, hf, hb⟩
  have HF := Lib.hid hf; have HB2 := Lib.hid hb; clear hf hb
  go_wp2_with fail
  refine (rnew_good room w2 hr1 hr8).mono ?_; rintro e w3 ⟨rfl, hf, hb⟩
  have H3 := Lib.hid (Two.new HB.out HF.out HB2.out hf hb)
  obtain ⟨fb, hfb⟩ : ∃ fb, fb = w1.heap.size := ⟨_, rfl⟩
  obtain ⟨rb, hrb⟩ : ∃ rb, rb = w2.heap.size := ⟨_, rfl⟩
  rw [← hfb, ← hrb] at H3
  rw [← hfb, ← hrb]
  clear hf hb HF HB2 HB hfb hrb
  go_wp2_with fail
  go_loopw [9] (fun v wr => ∃ (k : Nat) (ms : List Ms), v = .int .i64 k ∧ k ≤ n ∧ Ok k room ms ∧ Two w w.heap.size fb rb room ms ms [] wr) (fun v _ => n - (intOf v).toNat)
  case atStart => exact ⟨0, [], rfl, by omega, ⟨by simp; omega, by simp, by simp⟩, H3.out⟩
  case round =>
    obtain ⟨k, ms, rfl, hk, hok, hs⟩ := hrel
    obtain ⟨wo, rfl⟩ : ∃ wo : World, wo = wr := ⟨_, rfl⟩
    have HO := Lib.hid hok
    have HS := Lib.hid hs
    clear hok hs H3
    by_cases hlt : k < n
    · obtain ⟨o, hko⟩ : ∃ o, os[k]? = some o := ⟨_, List.getElem?_eq_getElem (by rw [← HN.out]; exact hlt)⟩
      obtain ⟨ab, off, hA, _, har⟩ := (HA.out.later HS.out.below) k o hko
      subst hA
      have HR := Lib.hid har
      have hml : ms.length ≤ 1000 := by have := HO.out.len; omega
      clear har
      obtain ⟨m, is, er, ms', hdo⟩ : ∃ m is er ms', sDo room ms o = ((m, is, er), ms') := ⟨_, _, _, _, rfl⟩
      have hk0 : (0 : Int) ≤ k := by omega
      have HO2 := Lib.hid (show Ok ((k : Int) + 1) room ms' by have := HO.out.step hk0 o; rw [hdo] at this; exact this)
      have HD := Lib.hid hdo
      have HGOT := Lib.hid (show ∀ m ∈ ms, 0 ≤ m.got ∧ m.got ≤ 1000 from fun m hm => ⟨(HO.out.each m hm).got0, by have := (HO.out.each m hm).gott; omega⟩)
      have HKO := Lib.hid hko
      clear hdo hko
      go_wp2_with (refine wpList_load_mid rfl 38 (.tmp 65) rfl ab (off + k * 12) rfl o.arr.toList _ HR.out Try.underlying38 rfl Try.size38 ?_)
      rw [show Value.agg o.arr = o.val from rfl]
      refine (HS.out.do_ hml o HGOT.out).mono ?_; rw [HD.out]; rintro e w5 ⟨rfl, h⟩
      have H5 := Lib.hid h; clear h HS HR
      go_wp2_with (first | (refine wpList_store_box rfl 34 (.tmp 10) _ rfl _ m.cells.toArray rfl rfl 34 _ (heap_alloc_new w5 _) Try.size34 rfl (Ms.all _) ?_; intro v5 hx hc; have H6 := Lib.hid (H5.out.box hc hx); obtain ⟨ab', off', hA', _, har'⟩ := (HA.out.later H6.out.below) k o HKO.out; injection hA' with hA'; injection hA' with hA1 hA2; subst hA1; subst hA2; have HR := Lib.hid har'; clear hx hc H5 har') | (refine wpList_load_mid rfl 38 (.tmp 75) rfl ab (off + k * 12) rfl o.arr.toList _ HR.out Try.underlying38 rfl Try.size38 ?_))
      rw [show Value.agg o.arr = o.val from rfl]
      refine (H6.out.own_ hml o HO.out.len HO.out.each (by omega)).mono ?_; rw [HD.out]; rintro e w7 ⟨rfl, h⟩
      have H7 := Lib.hid h; clear h H6 HR
      have q39 := fun w => neq39 m w
      go_wp2_with (first | (refine wpList_store_box rfl 39 (.tmp 13) _ rfl _ m.cells.toArray rfl rfl 39 _ (heap_alloc_new w7 _) Try.size39 rfl (Ms.all _) ?_; intro v7 hx hc; have H8 := Lib.hid (H7.out.box hc hx); have hx10 := Lib.hid (H8.out.block (g := w5.heap.size) (o := .cells m.cells.toArray 34 (0, 0)) (by simp)); have hx13 := Lib.hid (H8.out.block (g := w7.heap.size) (o := .cells m.cells.toArray 39 (0, 0)) (by simp)); clear hx hc H7) | (refine wpList_load_row rfl 34 (.tmp 10) rfl w5.heap.size rfl 34 m.cells.toArray (0, 0) _ hx10.out Try.underlying34 rfl Try.size34 ?_) | (refine wpList_load_row rfl 39 (.tmp 13) rfl w7.heap.size rfl 39 m.cells.toArray (0, 0) _ hx13.out Try.underlying39 rfl Try.size39 ?_))
      have hml2 : ms'.length ≤ 1000 := by have := HO2.out.len; omega
      obtain ⟨ol, oo, how⟩ : ∃ ol oo, sOwing ms' = (ol, oo) := ⟨_, _, rfl⟩
      obtain ⟨gm, gh, hg⟩ : ∃ gm gh, sGet ms' o.line = (gm, gh) := ⟨_, _, rfl⟩
      have HOW := Lib.hid how
      have HG := Lib.hid hg
      clear how hg
      refine (H8.out.owing hml2).mono ?_; rw [HOW.out]; rintro e w9 ⟨rfl, h⟩
      have H9 := Lib.hid (h.weaken (K' := []) (by simp)); clear h H8 hx10 hx13 q39
      go_wp2_with fail
      refine (H9.out.rowing hml2).mono ?_; rw [HOW.out]; rintro e w10 ⟨rfl, h⟩
      have H10 := Lib.hid h; clear h H9
      have ar : ∀ w', Below w.heap.size w w' → w'.cell? ⟨ab, off + k * 12 + 1, none⟩ = some (.int .i64 o.line) := by
        intro w' hb
        obtain ⟨ab', off', hA', _, har'⟩ := (HA.out.later hb) k o HKO.out
        injection hA' with hA'
        injection hA' with hA1 hA2
        subst hA1
        subst hA2
        exact har' 1 _ rfl
      have AR := Lib.hid ar
      clear ar
      have xl := AR.out _ H10.out.below
      go_wp2_with fail
      refine (H10.out.get hml2 o.line).mono ?_; rw [HG.out]; rintro e w11 ⟨rfl, h⟩
      have H11 := Lib.hid h; clear h H10 xl
      go_wp2_with (first | (refine wpList_store_box rfl 34 (.tmp 20) _ rfl _ gm.cells.toArray rfl rfl 34 _ (heap_alloc_new w11 _) Try.size34 rfl (Ms.all _) ?_; intro v11 hx hc; have H12 := Lib.hid (H11.out.box hc hx); have xl := AR.out _ H12.out.below; clear hx hc H11))
      refine (H12.out.rget hml2 o.line HO2.out.len HO2.out.each (by omega)).mono ?_; rw [HG.out]; rintro e w13 ⟨rfl, h⟩
      have H13 := Lib.hid h; clear h H12 xl
      go_wp2_with (first | (refine wpList_store_box rfl 39 (.tmp 22) _ rfl _ gm.cells.toArray rfl rfl 39 _ (heap_alloc_new w13 _) Try.size39 rfl (Ms.all _) ?_; intro v13 hx hc; have H14 := Lib.hid (H13.out.box hc hx); clear hx hc H13))
      refine (H14.out.list hml2).mono ?_; rintro e w15 ⟨A2, c2, rfl, h, hrows⟩
      have H15 := Lib.hid h; clear h H14
      have hx20 := Lib.hid (H15.out.block (g := w11.heap.size) (o := .cells gm.cells.toArray 34 (0, 0)) (by simp))
      have hx22 := Lib.hid (H15.out.block (g := w13.heap.size) (o := .cells gm.cells.toArray 39 (0, 0)) (by simp))
      obtain ⟨rows1, A3, c3, rl, rows2⟩ := hrows
      have HR1 := Lib.hid rows1
      have HR2 := Lib.hid rows2
      clear rows1 rows2
      have q39 := fun w => neq39 gm w
      go_wp2_with (first | (refine wpList_load_row_g rfl 34 (.tmp 20) rfl w11.heap.size rfl 34 gm.cells.toArray (0, 0) _ hx20.out Try.underlying34 rfl Try.size34 ?_) | (refine wpList_load_row_g rfl 39 (.tmp 22) rfl w13.heap.size rfl 39 gm.cells.toArray (0, 0) _ hx22.out Try.underlying39 rfl Try.size39 ?_))
      clear q39
      go_loopw [156] (fun v w8 => ∃ (j q : Nat), v = .int .i64 j ∧ j ≤ ms'.length ∧ w8 = w15.drewN q) (fun v _ => ms'.length - (intOf v).toNat)
      case atStart => exact ⟨0, 0, rfl, by omega, rfl⟩
      case round =>
        obtain ⟨j, q, rfl, hj, hw8⟩ := hrel
        have rl' : wr.cell? ⟨rb, 1, none⟩ = some (.slice A3 ms'.length c3) := by rw [hw8]; exact rl
        have HW8 := Lib.hid hw8
        clear hw8
        by_cases hjl : j < ms'.length
        · obtain ⟨m2, hm2⟩ : ∃ m2, ms'[j]? = some m2 := ⟨_, List.getElem?_eq_getElem hjl⟩
          obtain ⟨g2, hA2, hrng2⟩ := HR1.out j m2 hm2
          obtain ⟨g3, hA3, hrng3⟩ := HR2.out j m2 hm2
          subst hA2
          subst hA3
          have HRNG2 := Lib.hid (show wr.rangeAt g2 (j * 15) m2.cells by rw [HW8.out]; exact hrng2)
          have HRNG3 := Lib.hid (show wr.rangeAt g3 (j * 15) m2.cells by rw [HW8.out]; exact hrng3)
          clear hrng2 hrng3 hm2
          go_wp2_with fail
          have q39 := fun w => neq39 m2 w
          refine wp_region_still_lit (by kernel_rfl) (by kernel_rfl) ?_
          still_step
          still_step
          still_step
          refine still_load_mid rfl 34 (.tmp 161) rfl g2 (j * 15) rfl m2.cells _ HRNG2.out Try.underlying34 rfl Try.size34 ?_
          still_step
          still_step
          still_step
          still_step
          still_step
          still_step
          refine still_load_mid rfl 39 (.tmp 168) rfl g3 (j * 15) rfl m2.cells _ HRNG3.out Try.underlying39 rfl Try.size39 ?_
          still_step
          refine wpStill_nil ?_
          clear q39
          change Exit.then _ _ _ _ (wr.drewN 1)
          go_wp2
          go_roundw
          case rel => exact ⟨j + 1, q + 1, by go_num, by omega, by rw [HW8.out]; rfl⟩
          case measure => simp [intOf]; omega
        · have hjn : j = ms'.length := by omega
          go_wp2_with fail
          go_roundw
          case rel => exact ⟨k + 1, ms', by go_num, by omega, by simpa using HO2.out, by rw [HW8.out]; exact (H15.out.weaken (K' := []) (by simp)).drawn q⟩
          case measure => simp [intOf]; omega
    · have hkn : k = n := by omega
      go_wp2_with fail
      go_ret
      exact ⟨rfl, HS.out.below⟩
end Go.Proofs.Ytfjeheioglmalaa
