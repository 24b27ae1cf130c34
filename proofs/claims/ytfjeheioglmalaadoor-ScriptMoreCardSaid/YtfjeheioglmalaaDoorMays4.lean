/- The reference's May. may: may a script be? -/
import Derived.Test.YtfjeheioglmalaaDoorMem4
import Derived.Test.YtfjeheioglmalaaDoorAnyRFits
import Derived.StillTailTactics
import Derived.Test.YtfjeheioglmalaaDoorAnyFits2
namespace Go.Proofs.YtfjeheioglmalaaDoor
open Go.RowKit Go.Lib
set_option linter.unusedVariables false
set_option linter.unusedSimpArgs false
theorem Tryd.size78 : (Tryd.prog.info? 78).map (·.size) = some 3 := by kernel_rfl
set_option maxRecDepth 100000 in
set_option maxHeartbeats 1000000 in
theorem rmay4_walk (c : Cfg) (ps : List (List PO)) (ks : List PK) (A1 A2 : Option Addr) (c1 c2 : Nat) (h1 : ps.length ≤ 9223372036854775807) (h2 : ks.length ≤ 3000) (hlen : ∀ l ∈ ps, l.length ≤ 9223372036854775807) (w : World) (hp : ProgsIn w A1 ps) (hk : PicksIn w A2 ks) :
    Calls Tryd.prog 40 #[.agg (scells c (.slice A1 ps.length c1) (.slice A2 ks.length c2))] w fun e w' => e = .returned (.bool (PS.may ⟨c, ps, ks⟩)) ∧ Below w.heap.size w w' := by
  have HP := Lib.hid hp
  have HK := Lib.hid hk
  clear hp hk
  have hw := heap_alloc_new w (.cells (scells c (.slice A1 ps.length c1) (.slice A2 ks.length c2)) 49)
  have hb13 := box_cell hw 13 rfl
  have hb14 := box_cell hw 14 rfl
  have HCK := Lib.hid (fun W => rcheck_walk c W)
  have HB0 := Lib.hid ((Below.refl w.heap.size w).alloc (Nat.le_refl _) (.cells (scells c (.slice A1 ps.length c1) (.slice A2 ks.length c2)) 49))
  have HW := Lib.hid hw
  unfold scells at hw hb13 hb14
  unfold scells
  cases hok : c.ok
  · have hno : okNo c = 1 := by unfold okNo; rw [hok]; rfl
    have hres : PS.may ⟨c, ps, ks⟩ = false := by unfold PS.may; simp [hok]
    have HN := Lib.hid hno
    rw [hres]
    clear hres hno
    go_enter Tryd.func40, Tryd.ntmps40
    go_wp2_with fail
    refine (HCK.out _).mono ?_
    rintro e w4 ⟨rfl, hb⟩
    rw [HN.out]
    have HB4 := Lib.hid hb
    clear hb
    go_wp2_with fail
    go_ret
    exact ⟨rfl, HB0.out.trans (HB4.out.mono HB0.out.size)⟩
  · have hno : okNo c = 0 := by unfold okNo; rw [hok]; rfl
    have HN := Lib.hid hno
    clear hno
    by_cases hc : (ps.length : Int) = c.cores
    · have hcb : ((ps.length : Int) != c.cores) = false := by simpa using hc
      have HRES : Hid (∀ z, PS.may ⟨c, ps, ks⟩ = z → PS.may ⟨c, ps, ks⟩ = z) := fun _ h => h
      go_enter Tryd.func40, Tryd.ntmps40
      go_wp2_with fail
      refine (HCK.out _).mono ?_
      rintro e w4 ⟨rfl, hb⟩
      rw [HN.out]
      have HB4 := Lib.hid (HB0.out.trans (hb.mono HB0.out.size))
      have hbx := (hb.block w.heap.size (by simp)).trans HW.out
      have HBX := Lib.hid hbx
      have hx0 : w4.cell? ⟨w.heap.size, 0, none⟩ = some (.int .i64 c.cores) := box_cell hbx 0 rfl
      have hx13 : w4.cell? ⟨w.heap.size, 13, none⟩ = some (.slice A1 ps.length c1) := box_cell hbx 13 rfl
      clear hb hbx
      go_wp2_with fail
      go_loopw [3] (fun v wr => ∃ k : Nat, v = .int .i64 k ∧ k ≤ ps.length ∧ (∀ j l, j < k → ps[j]? = some l → fitsP c l = true) ∧ Below w.heap.size w wr ∧ wr.heap[w.heap.size]? = some (.cells (scells c (.slice A1 ps.length c1) (.slice A2 ks.length c2)) 49 (0, 0))) (fun v _ => ps.length - (RowKit.intOf v).toNat)
      case atStart => exact ⟨0, rfl, by omega, fun j l hj => by omega, HB4.out, HBX.out⟩
      case round =>
        obtain ⟨k, rfl, hk, hno, hb, hbx⟩ := hrel
        have HNO := Lib.hid hno
        have HB := Lib.hid hb
        have HBX := Lib.hid hbx
        have hx13 : wr.cell? ⟨w.heap.size, 13, none⟩ = some (.slice A1 ps.length c1) := box_cell hbx 13 rfl
        have y0 : wr.cell? ⟨w.heap.size, 0, none⟩ = some (.int .i64 c.cores) := box_cell hbx 0 rfl
        have y1 : wr.cell? ⟨w.heap.size, 1, none⟩ = some (.int .i64 c.homes) := box_cell hbx 1 rfl
        have y2 : wr.cell? ⟨w.heap.size, 2, none⟩ = some (.int .i64 c.sets) := box_cell hbx 2 rfl
        have y3 : wr.cell? ⟨w.heap.size, 3, none⟩ = some (.int .i64 c.ways) := box_cell hbx 3 rfl
        have y4 : wr.cell? ⟨w.heap.size, 4, none⟩ = some (.int .i64 c.words) := box_cell hbx 4 rfl
        have y5 : wr.cell? ⟨w.heap.size, 5, none⟩ = some (.int .i64 c.lines) := box_cell hbx 5 rfl
        have y6 : wr.cell? ⟨w.heap.size, 6, none⟩ = some (.int .i64 c.pointers) := box_cell hbx 6 rfl
        have y7 : wr.cell? ⟨w.heap.size, 7, none⟩ = some (.int .i64 c.mshrs) := box_cell hbx 7 rfl
        have y8 : wr.cell? ⟨w.heap.size, 8, none⟩ = some (.int .i64 c.buffer) := box_cell hbx 8 rfl
        have y9 : wr.cell? ⟨w.heap.size, 9, none⟩ = some (.int .i64 c.writebacks) := box_cell hbx 9 rfl
        have y10 : wr.cell? ⟨w.heap.size, 10, none⟩ = some (.int .i64 c.r0) := box_cell hbx 10 rfl
        have y11 : wr.cell? ⟨w.heap.size, 11, none⟩ = some (.int .i64 c.r1) := box_cell hbx 11 rfl
        have y12 : wr.cell? ⟨w.heap.size, 12, none⟩ = some (.int .i64 c.r2) := box_cell hbx 12 rfl
        clear hno hb hbx
        by_cases hlt : k < ps.length
        · obtain ⟨l, hl⟩ : ∃ l, ps[k]? = some l := ⟨_, List.getElem?_eq_getElem hlt⟩
          obtain ⟨b, off, B, cc, hA, _, hcell, hops⟩ := (HP.out.below HB.out) k l hl
          subst hA
          have HOP := Lib.hid hops
          have HL := Lib.hid hl
          clear hl hops
          go_wp2_with fail
          refine wp_region_still_tail 7 (by kernel_rfl) (by kernel_rfl) ?_
          simp only [List.take_succ_cons, List.take_zero, List.drop_succ_cons, List.drop_zero]
          repeat still_step
          refine wpStill_nil ?_
          go_wp2_with fail
          refine (Any.fits_ref c l B cc (hlen l (List.mem_of_getElem? HL.out)) _ (HOP.out.below (below_drawn (Below.refl _ wr) 1))).mono ?_
          rintro e w5 ⟨rfl, hb⟩
          have HB5 := Lib.hid (HB.out.trans ((below_undrew hb).mono HB.out.size))
          have HBX5 := Lib.hid (((below_undrew hb).block w.heap.size (Array.getElem?_eq_some_iff.1 HBX.out).1).trans HBX.out)
          clear hb
          cases hfl : fitsP c l
          · have hres : PS.may ⟨c, ps, ks⟩ = false := by
              have : ps.all (fitsP c) = false := List.all_eq_false.2 ⟨l, List.mem_of_getElem? HL.out, by simp [hfl]⟩
              unfold PS.may
              simp [this]
            have HR := Lib.hid hres
            clear hres
            go_wp2_with fail
            go_ret
            exact ⟨ret_bool' HR.out.symm, HB5.out⟩
          · have HF := Lib.hid hfl
            clear hfl
            go_wp2_with fail
            go_roundw
            case rel => exact ⟨k + 1, by go_num, by omega, (fun j y hj hy => by
              rcases Nat.lt_succ_iff_lt_or_eq.1 hj with h | h
              · exact HNO.out j y h hy
              · subst h; rw [HL.out] at hy; injection hy with hy; subst hy; exact HF.out), HB5.out, HBX5.out⟩
            case measure => simp [RowKit.intOf]; omega
        · have hlt' : ¬ (k : Int) < ps.length := by omega
          have hkn : k = ps.length := by omega
          have HALL := Lib.hid (show ps.all (fitsP c) = true from List.all_eq_true.2 (fun y hy => by
            obtain ⟨j, hj⟩ := List.getElem?_of_mem hy
            exact HNO.out j y (by rw [hkn]; exact (List.getElem?_eq_some_iff.1 hj).1) hj))
          subst hkn
          clear y0 y1 y2 y3 y4 y5 y6 y7 y8 y9 y10 y11 y12
          go_wp2_with fail
          go_loopw [4] (fun v wq => ∃ k : Nat, v = .int .i64 k ∧ k ≤ ks.length ∧ (∀ j x, j < k → ks[j]? = some x → x.may = true) ∧ Below w.heap.size w wq ∧ wq.heap[w.heap.size]? = some (.cells (scells c (.slice A1 ps.length c1) (.slice A2 ks.length c2)) 49 (0, 0))) (fun v _ => ks.length - (RowKit.intOf v).toNat)
          case atStart => exact ⟨0, rfl, by omega, fun j l hj => by omega, HB.out, HBX.out⟩
          case round =>
            obtain ⟨k, rfl, hk, hno, hb, hbx⟩ := hrel
            have HNO2 := Lib.hid hno
            have HBq := Lib.hid hb
            have HBXq := Lib.hid hbx
            have hx14 : wr.cell? ⟨w.heap.size, 14, none⟩ = some (.slice A2 ks.length c2) := box_cell hbx 14 rfl
            clear hno hb hbx
            by_cases hlt2 : k < ks.length
            · obtain ⟨x, hx⟩ : ∃ x, ks[k]? = some x := ⟨_, List.getElem?_eq_getElem hlt2⟩
              obtain ⟨b, off, hA, _, har⟩ := (HK.out.below HBq.out) k x hx
              subst hA
              have HRg := Lib.hid har
              have HX := Lib.hid hx
              clear har hx
              obtain ⟨xk, xa, xb⟩ := x
              go_wp2_with (first | (refine wpList_load_mid rfl 78 (.tmp 45) rfl b (off + k * 3) rfl (PK.arr ⟨xk, xa, xb⟩).toList _ HRg.out Tryd.underlying78 rfl Tryd.size78 ?_) | (refine wpList_store_new rfl 78 (.tmp 5) _ rfl wr.heap.size (PK.arr ⟨xk, xa, xb⟩) rfl rfl 78 _ (heap_alloc_new wr _) Tryd.size78 rfl (PK.one _) wr.heap.size (Nat.le_refl _) ?_; intro w6 hx6 hb6; have HX6 := Lib.hid hx6; have HB6 := Lib.hid (((Below.refl wr.heap.size wr).alloc (Nat.le_refl _) _).trans hb6); clear hx6 hb6; generalize hG : wpList _ _ _ _ _ _ = G; have HG := Lib.hid hG; clear hG))
              obtain ⟨z0, z1, z2⟩ := (box_three (a := xk) (b := xa) (c := xb) HX6.out).1
              have HB7 := Lib.hid (HBq.out.trans (HB6.out.mono HBq.out.size))
              have HBX7 := Lib.hid ((HB6.out.block w.heap.size (Array.getElem?_eq_some_iff.1 HBXq.out).1).trans HBXq.out)
              have HBAD : Hid ((⟨xk, xa, xb⟩ : PK).may = false → PS.may ⟨c, ps, ks⟩ = false) := fun h => by
                have : ks.all PK.may = false := List.all_eq_false.2 ⟨_, List.mem_of_getElem? HX.out, by simp [h]⟩
                unfold PS.may
                simp [this]
              rw [← HG.out]
              clear HG
              by_cases p0 : xk < 0
              · have HR := Lib.hid (HBAD.out (by unfold PK.may; simp; omega))
                go_wp2_with fail
                go_ret
                exact ⟨ret_bool' HR.out.symm, HB7.out⟩
              by_cases p1 : xa < 0
              · have HR := Lib.hid (HBAD.out (by unfold PK.may; simp; omega))
                go_wp2_with fail
                go_ret
                exact ⟨ret_bool' HR.out.symm, HB7.out⟩
              by_cases p2 : xb < 0
              · have HR := Lib.hid (HBAD.out (by unfold PK.may; simp; omega))
                go_wp2_with fail
                go_ret
                exact ⟨ret_bool' HR.out.symm, HB7.out⟩
              by_cases p3 : 255 < xk
              · have HR := Lib.hid (HBAD.out (by unfold PK.may; simp; omega))
                go_wp2_with fail
                go_ret
                exact ⟨ret_bool' HR.out.symm, HB7.out⟩
              by_cases p4 : 255 < xa
              · have HR := Lib.hid (HBAD.out (by unfold PK.may; simp; omega))
                go_wp2_with fail
                go_ret
                exact ⟨ret_bool' HR.out.symm, HB7.out⟩
              by_cases p5 : 255 < xb
              · have HR := Lib.hid (HBAD.out (by unfold PK.may; simp; omega))
                go_wp2_with fail
                go_ret
                exact ⟨ret_bool' HR.out.symm, HB7.out⟩
              have HM := Lib.hid (show (⟨xk, xa, xb⟩ : PK).may = true by unfold PK.may; simp; omega)
              go_wp2_with fail
              go_roundw
              case rel => exact ⟨k + 1, by go_num, by omega, (fun j y hj hy => by
                rcases Nat.lt_succ_iff_lt_or_eq.1 hj with h | h
                · exact HNO2.out j y h hy
                · subst h; rw [HX.out] at hy; injection hy with hy; subst hy; exact HM.out), HB7.out, HBX7.out⟩
              case measure => simp [RowKit.intOf]; omega
            · have hkn : k = ks.length := by omega
              have HK2 := Lib.hid (show ks.all PK.may = true from List.all_eq_true.2 (fun y hy => by
                obtain ⟨j, hj⟩ := List.getElem?_of_mem hy
                exact HNO2.out j y (by rw [hkn]; exact (List.getElem?_eq_some_iff.1 hj).1) hj))
              have hres : PS.may ⟨c, ps, ks⟩ = true := by
                unfold PS.may
                simp [hok, hc, HALL.out, HK2.out]
              have HR := Lib.hid hres
              subst hkn
              clear hres
              go_wp2_with fail
              go_ret
              exact ⟨ret_bool' HR.out.symm, HBq.out⟩
    · have hres : PS.may ⟨c, ps, ks⟩ = false := by unfold PS.may; simp [hc]
      have hcb : ((ps.length : Int) != c.cores) = true := by simpa using hc
      rw [hres]
      clear hres
      go_enter Tryd.func40, Tryd.ntmps40
      go_wp2_with fail
      refine (HCK.out _).mono ?_
      rintro e w4 ⟨rfl, hb⟩
      rw [HN.out]
      have HB4 := Lib.hid hb
      have hbx := (hb.block w.heap.size (by simp)).trans HW.out
      have hx0 : w4.cell? ⟨w.heap.size, 0, none⟩ = some (.int .i64 c.cores) := box_cell hbx 0 rfl
      have hx13 : w4.cell? ⟨w.heap.size, 13, none⟩ = some (.slice A1 ps.length c1) := box_cell hbx 13 rfl
      clear hb hbx
      go_wp2_with fail
      go_ret
      exact ⟨rfl, HB0.out.trans (HB4.out.mono HB0.out.size)⟩
end Go.Proofs.YtfjeheioglmalaaDoor
namespace Go.Proofs.YtfjeheioglmalaaDoor
open Go.RowKit Go.Lib
set_option linter.unusedVariables false
set_option linter.unusedSimpArgs false
def pk3 (x : PK) (j : Nat) : Int := if j = 0 then x.k else if j = 1 then x.a else x.b
theorem three_at (x : PK) (j : Nat) (h : j < 3) (w : World) : (Instr.index 29 (.agg #[.int .i64 x.k, .int .i64 x.a, .int .i64 x.b]) (.int .i64 (j : Int))).run Tryd.prog w = .ok (.int .i64 (pk3 x j)) w := by
  obtain rfl | rfl | rfl : j = 0 ∨ j = 1 ∨ j = 2 := by omega
  · show _ = _
    kernel_rfl
  · show _ = _
    kernel_rfl
  · show _ = _
    kernel_rfl
theorem pk3_bad {x : PK} {j : Nat} {n : Int} (h : j < 3) (hn : pk3 x j = n) (hb : n < 0 ∨ 255 < n) : x.may = false := by
  unfold PK.may
  obtain rfl | rfl | rfl : j = 0 ∨ j = 1 ∨ j = 2 := by omega
  · simp only [pk3, if_true] at hn
    simp; omega
  · simp only [pk3, if_true, Nat.one_ne_zero, if_false] at hn
    simp; omega
  · have hn : x.b = n := hn
    simp; omega
theorem pk3_good {x : PK} (h : ∀ i, i < 3 → 0 ≤ pk3 x i ∧ pk3 x i ≤ 255) : x.may = true := by
  have h0 : 0 ≤ x.k ∧ x.k ≤ 255 := h 0 (by omega)
  have h1 : 0 ≤ x.a ∧ x.a ≤ 255 := h 1 (by omega)
  have h2 : 0 ≤ x.b ∧ x.b ≤ 255 := h 2 (by omega)
  unfold PK.may
  simp; omega
set_option maxRecDepth 100000 in
set_option maxHeartbeats 1000000 in
theorem may4_walk (c : Cfg) (hfine : c.fine) (ps : List (List PO)) (ks : List PK) (A1 A2 : Option Addr) (c1 c2 : Nat) (h1 : ps.length ≤ 9223372036854775807) (h2 : ks.length ≤ 3000) (hlen : ∀ l ∈ ps, l.length ≤ 9223372036854775807) (w : World) (hp : ProgsIn w A1 ps) (hk : PicksIn w A2 ks) :
    Calls Tryd.prog 37 #[.agg (scells c (.slice A1 ps.length c1) (.slice A2 ks.length c2))] w fun e w' => e = .returned (.bool (PS.may ⟨c, ps, ks⟩)) ∧ Below w.heap.size w w' := by
  have HP := Lib.hid hp
  have HK := Lib.hid hk
  clear hp hk
  have hw := heap_alloc_new w (.cells (scells c (.slice A1 ps.length c1) (.slice A2 ks.length c2)) 43)
  have hb13 := box_cell hw 13 rfl
  have hb14 := box_cell hw 14 rfl
  have HCK := Lib.hid (fun W => check_walk c hfine W)
  have HB0 := Lib.hid ((Below.refl w.heap.size w).alloc (Nat.le_refl _) (.cells (scells c (.slice A1 ps.length c1) (.slice A2 ks.length c2)) 43))
  have HW := Lib.hid hw
  unfold scells at hw hb13 hb14
  unfold scells
  cases hok : c.ok
  · have hno : okNo c = 1 := by unfold okNo; rw [hok]; rfl
    have hres : PS.may ⟨c, ps, ks⟩ = false := by unfold PS.may; simp [hok]
    have HN := Lib.hid hno
    rw [hres]
    clear hres hno
    go_enter Tryd.func37, Tryd.ntmps37
    go_wp2_with fail
    refine (HCK.out _).mono ?_
    rintro e w4 ⟨rfl, hb⟩
    rw [HN.out]
    have HB4 := Lib.hid hb
    clear hb
    go_wp2_with fail
    go_ret
    exact ⟨rfl, HB0.out.trans (HB4.out.mono HB0.out.size)⟩
  · have hno : okNo c = 0 := by unfold okNo; rw [hok]; rfl
    have HN := Lib.hid hno
    clear hno
    by_cases hc : (ps.length : Int) = c.cores
    · have hcb : ((ps.length : Int) != c.cores) = false := by simpa using hc
      have HRES : Hid (∀ z, PS.may ⟨c, ps, ks⟩ = z → PS.may ⟨c, ps, ks⟩ = z) := fun _ h => h
      go_enter Tryd.func37, Tryd.ntmps37
      go_wp2_with fail
      refine (HCK.out _).mono ?_
      rintro e w4 ⟨rfl, hb⟩
      rw [HN.out]
      have HB4 := Lib.hid (HB0.out.trans (hb.mono HB0.out.size))
      have hbx := (hb.block w.heap.size (by simp)).trans HW.out
      have HBX := Lib.hid hbx
      have hx0 : w4.cell? ⟨w.heap.size, 0, none⟩ = some (.int .i64 c.cores) := box_cell hbx 0 rfl
      have hx13 : w4.cell? ⟨w.heap.size, 13, none⟩ = some (.slice A1 ps.length c1) := box_cell hbx 13 rfl
      clear hb hbx
      go_wp2_with fail
      go_loopw [4, 25] (fun u v wr => ∃ k : Nat, v = .int .i64 k ∧ k ≤ ps.length ∧ (∀ j l, j < k → ps[j]? = some l → fitsP c l = true) ∧ Below w.heap.size w wr ∧ wr.heap[w.heap.size]? = some (.cells (scells c (.slice A1 ps.length c1) (.slice A2 ks.length c2)) 43 (0, 0))) (fun _ v _ => ps.length - (RowKit.intOf v).toNat)
      case atStart => exact ⟨0, rfl, by omega, fun j l hj => by omega, HB4.out, HBX.out⟩
      case round =>
        obtain ⟨k, rfl, hk, hno, hb, hbx⟩ := hrel
        have HNO := Lib.hid hno
        have HB := Lib.hid hb
        have HBX := Lib.hid hbx
        have hx13 : wr.cell? ⟨w.heap.size, 13, none⟩ = some (.slice A1 ps.length c1) := box_cell hbx 13 rfl
        have y0 : wr.cell? ⟨w.heap.size, 0, none⟩ = some (.int .i64 c.cores) := box_cell hbx 0 rfl
        have y1 : wr.cell? ⟨w.heap.size, 1, none⟩ = some (.int .i64 c.homes) := box_cell hbx 1 rfl
        have y2 : wr.cell? ⟨w.heap.size, 2, none⟩ = some (.int .i64 c.sets) := box_cell hbx 2 rfl
        have y3 : wr.cell? ⟨w.heap.size, 3, none⟩ = some (.int .i64 c.ways) := box_cell hbx 3 rfl
        have y4 : wr.cell? ⟨w.heap.size, 4, none⟩ = some (.int .i64 c.words) := box_cell hbx 4 rfl
        have y5 : wr.cell? ⟨w.heap.size, 5, none⟩ = some (.int .i64 c.lines) := box_cell hbx 5 rfl
        have y6 : wr.cell? ⟨w.heap.size, 6, none⟩ = some (.int .i64 c.pointers) := box_cell hbx 6 rfl
        have y7 : wr.cell? ⟨w.heap.size, 7, none⟩ = some (.int .i64 c.mshrs) := box_cell hbx 7 rfl
        have y8 : wr.cell? ⟨w.heap.size, 8, none⟩ = some (.int .i64 c.buffer) := box_cell hbx 8 rfl
        have y9 : wr.cell? ⟨w.heap.size, 9, none⟩ = some (.int .i64 c.writebacks) := box_cell hbx 9 rfl
        have y10 : wr.cell? ⟨w.heap.size, 10, none⟩ = some (.int .i64 c.r0) := box_cell hbx 10 rfl
        have y11 : wr.cell? ⟨w.heap.size, 11, none⟩ = some (.int .i64 c.r1) := box_cell hbx 11 rfl
        have y12 : wr.cell? ⟨w.heap.size, 12, none⟩ = some (.int .i64 c.r2) := box_cell hbx 12 rfl
        clear hno hb hbx
        by_cases hlt : k < ps.length
        · obtain ⟨l, hl⟩ : ∃ l, ps[k]? = some l := ⟨_, List.getElem?_eq_getElem hlt⟩
          obtain ⟨b, off, B, cc, hA, _, hcell, hops⟩ := (HP.out.below HB.out) k l hl
          subst hA
          have HOP := Lib.hid hops
          have HL := Lib.hid hl
          clear hl hops
          go_wp2_with fail
          refine (Any.fits_prog c hfine l B cc (hlen l (List.mem_of_getElem? HL.out)) _ HOP.out).mono ?_
          rintro e w5 ⟨rfl, hb⟩
          have HB5 := Lib.hid (HB.out.trans (hb.mono HB.out.size))
          have HBX5 := Lib.hid ((hb.block w.heap.size (Array.getElem?_eq_some_iff.1 HBX.out).1).trans HBX.out)
          clear hb
          cases hfl : fitsP c l
          · have hres : PS.may ⟨c, ps, ks⟩ = false := by
              have : ps.all (fitsP c) = false := List.all_eq_false.2 ⟨l, List.mem_of_getElem? HL.out, by simp [hfl]⟩
              unfold PS.may
              simp [this]
            have HR := Lib.hid hres
            clear hres
            go_wp2_with fail
            go_ret
            exact ⟨ret_bool' HR.out.symm, HB5.out⟩
          · have HF := Lib.hid hfl
            clear hfl
            go_wp2_with fail
            go_roundw
            case rel => exact ⟨k + 1, by go_num, by omega, (fun j y hj hy => by
              rcases Nat.lt_succ_iff_lt_or_eq.1 hj with h | h
              · exact HNO.out j y h hy
              · subst h; rw [HL.out] at hy; injection hy with hy; subst hy; exact HF.out), HB5.out, HBX5.out⟩
            case measure => simp [RowKit.intOf]; omega
        · have hlt' : ¬ (k : Int) < ps.length := by omega
          have hkn : k = ps.length := by omega
          have HALL := Lib.hid (show ps.all (fitsP c) = true from List.all_eq_true.2 (fun y hy => by
            obtain ⟨j, hj⟩ := List.getElem?_of_mem hy
            exact HNO.out j y (by rw [hkn]; exact (List.getElem?_eq_some_iff.1 hj).1) hj))
          subst hkn
          clear y0 y1 y2 y3 y4 y5 y6 y7 y8 y9 y10 y11 y12
          have hx14 : wr.cell? ⟨w.heap.size, 14, none⟩ = some (.slice A2 ks.length c2) := box_cell HBX.out 14 rfl
          go_wp2_with fail
          go_loopw [38] (fun v wq => ∃ k : Nat, v = .int .i64 k ∧ k ≤ ks.length ∧ (∀ j x, j < k → ks[j]? = some x → x.may = true) ∧ Below w.heap.size w wq ∧ wq.heap[w.heap.size]? = some (.cells (scells c (.slice A1 ps.length c1) (.slice A2 ks.length c2)) 43 (0, 0))) (fun v _ => ks.length - (RowKit.intOf v).toNat)
          case atStart => exact ⟨0, rfl, by omega, fun j l hj => by omega, HB.out, HBX.out⟩
          case round =>
            obtain ⟨k, rfl, hk, hno, hb, hbx⟩ := hrel
            have HNO2 := Lib.hid hno
            have HBq := Lib.hid hb
            have HBXq := Lib.hid hbx
            clear hno hb hbx hx14 hx13
            by_cases hlt2 : k < ks.length
            · obtain ⟨x, hx⟩ : ∃ x, ks[k]? = some x := ⟨_, List.getElem?_eq_getElem hlt2⟩
              obtain ⟨b, off, hA, _, har⟩ := (HK.out.below HBq.out) k x hx
              subst hA
              have HRg := Lib.hid har
              have HX := Lib.hid hx
              clear har hx
              obtain ⟨xk, xa, xb⟩ := x
              go_wp2_with (first | (refine wpList_load_mid rfl 59 (.tmp 40) rfl b (off + k * 3) rfl (PK.arr ⟨xk, xa, xb⟩).toList _ HRg.out Tryd.underlying59 rfl Tryd.size59 ?_) | (refine wpList_store_new rfl 59 (.tmp 6) _ rfl wr.heap.size (PK.arr ⟨xk, xa, xb⟩) rfl rfl 59 _ (heap_alloc_new wr _) Tryd.size59 rfl (PK.one _) wr.heap.size (Nat.le_refl _) ?_; intro w6 hx6 hb6; have HX6 := Lib.hid hx6; have HB6 := Lib.hid (((Below.refl wr.heap.size wr).alloc (Nat.le_refl _) _).trans hb6); clear hx6 hb6; generalize hG : wpList _ _ _ _ _ _ = G; have HG := Lib.hid hG; clear hG))
              obtain ⟨z0, z1, z2⟩ := (box_three (a := xk) (b := xa) (c := xb) HX6.out).1
              have HB7 := Lib.hid (HBq.out.trans (HB6.out.mono HBq.out.size))
              have HBX7 := Lib.hid ((HB6.out.block w.heap.size (Array.getElem?_eq_some_iff.1 HBXq.out).1).trans HBXq.out)
              have HBAD : Hid ((⟨xk, xa, xb⟩ : PK).may = false → PS.may ⟨c, ps, ks⟩ = false) := fun h => by
                have : ks.all PK.may = false := List.all_eq_false.2 ⟨_, List.mem_of_getElem? HX.out, by simp [h]⟩
                unfold PS.may
                simp [this]
              rw [← HG.out]
              clear HG
              go_wp2_with fail
              obtain ⟨s48, h48⟩ : ∃ v : Value, Value.agg #[.int .i64 xk, .int .i64 xa, .int .i64 xb] = v := ⟨_, rfl⟩
              go_loop [49] (fun v => ∃ j : Nat, v = .int .i64 j ∧ j ≤ 3 ∧ (∀ i, i < j → 0 ≤ pk3 ⟨xk, xa, xb⟩ i ∧ pk3 ⟨xk, xa, xb⟩ i ≤ 255)) (fun v => 3 - (RowKit.intOf v).toNat)
              case atStart => exact ⟨0, rfl, by omega, fun i hi => by omega⟩
              case round =>
                obtain ⟨j, rfl, hj, hgood⟩ := hrel
                have HGD := Lib.hid hgood
                clear hgood h48
                by_cases hlt3 : j < 3
                · have hlt3' : (j : Int) < 3 := by omega
                  have hidx := three_at ⟨xk, xa, xb⟩ j hlt3
                  obtain ⟨n, hn⟩ : ∃ n, pk3 ⟨xk, xa, xb⟩ j = n := ⟨_, rfl⟩
                  rw [hn] at hidx
                  have HN := Lib.hid hn
                  clear hn
                  by_cases p0 : n < 0
                  · have HR := Lib.hid (HBAD.out (pk3_bad hlt3 HN.out (by omega)))
                    go_wp2_with fail
                    go_ret
                    exact ⟨ret_bool' HR.out.symm, HB7.out⟩
                  by_cases p1 : 255 < n
                  · have HR := Lib.hid (HBAD.out (pk3_bad hlt3 HN.out (by omega)))
                    go_wp2_with fail
                    go_ret
                    exact ⟨ret_bool' HR.out.symm, HB7.out⟩
                  have p0' : 0 ≤ n := by omega
                  have p1' : n ≤ 255 := by omega
                  go_wp2_with fail
                  go_round
                  case rel => exact ⟨j + 1, by go_num, by omega, fun i hi => by
                    rcases Nat.lt_succ_iff_lt_or_eq.1 hi with h | h
                    · exact HGD.out i h
                    · subst h; rw [HN.out]; exact ⟨p0', p1'⟩⟩
                  case measure => simp [RowKit.intOf]; omega
                · have hlt3' : ¬ (j : Int) < 3 := by omega
                  have HM := Lib.hid (pk3_good (x := ⟨xk, xa, xb⟩) (fun i hi => HGD.out i (by omega)))
                  go_wp2_with fail
                  go_roundw
                  case rel => exact ⟨k + 1, by go_num, by omega, (fun j y hj hy => by
                    rcases Nat.lt_succ_iff_lt_or_eq.1 hj with h | h
                    · exact HNO2.out j y h hy
                    · subst h; rw [HX.out] at hy; injection hy with hy; subst hy; exact HM.out), HB7.out, HBX7.out⟩
                  case measure => simp [RowKit.intOf]; omega
            · have hkn : k = ks.length := by omega
              have HK2 := Lib.hid (show ks.all PK.may = true from List.all_eq_true.2 (fun y hy => by
                obtain ⟨j, hj⟩ := List.getElem?_of_mem hy
                exact HNO2.out j y (by rw [hkn]; exact (List.getElem?_eq_some_iff.1 hj).1) hj))
              have hres : PS.may ⟨c, ps, ks⟩ = true := by
                unfold PS.may
                simp [hok, hc, HALL.out, HK2.out]
              have HR := Lib.hid hres
              subst hkn
              clear hres
              go_wp2_with fail
              go_ret
              exact ⟨ret_bool' HR.out.symm, HBq.out⟩
    · have hres : PS.may ⟨c, ps, ks⟩ = false := by unfold PS.may; simp [hc]
      have hcb : ((ps.length : Int) != c.cores) = true := by simpa using hc
      rw [hres]
      clear hres
      go_enter Tryd.func37, Tryd.ntmps37
      go_wp2_with fail
      refine (HCK.out _).mono ?_
      rintro e w4 ⟨rfl, hb⟩
      rw [HN.out]
      have HB4 := Lib.hid hb
      have hbx := (hb.block w.heap.size (by simp)).trans HW.out
      have hx0 : w4.cell? ⟨w.heap.size, 0, none⟩ = some (.int .i64 c.cores) := box_cell hbx 0 rfl
      have hx13 : w4.cell? ⟨w.heap.size, 13, none⟩ = some (.slice A1 ps.length c1) := box_cell hbx 13 rfl
      clear hb hbx
      go_wp2_with fail
      go_ret
      exact ⟨rfl, HB0.out.trans (HB4.out.mono HB0.out.size)⟩
end Go.Proofs.YtfjeheioglmalaaDoor
