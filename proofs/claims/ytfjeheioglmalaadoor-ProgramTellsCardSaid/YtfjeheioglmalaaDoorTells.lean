/- The law ProgramTells. -/
import Derived.Test.YtfjeheioglmalaaDoorAwake
namespace Go.Proofs.YtfjeheioglmalaaDoor
open Go.RowKit Go.Lib
set_option linter.unusedVariables false
set_option linter.unusedSimpArgs false
theorem boxes_two (w : World) (c : Cfg) (x : PO) : ((w.alloc (.cells c.arr 31)).alloc (.cells x.arr 33)).heap[w.heap.size]? = some (.cells c.arr 31 (0, 0)) ∧ ((w.alloc (.cells c.arr 31)).alloc (.cells x.arr 33)).heap[w.heap.size + 1]? = some (.cells x.arr 33 (0, 0)) ∧ Below w.heap.size w ((w.alloc (.cells c.arr 31)).alloc (.cells x.arr 33)) :=
  ⟨(Below.heap_alloc _ _ w.heap.size (by simp)).trans (heap_alloc_new w _), heap_alloc2 w _ _, ((Below.refl _ _).alloc (Nat.le_refl _) _).alloc (by simp) _⟩
set_option maxRecDepth 100000 in
set_option maxHeartbeats 4000000 in
theorem tells_any (c : Cfg) (hc : c.fine) (l : List PO) (A : Option Addr) (cap : Nat) (x : PO) (hl : l.length ≤ 9223372036854775807) (w : World) (ht : Tab w) (ho : OpsIn w A l) :
    Calls Tryd.prog 4 #[c.val, .slice A l.length cap, x.val] w fun e w' => e = .returned (.bool true) ∧ Below w.heap.size w w' := by
  obtain ⟨hbc, hbx, hb0⟩ := boxes_two w c x
  have HA := Lib.hid (awake_walk _ (ht.below hb0))
  have HT := Lib.hid ht
  have HO := Lib.hid ho
  have HCF := Lib.hid hc
  have HB0 := Lib.hid hb0
  have HBC := Lib.hid hbc
  have HBX := Lib.hid hbx
  clear ht ho hc hb0 hbc hbx
  unfold Cfg.val PO.val
  by_cases h2 : 200 < l.length
  · have h2' : (200 : Int) < l.length := by omega
    go_enter Tryd.func4, Tryd.ntmps4
    go_wp2_with fail
    refine HA.out.mono ?_
    rintro e w1 ⟨rfl, hb⟩
    have HB := Lib.hid (HB0.out.trans (hb.mono HB0.out.size))
    clear hb
    go_wp2_with fail
    go_ret
    exact ⟨rfl, HB.out⟩
  · have h2' : ¬ (200 : Int) < l.length := by omega
    have HL := Lib.hid (show l.length ≤ 100000 by omega)
    have HL2 := Lib.hid (show l.length ≤ 200 by omega)
    have HP1 := Lib.hid (fun W h1 h2 => print_walk l A cap (by omega) W h1 h2)
    have HP2 := Lib.hid (fun W h1 => rprint_walk l A cap (by omega) W h1)
    obtain ⟨⟨ps, pe⟩, hps⟩ : ∃ p, printP l = p := ⟨_, rfl⟩
    rw [hps] at HP1 HP2
    clear hps
    obtain ⟨xk, xa, xv⟩ := x
    go_enter Tryd.func4, Tryd.ntmps4
    go_wp2_with fail
    refine HA.out.mono ?_
    rintro e w1 ⟨rfl, hb⟩
    have HB1 := Lib.hid (HB0.out.trans (hb.mono HB0.out.size))
    have HF1 := Lib.hid ((hb.block w.heap.size (Array.getElem?_eq_some_iff.1 HBC.out).1).trans HBC.out)
    have HX1 := Lib.hid ((hb.block (w.heap.size + 1) (Array.getElem?_eq_some_iff.1 HBX.out).1).trans HBX.out)
    clear hb
    go_wp2_with fail
    refine (HP1.out _ (HO.out.below HB1.out) (HT.out.below HB1.out)).mono ?_
    rintro e w2 ⟨rfl, hb⟩
    have HB2 := Lib.hid (HB1.out.trans (hb.mono HB1.out.size))
    have HF2 := Lib.hid ((hb.block w.heap.size (Array.getElem?_eq_some_iff.1 HF1.out).1).trans HF1.out)
    have HX2 := Lib.hid ((hb.block (w.heap.size + 1) (Array.getElem?_eq_some_iff.1 HX1.out).1).trans HX1.out)
    clear hb
    go_wp2_with fail
    refine (HP2.out _ (HO.out.below HB2.out)).mono ?_
    rintro e w3 ⟨rfl, hb⟩
    have HB3 := Lib.hid (HB2.out.trans (hb.mono HB2.out.size))
    have HF3 := Lib.hid ((hb.block w.heap.size (Array.getElem?_eq_some_iff.1 HF2.out).1).trans HF2.out)
    have HT3 := Lib.hid (show Three w3 (w.heap.size + 1) xk xa xv from (box_three ((hb.block (w.heap.size + 1) (Array.getElem?_eq_some_iff.1 HX2.out).1).trans HX2.out)).1)
    clear hb
    go_wp2_with fail
    obtain ⟨z0, z1, z2⟩ := HT3.out
    obtain ⟨e0, e1, e2, e3, e4, e5, e6, e7, e8, e9, e10, e11, e12⟩ := cfg_in HF3.out
    go_region_held3 (fun w' => (w'.cell? ⟨w.heap.size + 1, 0, none⟩ = some (.int .i64 xk) ∧ w'.cell? ⟨w.heap.size + 1, 1, none⟩ = some (.int .i64 xa) ∧ w'.cell? ⟨w.heap.size + 1, 2, none⟩ = some (.int .i64 xv)) ∧ w'.cell? ⟨w.heap.size, 0, none⟩ = some (.int .i64 c.cores) ∧ w'.cell? ⟨w.heap.size, 1, none⟩ = some (.int .i64 c.homes) ∧ w'.cell? ⟨w.heap.size, 2, none⟩ = some (.int .i64 c.sets) ∧ w'.cell? ⟨w.heap.size, 3, none⟩ = some (.int .i64 c.ways) ∧ w'.cell? ⟨w.heap.size, 4, none⟩ = some (.int .i64 c.words) ∧ w'.cell? ⟨w.heap.size, 5, none⟩ = some (.int .i64 c.lines) ∧ w'.cell? ⟨w.heap.size, 6, none⟩ = some (.int .i64 c.pointers) ∧ w'.cell? ⟨w.heap.size, 7, none⟩ = some (.int .i64 c.mshrs) ∧ w'.cell? ⟨w.heap.size, 8, none⟩ = some (.int .i64 c.buffer) ∧ w'.cell? ⟨w.heap.size, 9, none⟩ = some (.int .i64 c.writebacks) ∧ w'.cell? ⟨w.heap.size, 10, none⟩ = some (.int .i64 c.r0) ∧ w'.cell? ⟨w.heap.size, 11, none⟩ = some (.int .i64 c.r1) ∧ w'.cell? ⟨w.heap.size, 12, none⟩ = some (.int .i64 c.r2))
      (first | go_keep | exact ⟨HT7.out, HC7.out⟩ | exact ⟨HT6.out, HC6.out⟩ | exact ⟨HT5.out, HC5.out⟩ | exact ⟨HT4.out, HC4.out⟩)
      (first | (go_at_call 16; refine (may_walk ⟨xk, xa, xv⟩ _).mono ?_; rintro e w4 ⟨rfl, hb⟩; have HB4 := Lib.hid (HB3.out.trans ((below_undrew hb).mono HB3.out.size)); have HT4 := Lib.hid (three_below hb (three_drew HT3.out)); have HF4 := Lib.hid (((below_undrew hb).block w.heap.size (Array.getElem?_eq_some_iff.1 HF3.out).1).trans HF3.out); have HC4 := Lib.hid (cfg_in HF4.out); clear hb) | (go_at_call 17; refine (rmay_walk ⟨xk, xa, xv⟩ _).mono ?_; rintro e w5 ⟨rfl, hb⟩; have HB5 := Lib.hid (HB4.out.trans (hb.mono HB4.out.size)); have HT5 := Lib.hid (three_below hb (HT4.out)); have HF5 := Lib.hid ((hb.block w.heap.size (Array.getElem?_eq_some_iff.1 HF4.out).1).trans HF4.out); have HC5 := Lib.hid (cfg_in HF5.out); clear hb) | (go_at_call 18; refine (fits_prog c HCF.out l A cap HL.out _ (HO.out.below HB5.out)).mono ?_; rintro e w6 ⟨rfl, hb⟩; have HB6 := Lib.hid (HB5.out.trans (hb.mono HB5.out.size)); have HT6 := Lib.hid (three_below hb (HT5.out)); have HF6 := Lib.hid ((hb.block w.heap.size (Array.getElem?_eq_some_iff.1 HF5.out).1).trans HF5.out); have HC6 := Lib.hid (cfg_in HF6.out); clear hb) | (go_at_call 19; refine (fits_ref c l A cap HL.out _ (HO.out.below HB6.out)).mono ?_; rintro e w7 ⟨rfl, hb⟩; have HB7 := Lib.hid (HB6.out.trans (hb.mono HB6.out.size)); have HT7 := Lib.hid (three_below hb (HT6.out)); have HF7 := Lib.hid ((hb.block w.heap.size (Array.getElem?_eq_some_iff.1 HF6.out).1).trans HF6.out); have HC7 := Lib.hid (cfg_in HF7.out); clear hb))
    go_wp2
    go_ret
    exact ⟨ret_bool' (by simp), HB7.out⟩
end Go.Proofs.YtfjeheioglmalaaDoor
