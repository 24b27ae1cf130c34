/- Same of scripts: of two copies of one script. -/
import Derived.Test.YtfjeheioglmalaaDoorMem4
import Derived.Test.YtfjeheioglmalaaDoorSame
import Derived.Test.YtfjeheioglmalaaDoorMays4
import Derived.Deep.RegionHeld3
namespace Go.Proofs.YtfjeheioglmalaaDoor
open Go.RowKit Go.Lib
set_option linter.unusedVariables false
set_option linter.unusedSimpArgs false
theorem Tryd.size3 : (Tryd.prog.info? 3).map (·.size) = some 1 := by kernel_rfl
theorem equal_three (d : Nat) (a0 a1 a2 : Int) (w : World) : (Op.equalIn (d + 2) 29 (.agg #[.int .i64 a0, .int .i64 a1, .int .i64 a2]) (.agg #[.int .i64 a0, .int .i64 a1, .int .i64 a2])).run Tryd.prog w = .ok true w := by
  obtain ⟨i, hi, h1⟩ := Option.map_eq_some_iff.1 Tryd.size3
  have hs : (sizeOf 3).run Tryd.prog w = .ok 1 w := by simp [sizeOf, typeInfo, hi, h1]
  rw [Op.equalIn]
  simp only [Sem.run_bind, run_underlying Tryd.underlying29, Result.andThen_ok]
  simp [hs, Std.Legacy.Range.forIn_eq_forIn_range', List.range', go_sem]
theorem neq31 (c : Cfg) (w : World) : (binOp .neq 31 (.agg c.arr) (.agg c.arr)).run Tryd.prog w = .ok (.bool false) w := by
  have q : ∀ (a0 a1 a2 : Int) (w : World), (Op.equalIn 9999 29 (.agg #[.int .i64 a0, .int .i64 a1, .int .i64 a2]) (.agg #[.int .i64 a0, .int .i64 a1, .int .i64 a2])).run Tryd.prog w = .ok true w := fun a0 a1 a2 w => equal_three 9997 a0 a1 a2 w
  unfold Cfg.arr
  simp [go_sem, q]
theorem neq78 (x : PK) (w : World) : (binOp .neq 78 (.agg x.arr) (.agg x.arr)).run Tryd.prog w = .ok (.bool false) w := by
  unfold PK.arr
  simp [go_sem]
theorem same_self (l : List PO) (A B : Option Addr) (c d : Nat) (hl : l.length ≤ 5000) (w : World) (ho : OpsIn w A l) (hp : OpsIn w B l) :
    Calls Tryd.prog 13 #[.slice A l.length c, .slice B l.length d] w fun e w' => e = .returned (.bool true) ∧ Below w.heap.size w w' :=
  (same_walk l l A B c d hl w ho hp).mono fun _ _ ⟨a, b⟩ => ⟨by rw [a]; simp, b⟩
theorem four_last {wr W1 : World} {p1 p2 p3 p4 : Addr} {v1 v2 v3 v4 : Value} (h : W1.cell? p1 = some v1 ∧ W1.cell? p2 = some v2 ∧ W1.cell? p3 = some v3 ∧ W1.cell? p4 = some v4 ∧ Below wr.heap.size wr W1) : Below wr.heap.size wr W1 := h.2.2.2.2
theorem four_keep {wr W1 W2 : World} {p1 p2 p3 p4 : Addr} {v1 v2 v3 v4 : Value} (h : W1.cell? p1 = some v1 ∧ W1.cell? p2 = some v2 ∧ W1.cell? p3 = some v3 ∧ W1.cell? p4 = some v4 ∧ Below wr.heap.size wr W1) (hb : Below W1.heap.size W1 W2) : W2.cell? p1 = some v1 ∧ W2.cell? p2 = some v2 ∧ W2.cell? p3 = some v3 ∧ W2.cell? p4 = some v4 ∧ Below wr.heap.size wr W2 := by
  obtain ⟨h0, h1, h2, h3, hd⟩ := h
  have key : ∀ p v, W1.cell? p = some v → W2.cell? p = some v := fun p v h => (hb.cell (p := p) (World.block_lt_of_cell? W1 p h)).trans h
  exact ⟨key _ _ h0, key _ _ h1, key _ _ h2, key _ _ h3, hd.trans (hb.mono hd.size)⟩
theorem four_start {wr : World} {p1 p2 p3 p4 : Addr} {v1 v2 v3 v4 : Value} (h1 : wr.cell? p1 = some v1) (h2 : wr.cell? p2 = some v2) (h3 : wr.cell? p3 = some v3) (h4 : wr.cell? p4 = some v4) :
    wr.drew.cell? p1 = some v1 ∧ wr.drew.cell? p2 = some v2 ∧ wr.drew.cell? p3 = some v3 ∧ wr.drew.cell? p4 = some v4 ∧ Below wr.heap.size wr wr.drew :=
  ⟨h1, h2, h3, h4, rfl, rfl, rfl, Nat.le_refl _, fun _ _ => rfl⟩
structure SRel (cs ds : Array Value) (w wr : World) : Prop where
  box1 : wr.heap[w.heap.size]? = some (.cells cs 49 (0, 0))
  box2 : wr.heap[w.heap.size + 1]? = some (.cells ds 49 (0, 0))
  below : Below w.heap.size w wr
theorem SRel.more {cs ds : Array Value} {w wr w' : World} (R : SRel cs ds w wr) (h : Below wr.heap.size wr w') : SRel cs ds w w' :=
  ⟨(h.block _ (Array.getElem?_eq_some_iff.1 R.box1).1).trans R.box1, (h.block _ (Array.getElem?_eq_some_iff.1 R.box2).1).trans R.box2, R.below.trans (h.mono R.below.size)⟩
theorem srel_start (cs ds : Array Value) (w : World) : SRel cs ds w ((w.alloc (.cells cs 49)).alloc (.cells ds 49)) :=
  ⟨by rw [Below.heap_alloc (w.alloc (.cells cs 49)) (.cells ds 49) w.heap.size (by simp)]; exact heap_alloc_new w _, by have := heap_alloc_new (w.alloc (.cells cs 49)) (.cells ds 49); simpa using this, ((Below.refl _ _).alloc (Nat.le_refl _) _).alloc (by simp) _⟩
set_option maxRecDepth 100000 in
set_option maxHeartbeats 1000000 in
theorem same4_walk (c : Cfg) (ps : List (List PO)) (ks : List PK) (A1 A2 B1 B2 : Option Addr) (c1 c2 d1 d2 : Nat) (h1 : ps.length ≤ 9223372036854775807) (h2 : ks.length ≤ 9223372036854775807) (hlen : ∀ l ∈ ps, l.length ≤ 5000) (w : World) (hp : ProgsIn w A1 ps) (hk : PicksIn w A2 ks) (hq : ProgsIn w B1 ps) (hj : PicksIn w B2 ks) :
    Calls Tryd.prog 27 #[.agg (scells c (.slice A1 ps.length c1) (.slice A2 ks.length c2)), .agg (scells c (.slice B1 ps.length d1) (.slice B2 ks.length d2))] w fun e w' => e = .returned (.bool true) ∧ Below w.heap.size w w' := by
  have HP := Lib.hid hp
  have HK := Lib.hid hk
  have HQ := Lib.hid hq
  have HJ := Lib.hid hj
  clear hp hk hq hj
  have HS := Lib.hid (srel_start (scells c (.slice A1 ps.length c1) (.slice A2 ks.length c2)) (scells c (.slice B1 ps.length d1) (.slice B2 ks.length d2)) w)
  have n31 := fun w => neq31 c w
  unfold Cfg.arr at n31
  unfold scells
  go_enter Tryd.func27, Tryd.ntmps27
  go_wp2_with fail
  clear n31
  go_loopw [5] (fun v wr => ∃ k : Nat, v = .int .i64 k ∧ k ≤ ps.length ∧ SRel (scells c (.slice A1 ps.length c1) (.slice A2 ks.length c2)) (scells c (.slice B1 ps.length d1) (.slice B2 ks.length d2)) w wr) (fun v _ => ps.length - (RowKit.intOf v).toNat)
  case atStart => exact ⟨0, rfl, by omega, HS.out⟩
  case round =>
    obtain ⟨k, rfl, hk, hR⟩ := hrel
    have R := Lib.hid hR
    have hx1 : wr.cell? ⟨w.heap.size, 13, none⟩ = some (.slice A1 ps.length c1) := box_cell hR.box1 13 rfl
    clear hR
    by_cases hlt : k < ps.length
    · obtain ⟨l, hl⟩ : ∃ l, ps[k]? = some l := ⟨_, List.getElem?_eq_getElem hlt⟩
      obtain ⟨b, off, B, cc, hA, _, hcell, hops⟩ := (HP.out.below R.out.below) k l hl
      obtain ⟨b2, off2, C, cd, hB, _, hcell2, hops2⟩ := (HQ.out.below R.out.below) k l hl
      subst hA
      subst hB
      have HL5 := hlen l (List.mem_of_getElem? hl)
      have H4 := Lib.hid (four_start hx1 (show wr.cell? ⟨w.heap.size + 1, 13, none⟩ = some (.slice (some ⟨b2, off2, none⟩) ps.length d1) from box_cell R.out.box2 13 rfl) hcell hcell2)
      have HO1 := Lib.hid hops
      have HO2 := Lib.hid hops2
      have hge : (0 : Int) ≤ k := by omega
      have hlti : (k : Int) < ps.length := by omega
      clear hl hops hops2 hcell hcell2
      go_wp2_with fail
      clear hx1
      go_region_held3 (fun W' => W'.cell? ⟨w.heap.size, 13, none⟩ = some (.slice (some ⟨b, off, none⟩) ps.length c1) ∧ W'.cell? ⟨w.heap.size + 1, 13, none⟩ = some (.slice (some ⟨b2, off2, none⟩) ps.length d1) ∧ W'.cell? ⟨b, off + k, none⟩ = some (.slice B l.length cc) ∧ W'.cell? ⟨b2, off2 + k, none⟩ = some (.slice C l.length cd) ∧ Below wr.heap.size wr W') (first | exact H4.out | exact four_keep (by assumption) hb) ((go_at_call 13; refine (same_self l B C cc cd HL5 _ (HO1.out.below (four_last (by assumption))) (HO2.out.below (four_last (by assumption)))).mono ?_; rintro e w' ⟨rfl, hb⟩))
      have hd := four_last (by assumption)
      have R9 := Lib.hid (R.out.more hd)
      clear hd
      go_wp2
      go_roundw
      case rel => exact ⟨k + 1, by go_num, by omega, R9.out⟩
      case measure => simp [RowKit.intOf]; omega
    · have hlt' : ¬ (k : Int) < ps.length := by omega
      go_wp2_with fail
      go_loopw [6] (fun v wq => ∃ k : Nat, v = .int .i64 k ∧ k ≤ ks.length ∧ SRel (scells c (.slice A1 ps.length c1) (.slice A2 ks.length c2)) (scells c (.slice B1 ps.length d1) (.slice B2 ks.length d2)) w wq) (fun v _ => ks.length - (RowKit.intOf v).toNat)
      case atStart => exact ⟨0, rfl, by omega, R.out⟩
      case round =>
        obtain ⟨j, rfl, hj2, hQ⟩ := hrel
        have Q := Lib.hid hQ
        have hx1' : wr.cell? ⟨w.heap.size, 14, none⟩ = some (.slice A2 ks.length c2) := box_cell hQ.box1 14 rfl
        have hx2' : wr.cell? ⟨w.heap.size + 1, 14, none⟩ = some (.slice B2 ks.length d2) := box_cell hQ.box2 14 rfl
        clear hQ hx1
        by_cases hlt2 : j < ks.length
        · obtain ⟨x, hx⟩ : ∃ x, ks[j]? = some x := ⟨_, List.getElem?_eq_getElem hlt2⟩
          obtain ⟨b, off, hA, _, har⟩ := (HK.out.below Q.out.below) j x hx
          obtain ⟨b2, off2, hB, _, har2⟩ := (HJ.out.below Q.out.below) j x hx
          subst hA
          subst hB
          have HR1 := Lib.hid har
          have HR2 := Lib.hid har2
          have n78 := fun w => neq78 x w
          clear har har2 hx
          go_wp2_with fail
          refine wp_region_still_lit (by kernel_rfl) (by kernel_rfl) ?_
          still_step
          still_step
          still_step
          still_step
          refine still_load_mid rfl 78 (.tmp 59) rfl b (off + j * 3) rfl x.arr.toList _ HR1.out Tryd.underlying78 rfl Tryd.size78 ?_
          still_step
          still_step
          still_step
          still_step
          refine still_load_mid rfl 78 (.tmp 64) rfl b2 (off2 + j * 3) rfl x.arr.toList _ HR2.out Tryd.underlying78 rfl Tryd.size78 ?_
          still_step
          refine wpStill_nil ?_
          clear n78
          change Exit.then _ _ _ _ (wr.drewN 1)
          have Q9 := Lib.hid (Q.out.more (w' := wr.drewN 1) ⟨rfl, rfl, rfl, Nat.le_refl _, fun _ _ => rfl⟩)
          go_wp2
          go_roundw
          case rel => exact ⟨j + 1, by go_num, by omega, Q9.out⟩
          case measure => simp [RowKit.intOf]; omega
        · have hlt3 : ¬ (j : Int) < ks.length := by omega
          go_wp2_with fail
          go_ret
          exact ⟨rfl, Q.out.below⟩
end Go.Proofs.YtfjeheioglmalaaDoor
