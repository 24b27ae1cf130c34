/- awake of the laws of layer 3. -/
import Derived.Test.YtfjeheioglmalaaDoorRFits
import Derived.Test.YtfjeheioglmalaaDoorPrint
namespace Go.Proofs.YtfjeheioglmalaaDoor
open Go.RowKit Go.Lib
set_option linter.unusedVariables false
set_option linter.unusedSimpArgs false
theorem wpList_load_row_g {P : Program} {ops : Array Oper} {rest : List Oper} {o : Oper} {a : Act} {w : World} {Q : Exit → Act → World → Prop} (hw : Region.wanted o (yielded ops a.tmps) = true) (ty : TypeId) (x : Operand) (ho : o.op = .load ty x)
    (g : Nat) (hx : a.eval x = .pointer (some ⟨g, 0, none⟩)) (t : TypeId) (cs : Array Value) (fr : Nat × Nat) (d : TypeDesc) (hg : w.heap[g]? = some (.cells cs t fr)) (hu : P.underlying ty = some d) (hd : (match d with | .struct _ | .array _ _ => true | _ => false) = true) (hi : (P.info? ty).map (·.size) = some cs.size)
    (h : wpList P ops Q rest (a.put o.dst (.agg cs)) w) : wpList P ops Q (o :: rest) a w := by
  refine BigFrame.wpList_want hw fun K hK => ?_
  unfold Oper.wp execOp
  simp only [ho, hx, Instr.loadAt, Instr.sureAddr, Sem.run_bind, Sem.run_pure, Result.andThen_ok, run_loadVar_row w g t ty cs fr d hg hu hd hi]
  exact hK _ _ h
theorem wpList_build_po_g {P : Program} {ops : Array Oper} {rest : List Oper} {o : Oper} {a : Act} {w : World} {Q : Exit → Act → World → Prop} (hw : Region.wanted o (yielded ops a.tmps) = true) (t e : TypeId) (x : Operand) (ho : o.op = .buildSlice t 1 #[(0, x)])
    (mk : PO) (ie : TypeInfo) (hu : P.underlying t = some (.slice e)) (hie : P.info? e = some ie) (hz : ie.zero = some (PO.val ⟨0, 0, 0⟩)) (hs : ie.size = 3) (hx : a.eval x = .agg mk.arr)
    (h : wpList P ops Q rest (a.put o.dst (.slice (some ⟨w.heap.size, 0, none⟩) 1 1)) (w.alloc (.cells mk.arr e))) : wpList P ops Q (o :: rest) a w := by
  refine BigFrame.wpList_want hw fun K hK => ?_
  refine wp_buildSlice t e 1 #[(0, x)] ho mk.arr ie (PO.val ⟨0, 0, 0⟩) hu hie hz (by rw [hs]; decide) (by rw [hs]; decide) ?_ (hK _ _ h)
  simp only [List.map_toArray, List.map_cons, List.map_nil, hx]
  exact fill_one mk ie hs
/-- A slice literal of three operations. -/
theorem wpList_build_po3 {P : Program} {ops : Array Oper} {rest : List Oper} {o : Oper} {a : Act} {w : World} {Q : Exit → Act → World → Prop} (hg : o.guard = none) (t e : TypeId) (x y z : Operand) (ho : o.op = .buildSlice t 3 #[(0, x), (1, y), (2, z)])
    (m1 m2 m3 : PO) (ie : TypeInfo) (hu : P.underlying t = some (.slice e)) (hie : P.info? e = some ie) (hz : ie.zero = some (PO.val ⟨0, 0, 0⟩)) (hs : ie.size = 3) (hx : a.eval x = .agg m1.arr) (hy : a.eval y = .agg m2.arr) (hzz : a.eval z = .agg m3.arr)
    (h : wpList P ops Q rest (a.put o.dst (.slice (some ⟨w.heap.size, 0, none⟩) 3 3)) (w.alloc (.cells (flat [m1, m2, m3]).toArray e))) : wpList P ops Q (o :: rest) a w := by
  refine wpList_buildSlice hg t e 3 #[(0, x), (1, y), (2, z)] ho (flat [m1, m2, m3]).toArray ie (PO.val ⟨0, 0, 0⟩) hu hie hz (by rw [hs]; decide) (by rw [hs]; decide) ?_ h
  simp only [List.map_toArray, List.map_cons, List.map_nil, hx, hy, hzz]
  rw [hs]
  exact Go.Great.fill_whole (s := 3) (by decide) [.agg m1.arr, .agg m2.arr, .agg m3.arr] ((Array.range (3 * 3)).map ((PO.val ⟨0, 0, 0⟩).cells[· % (PO.val ⟨0, 0, 0⟩).cells.size]!)) (by intro v hv; simp at hv; rcases hv with rfl | rfl | rfl <;> rfl) (by simp)
theorem ops_of_block {w : World} {g : Nat} {l : List PO} {t : TypeId} {f : Nat × Nat} (h : w.heap[g]? = some (.cells (flat l).toArray t f)) : OpsIn w (some ⟨g, 0, none⟩) l := by
  intro i x hi
  refine ⟨g, 0, rfl, (Array.getElem?_eq_some_iff.1 h).1, ?_⟩
  intro j v hv
  rw [cell_of_row w g _ _ _ _ h, Nat.zero_add]
  simpa using flat_at l i j x v hi hv
def aOps : List PO := [⟨1, 5, 0⟩, ⟨2, 3, -7⟩, ⟨4, 0, 0⟩]
def aText : List UInt8 := [76, 53, 32, 83, 51, 61, 45, 55, 32, 70]
def aCfg : Cfg := ⟨1, 1, 1, 1, 2, 2, 0, 1, 1, 1, 1, 1, 1⟩
theorem a_parse : parseP aText = (aOps, 0) := by
  have h : mgo aText Sc.zero [] = some aOps := by decide +kernel
  rw [parse_some (by decide) (by decide) h]; rfl
theorem a_print : printP aOps = (aText, 0) := by
  have h := (back_parse (s := aText) (by rw [a_parse])).2
  rwa [a_parse] at h
theorem a_bad : parseP [76, 48, 53] = ([], 2) := parse_none (by decide) (by decide) (by decide +kernel)
theorem a_arg : printP [⟨9, 0, 0⟩] = ([], 1) := rfl
theorem a_fine : aCfg.fine := by
  unfold Cfg.fine aCfg Cfg.nums
  intro n hn
  simp only [List.mem_cons, List.not_mem_nil, or_false] at hn
  rcases hn with rfl | rfl | rfl | rfl | rfl | rfl | rfl | rfl | rfl | rfl | rfl | rfl | rfl <;> decide
theorem aCfg_one : aCfg.arr.all (·.oneCell') = true := by simp [aCfg, Cfg.arr, Value.oneCell']
theorem a_fits : fitsP aCfg [⟨1, 3, 0⟩] = true := by decide +kernel
theorem a_not : fitsP aCfg aOps = false := by decide +kernel
set_option maxRecDepth 100000 in
set_option maxHeartbeats 1000000 in
theorem awake_walk (w : World) (ht : Tab w) : Calls Tryd.prog 10 #[] w fun e w' => e = .returned (.bool true) ∧ Below w.heap.size w w' := by
  have HT := Lib.hid ht
  clear ht
  have HP1 := Lib.hid (fun W => parse_walk aText (by decide) W)
  have HP2 := Lib.hid (fun W => parse_walk [76, 48, 53] (by decide) W)
  obtain ⟨i0, hi0, hz0, hz1, hz2⟩ := info_parts Tryd.info33
  have HI0 := Lib.hid hi0
  have HZ0 := Lib.hid hz0
  have HZ1 := Lib.hid hz1
  clear hi0 hz0 hz1 hz2
  go_enter Tryd.func10, Tryd.ntmps10
  go_wp2_with fail
  refine (HP1.out _).mono ?_
  rintro e w1 ⟨A, c, rfl, ho, hb⟩
  rw [a_parse] at ho ⊢
  have HO1 := Lib.hid ho
  have HB1 := Lib.hid hb
  clear ho hb HP1
  go_wp2_with fail
  refine (print_walk aOps A c (by decide) _ HO1.out (HT.out.below HB1.out)).mono ?_
  rintro e w2 ⟨rfl, hb⟩
  rw [a_print]
  have HB2 := Lib.hid (HB1.out.trans (hb.mono HB1.out.size))
  have HO2 := Lib.hid (HO1.out.below hb)
  clear hb
  go_wp2_with fail
  refine (HP2.out _).mono ?_
  rintro e w3 ⟨A3, c3, rfl, ho, hb⟩
  rw [a_bad] at ho ⊢
  have HB3 := Lib.hid (HB2.out.trans (hb.mono HB2.out.size))
  have HO3 := Lib.hid (HO2.out.below hb)
  clear ho hb HP2
  go_wp2_with (first | (refine wpList_build_po rfl 23 33 (.tmp 24) rfl ⟨9, 0, 0⟩ i0 Tryd.underlying23 HI0.out HZ0.out HZ1.out rfl ?_))
  have HB3b := Lib.hid (HB3.out.alloc HB3.out.size (.cells (PO.arr ⟨9, 0, 0⟩) 33))
  refine (print_walk [⟨9, 0, 0⟩] (some ⟨w3.heap.size, 0, none⟩) 1 (by decide) _ (ops_of_block (l := [⟨9, 0, 0⟩]) (heap_alloc_new w3 _)) (HT.out.below HB3b.out)).mono ?_
  rintro e w4 ⟨rfl, hb⟩
  rw [a_arg]
  have HB4 := Lib.hid (HB3b.out.trans (hb.mono HB3b.out.size))
  have HO4 := Lib.hid ((HO3.out.below ((Below.refl _ w3).alloc (Nat.le_refl _) (.cells (PO.arr ⟨9, 0, 0⟩) 33))).below hb)
  clear hb
  go_wp2_with (first | (refine wpList_store_new rfl 31 (.tmp 9) (.tmp 30) rfl w4.heap.size aCfg.arr rfl rfl 31 _ (heap_alloc_new w4 _) Tryd.size31 rfl aCfg_one w4.heap.size (Nat.le_refl _) ?_; intro w5 hx5 hb5; have HX5 := Lib.hid hx5; have HB5 := Lib.hid (((Below.refl _ w4).alloc (Nat.le_refl _) _).trans hb5); clear hx5 hb5) | (refine wpList_build_po3 rfl 23 33 (.tmp 32) (.tmp 33) (.tmp 34) rfl ⟨1, 5, 0⟩ ⟨2, 3, -7⟩ ⟨4, 0, 0⟩ i0 Tryd.underlying23 HI0.out HZ0.out HZ1.out rfl rfl rfl ?_))
  have HB6 := Lib.hid ((Below.refl _ w5).alloc (Nat.le_refl _) (.cells (flat aOps).toArray 33))
  have HO6 := Lib.hid ((HO4.out.below HB5.out).below HB6.out)
  refine (same_walk aOps aOps A (some ⟨w5.heap.size, 0, none⟩) c 3 (by decide) _ HO6.out (ops_of_block (heap_alloc_new w5 _))).mono ?_
  rintro e w7 ⟨rfl, hb⟩
  rw [decide_eq_true (rfl : aOps = aOps)]
  have HX7 := Lib.hid ((hb.block w4.heap.size (Nat.lt_of_lt_of_le (Array.getElem?_eq_some_iff.1 HX5.out).1 HB6.out.size)).trans ((HB6.out.block w4.heap.size (Array.getElem?_eq_some_iff.1 HX5.out).1).trans HX5.out))
  have HB7 := Lib.hid (((HB4.out.trans (HB5.out.mono HB4.out.size)).trans (HB6.out.mono (by have := HB4.out.size; have := HB5.out.size; omega))).trans (hb.mono (by have := HB4.out.size; have := HB5.out.size; have := HB6.out.size; omega)))
  have HO7 := Lib.hid (HO6.out.below hb)
  clear hb
  go_wp2_with fail
  refine (may_walk ⟨4, 0, 0⟩ _).mono ?_
  rintro e w8 ⟨rfl, hb⟩
  rw [show PO.may ⟨4, 0, 0⟩ = true from rfl]
  have HX8 := Lib.hid ((hb.block w4.heap.size (Array.getElem?_eq_some_iff.1 HX7.out).1).trans HX7.out)
  have HB8 := Lib.hid (HB7.out.trans (hb.mono HB7.out.size))
  have HO8 := Lib.hid (HO7.out.below hb)
  clear hb
  go_wp2_with (first | (refine wpList_load_row_g rfl 31 (.tmp 9) rfl w4.heap.size rfl 31 aCfg.arr (0, 0) _ HX8.out Tryd.underlying31 rfl Tryd.size31 ?_) | (refine wpList_build_po_g rfl 23 33 (.tmp 63) rfl ⟨1, 3, 0⟩ i0 Tryd.underlying23 HI0.out HZ0.out HZ1.out rfl ?_))
  have HB9 := Lib.hid ((Below.refl _ w8).alloc (Nat.le_refl _) (.cells (flat [⟨1, 3, 0⟩]).toArray 33))
  refine (fits_prog aCfg a_fine [⟨1, 3, 0⟩] (some ⟨w8.heap.size, 0, none⟩) 1 (by decide) _ (ops_of_block (l := [⟨1, 3, 0⟩]) (heap_alloc_new w8 _))).mono ?_
  rintro e w10 ⟨rfl, hb⟩
  rw [a_fits]
  have HX10 := Lib.hid ((hb.block w4.heap.size (Nat.lt_of_lt_of_le (Array.getElem?_eq_some_iff.1 HX8.out).1 HB9.out.size)).trans ((HB9.out.block w4.heap.size (Array.getElem?_eq_some_iff.1 HX8.out).1).trans HX8.out))
  have HB10 := Lib.hid ((HB8.out.trans (HB9.out.mono HB8.out.size)).trans (hb.mono (by have := HB8.out.size; have := HB9.out.size; omega)))
  have HO10 := Lib.hid ((HO8.out.below HB9.out).below hb)
  clear hb
  go_wp2_with (first | (refine wpList_load_row_g rfl 31 (.tmp 9) rfl w4.heap.size rfl 31 aCfg.arr (0, 0) _ HX10.out Tryd.underlying31 rfl Tryd.size31 ?_))
  refine (fits_prog aCfg a_fine aOps A c (by decide) _ HO10.out).mono ?_
  rintro e w11 ⟨rfl, hb⟩
  rw [a_not]
  have HB11 := Lib.hid (HB10.out.trans (hb.mono HB10.out.size))
  clear hb
  go_wp2_with fail
  go_ret
  exact ⟨rfl, HB11.out⟩
end Go.Proofs.YtfjeheioglmalaaDoor
