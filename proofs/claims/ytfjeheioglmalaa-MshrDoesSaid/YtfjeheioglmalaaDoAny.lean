/- 'do' of the laws: one operation on a file of package mshr. -/
import Derived.Test.YtfjeheioglmalaaAwake
namespace Go.Proofs.Ytfjeheioglmalaa
open Go.RowKit

/-- An operation of the laws. -/
structure Opr where
  d : Int
  line : Int
  n : Int
  st : Int
  x : W8
def Opr.arr (o : Opr) : Array Value := #[.int .i64 o.d, .int .i64 o.line, .int .i64 o.n, .int .i64 o.st, .int .i64 o.x.1, .int .i64 o.x.2.1, .int .i64 o.x.2.2.1, .int .i64 o.x.2.2.2.1, .int .i64 o.x.2.2.2.2.1, .int .i64 o.x.2.2.2.2.2.1, .int .i64 o.x.2.2.2.2.2.2.1, .int .i64 o.x.2.2.2.2.2.2.2]
def Opr.val (o : Opr) : Value := .agg o.arr
def sDo (room : Int) (l : List Ms) (o : Opr) : (Ms × Bool × Int) × List Ms :=
  if o.d = 0 then ((Ms.zero, false, (sOpen room l o.line o.n).1), (sOpen room l o.line o.n).2)
  else if o.d = 1 then ((Ms.zero, false, (sData l o.line o.n o.st o.x).1), (sData l o.line o.n o.st o.x).2)
  else if o.d = 2 then ((Ms.zero, false, (sGrant l o.line o.n).1), (sGrant l o.line o.n).2)
  else if o.d = 3 then ((Ms.zero, false, (sAck l o.line).1), (sAck l o.line).2)
  else if o.d = 4 then (((sOwe l o.line).1.1, (sOwe l o.line).1.2, 0), (sOwe l o.line).2)
  else ((Ms.zero, false, (sClose l o.line).1), (sClose l o.line).2)
theorem did_boxes {w w1 w2 w3 : World} {ft mt B fb : Nat} {sv : Value} {room : Int} {l l' : List Ms} (hf : FileIs w ft mt B fb sv room l) (hb : Below w.heap.size w w1) (hd : Did ft mt B fb sv room l' w1 w2) {g : Nat} (hg1 : w.heap.size ≤ g) (hg2 : g < w1.heap.size) (hc : Chg (· = g) w2 w3) : Did ft mt B fb sv room l' w w3 := by
  obtain ⟨sv', h1, h2, h3⟩ := hd
  have hbs := hb.size
  refine ⟨sv', h1.keep hc ?_, ?_, ?_⟩
  · intro k hk e
    subst e
    rcases h3 k hk with h | h
    · have := (hf.own_lt h).2; omega
    · omega
  · refine Chg.trans (E' := (· = g)) ?_ hc (fun i hi e => by omega)
    exact Chg.trans (Chg.of_below (E := own fb sv) hb) h2 (fun _ _ e => e)
  · intro k hk
    rcases h3 k hk with h | h
    · exact .inl h
    · right; omega
theorem did_box_kept {w w1 w2 : World} {ft mt B fb : Nat} {sv : Value} {room : Int} {l l' : List Ms} (hf : FileIs w ft mt B fb sv room l) (hd : Did ft mt B fb sv room l' w1 w2) {g : Nat} {o : Obj} (hg1 : w.heap.size ≤ g) (ho : w1.heap[g]? = some o) : w2.heap[g]? = some o := by
  obtain ⟨sv', h1, h2, h3⟩ := hd
  exact (h2.block g (lt_of_block ho) (fun e => by have := (hf.own_lt e).2; omega)).trans ho
theorem Did.grow {w w1 w2 : World} {ft mt B fb : Nat} {sv : Value} {room : Int} {l' : List Ms} (h : Did ft mt B fb sv room l' w w1) (hb : Below w1.heap.size w1 w2) : Did ft mt B fb sv room l' w w2 := by
  obtain ⟨sv', h1, h2, h3⟩ := h
  exact ⟨sv', h1.below hb, h2.then_below hb, h3⟩
section
variable {P : Program}
theorem ret_cell_tmp2 {fn : Func} {p q r : Tmp} {ty : TypeId} (h : fn.results = #[.cell p ty, .tmp q, .tmp r]) {R : Ending → World → Prop} {a : Act} {w : World} (g : Nat) (t : TypeId) (cs : Array Value) (fr : Nat × Nat) (d : TypeDesc) (u v : Value)
    (hp : a.tmps.getD p undef = .pointer (some ⟨g, 0, none⟩)) (hq : a.tmps.getD q undef = u) (hr : a.tmps.getD r undef = v) (hg : w.heap[g]? = some (.cells cs t fr))
    (hu : P.underlying ty = some d) (hd : (match d with | .struct _ | .array _ _ => true | _ => false) = true) (hi : (P.info? ty).map (·.size) = some cs.size)
    (hda : a.defers = []) (hR : R (.returned (.tuple #[.agg cs, u, v])) w) : bodyPost P fn R .ret a w := by
  refine ⟨hda, .tuple #[.agg cs, u, v], ?_, hR⟩
  have hp' : a.tmps[p]?.getD undef = .pointer (some ⟨g, 0, none⟩) := by simpa using hp
  have hq' : a.tmps[q]?.getD undef = u := by simpa using hq
  have hr' : a.tmps[r]?.getD undef = v := by simpa using hr
  simp [results, h, hp', hq', hr', asAddr, run_loadVar_row w g t ty cs fr d hg hu hd hi]
end
/-- What 'do' comes to. -/
def DoPost (B fb : Nat) (sv : Value) (room : Int) (l : List Ms) (o : Opr) (w : World) (e : Ending) (w' : World) : Prop :=
  e = .returned (.tuple #[(sDo room l o).1.1.val, .bool (sDo room l o).1.2.1, .int .i64 (sDo room l o).1.2.2]) ∧ Did 60 34 B fb sv room (sDo room l o).2 w w'
section
variable {B fb : Nat} {sv : Value} {room : Int} {l : List Ms} (w : World) (hm : l.length ≤ 1000) (hf : FileIs w 60 34 B fb sv room l)
include hm hf
theorem do_open (line n st : Int) (x : W8) :
    Calls Try.prog 9 #[.pointer (some ⟨fb, 0, none⟩), (⟨0, line, n, st, x⟩ : Opr).val] w fun e w' => e = .returned (.tuple #[Ms.zero.val, .bool false, .int .i64 (sOpen room l line n).1]) ∧ Did 60 34 B fb sv room (sOpen room l line n).2 w w' := by
  have HF := Lib.hid hf
  clear hf
  have hb0 : Below w.heap.size w ((w.alloc (.cells (⟨0, line, n, st, x⟩ : Opr).arr 38)).alloc (.cells Ms.zero.cells.toArray 34)) := ((Below.refl _ _).alloc (Nat.le_refl _) _).alloc (by simp) _
  have HF2 := Lib.hid (HF.out.below hb0)
  have HBS := Lib.hid (show B ≤ ((w.alloc (.cells (⟨0, line, n, st, x⟩ : Opr).arr 38)).alloc (.cells Ms.zero.cells.toArray 34)).heap.size by have := HF.out.base; have := HF.out.lt; simp; omega)
  have HB0 := Lib.hid hb0
  have HX := Lib.hid (heap_alloc_new (w.alloc (.cells (⟨0, line, n, st, x⟩ : Opr).arr 38)) (.cells Ms.zero.cells.toArray 34))
  clear hb0
  unfold Opr.val Opr.arr
  go_enter Try.func9, Try.ntmps9
  go_wp2_with (first | (go_at_call 16; go_must (refine (open_any _ hm HF2.out line n HBS.out).mono ?_); rintro e w1 ⟨rfl, h⟩; have HD := Lib.hid h; have HX1 := Lib.hid (did_box_kept (g := w.heap.size + 1) HF.out h (by omega) (by simpa using HX.out)); clear h) | (refine wpList_store_box rfl 34 (.tmp 4) _ rfl _ Ms.zero.cells.toArray rfl rfl 34 _ HX1.out Try.size34 rfl (Ms.all _) ?_; intro w2 hx2 hc2; have HX2 := Lib.hid hx2; have HC2 := Lib.hid hc2; clear hx2 hc2))
  refine ret_cell_tmp2 (p := 4) (q := 5) (r := 6) (ty := 34) rfl (w.heap.size + 1) 34 Ms.zero.cells.toArray _ _ _ _ rfl rfl rfl HX2.out Try.underlying34 rfl Try.size34 rfl ⟨rfl, ?_⟩
  exact did_boxes HF.out HB0.out HD.out (g := w.heap.size + 1) (by omega) (by simp) HC2.out
theorem do_data (line n st : Int) (x : W8) :
    Calls Try.prog 9 #[.pointer (some ⟨fb, 0, none⟩), (⟨1, line, n, st, x⟩ : Opr).val] w fun e w' => e = .returned (.tuple #[Ms.zero.val, .bool false, .int .i64 (sData l line n st x).1]) ∧ Did 60 34 B fb sv room (sData l line n st x).2 w w' := by
  have HF := Lib.hid hf
  clear hf
  have hb0 : Below w.heap.size w ((w.alloc (.cells (⟨1, line, n, st, x⟩ : Opr).arr 38)).alloc (.cells Ms.zero.cells.toArray 34)) := ((Below.refl _ _).alloc (Nat.le_refl _) _).alloc (by simp) _
  have HF2 := Lib.hid (HF.out.below hb0)
  have HBS := Lib.hid (show B ≤ ((w.alloc (.cells (⟨1, line, n, st, x⟩ : Opr).arr 38)).alloc (.cells Ms.zero.cells.toArray 34)).heap.size by have := HF.out.base; have := HF.out.lt; simp; omega)
  have HB0 := Lib.hid hb0
  have HX := Lib.hid (heap_alloc_new (w.alloc (.cells (⟨1, line, n, st, x⟩ : Opr).arr 38)) (.cells Ms.zero.cells.toArray 34))
  clear hb0
  unfold Opr.val Opr.arr
  go_enter Try.func9, Try.ntmps9
  go_wp2_with (first | (go_at_call 19; go_must (refine (data_any _ hm HF2.out line n st x).mono ?_); rintro e w1 ⟨rfl, h⟩; have HD := Lib.hid h; have HX1 := Lib.hid (did_box_kept (g := w.heap.size + 1) HF.out h (by omega) (by simpa using HX.out)); clear h) | (refine wpList_store_box rfl 34 (.tmp 4) _ rfl _ Ms.zero.cells.toArray rfl rfl 34 _ HX1.out Try.size34 rfl (Ms.all _) ?_; intro w2 hx2 hc2; have HX2 := Lib.hid hx2; have HC2 := Lib.hid hc2; clear hx2 hc2))
  refine ret_cell_tmp2 (p := 4) (q := 5) (r := 6) (ty := 34) rfl (w.heap.size + 1) 34 Ms.zero.cells.toArray _ _ _ _ rfl rfl rfl HX2.out Try.underlying34 rfl Try.size34 rfl ⟨rfl, ?_⟩
  exact did_boxes HF.out HB0.out HD.out (g := w.heap.size + 1) (by omega) (by simp) HC2.out
theorem do_grant (line n st : Int) (x : W8) :
    Calls Try.prog 9 #[.pointer (some ⟨fb, 0, none⟩), (⟨2, line, n, st, x⟩ : Opr).val] w fun e w' => e = .returned (.tuple #[Ms.zero.val, .bool false, .int .i64 (sGrant l line n).1]) ∧ Did 60 34 B fb sv room (sGrant l line n).2 w w' := by
  have HF := Lib.hid hf
  clear hf
  have hb0 : Below w.heap.size w ((w.alloc (.cells (⟨2, line, n, st, x⟩ : Opr).arr 38)).alloc (.cells Ms.zero.cells.toArray 34)) := ((Below.refl _ _).alloc (Nat.le_refl _) _).alloc (by simp) _
  have HF2 := Lib.hid (HF.out.below hb0)
  have HBS := Lib.hid (show B ≤ ((w.alloc (.cells (⟨2, line, n, st, x⟩ : Opr).arr 38)).alloc (.cells Ms.zero.cells.toArray 34)).heap.size by have := HF.out.base; have := HF.out.lt; simp; omega)
  have HB0 := Lib.hid hb0
  have HX := Lib.hid (heap_alloc_new (w.alloc (.cells (⟨2, line, n, st, x⟩ : Opr).arr 38)) (.cells Ms.zero.cells.toArray 34))
  clear hb0
  unfold Opr.val Opr.arr
  go_enter Try.func9, Try.ntmps9
  go_wp2_with (first | (go_at_call 18; go_must (refine (grant_any _ hm HF2.out line n).mono ?_); rintro e w1 ⟨rfl, h⟩; have HD := Lib.hid h; have HX1 := Lib.hid (did_box_kept (g := w.heap.size + 1) HF.out h (by omega) (by simpa using HX.out)); clear h) | (refine wpList_store_box rfl 34 (.tmp 4) _ rfl _ Ms.zero.cells.toArray rfl rfl 34 _ HX1.out Try.size34 rfl (Ms.all _) ?_; intro w2 hx2 hc2; have HX2 := Lib.hid hx2; have HC2 := Lib.hid hc2; clear hx2 hc2))
  refine ret_cell_tmp2 (p := 4) (q := 5) (r := 6) (ty := 34) rfl (w.heap.size + 1) 34 Ms.zero.cells.toArray _ _ _ _ rfl rfl rfl HX2.out Try.underlying34 rfl Try.size34 rfl ⟨rfl, ?_⟩
  exact did_boxes HF.out HB0.out HD.out (g := w.heap.size + 1) (by omega) (by simp) HC2.out
theorem do_ack (hg : ∀ m ∈ l, 0 ≤ m.got ∧ m.got ≤ 1000) (line n st : Int) (x : W8) :
    Calls Try.prog 9 #[.pointer (some ⟨fb, 0, none⟩), (⟨3, line, n, st, x⟩ : Opr).val] w fun e w' => e = .returned (.tuple #[Ms.zero.val, .bool false, .int .i64 (sAck l line).1]) ∧ Did 60 34 B fb sv room (sAck l line).2 w w' := by
  have HF := Lib.hid hf
  clear hf
  have hb0 : Below w.heap.size w ((w.alloc (.cells (⟨3, line, n, st, x⟩ : Opr).arr 38)).alloc (.cells Ms.zero.cells.toArray 34)) := ((Below.refl _ _).alloc (Nat.le_refl _) _).alloc (by simp) _
  have HF2 := Lib.hid (HF.out.below hb0)
  have HBS := Lib.hid (show B ≤ ((w.alloc (.cells (⟨3, line, n, st, x⟩ : Opr).arr 38)).alloc (.cells Ms.zero.cells.toArray 34)).heap.size by have := HF.out.base; have := HF.out.lt; simp; omega)
  have HB0 := Lib.hid hb0
  have HX := Lib.hid (heap_alloc_new (w.alloc (.cells (⟨3, line, n, st, x⟩ : Opr).arr 38)) (.cells Ms.zero.cells.toArray 34))
  clear hb0
  unfold Opr.val Opr.arr
  go_enter Try.func9, Try.ntmps9
  go_wp2_with (first | (go_at_call 20; go_must (refine (ack_any _ hm HF2.out line hg).mono ?_); rintro e w1 ⟨rfl, h⟩; have HD := Lib.hid h; have HX1 := Lib.hid (did_box_kept (g := w.heap.size + 1) HF.out h (by omega) (by simpa using HX.out)); clear h) | (refine wpList_store_box rfl 34 (.tmp 4) _ rfl _ Ms.zero.cells.toArray rfl rfl 34 _ HX1.out Try.size34 rfl (Ms.all _) ?_; intro w2 hx2 hc2; have HX2 := Lib.hid hx2; have HC2 := Lib.hid hc2; clear hx2 hc2))
  refine ret_cell_tmp2 (p := 4) (q := 5) (r := 6) (ty := 34) rfl (w.heap.size + 1) 34 Ms.zero.cells.toArray _ _ _ _ rfl rfl rfl HX2.out Try.underlying34 rfl Try.size34 rfl ⟨rfl, ?_⟩
  exact did_boxes HF.out HB0.out HD.out (g := w.heap.size + 1) (by omega) (by simp) HC2.out
theorem do_close (d : Int) (h0 : d ≠ 0) (h1 : d ≠ 1) (h2 : d ≠ 2) (h3 : d ≠ 3) (h4 : d ≠ 4) (line n st : Int) (x : W8) :
    Calls Try.prog 9 #[.pointer (some ⟨fb, 0, none⟩), (⟨d, line, n, st, x⟩ : Opr).val] w fun e w' => e = .returned (.tuple #[Ms.zero.val, .bool false, .int .i64 (sClose l line).1]) ∧ Did 60 34 B fb sv room (sClose l line).2 w w' := by
  have HF := Lib.hid hf
  clear hf
  have b0 : (d == 0) = false := by simpa using h0
  have b1 : (d == 1) = false := by simpa using h1
  have b2 : (d == 2) = false := by simpa using h2
  have b3 : (d == 3) = false := by simpa using h3
  have b4 : (d == 4) = false := by simpa using h4
  clear h0 h1 h2 h3 h4
  have hb0 : Below w.heap.size w ((w.alloc (.cells (⟨d, line, n, st, x⟩ : Opr).arr 38)).alloc (.cells Ms.zero.cells.toArray 34)) := ((Below.refl _ _).alloc (Nat.le_refl _) _).alloc (by simp) _
  have HF2 := Lib.hid (HF.out.below hb0)
  have HBS := Lib.hid (show B ≤ ((w.alloc (.cells (⟨d, line, n, st, x⟩ : Opr).arr 38)).alloc (.cells Ms.zero.cells.toArray 34)).heap.size by have := HF.out.base; have := HF.out.lt; simp; omega)
  have HB0 := Lib.hid hb0
  have HX := Lib.hid (heap_alloc_new (w.alloc (.cells (⟨d, line, n, st, x⟩ : Opr).arr 38)) (.cells Ms.zero.cells.toArray 34))
  clear hb0
  unfold Opr.val Opr.arr
  go_enter Try.func9, Try.ntmps9
  go_wp2_with (first | (go_at_call 21; go_must (refine (close_any _ hm HF2.out line).mono ?_); rintro e w1 ⟨rfl, h⟩; have HD := Lib.hid h; have HX1 := Lib.hid (did_box_kept (g := w.heap.size + 1) HF.out h (by omega) (by simpa using HX.out)); clear h) | (refine wpList_store_box rfl 34 (.tmp 4) _ rfl _ Ms.zero.cells.toArray rfl rfl 34 _ HX1.out Try.size34 rfl (Ms.all _) ?_; intro w2 hx2 hc2; have HX2 := Lib.hid hx2; have HC2 := Lib.hid hc2; clear hx2 hc2))
  refine ret_cell_tmp2 (p := 4) (q := 5) (r := 6) (ty := 34) rfl (w.heap.size + 1) 34 Ms.zero.cells.toArray _ _ _ _ rfl rfl rfl HX2.out Try.underlying34 rfl Try.size34 rfl ⟨rfl, ?_⟩
  exact did_boxes HF.out HB0.out HD.out (g := w.heap.size + 1) (by omega) (by simp) HC2.out
theorem do_owe (line n st : Int) (x : W8) :
    Calls Try.prog 9 #[.pointer (some ⟨fb, 0, none⟩), (⟨4, line, n, st, x⟩ : Opr).val] w fun e w' => e = .returned (.tuple #[(sOwe l line).1.1.val, .bool (sOwe l line).1.2, .int .i64 0]) ∧ Did 60 34 B fb sv room (sOwe l line).2 w w' := by
  have HF := Lib.hid hf
  clear hf
  have hb0 : Below w.heap.size w ((w.alloc (.cells (⟨4, line, n, st, x⟩ : Opr).arr 38)).alloc (.cells Ms.zero.cells.toArray 34)) := ((Below.refl _ _).alloc (Nat.le_refl _) _).alloc (by simp) _
  have HF2 := Lib.hid (HF.out.below hb0)
  have HB0 := Lib.hid hb0
  have HX := Lib.hid (heap_alloc_new (w.alloc (.cells (⟨4, line, n, st, x⟩ : Opr).arr 38)) (.cells Ms.zero.cells.toArray 34))
  clear hb0
  obtain ⟨m, hmm⟩ : ∃ m, (sOwe l line).1.1 = m := ⟨_, rfl⟩
  have HM := Lib.hid hmm
  clear hmm
  rw [HM.out]
  unfold Opr.val Opr.arr
  go_enter Try.func9, Try.ntmps9
  go_wp2_with (first | (go_at_call 17; go_must (refine (owe_any _ hm HF2.out line).mono ?_); rw [HM.out]; rintro e w1 ⟨rfl, h⟩; have HD := Lib.hid h; have HX1 := Lib.hid (did_box_kept (g := w.heap.size + 1) HF.out h (by omega) (by simpa using HX.out)); have hs1 := h.choose_spec.2.1.size; simp at hs1; clear h) | (refine wpList_store_box rfl 34 (.tmp 7) _ rfl _ m.cells.toArray rfl rfl 34 _ (heap_alloc_new w1 _) Try.size34 rfl (Ms.all _) ?_; intro v1 hx hc; have HB7 := Lib.hid (boxed hc); have HX7 := Lib.hid hx; have HX4 := Lib.hid (((boxed hc).block (w.heap.size + 1) (lt_of_block HX1.out)).trans HX1.out); clear hx hc) | (refine wpList_load_row rfl 34 (.tmp 7) rfl w1.heap.size rfl 34 m.cells.toArray (0, 0) _ HX7.out Try.underlying34 rfl Try.size34 ?_) | (refine wpList_store_box rfl 34 (.tmp 4) _ rfl _ m.cells.toArray rfl rfl 34 _ HX4.out Try.size34 rfl (Ms.all _) ?_; intro w2 hx2 hc2; have HX2 := Lib.hid hx2; have HC2 := Lib.hid hc2; clear hx2 hc2))
  refine ret_cell_tmp2 (p := 4) (q := 5) (r := 6) (ty := 34) rfl (w.heap.size + 1) 34 m.cells.toArray _ _ _ _ rfl rfl rfl HX2.out Try.underlying34 rfl Try.size34 rfl ⟨rfl, ?_⟩
  exact did_boxes HF.out HB0.out (HD.out.grow HB7.out) (g := w.heap.size + 1) (by omega) (by simp) HC2.out
theorem do_any (o : Opr) (hg : ∀ m ∈ l, 0 ≤ m.got ∧ m.got ≤ 1000) :
    Calls Try.prog 9 #[.pointer (some ⟨fb, 0, none⟩), o.val] w (DoPost B fb sv room l o w) := by
  obtain ⟨d, line, n, st, x⟩ := o
  by_cases h0 : d = 0
  · subst h0
    refine (do_open w hm hf line n st x).mono fun e w' h => ?_
    unfold DoPost sDo
    exact h
  by_cases h1 : d = 1
  · subst h1
    refine (do_data w hm hf line n st x).mono fun e w' h => ?_
    unfold DoPost sDo
    exact h
  by_cases h2 : d = 2
  · subst h2
    refine (do_grant w hm hf line n st x).mono fun e w' h => ?_
    unfold DoPost sDo
    exact h
  by_cases h3 : d = 3
  · subst h3
    refine (do_ack w hm hf hg line n st x).mono fun e w' h => ?_
    unfold DoPost sDo
    exact h
  by_cases h4 : d = 4
  · subst h4
    refine (do_owe w hm hf line n st x).mono fun e w' h => ?_
    unfold DoPost sDo
    exact h
  · refine (do_close w hm hf d h0 h1 h2 h3 h4 line n st x).mono fun e w' h => ?_
    unfold DoPost sDo
    rw [if_neg h0, if_neg h1, if_neg h2, if_neg h3, if_neg h4]
    exact h
end
end Go.Proofs.Ytfjeheioglmalaa
