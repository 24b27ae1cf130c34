/- Ack, Owe, Data and Grant of package mshr: what each comes to. -/
import Derived.Test.YtfjeheioglmalaaOpen
namespace Go.Proofs.Ytfjeheioglmalaa
open Go.RowKit


theorem ack_none {B fb : Nat} {sv : Value} {room : Int} {l : List Ms} (line : Int) (w : World) (hm : l.length ≤ 1000) (hf : FileIs w 60 34 B fb sv room l) (hi : l.findIdx? (fun m => m.line == line) = none) :
    Calls Try.prog 20 #[.pointer (some ⟨fb, 0, none⟩), .int .i64 line] w fun e w' => e = .returned (.int .i64 5) ∧ Below w.heap.size w w' := by
  have HF := Lib.hid hf
  have HI := Lib.hid hi
  clear hf hi
  go_enter Try.func20, Try.ntmps20
  go_wp2_with (go_at_call 30; refine (of_none _ _ hm HF.out HI.out).mono ?_; rintro e w' ⟨rfl, hb⟩; have HB := Lib.hid hb; clear hb)
  go_ret
  exact ⟨rfl, HB.out⟩
theorem ack_table {B fb g n c : Nat} {room : Int} {l : List Ms} (line : Int) (w : World) (hm : l.length ≤ 1000) (hf : FileIs w 60 34 B fb (.slice (some ⟨g, 0, none⟩) n c) room l) {i : Nat} {m : Ms} (hi : l.findIdx? (fun m => m.line == line) = some i) (hmi : l[i]? = some m)
    (ht : m.kind = 1 ∨ m.needs = m.got) :
    Calls Try.prog 20 #[.pointer (some ⟨fb, 0, none⟩), .int .i64 line] w fun e w' => e = .returned (.int .i64 7) ∧ Below w.heap.size w w' := by
  have HF := Lib.hid hf
  have HI := Lib.hid hi
  have HM := Lib.hid hmi
  clear hf hi hmi
  have ht2 : (m.kind == 1) = true ∨ (m.kind == 1) = false ∧ (m.needs == m.got) = true := by
    by_cases h : m.kind = 1
    · exact .inl (by simpa using h)
    · exact .inr ⟨by simpa using h, by simpa using ht.resolve_left h⟩
  clear ht
  rcases ht2 with t1 | ⟨t1, t2⟩
  all_goals
    go_enter Try.func20, Try.ntmps20
    go_wp2_with (go_at_call 30; refine (of_some _ _ hm HF.out HI.out).mono ?_; rintro e w' ⟨rfl, hb⟩; have c1 := (HF.out.below hb).elem HM.out 1 _ rfl; have c2 := (HF.out.below hb).elem HM.out 2 _ rfl; have c3 := (HF.out.below hb).elem HM.out 3 _ rfl; have HB := Lib.hid hb; clear hb)
    go_quiet (fail)
    go_wp2
    go_ret
    exact ⟨rfl, below_drawn HB.out _⟩
theorem ack_ok {B fb g n c : Nat} {room : Int} {l : List Ms} (line : Int) (w : World) (hm : l.length ≤ 1000) (hf : FileIs w 60 34 B fb (.slice (some ⟨g, 0, none⟩) n c) room l) {i : Nat} {m : Ms} (hi : l.findIdx? (fun m => m.line == line) = some i) (hmi : l[i]? = some m)
    (h1 : m.kind ≠ 1) (h2 : m.needs ≠ m.got) (h3 : 0 ≤ m.got) (h4 : m.got ≤ 1000) :
    Calls Try.prog 20 #[.pointer (some ⟨fb, 0, none⟩), .int .i64 line] w fun e w' => e = .returned (.int .i64 0) ∧ Kept 60 34 B fb (.slice (some ⟨g, 0, none⟩) n c) room (l.set i { m with got := m.got + 1 }) w w' := by
  have HF := Lib.hid hf
  have HI := Lib.hid hi
  have HM := Lib.hid hmi
  clear hf hi hmi
  have t1 : (m.kind == 1) = false := by simpa using h1
  have t2 : (m.needs == m.got) = false := by simpa using h2
  clear h1 h2
  go_enter Try.func20, Try.ntmps20
  go_wp2_with (go_at_call 30; refine (of_some _ _ hm HF.out HI.out).mono ?_; rintro e w' ⟨rfl, hb⟩; have c1 := (HF.out.below hb).elem HM.out 1 _ rfl; have c2 := (HF.out.below hb).elem HM.out 2 _ rfl; have c3 := (HF.out.below hb).elem HM.out 3 _ rfl; have f3 := (HF.out.below hb).rowFree (i * 15 + 3); have HB := Lib.hid hb; clear hb)
  go_quiet (fail)
  go_wp2
  go_ret
  refine ⟨rfl, ((HF.out.below HB.out).below (below_drawn (Below.refl _ _) _)).set HM.out (by decide) rfl, ?_⟩
  exact (chg_drawn (Chg.of_below HB.out) _).setCell (.inr rfl) _

theorem owe_none {B fb : Nat} {sv : Value} {room : Int} {l : List Ms} (line : Int) (w : World) (hm : l.length ≤ 1000) (hf : FileIs w 60 34 B fb sv room l) (hi : l.findIdx? (fun m => m.line == line) = none) :
    Calls Try.prog 17 #[.pointer (some ⟨fb, 0, none⟩), .int .i64 line] w fun e w' => e = .returned (.tuple #[Ms.zero.val, .bool false]) ∧ Below w.heap.size w w' := by
  have HF := Lib.hid hf
  have HI := Lib.hid hi
  clear hf hi
  go_enter Try.func17, Try.ntmps17
  go_wp2_with (go_at_call 30; refine (of_none _ _ hm (HF.out.below ((Below.refl _ _).alloc (Nat.le_refl _) _)) HI.out).mono ?_; rintro e w1 ⟨rfl, hb⟩; have HB := Lib.hid hb; have HX := Lib.hid (box_kept hb); clear hb)
  go_quiet (fail)
  go_wp2_with (refine wpList_store_box rfl 34 (.tmp 4) _ rfl _ Ms.zero.cells.toArray rfl rfl 34 _ HX.out Try.size34 rfl (Ms.all _) ?_; intro w2 hx2 hc2; have HX2 := Lib.hid hx2; have HC2 := Lib.hid hc2; clear hx2 hc2)
  refine ret_cell_tmp (p := 4) (q := 5) (ty := 34) rfl w.heap.size 34 Ms.zero.cells.toArray _ _ _ rfl rfl HX2.out Try.underlying34 rfl Try.size34 rfl ⟨rfl, ?_⟩
  exact ((Below.refl _ _).alloc (Nat.le_refl _) _).trans (((below_drawn HB.out _).mono (by simp)).trans (HC2.out.below (by have := HB.out.size; simp at this; simp; omega) (by intro i hi e; omega)))
theorem owe_no {B fb g n c : Nat} {room : Int} {l : List Ms} (line : Int) (w : World) (hm : l.length ≤ 1000) (hf : FileIs w 60 34 B fb (.slice (some ⟨g, 0, none⟩) n c) room l) {i : Nat} {m : Ms} (hi : l.findIdx? (fun m => m.line == line) = some i) (hmi : l[i]? = some m)
    (ht : m.owes = true ∨ m.needs ≠ m.got) :
    Calls Try.prog 17 #[.pointer (some ⟨fb, 0, none⟩), .int .i64 line] w fun e w' => e = .returned (.tuple #[Ms.zero.val, .bool false]) ∧ Below w.heap.size w w' := by
  have HF := Lib.hid hf
  have HI := Lib.hid hi
  have HM := Lib.hid hmi
  clear hf hi hmi
  have ht2 : m.owes = true ∨ m.owes = false ∧ (m.needs != m.got) = true := by
    cases h : m.owes
    · exact .inr ⟨rfl, by simpa using ht.resolve_left (by simp [h])⟩
    · exact .inl rfl
  clear ht
  rcases ht2 with t1 | ⟨t1, t2⟩
  all_goals
    go_enter Try.func17, Try.ntmps17
    go_wp2_with (go_at_call 30; refine (of_some _ _ hm (HF.out.below ((Below.refl _ _).alloc (Nat.le_refl _) _)) HI.out).mono ?_; rintro e w1 ⟨rfl, hb⟩; have f1 := (HF.out.below ((Below.refl _ _).alloc (Nat.le_refl _) _)).below hb; have c2 := f1.elem HM.out 2 _ rfl; have c3 := f1.elem HM.out 3 _ rfl; have c14 := f1.elem HM.out 14 _ rfl; clear f1; have HB := Lib.hid hb; have HX := Lib.hid (box_kept hb); clear hb)
    go_quiet (fail)
    go_wp2_with (refine wpList_store_box rfl 34 (.tmp 4) _ rfl _ Ms.zero.cells.toArray rfl rfl 34 _ HX.out Try.size34 rfl (Ms.all _) ?_; intro w2 hx2 hc2; have HX2 := Lib.hid hx2; have HC2 := Lib.hid hc2; clear hx2 hc2)
    refine ret_cell_tmp (p := 4) (q := 5) (ty := 34) rfl w.heap.size 34 Ms.zero.cells.toArray _ _ _ rfl rfl HX2.out Try.underlying34 rfl Try.size34 rfl ⟨rfl, ?_⟩
    exact ((Below.refl _ _).alloc (Nat.le_refl _) _).trans (((below_drawn HB.out _).mono (by simp)).trans (HC2.out.below (by have := HB.out.size; simp at this; simp; omega) (by intro i hi e; omega)))
theorem owe_yes {B fb g n c : Nat} {room : Int} {l : List Ms} (line : Int) (w : World) (hm : l.length ≤ 1000) (hf : FileIs w 60 34 B fb (.slice (some ⟨g, 0, none⟩) n c) room l) {i : Nat} {m : Ms} (hi : l.findIdx? (fun m => m.line == line) = some i) (hmi : l[i]? = some m)
    (ht1 : m.owes = false) (ht2 : m.needs = m.got) :
    Calls Try.prog 17 #[.pointer (some ⟨fb, 0, none⟩), .int .i64 line] w fun e w' => e = .returned (.tuple #[m.val, .bool true]) ∧ Kept 60 34 B fb (.slice (some ⟨g, 0, none⟩) n c) room (l.set i { m with owes := true }) w w' := by
  have HF := Lib.hid hf
  have HI := Lib.hid hi
  have HM := Lib.hid hmi
  clear hf hi hmi
  have t1 : (m.needs != m.got) = false := by simpa using ht2
  clear ht2
  go_enter Try.func17, Try.ntmps17
  go_wp2_with (go_at_call 30; refine (of_some _ _ hm (HF.out.below ((Below.refl _ _).alloc (Nat.le_refl _) _)) HI.out).mono ?_; rintro e w1 ⟨rfl, hb⟩; have f1 := (HF.out.below ((Below.refl _ _).alloc (Nat.le_refl _) _)).below hb; have c2 := f1.elem HM.out 2 _ rfl; have c3 := f1.elem HM.out 3 _ rfl; have c14 := f1.elem HM.out 14 _ rfl; have HF1 := Lib.hid f1; clear f1; have HB := Lib.hid hb; have HX := Lib.hid (box_kept hb); clear hb)
  go_quiet (fail)
  clear c2 c3 c14
  have fr : ∀ nq o w2, Chg (· = w1.heap.size) ((w1.drewN nq).alloc o) w2 → FileIs w2 60 34 B fb (.slice (some ⟨g, 0, none⟩) n c) room l := by
    intro nq o w2 hc
    refine ((HF1.out.below (below_drawn (Below.refl _ w1) nq)).below ((Below.refl _ (w1.drewN nq)).alloc (Nat.le_refl _) o)).keep hc ?_
    intro k hk e
    have := (HF1.out.own_lt hk).2
    omega
  have FR := Lib.hid fr
  clear fr
  have b4 : ∀ nq o w2 x, Chg (· = w1.heap.size) ((w1.drewN nq).alloc o) w2 → w1.heap[w.heap.size]? = some x → w2.heap[w.heap.size]? = some x := by
    intro nq o w2 x hc hx
    have hs := HB.out.size
    simp at hs
    have h1 : w.heap.size < ((w1.drewN nq).alloc o).heap.size := by simp; omega
    refine (hc.block w.heap.size h1 (by omega)).trans ((Below.heap_alloc (w1.drewN nq) o w.heap.size (by simp; omega)).trans hx)
  have B4 := Lib.hid b4
  clear b4
  have hg : g < w.heap.size := HF.out.row_lt
  have hg1 : g < w1.heap.size := HF1.out.row_lt
  go_wp2_with (first | (refine wpList_load_mid rfl 34 (.tmp 32) rfl g (i * 15) rfl m.cells _ (HF1.out.elem HM.out) Try.underlying34 rfl Try.size34 ?_) | (refine wpList_store_box rfl 34 (.tmp 7) _ rfl _ m.cells.toArray rfl rfl 34 _ (heap_alloc_new (World.drewN w1 _) _) Try.size34 rfl (Ms.all _) ?_; intro w2 hx2 hc2; have f2 := FR.out _ _ _ hc2; have c14 := f2.elem HM.out 14 _ rfl; have fr14 := f2.rowFree (i * 15 + 14); have HX3 := Lib.hid (B4.out _ _ _ _ hc2 HX.out); have HF2 := Lib.hid f2; have HX2 := Lib.hid hx2; have HC2 := Lib.hid hc2; clear hx2 hc2 f2) | (refine wpList_load_row rfl 34 (.tmp 7) rfl w1.heap.size rfl 34 m.cells.toArray _ _ ((Below.heap_setCell w2 _ _ w1.heap.size (Nat.ne_of_gt hg1)).trans HX2.out) Try.underlying34 rfl Try.size34 ?_) | (refine wpList_store_box rfl 34 (.tmp 4) _ rfl _ m.cells.toArray rfl rfl 34 _ ((Below.heap_setCell w2 _ _ w.heap.size (Nat.ne_of_gt hg)).trans HX3.out) Try.size34 rfl (Ms.all _) ?_; intro w5 hx5 hc5; have HX5 := Lib.hid hx5; have HC5 := Lib.hid hc5; clear hx5 hc5))
  refine ret_cell_tmp (p := 4) (q := 5) (ty := 34) rfl w.heap.size 34 m.cells.toArray _ _ _ rfl rfl HX5.out Try.underlying34 rfl Try.size34 rfl ⟨rfl, (HF2.out.set (m' := { m with owes := true }) HM.out (by decide) rfl).keep HC5.out ?_, ?_⟩
  · intro k hk e
    subst e
    rcases hk with h | h
    · have := HF.out.lt; omega
    · simp [Value.ownBlock] at h; omega
  · have hs := HB.out.size
    simp at hs
    refine Chg.trans (E' := (· = w.heap.size)) (Chg.setCell (E := own fb (.slice (some ⟨g, 0, none⟩) n c)) (p := ⟨g, i * 15 + 14, none⟩) ?_ (.inr rfl) _) HC5.out (fun i hi e => by omega)
    refine Chg.trans (E' := (· = w1.heap.size)) ?_ HC2.out (fun i hi e => by omega)
    refine Chg.alloc (chg_drawn ?_ _) _
    exact Chg.of_below (((Below.refl _ _).alloc (Nat.le_refl _) _).trans (HB.out.mono (by simp)))

/-- Whether a state, with so many acks, is one for a miss: as the code asks it. -/
def fitsB (m : Ms) (acks own : Int) : Bool :=
  if m.needs != -1 || decide (acks < m.got) then false else if m.kind == 2 then own == 4 else acks == 0 && (own == 1 || own == 2)
theorem ret_bool {a b : Bool} (h : a = b) : Ending.returned (.bool a) = .returned (.bool b) := by rw [h]
theorem fits_any (g o : Nat) (m : Ms) (acks own : Int) (w : World) (c1 : w.cell? ⟨g, o + 1, none⟩ = some (.int .i64 m.kind)) (c2 : w.cell? ⟨g, o + 2, none⟩ = some (.int .i64 m.needs)) (c3 : w.cell? ⟨g, o + 3, none⟩ = some (.int .i64 m.got)) :
    Calls Try.prog 33 #[.pointer (some ⟨g, o, none⟩), .int .i64 acks, .int .i64 own] w fun e w' => e = .returned (.bool (fitsB m acks own)) ∧ w = w' := by
  cases t1 : (m.needs != -1)
  · by_cases t2 : acks < m.got
    · have R := Lib.hid (show fitsB m acks own = false by simp [fitsB, t2])
      go_enter Try.func33, Try.ntmps33
      go_wp2
      go_ret
      exact ⟨ret_bool R.out.symm, rfl⟩
    · cases t3 : (m.kind == 2)
      · cases t4 : (acks == 0)
        · have R := Lib.hid (show fitsB m acks own = false by simp only [fitsB, t1, t2, t3, t4]; simp)
          go_enter Try.func33, Try.ntmps33
          go_wp2
          go_ret
          exact ⟨ret_bool R.out.symm, rfl⟩
        · cases t5 : (own == 1)
          · have R := Lib.hid (show fitsB m acks own = (own == 2) by simp only [fitsB, t1, t2, t3, t4, t5]; simp)
            go_enter Try.func33, Try.ntmps33
            go_wp2
            go_ret
            exact ⟨ret_bool R.out.symm, rfl⟩
          · have R := Lib.hid (show fitsB m acks own = true by simp only [fitsB, t1, t2, t3, t4, t5]; simp)
            go_enter Try.func33, Try.ntmps33
            go_wp2
            go_ret
            exact ⟨ret_bool R.out.symm, rfl⟩
      · have R := Lib.hid (show fitsB m acks own = (own == 4) by simp only [fitsB, t1, t2, t3]; simp)
        go_enter Try.func33, Try.ntmps33
        go_wp2
        go_ret
        exact ⟨ret_bool R.out.symm, rfl⟩
  · have R := Lib.hid (show fitsB m acks own = false by simp only [fitsB, t1]; simp)
    go_enter Try.func33, Try.ntmps33
    go_wp2
    go_ret
    exact ⟨ret_bool R.out.symm, rfl⟩
def W8 : Type := Int × Int × Int × Int × Int × Int × Int × Int
def W8.val (x : W8) : Value := .agg #[.int .i64 x.1, .int .i64 x.2.1, .int .i64 x.2.2.1, .int .i64 x.2.2.2.1, .int .i64 x.2.2.2.2.1, .int .i64 x.2.2.2.2.2.1, .int .i64 x.2.2.2.2.2.2.1, .int .i64 x.2.2.2.2.2.2.2]
def W8.zero : W8 := (0, 0, 0, 0, 0, 0, 0, 0)
def Ms.filled (m : Ms) (acks own : Int) (x : W8) : Ms := { m with needs := acks, own := own, w0 := x.1, w1 := x.2.1, w2 := x.2.2.1, w3 := x.2.2.2.1, w4 := x.2.2.2.2.1, w5 := x.2.2.2.2.2.1, w6 := x.2.2.2.2.2.2.1, w7 := x.2.2.2.2.2.2.2 }
theorem data_did {B fb g n c : Nat} {room : Int} {l : List Ms} {acks state : Int} {x : W8} {w w1 : World} {i : Nat} {m : Ms} (hf : FileIs w1 60 34 B fb (.slice (some ⟨g, 0, none⟩) n c) room l) (hm : l[i]? = some m) (hb : Below w.heap.size w w1) :
    Kept 60 34 B fb (.slice (some ⟨g, 0, none⟩) n c) room (l.set i (m.filled acks state x)) w
      ((((((((((w1.setCell ⟨g, i * 15 + 2, none⟩ (.int .i64 acks)).setCell ⟨g, i * 15 + 4, none⟩ (.int .i64 state)).setCell ⟨g, i * 15 + 5, none⟩ (.int .i64 x.1)).setCell ⟨g, i * 15 + 5 + 1, none⟩ (.int .i64 x.2.1)).setCell
        ⟨g, i * 15 + 5 + 2, none⟩ (.int .i64 x.2.2.1)).setCell ⟨g, i * 15 + 5 + 3, none⟩ (.int .i64 x.2.2.2.1)).setCell ⟨g, i * 15 + 5 + 4, none⟩ (.int .i64 x.2.2.2.2.1)).setCell ⟨g, i * 15 + 5 + 5, none⟩ (.int .i64 x.2.2.2.2.2.1)).setCell
        ⟨g, i * 15 + 5 + 6, none⟩ (.int .i64 x.2.2.2.2.2.2.1)).setCell ⟨g, i * 15 + 5 + 7, none⟩ (.int .i64 x.2.2.2.2.2.2.2)).drew := by
  have hi : i < l.length := (List.getElem?_eq_some_iff.1 hm).1
  obtain ⟨x0, x1, x2, x3, x4, x5, x6, x7⟩ := x
  obtain ⟨a0, a1, a2, a3, a4, a5, a6, a7, a8, a9, a10, a11, a12, a13, a14⟩ := m
  have F1 := hf.set (m' := ⟨a0, a1, acks, a3, a4, a5, a6, a7, a8, a9, a10, a11, a12, a13, a14⟩) (v := .int .i64 acks) hm (show 2 < 15 by decide) rfl
  have F2 := F1.setAgain (v := .int .i64 state) ⟨a0, a1, acks, a3, state, a5, a6, a7, a8, a9, a10, a11, a12, a13, a14⟩ hi (show 4 < 15 by decide) rfl
  have F3 := F2.setAgain (v := .int .i64 x0) ⟨a0, a1, acks, a3, state, x0, a6, a7, a8, a9, a10, a11, a12, a13, a14⟩ hi (show 5 < 15 by decide) rfl
  have F4 := F3.setAgain (v := .int .i64 x1) ⟨a0, a1, acks, a3, state, x0, x1, a7, a8, a9, a10, a11, a12, a13, a14⟩ hi (show 6 < 15 by decide) rfl
  have F5 := F4.setAgain (v := .int .i64 x2) ⟨a0, a1, acks, a3, state, x0, x1, x2, a8, a9, a10, a11, a12, a13, a14⟩ hi (show 7 < 15 by decide) rfl
  have F6 := F5.setAgain (v := .int .i64 x3) ⟨a0, a1, acks, a3, state, x0, x1, x2, x3, a9, a10, a11, a12, a13, a14⟩ hi (show 8 < 15 by decide) rfl
  have F7 := F6.setAgain (v := .int .i64 x4) ⟨a0, a1, acks, a3, state, x0, x1, x2, x3, x4, a10, a11, a12, a13, a14⟩ hi (show 9 < 15 by decide) rfl
  have F8 := F7.setAgain (v := .int .i64 x5) ⟨a0, a1, acks, a3, state, x0, x1, x2, x3, x4, x5, a11, a12, a13, a14⟩ hi (show 10 < 15 by decide) rfl
  have F9 := F8.setAgain (v := .int .i64 x6) ⟨a0, a1, acks, a3, state, x0, x1, x2, x3, x4, x5, x6, a12, a13, a14⟩ hi (show 11 < 15 by decide) rfl
  have F10 := F9.setAgain (v := .int .i64 x7) ⟨a0, a1, acks, a3, state, x0, x1, x2, x3, x4, x5, x6, x7, a13, a14⟩ hi (show 12 < 15 by decide) rfl
  simp only [Nat.add_assoc, Nat.reduceAdd]
  have C0 : Chg (own fb (.slice (some ⟨g, 0, none⟩) n c)) w w1 := Chg.of_below hb
  refine ⟨F10.below (Below.refl _ _).drew, Chg.drew ?_⟩
  iterate 10 refine Chg.setCell ?_ (.inr rfl) _
  exact C0
theorem data_none {B fb : Nat} {sv : Value} {room : Int} {l : List Ms} (line acks own : Int) (x : W8) (w : World) (hm : l.length ≤ 1000) (hf : FileIs w 60 34 B fb sv room l) (hi : l.findIdx? (fun m => m.line == line) = none) :
    Calls Try.prog 19 #[.pointer (some ⟨fb, 0, none⟩), .int .i64 line, .int .i64 acks, .int .i64 own, x.val] w fun e w' => e = .returned (.int .i64 5) ∧ Below w.heap.size w w' := by
  have HF := Lib.hid hf
  have HI := Lib.hid hi
  clear hf hi
  unfold W8.val
  go_enter Try.func19, Try.ntmps19
  go_wp2_with (go_at_call 30; refine (of_none _ _ hm (HF.out.below ((Below.refl _ _).alloc (Nat.le_refl _) _)) HI.out).mono ?_; rintro e w1 ⟨rfl, hb⟩; have HB := Lib.hid hb; clear hb)
  go_ret
  exact ⟨rfl, ((Below.refl _ _).alloc (Nat.le_refl _) _).trans (HB.out.mono (by simp))⟩
theorem data_table {B fb g n c : Nat} {room : Int} {l : List Ms} (line acks own : Int) (x : W8) (w : World) (hm : l.length ≤ 1000) (hf : FileIs w 60 34 B fb (.slice (some ⟨g, 0, none⟩) n c) room l) {i : Nat} {m : Ms} (hi : l.findIdx? (fun m => m.line == line) = some i) (hmi : l[i]? = some m)
    (ht : fitsB m acks own = false) :
    Calls Try.prog 19 #[.pointer (some ⟨fb, 0, none⟩), .int .i64 line, .int .i64 acks, .int .i64 own, x.val] w fun e w' => e = .returned (.int .i64 7) ∧ Below w.heap.size w w' := by
  have HF := Lib.hid hf
  have HI := Lib.hid hi
  have HM := Lib.hid hmi
  have HT := Lib.hid ht
  clear hf hi hmi ht
  unfold W8.val
  go_enter Try.func19, Try.ntmps19
  go_wp2_with (first | (go_at_call 30; refine (of_some _ _ hm (HF.out.below ((Below.refl _ _).alloc (Nat.le_refl _) _)) HI.out).mono ?_; rintro e w1 ⟨rfl, hb⟩; have HF1 := Lib.hid ((HF.out.below ((Below.refl _ _).alloc (Nat.le_refl _) _)).below hb); have HB := Lib.hid hb; clear hb) | (go_at_call 33; refine (fits_any g (i * 15) m _ _ _ (HF1.out.elem HM.out 1 _ rfl) (HF1.out.elem HM.out 2 _ rfl) (HF1.out.elem HM.out 3 _ rfl)).mono ?_; rintro e w2 ⟨rfl, rfl⟩; rw [HT.out]))
  go_ret
  exact ⟨rfl, ((Below.refl _ _).alloc (Nat.le_refl _) _).trans (HB.out.mono (by simp))⟩
theorem data_ok {B fb g n c : Nat} {room : Int} {l : List Ms} (line acks own : Int) (x : W8) (w : World) (hm : l.length ≤ 1000) (hf : FileIs w 60 34 B fb (.slice (some ⟨g, 0, none⟩) n c) room l) {i : Nat} {m : Ms} (hi : l.findIdx? (fun m => m.line == line) = some i) (hmi : l[i]? = some m)
    (ht : fitsB m acks own = true) :
    Calls Try.prog 19 #[.pointer (some ⟨fb, 0, none⟩), .int .i64 line, .int .i64 acks, .int .i64 own, x.val] w fun e w' => e = .returned (.int .i64 0) ∧ Kept 60 34 B fb (.slice (some ⟨g, 0, none⟩) n c) room (l.set i (m.filled acks own x)) w w' := by
  have HF := Lib.hid hf
  have HI := Lib.hid hi
  have HM := Lib.hid hmi
  have HT := Lib.hid ht
  clear hf hi hmi ht
  have hg : g < w.heap.size := HF.out.row_lt
  unfold W8.val
  go_enter Try.func19, Try.ntmps19
  go_wp2_with (first | (go_at_call 30; refine (of_some _ _ hm (HF.out.below ((Below.refl _ _).alloc (Nat.le_refl _) _)) HI.out).mono ?_; rintro e w1 ⟨rfl, hb⟩; have HF1 := Lib.hid ((HF.out.below ((Below.refl _ _).alloc (Nat.le_refl _) _)).below hb); have HX := Lib.hid (box_kept hb); have HB := Lib.hid hb; clear hb) | (go_at_call 33; refine (fits_any g (i * 15) m _ _ _ (HF1.out.elem HM.out 1 _ rfl) (HF1.out.elem HM.out 2 _ rfl) (HF1.out.elem HM.out 3 _ rfl)).mono ?_; rintro e w2 ⟨rfl, rfl⟩; rw [HT.out]))
  have b0 : ∀ j, w1.cell? ⟨w.heap.size, j, none⟩ = (x.val.cells)[j]? := fun j => cell_of_row w1 w.heap.size j _ _ _ HX.out
  have x0 := b0 0
  have x1 := b0 1
  have x2 := b0 2
  have x3 := b0 3
  have x4 := b0 4
  have x5 := b0 5
  have x6 := b0 6
  have x7 := b0 7
  simp [W8.val, Value.cells] at x0 x1 x2 x3 x4 x5 x6 x7
  clear b0
  have y2 := HF1.out.elem HM.out 2 _ rfl
  have y4 := HF1.out.elem HM.out 4 _ rfl
  have y5 := HF1.out.elem HM.out 5 _ rfl
  have y6 := HF1.out.elem HM.out 6 _ rfl
  have y7 := HF1.out.elem HM.out 7 _ rfl
  have y8 := HF1.out.elem HM.out 8 _ rfl
  have y9 := HF1.out.elem HM.out 9 _ rfl
  have y10 := HF1.out.elem HM.out 10 _ rfl
  have y11 := HF1.out.elem HM.out 11 _ rfl
  have y12 := HF1.out.elem HM.out 12 _ rfl
  have fz := HF1.out.rowFree
  go_region
  clear x0 x1 x2 x3 x4 x5 x6 x7 y2 y4 y5 y6 y7 y8 y9 y10 y11 y12 fz
  go_wp2
  go_ret
  exact ⟨rfl, data_did HF1.out HM.out (((Below.refl _ _).alloc (Nat.le_refl _) _).trans (HB.out.mono (by simp)))⟩

theorem grant_none {B fb : Nat} {sv : Value} {room : Int} {l : List Ms} (line acks : Int) (w : World) (hm : l.length ≤ 1000) (hf : FileIs w 60 34 B fb sv room l) (hi : l.findIdx? (fun m => m.line == line) = none) :
    Calls Try.prog 18 #[.pointer (some ⟨fb, 0, none⟩), .int .i64 line, .int .i64 acks] w fun e w' => e = .returned (.int .i64 5) ∧ Below w.heap.size w w' := by
  have HF := Lib.hid hf
  have HI := Lib.hid hi
  clear hf hi
  go_enter Try.func18, Try.ntmps18
  go_wp2_with (go_at_call 19; refine (data_none _ _ _ W8.zero _ hm HF.out HI.out).mono ?_; rintro e w1 ⟨rfl, hb⟩; have HB := Lib.hid hb; clear hb)
  go_ret
  exact ⟨rfl, HB.out⟩
theorem grant_table {B fb g n c : Nat} {room : Int} {l : List Ms} (line acks : Int) (w : World) (hm : l.length ≤ 1000) (hf : FileIs w 60 34 B fb (.slice (some ⟨g, 0, none⟩) n c) room l) {i : Nat} {m : Ms} (hi : l.findIdx? (fun m => m.line == line) = some i) (hmi : l[i]? = some m)
    (ht : fitsB m acks 4 = false) :
    Calls Try.prog 18 #[.pointer (some ⟨fb, 0, none⟩), .int .i64 line, .int .i64 acks] w fun e w' => e = .returned (.int .i64 7) ∧ Below w.heap.size w w' := by
  have HF := Lib.hid hf
  have HI := Lib.hid hi
  have HM := Lib.hid hmi
  have HT := Lib.hid ht
  clear hf hi hmi ht
  go_enter Try.func18, Try.ntmps18
  go_wp2_with (go_at_call 19; refine (data_table _ _ _ W8.zero _ hm HF.out HI.out HM.out HT.out).mono ?_; rintro e w1 ⟨rfl, hb⟩; have HB := Lib.hid hb; clear hb)
  go_ret
  exact ⟨rfl, HB.out⟩
theorem grant_ok {B fb g n c : Nat} {room : Int} {l : List Ms} (line acks : Int) (w : World) (hm : l.length ≤ 1000) (hf : FileIs w 60 34 B fb (.slice (some ⟨g, 0, none⟩) n c) room l) {i : Nat} {m : Ms} (hi : l.findIdx? (fun m => m.line == line) = some i) (hmi : l[i]? = some m)
    (ht : fitsB m acks 4 = true) :
    Calls Try.prog 18 #[.pointer (some ⟨fb, 0, none⟩), .int .i64 line, .int .i64 acks] w fun e w' => e = .returned (.int .i64 0) ∧ Kept 60 34 B fb (.slice (some ⟨g, 0, none⟩) n c) room (l.set i { m.filled acks 4 W8.zero with granted := true }) w w' := by
  have HF := Lib.hid hf
  have HI := Lib.hid hi
  have HI2 := Lib.hid ((findIdx_set l (fun m => m.line == line) i m (m.filled acks 4 W8.zero) hmi rfl).trans hi)
  have HM := Lib.hid hmi
  have hil : i < l.length := (List.getElem?_eq_some_iff.1 hmi).1
  have HM2 := Lib.hid (show (l.set i (m.filled acks 4 W8.zero))[i]? = some (m.filled acks 4 W8.zero) by simp [hil])
  have HT := Lib.hid ht
  have hm2 : (l.set i (m.filled acks 4 W8.zero)).length ≤ 1000 := by rw [List.length_set]; exact hm
  have HL := Lib.hid hm2
  clear hf hi hmi ht hm2
  go_enter Try.func18, Try.ntmps18
  go_wp2_with (first | (go_at_call 19; refine (data_ok _ _ _ W8.zero _ hm HF.out HI.out HM.out HT.out).mono ?_; rintro e w1 ⟨rfl, hk⟩; have HK := Lib.hid hk; clear hk) | (go_at_call 30; refine (of_some _ _ HL.out HK.out.1 HI2.out).mono ?_; rintro e w2 ⟨rfl, hb⟩; have c13 := (HK.out.1.below hb).elem HM2.out 13 _ rfl; have f13 := (HK.out.1.below hb).rowFree (i * 15 + 13); have HB := Lib.hid hb; clear hb))
  go_ret
  refine ⟨rfl, ((HK.out.1.below HB.out).setAgain (m1 := m.filled acks 4 W8.zero) { m.filled acks 4 W8.zero with granted := true } hil (by decide) rfl), ?_⟩
  refine Chg.setCell ?_ (.inr rfl) _
  exact HK.out.2.then_below HB.out
end Go.Proofs.Ytfjeheioglmalaa
