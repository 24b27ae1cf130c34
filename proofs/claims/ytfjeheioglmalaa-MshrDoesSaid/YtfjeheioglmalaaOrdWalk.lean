/- The law MshrOrder, walked: it answers true and changes nothing that was there. -/
import Derived.Test.YtfjeheioglmalaaOrder
namespace Go.Proofs.Ytfjeheioglmalaa
open Go.RowKit

theorem FileIs.lower {w : World} {ft mt B B' fb : Nat} {sv : Value} {room : Int} {l : List Ms} (h : FileIs w ft mt B fb sv room l) (hB : B' ≤ B) : FileIs w ft mt B' fb sv room l := by
  refine ⟨h.head, ?_, Nat.le_trans hB h.base, h.apart⟩
  obtain ⟨h1, h2⟩ := h.row
  refine ⟨h1, ?_⟩
  rcases h2 with h2 | ⟨g, cap, cur, hv, hb, rest⟩
  · exact .inl h2
  · exact .inr ⟨g, cap, cur, hv, Nat.le_trans hB hb, rest⟩
theorem St.rebase {W w1 w2 : World} {fb : Nat} {room : Int} {l : List Ms} {K : List (Nat × Obj)} (h : St w1 w1.heap.size fb room l [] w2) (hb : Below W.heap.size W w1) (hk : ∀ p ∈ K, w1.heap[p.1]? = some p.2) : St W W.heap.size fb room l K w2 := by
  obtain ⟨sv, h1, h2, _⟩ := h
  refine ⟨sv, h1.lower hb.size, hb.trans (h2.mono hb.size), fun p hp => ?_⟩
  have hlt := lt_of_block (hk p hp)
  refine ⟨(h2.block p.1 hlt).trans (hk p hp), fun e => ?_⟩
  have := (h1.own_lt e).1
  omega
theorem St.setBox {W w w2 : World} {B fb : Nat} {room : Int} {l : List Ms} {g : Nat} {o o' : Obj} (h : St W B fb room l [(g, o)] w) (hB : B ≤ g) (hc : Chg (· = g) w w2) (ho : w2.heap[g]? = some o') : St W B fb room l [(g, o')] w2 := by
  obtain ⟨sv, h1, h2, h3⟩ := h
  have hn := (h3 _ (List.mem_singleton.2 rfl)).2
  have hl := h1.lt
  have hbb := h1.base
  refine ⟨sv, h1.keep hc (fun k hk e => hn (e ▸ hk)), h2.trans (hc.below (by omega) (fun i hi e => by omega)), fun p hp => ?_⟩
  rw [List.mem_singleton.1 hp]
  exact ⟨ho, hn⟩
/-- The guard of the law. -/
def ordOut (acks ahead : Int) : Prop := acks < 0 ∨ 63 < acks ∨ ahead < 0 ∨ acks < ahead
theorem order_out (line acks ahead : Int) (gr : Bool) (x : W8) (w : World) (h : ordOut acks ahead) :
    Calls Try.prog 5 #[.int .i64 line, .int .i64 acks, .int .i64 ahead, .bool gr, x.val] w fun e w' => e = .returned (.bool true) ∧ Below w.heap.size w w' := by
  unfold W8.val
  have h2 : acks < 0 ∨ ¬ acks < 0 ∧ 63 < acks ∨ ¬ acks < 0 ∧ ¬ 63 < acks ∧ ahead < 0 ∨ ¬ acks < 0 ∧ ¬ 63 < acks ∧ ¬ ahead < 0 ∧ acks < ahead := by unfold ordOut at h; omega
  clear h
  rcases h2 with h1 | ⟨h1, h2⟩ | ⟨h1, h2, h3⟩ | ⟨h1, h2, h3, h4⟩
  all_goals
    go_enter Try.func5, Try.ntmps5
    go_wp2_with (go_at_call 6; refine (awake_true _).mono ?_; rintro e w1 ⟨rfl, h⟩; have HB := Lib.hid h; clear h)
    go_ret
    exact ⟨rfl, ((Below.refl _ _).alloc (Nat.le_refl _) _).trans (HB.out.mono (by simp))⟩
def W8.arr (x : W8) : Array Value := #[.int .i64 x.1, .int .i64 x.2.1, .int .i64 x.2.2.1, .int .i64 x.2.2.2.1, .int .i64 x.2.2.2.2.1, .int .i64 x.2.2.2.2.2.1, .int .i64 x.2.2.2.2.2.2.1, .int .i64 x.2.2.2.2.2.2.2]
theorem W8.all (x : W8) : x.arr.all (·.oneCell') = true := by simp [W8.arr, Value.oneCell']
theorem Try.size32 : (Try.prog.info? 32).map (·.size) = some 8 := by kernel_rfl
def xEnd (gr : Bool) (x : W8) : W8 := if gr then W8.zero else x
theorem end_cells (line acks : Int) (gr : Bool) (x : W8) : (mEnd line acks gr x).cells = [.int .i64 line, .int .i64 2, .int .i64 acks, .int .i64 acks, .int .i64 4, .int .i64 (xEnd gr x).1, .int .i64 (xEnd gr x).2.1, .int .i64 (xEnd gr x).2.2.1, .int .i64 (xEnd gr x).2.2.2.1, .int .i64 (xEnd gr x).2.2.2.2.1, .int .i64 (xEnd gr x).2.2.2.2.2.1, .int .i64 (xEnd gr x).2.2.2.2.2.2.1, .int .i64 (xEnd gr x).2.2.2.2.2.2.2, .bool gr, .bool false] := by cases gr <;> rfl
theorem end_got (line acks : Int) (gr : Bool) (x : W8) (h0 : 0 ≤ acks) (h1 : acks ≤ 63) : ∀ m ∈ [({ mEnd line acks gr x with owes := true } : Ms)], 0 ≤ m.got ∧ m.got ≤ 1000 := by
  intro m hm
  simp only [List.mem_singleton] at hm
  subst hm
  cases gr <;> (show 0 ≤ acks ∧ acks ≤ 1000; omega)
set_option maxRecDepth 100000 in
set_option maxHeartbeats 800000 in
theorem order_in (line acks ahead : Int) (gr : Bool) (x : W8) (w : World) (h0 : 0 ≤ acks) (h1 : acks ≤ 63) (h2 : 0 ≤ ahead) (h3 : ahead ≤ acks) :
    Calls Try.prog 5 #[.int .i64 line, .int .i64 acks, .int .i64 ahead, .bool gr, x.val] w fun e w' => e = .returned (.bool true) ∧ Below w.heap.size w w' := by
  have n1 : decide (acks < 0) = false := by simpa using h0
  have n2 : decide (63 < acks) = false := by simpa using h1
  have n3 : decide (ahead < 0) = false := by simpa using h2
  have n4 : decide (acks < ahead) = false := by simpa using h3
  cases gr
  all_goals
    unfold W8.val
    go_enter Try.func5, Try.ntmps5
    go_wp2_with fail
    refine (awake_true _).mono ?_; rintro e w1 ⟨rfl, h⟩
    have HX := Lib.hid (box_kept h)
    have HB := Lib.hid (((Below.refl _ _).alloc (Nat.le_refl _) _).trans (h.mono (by simp)))
    clear h
    go_wp2_with fail
    refine (St.new 1 w1 (by decide) (by decide)).mono ?_; rintro e w2 ⟨rfl, h⟩
    have H2 := Lib.hid (h.rebase (K := [(w.heap.size, .cells x.arr 32 (0, 0))]) HB.out (by intro p hp; rw [List.mem_singleton.1 hp]; exact HX.out)); clear h HX HB
    go_wp2_with fail
    refine (St.open_ (by decide) H2.out line 2).mono ?_; rw [ord_open]; rintro e w3 ⟨rfl, h⟩
    have H3 := Lib.hid h; clear h H2
    go_wp2_with fail
  · go_loopw [13] (fun v wr => ∃ k : Nat, v = .int .i64 k ∧ (k : Int) ≤ acks + 1 ∧ St w w.heap.size w1.heap.size 1 [mOrd line acks ahead false x k] [(w.heap.size, .cells x.arr 32 (0, 0))] wr) (fun v _ => (acks + 1 - intOf v).toNat)
    case atStart => exact ⟨0, rfl, by omega, by rw [ord_zero h2]; exact H3.out⟩
    case round =>
      obtain ⟨k, rfl, hk, hs⟩ := hrel
      have HS := Lib.hid hs
      clear hs H3
      by_cases hlt : (k : Int) ≤ acks
      · have hl1 : [mOrd line acks ahead false x k].length ≤ 1000 := by simp
        go_wp2_with fail
        refine (St.owe hl1 HS.out line).mono ?_; rw [ord_owe hlt]; rintro e w4 ⟨rfl, h⟩
        have H4 := Lib.hid h; clear h HS
        by_cases hka : (k : Int) = ahead
        · have b1 : ((k : Int) == ahead) = true := by simpa using hka
          have HK := Lib.hid hka
          clear hka
          go_wp2_with (first | (refine wpList_store_box rfl 34 (.tmp 14) _ rfl _ Ms.zero.cells.toArray rfl rfl 34 _ (heap_alloc_new w4 _) Try.size34 rfl (Ms.all _) ?_; intro v4 hx hc; have H5 := Lib.hid (H4.out.grow (boxed hc)); have HB5 := Lib.hid (H5.out.block (o := .cells x.arr 32 (0, 0)) (List.mem_singleton.2 rfl)); clear hx hc) | (refine wpList_load_row rfl 32 (.tmp 9) rfl w.heap.size rfl 32 x.arr (0, 0) _ HB5.out Try.underlying32 rfl Try.size32 ?_))
          rw [show Value.agg x.arr = x.val from rfl]
          refine (St.data hl1 H5.out line acks 4 x).mono ?_; rw [ord_data HK.out h3]; rintro e w6 ⟨rfl, h⟩
          have H6 := Lib.hid h; clear h H5 H4
          go_wp2_with fail
          go_roundw
          case rel => exact ⟨k + 1, by go_num, by omega, H6.out⟩
          case measure => simp [intOf]; omega
        · have b1 : ((k : Int) == ahead) = false := by simpa using hka
          have HK := Lib.hid hka
          clear hka
          go_wp2_with (refine wpList_store_box rfl 34 (.tmp 14) _ rfl _ Ms.zero.cells.toArray rfl rfl 34 _ (heap_alloc_new w4 _) Try.size34 rfl (Ms.all _) ?_; intro v4 hx hc; have H5 := Lib.hid (H4.out.grow (boxed hc)); clear hx hc)
          refine (St.ack hl1 H5.out line (ord_got (by omega) h2)).mono ?_; rw [ord_ack HK.out hlt]; rintro e w6 ⟨rfl, h⟩
          have H6 := Lib.hid h; clear h H5 H4
          go_wp2_with fail
          go_roundw
          case rel => exact ⟨k + 1, by go_num, by omega, H6.out⟩
          case measure => simp [intOf]; omega
      · have e1 : mOrd line acks ahead false x k = mEnd line acks false x := ord_end (by omega) h3
        have HS2 := Lib.hid (show St w w.heap.size w1.heap.size 1 [mEnd line acks false x] [(w.heap.size, .cells x.arr 32 (0, 0))] wr from e1 ▸ HS.out)
        clear e1 HS
        have HS3 := HS2
        go_wp2_with fail
        refine (St.owe (by simp) HS3.out line).mono ?_; rw [end_owe]; rintro e w4 ⟨rfl, h⟩
        have H4 := Lib.hid h; clear h HS2 HS3
        have cb : ∀ v, St w w.heap.size w1.heap.size 1 [({ mEnd line acks false x with owes := true } : Ms)] [(w4.heap.size, .cells (mEnd line acks false x).cells.toArray 34 (0, 0)), (w.heap.size, .cells x.arr 32 (0, 0))] v → (∀ j, v.cell? ⟨w4.heap.size, j, none⟩ = (mEnd line acks false x).cells[j]?) ∧ ∀ j, v.cell? ⟨w.heap.size, j, none⟩ = x.arr[j]? := by
          intro v hv
          refine ⟨fun j => ?_, fun j => ?_⟩
          · have := hv.cell (g := w4.heap.size) (t := 34) (cs := (mEnd line acks false x).cells.toArray) (by simp) j
            simpa using this
          · exact hv.cell (g := w.heap.size) (t := 32) (cs := x.arr) (by simp) j
        rw [end_cells] at cb
        have CB := Lib.hid cb
        have q : ∀ (a0 a1 a2 a3 a4 a5 a6 a7 : Int) (w : World), (Op.equalIn 9999 32 (.agg #[.int .i64 a0, .int .i64 a1, .int .i64 a2, .int .i64 a3, .int .i64 a4, .int .i64 a5, .int .i64 a6, .int .i64 a7]) (.agg #[.int .i64 a0, .int .i64 a1, .int .i64 a2, .int .i64 a3, .int .i64 a4, .int .i64 a5, .int .i64 a6, .int .i64 a7])).run Try.prog w = .ok true w := fun a0 a1 a2 a3 a4 a5 a6 a7 w => equal_w8 9997 a0 a1 a2 a3 a4 a5 a6 a7 w
        clear cb
        go_wp2_with (refine wpList_store_box rfl 34 (.tmp 17) _ rfl _ (mEnd line acks false x).cells.toArray rfl rfl 34 _ (heap_alloc_new w4 _) Try.size34 rfl (Ms.all _) ?_; intro v4 hx hc; have H5 := Lib.hid (H4.out.box hc hx); have c0 := (CB.out _ H5.out).1 0; have c1 := (CB.out _ H5.out).1 1; have c2 := (CB.out _ H5.out).1 2; have c3 := (CB.out _ H5.out).1 3; have c4 := (CB.out _ H5.out).1 4; have c5 := (CB.out _ H5.out).1 5; have c6 := (CB.out _ H5.out).1 6; have c7 := (CB.out _ H5.out).1 7; have c8 := (CB.out _ H5.out).1 8; have c9 := (CB.out _ H5.out).1 9; have c10 := (CB.out _ H5.out).1 10; have c11 := (CB.out _ H5.out).1 11; have c12 := (CB.out _ H5.out).1 12; have c13 := (CB.out _ H5.out).1 13; have c14 := (CB.out _ H5.out).1 14; have d0 := (CB.out _ H5.out).2 0; have d1 := (CB.out _ H5.out).2 1; have d2 := (CB.out _ H5.out).2 2; have d3 := (CB.out _ H5.out).2 3; have d4 := (CB.out _ H5.out).2 4; have d5 := (CB.out _ H5.out).2 5; have d6 := (CB.out _ H5.out).2 6; have d7 := (CB.out _ H5.out).2 7; simp [W8.arr, xEnd] at c0 c1 c2 c3 c4 c5 c6 c7 c8 c9 c10 c11 c12 c13 c14 d0 d1 d2 d3 d4 d5 d6 d7; clear hx hc)
        clear c0 c1 c2 c3 c4 c5 c6 c7 c8 c9 c10 c11 c12 c13 c14 d0 d1 d2 d3 d4 d5 d6 d7 q
        refine (St.ack (by simp) H5.out line (end_got line acks false x h0 h1)).mono ?_; rw [end_ack]; rintro e w6 ⟨rfl, h⟩
        have H6 := Lib.hid h; clear h H5 H4
        go_wp2_with fail
        refine (St.close (by simp) H6.out line).mono ?_; rw [end_close]; rintro e w7 ⟨rfl, h⟩
        have H7 := Lib.hid h; clear h H6
        go_wp2_with fail
        go_ret
        exact ⟨rfl, H7.out.below⟩
  · go_loopw [13] (fun v wr => ∃ k : Nat, v = .int .i64 k ∧ (k : Int) ≤ acks + 1 ∧ St w w.heap.size w1.heap.size 1 [mOrd line acks ahead true x k] [(w.heap.size, .cells x.arr 32 (0, 0))] wr) (fun v _ => (acks + 1 - intOf v).toNat)
    case atStart => exact ⟨0, rfl, by omega, by rw [ord_zero h2]; exact H3.out⟩
    case round =>
      obtain ⟨k, rfl, hk, hs⟩ := hrel
      have HS := Lib.hid hs
      clear hs H3
      by_cases hlt : (k : Int) ≤ acks
      · have hl1 : [mOrd line acks ahead true x k].length ≤ 1000 := by simp
        go_wp2_with fail
        refine (St.owe hl1 HS.out line).mono ?_; rw [ord_owe hlt]; rintro e w4 ⟨rfl, h⟩
        have H4 := Lib.hid h; clear h HS
        by_cases hka : (k : Int) = ahead
        · have b1 : ((k : Int) == ahead) = true := by simpa using hka
          have HK := Lib.hid hka
          clear hka
          go_wp2_with (refine wpList_store_box rfl 34 (.tmp 14) _ rfl _ Ms.zero.cells.toArray rfl rfl 34 _ (heap_alloc_new w4 _) Try.size34 rfl (Ms.all _) ?_; intro v4 hx hc; have H5 := Lib.hid (H4.out.grow (boxed hc)); clear hx hc)
          refine (St.grant hl1 H5.out line acks).mono ?_; rw [ord_grant HK.out h3]; rintro e w6 ⟨rfl, h⟩
          have H6 := Lib.hid h; clear h H5 H4
          go_wp2_with fail
          go_roundw
          case rel => exact ⟨k + 1, by go_num, by omega, H6.out⟩
          case measure => simp [intOf]; omega
        · have b1 : ((k : Int) == ahead) = false := by simpa using hka
          have HK := Lib.hid hka
          clear hka
          go_wp2_with (refine wpList_store_box rfl 34 (.tmp 14) _ rfl _ Ms.zero.cells.toArray rfl rfl 34 _ (heap_alloc_new w4 _) Try.size34 rfl (Ms.all _) ?_; intro v4 hx hc; have H5 := Lib.hid (H4.out.grow (boxed hc)); clear hx hc)
          refine (St.ack hl1 H5.out line (ord_got (by omega) h2)).mono ?_; rw [ord_ack HK.out hlt]; rintro e w6 ⟨rfl, h⟩
          have H6 := Lib.hid h; clear h H5 H4
          go_wp2_with fail
          go_roundw
          case rel => exact ⟨k + 1, by go_num, by omega, H6.out⟩
          case measure => simp [intOf]; omega
      · have e1 : mOrd line acks ahead true x k = mEnd line acks true x := ord_end (by omega) h3
        have HS2 := Lib.hid (show St w w.heap.size w1.heap.size 1 [mEnd line acks true x] [(w.heap.size, .cells x.arr 32 (0, 0))] wr from e1 ▸ HS.out)
        clear e1 HS
        have HB5 := Lib.hid (HS2.out.block (o := .cells x.arr 32 (0, 0)) (List.mem_singleton.2 rfl))
        go_wp2_with (refine wpList_store_box rfl 32 (.tmp 9) _ rfl w.heap.size W8.zero.arr rfl rfl 32 x.arr HB5.out Try.size32 rfl (W8.all _) ?_; intro v3 hx hc; have HS3 := Lib.hid (HS2.out.setBox (Nat.le_refl _) hc hx); clear hx hc)
        refine (St.owe (by simp) HS3.out line).mono ?_; rw [end_owe]; rintro e w4 ⟨rfl, h⟩
        have H4 := Lib.hid h; clear h HS2 HS3
        have cb : ∀ v, St w w.heap.size w1.heap.size 1 [({ mEnd line acks true x with owes := true } : Ms)] [(w4.heap.size, .cells (mEnd line acks true x).cells.toArray 34 (0, 0)), (w.heap.size, .cells W8.zero.arr 32 (0, 0))] v → (∀ j, v.cell? ⟨w4.heap.size, j, none⟩ = (mEnd line acks true x).cells[j]?) ∧ ∀ j, v.cell? ⟨w.heap.size, j, none⟩ = W8.zero.arr[j]? := by
          intro v hv
          refine ⟨fun j => ?_, fun j => ?_⟩
          · have := hv.cell (g := w4.heap.size) (t := 34) (cs := (mEnd line acks true x).cells.toArray) (by simp) j
            simpa using this
          · exact hv.cell (g := w.heap.size) (t := 32) (cs := W8.zero.arr) (by simp) j
        rw [end_cells] at cb
        have CB := Lib.hid cb
        have q : ∀ (a0 a1 a2 a3 a4 a5 a6 a7 : Int) (w : World), (Op.equalIn 9999 32 (.agg #[.int .i64 a0, .int .i64 a1, .int .i64 a2, .int .i64 a3, .int .i64 a4, .int .i64 a5, .int .i64 a6, .int .i64 a7]) (.agg #[.int .i64 a0, .int .i64 a1, .int .i64 a2, .int .i64 a3, .int .i64 a4, .int .i64 a5, .int .i64 a6, .int .i64 a7])).run Try.prog w = .ok true w := fun a0 a1 a2 a3 a4 a5 a6 a7 w => equal_w8 9997 a0 a1 a2 a3 a4 a5 a6 a7 w
        clear cb
        go_wp2_with (refine wpList_store_box rfl 34 (.tmp 17) _ rfl _ (mEnd line acks true x).cells.toArray rfl rfl 34 _ (heap_alloc_new w4 _) Try.size34 rfl (Ms.all _) ?_; intro v4 hx hc; have H5 := Lib.hid (H4.out.box hc hx); have c0 := (CB.out _ H5.out).1 0; have c1 := (CB.out _ H5.out).1 1; have c2 := (CB.out _ H5.out).1 2; have c3 := (CB.out _ H5.out).1 3; have c4 := (CB.out _ H5.out).1 4; have c5 := (CB.out _ H5.out).1 5; have c6 := (CB.out _ H5.out).1 6; have c7 := (CB.out _ H5.out).1 7; have c8 := (CB.out _ H5.out).1 8; have c9 := (CB.out _ H5.out).1 9; have c10 := (CB.out _ H5.out).1 10; have c11 := (CB.out _ H5.out).1 11; have c12 := (CB.out _ H5.out).1 12; have c13 := (CB.out _ H5.out).1 13; have c14 := (CB.out _ H5.out).1 14; have d0 := (CB.out _ H5.out).2 0; have d1 := (CB.out _ H5.out).2 1; have d2 := (CB.out _ H5.out).2 2; have d3 := (CB.out _ H5.out).2 3; have d4 := (CB.out _ H5.out).2 4; have d5 := (CB.out _ H5.out).2 5; have d6 := (CB.out _ H5.out).2 6; have d7 := (CB.out _ H5.out).2 7; simp [W8.arr, xEnd] at c0 c1 c2 c3 c4 c5 c6 c7 c8 c9 c10 c11 c12 c13 c14 d0 d1 d2 d3 d4 d5 d6 d7; clear hx hc)
        clear c0 c1 c2 c3 c4 c5 c6 c7 c8 c9 c10 c11 c12 c13 c14 d0 d1 d2 d3 d4 d5 d6 d7 q
        refine (St.ack (by simp) H5.out line (end_got line acks true x h0 h1)).mono ?_; rw [end_ack]; rintro e w6 ⟨rfl, h⟩
        have H6 := Lib.hid h; clear h H5 H4
        go_wp2_with fail
        refine (St.close (by simp) H6.out line).mono ?_; rw [end_close]; rintro e w7 ⟨rfl, h⟩
        have H7 := Lib.hid h; clear h H6
        go_wp2_with fail
        go_ret
        exact ⟨rfl, H7.out.below⟩
end Go.Proofs.Ytfjeheioglmalaa
