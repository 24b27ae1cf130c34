/- The law ScriptBack. -/
import Derived.Test.YtfjeheioglmalaaDoorSTells
import Derived.Test.YtfjeheioglmalaaDoorSame4
namespace Go.Proofs.YtfjeheioglmalaaDoor
open Go.RowKit Go.Lib
set_option linter.unusedVariables false
set_option linter.unusedSimpArgs false
theorem ok_fine {c : Cfg} (h : c.ok = true) : c.fine := by
  obtain ⟨⟨a0, a1⟩, b1, b2, b3, b4, ⟨c0, c1⟩, ⟨d0, d1⟩, ⟨e0, e1⟩, ⟨f0, f1⟩, ⟨g0, g1⟩, ⟨h0, h1⟩, ⟨i0, i1⟩, j0, j1⟩ := ok_all h
  have k1 := lg_in b1
  have k2 := lg_in b2
  have k3 := lg_in b3
  have k4 := lg_in b4
  unfold Cfg.fine Cfg.nums
  intro n hn
  simp only [List.mem_cons, List.not_mem_nil, or_false] at hn
  rcases hn with rfl | rfl | rfl | rfl | rfl | rfl | rfl | rfl | rfl | rfl | rfl | rfl | rfl <;> omega
theorem flat3 (ks : List PK) : (ks.flatMap PK.bytes).length = 3 * ks.length := by
  induction ks with
  | nil => rfl
  | cons x ks ih => simp only [List.flatMap_cons, List.length_append, ih, List.length_cons, PK.bytes, List.length_nil]; omega
theorem textP_len {c : Cfg} {l : List PO} (h : fitsP c l = true) : (textP l).length ≤ 4002 := by
  obtain ⟨h1, h2⟩ := fits_print_short h
  have := leadP_len (allP l).length
  unfold textP
  rw [h1, List.length_append]
  simp only
  omega
theorem texts_len {c : Cfg} (ps : List (List PO)) (h : ∀ l ∈ ps, fitsP c l = true) : (ps.flatMap textP).length ≤ 4002 * ps.length := by
  induction ps with
  | nil => simp
  | cons x ps ih =>
    have h1 := textP_len (h x (by simp))
    have h2 := ih (fun l hl => h l (by simp [hl]))
    simp only [List.flatMap_cons, List.length_append, List.length_cons]
    omega
theorem bytes_len {s : PS} (h : s.may = true) (h3 : s.ks.length ≤ 3000) : (bytesP s).1.length ≤ 1000000 := by
  obtain ⟨m1, m2, m3, m4⟩ := may_parts h
  have hc := (ok_all m1).1
  have ht := texts_len s.ps m3
  unfold bytesP
  rw [if_pos h]
  simp only [List.length_append, head_len, flat3]
  omega
theorem bytes_ks {s : PS} (h : s.may = true) : 3 * s.ks.length ≤ (bytesP s).1.length := by
  unfold bytesP
  rw [if_pos h]
  simp only [List.length_append, head_len, flat3]
  omega
theorem bytes_may {s : PS} (h : (bytesP s).2 = 0) : s.may = true := by
  unfold bytesP at h
  by_cases hm : s.may = true
  · exact hm
  · rw [if_neg hm] at h; cases h
structure Two43 (cs ds : Array Value) (g h : Nat) (w wr : World) : Prop where
  box1 : wr.heap[g]? = some (.cells cs 43 (0, 0))
  box2 : wr.heap[h]? = some (.cells ds 43 (0, 0))
  below : Below w.heap.size w wr
theorem Two43.more {cs ds : Array Value} {g h : Nat} {w wr w' : World} (R : Two43 cs ds g h w wr) (hb : Below wr.heap.size wr w') : Two43 cs ds g h w w' :=
  ⟨(hb.block _ (Array.getElem?_eq_some_iff.1 R.box1).1).trans R.box1, (hb.block _ (Array.getElem?_eq_some_iff.1 R.box2).1).trans R.box2, R.below.trans (hb.mono R.below.size)⟩
theorem thirty_keep {wr W1 W2 : World} {p0 p1 p2 p3 p4 p5 p6 p7 p8 p9 p10 p11 p12 p13 p14 p15 p16 p17 p18 p19 p20 p21 p22 p23 p24 p25 p26 p27 p28 p29 : Addr} {v0 v1 v2 v3 v4 v5 v6 v7 v8 v9 v10 v11 v12 v13 v14 v15 v16 v17 v18 v19 v20 v21 v22 v23 v24 v25 v26 v27 v28 v29 : Value} (h : W1.cell? p0 = some v0 ∧ W1.cell? p1 = some v1 ∧ W1.cell? p2 = some v2 ∧ W1.cell? p3 = some v3 ∧ W1.cell? p4 = some v4 ∧ W1.cell? p5 = some v5 ∧ W1.cell? p6 = some v6 ∧ W1.cell? p7 = some v7 ∧ W1.cell? p8 = some v8 ∧ W1.cell? p9 = some v9 ∧ W1.cell? p10 = some v10 ∧ W1.cell? p11 = some v11 ∧ W1.cell? p12 = some v12 ∧ W1.cell? p13 = some v13 ∧ W1.cell? p14 = some v14 ∧ W1.cell? p15 = some v15 ∧ W1.cell? p16 = some v16 ∧ W1.cell? p17 = some v17 ∧ W1.cell? p18 = some v18 ∧ W1.cell? p19 = some v19 ∧ W1.cell? p20 = some v20 ∧ W1.cell? p21 = some v21 ∧ W1.cell? p22 = some v22 ∧ W1.cell? p23 = some v23 ∧ W1.cell? p24 = some v24 ∧ W1.cell? p25 = some v25 ∧ W1.cell? p26 = some v26 ∧ W1.cell? p27 = some v27 ∧ W1.cell? p28 = some v28 ∧ W1.cell? p29 = some v29 ∧ Below wr.heap.size wr W1) (hb : Below W1.heap.size W1 W2) : W2.cell? p0 = some v0 ∧ W2.cell? p1 = some v1 ∧ W2.cell? p2 = some v2 ∧ W2.cell? p3 = some v3 ∧ W2.cell? p4 = some v4 ∧ W2.cell? p5 = some v5 ∧ W2.cell? p6 = some v6 ∧ W2.cell? p7 = some v7 ∧ W2.cell? p8 = some v8 ∧ W2.cell? p9 = some v9 ∧ W2.cell? p10 = some v10 ∧ W2.cell? p11 = some v11 ∧ W2.cell? p12 = some v12 ∧ W2.cell? p13 = some v13 ∧ W2.cell? p14 = some v14 ∧ W2.cell? p15 = some v15 ∧ W2.cell? p16 = some v16 ∧ W2.cell? p17 = some v17 ∧ W2.cell? p18 = some v18 ∧ W2.cell? p19 = some v19 ∧ W2.cell? p20 = some v20 ∧ W2.cell? p21 = some v21 ∧ W2.cell? p22 = some v22 ∧ W2.cell? p23 = some v23 ∧ W2.cell? p24 = some v24 ∧ W2.cell? p25 = some v25 ∧ W2.cell? p26 = some v26 ∧ W2.cell? p27 = some v27 ∧ W2.cell? p28 = some v28 ∧ W2.cell? p29 = some v29 ∧ Below wr.heap.size wr W2 := by
  obtain ⟨h0, h1, h2, h3, h4, h5, h6, h7, h8, h9, h10, h11, h12, h13, h14, h15, h16, h17, h18, h19, h20, h21, h22, h23, h24, h25, h26, h27, h28, h29, hd⟩ := h
  have key : ∀ p v, W1.cell? p = some v → W2.cell? p = some v := fun p v h => (hb.cell (p := p) (World.block_lt_of_cell? W1 p h)).trans h
  exact ⟨key _ _ h0, key _ _ h1, key _ _ h2, key _ _ h3, key _ _ h4, key _ _ h5, key _ _ h6, key _ _ h7, key _ _ h8, key _ _ h9, key _ _ h10, key _ _ h11, key _ _ h12, key _ _ h13, key _ _ h14, key _ _ h15, key _ _ h16, key _ _ h17, key _ _ h18, key _ _ h19, key _ _ h20, key _ _ h21, key _ _ h22, key _ _ h23, key _ _ h24, key _ _ h25, key _ _ h26, key _ _ h27, key _ _ h28, key _ _ h29, hd.trans (hb.mono hd.size)⟩
theorem thirty_last {wr W1 : World} {p0 p1 p2 p3 p4 p5 p6 p7 p8 p9 p10 p11 p12 p13 p14 p15 p16 p17 p18 p19 p20 p21 p22 p23 p24 p25 p26 p27 p28 p29 : Addr} {v0 v1 v2 v3 v4 v5 v6 v7 v8 v9 v10 v11 v12 v13 v14 v15 v16 v17 v18 v19 v20 v21 v22 v23 v24 v25 v26 v27 v28 v29 : Value} (h : W1.cell? p0 = some v0 ∧ W1.cell? p1 = some v1 ∧ W1.cell? p2 = some v2 ∧ W1.cell? p3 = some v3 ∧ W1.cell? p4 = some v4 ∧ W1.cell? p5 = some v5 ∧ W1.cell? p6 = some v6 ∧ W1.cell? p7 = some v7 ∧ W1.cell? p8 = some v8 ∧ W1.cell? p9 = some v9 ∧ W1.cell? p10 = some v10 ∧ W1.cell? p11 = some v11 ∧ W1.cell? p12 = some v12 ∧ W1.cell? p13 = some v13 ∧ W1.cell? p14 = some v14 ∧ W1.cell? p15 = some v15 ∧ W1.cell? p16 = some v16 ∧ W1.cell? p17 = some v17 ∧ W1.cell? p18 = some v18 ∧ W1.cell? p19 = some v19 ∧ W1.cell? p20 = some v20 ∧ W1.cell? p21 = some v21 ∧ W1.cell? p22 = some v22 ∧ W1.cell? p23 = some v23 ∧ W1.cell? p24 = some v24 ∧ W1.cell? p25 = some v25 ∧ W1.cell? p26 = some v26 ∧ W1.cell? p27 = some v27 ∧ W1.cell? p28 = some v28 ∧ W1.cell? p29 = some v29 ∧ Below wr.heap.size wr W1) : Below wr.heap.size wr W1 := by
  obtain ⟨_, _, _, _, _, _, _, _, _, _, _, _, _, _, _, _, _, _, _, _, _, _, _, _, _, _, _, _, _, _, hd⟩ := h
  exact hd
theorem thirty_start {wr : World} {g h : Nat} {c d : Cfg} {a b e f : Value} (h1 : wr.heap[g]? = some (.cells (scells c a b) 43 (0, 0))) (h2 : wr.heap[h]? = some (.cells (scells d e f) 43 (0, 0))) : wr.drew.cell? ⟨g, 0, none⟩ = some (.int .i64 c.cores) ∧ wr.drew.cell? ⟨g, 1, none⟩ = some (.int .i64 c.homes) ∧ wr.drew.cell? ⟨g, 2, none⟩ = some (.int .i64 c.sets) ∧ wr.drew.cell? ⟨g, 3, none⟩ = some (.int .i64 c.ways) ∧ wr.drew.cell? ⟨g, 4, none⟩ = some (.int .i64 c.words) ∧ wr.drew.cell? ⟨g, 5, none⟩ = some (.int .i64 c.lines) ∧ wr.drew.cell? ⟨g, 6, none⟩ = some (.int .i64 c.pointers) ∧ wr.drew.cell? ⟨g, 7, none⟩ = some (.int .i64 c.mshrs) ∧ wr.drew.cell? ⟨g, 8, none⟩ = some (.int .i64 c.buffer) ∧ wr.drew.cell? ⟨g, 9, none⟩ = some (.int .i64 c.writebacks) ∧ wr.drew.cell? ⟨g, 10, none⟩ = some (.int .i64 c.r0) ∧ wr.drew.cell? ⟨g, 11, none⟩ = some (.int .i64 c.r1) ∧ wr.drew.cell? ⟨g, 12, none⟩ = some (.int .i64 c.r2) ∧ wr.drew.cell? ⟨g, 13, none⟩ = some (a) ∧ wr.drew.cell? ⟨g, 14, none⟩ = some (b) ∧ wr.drew.cell? ⟨h, 0, none⟩ = some (.int .i64 d.cores) ∧ wr.drew.cell? ⟨h, 1, none⟩ = some (.int .i64 d.homes) ∧ wr.drew.cell? ⟨h, 2, none⟩ = some (.int .i64 d.sets) ∧ wr.drew.cell? ⟨h, 3, none⟩ = some (.int .i64 d.ways) ∧ wr.drew.cell? ⟨h, 4, none⟩ = some (.int .i64 d.words) ∧ wr.drew.cell? ⟨h, 5, none⟩ = some (.int .i64 d.lines) ∧ wr.drew.cell? ⟨h, 6, none⟩ = some (.int .i64 d.pointers) ∧ wr.drew.cell? ⟨h, 7, none⟩ = some (.int .i64 d.mshrs) ∧ wr.drew.cell? ⟨h, 8, none⟩ = some (.int .i64 d.buffer) ∧ wr.drew.cell? ⟨h, 9, none⟩ = some (.int .i64 d.writebacks) ∧ wr.drew.cell? ⟨h, 10, none⟩ = some (.int .i64 d.r0) ∧ wr.drew.cell? ⟨h, 11, none⟩ = some (.int .i64 d.r1) ∧ wr.drew.cell? ⟨h, 12, none⟩ = some (.int .i64 d.r2) ∧ wr.drew.cell? ⟨h, 13, none⟩ = some (e) ∧ wr.drew.cell? ⟨h, 14, none⟩ = some (f) ∧ Below wr.heap.size wr wr.drew :=
  ⟨box_cell h1 0 rfl, box_cell h1 1 rfl, box_cell h1 2 rfl, box_cell h1 3 rfl, box_cell h1 4 rfl, box_cell h1 5 rfl, box_cell h1 6 rfl, box_cell h1 7 rfl, box_cell h1 8 rfl, box_cell h1 9 rfl, box_cell h1 10 rfl, box_cell h1 11 rfl, box_cell h1 12 rfl, box_cell h1 13 rfl, box_cell h1 14 rfl, box_cell h2 0 rfl, box_cell h2 1 rfl, box_cell h2 2 rfl, box_cell h2 3 rfl, box_cell h2 4 rfl, box_cell h2 5 rfl, box_cell h2 6 rfl, box_cell h2 7 rfl, box_cell h2 8 rfl, box_cell h2 9 rfl, box_cell h2 10 rfl, box_cell h2 11 rfl, box_cell h2 12 rfl, box_cell h2 13 rfl, box_cell h2 14 rfl, rfl, rfl, rfl, Nat.le_refl _, fun _ _ => rfl⟩
set_option maxRecDepth 100000 in
set_option maxHeartbeats 4000000 in
theorem sback_any (b : List UInt8) (hbl : b.length ≤ 9223372036854775807) (c : Cfg) (hc : c.fine) (ps : List (List PO)) (ks : List PK) (A1 A2 : Option Addr) (c1 c2 : Nat) (h1 : ps.length ≤ 9223372036854775807) (h2 : ks.length ≤ 9223372036854775807) (hlen : ∀ l ∈ ps, l.length ≤ 9223372036854775807) (w : World) (ht : Tab w) (hp : ProgsIn w A1 ps) (hk : PicksIn w A2 ks) :
    Calls Tryd.prog 8 #[.string ⟨b.toArray⟩, .agg (scells c (.slice A1 ps.length c1) (.slice A2 ks.length c2))] w fun e w' => e = .returned (.bool true) ∧ Below w.heap.size w w' := by
  have hsz : (ByteArray.mk b.toArray).size = b.length := by simp [ByteArray.size]
  have hb0 := (Below.refl w.heap.size w).alloc (Nat.le_refl _) (.cells (scells c (.slice A1 ps.length c1) (.slice A2 ks.length c2)) 43)
  have HA := Lib.hid (awake4_walk _ (ht.below hb0))
  have HT := Lib.hid ht
  have HP := Lib.hid hp
  have HK := Lib.hid hk
  have HC := Lib.hid hc
  have HB0 := Lib.hid hb0
  have HW := Lib.hid (heap_alloc_new w (.cells (scells c (.slice A1 ps.length c1) (.slice A2 ks.length c2)) 43))
  have HLN := Lib.hid hlen
  clear ht hp hk hc hb0 hlen
  by_cases h3000 : 3000 < b.length
  · have h3i : (3000 : Int) < b.length := by omega
    go_enter Tryd.func8, Tryd.ntmps8
    go_wp2_with fail
    refine HA.out.mono ?_
    rintro e w1 ⟨rfl, hb⟩
    have HB1 := Lib.hid (HB0.out.trans (hb.mono HB0.out.size))
    clear hb
    go_wp2_with fail
    go_ret
    exact ⟨rfl, HB1.out⟩
  have h3i : ¬ (3000 : Int) < b.length := by omega
  go_enter Tryd.func8, Tryd.ntmps8
  go_wp2_with fail
  refine HA.out.mono ?_
  rintro e w1 ⟨rfl, hb⟩
  have HB1 := Lib.hid (HB0.out.trans (hb.mono HB0.out.size))
  have HX1 := Lib.hid ((hb.block w.heap.size (Array.getElem?_eq_some_iff.1 HW.out).1).trans HW.out)
  clear hb
  go_wp2_with (refine wpList_load_row_g rfl 43 (.tmp 3) rfl w.heap.size rfl 43 (scells c (.slice A1 ps.length c1) (.slice A2 ks.length c2)) (0, 0) _ HX1.out Tryd.underlying43 rfl Tryd.size43 ?_)
  refine (large_walk c ps ks A1 A2 c1 c2 h1 h2 _ (HP.out.below HB1.out)).mono ?_
  rintro e w2 ⟨z, rfl, hz, hb⟩
  have HB2 := Lib.hid (HB1.out.trans (hb.mono HB1.out.size))
  have HX2 := Lib.hid ((hb.block w.heap.size (Array.getElem?_eq_some_iff.1 HX1.out).1).trans HX1.out)
  have HZ := Lib.hid hz
  clear hb hz
  cases z
  rotate_left
  · go_wp2_with fail
    go_ret
    exact ⟨rfl, HB2.out⟩
  have h3 := HZ.out rfl
  have HBW := Lib.hid (fun W a b t => bytes_walk c HC.out ps ks A1 A2 c1 c2 h1 h3 HLN.out W a b t)
  have HOK2 : Hid ((bytesP ⟨c, ps, ks⟩).2 = 0 → readP (bytesP ⟨c, ps, ks⟩).1 = (⟨c, ps, ks⟩, 0) ∧ (bytesP ⟨c, ps, ks⟩).1.length ≤ 1000000) := fun h => ⟨bytes_read h, bytes_len (bytes_may h) h3⟩
  have HNO2 : Hid ((bytesP ⟨c, ps, ks⟩).2 ≠ 0 → (bytesP ⟨c, ps, ks⟩).1 = []) := fun h => bytes_err h
  have HL5 : Hid ((bytesP ⟨c, ps, ks⟩).2 = 0 → ∀ l ∈ ps, l.length ≤ 5000) := fun h l hl => by
    have := (fits_may ((may_parts (bytes_may h)).2.2.1 l hl)).1
    omega
  obtain ⟨⟨bs, be⟩, hbs⟩ : ∃ p, bytesP ⟨c, ps, ks⟩ = p := ⟨_, rfl⟩
  unfold BytesPost at HBW
  rw [hbs] at HBW HOK2 HNO2 HL5
  clear hbs
  have HRB : Hid ((readP b).2 = 0 → bytesP (readP b).1 = (b, 0) ∧ (readP b).1.may = true) := fun h => read_bytes h
  have HRW := Lib.hid (fun W => read_walk b (by omega) W)
  obtain ⟨⟨⟨xc, xps, xks⟩, n⟩, hx⟩ : ∃ p, readP b = p := ⟨_, rfl⟩
  unfold ReadPost at HRW
  rw [hx] at HRB HRW
  clear hx
  go_wp2_with fail
  refine (HRW.out _).mono ?_
  rintro e w3 ⟨v, rfl, ⟨B1, d1, B2, d2, rfl, hp3, hk3⟩, hb⟩
  have HB3 := Lib.hid (HB2.out.trans (hb.mono HB2.out.size))
  have HX3 := Lib.hid ((hb.block w.heap.size (Array.getElem?_eq_some_iff.1 HX2.out).1).trans HX2.out)
  have HP3 := Lib.hid hp3
  have HK3 := Lib.hid hk3
  clear hb hp3 hk3
  by_cases hn : n = 0
  rotate_left
  · have hnb : (n == 0) = false := by simpa using hn
    clear hn
    go_wp2_with (first | (refine wpList_store_new rfl 43 (.tmp 5) (.tmp 27) rfl w3.heap.size (scells xc (.slice B1 xps.length d1) (.slice B2 xks.length d2)) rfl rfl 43 _ (heap_alloc_new w3 _) Tryd.size43 rfl (scells_one _ _ _ _ _ _ _) w3.heap.size (Nat.le_refl _) ?_; intro w4 hx4 hb4; have HY4 := Lib.hid hx4; have HB34 := Lib.hid (((Below.refl w3.heap.size w3).alloc (Nat.le_refl _) _).trans hb4); have HX4b := Lib.hid ((HB34.out.block w.heap.size (Array.getElem?_eq_some_iff.1 HX3.out).1).trans HX3.out); clear hx4 hb4) | (refine wpList_load_row rfl 43 (.tmp 3) rfl w.heap.size rfl 43 (scells c (.slice A1 ps.length c1) (.slice A2 ks.length c2)) (0, 0) _ HX4b.out Tryd.underlying43 rfl Tryd.size43 ?_))
    have HB4 := Lib.hid (HB3.out.trans (HB34.out.mono HB3.out.size))
    refine (HBW.out _ (HP.out.below HB4.out) (HK.out.below HB4.out) (HT.out.below HB4.out)).mono ?_
    rintro e wv ⟨rfl, hb⟩
    have HBv := Lib.hid (HB4.out.trans (hb.mono HB4.out.size))
    have HXv := Lib.hid ((hb.block w.heap.size (Array.getElem?_eq_some_iff.1 HX4b.out).1).trans HX4b.out)
    clear hb
    by_cases hbe : be = 0
    · subst hbe
      obtain ⟨hrd, hbl2⟩ := HOK2.out rfl
      have HRD2 := Lib.hid hrd
      have HBL2 := Lib.hid hbl2
      have HL6 := Lib.hid (HL5.out rfl)
      clear hrd hbl2
      go_wp2_with fail
      refine (read_walk bs HBL2.out _).mono ?_
      rintro e wz ⟨v, rfl, hv, hb⟩
      rw [HRD2.out] at hv ⊢
      obtain ⟨C1, e1, C2, e2, rfl, hpz, hkz⟩ := hv
      have HBz := Lib.hid (HBv.out.trans (hb.mono HBv.out.size))
      have HXz := Lib.hid ((hb.block w.heap.size (Array.getElem?_eq_some_iff.1 HXv.out).1).trans HXv.out)
      have HPz := Lib.hid hpz
      have HKz := Lib.hid hkz
      clear hb hpz hkz
      go_wp2_with (refine wpList_store_new rfl 43 (.tmp 13) (.tmp 81) rfl wz.heap.size (scells c (.slice C1 ps.length e1) (.slice C2 ks.length e2)) rfl rfl 43 _ (heap_alloc_new wz _) Tryd.size43 rfl (scells_one _ _ _ _ _ _ _) wz.heap.size (Nat.le_refl _) ?_; intro wy hxy hby; have HXy := Lib.hid hxy; have HBy := Lib.hid (((Below.refl wz.heap.size wz).alloc (Nat.le_refl _) _).trans hby); clear hxy hby)
      have HST := Lib.hid (thirty_start HXy.out ((HBy.out.block w.heap.size (Array.getElem?_eq_some_iff.1 HXz.out).1).trans HXz.out))
      have HBzy := Lib.hid (HBz.out.trans (HBy.out.mono HBz.out.size))
      have HPy := Lib.hid (HPz.out.below HBy.out)
      have HKy := Lib.hid (HKz.out.below HBy.out)
      have HPw := Lib.hid (HP.out.below HBzy.out)
      have HKw := Lib.hid (HK.out.below HBzy.out)
      have O1 := Lib.hid (fun W a b => own_walk c ps ks C1 C2 e1 e2 h1 h3 W a b)
      have O2 := Lib.hid (fun W a b => own_walk c ps ks A1 A2 c1 c2 h1 h3 W a b)
      unfold scells at O1 O2
      go_region_held3 (fun W' => W'.cell? ⟨wz.heap.size, 0, none⟩ = some (.int .i64 c.cores) ∧ W'.cell? ⟨wz.heap.size, 1, none⟩ = some (.int .i64 c.homes) ∧ W'.cell? ⟨wz.heap.size, 2, none⟩ = some (.int .i64 c.sets) ∧ W'.cell? ⟨wz.heap.size, 3, none⟩ = some (.int .i64 c.ways) ∧ W'.cell? ⟨wz.heap.size, 4, none⟩ = some (.int .i64 c.words) ∧ W'.cell? ⟨wz.heap.size, 5, none⟩ = some (.int .i64 c.lines) ∧ W'.cell? ⟨wz.heap.size, 6, none⟩ = some (.int .i64 c.pointers) ∧ W'.cell? ⟨wz.heap.size, 7, none⟩ = some (.int .i64 c.mshrs) ∧ W'.cell? ⟨wz.heap.size, 8, none⟩ = some (.int .i64 c.buffer) ∧ W'.cell? ⟨wz.heap.size, 9, none⟩ = some (.int .i64 c.writebacks) ∧ W'.cell? ⟨wz.heap.size, 10, none⟩ = some (.int .i64 c.r0) ∧ W'.cell? ⟨wz.heap.size, 11, none⟩ = some (.int .i64 c.r1) ∧ W'.cell? ⟨wz.heap.size, 12, none⟩ = some (.int .i64 c.r2) ∧ W'.cell? ⟨wz.heap.size, 13, none⟩ = some (.slice C1 ps.length e1) ∧ W'.cell? ⟨wz.heap.size, 14, none⟩ = some (.slice C2 ks.length e2) ∧ W'.cell? ⟨w.heap.size, 0, none⟩ = some (.int .i64 c.cores) ∧ W'.cell? ⟨w.heap.size, 1, none⟩ = some (.int .i64 c.homes) ∧ W'.cell? ⟨w.heap.size, 2, none⟩ = some (.int .i64 c.sets) ∧ W'.cell? ⟨w.heap.size, 3, none⟩ = some (.int .i64 c.ways) ∧ W'.cell? ⟨w.heap.size, 4, none⟩ = some (.int .i64 c.words) ∧ W'.cell? ⟨w.heap.size, 5, none⟩ = some (.int .i64 c.lines) ∧ W'.cell? ⟨w.heap.size, 6, none⟩ = some (.int .i64 c.pointers) ∧ W'.cell? ⟨w.heap.size, 7, none⟩ = some (.int .i64 c.mshrs) ∧ W'.cell? ⟨w.heap.size, 8, none⟩ = some (.int .i64 c.buffer) ∧ W'.cell? ⟨w.heap.size, 9, none⟩ = some (.int .i64 c.writebacks) ∧ W'.cell? ⟨w.heap.size, 10, none⟩ = some (.int .i64 c.r0) ∧ W'.cell? ⟨w.heap.size, 11, none⟩ = some (.int .i64 c.r1) ∧ W'.cell? ⟨w.heap.size, 12, none⟩ = some (.int .i64 c.r2) ∧ W'.cell? ⟨w.heap.size, 13, none⟩ = some (.slice A1 ps.length c1) ∧ W'.cell? ⟨w.heap.size, 14, none⟩ = some (.slice A2 ks.length c2) ∧ Below wy.heap.size wy W') (first | exact HST.out | exact thirty_keep (by assumption) hb) (first | (go_at_call 24; (with_reducible refine (O1.out _ (HPy.out.below (thirty_last (by assumption))) (HKy.out.below (thirty_last (by assumption)))).mono ?_); rintro e wa ⟨v, rfl, ⟨D1, g1, D2, g2, rfl, hpa, hka⟩, hb⟩; have HPa := Lib.hid hpa; have HKa := Lib.hid hka; clear hpa hka) | (go_at_call 24; (with_reducible refine (O2.out _ (HPw.out.below (thirty_last (by assumption))) (HKw.out.below (thirty_last (by assumption)))).mono ?_); rintro e wb ⟨v, rfl, ⟨E1, i1, E2, i2, rfl, hpb, hkb⟩, hb⟩; have HPb := Lib.hid hpb; have HKb := Lib.hid hkb; have HPa2 := Lib.hid (HPa.out.below hb); have HKa2 := Lib.hid (HKa.out.below hb); clear hpb hkb) | (go_at_call 27; refine (same4_walk c ps ks D1 D2 E1 E2 g1 g2 i1 i2 h1 (by omega) HL6.out _ HPa2.out HKa2.out HPb.out HKb.out).mono ?_; rintro e wc ⟨rfl, hb⟩))
      have hd := thirty_last (by assumption)
      have HBe := Lib.hid (HBzy.out.trans (hd.mono HBzy.out.size))
      clear hd
      go_wp2
      go_ret
      exact ⟨rfl, HBe.out⟩
    · have hbb : (be != 0) = true := by simpa using hbe
      have hnil := HNO2.out hbe
      subst hnil
      go_wp2_with fail
      go_ret
      exact ⟨ret_bool' rfl, HBv.out⟩
  subst hn
  obtain ⟨hxb, hxm⟩ := HRB.out rfl
  have HXM := Lib.hid hxm
  have hxp := may_parts hxm
  have HXP := Lib.hid hxp
  have HXO := Lib.hid (ok_all hxp.1).1
  have HXF := Lib.hid (ok_fine hxp.1)
  have hxk : xks.length ≤ 3000 := by
    have := bytes_ks hxm
    rw [hxb] at this
    simp only at this
    omega
  have hxl : ∀ l ∈ xps, l.length ≤ 9223372036854775807 := fun l hl => by
    have := (fits_may (hxp.2.2.1 l hl)).1
    omega
  have hxn : xps.length ≤ 64 := by
    have h1 := (ok_all hxp.1).1
    have h2 := hxp.2.1
    simp only at h1 h2
    omega
  have HXW := Lib.hid (fun W a b t => bytes_walk xc HXF.out xps xks B1 B2 d1 d2 (by omega) hxk hxl W a b t)
  unfold BytesPost at HXW
  rw [hxb] at HXW
  have HXL := Lib.hid hxl
  have hno : okNo xc = 0 := by unfold okNo; rw [hxp.1]; rfl
  have HNO := Lib.hid hno
  have hcn : ((xps.length : Int) != xc.cores) = false := by have := hxp.2.1; simpa using this
  clear hxb hxm hxp hxl hno
  go_wp2_with (first | (refine wpList_store_new rfl 43 (.tmp 5) (.tmp 27) rfl w3.heap.size (scells xc (.slice B1 xps.length d1) (.slice B2 xks.length d2)) rfl rfl 43 _ (heap_alloc_new w3 _) Tryd.size43 rfl (scells_one _ _ _ _ _ _ _) w3.heap.size (Nat.le_refl _) ?_; intro w4 hx4 hb4; have HY4 := Lib.hid hx4; have HB34 := Lib.hid (((Below.refl w3.heap.size w3).alloc (Nat.le_refl _) _).trans hb4); have HX4b := Lib.hid ((HB34.out.block w.heap.size (Array.getElem?_eq_some_iff.1 HX3.out).1).trans HX3.out); clear hx4 hb4) | (refine wpList_load_row rfl 43 (.tmp 5) rfl w3.heap.size rfl 43 (scells xc (.slice B1 xps.length d1) (.slice B2 xks.length d2)) (0, 0) _ HY4.out Tryd.underlying43 rfl Tryd.size43 ?_))
  have HB4 := Lib.hid (HB3.out.trans (HB34.out.mono HB3.out.size))
  have HX4 := Lib.hid ((HB34.out.block w.heap.size (Array.getElem?_eq_some_iff.1 HX3.out).1).trans HX3.out)
  have HP4 := Lib.hid (HP3.out.below HB34.out)
  have HK4 := Lib.hid (HK3.out.below HB34.out)
  refine (HXW.out _ HP4.out HK4.out (HT.out.below HB4.out)).mono ?_
  rintro e w5 ⟨rfl, hb⟩
  have R5 := Lib.hid (show Two43 (scells xc (.slice B1 xps.length d1) (.slice B2 xks.length d2)) (scells c (.slice A1 ps.length c1) (.slice A2 ks.length c2)) w3.heap.size w.heap.size w w5 from (Two43.mk HY4.out HX4.out HB4.out).more hb)
  have HP5 := Lib.hid (HP4.out.below hb)
  clear hb
  have y0 : w5.cell? ⟨w3.heap.size, 0, none⟩ = some (.int .i64 xc.cores) := box_cell R5.out.box1 0 rfl
  have y1 : w5.cell? ⟨w3.heap.size, 1, none⟩ = some (.int .i64 xc.homes) := box_cell R5.out.box1 1 rfl
  have y2 : w5.cell? ⟨w3.heap.size, 2, none⟩ = some (.int .i64 xc.sets) := box_cell R5.out.box1 2 rfl
  have y3 : w5.cell? ⟨w3.heap.size, 3, none⟩ = some (.int .i64 xc.ways) := box_cell R5.out.box1 3 rfl
  have y4 : w5.cell? ⟨w3.heap.size, 4, none⟩ = some (.int .i64 xc.words) := box_cell R5.out.box1 4 rfl
  have y5 : w5.cell? ⟨w3.heap.size, 5, none⟩ = some (.int .i64 xc.lines) := box_cell R5.out.box1 5 rfl
  have y6 : w5.cell? ⟨w3.heap.size, 6, none⟩ = some (.int .i64 xc.pointers) := box_cell R5.out.box1 6 rfl
  have y7 : w5.cell? ⟨w3.heap.size, 7, none⟩ = some (.int .i64 xc.mshrs) := box_cell R5.out.box1 7 rfl
  have y8 : w5.cell? ⟨w3.heap.size, 8, none⟩ = some (.int .i64 xc.buffer) := box_cell R5.out.box1 8 rfl
  have y9 : w5.cell? ⟨w3.heap.size, 9, none⟩ = some (.int .i64 xc.writebacks) := box_cell R5.out.box1 9 rfl
  have y10 : w5.cell? ⟨w3.heap.size, 10, none⟩ = some (.int .i64 xc.r0) := box_cell R5.out.box1 10 rfl
  have y11 : w5.cell? ⟨w3.heap.size, 11, none⟩ = some (.int .i64 xc.r1) := box_cell R5.out.box1 11 rfl
  have y12 : w5.cell? ⟨w3.heap.size, 12, none⟩ = some (.int .i64 xc.r2) := box_cell R5.out.box1 12 rfl
  go_wp2_with fail
  refine (check_walk xc HXF.out _).mono ?_
  rintro e w6 ⟨rfl, hb⟩
  rw [HNO.out]
  have R6 := Lib.hid (R5.out.more hb)
  have HP6 := Lib.hid (HP5.out.below hb)
  clear hb
  clear y0 y1 y2 y3 y4 y5 y6 y7 y8 y9 y10 y11 y12
  have y0 : w6.cell? ⟨w3.heap.size, 0, none⟩ = some (.int .i64 xc.cores) := box_cell R6.out.box1 0 rfl
  have y13 : w6.cell? ⟨w3.heap.size, 13, none⟩ = some (.slice B1 xps.length d1) := box_cell R6.out.box1 13 rfl
  go_wp2_with fail
  clear y0 y13
  go_loopw [59] (fun v wr => ∃ k : Nat, v = .int .i64 k ∧ k ≤ xps.length ∧ Two43 (scells xc (.slice B1 xps.length d1) (.slice B2 xks.length d2)) (scells c (.slice A1 ps.length c1) (.slice A2 ks.length c2)) w3.heap.size w.heap.size w wr ∧ ProgsIn wr B1 xps) (fun v _ => xps.length - (RowKit.intOf v).toNat)
  case atStart => exact ⟨0, rfl, by omega, R6.out, HP6.out⟩
  case round =>
    obtain ⟨k, rfl, hk, hR, hPr⟩ := hrel
    have R := Lib.hid hR
    have HPR := Lib.hid hPr
    clear hR hPr
    by_cases hlt : k < xps.length
    · obtain ⟨l, hl⟩ : ∃ l, xps[k]? = some l := ⟨_, List.getElem?_eq_getElem hlt⟩
      obtain ⟨b5, off5, B5, cc5, hA5, _, hcell, hops⟩ := HPR.out k l hl
      subst hA5
      have HOP := Lib.hid hops
      have hft := HXP.out.2.2.1 l (List.mem_of_getElem? hl)
      have HFT := Lib.hid hft
      have hll := HXL.out l (List.mem_of_getElem? hl)
      clear hl hops hft
      have y0 : wr.cell? ⟨w3.heap.size, 0, none⟩ = some (.int .i64 xc.cores) := box_cell R.out.box1 0 rfl
      have y1 : wr.cell? ⟨w3.heap.size, 1, none⟩ = some (.int .i64 xc.homes) := box_cell R.out.box1 1 rfl
      have y2 : wr.cell? ⟨w3.heap.size, 2, none⟩ = some (.int .i64 xc.sets) := box_cell R.out.box1 2 rfl
      have y3 : wr.cell? ⟨w3.heap.size, 3, none⟩ = some (.int .i64 xc.ways) := box_cell R.out.box1 3 rfl
      have y4 : wr.cell? ⟨w3.heap.size, 4, none⟩ = some (.int .i64 xc.words) := box_cell R.out.box1 4 rfl
      have y5 : wr.cell? ⟨w3.heap.size, 5, none⟩ = some (.int .i64 xc.lines) := box_cell R.out.box1 5 rfl
      have y6 : wr.cell? ⟨w3.heap.size, 6, none⟩ = some (.int .i64 xc.pointers) := box_cell R.out.box1 6 rfl
      have y7 : wr.cell? ⟨w3.heap.size, 7, none⟩ = some (.int .i64 xc.mshrs) := box_cell R.out.box1 7 rfl
      have y8 : wr.cell? ⟨w3.heap.size, 8, none⟩ = some (.int .i64 xc.buffer) := box_cell R.out.box1 8 rfl
      have y9 : wr.cell? ⟨w3.heap.size, 9, none⟩ = some (.int .i64 xc.writebacks) := box_cell R.out.box1 9 rfl
      have y10 : wr.cell? ⟨w3.heap.size, 10, none⟩ = some (.int .i64 xc.r0) := box_cell R.out.box1 10 rfl
      have y11 : wr.cell? ⟨w3.heap.size, 11, none⟩ = some (.int .i64 xc.r1) := box_cell R.out.box1 11 rfl
      have y12 : wr.cell? ⟨w3.heap.size, 12, none⟩ = some (.int .i64 xc.r2) := box_cell R.out.box1 12 rfl
      go_wp2_with fail
      refine (Any.fits_prog xc HXF.out l B5 cc5 hll _ HOP.out).mono ?_
      rintro e w7 ⟨rfl, hb⟩
      rw [HFT.out]
      have R7 := Lib.hid (R.out.more hb)
      have HP7 := Lib.hid (HPR.out.below hb)
      clear hb y0 y1 y2 y3 y4 y5 y6 y7 y8 y9 y10 y11 y12
      go_wp2_with fail
      go_roundw
      case rel => exact ⟨k + 1, by go_num, by omega, R7.out, HP7.out⟩
      case measure => simp [RowKit.intOf]; omega
    · have hlt' : ¬ (k : Int) < xps.length := by omega
      have HBq := Lib.hid R.out.below
      have HXq := Lib.hid R.out.box2
      go_wp2_with (refine wpList_load_row rfl 43 (.tmp 3) rfl w.heap.size rfl 43 (scells c (.slice A1 ps.length c1) (.slice A2 ks.length c2)) (0, 0) _ HXq.out Tryd.underlying43 rfl Tryd.size43 ?_)
      refine (HBW.out _ (HP.out.below HBq.out) (HK.out.below HBq.out) (HT.out.below HBq.out)).mono ?_
      rintro e wv ⟨rfl, hb⟩
      have HBv := Lib.hid (HBq.out.trans (hb.mono HBq.out.size))
      have HXv := Lib.hid ((hb.block w.heap.size (Array.getElem?_eq_some_iff.1 HXq.out).1).trans HXq.out)
      clear hb
      by_cases hbe : be = 0
      · subst hbe
        obtain ⟨hrd, hbl2⟩ := HOK2.out rfl
        have HRD2 := Lib.hid hrd
        have HBL2 := Lib.hid hbl2
        have HL6 := Lib.hid (HL5.out rfl)
        clear hrd hbl2
        go_wp2_with fail
        refine (read_walk bs HBL2.out _).mono ?_
        rintro e wz ⟨v, rfl, hv, hb⟩
        rw [HRD2.out] at hv ⊢
        obtain ⟨C1, e1, C2, e2, rfl, hpz, hkz⟩ := hv
        have HBz := Lib.hid (HBv.out.trans (hb.mono HBv.out.size))
        have HXz := Lib.hid ((hb.block w.heap.size (Array.getElem?_eq_some_iff.1 HXv.out).1).trans HXv.out)
        have HPz := Lib.hid hpz
        have HKz := Lib.hid hkz
        clear hb hpz hkz
        go_wp2_with (refine wpList_store_new rfl 43 (.tmp 13) (.tmp 81) rfl wz.heap.size (scells c (.slice C1 ps.length e1) (.slice C2 ks.length e2)) rfl rfl 43 _ (heap_alloc_new wz _) Tryd.size43 rfl (scells_one _ _ _ _ _ _ _) wz.heap.size (Nat.le_refl _) ?_; intro wy hxy hby; have HXy := Lib.hid hxy; have HBy := Lib.hid (((Below.refl wz.heap.size wz).alloc (Nat.le_refl _) _).trans hby); clear hxy hby)
        have HST := Lib.hid (thirty_start HXy.out ((HBy.out.block w.heap.size (Array.getElem?_eq_some_iff.1 HXz.out).1).trans HXz.out))
        have HBzy := Lib.hid (HBz.out.trans (HBy.out.mono HBz.out.size))
        have HPy := Lib.hid (HPz.out.below HBy.out)
        have HKy := Lib.hid (HKz.out.below HBy.out)
        have HPw := Lib.hid (HP.out.below HBzy.out)
        have HKw := Lib.hid (HK.out.below HBzy.out)
        have O1 := Lib.hid (fun W a b => own_walk c ps ks C1 C2 e1 e2 h1 h3 W a b)
        have O2 := Lib.hid (fun W a b => own_walk c ps ks A1 A2 c1 c2 h1 h3 W a b)
        unfold scells at O1 O2
        go_region_held3 (fun W' => W'.cell? ⟨wz.heap.size, 0, none⟩ = some (.int .i64 c.cores) ∧ W'.cell? ⟨wz.heap.size, 1, none⟩ = some (.int .i64 c.homes) ∧ W'.cell? ⟨wz.heap.size, 2, none⟩ = some (.int .i64 c.sets) ∧ W'.cell? ⟨wz.heap.size, 3, none⟩ = some (.int .i64 c.ways) ∧ W'.cell? ⟨wz.heap.size, 4, none⟩ = some (.int .i64 c.words) ∧ W'.cell? ⟨wz.heap.size, 5, none⟩ = some (.int .i64 c.lines) ∧ W'.cell? ⟨wz.heap.size, 6, none⟩ = some (.int .i64 c.pointers) ∧ W'.cell? ⟨wz.heap.size, 7, none⟩ = some (.int .i64 c.mshrs) ∧ W'.cell? ⟨wz.heap.size, 8, none⟩ = some (.int .i64 c.buffer) ∧ W'.cell? ⟨wz.heap.size, 9, none⟩ = some (.int .i64 c.writebacks) ∧ W'.cell? ⟨wz.heap.size, 10, none⟩ = some (.int .i64 c.r0) ∧ W'.cell? ⟨wz.heap.size, 11, none⟩ = some (.int .i64 c.r1) ∧ W'.cell? ⟨wz.heap.size, 12, none⟩ = some (.int .i64 c.r2) ∧ W'.cell? ⟨wz.heap.size, 13, none⟩ = some (.slice C1 ps.length e1) ∧ W'.cell? ⟨wz.heap.size, 14, none⟩ = some (.slice C2 ks.length e2) ∧ W'.cell? ⟨w.heap.size, 0, none⟩ = some (.int .i64 c.cores) ∧ W'.cell? ⟨w.heap.size, 1, none⟩ = some (.int .i64 c.homes) ∧ W'.cell? ⟨w.heap.size, 2, none⟩ = some (.int .i64 c.sets) ∧ W'.cell? ⟨w.heap.size, 3, none⟩ = some (.int .i64 c.ways) ∧ W'.cell? ⟨w.heap.size, 4, none⟩ = some (.int .i64 c.words) ∧ W'.cell? ⟨w.heap.size, 5, none⟩ = some (.int .i64 c.lines) ∧ W'.cell? ⟨w.heap.size, 6, none⟩ = some (.int .i64 c.pointers) ∧ W'.cell? ⟨w.heap.size, 7, none⟩ = some (.int .i64 c.mshrs) ∧ W'.cell? ⟨w.heap.size, 8, none⟩ = some (.int .i64 c.buffer) ∧ W'.cell? ⟨w.heap.size, 9, none⟩ = some (.int .i64 c.writebacks) ∧ W'.cell? ⟨w.heap.size, 10, none⟩ = some (.int .i64 c.r0) ∧ W'.cell? ⟨w.heap.size, 11, none⟩ = some (.int .i64 c.r1) ∧ W'.cell? ⟨w.heap.size, 12, none⟩ = some (.int .i64 c.r2) ∧ W'.cell? ⟨w.heap.size, 13, none⟩ = some (.slice A1 ps.length c1) ∧ W'.cell? ⟨w.heap.size, 14, none⟩ = some (.slice A2 ks.length c2) ∧ Below wy.heap.size wy W') (first | exact HST.out | exact thirty_keep (by assumption) hb) (first | (go_at_call 24; (with_reducible refine (O1.out _ (HPy.out.below (thirty_last (by assumption))) (HKy.out.below (thirty_last (by assumption)))).mono ?_); rintro e wa ⟨v, rfl, ⟨D1, g1, D2, g2, rfl, hpa, hka⟩, hb⟩; have HPa := Lib.hid hpa; have HKa := Lib.hid hka; clear hpa hka) | (go_at_call 24; (with_reducible refine (O2.out _ (HPw.out.below (thirty_last (by assumption))) (HKw.out.below (thirty_last (by assumption)))).mono ?_); rintro e wb ⟨v, rfl, ⟨E1, i1, E2, i2, rfl, hpb, hkb⟩, hb⟩; have HPb := Lib.hid hpb; have HKb := Lib.hid hkb; have HPa2 := Lib.hid (HPa.out.below hb); have HKa2 := Lib.hid (HKa.out.below hb); clear hpb hkb) | (go_at_call 27; refine (same4_walk c ps ks D1 D2 E1 E2 g1 g2 i1 i2 h1 (by omega) HL6.out _ HPa2.out HKa2.out HPb.out HKb.out).mono ?_; rintro e wc ⟨rfl, hb⟩))
        have hd := thirty_last (by assumption)
        have HBe := Lib.hid (HBzy.out.trans (hd.mono HBzy.out.size))
        clear hd
        go_wp2
        go_ret
        exact ⟨rfl, HBe.out⟩
      · have hbb : (be != 0) = true := by simpa using hbe
        have hnil := HNO2.out hbe
        subst hnil
        go_wp2_with fail
        go_ret
        exact ⟨ret_bool' rfl, HBv.out⟩
end Go.Proofs.YtfjeheioglmalaaDoor
