/- Bytes of the reference: a script's bytes. -/
import Derived.Test.YtfjeheioglmalaaDoorBytes
import Derived.Deep.RegionHeld3
namespace Go.Proofs.YtfjeheioglmalaaDoor
open Go.RowKit Go.Lib
set_option linter.unusedVariables false
set_option linter.unusedSimpArgs false
structure Sizes (g : Nat) (c : Cfg) (W : World) : Prop where
  box : W.heap[g]? = some (.cells #[.int .i64 c.cores, .int .i64 c.homes, .int .i64 c.sets, .int .i64 c.ways, .int .i64 c.words, .int .i64 c.lines, .int .i64 c.pointers, .int .i64 c.mshrs, .int .i64 c.buffer, .int .i64 c.writebacks, .int .i64 c.r0, .int .i64 c.r1, .int .i64 c.r2] 31 (0, 0))
  first : W.drew.cell? ⟨g, 0, none⟩ = some (.int .i64 c.cores) ∧ W.drew.cell? ⟨g, 1, none⟩ = some (.int .i64 c.homes) ∧ W.drew.cell? ⟨g, 2, none⟩ = some (.int .i64 c.sets) ∧ W.drew.cell? ⟨g, 3, none⟩ = some (.int .i64 c.ways) ∧ W.drew.cell? ⟨g, 4, none⟩ = some (.int .i64 c.words) ∧ W.drew.cell? ⟨g, 5, none⟩ = some (.int .i64 c.lines) ∧ W.drew.cell? ⟨g, 6, none⟩ = some (.int .i64 c.pointers) ∧ W.drew.cell? ⟨g, 7, none⟩ = some (.int .i64 c.mshrs) ∧ W.drew.cell? ⟨g, 8, none⟩ = some (.int .i64 c.buffer) ∧ W.drew.cell? ⟨g, 9, none⟩ = some (.int .i64 c.writebacks) ∧ W.drew.cell? ⟨g, 10, none⟩ = some (.int .i64 c.r0) ∧ W.drew.cell? ⟨g, 11, none⟩ = some (.int .i64 c.r1) ∧ W.drew.cell? ⟨g, 12, none⟩ = some (.int .i64 c.r2) ∧ Below W.heap.size W W.drew
theorem sizes_start {g : Nat} {c : Cfg} {W : World} (h : W.heap[g]? = some (.cells #[.int .i64 c.cores, .int .i64 c.homes, .int .i64 c.sets, .int .i64 c.ways, .int .i64 c.words, .int .i64 c.lines, .int .i64 c.pointers, .int .i64 c.mshrs, .int .i64 c.buffer, .int .i64 c.writebacks, .int .i64 c.r0, .int .i64 c.r1, .int .i64 c.r2] 31 (0, 0))) : Sizes g c W := ⟨h, box_cell h 0 rfl, box_cell h 1 rfl, box_cell h 2 rfl, box_cell h 3 rfl, box_cell h 4 rfl, box_cell h 5 rfl, box_cell h 6 rfl, box_cell h 7 rfl, box_cell h 8 rfl, box_cell h 9 rfl, box_cell h 10 rfl, box_cell h 11 rfl, box_cell h 12 rfl, ⟨rfl, rfl, rfl, Nat.le_refl _, fun _ _ => rfl⟩⟩
theorem sizes_keep {g : Nat} {c : Cfg} {W W1 W2 : World} (h : W1.cell? ⟨g, 0, none⟩ = some (.int .i64 c.cores) ∧ W1.cell? ⟨g, 1, none⟩ = some (.int .i64 c.homes) ∧ W1.cell? ⟨g, 2, none⟩ = some (.int .i64 c.sets) ∧ W1.cell? ⟨g, 3, none⟩ = some (.int .i64 c.ways) ∧ W1.cell? ⟨g, 4, none⟩ = some (.int .i64 c.words) ∧ W1.cell? ⟨g, 5, none⟩ = some (.int .i64 c.lines) ∧ W1.cell? ⟨g, 6, none⟩ = some (.int .i64 c.pointers) ∧ W1.cell? ⟨g, 7, none⟩ = some (.int .i64 c.mshrs) ∧ W1.cell? ⟨g, 8, none⟩ = some (.int .i64 c.buffer) ∧ W1.cell? ⟨g, 9, none⟩ = some (.int .i64 c.writebacks) ∧ W1.cell? ⟨g, 10, none⟩ = some (.int .i64 c.r0) ∧ W1.cell? ⟨g, 11, none⟩ = some (.int .i64 c.r1) ∧ W1.cell? ⟨g, 12, none⟩ = some (.int .i64 c.r2) ∧ Below W.heap.size W W1) (hb : Below W1.heap.size W1 W2) : W2.cell? ⟨g, 0, none⟩ = some (.int .i64 c.cores) ∧ W2.cell? ⟨g, 1, none⟩ = some (.int .i64 c.homes) ∧ W2.cell? ⟨g, 2, none⟩ = some (.int .i64 c.sets) ∧ W2.cell? ⟨g, 3, none⟩ = some (.int .i64 c.ways) ∧ W2.cell? ⟨g, 4, none⟩ = some (.int .i64 c.words) ∧ W2.cell? ⟨g, 5, none⟩ = some (.int .i64 c.lines) ∧ W2.cell? ⟨g, 6, none⟩ = some (.int .i64 c.pointers) ∧ W2.cell? ⟨g, 7, none⟩ = some (.int .i64 c.mshrs) ∧ W2.cell? ⟨g, 8, none⟩ = some (.int .i64 c.buffer) ∧ W2.cell? ⟨g, 9, none⟩ = some (.int .i64 c.writebacks) ∧ W2.cell? ⟨g, 10, none⟩ = some (.int .i64 c.r0) ∧ W2.cell? ⟨g, 11, none⟩ = some (.int .i64 c.r1) ∧ W2.cell? ⟨g, 12, none⟩ = some (.int .i64 c.r2) ∧ Below W.heap.size W W2 := by
  obtain ⟨h0, h1, h2, h3, h4, h5, h6, h7, h8, h9, ha, hb', hc, hd⟩ := h
  have key : ∀ i v, W1.cell? ⟨g, i, none⟩ = some v → W2.cell? ⟨g, i, none⟩ = some v := fun i v h => (hb.cell (p := ⟨g, i, none⟩) (World.block_lt_of_cell? W1 ⟨g, i, none⟩ h)).trans h
  exact ⟨key _ _ h0, key _ _ h1, key _ _ h2, key _ _ h3, key _ _ h4, key _ _ h5, key _ _ h6, key _ _ h7, key _ _ h8, key _ _ h9, key _ _ ha, key _ _ hb', key _ _ hc, hd.trans (hb.mono hd.size)⟩
theorem sizes_last {g : Nat} {c : Cfg} {W W1 : World} (h : W1.cell? ⟨g, 0, none⟩ = some (.int .i64 c.cores) ∧ W1.cell? ⟨g, 1, none⟩ = some (.int .i64 c.homes) ∧ W1.cell? ⟨g, 2, none⟩ = some (.int .i64 c.sets) ∧ W1.cell? ⟨g, 3, none⟩ = some (.int .i64 c.ways) ∧ W1.cell? ⟨g, 4, none⟩ = some (.int .i64 c.words) ∧ W1.cell? ⟨g, 5, none⟩ = some (.int .i64 c.lines) ∧ W1.cell? ⟨g, 6, none⟩ = some (.int .i64 c.pointers) ∧ W1.cell? ⟨g, 7, none⟩ = some (.int .i64 c.mshrs) ∧ W1.cell? ⟨g, 8, none⟩ = some (.int .i64 c.buffer) ∧ W1.cell? ⟨g, 9, none⟩ = some (.int .i64 c.writebacks) ∧ W1.cell? ⟨g, 10, none⟩ = some (.int .i64 c.r0) ∧ W1.cell? ⟨g, 11, none⟩ = some (.int .i64 c.r1) ∧ W1.cell? ⟨g, 12, none⟩ = some (.int .i64 c.r2) ∧ Below W.heap.size W W1) : Below W.heap.size W W1 := by
  obtain ⟨_, _, _, _, _, _, _, _, _, _, _, _, _, hd⟩ := h
  exact hd
structure RBRel (cs : Array Value) (w wr : World) : Prop where
  box : wr.heap[w.heap.size]? = some (.cells cs 49 (0, 0))
  below : Below w.heap.size w wr
theorem RBRel.more {cs : Array Value} {w wr w' : World} (R : RBRel cs w wr) (h : Below wr.heap.size wr w') : RBRel cs w w' :=
  ⟨(h.block _ (Array.getElem?_eq_some_iff.1 R.box).1).trans R.box, R.below.trans (h.mono R.below.size)⟩
theorem rb_start {cs : Array Value} {w w4 W W1 : World} (h0 : Below w.heap.size w (w.alloc (.cells cs 49))) (h4 : Below (w.alloc (.cells cs 49)).heap.size (w.alloc (.cells cs 49)) w4) (hb : w4.heap[w.heap.size]? = some (.cells cs 49 (0, 0))) (hW : Below w4.heap.size w4 W) (h1 : Below W.heap.size W W1) : RBRel cs w W1 :=
  RBRel.more (RBRel.more ⟨hb, h0.trans (h4.mono (by simp))⟩ hW) h1
theorem leadP_lt {n : Nat} (h : n < 128) : leadP n = [byteOf n] := by
  unfold leadP byteOf
  rw [if_pos h, show ((n : Int) % 256).toNat = n by omega]
theorem leadP_ge {n : Nat} (h : ¬ n < 128) (h1 : n < 16000) : leadP n = [byteOf (128 + (n : Int) / 128), byteOf ((n : Int) % 128)] := by
  unfold leadP byteOf
  rw [if_neg h, show ((128 + (n : Int) / 128) % 256).toNat = n / 128 + 128 by omega, show ((n : Int) % 128 % 256).toNat = n % 128 by omega]
theorem fits_print_short {c : Cfg} {l : List PO} (h : fitsP c l = true) : printP l = (allP l, 0) ∧ (allP l).length ≤ 4000 := by
  obtain ⟨h1, h2⟩ := fits_may h
  have := allP_short l h2
  exact ⟨(fits_print h).1, by omega⟩
theorem pick_start {w wr : World} {g b off k n c2 : Nat} {x : PK} (h : wr.cell? ⟨g, 14, none⟩ = some (.slice (some ⟨b, off, none⟩) n c2)) (hr : wr.rangeAt b (off + k * 3) x.arr.toList) :
    wr.drew.cell? ⟨g, 14, none⟩ = some (.slice (some ⟨b, off, none⟩) n c2) ∧ wr.drew.cell? ⟨b, off + k * 3, none⟩ = some (.int .i64 x.k) ∧ wr.drew.cell? ⟨b, off + k * 3 + 1, none⟩ = some (.int .i64 x.a) ∧ wr.drew.cell? ⟨b, off + k * 3 + 2, none⟩ = some (.int .i64 x.b) ∧ Below wr.heap.size wr wr.drew :=
  ⟨h, hr 0 _ rfl, hr 1 _ rfl, hr 2 _ rfl, rfl, rfl, rfl, Nat.le_refl _, fun _ _ => rfl⟩
theorem pick_last {wr W1 : World} {p1 p2 p3 p4 : Addr} {v1 v2 v3 v4 : Value} (h : W1.cell? p1 = some v1 ∧ W1.cell? p2 = some v2 ∧ W1.cell? p3 = some v3 ∧ W1.cell? p4 = some v4 ∧ Below wr.heap.size wr W1) : Below wr.heap.size wr W1 := h.2.2.2.2
theorem pick_keep {wr W1 W2 : World} {p1 p2 p3 p4 : Addr} {v1 v2 v3 v4 : Value} (h : W1.cell? p1 = some v1 ∧ W1.cell? p2 = some v2 ∧ W1.cell? p3 = some v3 ∧ W1.cell? p4 = some v4 ∧ Below wr.heap.size wr W1) (hb : Below W1.heap.size W1 W2) : W2.cell? p1 = some v1 ∧ W2.cell? p2 = some v2 ∧ W2.cell? p3 = some v3 ∧ W2.cell? p4 = some v4 ∧ Below wr.heap.size wr W2 := by
  obtain ⟨h0, h1, h2, h3, hd⟩ := h
  have key : ∀ p v, W1.cell? p = some v → W2.cell? p = some v := fun p v h => (hb.cell (p := p) (World.block_lt_of_cell? W1 p h)).trans h
  exact ⟨key _ _ h0, key _ _ h1, key _ _ h2, key _ _ h3, hd.trans (hb.mono hd.size)⟩
set_option maxRecDepth 100000 in
set_option maxHeartbeats 1000000 in
theorem rbytes_walk (c : Cfg) (hfine : c.fine) (ps : List (List PO)) (ks : List PK) (A1 A2 : Option Addr) (c1 c2 : Nat) (h1 : ps.length ≤ 9223372036854775807) (h2 : ks.length ≤ 3000) (hlen : ∀ l ∈ ps, l.length ≤ 9223372036854775807) (w : World) (hp : ProgsIn w A1 ps) (hk : PicksIn w A2 ks) :
    Calls Tryd.prog 23 #[.agg (scells c (.slice A1 ps.length c1) (.slice A2 ks.length c2))] w (BytesPost ⟨c, ps, ks⟩ w) := by
  have HP := Lib.hid hp
  have HK := Lib.hid hk
  clear hp hk
  have HB0 := Lib.hid ((Below.refl w.heap.size w).alloc (Nat.le_refl _) (.cells (scells c (.slice A1 ps.length c1) (.slice A2 ks.length c2)) 49))
  have HBa := Lib.hid ((Below.refl w.heap.size w).alloc (Nat.le_refl _) (.cells (scells c (.slice A1 ps.length c1) (.slice A2 ks.length c2)) 49))
  have HM := Lib.hid (fun W (hb : Below w.heap.size w W) => rmay4_walk c ps ks A1 A2 c1 c2 h1 h2 hlen W (HP.out.below hb) (HK.out.below hb))
  have HW := Lib.hid (heap_alloc_new w (.cells (scells c (.slice A1 ps.length c1) (.slice A2 ks.length c2)) 49))
  unfold scells
  cases hm : PS.may ⟨c, ps, ks⟩
  · have HR : Hid (bytesP ⟨c, ps, ks⟩ = ([], 1)) := by
      show _ = _
      unfold bytesP
      rw [hm]
      rfl
    have HF := Lib.hid hm
    clear hm
    go_enter Tryd.func23, Tryd.ntmps23
    go_wp2_with fail
    refine (HM.out _ HBa.out).mono ?_
    rintro e w4 ⟨rfl, hb⟩
    rw [HF.out]
    have HB4 := Lib.hid hb
    clear hb
    go_wp2_with fail
    go_ret2
    exact ⟨by rw [HR.out]; rfl, HB0.out.trans (HB4.out.mono HB0.out.size)⟩
  · have HR : Hid (bytesP ⟨c, ps, ks⟩ = (headP c ++ (ps.flatMap textP ++ ks.flatMap PK.bytes), 0)) := by
      show _ = _
      unfold bytesP
      rw [hm]
      rfl
    have HPT := Lib.hid (may_parts hm)
    have HF := Lib.hid hm
    clear hm
    go_enter Tryd.func23, Tryd.ntmps23
    go_wp2_with fail
    refine (HM.out _ HBa.out).mono ?_
    rintro e w4 ⟨rfl, hb⟩
    rw [HF.out]
    have HB4 := Lib.hid hb
    have hbx := (hb.block w.heap.size (by simp)).trans HW.out
    have HBX := Lib.hid hbx
    have y0 : w4.cell? ⟨w.heap.size, 0, none⟩ = some (.int .i64 c.cores) := box_cell hbx 0 rfl
    have y1 : w4.cell? ⟨w.heap.size, 1, none⟩ = some (.int .i64 c.homes) := box_cell hbx 1 rfl
    have y2 : w4.cell? ⟨w.heap.size, 2, none⟩ = some (.int .i64 c.sets) := box_cell hbx 2 rfl
    have y3 : w4.cell? ⟨w.heap.size, 3, none⟩ = some (.int .i64 c.ways) := box_cell hbx 3 rfl
    have y4 : w4.cell? ⟨w.heap.size, 4, none⟩ = some (.int .i64 c.words) := box_cell hbx 4 rfl
    have y5 : w4.cell? ⟨w.heap.size, 5, none⟩ = some (.int .i64 c.lines) := box_cell hbx 5 rfl
    have y6 : w4.cell? ⟨w.heap.size, 6, none⟩ = some (.int .i64 c.pointers) := box_cell hbx 6 rfl
    have y7 : w4.cell? ⟨w.heap.size, 7, none⟩ = some (.int .i64 c.mshrs) := box_cell hbx 7 rfl
    have y8 : w4.cell? ⟨w.heap.size, 8, none⟩ = some (.int .i64 c.buffer) := box_cell hbx 8 rfl
    have y9 : w4.cell? ⟨w.heap.size, 9, none⟩ = some (.int .i64 c.writebacks) := box_cell hbx 9 rfl
    have y10 : w4.cell? ⟨w.heap.size, 10, none⟩ = some (.int .i64 c.r0) := box_cell hbx 10 rfl
    have y11 : w4.cell? ⟨w.heap.size, 11, none⟩ = some (.int .i64 c.r1) := box_cell hbx 11 rfl
    have y12 : w4.cell? ⟨w.heap.size, 12, none⟩ = some (.int .i64 c.r2) := box_cell hbx 12 rfl
    clear hb hbx
    go_wp2_with fail
    obtain ⟨W, hW, hWB, hWN⟩ : ∃ W, w4.alloc (.cells #[.int .i64 c.cores, .int .i64 c.homes, .int .i64 c.sets, .int .i64 c.ways, .int .i64 c.words, .int .i64 c.lines, .int .i64 c.pointers, .int .i64 c.mshrs, .int .i64 c.buffer, .int .i64 c.writebacks, .int .i64 c.r0, .int .i64 c.r1, .int .i64 c.r2] 31) = W ∧ Below w4.heap.size w4 W ∧ W.heap[w4.heap.size]? = some (.cells #[.int .i64 c.cores, .int .i64 c.homes, .int .i64 c.sets, .int .i64 c.ways, .int .i64 c.words, .int .i64 c.lines, .int .i64 c.pointers, .int .i64 c.mshrs, .int .i64 c.buffer, .int .i64 c.writebacks, .int .i64 c.r0, .int .i64 c.r1, .int .i64 c.r2] 31 (0, 0)) :=
      ⟨_, rfl, (Below.refl _ _).alloc (Nat.le_refl _) _, heap_alloc_new w4 _⟩
    rw [hW]
    clear hW y0 y1 y2 y3 y4 y5 y6 y7 y8 y9 y10 y11 y12
    have HST := Lib.hid (sizes_start hWN)
    have HWB := Lib.hid hWB
    clear hWB hWN
    obtain ⟨q0, p1, p2, p3, p4, _⟩ := ok_all HPT.out.1
    clear q0
    have k1 : ∀ W, (Op.stringOp .add ⟨#[byteOf c.cores]⟩ ⟨#[byteOf (lg c.homes)]⟩).run Tryd.prog W = .ok (.string ⟨#[byteOf c.cores, byteOf (lg c.homes)]⟩) W := fun W => cat [byteOf c.cores] [byteOf (lg c.homes)] (by simp) (by simp) W
    have k2 : ∀ W, (Op.stringOp .add ⟨#[byteOf c.cores, byteOf (lg c.homes)]⟩ ⟨#[byteOf (lg c.sets)]⟩).run Tryd.prog W = .ok (.string ⟨#[byteOf c.cores, byteOf (lg c.homes), byteOf (lg c.sets)]⟩) W := fun W => cat [byteOf c.cores, byteOf (lg c.homes)] [byteOf (lg c.sets)] (by simp) (by simp) W
    have k3 : ∀ W, (Op.stringOp .add ⟨#[byteOf c.cores, byteOf (lg c.homes), byteOf (lg c.sets)]⟩ ⟨#[byteOf c.ways]⟩).run Tryd.prog W = .ok (.string ⟨#[byteOf c.cores, byteOf (lg c.homes), byteOf (lg c.sets), byteOf c.ways]⟩) W := fun W => cat [byteOf c.cores, byteOf (lg c.homes), byteOf (lg c.sets)] [byteOf c.ways] (by simp) (by simp) W
    have k4 : ∀ W, (Op.stringOp .add ⟨#[byteOf c.cores, byteOf (lg c.homes), byteOf (lg c.sets), byteOf c.ways]⟩ ⟨#[byteOf (lg c.words)]⟩).run Tryd.prog W = .ok (.string ⟨#[byteOf c.cores, byteOf (lg c.homes), byteOf (lg c.sets), byteOf c.ways, byteOf (lg c.words)]⟩) W := fun W => cat [byteOf c.cores, byteOf (lg c.homes), byteOf (lg c.sets), byteOf c.ways] [byteOf (lg c.words)] (by simp) (by simp) W
    have k5 : ∀ W, (Op.stringOp .add ⟨#[byteOf c.cores, byteOf (lg c.homes), byteOf (lg c.sets), byteOf c.ways, byteOf (lg c.words)]⟩ ⟨#[byteOf (lg c.lines)]⟩).run Tryd.prog W = .ok (.string ⟨#[byteOf c.cores, byteOf (lg c.homes), byteOf (lg c.sets), byteOf c.ways, byteOf (lg c.words), byteOf (lg c.lines)]⟩) W := fun W => cat [byteOf c.cores, byteOf (lg c.homes), byteOf (lg c.sets), byteOf c.ways, byteOf (lg c.words)] [byteOf (lg c.lines)] (by simp) (by simp) W
    have k6 : ∀ W, (Op.stringOp .add ⟨#[byteOf c.cores, byteOf (lg c.homes), byteOf (lg c.sets), byteOf c.ways, byteOf (lg c.words), byteOf (lg c.lines)]⟩ ⟨#[byteOf c.pointers]⟩).run Tryd.prog W = .ok (.string ⟨#[byteOf c.cores, byteOf (lg c.homes), byteOf (lg c.sets), byteOf c.ways, byteOf (lg c.words), byteOf (lg c.lines), byteOf c.pointers]⟩) W := fun W => cat [byteOf c.cores, byteOf (lg c.homes), byteOf (lg c.sets), byteOf c.ways, byteOf (lg c.words), byteOf (lg c.lines)] [byteOf c.pointers] (by simp) (by simp) W
    have k7 : ∀ W, (Op.stringOp .add ⟨#[byteOf c.cores, byteOf (lg c.homes), byteOf (lg c.sets), byteOf c.ways, byteOf (lg c.words), byteOf (lg c.lines), byteOf c.pointers]⟩ ⟨#[byteOf c.mshrs]⟩).run Tryd.prog W = .ok (.string ⟨#[byteOf c.cores, byteOf (lg c.homes), byteOf (lg c.sets), byteOf c.ways, byteOf (lg c.words), byteOf (lg c.lines), byteOf c.pointers, byteOf c.mshrs]⟩) W := fun W => cat [byteOf c.cores, byteOf (lg c.homes), byteOf (lg c.sets), byteOf c.ways, byteOf (lg c.words), byteOf (lg c.lines), byteOf c.pointers] [byteOf c.mshrs] (by simp) (by simp) W
    have k8 : ∀ W, (Op.stringOp .add ⟨#[byteOf c.cores, byteOf (lg c.homes), byteOf (lg c.sets), byteOf c.ways, byteOf (lg c.words), byteOf (lg c.lines), byteOf c.pointers, byteOf c.mshrs]⟩ ⟨#[byteOf c.buffer]⟩).run Tryd.prog W = .ok (.string ⟨#[byteOf c.cores, byteOf (lg c.homes), byteOf (lg c.sets), byteOf c.ways, byteOf (lg c.words), byteOf (lg c.lines), byteOf c.pointers, byteOf c.mshrs, byteOf c.buffer]⟩) W := fun W => cat [byteOf c.cores, byteOf (lg c.homes), byteOf (lg c.sets), byteOf c.ways, byteOf (lg c.words), byteOf (lg c.lines), byteOf c.pointers, byteOf c.mshrs] [byteOf c.buffer] (by simp) (by simp) W
    have k9 : ∀ W, (Op.stringOp .add ⟨#[byteOf c.cores, byteOf (lg c.homes), byteOf (lg c.sets), byteOf c.ways, byteOf (lg c.words), byteOf (lg c.lines), byteOf c.pointers, byteOf c.mshrs, byteOf c.buffer]⟩ ⟨#[byteOf c.writebacks]⟩).run Tryd.prog W = .ok (.string ⟨#[byteOf c.cores, byteOf (lg c.homes), byteOf (lg c.sets), byteOf c.ways, byteOf (lg c.words), byteOf (lg c.lines), byteOf c.pointers, byteOf c.mshrs, byteOf c.buffer, byteOf c.writebacks]⟩) W := fun W => cat [byteOf c.cores, byteOf (lg c.homes), byteOf (lg c.sets), byteOf c.ways, byteOf (lg c.words), byteOf (lg c.lines), byteOf c.pointers, byteOf c.mshrs, byteOf c.buffer] [byteOf c.writebacks] (by simp) (by simp) W
    have k10 : ∀ W, (Op.stringOp .add ⟨#[byteOf c.cores, byteOf (lg c.homes), byteOf (lg c.sets), byteOf c.ways, byteOf (lg c.words), byteOf (lg c.lines), byteOf c.pointers, byteOf c.mshrs, byteOf c.buffer, byteOf c.writebacks]⟩ ⟨#[byteOf c.r0]⟩).run Tryd.prog W = .ok (.string ⟨#[byteOf c.cores, byteOf (lg c.homes), byteOf (lg c.sets), byteOf c.ways, byteOf (lg c.words), byteOf (lg c.lines), byteOf c.pointers, byteOf c.mshrs, byteOf c.buffer, byteOf c.writebacks, byteOf c.r0]⟩) W := fun W => cat [byteOf c.cores, byteOf (lg c.homes), byteOf (lg c.sets), byteOf c.ways, byteOf (lg c.words), byteOf (lg c.lines), byteOf c.pointers, byteOf c.mshrs, byteOf c.buffer, byteOf c.writebacks] [byteOf c.r0] (by simp) (by simp) W
    have k11 : ∀ W, (Op.stringOp .add ⟨#[byteOf c.cores, byteOf (lg c.homes), byteOf (lg c.sets), byteOf c.ways, byteOf (lg c.words), byteOf (lg c.lines), byteOf c.pointers, byteOf c.mshrs, byteOf c.buffer, byteOf c.writebacks, byteOf c.r0]⟩ ⟨#[byteOf c.r1]⟩).run Tryd.prog W = .ok (.string ⟨#[byteOf c.cores, byteOf (lg c.homes), byteOf (lg c.sets), byteOf c.ways, byteOf (lg c.words), byteOf (lg c.lines), byteOf c.pointers, byteOf c.mshrs, byteOf c.buffer, byteOf c.writebacks, byteOf c.r0, byteOf c.r1]⟩) W := fun W => cat [byteOf c.cores, byteOf (lg c.homes), byteOf (lg c.sets), byteOf c.ways, byteOf (lg c.words), byteOf (lg c.lines), byteOf c.pointers, byteOf c.mshrs, byteOf c.buffer, byteOf c.writebacks, byteOf c.r0] [byteOf c.r1] (by simp) (by simp) W
    have k12 : ∀ W, (Op.stringOp .add ⟨#[byteOf c.cores, byteOf (lg c.homes), byteOf (lg c.sets), byteOf c.ways, byteOf (lg c.words), byteOf (lg c.lines), byteOf c.pointers, byteOf c.mshrs, byteOf c.buffer, byteOf c.writebacks, byteOf c.r0, byteOf c.r1]⟩ ⟨#[byteOf c.r2]⟩).run Tryd.prog W = .ok (.string ⟨#[byteOf c.cores, byteOf (lg c.homes), byteOf (lg c.sets), byteOf c.ways, byteOf (lg c.words), byteOf (lg c.lines), byteOf c.pointers, byteOf c.mshrs, byteOf c.buffer, byteOf c.writebacks, byteOf c.r0, byteOf c.r1, byteOf c.r2]⟩) W := fun W => cat [byteOf c.cores, byteOf (lg c.homes), byteOf (lg c.sets), byteOf c.ways, byteOf (lg c.words), byteOf (lg c.lines), byteOf c.pointers, byteOf c.mshrs, byteOf c.buffer, byteOf c.writebacks, byteOf c.r0, byteOf c.r1] [byteOf c.r2] (by simp) (by simp) W
    go_region_held3 (fun W' => W'.cell? ⟨w4.heap.size, 0, none⟩ = some (.int .i64 c.cores) ∧ W'.cell? ⟨w4.heap.size, 1, none⟩ = some (.int .i64 c.homes) ∧ W'.cell? ⟨w4.heap.size, 2, none⟩ = some (.int .i64 c.sets) ∧ W'.cell? ⟨w4.heap.size, 3, none⟩ = some (.int .i64 c.ways) ∧ W'.cell? ⟨w4.heap.size, 4, none⟩ = some (.int .i64 c.words) ∧ W'.cell? ⟨w4.heap.size, 5, none⟩ = some (.int .i64 c.lines) ∧ W'.cell? ⟨w4.heap.size, 6, none⟩ = some (.int .i64 c.pointers) ∧ W'.cell? ⟨w4.heap.size, 7, none⟩ = some (.int .i64 c.mshrs) ∧ W'.cell? ⟨w4.heap.size, 8, none⟩ = some (.int .i64 c.buffer) ∧ W'.cell? ⟨w4.heap.size, 9, none⟩ = some (.int .i64 c.writebacks) ∧ W'.cell? ⟨w4.heap.size, 10, none⟩ = some (.int .i64 c.r0) ∧ W'.cell? ⟨w4.heap.size, 11, none⟩ = some (.int .i64 c.r1) ∧ W'.cell? ⟨w4.heap.size, 12, none⟩ = some (.int .i64 c.r2) ∧ Below W.heap.size W W') (first | exact HST.out.first | exact sizes_keep (by assumption) hb) (first | (go_at_call 41; refine (one_walk _ _).mono ?_; rintro e w' ⟨rfl, hb⟩) | (go_at_call 42; refine (bits_walk _ (by assumption) _).mono ?_; rintro e w' ⟨rfl, hb⟩))
    have hd := sizes_last (g := w4.heap.size) (c := c) (by assumption)
    have RB := Lib.hid (show RBRel (scells c (.slice A1 ps.length c1) (.slice A2 ks.length c2)) w _ from rb_start HBa.out HB4.out HBX.out HWB.out hd)
    have HH : Hid ((headP c).toArray = #[byteOf c.cores, byteOf (lg c.homes), byteOf (lg c.sets), byteOf c.ways, byteOf (lg c.words), byteOf (lg c.lines), byteOf c.pointers, byteOf c.mshrs, byteOf c.buffer, byteOf c.writebacks, byteOf c.r0, byteOf c.r1, byteOf c.r2]) := rfl
    rw [← HH.out]
    have HOK := Lib.hid (ok_all HPT.out.1).1
    have HPN := Lib.hid HPT.out.2.1
    clear hd k1 k2 k3 k4 k5 k6 k7 k8 k9 k10 k11 k12 p1 p2 p3 p4
    go_wp2_with fail
    go_loopw [5, 6] (fun bv i wr => ∃ (k : Nat) (bs : List UInt8), i = .int .i64 k ∧ bv = .string ⟨bs.toArray⟩ ∧ k ≤ ps.length ∧ bs = headP c ++ (ps.take k).flatMap textP ∧ bs.length ≤ 13 + k * 5000 ∧ RBRel (scells c (.slice A1 ps.length c1) (.slice A2 ks.length c2)) w wr) (fun _ i _ => ps.length - (RowKit.intOf i).toNat)
    case atStart => exact ⟨0, headP c, rfl, rfl, by omega, by simp, by simp [head_len], RB.out⟩
    case round =>
      obtain ⟨k, bs, rfl, rfl, hk, hbs, hbl, hR⟩ := hrel
      have R := Lib.hid hR
      have HBS := Lib.hid hbs
      have hps : ps.length ≤ 64 := by have := HOK.out; have := HPN.out; omega
      have hx13 : wr.cell? ⟨w.heap.size, 13, none⟩ = some (.slice A1 ps.length c1) := box_cell hR.box 13 rfl
      clear hR hbs
      by_cases hlt : k < ps.length
      · obtain ⟨l, hl⟩ : ∃ l, ps[k]? = some l := ⟨_, List.getElem?_eq_getElem hlt⟩
        obtain ⟨b, off, B, cc, hA, _, hcell, hops⟩ := (HP.out.below R.out.below) k l hl
        subst hA
        have HOP := Lib.hid hops
        have HL := Lib.hid hl
        have hfit := HPT.out.2.2.1 l (List.mem_of_getElem? hl)
        have HLM := Lib.hid (fits_may hfit).1
        obtain ⟨hpl, hpn⟩ := fits_print_short hfit
        obtain ⟨t, ht⟩ : ∃ t, allP l = t := ⟨_, rfl⟩
        rw [ht] at hpl hpn
        have HPL := Lib.hid hpl
        have HTL : Hid (headP c ++ (ps.take (k + 1)).flatMap textP = bs ++ (leadP t.length ++ t)) := by
          show _ = _
          rw [List.take_add_one, HL.out, HBS.out]
          simp [textP, hpl]
        clear hl hops hfit hpl ht
        go_wp2_with fail
        refine (rprint_walk l B cc (by have := HLM.out; omega) _ HOP.out).mono ?_
        rintro e w5 ⟨rfl, hb5⟩
        rw [HPL.out]
        dsimp only
        have R5 := Lib.hid (R.out.more hb5)
        clear hb5 hcell
        have htsz : (ByteArray.mk t.toArray).size = t.length := by simp [ByteArray.size]
        by_cases h128 : t.length < 128
        · have h128' : (t.length : Int) < 128 := by omega
          obtain ⟨s1, hs1⟩ : ∃ s1, bs ++ [byteOf t.length] = s1 := ⟨_, rfl⟩
          obtain ⟨s2, hs2⟩ : ∃ s2, s1 ++ t = s2 := ⟨_, rfl⟩
          have hl1 : s1.length = bs.length + 1 := by rw [← hs1]; simp
          have kk1 : ∀ W, (Op.stringOp .add ⟨bs.toArray⟩ ⟨#[byteOf t.length]⟩).run Tryd.prog W = .ok (.string ⟨s1.toArray⟩) W := fun W => by rw [← hs1]; exact cat bs [byteOf t.length] (by omega) (by simp) W
          have kk2 : ∀ W, (Op.stringOp .add ⟨s1.toArray⟩ ⟨t.toArray⟩).run Tryd.prog W = .ok (.string ⟨s2.toArray⟩) W := fun W => by rw [← hs2]; exact cat s1 t (by omega) (by omega) W
          have HS : Hid (s2 = bs ++ (leadP t.length ++ t)) := by
            show _ = _
            rw [← hs2, ← hs1, leadP_lt h128]
            simp
          have HSL : Hid (s2.length = bs.length + 1 + t.length) := by
            show _ = _
            rw [← hs2, List.length_append, hl1]
          clear hs1 hs2 hl1
          go_wp2_with fail
          refine (one_walk _ _).mono ?_
          rintro e w6 ⟨rfl, hb6⟩
          have R6 := Lib.hid (R5.out.more hb6)
          clear hb6
          go_wp2
          go_roundw
          case rel => exact ⟨k + 1, s2, by go_num, rfl, by omega, by rw [HS.out]; exact HTL.out.symm, by have := HSL.out; omega, R6.out⟩
          case measure => simp [RowKit.intOf]; omega
        · have h128' : ¬ (t.length : Int) < 128 := by omega
          obtain ⟨s1, hs1⟩ : ∃ s1, bs ++ [byteOf (128 + t.length / 128)] = s1 := ⟨_, rfl⟩
          obtain ⟨s2, hs2⟩ : ∃ s2, s1 ++ [byteOf (t.length % 128)] = s2 := ⟨_, rfl⟩
          obtain ⟨s3, hs3⟩ : ∃ s3, s2 ++ t = s3 := ⟨_, rfl⟩
          have hl1 : s1.length = bs.length + 1 := by rw [← hs1]; simp
          have hl2 : s2.length = bs.length + 2 := by rw [← hs2]; simp; omega
          have kk1 : ∀ W, (Op.stringOp .add ⟨bs.toArray⟩ ⟨#[byteOf (128 + t.length / 128)]⟩).run Tryd.prog W = .ok (.string ⟨s1.toArray⟩) W := fun W => by rw [← hs1]; exact cat bs [byteOf (128 + t.length / 128)] (by omega) (by simp) W
          have kk2 : ∀ W, (Op.stringOp .add ⟨s1.toArray⟩ ⟨#[byteOf (t.length % 128)]⟩).run Tryd.prog W = .ok (.string ⟨s2.toArray⟩) W := fun W => by rw [← hs2]; exact cat s1 [byteOf (t.length % 128)] (by omega) (by simp) W
          have kk3 : ∀ W, (Op.stringOp .add ⟨s2.toArray⟩ ⟨t.toArray⟩).run Tryd.prog W = .ok (.string ⟨s3.toArray⟩) W := fun W => by rw [← hs3]; exact cat s2 t (by omega) (by omega) W
          have HS : Hid (s3 = bs ++ (leadP t.length ++ t)) := by
            show _ = _
            rw [← hs3, ← hs2, ← hs1, leadP_ge h128 (by omega)]
            simp
          have HSL : Hid (s3.length = bs.length + 2 + t.length) := by
            show _ = _
            rw [← hs3, List.length_append, hl2]
          clear hs1 hs2 hs3 hl1 hl2
          go_wp2_with fail
          refine (one_walk _ _).mono ?_
          rintro e w6 ⟨rfl, hb6⟩
          have R6 := Lib.hid (R5.out.more hb6)
          clear hb6
          go_wp2_with fail
          refine (one_walk _ _).mono ?_
          rintro e w7 ⟨rfl, hb7⟩
          have R7 := Lib.hid (R6.out.more hb7)
          clear hb7
          go_wp2
          go_roundw
          case rel => exact ⟨k + 1, s3, by go_num, rfl, by omega, by rw [HS.out]; exact HTL.out.symm, by have := HSL.out; omega, R7.out⟩
          case measure => simp [RowKit.intOf]; omega
      · have hkn : k = ps.length := by omega
        subst hkn
        have HBS2 : Hid (bs = headP c ++ ps.flatMap textP) := by
          show _ = _
          rw [HBS.out, List.take_length]
        have hx14 : wr.cell? ⟨w.heap.size, 14, none⟩ = some (.slice A2 ks.length c2) := box_cell R.out.box 14 rfl
        have hlt' : ¬ (ps.length : Int) < ps.length := by omega
        have hbl' : bs.length ≤ 400000 := by omega
        go_wp2_with fail
        have HBL := Lib.hid hbl'
        go_loopw [5, 9] (fun bv i wq => ∃ (k : Nat) (bq : List UInt8), i = .int .i64 k ∧ bv = .string ⟨bq.toArray⟩ ∧ k ≤ ks.length ∧ bq = bs ++ (ks.take k).flatMap PK.bytes ∧ bq.length ≤ 400000 + k * 3 ∧ RBRel (scells c (.slice A1 ps.length c1) (.slice A2 ks.length c2)) w wq) (fun _ i _ => ks.length - (RowKit.intOf i).toNat)
        case atStart => exact ⟨0, bs, rfl, rfl, by omega, by simp, by omega, R.out⟩
        case round =>
          obtain ⟨k, bq, rfl, rfl, hk2, hbq, hbl2, hQ⟩ := hrel
          have Q := Lib.hid hQ
          have HBQ := Lib.hid hbq
          have hx14 : wr.cell? ⟨w.heap.size, 14, none⟩ = some (.slice A2 ks.length c2) := box_cell hQ.box 14 rfl
          clear hQ hbq hlt
          by_cases hlt2 : k < ks.length
          · obtain ⟨x, hx⟩ : ∃ x, ks[k]? = some x := ⟨_, List.getElem?_eq_getElem hlt2⟩
            obtain ⟨b, off, hA, hblt, har⟩ := (HK.out.below Q.out.below) k x hx
            subst hA
            have hnx : bs ++ (ks.take (k + 1)).flatMap PK.bytes = bq ++ x.bytes := by
              rw [List.take_add_one, hx, HBQ.out]
              simp
            have HNX := Lib.hid hnx
            have HRg := Lib.hid har
            clear har hx hnx
            obtain ⟨xk, xa, xb⟩ := x
            obtain ⟨s1, hs1⟩ : ∃ s1, bq ++ [byteOf xk] = s1 := ⟨_, rfl⟩
            obtain ⟨s2, hs2⟩ : ∃ s2, s1 ++ [byteOf xa] = s2 := ⟨_, rfl⟩
            obtain ⟨s3, hs3⟩ : ∃ s3, s2 ++ [byteOf xb] = s3 := ⟨_, rfl⟩
            have hl1 : s1.length = bq.length + 1 := by rw [← hs1]; simp
            have hl2 : s2.length = bq.length + 2 := by rw [← hs2]; simp; omega
            have HSL : Hid (s3.length = bq.length + 3) := by show _ = _; rw [← hs3, List.length_append, hl2]; rfl
            have kk1 : ∀ W, (Op.stringOp .add ⟨bq.toArray⟩ ⟨#[byteOf xk]⟩).run Tryd.prog W = .ok (.string ⟨s1.toArray⟩) W := fun W => by rw [← hs1]; exact cat bq [byteOf xk] (by omega) (by simp) W
            have kk2 : ∀ W, (Op.stringOp .add ⟨s1.toArray⟩ ⟨#[byteOf xa]⟩).run Tryd.prog W = .ok (.string ⟨s2.toArray⟩) W := fun W => by rw [← hs2]; exact cat s1 [byteOf xa] (by omega) (by simp) W
            have kk3 : ∀ W, (Op.stringOp .add ⟨s2.toArray⟩ ⟨#[byteOf xb]⟩).run Tryd.prog W = .ok (.string ⟨s3.toArray⟩) W := fun W => by rw [← hs3]; exact cat s2 [byteOf xb] (by omega) (by simp) W
            have HS : Hid (s3 = bq ++ PK.bytes ⟨xk, xa, xb⟩) := by
              show _ = _
              rw [← hs3, ← hs2, ← hs1]
              simp [PK.bytes]
            clear hs1 hs2 hs3 hl1 hl2
            have HPS := Lib.hid (pick_start (w := w) (wr := wr) (g := w.heap.size) hx14 HRg.out)
            have hge : (0 : Int) ≤ k := by omega
            have hlti : (k : Int) < ks.length := by omega
            go_wp2_with fail
            clear hx14
            go_region_held3 (fun W' => W'.cell? ⟨w.heap.size, 14, none⟩ = some (.slice (some ⟨b, off, none⟩) ks.length c2) ∧ W'.cell? ⟨b, off + k * 3, none⟩ = some (.int .i64 xk) ∧ W'.cell? ⟨b, off + k * 3 + 1, none⟩ = some (.int .i64 xa) ∧ W'.cell? ⟨b, off + k * 3 + 2, none⟩ = some (.int .i64 xb) ∧ Below wr.heap.size wr W') (first | exact HPS.out | exact pick_keep (by assumption) hb) ((go_at_call 41; refine (one_walk _ _).mono ?_; rintro e w' ⟨rfl, hb⟩))
            have hd := pick_last (by assumption)
            have R9 := Lib.hid (Q.out.more hd)
            clear hd
            go_wp2
            go_roundw
            case rel => exact ⟨k + 1, s3, by go_num, rfl, by omega, by rw [HS.out]; exact HNX.out.symm, by have := HSL.out; omega, R9.out⟩
            case measure => simp [RowKit.intOf]; omega
          · have hkn : k = ks.length := by omega
            have hlt3 : ¬ (k : Int) < ks.length := by omega
            go_wp2_with fail
            go_ret2
            refine ⟨?_, Q.out.below⟩
            rw [HR.out]
            have : bq = headP c ++ (ps.flatMap textP ++ ks.flatMap PK.bytes) := by
              rw [HBQ.out, HBS2.out, hkn, List.take_length, List.append_assoc]
            rw [this]
            rfl
end Go.Proofs.YtfjeheioglmalaaDoor
