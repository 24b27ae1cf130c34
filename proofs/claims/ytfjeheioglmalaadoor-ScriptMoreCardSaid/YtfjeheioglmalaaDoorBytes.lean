/- Bytes: a script's bytes. -/
import Derived.Test.YtfjeheioglmalaaDoorMays4
import Derived.Lib.AppendStr
import Derived.StillTailTactics
namespace Go.Proofs.YtfjeheioglmalaaDoor
open Go.RowKit Go.Lib
set_option linter.unusedVariables false
set_option linter.unusedSimpArgs false
def BytesPost (s : PS) (w : World) (e : Ending) (w' : World) : Prop := e = .returned (.tuple #[.string ⟨(bytesP s).1.toArray⟩, .int .i64 (bytesP s).2]) ∧ Below w.heap.size w w'
theorem bit_same (n : Int) (h : isPow n = true) (w : World) : Calls Tryd.prog 38 #[.int .i64 n] w fun e w' => e = .returned (.int .u8 (byteOf (lg n)).toNat) ∧ w' = w :=
  (bit_walk n h w).mono fun _ _ ⟨a, b⟩ => ⟨a, b.symm⟩
structure BRel (c : Cfg) (sp kp : Value) (w wr : World) (bs : List UInt8) (v : Value) : Prop where
  own : wr.ownsRow (w.heap.size + 1) 5 1 v bs.length (byteCells bs)
  box : wr.heap[w.heap.size]? = some (.cells (scells c sp kp) 43 (0, 0))
  below : Below w.heap.size w wr
  size : w.heap.size + 1 ≤ wr.heap.size
theorem BRel.more {c : Cfg} {sp kp v : Value} {w wr w' : World} {bs : List UInt8} (R : BRel c sp kp w wr bs v) (h : Below wr.heap.size wr w') : BRel c sp kp w w' bs v :=
  ⟨ownsRow_kept R.own h, (h.block _ (Array.getElem?_eq_some_iff.1 R.box).1).trans R.box, R.below.trans (h.mono R.below.size), Nat.le_trans R.size h.size⟩
theorem byteCells_append (a b : List UInt8) : byteCells (a ++ b) = byteCells a ++ byteCells b := by simp [byteCells]
theorem byteCells_len (a : List UInt8) : (byteCells a).length = a.length := by simp [byteCells]
theorem BRel.push {c : Cfg} {sp kp v v' : Value} {w wr w' : World} {bs news : List UInt8} {n : Nat} (R : BRel c sp kp w wr bs v) (h : wr.grownBy w' v.ownBlock) (ho : w'.ownsRow (w.heap.size + 1) 5 1 v' n (byteCells bs ++ byteCells news)) : BRel c sp kp w w' (bs ++ news) v' := by
  have hn : n = (bs ++ news).length := by
    have := ho.1
    rw [← byteCells_append, byteCells_len] at this
    omega
  subst hn
  exact ⟨by rw [byteCells_append]; exact ho, grown_block h R.box (fun e => by have := (R.own.lt _ e.symm).1; omega), R.below.grown h R.below.size (fun k e => by have := (R.own.lt k e).1; omega), Nat.le_trans R.size h.size⟩
theorem head_cells {c : Cfg} (h : c.ok = true) : byteCells (headP c) = [.int .u8 c.cores, .int .u8 (byteOf (lg c.homes)).toNat, .int .u8 (byteOf (lg c.sets)).toNat, .int .u8 c.ways, .int .u8 (byteOf (lg c.words)).toNat, .int .u8 (byteOf (lg c.lines)).toNat, .int .u8 c.pointers, .int .u8 c.mshrs, .int .u8 c.buffer, .int .u8 c.writebacks, .int .u8 c.r0, .int .u8 c.r1, .int .u8 c.r2] := by
  obtain ⟨⟨a0, a1⟩, b1, b2, b3, b4, ⟨c0, c1⟩, ⟨d0, d1⟩, ⟨e0, e1⟩, ⟨f0, f1⟩, ⟨g0, g1⟩, ⟨h0, h1⟩, ⟨i0, i1⟩, j0, j1⟩ := ok_all h
  unfold byteCells headP
  simp only [List.map_cons, List.map_nil]
  rw [byteOf_in (by omega) (by omega), byteOf_in c0 c1, byteOf_in d0 d1, byteOf_in e0 e1, byteOf_in f0 f1, byteOf_in g0 g1, byteOf_in h0 h1, byteOf_in i0 i1, byteOf_in j0 j1]
theorem cells_two_new (w : World) (x y : Value) (t : TypeId) : ∀ j u, [x, y][j]? = some u → (w.alloc (.cells #[x, y] t)).cell? ((⟨w.heap.size, 0, none⟩ : Addr).add j) = some u := by
  intro j u hu
  rw [Addr.add_mid, Nat.zero_add, cell_of_row _ w.heap.size j #[x, y] t _ (heap_alloc_new w _)]
  simpa using hu
theorem cells_three_new (w : World) (x y z : Value) (t : TypeId) : ∀ j u, [x, y, z][j]? = some u → (w.alloc (.cells #[x, y, z] t)).cell? ((⟨w.heap.size, 0, none⟩ : Addr).add j) = some u := by
  intro j u hu
  rw [Addr.add_mid, Nat.zero_add, cell_of_row _ w.heap.size j #[x, y, z] t _ (heap_alloc_new w _)]
  simpa using hu
theorem lead_two {n : Nat} (h : n < 16000) (h1 : 128 ≤ n) : [Value.int .u8 ((n : Int) / 128 + 128), Value.int .u8 ((n : Int) % 128)] = byteCells (leadP n) := by
  unfold leadP byteCells
  rw [if_neg (by omega)]
  simp only [List.map_cons, List.map_nil]
  have e1 : ((UInt8.ofNat (n / 128 + 128)).toNat : Int) = (n : Int) / 128 + 128 := by rw [UInt8.toNat_ofNat']; omega
  have e2 : ((UInt8.ofNat (n % 128)).toNat : Int) = (n : Int) % 128 := by rw [UInt8.toNat_ofNat']; omega
  rw [e1, e2]
theorem lead_one {n : Nat} (h : n < 128) : [Value.int .u8 (n : Int)] = byteCells (leadP n) := by
  unfold leadP byteCells
  rw [if_pos h]
  simp only [List.map_cons, List.map_nil]
  have e1 : ((UInt8.ofNat n).toNat : Int) = (n : Int) := by rw [UInt8.toNat_ofNat']; omega
  rw [e1]
theorem leadP_len (n : Nat) : (leadP n).length ≤ 2 := by unfold leadP; split <;> simp
theorem three_bytes {k a b : Int} (h0 : 0 ≤ k) (h1 : k ≤ 255) (h2 : 0 ≤ a) (h3 : a ≤ 255) (h4 : 0 ≤ b) (h5 : b ≤ 255) : [Value.int .u8 k, Value.int .u8 a, Value.int .u8 b] = byteCells (PK.bytes ⟨k, a, b⟩) := by
  unfold byteCells PK.bytes
  simp only [List.map_cons, List.map_nil]
  rw [byteOf_in h0 h1, byteOf_in h2 h3, byteOf_in h4 h5]
theorem Tryd.info5 : (Tryd.prog.info? 5).map (fun i => (i.zero, i.size, i.bytes)) = some (some (.int .u8 0), 1, 1) := by kernel_rfl
theorem brel_start {c : Cfg} {sp kp : Value} {w w4 W : World} (hok : c.ok = true) (h0 : Below w.heap.size w w4) (hs : w.heap.size + 1 ≤ w4.heap.size) (hbx : w4.heap[w.heap.size]? = some (.cells (scells c sp kp) 43 (0, 0))) (hW : Below w4.heap.size w4 W) :
    BRel c sp kp w (W.alloc (.cells #[.int .u8 c.cores, .int .u8 (byteOf (lg c.homes)).toNat, .int .u8 (byteOf (lg c.sets)).toNat, .int .u8 c.ways, .int .u8 (byteOf (lg c.words)).toNat, .int .u8 (byteOf (lg c.lines)).toNat, .int .u8 c.pointers, .int .u8 c.mshrs, .int .u8 c.buffer, .int .u8 c.writebacks, .int .u8 c.r0, .int .u8 c.r1, .int .u8 c.r2] 5)).drew (headP c) (.slice (some ⟨W.heap.size, 0, none⟩) 13 13) := by
  have s4 := hW.size
  have hnew := heap_alloc_new W (.cells #[.int .u8 c.cores, .int .u8 (byteOf (lg c.homes)).toNat, .int .u8 (byteOf (lg c.sets)).toNat, .int .u8 c.ways, .int .u8 (byteOf (lg c.words)).toNat, .int .u8 (byteOf (lg c.lines)).toNat, .int .u8 c.pointers, .int .u8 c.mshrs, .int .u8 c.buffer, .int .u8 c.writebacks, .int .u8 c.r0, .int .u8 c.r1, .int .u8 c.r2] 5)
  have hb := (h0.trans (hW.mono (by omega))).alloc (by omega) (.cells #[.int .u8 c.cores, .int .u8 (byteOf (lg c.homes)).toNat, .int .u8 (byteOf (lg c.sets)).toNat, .int .u8 c.ways, .int .u8 (byteOf (lg c.words)).toNat, .int .u8 (byteOf (lg c.lines)).toNat, .int .u8 c.pointers, .int .u8 c.mshrs, .int .u8 c.buffer, .int .u8 c.writebacks, .int .u8 c.r0, .int .u8 c.r1, .int .u8 c.r2] 5)
  exact {
    own := ⟨by rw [byteCells_len]; rfl, .inr ⟨W.heap.size, 13, _, rfl, by omega, hnew, Nat.le_of_eq (head_len c), by decide, rfl, by rw [head_cells hok]; rfl⟩⟩
    box := (Below.heap_alloc W _ w.heap.size (by omega)).trans ((hW.block _ (by omega)).trans hbx)
    below := ⟨hb.os, hb.tape, hb.output, hb.size, hb.block⟩
    size := by have : W.heap.size + 1 = ((W.alloc (.cells #[.int .u8 c.cores, .int .u8 (byteOf (lg c.homes)).toNat, .int .u8 (byteOf (lg c.sets)).toNat, .int .u8 c.ways, .int .u8 (byteOf (lg c.words)).toNat, .int .u8 (byteOf (lg c.lines)).toNat, .int .u8 c.pointers, .int .u8 c.mshrs, .int .u8 c.buffer, .int .u8 c.writebacks, .int .u8 c.r0, .int .u8 c.r1, .int .u8 c.r2] 5)).drew).heap.size := by simp [World.drew]
               omega }
set_option maxRecDepth 100000 in
set_option maxHeartbeats 1000000 in
theorem bytes_walk (c : Cfg) (hfine : c.fine) (ps : List (List PO)) (ks : List PK) (A1 A2 : Option Addr) (c1 c2 : Nat) (h1 : ps.length ≤ 9223372036854775807) (h2 : ks.length ≤ 3000) (hlen : ∀ l ∈ ps, l.length ≤ 9223372036854775807) (w : World) (hp : ProgsIn w A1 ps) (hk : PicksIn w A2 ks) (ht : Tab w) :
    Calls Tryd.prog 22 #[.agg (scells c (.slice A1 ps.length c1) (.slice A2 ks.length c2))] w (BytesPost ⟨c, ps, ks⟩ w) := by
  have HP := Lib.hid hp
  have HK := Lib.hid hk
  have HT := Lib.hid ht
  clear hp hk ht
  have HB0 := Lib.hid ((Below.refl w.heap.size w).alloc (Nat.le_refl _) (.cells (scells c (.slice A1 ps.length c1) (.slice A2 ks.length c2)) 43))
  have HBa := Lib.hid ((Below.refl w.heap.size w).alloc (Nat.le_refl _) (.cells (scells c (.slice A1 ps.length c1) (.slice A2 ks.length c2)) 43))
  have HM := Lib.hid (fun W (hb : Below w.heap.size w W) => may4_walk c hfine ps ks A1 A2 c1 c2 h1 h2 hlen W (HP.out.below hb) (HK.out.below hb))
  have HW := Lib.hid (heap_alloc_new w (.cells (scells c (.slice A1 ps.length c1) (.slice A2 ks.length c2)) 43))
  unfold scells
  cases hm : PS.may ⟨c, ps, ks⟩
  · have HR : Hid (bytesP ⟨c, ps, ks⟩ = ([], 1)) := by
      show _ = _
      unfold bytesP
      rw [hm]
      rfl
    have HF := Lib.hid hm
    clear hm
    go_enter Tryd.func22, Tryd.ntmps22
    go_wp2_with fail
    refine (HM.out _ HBa.out).mono ?_
    rintro e w4 ⟨rfl, hb⟩
    rw [HF.out]
    have HB4 := Lib.hid hb
    clear hb
    go_wp2_with fail
    go_ret2
    exact ⟨by rw [HR.out]; rfl, HB0.out.trans (HB4.out.mono HB0.out.size)⟩
  · have HR : Hid (bytesP ⟨c, ps, ks⟩ = (headP c ++ (ps.flatMap textP ++ ks.flatMap PK.bytes), 0)) := by
      show _ = _
      unfold bytesP
      rw [hm]
      rfl
    have HPT := Lib.hid (may_parts hm)
    have HF := Lib.hid hm
    clear hm
    go_enter Tryd.func22, Tryd.ntmps22
    go_wp2_with fail
    refine (HM.out _ HBa.out).mono ?_
    rintro e w4 ⟨rfl, hb⟩
    rw [HF.out]
    have HB4 := Lib.hid hb
    have hbx := (hb.block w.heap.size (by simp)).trans HW.out
    have HBX := Lib.hid hbx
    have y0 : w4.cell? ⟨w.heap.size, 0, none⟩ = some (.int .i64 c.cores) := box_cell hbx 0 rfl
    have y1 : w4.cell? ⟨w.heap.size, 1, none⟩ = some (.int .i64 c.homes) := box_cell hbx 1 rfl
    have y2 : w4.cell? ⟨w.heap.size, 2, none⟩ = some (.int .i64 c.sets) := box_cell hbx 2 rfl
    have y3 : w4.cell? ⟨w.heap.size, 3, none⟩ = some (.int .i64 c.ways) := box_cell hbx 3 rfl
    have y4 : w4.cell? ⟨w.heap.size, 4, none⟩ = some (.int .i64 c.words) := box_cell hbx 4 rfl
    have y5 : w4.cell? ⟨w.heap.size, 5, none⟩ = some (.int .i64 c.lines) := box_cell hbx 5 rfl
    have y6 : w4.cell? ⟨w.heap.size, 6, none⟩ = some (.int .i64 c.pointers) := box_cell hbx 6 rfl
    have y7 : w4.cell? ⟨w.heap.size, 7, none⟩ = some (.int .i64 c.mshrs) := box_cell hbx 7 rfl
    have y8 : w4.cell? ⟨w.heap.size, 8, none⟩ = some (.int .i64 c.buffer) := box_cell hbx 8 rfl
    have y9 : w4.cell? ⟨w.heap.size, 9, none⟩ = some (.int .i64 c.writebacks) := box_cell hbx 9 rfl
    have y10 : w4.cell? ⟨w.heap.size, 10, none⟩ = some (.int .i64 c.r0) := box_cell hbx 10 rfl
    have y11 : w4.cell? ⟨w.heap.size, 11, none⟩ = some (.int .i64 c.r1) := box_cell hbx 11 rfl
    have y12 : w4.cell? ⟨w.heap.size, 12, none⟩ = some (.int .i64 c.r2) := box_cell hbx 12 rfl
    clear hb hbx
    go_wp2_with fail
    obtain ⟨W, hW, hWB, hWN⟩ : ∃ W, w4.alloc (.cells #[.int .i64 c.cores, .int .i64 c.homes, .int .i64 c.sets, .int .i64 c.ways, .int .i64 c.words, .int .i64 c.lines, .int .i64 c.pointers, .int .i64 c.mshrs, .int .i64 c.buffer, .int .i64 c.writebacks, .int .i64 c.r0, .int .i64 c.r1, .int .i64 c.r2] 31) = W ∧ Below w4.heap.size w4 W ∧ W.heap[w4.heap.size]? = some (.cells #[.int .i64 c.cores, .int .i64 c.homes, .int .i64 c.sets, .int .i64 c.ways, .int .i64 c.words, .int .i64 c.lines, .int .i64 c.pointers, .int .i64 c.mshrs, .int .i64 c.buffer, .int .i64 c.writebacks, .int .i64 c.r0, .int .i64 c.r1, .int .i64 c.r2] 31 (0, 0)) :=
      ⟨_, rfl, (Below.refl _ _).alloc (Nat.le_refl _) _, heap_alloc_new w4 _⟩
    rw [hW]
    clear hW y0 y1 y2 y3 y4 y5 y6 y7 y8 y9 y10 y11 y12
    have y0 : W.cell? ⟨w4.heap.size, 0, none⟩ = some (.int .i64 c.cores) := box_cell hWN 0 rfl
    have y1 : W.cell? ⟨w4.heap.size, 1, none⟩ = some (.int .i64 c.homes) := box_cell hWN 1 rfl
    have y2 : W.cell? ⟨w4.heap.size, 2, none⟩ = some (.int .i64 c.sets) := box_cell hWN 2 rfl
    have y3 : W.cell? ⟨w4.heap.size, 3, none⟩ = some (.int .i64 c.ways) := box_cell hWN 3 rfl
    have y4 : W.cell? ⟨w4.heap.size, 4, none⟩ = some (.int .i64 c.words) := box_cell hWN 4 rfl
    have y5 : W.cell? ⟨w4.heap.size, 5, none⟩ = some (.int .i64 c.lines) := box_cell hWN 5 rfl
    have y6 : W.cell? ⟨w4.heap.size, 6, none⟩ = some (.int .i64 c.pointers) := box_cell hWN 6 rfl
    have y7 : W.cell? ⟨w4.heap.size, 7, none⟩ = some (.int .i64 c.mshrs) := box_cell hWN 7 rfl
    have y8 : W.cell? ⟨w4.heap.size, 8, none⟩ = some (.int .i64 c.buffer) := box_cell hWN 8 rfl
    have y9 : W.cell? ⟨w4.heap.size, 9, none⟩ = some (.int .i64 c.writebacks) := box_cell hWN 9 rfl
    have y10 : W.cell? ⟨w4.heap.size, 10, none⟩ = some (.int .i64 c.r0) := box_cell hWN 10 rfl
    have y11 : W.cell? ⟨w4.heap.size, 11, none⟩ = some (.int .i64 c.r1) := box_cell hWN 11 rfl
    have y12 : W.cell? ⟨w4.heap.size, 12, none⟩ = some (.int .i64 c.r2) := box_cell hWN 12 rfl
    have HWB := Lib.hid hWB
    clear hWB hWN
    obtain ⟨q0, p1, p2, p3, p4, q3, q6, q7, q8, q9, qa, qb, qc⟩ := ok_all HPT.out.1
    refine wp_region_still_tail 46 (by kernel_rfl) (by kernel_rfl) ?_
    simp only [List.take_succ_cons, List.take_zero, List.drop_succ_cons, List.drop_zero]
    repeat still_step
    still_call (bit_same _ p1 _)
    repeat still_step
    still_call (bit_same _ p2 _)
    repeat still_step
    still_call (bit_same _ p3 _)
    repeat still_step
    still_call (bit_same _ p4 _)
    repeat still_step
    refine wpStill_nil ?_
    clear p1 p2 p3 p4 y0 y1 y2 y3 y4 y5 y6 y7 y8 y9 y10 y11 y12
    have HST := Lib.hid (brel_start (sp := .slice A1 ps.length c1) (kp := .slice A2 ks.length c2) HPT.out.1 (HBa.out.trans (HB4.out.mono (by simp))) (by have := HB4.out.size; simpa using this) HBX.out HWB.out)
    have hx13 : _ = some (Value.slice A1 ps.length c1) := box_cell HST.out.box 13 rfl
    go_wp2_with fail
    simp only [IntWalk.u8_in c.cores (by omega), IntWalk.u8_in c.ways q3, IntWalk.u8_in c.pointers q6, IntWalk.u8_in c.mshrs q7, IntWalk.u8_in c.buffer q8, IntWalk.u8_in c.writebacks q9, IntWalk.u8_in c.r0 qa, IntWalk.u8_in c.r1 qb, IntWalk.u8_in c.r2 qc]
    have HOK := Lib.hid (ok_all HPT.out.1).1
    clear q0 q3 q6 q7 q8 q9 qa qb qc
    have HPN := Lib.hid HPT.out.2.1
    obtain ⟨i0, hi0, hz0, hz1, hz2⟩ := info_parts Tryd.info5
    have HI0 := Lib.hid hi0
    have HZ0 := Lib.hid hz0
    have HZ1 := Lib.hid hz1
    have HZ2 := Lib.hid hz2
    clear hi0 hz0 hz1 hz2 hx13
    go_loopw [6, 69] (fun bv i wr => ∃ (k : Nat) (bs : List UInt8), i = .int .i64 k ∧ k ≤ ps.length ∧ bs = headP c ++ (ps.take k).flatMap textP ∧ bs.length ≤ 13 + k * 16002 ∧ BRel c (.slice A1 ps.length c1) (.slice A2 ks.length c2) w wr bs bv) (fun _ i _ => ps.length - (RowKit.intOf i).toNat)
    case atStart => exact ⟨0, headP c, rfl, by omega, by simp, by simp [head_len], HST.out⟩
    case round =>
      obtain ⟨k, bs, rfl, hk, hbs, hbl, hR⟩ := hrel
      have R := Lib.hid hR
      have HBS := Lib.hid hbs
      have hps : ps.length ≤ 64 := by have := HOK.out; have := HPN.out; omega
      clear hR hbs
      by_cases hlt : k < ps.length
      · obtain ⟨l, hl⟩ : ∃ l, ps[k]? = some l := ⟨_, List.getElem?_eq_getElem hlt⟩
        obtain ⟨b, off, B, cc, hA, _, hcell, hops⟩ := (HP.out.below R.out.below) k l hl
        subst hA
        have HOP := Lib.hid hops
        have HL := Lib.hid hl
        have hfit := HPT.out.2.2.1 l (List.mem_of_getElem? hl)
        have HLM := Lib.hid (fits_may hfit).1
        obtain ⟨hpl, hpn⟩ := fits_print hfit
        obtain ⟨t, ht⟩ : ∃ t, allP l = t := ⟨_, rfl⟩
        rw [ht] at hpl hpn
        have HPL := Lib.hid hpl
        have HTL : Hid (headP c ++ (ps.take (k + 1)).flatMap textP = bs ++ (leadP t.length ++ t)) := by
          show _ = _
          rw [List.take_add_one, HL.out, HBS.out]
          simp [textP, hpl]
        clear hl hops hfit hpl ht
        go_wp2_with fail
        refine (print_walk l B cc (by have := HLM.out; omega) _ HOP.out (HT.out.below R.out.below)).mono ?_
        rintro e w5 ⟨rfl, hb5⟩
        rw [HPL.out]
        dsimp only
        have R5 := Lib.hid (R.out.more hb5)
        have HS5 := Lib.hid R5.out.size
        clear hb5 hcell
        have htsz : (ByteArray.mk t.toArray).size = t.length := by simp [ByteArray.size]
        by_cases h128 : 128 ≤ t.length
        · have h128' : (128 : Int) ≤ t.length := by omega
          go_wp2_with (at_builtin; go_must (refine wpList_append_own _ rfl _ _ 57 rfl (w.heap.size + 1) 5 i0 (.int .u8 0) 1 1 Tryd.underlying57 HI0.out HZ0.out HZ1.out HZ2.out rfl (by decide) _ bs.length (byteCells bs) rfl (World.ownsRow.alloc R5.out.own _) ⟨w5.heap.size, 0, none⟩ 2 2 [_, _] rfl rfl (cells_two_new _ _ _ _) (by simp [Value.oneCell']) (by simp only [maxLen]; omega) (by omega) (by have := HS5.out; simp; omega) ?_))
          intro v6 w6 hown6 hgrow6 _
          rw [lead_two hpn h128] at hown6
          have R6 := Lib.hid ((R5.out.more ((Below.refl _ _).alloc (Nat.le_refl _) _)).push hgrow6 hown6)
          have HS6 := Lib.hid R6.out.size
          have hll := leadP_len t.length
          have HLL := Lib.hid hll
          clear hown6 hgrow6 hll
          go_wp2_with (at_builtin; go_must (refine wpList_append_own_string _ rfl _ _ 57 9 rfl (w.heap.size + 1) 5 i0 Tryd.underlying57 Tryd.underlying9 HI0.out HZ0.out HZ1.out HZ2.out v6 (bs ++ leadP t.length).length (byteCells (bs ++ leadP t.length)) rfl R6.out.own ⟨t.toArray⟩ rfl (by have := HLL.out; rw [htsz]; simp only [maxLen, List.length_append]; omega) (by have := HLL.out; rw [htsz, List.length_append]; omega) (by have := HS6.out; omega) ?_))
          intro v7 w7 hown7 hgrow7 _
          rw [Lib.strCells_toArray] at hown7
          have R7 := R6.out.push hgrow7 hown7
          rw [List.append_assoc] at R7
          have HR7 := Lib.hid R7
          clear hown7 hgrow7 R7
          go_wp2
          go_roundw
          case rel => exact ⟨k + 1, bs ++ (leadP t.length ++ t), by go_num, by omega, HTL.out.symm, by have := HLL.out; simp only [List.length_append]; omega, HR7.out⟩
          case measure => simp [RowKit.intOf]; omega
        · have h128' : ¬ (128 : Int) ≤ t.length := by omega
          go_wp2_with (at_builtin; go_must (refine wpList_append_own _ rfl _ _ 57 rfl (w.heap.size + 1) 5 i0 (.int .u8 0) 1 1 Tryd.underlying57 HI0.out HZ0.out HZ1.out HZ2.out rfl (by decide) _ bs.length (byteCells bs) rfl (World.ownsRow.alloc R5.out.own _) ⟨w5.heap.size, 0, none⟩ 1 1 [_] rfl rfl (cell_one_new _ _ _) (by simp [Value.oneCell']) (by simp only [maxLen]; omega) (by omega) (by have := HS5.out; simp; omega) ?_))
          intro v6 w6 hown6 hgrow6 _
          rw [lead_one (show t.length < 128 by omega)] at hown6
          have R6 := Lib.hid ((R5.out.more ((Below.refl _ _).alloc (Nat.le_refl _) _)).push hgrow6 hown6)
          have HS6 := Lib.hid R6.out.size
          have hll := leadP_len t.length
          have HLL := Lib.hid hll
          clear hown6 hgrow6 hll
          go_wp2_with (at_builtin; go_must (refine wpList_append_own_string _ rfl _ _ 57 9 rfl (w.heap.size + 1) 5 i0 Tryd.underlying57 Tryd.underlying9 HI0.out HZ0.out HZ1.out HZ2.out v6 (bs ++ leadP t.length).length (byteCells (bs ++ leadP t.length)) rfl R6.out.own ⟨t.toArray⟩ rfl (by have := HLL.out; rw [htsz]; simp only [maxLen, List.length_append]; omega) (by have := HLL.out; rw [htsz, List.length_append]; omega) (by have := HS6.out; omega) ?_))
          intro v7 w7 hown7 hgrow7 _
          rw [Lib.strCells_toArray] at hown7
          have R7 := R6.out.push hgrow7 hown7
          rw [List.append_assoc] at R7
          have HR7 := Lib.hid R7
          clear hown7 hgrow7 R7
          go_wp2
          go_roundw
          case rel => exact ⟨k + 1, bs ++ (leadP t.length ++ t), by go_num, by omega, HTL.out.symm, by have := HLL.out; simp only [List.length_append]; omega, HR7.out⟩
          case measure => simp [RowKit.intOf]; omega
      · have hkn : k = ps.length := by omega
        subst hkn
        have HBS2 : Hid (bs = headP c ++ ps.flatMap textP) := by
          show _ = _
          rw [HBS.out, List.take_length]
        have hx14 : wr.cell? ⟨w.heap.size, 14, none⟩ = some (.slice A2 ks.length c2) := box_cell R.out.box 14 rfl
        have hlt' : ¬ (ps.length : Int) < ps.length := by omega
        have RL := Lib.hid R
        go_wp2_with fail
        go_loopw [6, 104] (fun bv i wq => ∃ (k : Nat) (bq : List UInt8), i = .int .i64 k ∧ k ≤ ks.length ∧ bq = bs ++ (ks.take k).flatMap PK.bytes ∧ bq.length ≤ 1100000 + k * 3 ∧ BRel c (.slice A1 ps.length c1) (.slice A2 ks.length c2) w wq bq bv) (fun _ i _ => ks.length - (RowKit.intOf i).toNat)
        case atStart => exact ⟨0, bs, rfl, by omega, by simp, by omega, R.out⟩
        case round =>
          obtain ⟨k, bq, rfl, hk2, hbq, hbl2, hQ⟩ := hrel
          have Q := Lib.hid hQ
          have HBQ := Lib.hid hbq
          clear hQ hbq hx14
          by_cases hlt2 : k < ks.length
          · obtain ⟨x, hx⟩ : ∃ x, ks[k]? = some x := ⟨_, List.getElem?_eq_getElem hlt2⟩
            obtain ⟨b, off, hA, _, har⟩ := (HK.out.below Q.out.below) k x hx
            subst hA
            have HRg := Lib.hid har
            have HX := Lib.hid hx
            have hmay := HPT.out.2.2.2 x (List.mem_of_getElem? hx)
            have hnx : bs ++ (ks.take (k + 1)).flatMap PK.bytes = bq ++ x.bytes := by
              rw [List.take_add_one, hx, HBQ.out]
              simp
            have HNX := Lib.hid hnx
            clear har hx hnx
            obtain ⟨xk, xa, xb⟩ := x
            have hm6 : 0 ≤ xk ∧ xk ≤ 255 ∧ 0 ≤ xa ∧ xa ≤ 255 ∧ 0 ≤ xb ∧ xb ≤ 255 := by
              have := of_decide_eq_true hmay
              exact this
            obtain ⟨g0, g1, g2, g3, g4, g5⟩ := hm6
            clear hmay
            go_wp2_with (first | (refine wpList_load_mid rfl 59 (.tmp 106) rfl b (off + k * 3) rfl (PK.arr ⟨xk, xa, xb⟩).toList _ HRg.out Tryd.underlying59 rfl Tryd.size59 ?_) | (refine wpList_store_new rfl 59 (.tmp 13) _ rfl wr.heap.size (PK.arr ⟨xk, xa, xb⟩) rfl rfl 59 _ (heap_alloc_new wr _) Tryd.size59 rfl (PK.one _) wr.heap.size (Nat.le_refl _) ?_; intro w6 hx6 hb6; have HX6 := Lib.hid hx6; have HB6 := Lib.hid (((Below.refl wr.heap.size wr).alloc (Nat.le_refl _) _).trans hb6); clear hx6 hb6; generalize hG : wpList _ _ _ _ _ _ = G; have HG := Lib.hid hG; clear hG))
            obtain ⟨z0, z1, z2⟩ := (box_three (a := xk) (b := xa) (c := xb) HX6.out).1
            have Q6 := Lib.hid (Q.out.more HB6.out)
            have HS6 := Lib.hid Q6.out.size
            rw [← HG.out]
            clear HG
            go_wp2_with (at_builtin; go_must (refine wpList_append_own _ rfl _ _ 57 rfl (w.heap.size + 1) 5 i0 (.int .u8 0) 1 1 Tryd.underlying57 HI0.out HZ0.out HZ1.out HZ2.out rfl (by decide) _ bq.length (byteCells bq) rfl (World.ownsRow.alloc Q6.out.own _) ⟨w6.heap.size, 0, none⟩ 3 3 [_, _, _] rfl rfl (cells_three_new _ _ _ _ _) (by simp [Value.oneCell']) (by simp only [maxLen]; omega) (by omega) (by have := HS6.out; simp; omega) ?_))
            intro v7 w7 hown7 hgrow7 _
            rw [three_bytes g0 g1 g2 g3 g4 g5] at hown7
            have Q7 := Lib.hid ((Q6.out.more ((Below.refl _ _).alloc (Nat.le_refl _) _)).push hgrow7 hown7)
            clear hown7 hgrow7
            go_wp2
            go_roundw
            case rel => exact ⟨k + 1, bq ++ PK.bytes ⟨xk, xa, xb⟩, by go_num, by omega, HNX.out.symm, by simp [PK.bytes]; omega, Q7.out⟩
            case measure => simp [RowKit.intOf]; omega
          · have hkn : k = ks.length := by omega
            have hlt3 : ¬ (k : Int) < ks.length := by omega
            obtain ⟨A9, c9, rfl⟩ := own_form Q.out.own
            have hbsl : 0 < bq.length := by
              rw [HBQ.out, HBS2.out]
              simp only [List.length_append, head_len]
              omega
            obtain ⟨a9, rfl⟩ : ∃ a, A9 = some a := by
              rcases Q.out.own.2 with ⟨_, h0⟩ | ⟨g, cap, cur, h, _⟩
              · omega
              · injection h with h _ _; exact ⟨_, h⟩
            have hcv : (convert 57 9 (.slice (some a9) bq.length c9)).run Tryd.prog wr = .ok (.string ⟨bq.toArray⟩) wr := by
              refine run_convert_bytes_back wr 57 9 5 a9 c9 bq Tryd.underlying57 Tryd.underlying5 Tryd.underlying9 fun j hj => ?_
              rcases Q.out.own.2 with ⟨h0, _⟩ | ⟨g, cap, cur, h, _⟩
              · injection h0 with h0; cases h0
              · injection h with h _ _
                injection h with h
                subst h
                refine Q.out.own.cells (g := g) rfl j _ ?_
                simp [byteCells, hj]
            go_wp2_with fail
            go_ret2
            refine ⟨?_, Q.out.below⟩
            rw [HR.out]
            have : bq = headP c ++ (ps.flatMap textP ++ ks.flatMap PK.bytes) := by
              rw [HBQ.out, HBS2.out, hkn, List.take_length, List.append_assoc]
            rw [this]
            rfl
end Go.Proofs.YtfjeheioglmalaaDoor
