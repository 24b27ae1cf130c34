/- awake of the laws of layer 4. -/
import Derived.Test.YtfjeheioglmalaaDoorRead
import Derived.Test.YtfjeheioglmalaaDoorBytes
import Derived.Test.YtfjeheioglmalaaDoorAwake
import Derived.Test.YtfjeheioglmalaaDoorSame4
namespace Go.Proofs.YtfjeheioglmalaaDoor
open Go.RowKit Go.Lib
set_option linter.unusedVariables false
set_option linter.unusedSimpArgs false
def qCfg : Cfg := ⟨1, 1, 1, 1, 2, 1, 0, 1, 1, 1, 1, 2, 3⟩
def qPS : PS := ⟨qCfg, [[⟨1, 1, 0⟩]], [⟨5, 6, 7⟩]⟩
def qBytes : List UInt8 := [1, 0, 0, 1, 1, 0, 0, 1, 1, 1, 1, 2, 3, 2, 76, 49, 5, 6, 7]
theorem q_print : printP [⟨1, 1, 0⟩] = ([76, 49], 0) := by
  have h : mgo [76, 49] Sc.zero [] = some [⟨1, 1, 0⟩] := by decide +kernel
  have h1 : parseP [76, 49] = ([⟨1, 1, 0⟩], 0) := by rw [parse_some (by decide) (by decide) h]; rfl
  have h2 := (back_parse (s := [76, 49]) (by rw [h1])).2
  rwa [h1] at h2
theorem q_may : qPS.may = true := by decide +kernel
theorem q_head : headP qCfg = [1, 0, 0, 1, 1, 0, 0, 1, 1, 1, 1, 2, 3] := by decide +kernel
theorem q_bytes : bytesP qPS = (qBytes, 0) := by
  unfold bytesP
  rw [if_pos q_may]
  show (headP qCfg ++ ([[⟨1, 1, 0⟩]].flatMap textP ++ [⟨5, 6, 7⟩].flatMap PK.bytes), 0) = _
  rw [q_head]
  simp only [List.flatMap_cons, List.flatMap_nil, textP, q_print]
  rfl
theorem q_read : readP qBytes = (qPS, 0) := by
  have := bytes_read (s := qPS) (by rw [q_bytes])
  rwa [q_bytes] at this
theorem q_short : readP [1] = (noPS, 3) := by
  unfold readP
  rw [if_pos (by decide)]
theorem q_no : bytesP noPS = ([], 1) := by
  have h : noPS.may = false := by decide +kernel
  unfold bytesP
  rw [h]
  rfl
theorem q_fine : qCfg.fine := by
  unfold Cfg.fine qCfg Cfg.nums
  intro n hn
  simp only [List.mem_cons, List.not_mem_nil, or_false] at hn
  rcases hn with rfl | rfl | rfl | rfl | rfl | rfl | rfl | rfl | rfl | rfl | rfl | rfl | rfl <;> decide
theorem no_fine : noPS.c.fine := by
  unfold Cfg.fine noPS Cfg.nums
  intro n hn
  simp only [List.mem_cons, List.not_mem_nil, or_false] at hn
  rcases hn with rfl | rfl | rfl | rfl | rfl | rfl | rfl | rfl | rfl | rfl | rfl | rfl | rfl <;> decide
theorem q_walk (W : World) : Calls Tryd.prog 25 #[.string ⟨#[1, 0, 0, 1, 1, 0, 0, 1, 1, 1, 1, 2, 3, 2, 76, 49, 5, 6, 7]⟩] W fun e w' => ∃ A1 c1 A2 c2, e = .returned (.tuple #[.agg (scells qCfg (.slice A1 1 c1) (.slice A2 1 c2)), .int .i64 0]) ∧ ProgsIn w' A1 [[⟨1, 1, 0⟩]] ∧ PicksIn w' A2 [⟨5, 6, 7⟩] ∧ Below W.heap.size W w' := by
  refine (read_walk qBytes (by decide) W).mono ?_
  rintro e w' ⟨v, he, ⟨A1, c1, A2, c2, hv, hp, hk⟩, hb⟩
  rw [q_read] at he hv hp hk
  subst hv
  exact ⟨A1, c1, A2, c2, he, hp, hk, hb⟩
theorem q_walk1 (W : World) : Calls Tryd.prog 25 #[.string ⟨#[1]⟩] W fun e w' => ∃ A1 c1 A2 c2, e = .returned (.tuple #[.agg (scells noPS.c (.slice A1 0 c1) (.slice A2 0 c2)), .int .i64 3]) ∧ Below W.heap.size W w' := by
  refine (read_walk [1] (by decide) W).mono ?_
  rintro e w' ⟨v, he, ⟨A1, c1, A2, c2, hv, hp, hk⟩, hb⟩
  rw [q_short] at he hv hp hk
  subst hv
  exact ⟨A1, c1, A2, c2, he, hb⟩
theorem qb_walk (A1 A2 : Option Addr) (c1 c2 : Nat) (W : World) (hp : ProgsIn W A1 [[⟨1, 1, 0⟩]]) (hk : PicksIn W A2 [⟨5, 6, 7⟩]) (ht : Tab W) : Calls Tryd.prog 22 #[.agg (scells qCfg (.slice A1 1 c1) (.slice A2 1 c2))] W fun e w' => e = .returned (.tuple #[.string ⟨qBytes.toArray⟩, .int .i64 0]) ∧ Below W.heap.size W w' := by
  refine (bytes_walk qCfg q_fine [[⟨1, 1, 0⟩]] [⟨5, 6, 7⟩] A1 A2 c1 c2 (by decide) (by decide) (by intro l hl; simp at hl; subst hl; decide) W hp hk ht).mono ?_
  rintro e w' ⟨he, hb⟩
  rw [show bytesP ⟨qCfg, [[⟨1, 1, 0⟩]], [⟨5, 6, 7⟩]⟩ = (qBytes, 0) from q_bytes] at he
  exact ⟨he, hb⟩
theorem qn_walk (W : World) (ht : Tab W) : Calls Tryd.prog 22 #[.agg (scells noPS.c (.slice none 0 0) (.slice none 0 0))] W fun e w' => e = .returned (.tuple #[.string ⟨#[]⟩, .int .i64 1]) ∧ Below W.heap.size W w' := by
  refine (bytes_walk noPS.c no_fine [] [] none none 0 0 (by decide) (by decide) (by simp) W (progsIn_nil _ _) (picksIn_nil _ _) ht).mono ?_
  rintro e w' ⟨he, hb⟩
  rw [show bytesP ⟨noPS.c, [], []⟩ = ([], 1) from q_no] at he
  exact ⟨he, hb⟩
set_option maxRecDepth 100000 in
set_option maxHeartbeats 1000000 in
theorem awake4_walk (w : World) (ht : Tab w) : Calls Tryd.prog 20 #[] w fun e w' => e = .returned (.bool true) ∧ Below w.heap.size w w' := by
  have HT := Lib.hid ht
  clear ht
  go_enter Tryd.func20, Tryd.ntmps20
  go_wp2_with fail
  refine (q_walk _).mono ?_
  rintro e w1 ⟨A1, c1, A2, c2, rfl, hp, hk, hb⟩
  have HP1 := Lib.hid hp
  have HK1 := Lib.hid hk
  have HB1 := Lib.hid hb
  clear hp hk hb
  unfold scells qCfg
  go_wp2_with fail
  have HA1 := Lib.hid ((Below.refl w1.heap.size w1).alloc (Nat.le_refl _) (.cells (scells qCfg (.slice A1 1 c1) (.slice A2 1 c2)) 43))
  refine (qb_walk A1 A2 c1 c2 _ (HP1.out.below HA1.out) (HK1.out.below HA1.out) (HT.out.below (HB1.out.trans (HA1.out.mono HB1.out.size)))).mono ?_
  rintro e w2 ⟨rfl, hb⟩
  have HX2 := Lib.hid ((hb.block w1.heap.size (by simp)).trans (heap_alloc_new w1 (.cells (scells qCfg (.slice A1 1 c1) (.slice A2 1 c2)) 43)))
  have HB2 := Lib.hid (HA1.out.trans (hb.mono HA1.out.size))
  clear hb
  unfold qBytes
  go_wp2_with fail
  refine (q_walk1 _).mono ?_
  rintro e w3 ⟨A3, c3, A4, c4, rfl, hb⟩
  have HX3 := Lib.hid ((hb.block w1.heap.size (Array.getElem?_eq_some_iff.1 HX2.out).1).trans HX2.out)
  have HB3 := Lib.hid (HB2.out.trans (hb.mono HB2.out.size))
  clear hb
  unfold scells noPS
  go_wp2_with fail
  have HA3 := Lib.hid ((Below.refl w3.heap.size w3).alloc (Nat.le_refl _) (.cells (scells noPS.c (.slice A3 0 c3) (.slice A4 0 c4)) 43))
  refine (qn_walk _ (HT.out.below ((HB1.out.trans (HB3.out.mono HB1.out.size)).trans (HA3.out.mono (by have := HB1.out.size; have := HB3.out.size; omega))))).mono ?_
  rintro e w4 ⟨rfl, hb⟩
  have hbx := (hb.block w1.heap.size (by have := (Array.getElem?_eq_some_iff.1 HX3.out).1; simp; omega)).trans ((HA3.out.block w1.heap.size (Array.getElem?_eq_some_iff.1 HX3.out).1).trans HX3.out)
  have HB4 := Lib.hid (HB3.out.trans ((HA3.out.trans (hb.mono HA3.out.size)).mono HB3.out.size))
  obtain ⟨b, off, B, cc, hA, _, hcell, hops⟩ := (HP1.out.below HB4.out) 0 _ rfl
  obtain ⟨b2, off2, hB, _, har⟩ := hops 0 _ rfl
  obtain ⟨b3, off3, hA2, _, har3⟩ := (HK1.out.below HB4.out) 0 _ rfl
  subst hA hB hA2
  have z4 : w4.cell? ⟨w1.heap.size, 4, none⟩ = some (.int .i64 2) := box_cell hbx 4 rfl
  have z10 : w4.cell? ⟨w1.heap.size, 10, none⟩ = some (.int .i64 1) := box_cell hbx 10 rfl
  have z11 : w4.cell? ⟨w1.heap.size, 11, none⟩ = some (.int .i64 2) := box_cell hbx 11 rfl
  have z12 : w4.cell? ⟨w1.heap.size, 12, none⟩ = some (.int .i64 3) := box_cell hbx 12 rfl
  have z13 : w4.cell? ⟨w1.heap.size, 13, none⟩ = some (.slice (some ⟨b, off, none⟩) 1 c1) := box_cell hbx 13 rfl
  have z14 : w4.cell? ⟨w1.heap.size, 14, none⟩ = some (.slice (some ⟨b3, off3, none⟩) 1 c2) := box_cell hbx 14 rfl
  have y0 : w4.cell? ⟨b, off, none⟩ = some (.slice (some ⟨b2, off2, none⟩) 1 cc) := hcell
  have x0 : w4.cell? ⟨b2, off2, none⟩ = some (.int .i64 1) := har 0 _ rfl
  have x1 : w4.cell? ⟨b2, off2 + 1, none⟩ = some (.int .i64 1) := har 1 _ rfl
  have x2 : w4.cell? ⟨b2, off2 + 2, none⟩ = some (.int .i64 0) := har 2 _ rfl
  have u0 : w4.cell? ⟨b3, off3, none⟩ = some (.int .i64 5) := har3 0 _ rfl
  have u1 : w4.cell? ⟨b3, off3 + 1, none⟩ = some (.int .i64 6) := har3 1 _ rfl
  have u2 : w4.cell? ⟨b3, off3 + 2, none⟩ = some (.int .i64 7) := har3 2 _ rfl
  clear hb hbx hcell hops har har3
  have hq : ∀ W, (Op.equalIn 10000 29 (.agg #[.int .i64 1, .int .i64 2, .int .i64 3]) (.agg #[.int .i64 1, .int .i64 2, .int .i64 3])).run Tryd.prog W = .ok true W := fun W => equal_three 9998 1 2 3 W
  go_wp2_with fail
  go_ret
  exact ⟨rfl, HB1.out.trans (HB4.out.mono HB1.out.size)⟩
end Go.Proofs.YtfjeheioglmalaaDoor
