/- The program's Parse: what it gives is new. What Read has made so far, in memory. -/
import Derived.Test.YtfjeheioglmalaaDoorParse
import Derived.Test.YtfjeheioglmalaaDoorTexts4
import Derived.Test.YtfjeheioglmalaaDoorMem4
namespace Go.Proofs.YtfjeheioglmalaaDoor
/-- The operations of a slice that was made since a world with B blocks. -/
def OpsNew (B : Nat) (w : World) (A : Option Addr) (l : List PO) : Prop := OpsIn w A l ∧ ∀ a, A = some a → B ≤ a.block ∧ a.block < w.heap.size
namespace New
open Go.RowKit Go.Lib
set_option linter.unusedVariables false
/-- What a reader of texts gives back: new memory. -/
def ParsePost (l : List UInt8) (w : World) (e : Ending) (w' : World) : Prop :=
  ∃ A c, e = .returned (.tuple #[.slice A (parseP l).1.length c, .int .i64 (parseP l).2]) ∧ OpsNew w.heap.size w' A (parseP l).1 ∧ Below w.heap.size w w'
theorem opsIn_nil (B : Nat) (w : World) : OpsNew B w none [] := ⟨fun i x h => by simp at h, fun a h => by cases h⟩
theorem own_ops {w : World} {B : Nat} {A : Option Addr} {n c : Nat} {l : List PO} (h : w.ownsRow B 33 3 (.slice A n c) n (flat l)) (hn : n = l.length) : OpsNew B w A l := by
  exact ⟨YtfjeheioglmalaaDoor.own_ops h hn, fun a ha => h.lt a.block (by rw [ha]; rfl)⟩
set_option maxRecDepth 100000 in
set_option maxHeartbeats 4000000 in
theorem parse_walk (l : List UInt8) (hl : l.length ≤ 100000) (w : World) : Calls Tryd.prog 11 #[.string ⟨l.toArray⟩] w (ParsePost l w) := by
  have hsz : (ByteArray.mk l.toArray).size = l.length := by simp [ByteArray.size]
  by_cases h4 : 4000 < l.length
  · have h4' : (4000 : Int) < l.length := by omega
    have HP : Hid (parseP l = ([], 4)) := by unfold parseP; exact if_pos h4
    go_enter Tryd.func11, Tryd.ntmps11
    go_wp2_with fail
    go_ret2
    refine ⟨none, 0, ?_, ?_, Below.refl _ _⟩ <;> rw [HP.out]
    · rfl
    · exact opsIn_nil _ _
  · have h4' : ¬ (4000 : Int) < l.length := by omega
    cases l with
    | nil =>
      have HP : Hid (parseP [] = ([], 0)) := rfl
      go_enter Tryd.func11, Tryd.ntmps11
      go_wp2_with fail
      go_ret2
      refine ⟨none, 0, ?_, ?_, Below.refl _ _⟩ <;> rw [HP.out]
      · rfl
      · exact opsIn_nil _ _
    | cons b t =>
      obtain ⟨l, hl0⟩ : ∃ l, b :: t = l := ⟨_, rfl⟩
      have hne : l.isEmpty = false := by rw [← hl0]; rfl
      have hnil : l ≠ [] := by rw [← hl0]; simp
      rw [hl0] at hl h4 h4' hsz ⊢
      clear hl0
      have HN := Lib.hid hnil
      have H4 := Lib.hid h4
      have hcat := fun w => cat l [32] (by omega) (by simp) w
      clear hnil h4
      go_enter Tryd.func11, Tryd.ntmps11
      go_wp2_with fail
      obtain ⟨i0, hi0, hz0, hz1, hz2⟩ := info_parts Tryd.info33
      have HI0 := Lib.hid hi0
      have HZ0 := Lib.hid hz0
      have HZ1 := Lib.hid hz1
      have HZ2 := Lib.hid hz2
      clear hi0 hz0 hz1 hz2
      go_loopw [4, 5] (fun v p wr => ∃ (k : Nat) (acc : List PO) (s : Sc) (g : Nat), p = .pointer (some ⟨g, 0, none⟩) ∧ PRel l w wr (w.heap.size + 1) v k acc s g) (fun _ _ wr => l.length + 2 - wr.iterPos (w.heap.size + 1))
      case atStart => exact ⟨0, [], Sc.zero, w.heap.size, rfl, prel_start l w⟩
      case round =>
        obtain ⟨k, acc, s, g, rfl, R⟩ := hrel
        have HR := Lib.hid R
        clear R
        by_cases hlt : k < l.length + 1
        · obtain ⟨w1, hnx, hit1, hgr1⟩ := next_at Tryd.prog wr (w.heap.size + 1) ⟨(l ++ [32]).toArray⟩ k HR.out.iter (by simp [ByteArray.size]; omega)
          obtain ⟨c, hc⟩ : ∃ c, (l ++ [32])[k]? = some c := ⟨_, List.getElem?_eq_getElem (by simp; omega)⟩
          have HC := Lib.hid hc
          have HI := Lib.hid hit1
          have HG := Lib.hid hgr1
          clear hc hit1 hgr1
          obtain ⟨A, cc, hv⟩ := own_form HR.out.own
          subst hv
          by_cases hasc : c.toNat < 128
          · have hdec : Utf8.decode ⟨(l ++ [32]).toArray⟩ k = (c.toNat, 1) := dec_ascii HC.out hasc
            rw [hdec] at hnx HI
            clear hdec
            by_cases h32 : c = 32
            · subst h32
              cases ho : s.op with
              | none =>
                have HP : Hid (parseP l = ([], 2)) := parse_none H4.out HN.out (HR.out.noop HC.out ho)
                have HOP := Lib.hid (op_walk s g w1 (HR.out.sc1 HG.out) HR.out.num0 HR.out.num1 HR.out.dig0 (HR.out.digle (by omega)))
                rw [ho] at HOP
                clear ho
                go_wp2_with fail
                refine HOP.out.mono ?_; rintro e w2 ⟨x, h, hg⟩
                obtain ⟨rfl, _⟩ | ⟨rfl, _⟩ := h
                · rename_i h; cases h
                have HG2 := Lib.hid hg
                clear hg
                go_wp2_with (refine wpList_store_new rfl 33 (.tmp 8) _ rfl w2.heap.size x.arr rfl rfl 33 _ (heap_alloc_new w2 _) Tryd.size33 rfl x.one w2.heap.size (Nat.le_refl _) ?_; intro w3 hx3 hb3; have HX3 := Lib.hid hx3; have HB3 := Lib.hid hb3; clear hx3 hb3)
                go_ret2
                refine ⟨none, 0, ?_, ?_, ?_⟩
                · rw [HP.out]; rfl
                · rw [HP.out]; exact opsIn_nil _ _
                · exact ((HR.out.b2 HG.out HG2.out).alloc (HR.out.b2 HG.out HG2.out).size _).trans (HB3.out.mono (HR.out.b2 HG.out HG2.out).size)
              | some x =>
                have HO := Lib.hid ho
                have HOP := Lib.hid (op_walk s g w1 (HR.out.sc1 HG.out) HR.out.num0 HR.out.num1 HR.out.dig0 (HR.out.digle (by omega)))
                rw [ho] at HOP
                clear ho
                go_wp2_with fail
                refine HOP.out.mono ?_; rintro e w2 ⟨x', h, hg⟩
                obtain ⟨rfl, hx⟩ | ⟨rfl, hx⟩ := h
                rotate_left
                · cases hx
                injection hx with hx
                subst hx
                have HG2 := Lib.hid hg
                clear hg
                go_wp2_with (first | (refine wpList_store_new rfl 33 (.tmp 8) _ rfl w2.heap.size x.arr rfl rfl 33 _ (heap_alloc_new w2 _) Tryd.size33 rfl x.one w2.heap.size (Nat.le_refl _) ?_; intro w3 hx3 hb3; have HX3 := Lib.hid hx3; have HB3 := Lib.hid (((Below.refl _ w2).alloc (Nat.le_refl _) _).trans hb3); clear hx3 hb3) | (refine wpList_load_row rfl 33 (.tmp 8) rfl w2.heap.size rfl 33 x.arr (0, 0) _ HX3.out Tryd.underlying33 rfl Tryd.size33 ?_; generalize hG : wpList _ _ _ _ _ _ = G; have HGG := Lib.hid hG; clear hG))
                rw [← HGG.out]
                clear HGG
                refine wpList_build_po rfl 23 33 (.tmp 37) rfl x i0 Tryd.underlying23 HI0.out HZ0.out HZ1.out rfl ?_
                refine wpList_append_own_at _ rfl _ _ 23 rfl w.heap.size 33 i0 (PO.val ⟨0, 0, 0⟩) 3 24 Tryd.underlying23 HI0.out HZ0.out HZ1.out HZ2.out rfl (by decide) _ acc.length (flat acc) rfl (World.ownsRow.alloc (ownsRow_kept (HR.out.own2 HG.out HG2.out) HB3.out) _) ⟨w3.heap.size, 0, none⟩ 1 1 x.arr.toList rfl ?d1 ?d2 ?d3 ?d4 ?d5 ?d6 ?_
                case d1 => rfl
                case d2 => exact new_po w3 x 33
                case d3 => exact PO.one_list x
                case d4 => have := HR.out.hacc; simp only [maxLen]; omega
                case d5 => have := HR.out.hacc; omega
                case d6 => have := (HR.out.b2 HG.out HG2.out).size; have := HB3.out.size; simp; omega
                intro v' w5 hown5 hgrow5 _ hblk
                obtain ⟨A5, c5, rfl⟩ := own_form hown5
                have HPR := Lib.hid (HR.out.op HC.out HO.out HG.out HI.out HG2.out HB3.out hown5 hgrow5 hblk)
                clear hown5 hgrow5 hblk
                go_wp2
                go_roundw
                case rel => exact ⟨k + 1, acc ++ [x], Sc.zero, w5.heap.size, rfl, HPR.out⟩
                case measure => rw [iter_pos HPR.out.iter, iter_pos HR.out.iter]; omega
            · have hc32 : ((c.toNat : Int) != 32) = true := by
                have : c.toNat ≠ 32 := fun e => h32 (UInt8.toNat_inj.1 e)
                simp; omega
              have hc0 : (0 : Int) ≤ c.toNat := by omega
              have hc1 : (c.toNat : Int) ≤ 2147483647 := by omega
              cases hr : (s.rune c.toNat).2 with
              | false =>
                have HP : Hid (parseP l = ([], 2)) := parse_none H4.out HN.out (HR.out.norune HC.out h32 hr)
                have HRW := Lib.hid (rune_walk s c.toNat g w1 (HR.out.sc1 HG.out) hc0 hc1 HR.out.num0 HR.out.num1 HR.out.dig0 (HR.out.digle (by omega)))
                have HRR := Lib.hid hr
                clear hr
                go_wp2_with fail
                refine HRW.out.mono ?_; rintro e w2 ⟨rfl, hs, hg⟩
                rw [HRR.out]
                have HG2 := Lib.hid hg
                clear hg hs
                go_wp2
                go_ret2
                refine ⟨none, 0, ?_, ?_, HR.out.b2 HG.out HG2.out⟩
                · rw [HP.out]; rfl
                · rw [HP.out]; exact opsIn_nil _ _
              | true =>
                have HRW := Lib.hid (rune_walk s c.toNat g w1 (HR.out.sc1 HG.out) hc0 hc1 HR.out.num0 HR.out.num1 HR.out.dig0 (HR.out.digle (by omega)))
                have HRR := Lib.hid hr
                clear hr
                go_wp2_with fail
                refine HRW.out.mono ?_; rintro e w2 ⟨rfl, hs, hg⟩
                rw [HRR.out]
                have HPR := Lib.hid (HR.out.rune HC.out h32 HRR.out HG.out HI.out hg hs)
                clear hg hs
                go_wp2
                go_roundw
                case rel => exact ⟨k + 1, acc, _, g, rfl, HPR.out⟩
                case measure => rw [iter_pos HPR.out.iter, iter_pos HR.out.iter]; omega
          · have h32 : c ≠ 32 := by rintro rfl; exact hasc (by decide)
            have hd := dec_high HC.out hasc
            have hd2 := decode_le ⟨(l ++ [32]).toArray⟩ k
            obtain ⟨q, hq⟩ : ∃ q : Nat, (Utf8.decode ⟨(l ++ [32]).toArray⟩ k).1 = q := ⟨_, rfl⟩
            rw [hq] at hnx hd hd2
            clear hq
            have hc32 : ((q : Int) != 32) = true := by simp; omega
            have hc0 : (0 : Int) ≤ q := by omega
            have hc1 : (q : Int) ≤ 2147483647 := by omega
            have HRR := Lib.hid (rune_far (s := s) (c := q) (by omega))
            have HP : Hid (parseP l = ([], 2)) := parse_none H4.out HN.out (HR.out.norune HC.out h32 (rune_far (by omega)))
            have HRW := Lib.hid (rune_walk s q g w1 (HR.out.sc1 HG.out) hc0 hc1 HR.out.num0 HR.out.num1 HR.out.dig0 (HR.out.digle (by omega)))
            go_wp2_with fail
            refine HRW.out.mono ?_; rintro e w2 ⟨rfl, hs, hg⟩
            rw [HRR.out]
            have HG2 := Lib.hid hg
            clear hg hs
            go_wp2
            go_ret2
            refine ⟨none, 0, ?_, ?_, HR.out.b2 HG.out HG2.out⟩
            · rw [HP.out]; rfl
            · rw [HP.out]; exact opsIn_nil _ _
        · have hnx := next_over Tryd.prog wr (w.heap.size + 1) ⟨(l ++ [32]).toArray⟩ k HR.out.iter (by simp [ByteArray.size]; omega)
          have hov := HR.out.over hlt
          have HPS := Lib.hid (parse_some H4.out HN.out hov)
          obtain ⟨A, cc, hv⟩ := own_form HR.out.own
          subst hv
          clear hov
          by_cases h64 : 64 < acc.length
          · have h64' : (64 : Int) < acc.length := by omega
            go_wp2_with fail
            go_ret2
            have HP : parseP l = ([], 4) := by rw [HPS.out, if_pos h64]
            refine ⟨none, 0, ?_, ?_, HR.out.below⟩
            · rw [HP]; rfl
            · rw [HP]; exact opsIn_nil _ _
          · have h64' : ¬ (64 : Int) < acc.length := by omega
            go_wp2_with fail
            go_ret2
            have HP : parseP l = (acc, 0) := by rw [HPS.out, if_neg h64]
            refine ⟨A, cc, ?_, ?_, HR.out.below⟩
            · rw [HP]; rfl
            · rw [HP]; exact own_ops HR.out.own rfl
end New
end Go.Proofs.YtfjeheioglmalaaDoor
namespace Go.Proofs.YtfjeheioglmalaaDoor
open Go.RowKit Go.Lib
set_option linter.unusedVariables false
theorem OpsIn.grown {w w' : World} {A : Option Addr} {l : List PO} {row : Option Nat} (h : OpsIn w A l) (hg : w.grownBy w' row) (hn : ∀ a, A = some a → row ≠ some a.block) : OpsIn w' A l := by
  intro i x hi
  obtain ⟨b, off, h1, h2, h3⟩ := h i x hi
  refine ⟨b, off, h1, Nat.lt_of_lt_of_le h2 hg.size, ?_⟩
  intro j v hv
  rw [World.cell?_of_block (a := ⟨b, off + i * 3 + j, none⟩) (hg.block b h2 (fun e => hn _ h1 e.symm))]
  exact h3 j v hv
theorem grown_of_below {w w' : World} (h : Below w.heap.size w w') (r : Option Nat) : w.grownBy w' r := ⟨h.os, h.tape, h.output, h.size, fun k hk _ => h.block k hk⟩
structure RMem (c : Cfg) (w : World) (g4 : Nat) (wr : World) (r : List UInt8) (ps : List (List PO)) (sv : Value) (cs : List Value) (ks : List PK) (kv : Value) : Prop where
  own : wr.ownsRow (g4 + 1) 23 1 sv ps.length cs
  ops : ∀ (i : Nat) (l : List PO), ps[i]? = some l → ∃ (A : Option Addr) (cap : Nat), cs[i]? = some (Value.slice A l.length cap) ∧ OpsIn wr A l ∧ ∀ a, A = some a → g4 + 1 ≤ a.block ∧ a.block < wr.heap.size ∧ sv.ownBlock ≠ some a.block ∧ kv.ownBlock ≠ some a.block
  kown : wr.ownsRow (g4 + 1) 59 3 kv ks.length (pflat ks)
  apart : ∀ n, sv.ownBlock = some n → kv.ownBlock ≠ some n
  left : Left wr w.heap.size r
  box : wr.heap[g4]? = some (.cells (scells c sv kv) 43 (0, 0))
  res : wr.heap[w.heap.size + 1]? = some (.cells zeros49 43 (0, 0))
  below : Below w.heap.size w wr
  g4le : w.heap.size + 2 ≤ g4
  size : g4 + 1 ≤ wr.heap.size
variable {c : Cfg} {w wr w1 w2 : World} {g4 : Nat} {r r' : List UInt8} {ps : List (List PO)} {sv kv sv' kv' : Value} {cs : List Value} {ks : List PK}
/-- A step that writes one block below g4, but for what is said of it. -/
theorem RMem.low (R : RMem c w g4 wr r ps sv cs ks kv) {n : Nat} (hg : wr.grownBy w1 (some n)) (hn : n < g4) (hw : w.heap.size ≤ n) (hl : Left w1 w.heap.size r') (hr : w1.heap[w.heap.size + 1]? = some (.cells zeros49 43 (0, 0))) : RMem c w g4 w1 r' ps sv cs ks kv where
  own := R.own.kept hg (.inr (fun e => by have := (R.own.lt _ e).1; omega))
  ops := fun i l hi => by
    obtain ⟨A, cap, h1, h2, h3⟩ := R.ops i l hi
    refine ⟨A, cap, h1, h2.grown hg (fun a ha => ?_), fun a ha => ?_⟩
    · have := h3 a ha; intro e; injection e with e; omega
    · have := h3 a ha; have := hg.size; exact ⟨this |> fun _ => (h3 a ha).1, by omega, (h3 a ha).2.2⟩
  kown := R.kown.kept hg (.inr (fun e => by have := (R.kown.lt _ e).1; omega))
  apart := R.apart
  left := hl
  box := grown_block hg R.box (fun e => by injection e with e; omega)
  res := hr
  below := R.below.grown hg R.below.size (fun k e => by injection e with e; omega)
  g4le := R.g4le
  size := Nat.le_trans R.size hg.size
theorem RMem.text (R : RMem c w g4 wr r ps sv cs ks kv) (hg : wr.grownBy w1 (some w.heap.size)) (hl : Left w1 w.heap.size r') : RMem c w g4 w1 r' ps sv cs ks kv :=
  R.low hg (by have := R.g4le; omega) (Nat.le_refl _) hl (grown_block hg R.res (fun e => by injection e with e; omega))
theorem RMem.more (R : RMem c w g4 wr r ps sv cs ks kv) (hb : Below wr.heap.size wr w1) : RMem c w g4 w1 r ps sv cs ks kv :=
  R.text (grown_of_below hb _) ((hb.block _ (Array.getElem?_eq_some_iff.1 R.left).1).trans R.left)
/-- One program more. -/
theorem RMem.push (R : RMem c w g4 wr r ps sv cs ks kv) {A : Option Addr} {l : List PO} {cap : Nat} {o : Obj} {w5 : World} (ho : OpsIn wr A l) (hA : ∀ a, A = some a → g4 + 1 ≤ a.block ∧ a.block < wr.heap.size ∧ sv.ownBlock ≠ some a.block ∧ kv.ownBlock ≠ some a.block)
    (hown : w5.ownsRow (g4 + 1) 23 1 sv' (ps.length + 1) (cs ++ [Value.slice A l.length cap])) (hg : (wr.alloc o).grownBy w5 sv.ownBlock) (hat : sv'.ownBlock = sv.ownBlock ∨ sv'.ownBlock = some (wr.heap.size + 1)) :
    RMem c w g4 (w5.setCell ⟨g4, 13, none⟩ sv') r (ps ++ [l]) sv' (cs ++ [Value.slice A l.length cap]) ks kv := by
  have hs1 : (wr.alloc o).heap.size = wr.heap.size + 1 := by simp
  have hs5 : wr.heap.size + 1 ≤ w5.heap.size := by have := hg.size; omega
  have hgs := grown_set w5 g4 13 sv'
  have hn1 : ∀ n, n < wr.heap.size → (wr.alloc o).heap[n]? = wr.heap[n]? := fun n h => Below.heap_alloc wr o n h
  have hga : wr.grownBy (wr.alloc o) none := ⟨rfl, rfl, rfl, by simp, fun k hk _ => hn1 k hk⟩
  have hR := R.size
  have hlen := R.own.1
  have box5 : w5.heap[g4]? = some (.cells (scells c sv kv) 43 (0, 0)) := grown_block hg ((hn1 g4 (by omega)).trans R.box) (fun e => by have := (R.own.lt _ e.symm).1; omega)
  have new : ∀ a, (g4 + 1 ≤ a ∧ a < wr.heap.size ∧ sv.ownBlock ≠ some a) → sv'.ownBlock ≠ some a := fun a h => by
    rcases hat with e | e
    · rw [e]; exact h.2.2
    · rw [e]; intro h'; injection h' with h'; omega
  have keep : ∀ {A : Option Addr} {l : List PO}, OpsIn wr A l → (∀ a, A = some a → g4 + 1 ≤ a.block ∧ a.block < wr.heap.size ∧ sv.ownBlock ≠ some a.block ∧ kv.ownBlock ≠ some a.block) → OpsIn (w5.setCell ⟨g4, 13, none⟩ sv') A l := fun h hA =>
    ((h.grown hga (fun a ha => by simp)).grown hg (fun a ha => (hA a ha).2.2.1)).grown hgs (fun a ha e => by injection e with e; have := (hA a ha).1; omega)
  exact {
    own := by
      rw [List.length_append, List.length_singleton]
      exact hown.kept hgs (.inr (fun e => by have := (hown.lt _ e).1; omega))
    ops := fun i l' hi => by
      have hsz : (w5.setCell ⟨g4, 13, none⟩ sv').heap.size = w5.heap.size := by simp [World.setCell]
      by_cases hlt : i < ps.length
      · rw [List.getElem?_append_left hlt] at hi
        obtain ⟨A', cap', h1, h2, h3⟩ := R.ops i l' hi
        refine ⟨A', cap', by rw [List.getElem?_append_left (by omega)]; exact h1, keep h2 h3, fun a ha => ?_⟩
        have := h3 a ha
        exact ⟨this.1, by rw [hsz]; omega, new _ ⟨this.1, this.2.1, this.2.2.1⟩, this.2.2.2⟩
      · rw [List.getElem?_append_right (by omega)] at hi
        have hi0 : i - ps.length = 0 := by
          rcases Nat.eq_zero_or_pos (i - ps.length) with h | h
          · exact h
          · rw [List.getElem?_eq_none (by simp; omega)] at hi; cases hi
        rw [hi0] at hi
        simp only [List.getElem?_cons_zero, Option.some.injEq] at hi
        subst hi
        refine ⟨A, cap, by rw [List.getElem?_append_right (by omega), show i - cs.length = 0 by omega]; rfl, keep ho hA, fun a ha => ?_⟩
        have := hA a ha
        exact ⟨this.1, by rw [hsz]; omega, new _ ⟨this.1, this.2.1, this.2.2.1⟩, this.2.2.2⟩
    kown := ((R.kown.kept hga (by
      cases hk : kv.ownBlock with
      | none => exact .inl rfl
      | some n => exact .inr (fun e => by cases e))).kept hg (by
      cases hk : kv.ownBlock with
      | none => exact .inl rfl
      | some n => exact .inr (fun e => R.apart n e.symm hk))).kept hgs (.inr (fun e => by have := (R.kown.lt _ e).1; omega))
    apart := fun n e => by
      rcases hat with h | h
      · exact R.apart n (h ▸ e)
      · rw [h] at e
        injection e with e
        intro h'
        have := (R.kown.lt _ h').2
        omega
    left := (grown_block hgs (grown_block hg ((hn1 _ (by have := R.g4le; omega)).trans R.left) (fun e => by have := (R.own.lt _ e.symm).1; have := R.g4le; omega)) (fun e => by injection e with e; have := R.g4le; omega))
    box := by
      have := heap_setCell_same w5 g4 13 _ 43 sv' box5
      exact this
    res := (grown_block hgs (grown_block hg ((hn1 _ (by have := R.g4le; omega)).trans R.res) (fun e => by have := (R.own.lt _ e.symm).1; have := R.g4le; omega)) (fun e => by injection e with e; have := R.g4le; omega))
    below := ((R.below.alloc R.below.size o).grown hg (by have := R.below.size; omega) (fun k e => by have := (R.own.lt _ e).1; have := R.g4le; omega)).grown hgs (by have := R.below.size; omega) (fun k e => by injection e with e; have := R.g4le; omega)
    g4le := R.g4le
    size := by simp [World.setCell]; omega }
/-- One pick more. -/
theorem RMem.pick (R : RMem c w g4 wr r ps sv cs ks kv) {x : PK} {o : Obj} {w5 : World}
    (hown : w5.ownsRow (g4 + 1) 59 3 kv' (ks.length + 1) (pflat ks ++ x.arr.toList)) (hg : (wr.alloc o).grownBy w5 kv.ownBlock) (hat : kv'.ownBlock = kv.ownBlock ∨ kv'.ownBlock = some (wr.heap.size + 1)) :
    RMem c w g4 (w5.setCell ⟨g4, 14, none⟩ kv') r ps sv cs (ks ++ [x]) kv' := by
  have hs1 : (wr.alloc o).heap.size = wr.heap.size + 1 := by simp
  have hs5 : wr.heap.size + 1 ≤ w5.heap.size := by have := hg.size; omega
  have hgs := grown_set w5 g4 14 kv'
  have hn1 : ∀ n, n < wr.heap.size → (wr.alloc o).heap[n]? = wr.heap[n]? := fun n h => Below.heap_alloc wr o n h
  have hga : wr.grownBy (wr.alloc o) none := ⟨rfl, rfl, rfl, by simp, fun k hk _ => hn1 k hk⟩
  have hR := R.size
  have box5 : w5.heap[g4]? = some (.cells (scells c sv kv) 43 (0, 0)) := grown_block hg ((hn1 g4 (by omega)).trans R.box) (fun e => by have := (R.kown.lt _ e.symm).1; omega)
  have new : ∀ a, (a < wr.heap.size ∧ kv.ownBlock ≠ some a) → kv'.ownBlock ≠ some a := fun a h => by
    rcases hat with e | e
    · rw [e]; exact h.2
    · rw [e]; intro h'; injection h' with h'; omega
  exact {
    own := ((R.own.kept hga (by
      cases hk : sv.ownBlock with
      | none => exact .inl rfl
      | some n => exact .inr (fun e => by cases e))).kept hg (by
      cases hk : sv.ownBlock with
      | none => exact .inl rfl
      | some n => exact .inr (fun e => R.apart n hk e.symm))).kept hgs (.inr (fun e => by have := (R.own.lt _ e).1; omega))
    ops := fun i l' hi => by
      have hsz : (w5.setCell ⟨g4, 14, none⟩ kv').heap.size = w5.heap.size := by simp [World.setCell]
      obtain ⟨A', cap', h1, h2, h3⟩ := R.ops i l' hi
      refine ⟨A', cap', h1, ((h2.grown hga (fun a ha => by simp)).grown hg (fun a ha => (h3 a ha).2.2.2)).grown hgs (fun a ha e => by injection e with e; have := (h3 a ha).1; omega), fun a ha => ?_⟩
      have := h3 a ha
      exact ⟨this.1, by rw [hsz]; omega, this.2.2.1, new _ ⟨this.2.1, this.2.2.2⟩⟩
    kown := by
      rw [pflat_snoc, List.length_append, List.length_singleton]
      exact hown.kept hgs (.inr (fun e => by have := (hown.lt _ e).1; omega))
    apart := fun n e => new n ⟨(R.own.lt _ e).2, R.apart n e⟩
    left := (grown_block hgs (grown_block hg ((hn1 _ (by have := R.g4le; omega)).trans R.left) (fun e => by have := (R.kown.lt _ e.symm).1; have := R.g4le; omega)) (fun e => by injection e with e; have := R.g4le; omega))
    box := by
      have := heap_setCell_same w5 g4 14 _ 43 kv' box5
      exact this
    res := (grown_block hgs (grown_block hg ((hn1 _ (by have := R.g4le; omega)).trans R.res) (fun e => by have := (R.kown.lt _ e.symm).1; have := R.g4le; omega)) (fun e => by injection e with e; have := R.g4le; omega))
    below := ((R.below.alloc R.below.size o).grown hg (by have := R.below.size; omega) (fun k e => by have := (R.kown.lt _ e).1; have := R.g4le; omega)).grown hgs (by have := R.below.size; omega) (fun k e => by injection e with e; have := R.g4le; omega)
    g4le := R.g4le
    size := by simp [World.setCell]; omega }
/-- What lies in a row of slices. -/
theorem RMem.progs (R : RMem c w g4 wr r ps sv cs ks kv) {w' : World} (hg : wr.grownBy w' (some (w.heap.size + 1))) {A : Option Addr} {n cap : Nat} (hv : sv = .slice A n cap) : ProgsIn w' A ps := by
  intro i l hi
  obtain ⟨B, cap', h1, h2, h3⟩ := R.ops i l hi
  have hlt := (List.getElem?_eq_some_iff.1 hi).1
  have hO := R.own
  rw [hv] at hO
  rcases hO.2 with ⟨h4, h5⟩ | ⟨g, cp, cur, h4, hB, hgg, rest⟩
  · omega
  · injection h4 with h4 _ _
    have hgl := (Array.getElem?_eq_some_iff.1 hgg).1
    have hcell := hO.cells (g := g) (by rw [h4]; rfl) i _ h1
    refine ⟨g, 0, B, cap', h4, Nat.lt_of_lt_of_le hgl hg.size, ?_, h2.grown hg (fun a ha e => by injection e with e; have := (h3 a ha).1; have := R.g4le; omega)⟩
    rw [World.cell?_of_block (a := ⟨g, 0 + i, none⟩) (hg.block g hgl (fun e => by injection e with e; have := R.g4le; omega))]
    rw [Addr.add_mid] at hcell
    exact hcell
theorem RMem.picks (R : RMem c w g4 wr r ps sv cs ks kv) {w' : World} (hg : wr.grownBy w' (some (w.heap.size + 1))) {A : Option Addr} {n cap : Nat} (hv : kv = .slice A n cap) (hn : n = ks.length) : PicksIn w' A ks := by
  have hO := R.kown.kept hg (.inr (fun e => by have := (R.kown.lt _ e).1; have := R.g4le; omega))
  subst hv
  subst hn
  exact own_picks hO rfl
end Go.Proofs.YtfjeheioglmalaaDoor
