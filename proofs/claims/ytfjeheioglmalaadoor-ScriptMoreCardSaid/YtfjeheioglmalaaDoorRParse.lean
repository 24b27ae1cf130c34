/- The reference's Parse. -/
import Derived.Test.YtfjeheioglmalaaDoorGuessWalk
import Derived.Test.YtfjeheioglmalaaDoorParse
namespace Go.Proofs.YtfjeheioglmalaaDoor
open Go.RowKit Go.Lib
set_option linter.unusedVariables false
set_option linter.unusedSimpArgs false
section
variable {P : Program} {ops : Array Oper} {Q : Exit → Act → World → Prop} {md : Region.Mode} {S : World → Prop}
theorem held_take (i d : Nat) {oi : Oper} {v : Value} {fuel : Nat} {listed : Array Bool} {a : Act} {w : World} (hi : ops[i]? = some oi) (hd : oi.dst = some d)
    (hs : Region.noSelect ops = true) (hf : Region.free md ops listed i = true) (hr : (Region.ready md ops listed).contains i = true)
    (hQ : ∀ c a w, Q (.panic c) (a.put (some d) v) w → Q (.panic c) a w) (hy : YieldsIf P ops S oi v a) (hS : S w)
    (h : wpAnyH P md ops Q S fuel (listed.setIfInBounds i true) (a.put (some d) v) w) : wpAnyH P md ops Q S (fuel + 1) listed a w := by
  rw [← hd] at hQ h
  exact wpAnyH_take hi hs hf hr hQ hy hS h
end
theorem three_drew {w : World} {g : Nat} {a b c : Int} (h : Three w g a b c) : Three w.drew g a b c := h
theorem three_below {W w2 : World} {g : Nat} {a b c : Int} (hb : Below W.heap.size W w2) (h : Three W g a b c) : Three w2 g a b c := by
  obtain ⟨hc, hf⟩ := bcell hb
  have hg := World.block_lt_of_cell? W _ h.1
  exact ⟨(hc g 0 hg).trans h.1, (hc g 1 hg).trans h.2.1, (hc g 2 hg).trans h.2.2⟩
theorem u8_ne32 {b : UInt8} (h : b ≠ 32) : ((b.toNat : Int) != 32) = true := by
  have : b.toNat ≠ 32 := fun e => h (UInt8.toNat_inj.1 e)
  simp; omega
structure RRel (l : List UInt8) (w wr : World) (v : Value) (i f : Nat) (acc : List PO) : Prop where
  own : wr.ownsRow w.heap.size 33 3 v acc.length (flat acc)
  below : Below w.heap.size w wr
  hi : i ≤ l.length + 1
  hf : f ≤ i
  hacc : acc.length ≤ i
  inv : (i ≤ l.length ∧ rgo (l.drop i) ((l.take i).drop f) acc = rgo l [] []) ∨ (i = l.length + 1 ∧ rgo l [] [] = some acc)
theorem rrel_start (l : List UInt8) (w : World) : RRel l w (w.alloc (.cells #[] 33)) (.slice (some ⟨w.heap.size, 0, none⟩) 0 0) 0 0 [] :=
  { own := World.ownsRow_made w #[] 0 (Nat.le_refl _) (by decide) rfl
    below := (Below.refl _ _).alloc (Nat.le_refl _) _
    hi := by omega
    hf := by omega
    hacc := by simp
    inv := .inl ⟨by omega, by simp⟩ }
theorem take_drop_snoc {l : List UInt8} {i f : Nat} {c : UInt8} (hc : l[i]? = some c) (hf : f ≤ i) : (l.take (i + 1)).drop f = (l.take i).drop f ++ [c] := by
  have hi := (List.getElem?_eq_some_iff.1 hc).1
  rw [List.take_add_one, hc, List.drop_append_of_le_length (by simp; omega)]
  rfl
theorem RRel.now {l : List UInt8} {w wr : World} {v : Value} {i f : Nat} {acc : List PO} (R : RRel l w wr v i f acc) (h : i ≤ l.length) : rgo (l.drop i) ((l.take i).drop f) acc = rgo l [] [] := by
  rcases R.inv with ⟨_, e⟩ | ⟨e, _⟩
  · exact e
  · omega
theorem RRel.step {l : List UInt8} {w wr : World} {v : Value} {i f : Nat} {acc : List PO} {c : UInt8} (R : RRel l w wr v i f acc) (hc : l[i]? = some c) (h : c ≠ 32) : RRel l w wr v (i + 1) f acc := by
  obtain ⟨h1, h2⟩ := List.getElem?_eq_some_iff.1 hc
  exact {
    own := R.own
    below := R.below
    hi := by omega
    hf := by have := R.hf; omega
    hacc := by have := R.hacc; omega
    inv := .inl ⟨by omega, by
      rw [← R.now (by omega), List.drop_eq_getElem_cons h1, h2, rgo, if_neg h, take_drop_snoc hc R.hf]⟩ }
theorem below_undrew {B : Nat} {w w' : World} (h : Below B w.drew w') : Below B w w' := ⟨h.os, h.tape, h.output, h.size, h.block⟩
theorem rword_no {p : List UInt8} {x : PO} (hx : guessP p = x) (h : x.may = false ∨ x.txt ≠ p) : rword p = none := by
  unfold rword
  rw [hx, if_neg]
  rintro ⟨h1, h2⟩
  rcases h with h | h
  · rw [h] at h1; cases h1
  · exact h h2
theorem rword_yes {p : List UInt8} {x : PO} (hx : guessP p = x) (h : x.may = true) (ht : x.txt = p) : rword p = some x := by
  unfold rword
  rw [hx, if_pos ⟨h, ht⟩]
theorem parse_none2 {l : List UInt8} (h4 : ¬ 4000 < l.length) (h0 : l ≠ []) (h : rgo l [] [] = none) : parseP l = ([], 2) := parse_none h4 h0 ((mgo_all l).trans h)
theorem parse_some2 {l : List UInt8} {x : List PO} (h4 : ¬ 4000 < l.length) (h0 : l ≠ []) (h : rgo l [] [] = some x) : parseP l = if 64 < x.length then ([], 4) else (x, 0) := parse_some h4 h0 ((mgo_all l).trans h)
theorem RRel.over {l : List UInt8} {w wr : World} {v : Value} {i f : Nat} {acc : List PO} (R : RRel l w wr v i f acc) (h : l.length < i) : rgo l [] [] = some acc := by
  rcases R.inv with ⟨h', _⟩ | ⟨_, h'⟩
  · omega
  · exact h'
theorem RRel.bad {l : List UInt8} {w wr : World} {v : Value} {i f : Nat} {acc : List PO} (R : RRel l w wr v i f acc) (hi : i ≤ l.length) (hw : i = l.length ∨ l[i]? = some 32) (h : rword ((l.take i).drop f) = none) : rgo l [] [] = none := by
  rw [← R.now hi]
  rcases hw with rfl | hw
  · rw [List.drop_length, rgo, h]; rfl
  · obtain ⟨h1, h2⟩ := List.getElem?_eq_some_iff.1 hw
    rw [List.drop_eq_getElem_cons h1, h2, rgo, if_pos rfl, h]; rfl
theorem RRel.word {l : List UInt8} {w wr w6 : World} {v v' : Value} {i f : Nat} {acc : List PO} {x : PO} (R : RRel l w wr v i f acc) (hi : i ≤ l.length) (hw : i = l.length ∨ l[i]? = some 32) (h : rword ((l.take i).drop f) = some x)
    (hb : Below w.heap.size w w6) (own : w6.ownsRow w.heap.size 33 3 v' (acc.length + 1) (flat acc ++ x.arr.toList)) : RRel l w w6 v' (i + 1) (i + 1) (acc ++ [x]) :=
  { own := by
      rw [flat_snoc, List.length_append, List.length_singleton]
      exact own
    below := hb
    hi := by omega
    hf := by omega
    hacc := by have := R.hacc; simp; omega
    inv := by
      have hn := R.now hi
      rcases hw with rfl | hw
      · exact .inr ⟨rfl, by rw [← hn, List.drop_length, rgo, h]; rfl⟩
      · obtain ⟨h1, h2⟩ := List.getElem?_eq_some_iff.1 hw
        refine .inl ⟨by omega, ?_⟩
        rw [← hn, List.drop_eq_getElem_cons h1, h2, rgo, if_pos rfl, h]
        simp }
set_option maxRecDepth 100000 in
set_option maxHeartbeats 4000000 in
theorem rparse_walk (l : List UInt8) (hl : l.length ≤ 100000) (w : World) : Calls Tryd.prog 12 #[.string ⟨l.toArray⟩] w (ParsePost l w) := by
  have hsz : (ByteArray.mk l.toArray).size = l.length := by simp [ByteArray.size]
  by_cases h4 : 4000 < l.length
  · have h4' : (4000 : Int) < l.length := by omega
    have HP : Hid (parseP l = ([], 4)) := by unfold parseP; exact if_pos h4
    go_enter Tryd.func12, Tryd.ntmps12
    go_wp2_with fail
    go_ret2
    refine ⟨none, 0, ?_, ?_, Below.refl _ _⟩ <;> rw [HP.out]
    · rfl
    · exact opsIn_nil _ _
  · have h4' : ¬ (4000 : Int) < l.length := by omega
    cases l with
    | nil =>
      have HP : Hid (parseP [] = ([], 0)) := rfl
      go_enter Tryd.func12, Tryd.ntmps12
      go_wp2_with fail
      refine wp_loop_rounds 1 ?_
      rw [rounds_succ]
      go_wp2
      go_ret2
      refine ⟨some ⟨w.heap.size, 0, none⟩, 0, ?_, ?_, (Below.refl _ _).alloc (Nat.le_refl _) _⟩ <;> rw [HP.out]
      · rfl
      · exact opsIn_nil _ _
    | cons b t =>
      obtain ⟨l, hl0⟩ : ∃ l, b :: t = l := ⟨_, rfl⟩
      have hne : l.isEmpty = false := by rw [← hl0]; rfl
      have hnil : l ≠ [] := by rw [← hl0]; simp
      rw [hl0] at hl h4 h4' hsz ⊢
      clear hl0
      have HN := Lib.hid hnil
      have H4 := Lib.hid h4
      clear hnil h4
      go_enter Tryd.func12, Tryd.ntmps12
      go_wp2_with fail
      obtain ⟨i0, hi0, hz0, hz1, hz2⟩ := info_parts Tryd.info33
      have HI0 := Lib.hid hi0
      have HZ0 := Lib.hid hz0
      have HZ1 := Lib.hid hz1
      have HZ2 := Lib.hid hz2
      clear hi0 hz0 hz1 hz2
      go_loopw [4, 5, 6] (fun v f n wr => ∃ (i from' : Nat) (acc : List PO), n = .int .i64 i ∧ f = .int .i64 from' ∧ RRel l w wr v i from' acc) (fun _ _ n _ => l.length + 2 - (RowKit.intOf n).toNat)
      case atStart => exact ⟨0, 0, [], rfl, rfl, rrel_start l w⟩
      case round =>
        obtain ⟨i, f, acc, rfl, rfl, R⟩ := hrel
        have hi := R.hi
        have hf := R.hf
        have HR := Lib.hid R
        clear R
        obtain ⟨A, cc, hv⟩ := own_form HR.out.own
        subst hv
        by_cases hlt : i < l.length
        · obtain ⟨c, hc⟩ : ∃ c, l[i]? = some c := ⟨_, List.getElem?_eq_getElem hlt⟩
          have hbyte := byte_at hc (by rw [hsz]; exact hlt)
          have HC := Lib.hid hc
          clear hc
          have hle : (i : Int) ≤ l.length := by omega
          have hile : i ≤ l.length := by omega
          by_cases h32 : c = 32
          · have q32 : ((((ByteArray.mk l.toArray)[i]'(by rw [hsz]; exact hlt)).toNat : Int) != 32) = false := by rw [hbyte, h32]; rfl
            have HW : Hid (i = l.length ∨ l[i]? = some 32) := .inr (by rw [HC.out, h32])
            clear hbyte
            obtain ⟨p, hp⟩ : ∃ p, (l.take i).drop f = p := ⟨_, rfl⟩
            have hpl : p.length ≤ 5000 := by rw [← hp]; simp only [List.length_drop, List.length_take]; omega
            have s1 : ∀ w, (Instr.slice 9 (.string ⟨l.toArray⟩) (some (.int .i64 (f : Int))) (some (.int .i64 (i : Int))) none).run Tryd.prog w = .ok (.string ⟨p.toArray⟩) w := fun w => by rw [← hp]; exact slice_l l f i hf hile w
            have HP := Lib.hid hp
            have HGW := Lib.hid (guess_walk p hpl wr)
            obtain ⟨⟨xk, xa, xv⟩, hx⟩ : ∃ x, guessP p = x := ⟨_, rfl⟩
            rw [hx] at HGW
            have HX := Lib.hid hx
            clear hp hpl hx
            go_wp2_with fail
            refine HGW.out.mono ?_; rintro e w2 ⟨rfl, hb⟩
            have HB2 := Lib.hid hb
            clear hb
            go_wp2_with (first | (refine wpList_store_new rfl 33 (.tmp 7) _ rfl w2.heap.size (PO.arr ⟨xk, xa, xv⟩) rfl rfl 33 _ (heap_alloc_new w2 _) Tryd.size33 rfl (PO.one _) w2.heap.size (Nat.le_refl _) ?_; intro w3 hx3 hb3; have HX3 := Lib.hid hx3; have HB3 := Lib.hid (((Below.refl _ w2).alloc (Nat.le_refl _) _).trans hb3); clear hx3 hb3))
            obtain ⟨⟨z0, z1, z2⟩, _⟩ := box_three HX3.out
            have HB := Lib.hid (HB2.out.trans (HB3.out.mono HB2.out.size))
            cases hm : PO.may ⟨xk, xa, xv⟩
            · have HM := Lib.hid hm
              clear hm
              refine wp_region_noPanic ?_
              refine wp_region_held_drew (S := fun w' => Three w' w2.heap.size xk xa xv) (by kernel_rfl) (three_drew ⟨z0, z1, z2⟩) (fun hHeld => ?_)
              change wpAnyH _ _ _ _ _ 12 #[false, false, false, false, false, false, false, false, false, false, false, false] _ _
              refine held_take 0 37 (v := ?_) rfl rfl (by kernel_rfl) (by kernel_rfl) (by kernel_rfl) (fun _ _ _ h => h) (Or.inl ⟨by rfl, ?_⟩) (by assumption) ?_
              rotate_left
              · intro w hSw
                obtain ⟨y0, y1, y2⟩ := hSw
                go_simp
                first | done | (with_reducible rfl)
              try simp only [Act.put, List.setIfInBounds_toArray, List.set_cons_zero, List.set_cons_succ]
              refine wpAnyH_ready (rs := [1]) (by kernel_rfl) (by simp) ?_
              refine AllReadyH.cons rfl (fun K hK => ?_) AllReadyH.nil
              go_simp
              go_at_call 17
              refine (rmay_walk ⟨xk, xa, xv⟩ _).mono ?_; rw [HM.out]; rintro e w4 ⟨rfl, hb⟩
              have HB4 := Lib.hid (HB.out.trans ((below_undrew hb).mono HB.out.size))
              have HT4 := Lib.hid (three_below hb hHeld)
              clear hb
              go_wp2_with fail
              refine hK.out _ _ HT4.out (fun hHeld2 => ?_)
              clear hK K
              try simp only [Act.put, List.setIfInBounds_toArray, List.set_cons_zero, List.set_cons_succ]
              refine held_take 2 39 (v := ?_) rfl rfl (by kernel_rfl) (by kernel_rfl) (by kernel_rfl) (fun _ _ _ h => h) (Or.inl ⟨by rfl, ?_⟩) (by assumption) ?_
              rotate_left
              · intro w hSw
                obtain ⟨y0, y1, y2⟩ := hSw
                go_simp
                first | done | (with_reducible rfl)
              try simp only [Act.put, List.setIfInBounds_toArray, List.set_cons_zero, List.set_cons_succ]
              refine held_take 3 40 (v := ?_) rfl rfl (by kernel_rfl) (by kernel_rfl) (by kernel_rfl) (fun _ _ _ h => h) (Or.inl ⟨by rfl, ?_⟩) (by assumption) ?_
              rotate_left
              · intro w hSw
                obtain ⟨y0, y1, y2⟩ := hSw
                go_simp
                first | done | (with_reducible rfl)
              try simp only [Act.put, List.setIfInBounds_toArray, List.set_cons_zero, List.set_cons_succ]
              refine held_take 4 41 (v := undef) rfl rfl (by kernel_rfl) (by kernel_rfl) (by kernel_rfl) (fun _ _ _ h => h) (Or.inr ⟨by simp [Region.wanted, yielded], rfl⟩) (by assumption) ?_
              try simp only [Act.put, List.setIfInBounds_toArray, List.set_cons_zero, List.set_cons_succ]
              refine held_take 6 43 (v := undef) rfl rfl (by kernel_rfl) (by kernel_rfl) (by kernel_rfl) (fun _ _ _ h => h) (Or.inr ⟨by simp [Region.wanted, yielded], rfl⟩) (by assumption) ?_
              try simp only [Act.put, List.setIfInBounds_toArray, List.set_cons_zero, List.set_cons_succ]
              refine held_take 7 44 (v := undef) rfl rfl (by kernel_rfl) (by kernel_rfl) (by kernel_rfl) (fun _ _ _ h => h) (Or.inr ⟨by simp [Region.wanted, yielded], rfl⟩) (by assumption) ?_
              try simp only [Act.put, List.setIfInBounds_toArray, List.set_cons_zero, List.set_cons_succ]
              refine held_take 8 45 (v := undef) rfl rfl (by kernel_rfl) (by kernel_rfl) (by kernel_rfl) (fun _ _ _ h => h) (Or.inr ⟨by simp [Region.wanted, yielded], rfl⟩) (by assumption) ?_
              try simp only [Act.put, List.setIfInBounds_toArray, List.set_cons_zero, List.set_cons_succ]
              refine held_take 5 42 (v := undef) rfl rfl (by kernel_rfl) (by kernel_rfl) (by kernel_rfl) (fun _ _ _ h => h) (Or.inr ⟨by simp [Region.wanted, yielded], rfl⟩) (by assumption) ?_
              try simp only [Act.put, List.setIfInBounds_toArray, List.set_cons_zero, List.set_cons_succ]
              refine held_take 9 46 (v := undef) rfl rfl (by kernel_rfl) (by kernel_rfl) (by kernel_rfl) (fun _ _ _ h => h) (Or.inr ⟨by simp [Region.wanted, yielded], rfl⟩) (by assumption) ?_
              try simp only [Act.put, List.setIfInBounds_toArray, List.set_cons_zero, List.set_cons_succ]
              refine held_take 10 47 (v := undef) rfl rfl (by kernel_rfl) (by kernel_rfl) (by kernel_rfl) (fun _ _ _ h => h) (Or.inr ⟨by simp [Region.wanted, yielded], rfl⟩) (by assumption) ?_
              try simp only [Act.put, List.setIfInBounds_toArray, List.set_cons_zero, List.set_cons_succ]
              refine held_take 11 48 (v := ?_) rfl rfl (by kernel_rfl) (by kernel_rfl) (by kernel_rfl) (fun _ _ _ h => h) (Or.inl ⟨by rfl, ?_⟩) (by assumption) ?_
              rotate_left
              · intro w hSw
                obtain ⟨y0, y1, y2⟩ := hSw
                go_simp
                first | done | (with_reducible rfl)
              try simp only [Act.put, List.setIfInBounds_toArray, List.set_cons_zero, List.set_cons_succ]
              refine wpAnyH_done (by kernel_rfl) ?_ _
              refine NoPanic.normal ?_
              go_wp2
              go_ret2
              have hbad := parse_none2 H4.out HN.out (HR.out.bad hile HW.out (by rw [HP.out]; exact rword_no HX.out (.inl HM.out)))
              refine ⟨none, 0, ?_, ?_, HR.out.below.trans (HB4.out.mono HR.out.below.size)⟩
              · rw [hbad]; rfl
              · rw [hbad]; exact opsIn_nil _ _
            · have HM := Lib.hid hm
              clear hm
              go_region_held3 (fun w' => w'.cell? ⟨w2.heap.size, 0, none⟩ = some (.int .i64 xk) ∧ w'.cell? ⟨w2.heap.size, 1, none⟩ = some (.int .i64 xa) ∧ w'.cell? ⟨w2.heap.size, 2, none⟩ = some (.int .i64 xv))
                (first | go_keep | exact HT5.out | exact HT4.out)
                (first | (go_at_call 17; refine (rmay_walk ⟨xk, xa, xv⟩ _).mono ?_; rw [HM.out]; rintro e w4 ⟨rfl, hb⟩; have HB4 := Lib.hid (HB.out.trans ((below_undrew hb).mono HB.out.size)); have HT4 := Lib.hid (three_below (g := w2.heap.size) (a := xk) (b := xa) (c := xv) hb ⟨z0, z1, z2⟩); clear hb) | (go_at_call 31; refine (rtext_walk ⟨xk, xa, xv⟩ HM.out _).mono ?_; rintro e w5 ⟨rfl, hb⟩; have HB5 := Lib.hid (HB4.out.trans (hb.mono HB4.out.size)); have HT5 := Lib.hid (three_below hb HT4.out); clear hb))
              rename_i hh5
              obtain ⟨t0, t1, t2⟩ := hh5
              go_wp2_with (first | (refine wpList_build_po rfl 23 33 (.tmp 50) rfl ⟨xk, xa, xv⟩ i0 Tryd.underlying23 HI0.out HZ0.out HZ1.out rfl ?_; generalize hG : wpList _ _ _ _ _ _ = G; have HGG := Lib.hid hG; clear hG))
              · have hne2 : (!PO.txt ⟨xk, xa, xv⟩ == p) = true := by assumption
                go_ret2
                have hbad := parse_none2 H4.out HN.out (HR.out.bad hile HW.out (by rw [HP.out]; exact rword_no HX.out (.inr (by simpa using hne2))))
                refine ⟨none, 0, ?_, ?_, HR.out.below.trans (HB5.out.mono HR.out.below.size)⟩
                · rw [hbad]; rfl
                · rw [hbad]; exact opsIn_nil _ _
              · have heq2 : (!PO.txt ⟨xk, xa, xv⟩ == p) = false := by assumption
                have HEQ := Lib.hid (show PO.txt ⟨xk, xa, xv⟩ = p by simpa using heq2)
                clear heq2 t0 t1 t2 z0 z1 z2
                rw [← HGG.out]
                clear HGG
                refine wpList_append_own_at _ rfl _ _ 23 rfl w.heap.size 33 i0 (PO.val ⟨0, 0, 0⟩) 3 24 Tryd.underlying23 HI0.out HZ0.out HZ1.out HZ2.out rfl (by decide) _ acc.length (flat acc) rfl (World.ownsRow.alloc (ownsRow_kept HR.out.own HB5.out) _) ⟨w5.heap.size, 0, none⟩ 1 1 (PO.arr ⟨xk, xa, xv⟩).toList rfl ?d1 ?d2 ?d3 ?d4 ?d5 ?d6 ?_
                case d1 => rfl
                case d2 => exact new_po w5 ⟨xk, xa, xv⟩ 33
                case d3 => exact PO.one_list _
                case d4 => have := HR.out.hacc; simp only [maxLen]; omega
                case d5 => have := HR.out.hacc; omega
                case d6 => have := HR.out.below.size; have := HB5.out.size; simp; omega
                intro v' w6 hown6 hgrow6 _ hblk
                obtain ⟨A6, c6, rfl⟩ := own_form hown6
                have HBB := Lib.hid (HR.out.below.trans (HB5.out.mono HR.out.below.size))
                have HRR := Lib.hid (HR.out.word hile HW.out (by rw [HP.out]; exact rword_yes HX.out HM.out HEQ.out) ((HBB.out.alloc HBB.out.size _).grown hgrow6 (by have := HBB.out.size; simp; omega) (fun k e => (HR.out.own.lt k e).1)) hown6)
                clear hown6 hgrow6 hblk
                go_wp2
                go_roundw
                case rel => exact ⟨i + 1, i + 1, acc ++ [⟨xk, xa, xv⟩], by go_num, by go_num, HRR.out⟩
                case measure => simp [RowKit.intOf]; omega
          · have q32 : ((((ByteArray.mk l.toArray)[i]'(by rw [hsz]; exact hlt)).toNat : Int) != 32) = true := by rw [hbyte]; exact u8_ne32 h32
            clear hbyte
            go_wp2_with fail
            go_roundw
            case rel => exact ⟨i + 1, f, acc, by go_num, rfl, HR.out.step HC.out h32⟩
            case measure => simp [RowKit.intOf]; omega
        · by_cases hie : i = l.length
          · have hile : i ≤ l.length := by omega
            have HW : Hid (i = l.length ∨ l[i]? = some 32) := .inl hie
            have hle : (i : Int) ≤ l.length := by omega
            have hlt' : ¬ (i : Int) < l.length := by omega
            clear hie
            obtain ⟨p, hp⟩ : ∃ p, (l.take i).drop f = p := ⟨_, rfl⟩
            have hpl : p.length ≤ 5000 := by rw [← hp]; simp only [List.length_drop, List.length_take]; omega
            have s1 : ∀ w, (Instr.slice 9 (.string ⟨l.toArray⟩) (some (.int .i64 (f : Int))) (some (.int .i64 (i : Int))) none).run Tryd.prog w = .ok (.string ⟨p.toArray⟩) w := fun w => by rw [← hp]; exact slice_l l f i hf hile w
            have HP := Lib.hid hp
            have HGW := Lib.hid (guess_walk p hpl wr)
            obtain ⟨⟨xk, xa, xv⟩, hx⟩ : ∃ x, guessP p = x := ⟨_, rfl⟩
            rw [hx] at HGW
            have HX := Lib.hid hx
            clear hp hpl hx
            go_wp2_with fail
            refine HGW.out.mono ?_; rintro e w2 ⟨rfl, hb⟩
            have HB2 := Lib.hid hb
            clear hb
            go_wp2_with (first | (refine wpList_store_new rfl 33 (.tmp 7) _ rfl w2.heap.size (PO.arr ⟨xk, xa, xv⟩) rfl rfl 33 _ (heap_alloc_new w2 _) Tryd.size33 rfl (PO.one _) w2.heap.size (Nat.le_refl _) ?_; intro w3 hx3 hb3; have HX3 := Lib.hid hx3; have HB3 := Lib.hid (((Below.refl _ w2).alloc (Nat.le_refl _) _).trans hb3); clear hx3 hb3))
            obtain ⟨⟨z0, z1, z2⟩, _⟩ := box_three HX3.out
            have HB := Lib.hid (HB2.out.trans (HB3.out.mono HB2.out.size))
            cases hm : PO.may ⟨xk, xa, xv⟩
            · have HM := Lib.hid hm
              clear hm
              refine wp_region_noPanic ?_
              refine wp_region_held_drew (S := fun w' => Three w' w2.heap.size xk xa xv) (by kernel_rfl) (three_drew ⟨z0, z1, z2⟩) (fun hHeld => ?_)
              change wpAnyH _ _ _ _ _ 12 #[false, false, false, false, false, false, false, false, false, false, false, false] _ _
              refine held_take 0 37 (v := ?_) rfl rfl (by kernel_rfl) (by kernel_rfl) (by kernel_rfl) (fun _ _ _ h => h) (Or.inl ⟨by rfl, ?_⟩) (by assumption) ?_
              rotate_left
              · intro w hSw
                obtain ⟨y0, y1, y2⟩ := hSw
                go_simp
                first | done | (with_reducible rfl)
              try simp only [Act.put, List.setIfInBounds_toArray, List.set_cons_zero, List.set_cons_succ]
              refine wpAnyH_ready (rs := [1]) (by kernel_rfl) (by simp) ?_
              refine AllReadyH.cons rfl (fun K hK => ?_) AllReadyH.nil
              go_simp
              go_at_call 17
              refine (rmay_walk ⟨xk, xa, xv⟩ _).mono ?_; rw [HM.out]; rintro e w4 ⟨rfl, hb⟩
              have HB4 := Lib.hid (HB.out.trans ((below_undrew hb).mono HB.out.size))
              have HT4 := Lib.hid (three_below hb hHeld)
              clear hb
              go_wp2_with fail
              refine hK.out _ _ HT4.out (fun hHeld2 => ?_)
              clear hK K
              try simp only [Act.put, List.setIfInBounds_toArray, List.set_cons_zero, List.set_cons_succ]
              refine held_take 2 39 (v := ?_) rfl rfl (by kernel_rfl) (by kernel_rfl) (by kernel_rfl) (fun _ _ _ h => h) (Or.inl ⟨by rfl, ?_⟩) (by assumption) ?_
              rotate_left
              · intro w hSw
                obtain ⟨y0, y1, y2⟩ := hSw
                go_simp
                first | done | (with_reducible rfl)
              try simp only [Act.put, List.setIfInBounds_toArray, List.set_cons_zero, List.set_cons_succ]
              refine held_take 3 40 (v := ?_) rfl rfl (by kernel_rfl) (by kernel_rfl) (by kernel_rfl) (fun _ _ _ h => h) (Or.inl ⟨by rfl, ?_⟩) (by assumption) ?_
              rotate_left
              · intro w hSw
                obtain ⟨y0, y1, y2⟩ := hSw
                go_simp
                first | done | (with_reducible rfl)
              try simp only [Act.put, List.setIfInBounds_toArray, List.set_cons_zero, List.set_cons_succ]
              refine held_take 4 41 (v := undef) rfl rfl (by kernel_rfl) (by kernel_rfl) (by kernel_rfl) (fun _ _ _ h => h) (Or.inr ⟨by simp [Region.wanted, yielded], rfl⟩) (by assumption) ?_
              try simp only [Act.put, List.setIfInBounds_toArray, List.set_cons_zero, List.set_cons_succ]
              refine held_take 6 43 (v := undef) rfl rfl (by kernel_rfl) (by kernel_rfl) (by kernel_rfl) (fun _ _ _ h => h) (Or.inr ⟨by simp [Region.wanted, yielded], rfl⟩) (by assumption) ?_
              try simp only [Act.put, List.setIfInBounds_toArray, List.set_cons_zero, List.set_cons_succ]
              refine held_take 7 44 (v := undef) rfl rfl (by kernel_rfl) (by kernel_rfl) (by kernel_rfl) (fun _ _ _ h => h) (Or.inr ⟨by simp [Region.wanted, yielded], rfl⟩) (by assumption) ?_
              try simp only [Act.put, List.setIfInBounds_toArray, List.set_cons_zero, List.set_cons_succ]
              refine held_take 8 45 (v := undef) rfl rfl (by kernel_rfl) (by kernel_rfl) (by kernel_rfl) (fun _ _ _ h => h) (Or.inr ⟨by simp [Region.wanted, yielded], rfl⟩) (by assumption) ?_
              try simp only [Act.put, List.setIfInBounds_toArray, List.set_cons_zero, List.set_cons_succ]
              refine held_take 5 42 (v := undef) rfl rfl (by kernel_rfl) (by kernel_rfl) (by kernel_rfl) (fun _ _ _ h => h) (Or.inr ⟨by simp [Region.wanted, yielded], rfl⟩) (by assumption) ?_
              try simp only [Act.put, List.setIfInBounds_toArray, List.set_cons_zero, List.set_cons_succ]
              refine held_take 9 46 (v := undef) rfl rfl (by kernel_rfl) (by kernel_rfl) (by kernel_rfl) (fun _ _ _ h => h) (Or.inr ⟨by simp [Region.wanted, yielded], rfl⟩) (by assumption) ?_
              try simp only [Act.put, List.setIfInBounds_toArray, List.set_cons_zero, List.set_cons_succ]
              refine held_take 10 47 (v := undef) rfl rfl (by kernel_rfl) (by kernel_rfl) (by kernel_rfl) (fun _ _ _ h => h) (Or.inr ⟨by simp [Region.wanted, yielded], rfl⟩) (by assumption) ?_
              try simp only [Act.put, List.setIfInBounds_toArray, List.set_cons_zero, List.set_cons_succ]
              refine held_take 11 48 (v := ?_) rfl rfl (by kernel_rfl) (by kernel_rfl) (by kernel_rfl) (fun _ _ _ h => h) (Or.inl ⟨by rfl, ?_⟩) (by assumption) ?_
              rotate_left
              · intro w hSw
                obtain ⟨y0, y1, y2⟩ := hSw
                go_simp
                first | done | (with_reducible rfl)
              try simp only [Act.put, List.setIfInBounds_toArray, List.set_cons_zero, List.set_cons_succ]
              refine wpAnyH_done (by kernel_rfl) ?_ _
              refine NoPanic.normal ?_
              go_wp2
              go_ret2
              have hbad := parse_none2 H4.out HN.out (HR.out.bad hile HW.out (by rw [HP.out]; exact rword_no HX.out (.inl HM.out)))
              refine ⟨none, 0, ?_, ?_, HR.out.below.trans (HB4.out.mono HR.out.below.size)⟩
              · rw [hbad]; rfl
              · rw [hbad]; exact opsIn_nil _ _
            · have HM := Lib.hid hm
              clear hm
              go_region_held3 (fun w' => w'.cell? ⟨w2.heap.size, 0, none⟩ = some (.int .i64 xk) ∧ w'.cell? ⟨w2.heap.size, 1, none⟩ = some (.int .i64 xa) ∧ w'.cell? ⟨w2.heap.size, 2, none⟩ = some (.int .i64 xv))
                (first | go_keep | exact HT5.out | exact HT4.out)
                (first | (go_at_call 17; refine (rmay_walk ⟨xk, xa, xv⟩ _).mono ?_; rw [HM.out]; rintro e w4 ⟨rfl, hb⟩; have HB4 := Lib.hid (HB.out.trans ((below_undrew hb).mono HB.out.size)); have HT4 := Lib.hid (three_below (g := w2.heap.size) (a := xk) (b := xa) (c := xv) hb ⟨z0, z1, z2⟩); clear hb) | (go_at_call 31; refine (rtext_walk ⟨xk, xa, xv⟩ HM.out _).mono ?_; rintro e w5 ⟨rfl, hb⟩; have HB5 := Lib.hid (HB4.out.trans (hb.mono HB4.out.size)); have HT5 := Lib.hid (three_below hb HT4.out); clear hb))
              rename_i hh5
              obtain ⟨t0, t1, t2⟩ := hh5
              go_wp2_with (first | (refine wpList_build_po rfl 23 33 (.tmp 50) rfl ⟨xk, xa, xv⟩ i0 Tryd.underlying23 HI0.out HZ0.out HZ1.out rfl ?_; generalize hG : wpList _ _ _ _ _ _ = G; have HGG := Lib.hid hG; clear hG))
              · have hne2 : (!PO.txt ⟨xk, xa, xv⟩ == p) = true := by assumption
                go_ret2
                have hbad := parse_none2 H4.out HN.out (HR.out.bad hile HW.out (by rw [HP.out]; exact rword_no HX.out (.inr (by simpa using hne2))))
                refine ⟨none, 0, ?_, ?_, HR.out.below.trans (HB5.out.mono HR.out.below.size)⟩
                · rw [hbad]; rfl
                · rw [hbad]; exact opsIn_nil _ _
              · have heq2 : (!PO.txt ⟨xk, xa, xv⟩ == p) = false := by assumption
                have HEQ := Lib.hid (show PO.txt ⟨xk, xa, xv⟩ = p by simpa using heq2)
                clear heq2 t0 t1 t2 z0 z1 z2
                rw [← HGG.out]
                clear HGG
                refine wpList_append_own_at _ rfl _ _ 23 rfl w.heap.size 33 i0 (PO.val ⟨0, 0, 0⟩) 3 24 Tryd.underlying23 HI0.out HZ0.out HZ1.out HZ2.out rfl (by decide) _ acc.length (flat acc) rfl (World.ownsRow.alloc (ownsRow_kept HR.out.own HB5.out) _) ⟨w5.heap.size, 0, none⟩ 1 1 (PO.arr ⟨xk, xa, xv⟩).toList rfl ?d1 ?d2 ?d3 ?d4 ?d5 ?d6 ?_
                case d1 => rfl
                case d2 => exact new_po w5 ⟨xk, xa, xv⟩ 33
                case d3 => exact PO.one_list _
                case d4 => have := HR.out.hacc; simp only [maxLen]; omega
                case d5 => have := HR.out.hacc; omega
                case d6 => have := HR.out.below.size; have := HB5.out.size; simp; omega
                intro v' w6 hown6 hgrow6 _ hblk
                obtain ⟨A6, c6, rfl⟩ := own_form hown6
                have HBB := Lib.hid (HR.out.below.trans (HB5.out.mono HR.out.below.size))
                have HRR := Lib.hid (HR.out.word hile HW.out (by rw [HP.out]; exact rword_yes HX.out HM.out HEQ.out) ((HBB.out.alloc HBB.out.size _).grown hgrow6 (by have := HBB.out.size; simp; omega) (fun k e => (HR.out.own.lt k e).1)) hown6)
                clear hown6 hgrow6 hblk
                go_wp2
                go_roundw
                case rel => exact ⟨i + 1, i + 1, acc ++ [⟨xk, xa, xv⟩], by go_num, by go_num, HRR.out⟩
                case measure => simp [RowKit.intOf]; omega
          · have hgt : ¬ (i : Int) ≤ l.length := by omega
            have HPS := Lib.hid (parse_some2 H4.out HN.out (HR.out.over (by omega)))
            clear hlt hie
            by_cases h64 : 64 < acc.length
            · have h64' : (64 : Int) < acc.length := by omega
              go_wp2_with fail
              go_ret2
              have HP : parseP l = ([], 4) := by rw [HPS.out, if_pos h64]
              refine ⟨none, 0, ?_, ?_, HR.out.below⟩
              · rw [HP]; rfl
              · rw [HP]; exact opsIn_nil _ _
            · have h64' : ¬ (64 : Int) < acc.length := by omega
              go_wp2_with fail
              go_ret2
              have HP : parseP l = (acc, 0) := by rw [HPS.out, if_neg h64]
              refine ⟨A, cc, ?_, ?_, HR.out.below⟩
              · rw [HP]; rfl
              · rw [HP]; exact own_ops HR.out.own rfl
end Go.Proofs.YtfjeheioglmalaaDoor
