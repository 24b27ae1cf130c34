/- Close of package mshr: what it comes to. -/
import Derived.Test.YtfjeheioglmalaaDo
namespace Go.Proofs.Ytfjeheioglmalaa
open Go.RowKit
section
variable {P : Program}
theorem run_copy_rows (w : World) (dT sT ty elem : TypeId) (g o dLen dCap : Nat) (a : Addr) (sLen sCap size : Nat) (cur : Array Value) (t : TypeId) (cs : List Value)
    (hu : P.underlying dT = some (.slice elem)) (hs : (P.info? elem).map (·.size) = some size)
    (hg : w.heap[g]? = some (.cells cur t (0, 0))) (hn : cs.length = Nat.min sLen dLen * size)
    (hsrc : ∀ j v, cs[j]? = some v → w.cell? (a.add j) = some v) (hfit : o + cs.length ≤ cur.size) (h1 : ∀ v ∈ cs, v.oneCell' = true) :
    (Builtin.copy_ #[dT, sT] ty #[.slice (some ⟨g, o, none⟩) dLen dCap, .slice (some a) sLen sCap]).run P w =
      .ok (goInt (Nat.min sLen dLen)) (w.setRow g (cur.toList.take o ++ cs ++ cur.toList.drop (o + cs.length)).toArray) := by
  have hl := run_loadCells_list (P := P) w a cs hsrc
  have hst := run_storeCells_at P g o t cs 0 cur w hg (by simpa using hfit) h1
  cases hq : P.info? elem with
  | none => simp [hq] at hs
  | some i =>
    have hi : i.size = size := by simpa [hq] using hs
    simp [Builtin.copy_, run_underlying hu, Builtin.lenOf, Builtin.firstCells, sizeOf, typeInfo, hq, hi, ← hn, hl, hst]
theorem wpList_copy_rows {w : World} {ops : Array Oper} {rest : List Oper} {o : Oper} {a : Act} {Q : Exit → Act → World → Prop} (hgd : o.guard = none) (d s : Operand) (dT sT : TypeId)
    (ho : o.op = .call { callee := .builtin .copy, args := #[d, s], argTypes := #[dT, sT] }) (elem : TypeId) (hu : P.underlying dT = some (.slice elem)) (size : Nat) (hsz : (P.info? elem).map (·.size) = some size)
    (g off dLen dCap : Nat) (ad : Addr) (sLen sCap : Nat) (hd : a.eval d = .slice (some ⟨g, off, none⟩) dLen dCap) (hs : a.eval s = .slice (some ad) sLen sCap)
    (cur : Array Value) (t : TypeId) (hg : w.heap[g]? = some (.cells cur t (0, 0))) (cs : List Value) (hn : cs.length = Nat.min sLen dLen * size)
    (hsrc : ∀ j v, cs[j]? = some v → w.cell? (ad.add j) = some v) (hfit : off + cs.length ≤ cur.size) (h1 : ∀ v ∈ cs, v.oneCell' = true)
    (h : ∀ w2, w2.heap[g]? = some (.cells (cur.toList.take off ++ (cs ++ cur.toList.drop (off + cs.length))).toArray t (0, 0)) → Chg (· = g) w w2 → wpList P ops Q rest (a.put o.dst (goInt (Nat.min sLen dLen))) w2) : wpList P ops Q (o :: rest) a w := by
  refine wpList_plain hgd fun K hK => ?_
  have hrun := run_copy_rows (P := P) w dT sT o.type elem g off dLen dCap ad sLen sCap size cur t cs hu hsz hg hn hsrc hfit h1
  unfold Oper.wp
  simp [execOp, ho, resolve, invoke, builtin, hd, hs, hrun, Result.andThen]
  exact hK _ _ (h _ (setRow_heap w g cur _ t _ hg) ⟨rfl, rfl, rfl, by rw [size_setRow]; exact Nat.le_refl _, fun k _ hk => setRow_other w g k _ hk⟩)
end
theorem run_cut_from (P : Program) (t e g n c i size : Nat) (ht : P.underlying t = some (.slice e)) (hs : (P.info? e).map (·.size) = some size) (hi : i ≤ n) (hc : c ≠ i) (wx : World) :
    (Instr.sliceAt t (.slice (some ⟨g, 0, none⟩) n c) (some (.int .i64 (i : Int))) none none).run P wx = .ok (.slice (some ⟨g, i * size, none⟩) (n - i) (c - i)) wx := by
  have he : P.elem t = e := by simp [Program.elem, ht]
  cases hq : P.info? e with
  | none => simp [hq] at hs
  | some x =>
    have hx : x.size = size := by simpa [hq] using hs
    rw [run_sliceAt_slice wx t _ _ _ _ (by rw [he]; exact ht), run_slice_l wx t (some ⟨g, 0, none⟩) n c (by rw [he]; exact ht) .i64 i (by omega) (by omega)]
    simp [he, sizeOf, typeInfo, hq, hx, sliced, hc, Addr.add_mid]
theorem run_cut_end (P : Program) (t e g n c i size : Nat) (ht : P.underlying t = some (.slice e)) (hs : (P.info? e).map (·.size) = some size) (hi : i ≤ n) (wx : World) :
    (Instr.sliceAt t (.slice (some ⟨g, 0, none⟩) n c) (some (.int .i64 (i : Int))) none none).run P wx = .ok (.slice (some (if c = i then ⟨g, 0, none⟩ else ⟨g, i * size, none⟩)) (n - i) (c - i)) wx := by
  have he : P.elem t = e := by simp [Program.elem, ht]
  cases hq : P.info? e with
  | none => simp [hq] at hs
  | some x =>
    have hx : x.size = size := by simpa [hq] using hs
    rw [run_sliceAt_slice wx t _ _ _ _ (by rw [he]; exact ht), run_slice_l wx t (some ⟨g, 0, none⟩) n c (by rw [he]; exact ht) .i64 i (by omega) (by omega)]
    by_cases hc : c = i <;> simp [he, sizeOf, typeInfo, hq, hx, sliced, hc, Addr.add_mid]
theorem run_cut_to (P : Program) (t e g n c i size : Nat) (ht : P.underlying t = some (.slice e)) (hs : (P.info? e).map (·.size) = some size) (hi : i ≤ c) (wx : World) :
    (Instr.sliceAt t (.slice (some ⟨g, 0, none⟩) n c) none (some (.int .i64 (i : Int))) none).run P wx = .ok (.slice (some ⟨g, 0, none⟩) i c) wx := by
  have he : P.elem t = e := by simp [Program.elem, ht]
  cases hq : P.info? e with
  | none => simp [hq] at hs
  | some x =>
    have hx : x.size = size := by simpa [hq] using hs
    rw [run_sliceAt_slice wx t _ _ _ _ (by rw [he]; exact ht), run_slice_h wx t (some ⟨g, 0, none⟩) n c (by rw [he]; exact ht) .i64 i (by omega) (by omega)]
    by_cases hc : c = 0 <;> simp [he, sizeOf, typeInfo, hq, sliced, Addr.add_mid]
theorem FileIs.cut {w w1 : World} {ft mt B fb g n c : Nat} {room : Int} {l : List Ms} (h : FileIs w ft mt B fb (.slice (some ⟨g, 0, none⟩) n c) room l) {i : Nat} (hi : i < l.length) {cur : Array Value} (hc : w.heap[g]? = some (.cells cur mt (0, 0)))
    (h1 : w1.heap[g]? = some (.cells (cur.toList.take (i * 15) ++ ((l.drop (i + 1)).flatMap Ms.cells ++ cur.toList.drop (i * 15 + ((l.drop (i + 1)).flatMap Ms.cells).length))).toArray mt (0, 0))) (hch : Chg (· = g) w w1) :
    FileIs (w1.setCell ⟨fb, 1, none⟩ (.slice (some ⟨g, 0, none⟩) (n - 1) c)) ft mt B fb (.slice (some ⟨g, 0, none⟩) (n - 1) c) room (l.eraseIdx i) := by
  obtain ⟨cur', hh, hcs, ht, hnc, hcm, hb⟩ := h.block
  rw [hc] at hh
  injection hh with hh
  injection hh with hh
  subst hh
  have hn := h.len
  have hfb : w1.heap[fb]? = some (.cells #[.int .i64 room, .slice (some ⟨g, 0, none⟩) n c] ft (0, 0)) := (hch.block fb h.lt h.ne).trans h.head
  have hl1 : (l.eraseIdx i).length = n - 1 := by rw [List.length_eraseIdx_of_lt hi, hn]
  have hlen : ((l.drop (i + 1)).flatMap Ms.cells).length = (n - (i + 1)) * 15 := by rw [flat_length _ _ _ Ms.len, List.length_drop, hn]
  have hcl : cur.toList.length = c * 15 := by rw [Array.length_toList, hcs]
  have htk : cur.toList.take (i * 15) = (l.take i).flatMap Ms.cells := by
    have e1 : cur.toList.take (i * 15) = (cur.toList.take (n * 15)).take (i * 15) := by rw [List.take_take, Nat.min_eq_left]; omega
    rw [e1, ht]
    conv => lhs; rw [← List.take_append_drop i l, List.flatMap_append]
    rw [List.take_left' (by rw [flat_length _ _ _ Ms.len, List.length_take]; congr 1; omega)]
  refine ⟨heap_setCell_same w1 fb 1 _ ft _ hfb, ⟨by rw [hl1]; rw [flat_length _ _ _ Ms.len, hl1], .inr ⟨g, c, _, by rw [hl1], hb, (Below.heap_setCell w1 _ _ g (Ne.symm h.ne)).trans h1, by omega, hcm, ?_, ?_⟩⟩, h.base, h.apart⟩
  · simp only [List.size_toArray, List.length_append, List.length_take, List.length_drop, hlen, hcl]
    omega
  · rw [hl1, List.eraseIdx_eq_take_drop_succ, List.flatMap_append, htk]
    show List.take ((n - 1) * 15) ((l.take i).flatMap Ms.cells ++ ((l.drop (i + 1)).flatMap Ms.cells ++ _)) = _
    rw [← List.append_assoc]
    rw [List.take_left' (by rw [List.length_append, hlen, flat_length _ _ _ Ms.len, List.length_take]; omega)]
theorem close_none {B fb : Nat} {sv : Value} {room : Int} {l : List Ms} (line : Int) (w : World) (hm : l.length ≤ 1000) (hf : FileIs w 60 34 B fb sv room l) (hi : l.findIdx? (fun m => m.line == line) = none) :
    Calls Try.prog 21 #[.pointer (some ⟨fb, 0, none⟩), .int .i64 line] w fun e w' => e = .returned (.int .i64 5) ∧ Below w.heap.size w w' := by
  have HF := Lib.hid hf
  have HI := Lib.hid hi
  clear hf hi
  go_enter Try.func21, Try.ntmps21
  go_wp2_with (go_at_call 30; refine (of_none _ _ hm (HF.out.below ((Below.refl _ _).alloc (Nat.le_refl _) _)) HI.out).mono ?_; rintro e w1 ⟨rfl, hb⟩; have HB := Lib.hid hb; clear hb)
  go_ret
  exact ⟨rfl, ((Below.refl _ _).alloc (Nat.le_refl _) _).trans (HB.out.mono (by simp))⟩
theorem close_table {B fb g n c : Nat} {room : Int} {l : List Ms} (line : Int) (w : World) (hm : l.length ≤ 1000) (hf : FileIs w 60 34 B fb (.slice (some ⟨g, 0, none⟩) n c) room l) {i : Nat} {m : Ms} (hi : l.findIdx? (fun m => m.line == line) = some i) (hmi : l[i]? = some m) (ht : m.owes = false) :
    Calls Try.prog 21 #[.pointer (some ⟨fb, 0, none⟩), .int .i64 line] w fun e w' => e = .returned (.int .i64 7) ∧ Below w.heap.size w w' := by
  have HF := Lib.hid hf
  have HI := Lib.hid hi
  have HM := Lib.hid hmi
  clear hf hi hmi
  go_enter Try.func21, Try.ntmps21
  go_wp2_with (go_at_call 30; refine (of_some _ _ hm (HF.out.below ((Below.refl _ _).alloc (Nat.le_refl _) _)) HI.out).mono ?_; rintro e w1 ⟨rfl, hb⟩; have c14 := ((HF.out.below ((Below.refl _ _).alloc (Nat.le_refl _) _)).below hb).elem HM.out 14 _ rfl; rw [ht] at c14; have HB := Lib.hid hb; clear hb)
  go_ret
  exact ⟨rfl, ((Below.refl _ _).alloc (Nat.le_refl _) _).trans (HB.out.mono (by simp))⟩
theorem close_ok {B fb g n c : Nat} {room : Int} {l : List Ms} (line : Int) (w : World) (hm : l.length ≤ 1000) (hf : FileIs w 60 34 B fb (.slice (some ⟨g, 0, none⟩) n c) room l) {i : Nat} {m : Ms} (hi : l.findIdx? (fun m => m.line == line) = some i) (hmi : l[i]? = some m) (ht : m.owes = true) :
    Calls Try.prog 21 #[.pointer (some ⟨fb, 0, none⟩), .int .i64 line] w fun e w' => e = .returned (.int .i64 0) ∧ Did 60 34 B fb (.slice (some ⟨g, 0, none⟩) n c) room (l.eraseIdx i) w w' := by
  have HF := Lib.hid hf
  have HI := Lib.hid hi
  have HP := Lib.hid (place_some hi)
  have HM := Lib.hid hmi
  have hil : i < l.length := (List.getElem?_eq_some_iff.1 hmi).1
  have hnl : n = l.length := hf.len
  have hlt : i < n := by omega
  have hn : n ≤ 1000 := by omega
  have hnc : n ≤ c := by obtain ⟨cur, _, _, _, h, _⟩ := hf.block; exact h
  have hcm : c ≤ maxLen := by obtain ⟨cur, _, _, _, _, h, _⟩ := hf.block; exact h
  unfold maxLen at hcm
  have HNL := Lib.hid hnl
  clear hf hi hmi hnl
  go_enter Try.func21, Try.ntmps21
  go_wp2_with (first | (go_at_call 30; refine (of_some _ _ hm (HF.out.below ((Below.refl _ _).alloc (Nat.le_refl _) _)) HI.out).mono ?_; rintro e w1 ⟨rfl, hb⟩; have HF1 := Lib.hid ((HF.out.below ((Below.refl _ _).alloc (Nat.le_refl _) _)).below hb); have c14 := HF1.out.elem HM.out 14 _ rfl; rw [ht] at c14; have HX := Lib.hid (box_kept hb); have HB := Lib.hid hb; clear hb) | (go_at_call 28; refine (at_any 34 callFunc34 _ _ _ hm HF1.out (close_closure w.heap.size line _ (by rw [cell_of_row w1 w.heap.size 0 _ _ _ HX.out]; rfl))).mono ?_; rintro e w2 ⟨rfl, hb⟩; rw [HP.out]; have HF2 := Lib.hid (HF1.out.below hb); have c1 := HF2.out.head1; have HB2 := Lib.hid hb; clear hb))
  have sl1 : ∀ wx, (Instr.sliceAt 48 (.slice (some ⟨g, 0, none⟩) n c) (some (.int .i64 (i : Int))) none none).run Try.prog wx = .ok (.slice (some ⟨g, i * 15, none⟩) (n - i) (c - i)) wx := fun wx => run_cut_from Try.prog 48 34 g n c i 15 Try.underlying48 Try.size34 (by omega) (by omega) wx
  obtain ⟨ad2, had2⟩ : ∃ ad2 : Addr, (if c = i + 1 then ⟨g, 0, none⟩ else ⟨g, (i + 1) * 15, none⟩ : Addr) = ad2 := ⟨_, rfl⟩
  have sl2 : ∀ wx, (Instr.sliceAt 48 (.slice (some ⟨g, 0, none⟩) n c) (some (.int .i64 ((i : Int) + 1))) none none).run Try.prog wx = .ok (.slice (some ad2) (n - (i + 1)) (c - (i + 1))) wx := fun wx => by
    rw [← had2]
    exact run_cut_end Try.prog 48 34 g n c (i + 1) 15 Try.underlying48 Try.size34 (by omega) wx
  have HA := Lib.hid had2
  clear had2
  obtain ⟨cs, hcs0⟩ : ∃ cs, cs = (l.drop (i + 1)).flatMap Ms.cells := ⟨_, rfl⟩
  have hlen : cs.length = Nat.min (n - (i + 1)) (n - i) * 15 := by
    rw [hcs0, flat_length _ _ _ Ms.len, List.length_drop, HNL.out]
    congr 1
    show _ = min _ _
    omega
  have HLEN := Lib.hid hlen
  have HCS := Lib.hid hcs0
  clear hlen hcs0
  obtain ⟨cur, hcur⟩ : ∃ cur, w2.heap[g]? = some (.cells cur 34 (0, 0)) := ⟨_, HF2.out.block.choose_spec.1⟩
  have hsz : cur.size = c * 15 := by
    obtain ⟨cur', h1, h2, _⟩ := HF2.out.block
    rw [h1] at hcur
    injection hcur with hcur
    injection hcur with hcur
    rw [← hcur]; exact h2
  have htk : cur.toList.take (n * 15) = l.flatMap Ms.cells := by
    obtain ⟨cur', h1, _, h2, _⟩ := HF2.out.block
    rw [h1] at hcur
    injection hcur with hcur
    injection hcur with hcur
    rw [← hcur]; exact h2
  have HC := Lib.hid hcur
  have HSZ := Lib.hid hsz
  have HTK := Lib.hid htk
  clear hcur hsz htk
  have hw1 : IntKind.i64.wrap ((i : Int) + 1) = (i : Int) + 1 := IntWalk.i64_in _ (by omega)
  go_still_tail 13, (by kernel_rfl)
  clear hw1 sl1 sl2
  go_wp2_with (refine wpList_copy_rows rfl _ _ 48 48 rfl 34 Try.underlying48 15 Try.size34 g (i * 15) (n - i) (c - i) ad2 (n - (i + 1)) (c - (i + 1)) rfl rfl cur 34 HC.out cs HLEN.out ?c1 ?c2 ?c3 ?_)
  case c1 =>
    by_cases hc : c = i + 1
    · have e0 : cs = [] := List.eq_nil_of_length_eq_zero (by rw [HLEN.out]; show min _ _ * 15 = 0; omega)
      intro j u hu
      rw [e0] at hu
      simp at hu
    · have ha := HA.out
      rw [if_neg hc] at ha
      subst ha
      have hr := HF2.out.range
      intro j u hu
      rw [HCS.out] at hu
      rw [Addr.add_mid]
      have h1 := hr ((i + 1) * 15 + j) u (by
        rw [← List.take_append_drop (i + 1) l, List.flatMap_append, List.getElem?_append_right (by rw [flat_length _ _ _ Ms.len, List.length_take]; omega), flat_length _ _ _ Ms.len, List.length_take, ← hu]
        congr 1
        omega)
      rw [Nat.zero_add] at h1
      exact h1
  case c2 => rw [HLEN.out, HSZ.out]; show _ + min _ _ * 15 ≤ _; omega
  case c3 => rw [HCS.out]; exact flat_one _
  intro w3 h3 hc3
  have H3 := Lib.hid h3
  have c3 : w3.cell? ⟨fb, 1, none⟩ = some (.slice (some ⟨g, 0, none⟩) n c) := by
    rw [cell_of_row w3 fb 1 _ _ _ ((hc3.block fb HF2.out.lt HF2.out.ne).trans HF2.out.head)]; rfl
  have f3 : w3.frozen? ⟨fb, 1, none⟩ = false := frozen_of_row w3 fb 1 _ _ ((hc3.block fb HF2.out.lt HF2.out.ne).trans HF2.out.head)
  have HC3 := Lib.hid hc3
  clear h3 hc3 c1 c14
  have sl3 : ∀ wx, (Instr.sliceAt 48 (.slice (some ⟨g, 0, none⟩) n c) none (some (.int .i64 ((n : Int) - 1))) none).run Try.prog wx = .ok (.slice (some ⟨g, 0, none⟩) (n - 1) c) wx := fun wx => by
    have := run_cut_to Try.prog 48 34 g n c (n - 1) 15 Try.underlying48 Try.size34 (by omega) wx
    rwa [show ((n - 1 : Nat) : Int) = (n : Int) - 1 by omega] at this
  have hw1 : IntKind.i64.wrap ((n : Int) - 1) = (n : Int) - 1 := IntWalk.i64_in _ (by omega)
  go_wp2_with fail
  go_still_tail 14, (by kernel_rfl)
  clear hw1 sl3
  go_wp2
  go_ret
  refine ⟨rfl, .slice (some ⟨g, 0, none⟩) (n - 1) c, (FileIs.cut (w := w2.drew) (HF2.out.below (Below.refl _ _).drew) hil HC.out (by rw [← HCS.out]; exact H3.out) HC3.out).below (Below.refl _ _).drew, Chg.drew ?_, fun k hk => .inl hk⟩
  refine Chg.setCell ?_ (.inl rfl) _
  refine Chg.trans (E' := (· = g)) ?_ HC3.out (fun k _ e => .inr (by rw [e]; rfl))
  exact Chg.drew (Chg.of_below ((((Below.refl _ _).alloc (Nat.le_refl _) _).trans (HB.out.mono (by simp))).trans (HB2.out.mono (by have := HB.out.size; simp at this; omega))))
end Go.Proofs.Ytfjeheioglmalaa
