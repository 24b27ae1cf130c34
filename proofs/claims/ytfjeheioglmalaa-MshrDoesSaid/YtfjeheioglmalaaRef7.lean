/- Close of the reference file of misses. -/
import Derived.Test.YtfjeheioglmalaaRef6
import Derived.Great.BuildSlice
import Derived.Great.FillDense
namespace Go.Proofs.Ytfjeheioglmalaa
open Go.RowKit
set_option linter.unusedSectionVars false
theorem fill_one (mk : Ms) (ie : TypeInfo) (hs : ie.size = 15) : Instr.fill (fun i => some (i * ie.size, ie.size)) ((Array.range (1 * ie.size)).map (Ms.zero.val.cells[· % Ms.zero.val.cells.size]!)) [(0, .agg mk.cells.toArray)] = some mk.cells.toArray := by
  rw [hs]
  have h := Go.Great.fill_whole (s := 15) (by decide) [.agg mk.cells.toArray] ((Array.range (1 * 15)).map (Ms.zero.val.cells[· % Ms.zero.val.cells.size]!)) (by intro v hv; simp at hv; subst hv; exact Ms.len mk) (by simp)
  have e : (List.flatMap (fun v : Value => v.cells.toList) [Value.agg mk.cells.toArray]).toArray = mk.cells.toArray := by simp [Value.cells]
  rw [e] at h
  exact h
/-- A slice literal of one miss. -/
theorem wpList_build_miss {P : Program} {ops : Array Oper} {rest : List Oper} {o : Oper} {a : Act} {w : World} {Q : Exit → Act → World → Prop} (hg : o.guard = none) (t e : TypeId) (x : Operand) (ho : o.op = .buildSlice t 1 #[(0, x)])
    (mk : Ms) (ie : TypeInfo) (hu : P.underlying t = some (.slice e)) (hie : P.info? e = some ie) (hz : ie.zero = some Ms.zero.val) (hs : ie.size = 15) (hx : a.eval x = .agg mk.cells.toArray)
    (h : wpList P ops Q rest (a.put o.dst (.slice (some ⟨w.heap.size, 0, none⟩) 1 1)) (w.alloc (.cells mk.cells.toArray e))) : wpList P ops Q (o :: rest) a w := by
  refine wpList_buildSlice hg t e 1 #[(0, x)] ho mk.cells.toArray ie Ms.zero.val hu hie hz (by rw [hs]; decide) (by rw [hs]; decide) ?_ h
  simp only [List.map_toArray, List.map_cons, List.map_nil, hx]
  exact fill_one mk ie hs
def outL (l : List Ms) (i k : Nat) : List Ms := (l.take k).eraseIdx i
theorem outL_zero (l : List Ms) (i : Nat) : outL l i 0 = [] := by simp [outL]
theorem outL_skip {l : List Ms} {i : Nat} (h : i < l.length) : outL l i (i + 1) = outL l i i := by
  unfold outL
  rw [List.take_add_one, List.eraseIdx_of_length_le (l := l.take i) (by simp; omega), List.eraseIdx_append_of_length_le (by simp; omega)]
  have : i - (l.take i).length = 0 := by simp; omega
  rw [this]
  simp [h]
theorem outL_next {l : List Ms} {i k : Nat} {m : Ms} (hk : k ≠ i) (hm : l[k]? = some m) : outL l i (k + 1) = outL l i k ++ [m] := by
  unfold outL
  have hl := (List.getElem?_eq_some_iff.1 hm).1
  rw [List.take_add_one, hm]
  rcases Nat.lt_or_ge i k with h | h
  · rw [List.eraseIdx_append_of_lt_length (by simp; omega)]; rfl
  · rw [List.eraseIdx_of_length_le (l := l.take k) (by simp; omega), List.eraseIdx_of_length_le (by simp; omega)]; rfl
theorem outL_end (l : List Ms) (i : Nat) : outL l i l.length = l.eraseIdx i := by simp [outL]
theorem outL_len (l : List Ms) (i k : Nat) : (outL l i k).length ≤ l.length := by
  unfold outL
  have := List.length_eraseIdx_le (l.take k) i
  simp at this
  omega
section
variable {B fb : Nat} {sv : Value} {room : Int} {l : List Ms} (line : Int) (w : World) (hm : l.length ≤ 1000)
include hm
theorem rclose_none (hf : FileIs w 52 39 B fb sv room l) (hi : l.findIdx? (fun m => m.line == line) = none) :
    Calls Try.prog 27 #[.pointer (some ⟨fb, 0, none⟩), .int .i64 line] w fun e w' => e = .returned (.int .i64 5) ∧ w = w' := by
  have HF := Lib.hid hf
  have HI := Lib.hid (place_none hi)
  clear hf hi
  go_enter Try.func27, Try.ntmps27
  go_wp2_with (go_at_call 31; refine (rplace _ _ hm HF.out).mono ?_; rintro e w' ⟨rfl, rfl⟩; rw [HI.out])
  go_ret
  exact ⟨rfl, rfl⟩
variable {g n c : Nat} (hf : FileIs w 52 39 B fb (.slice (some ⟨g, 0, none⟩) n c) room l) {i : Nat} {m : Ms} (hi : l.findIdx? (fun m => m.line == line) = some i) (hmi : l[i]? = some m)
include hf hi hmi
theorem rclose_table (ht : m.owes = false) :
    Calls Try.prog 27 #[.pointer (some ⟨fb, 0, none⟩), .int .i64 line] w fun e w' => e = .returned (.int .i64 7) ∧ w = w' := by
  have h1 := hf.head1
  have hlt : i < n := by rw [hf.len]; exact (List.getElem?_eq_some_iff.1 hmi).1
  have hn : n ≤ 1000 := by rw [hf.len]; exact hm
  have c14 := hf.elem hmi 14 _ rfl
  have HF := Lib.hid hf
  have HI := Lib.hid (place_some hi)
  clear hf hi hmi
  go_enter Try.func27, Try.ntmps27
  go_wp2_with (go_at_call 31; refine (rplace _ _ hm HF.out).mono ?_; rintro e w' ⟨rfl, rfl⟩; rw [HI.out])
  go_ret
  exact ⟨rfl, rfl⟩
set_option maxHeartbeats 4000000 in
theorem rclose_ok (hB : B ≤ w.heap.size) (ht : m.owes = true) :
    Calls Try.prog 27 #[.pointer (some ⟨fb, 0, none⟩), .int .i64 line] w fun e w' => e = .returned (.int .i64 0) ∧ Did 52 39 B fb (.slice (some ⟨g, 0, none⟩) n c) room (l.eraseIdx i) w w' := by
  have h1 := hf.head1
  have hlt : i < n := by rw [hf.len]; exact (List.getElem?_eq_some_iff.1 hmi).1
  have hn : n ≤ 1000 := by rw [hf.len]; exact hm
  have c14 := hf.elem hmi 14 _ rfl
  obtain rfl := hf.len
  obtain ⟨i0, hi0, hz0, hz1, hz2⟩ := info_parts Try.info39
  have HI0 := Lib.hid hi0
  have HZ0 := Lib.hid hz0
  have HZ1 := Lib.hid hz1
  have HZ2 := Lib.hid hz2
  clear hi0 hz0 hz1 hz2
  have FIN := Lib.hid (show ∀ (w3 : World) (v' : Value), Below w.heap.size w w3 → w3.ownsRow w.heap.size 39 15 v' (l.eraseIdx i).length ((l.eraseIdx i).flatMap Ms.cells) → Did 52 39 B fb (.slice (some ⟨g, 0, none⟩) l.length c) room (l.eraseIdx i) w (w3.setCell ⟨fb, 1, none⟩ v') from fun w3 v' hb hr => did_fresh hf hB hb hr)
  have HF := Lib.hid hf
  have HI := Lib.hid (place_some hi)
  have HM := Lib.hid hmi
  clear hf hi hmi
  go_enter Try.func27, Try.ntmps27
  go_wp2_with (go_at_call 31; refine (rplace _ _ hm HF.out).mono ?_; rintro e w' ⟨rfl, rfl⟩; rw [HI.out])
  go_loopw [6, 7] (fun v6 v7 wr => ∃ k : Nat, v7 = .int .i64 k ∧ k ≤ l.length ∧ ∃ A d, v6 = .slice A (outL l i k).length d ∧ wr.ownsRow w.heap.size 39 15 v6 (outL l i k).length ((outL l i k).flatMap Ms.cells) ∧ Below w.heap.size w wr) (fun _ v _ => l.length - (intOf v).toNat)
  case atStart => 
    refine ⟨0, rfl, by omega, _, _, by rw [outL_zero]; rfl, ?_, (Below.refl _ _).alloc (Nat.le_refl _) _⟩
    rw [outL_zero]
    exact World.ownsRow_made w #[] 0 (Nat.le_refl _) (by simp [maxLen]) rfl
  case round =>
    obtain ⟨k, rfl, hk, A, d, rfl, ho, hb⟩ := hrel
    have HO := Lib.hid ho
    have HB := Lib.hid hb
    have HLN := Lib.hid (outL_len l i k)
    clear ho hb h1
    have h1 := (HF.out.below HB.out).head1
    have f1 := (HF.out.below HB.out).free 1
    by_cases hlt2 : k < l.length
    · obtain ⟨mk, hmk⟩ : ∃ mk, l[k]? = some mk := ⟨_, List.getElem?_eq_getElem hlt2⟩
      have HRM := Lib.hid ((HF.out.below HB.out).elem hmk)
      have HMK := Lib.hid hmk
      clear hmk
      by_cases hki : k = i
      · subst hki
        go_wp2_with fail
        go_roundw
        case rel => exact ⟨k + 1, by go_num, by omega, A, d, by rw [outL_skip hlt2], by rw [outL_skip hlt2]; exact HO.out, HB.out⟩
        case measure => simp [intOf]; omega
      · have hne : ((k : Int) != (i : Int)) = true := by simpa using (fun e => hki (by omega))
        go_wp2_with (first | (refine wpList_load_mid rfl 39 (.tmp 41) rfl g (k * 15) rfl mk.cells _ HRM.out Try.underlying39 rfl Try.size39 ?_; generalize hG : wpList _ _ _ _ _ _ = G; have HG := Lib.hid hG; clear hG))
        rw [← HG.out]
        clear HG
        refine wpList_build_miss rfl 50 39 (.tmp 42) rfl mk i0 Try.underlying50 HI0.out HZ0.out HZ1.out rfl ?_
        refine wpList_append_own _ rfl _ _ 50 rfl w.heap.size 39 i0 Ms.zero.val 15 112 Try.underlying50 HI0.out HZ0.out HZ1.out HZ2.out rfl (by decide) _ (outL l i k).length ((outL l i k).flatMap Ms.cells) rfl (World.ownsRow.alloc HO.out _) ⟨wr.heap.size, 0, none⟩ 1 1 mk.cells rfl ?d1 ?d2 ?d3 ?d4 ?d5 ?d6 ?_
        case d1 => rfl
        case d2 => exact new_plain wr mk.cells 39
        case d3 => exact Ms.one _
        case d4 => have := HLN.out; simp only [maxLen]; omega
        case d5 => have := HLN.out; omega
        case d6 => have := HB.out.size; simp; omega
        intro v2 w3 hown2 hgrow2 _
        have HB3 := Lib.hid ((HB.out.alloc (HB.out.size) _).grown hgrow2 (by have := HB.out.size; simp; omega) (by intro k hk; exact (HO.out.lt k hk).1))
        have HO2 := Lib.hid hown2
        clear hown2 hgrow2
        obtain ⟨A2, d2, rfl⟩ := own_form HO2.out
        go_wp2
        go_roundw
        case rel =>
          refine ⟨k + 1, by go_num, by omega, A2, d2, by rw [outL_next hki HMK.out]; simp, ?_, HB3.out⟩
          rw [outL_next hki HMK.out]
          simpa using HO2.out
        case measure => simp [intOf]; omega
    · have hkn : k = l.length := by omega
      go_wp2_with fail
      go_ret
      subst hkn
      refine ⟨rfl, FIN.out _ _ HB.out ?_⟩
      have := HO.out
      rw [outL_end] at this ⊢
      exact this
end
end Go.Proofs.Ytfjeheioglmalaa
