/- Grant, Open and Close of the reference file of misses. -/
import Derived.Test.YtfjeheioglmalaaRef4
import Derived.Laws.AppendOwnNone
namespace Go.Proofs.Ytfjeheioglmalaa
open Go.RowKit
set_option linter.unusedSectionVars false
section
variable {B fb : Nat} {sv : Value} {room : Int} {l : List Ms} (line kind : Int) (w : World) (hm : l.length ≤ 1000)
include hm
theorem ropen_arg (h1 : kind ≠ 1) (h2 : kind ≠ 2) :
    Calls Try.prog 22 #[.pointer (some ⟨fb, 0, none⟩), .int .i64 line, .int .i64 kind] w fun e w' => e = .returned (.int .i64 1) ∧ w = w' := by
  have b1 : (kind != 1) = true := by simpa using h1
  have b2 : (kind != 2) = true := by simpa using h2
  clear h1 h2
  go_enter Try.func22, Try.ntmps22
  go_wp2
  go_ret
  exact ⟨rfl, rfl⟩
theorem ropen_twice (hk : kind = 1 ∨ kind = 2) (hf : FileIs w 52 39 B fb sv room l) {i : Nat} (hi : l.findIdx? (fun m => m.line == line) = some i) :
    Calls Try.prog 22 #[.pointer (some ⟨fb, 0, none⟩), .int .i64 line, .int .i64 kind] w fun e w' => e = .returned (.int .i64 6) ∧ w = w' := by
  have HF := Lib.hid hf
  have HI := Lib.hid (place_some hi)
  clear hf hi
  rcases hk with rfl | rfl
  all_goals
    go_enter Try.func22, Try.ntmps22
    go_wp2_with (go_at_call 31; refine (rplace _ _ hm HF.out).mono ?_; rintro e w' ⟨rfl, rfl⟩; rw [HI.out])
    go_ret
    exact ⟨rfl, rfl⟩
theorem ropen_full (hk : kind = 1 ∨ kind = 2) (hf : FileIs w 52 39 B fb sv room l) (hi : l.findIdx? (fun m => m.line == line) = none) (hr : room ≤ (l.length : Int)) :
    Calls Try.prog 22 #[.pointer (some ⟨fb, 0, none⟩), .int .i64 line, .int .i64 kind] w fun e w' => e = .returned (.int .i64 4) ∧ Below w.heap.size w w' := by
  obtain ⟨A, c, rfl⟩ := own_form hf.row
  have c0 := hf.head0
  have c1 := hf.head1
  have hfb := hf.lt
  have HF := Lib.hid hf
  have HI := Lib.hid (place_none hi)
  clear hf hi
  rcases hk with rfl | rfl
  all_goals
    go_enter Try.func22, Try.ntmps22
    go_wp2_with (go_at_call 31; refine (rplace _ _ hm HF.out).mono ?_; rintro e w' ⟨rfl, rfl⟩; rw [HI.out])
    go_quiet (fail)
    go_wp2
    go_ret
    exact ⟨rfl, below_drawn (Below.refl _ _) _⟩
omit hm in
/-- A new row in the place of the old one, all of it laid since. -/
theorem did_fresh {w w3 : World} {ft mt : TypeId} {l' : List Ms} {v' : Value} (hf : FileIs w ft mt B fb sv room l) (hB : B ≤ w.heap.size) (hb : Below w.heap.size w w3) (hr : w3.ownsRow w.heap.size mt 15 v' l'.length (l'.flatMap Ms.cells)) :
    Did ft mt B fb sv room l' w (w3.setCell ⟨fb, 1, none⟩ v') := by
  have f3 := hf.below hb
  refine ⟨v', ⟨heap_setCell_same w3 fb 1 _ ft v' f3.head, ?_, hf.base, hf.apart⟩, (Chg.of_below hb).setCell (.inl rfl) _, ?_⟩
  · obtain ⟨h1, h2⟩ := hr
    refine ⟨h1, ?_⟩
    rcases h2 with h2 | ⟨g, cap, cur, rfl, hb2, hg2, rest⟩
    · exact .inl h2
    · refine .inr ⟨g, cap, cur, rfl, by omega, (Below.heap_setCell w3 _ _ g ?_).trans hg2, rest⟩
      rintro rfl
      have := hf.lt
      omega
  · intro k hk
    rcases hk with rfl | hk
    · exact .inl (.inl rfl)
    · exact .inr (hr.lt k hk).1
theorem ropen_ok (hB : B ≤ w.heap.size) (hk : kind = 1 ∨ kind = 2) (hf : FileIs w 52 39 B fb sv room l) (hi : l.findIdx? (fun m => m.line == line) = none) (hr : (l.length : Int) < room) :
    Calls Try.prog 22 #[.pointer (some ⟨fb, 0, none⟩), .int .i64 line, .int .i64 kind] w fun e w' => e = .returned (.int .i64 0) ∧ Did 52 39 B fb sv room (l ++ [Ms.new line kind]) w w' := by
  have hk2 : (kind != 1) = false ∨ (kind != 1) = true ∧ (kind != 2) = false := by rcases hk with rfl | rfl <;> simp
  clear hk
  obtain ⟨i0, hi0, hz0, hz1, hz2⟩ := info_parts Try.info39
  have HI0 := Lib.hid hi0
  have HZ0 := Lib.hid hz0
  have HZ1 := Lib.hid hz1
  have HZ2 := Lib.hid hz2
  clear hi0 hz0 hz1 hz2
  have hl2 : (l.length + 1) * 112 ≤ 140737488355328 := by omega
  have HL := Lib.hid hl2
  clear hl2
  have fin : ∀ (w3 : World) (v' : Value), Below w.heap.size w w3 → w3.ownsRow w.heap.size 39 15 v' (l.length + 1) (l.flatMap Ms.cells ++ (Ms.new line kind).cells) → Did 52 39 B fb sv room (l ++ [Ms.new line kind]) w (w3.setCell ⟨fb, 1, none⟩ v') := by
    intro w3 v' hb hr
    refine did_fresh hf hB hb ?_
    rw [List.length_append, List.flatMap_append]
    simpa using hr
  have FIN := Lib.hid fin
  clear fin
  have hnr : ¬ room ≤ (l.length : Int) := by omega
  clear hr
  have h1 := hf.head1
  have c0 := hf.head0
  have hfb := hf.lt
  have h1a : ∀ nq o, ((w.drewN nq).alloc o).cell? ⟨fb, 1, none⟩ = some sv := fun nq o => ((hf.below (below_drawn (Below.refl _ w) nq)).below (w' := (w.drewN nq).alloc o) ((Below.refl _ _).alloc (Nat.le_refl _) o)).head1
  have HI := Lib.hid (place_none hi)
  clear hi
  rcases hf.row.2 with ⟨rfl, h0⟩ | ⟨g, c, cur, rfl, _⟩
  · have e0 : l = [] := List.eq_nil_of_length_eq_zero h0
    subst e0
    have HF := Lib.hid hf
    clear hf
    rcases hk2 with k1 | ⟨k1, k2⟩
    all_goals
      go_enter Try.func22, Try.ntmps22
      go_wp2_with (go_at_call 31; refine (rplace _ _ hm HF.out).mono ?_; rintro e w' ⟨rfl, rfl⟩; rw [HI.out])
      go_quiet (fail)
      have HD := Lib.hid (below_drawn (Below.refl w.heap.size w) nq)
      have HSZ := Lib.hid (show (w.drewN nq).heap.size = w.heap.size from rfl)
      have h1d := h1a nq
      have HFD := Lib.hid (HF.out.below (below_drawn (Below.refl _ w) nq))
      generalize w.drewN nq = wd at HD HSZ h1d HFD ⊢
      have hfd : fb < wd.heap.size := by rw [HSZ.out]; exact hfb
      go_wp2_with (at_builtin; first | (refine wpList_append_own_none rfl _ _ 50 rfl w.heap.size 39 i0 15 Try.underlying50 HI0.out _ 0 [] rfl (World.ownsRow_made wd #[] 0 (Nat.le_of_eq HSZ.out.symm) (by simp [maxLen]) rfl) rfl ?_) | (refine wpList_append_own _ rfl _ _ 50 rfl w.heap.size 39 i0 Ms.zero.val 15 112 Try.underlying50 HI0.out HZ0.out HZ1.out HZ2.out rfl (by decide) _ 0 [] rfl (World.ownsRow.alloc (World.ownsRow_made wd #[] 0 (Nat.le_of_eq HSZ.out.symm) (by simp [maxLen]) rfl) _) ⟨wd.heap.size + 1, 0, none⟩ 1 1 (Ms.new line kind).cells rfl ?d1 ?d2 ?d3 ?d4 ?d5 ?d6 ?_))
      case d1 => rfl
      case d2 =>
        have h := new_plain (wd.alloc (.cells #[] 39)) (Ms.new line kind).cells 39
        rw [show (wd.alloc (.cells #[] 39)).heap.size = wd.heap.size + 1 by simp] at h
        exact h
      case d3 => exact Ms.one _
      case d4 => simp only [maxLen]; omega
      case d5 => exact HL.out
      case d6 => have := HSZ.out; simp; omega
      intro v2 w3 hown2 hgrow2 _
      have HB3 := Lib.hid (((HD.out.alloc (Nat.le_of_eq HSZ.out.symm) _).alloc (by have := HSZ.out; simp; omega) _).grown hgrow2 (by have := HSZ.out; simp; omega) (by intro k hk; have := HSZ.out; simp [Value.ownBlock] at hk; omega))
      have HO2 := Lib.hid hown2
      have c1 := (HF.out.below HB3.out).head1
      have f1 := (HF.out.below HB3.out).free 1
      clear hown2 hgrow2
      obtain ⟨A2, d2, rfl⟩ := own_form HO2.out
      go_wp2
      go_ret
      exact ⟨rfl, FIN.out _ _ HB3.out (by simpa using HO2.out)⟩
  · have HF := Lib.hid hf
    clear hf
    rcases hk2 with k1 | ⟨k1, k2⟩
    all_goals
      go_enter Try.func22, Try.ntmps22
      go_wp2_with (go_at_call 31; refine (rplace _ _ hm HF.out).mono ?_; rintro e w' ⟨rfl, rfl⟩; rw [HI.out])
      go_quiet (fail)
      have HD := Lib.hid (below_drawn (Below.refl w.heap.size w) nq)
      have HSZ := Lib.hid (show (w.drewN nq).heap.size = w.heap.size from rfl)
      have h1d := h1a nq
      have HFD := Lib.hid (HF.out.below (below_drawn (Below.refl _ w) nq))
      generalize w.drewN nq = wd at HD HSZ h1d HFD ⊢
      have hfd : fb < wd.heap.size := by rw [HSZ.out]; exact hfb
      go_wp2_with (at_builtin; go_must (refine wpList_append_own _ rfl _ _ 50 rfl w.heap.size 39 i0 Ms.zero.val 15 112 Try.underlying50 HI0.out HZ0.out HZ1.out HZ2.out rfl (by decide) _ 0 [] rfl (World.ownsRow_made wd #[] 0 (Nat.le_of_eq HSZ.out.symm) (by simp [maxLen]) rfl) ⟨g, 0, none⟩ l.length c (l.flatMap Ms.cells) rfl ?c1 ?c2 ?c3 ?c4 ?c5 ?c6 ?_))
      case c1 => exact flat_length _ _ _ Ms.len
      case c2 => exact range_plain (World.rangeAt_alloc HFD.out.range _)
      case c3 => exact flat_one l
      case c4 => simp only [maxLen]; omega
      case c5 => omega
      case c6 => have := HSZ.out; simp; omega
      intro v1 w2 hown1 hgrow1 _
      have HB2 := Lib.hid (((HD.out.alloc (Nat.le_of_eq HSZ.out.symm) _).grown hgrow1 (by have := HSZ.out; simp; omega) (by intro k hk; have := HSZ.out; simp [Value.ownBlock] at hk; omega)))
      have HO1 := Lib.hid hown1
      have c1 := (HF.out.below HB2.out).head1
      have f1 := (HF.out.below HB2.out).free 1
      clear hown1 hgrow1
      obtain ⟨A1, d1, rfl⟩ := own_form HO1.out
      go_wp2_with (at_builtin; go_must (refine wpList_append_own _ rfl _ _ 50 rfl w.heap.size 39 i0 Ms.zero.val 15 112 Try.underlying50 HI0.out HZ0.out HZ1.out HZ2.out rfl (by decide) _ l.length (l.flatMap Ms.cells) rfl (World.ownsRow.alloc HO1.out _) ⟨w2.heap.size, 0, none⟩ 1 1 (Ms.new line kind).cells rfl ?d1 ?d2 ?d3 ?d4 ?d5 ?d6 ?_))
      case d1 => rfl
      case d2 => exact new_plain w2 (Ms.new line kind).cells 39
      case d3 => exact Ms.one _
      case d4 => simp only [maxLen]; omega
      case d5 => exact HL.out
      case d6 => have := HB2.out.size; simp; omega
      intro v2 w3 hown2 hgrow2 _
      have HB3 := Lib.hid ((HB2.out.alloc (HB2.out.size) _).grown hgrow2 (by have := HB2.out.size; simp; omega) (by intro k hk; exact (HO1.out.lt k hk).1))
      have HO2 := Lib.hid hown2
      have c1 := (HF.out.below HB3.out).head1
      have f1 := (HF.out.below HB3.out).free 1
      clear hown2 hgrow2
      obtain ⟨A2, d2, rfl⟩ := own_form HO2.out
      go_wp2
      go_ret
      exact ⟨rfl, FIN.out _ _ HB3.out (by simpa using HO2.out)⟩
end
end Go.Proofs.Ytfjeheioglmalaa
