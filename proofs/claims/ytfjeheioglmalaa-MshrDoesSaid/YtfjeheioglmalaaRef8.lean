/- Grant of the reference file of misses. -/
import Derived.Test.YtfjeheioglmalaaRef5
import Derived.Test.YtfjeheioglmalaaRef7
namespace Go.Proofs.Ytfjeheioglmalaa
open Go.RowKit
set_option linter.unusedSectionVars false
/-- What the reference asks of a state and so many acks. -/
def Fits (m : Ms) (acks own : Int) : Prop := m.needs < 0 ∧ 0 ≤ acks ∧ m.got ≤ acks ∧ ((own = 4 ∧ m.kind = 2) ∨ (acks = 0 ∧ m.kind = 1 ∧ (own = 1 ∨ own = 2)))
theorem fits_iff {t : Int} {m : Ms} (h : MOk t m) (acks own : Int) : fitsB m acks own = true ↔ Fits m acks own := by
  have h1 := h.kind
  have h2 := h.got0
  have h3 := h.needs
  unfold fitsB Fits
  by_cases a : m.needs = -1
  · by_cases b : acks < m.got
    · simp [a, b]; omega
    · rcases h1 with h1 | h1
      · simp [a, b, h1]; omega
      · simp [a, b, h1]; omega
  · simp [a]; omega
section
variable {B fb : Nat} {sv : Value} {room : Int} {l : List Ms} (line acks own' : Int) (x : W8) (w : World) (hm : l.length ≤ 1000)
include hm
theorem rgrant_none (hf : FileIs w 52 39 B fb sv room l) (hi : l.findIdx? (fun m => m.line == line) = none) :
    Calls Try.prog 24 #[.pointer (some ⟨fb, 0, none⟩), .int .i64 line, .int .i64 acks] w fun e w' => e = .returned (.int .i64 5) ∧ Below w.heap.size w w' := by
  have HF := Lib.hid hf
  have HI := Lib.hid hi
  clear hf hi
  go_enter Try.func24, Try.ntmps24
  go_wp2_with (go_at_call 23; refine (rdata_none line acks 4 W8.zero w hm HF.out HI.out).mono ?_; rintro e w' ⟨rfl, hb⟩; have HB := Lib.hid hb; clear hb)
  go_ret
  exact ⟨rfl, HB.out⟩
variable {g n c : Nat} (hf : FileIs w 52 39 B fb (.slice (some ⟨g, 0, none⟩) n c) room l) {i : Nat} {m : Ms} (hi : l.findIdx? (fun m => m.line == line) = some i) (hmi : l[i]? = some m) {t : Int} (hk : MOk t m)
include hf hi hmi hk
theorem rdata_no (ht : ¬ Fits m acks own') :
    Calls Try.prog 23 #[.pointer (some ⟨fb, 0, none⟩), .int .i64 line, .int .i64 acks, .int .i64 own', x.val] w fun e w' => e = .returned (.int .i64 7) ∧ Below w.heap.size w w' := by
  refine rdata_err line acks own' x w hm hf hi hmi m.kind rfl ?_
  have h1 := hk.kind
  have h2 := hk.got0
  have h3 := hk.needs
  unfold Fits at ht
  omega
theorem rdata_yes (ht : Fits m acks own') :
    Calls Try.prog 23 #[.pointer (some ⟨fb, 0, none⟩), .int .i64 line, .int .i64 acks, .int .i64 own', x.val] w fun e w' => e = .returned (.int .i64 0) ∧ Kept 52 39 B fb (.slice (some ⟨g, 0, none⟩) n c) room (l.set i (m.filled acks own' x)) w w' :=
  rdata_ok line acks own' x w hm hf hi hmi m.kind rfl ht.1 ht.2.1 ht.2.2.1 ht.2.2.2
theorem rgrant_no (ht : ¬ Fits m acks 4) :
    Calls Try.prog 24 #[.pointer (some ⟨fb, 0, none⟩), .int .i64 line, .int .i64 acks] w fun e w' => e = .returned (.int .i64 7) ∧ Below w.heap.size w w' := by
  have HD := Lib.hid (rdata_no line acks 4 W8.zero w hm hf hi hmi hk ht)
  clear hf hi hmi
  go_enter Try.func24, Try.ntmps24
  go_wp2_with (go_at_call 23; refine HD.out.mono ?_; rintro e w' ⟨rfl, hb⟩; have HB := Lib.hid hb; clear hb)
  go_ret
  exact ⟨rfl, HB.out⟩
theorem rgrant_yes (ht : Fits m acks 4) :
    Calls Try.prog 24 #[.pointer (some ⟨fb, 0, none⟩), .int .i64 line, .int .i64 acks] w fun e w' => e = .returned (.int .i64 0) ∧ Kept 52 39 B fb (.slice (some ⟨g, 0, none⟩) n c) room (l.set i { m.filled acks 4 W8.zero with granted := true }) w w' := by
  have HD := Lib.hid (rdata_yes line acks 4 W8.zero w hm hf hi hmi hk ht)
  have hlt : i < n := by rw [hf.len]; exact (List.getElem?_eq_some_iff.1 hmi).1
  have hn : n ≤ 1000 := by rw [hf.len]; exact hm
  have hil : i < l.length := (List.getElem?_eq_some_iff.1 hmi).1
  have HI2 := Lib.hid (place_some ((findIdx_set l (fun m => m.line == line) i m (m.filled acks 4 W8.zero) hmi rfl).trans hi))
  have HL := Lib.hid (show (l.set i (m.filled acks 4 W8.zero)).length ≤ 1000 by rw [List.length_set]; exact hm)
  have sl1 : (i : Int) < n := by omega
  clear hf hi hmi
  go_enter Try.func24, Try.ntmps24
  go_wp2_with (go_at_call 23; refine HD.out.mono ?_; rintro e w1 ⟨rfl, hb⟩; have HK := Lib.hid hb; have h1 := hb.1.head1; clear hb)
  refine wp_region_still_tail 9 (by kernel_rfl) (by kernel_rfl) ?_
  simp only [List.take_succ_cons, List.take_zero, List.drop_succ_cons, List.drop_zero]
  have HC := Lib.hid (show Calls Try.prog 31 #[.pointer (some ⟨fb, 0, none⟩), .int .i64 line] (w1.drewN 1) (fun e w'' => e = .returned (.int .i64 i) ∧ w'' = w1.drewN 1) from by
    refine (rplace line (w1.drewN 1) HL.out (HK.out.1.below (below_drawn (Below.refl _ w1) 1))).mono ?_
    rintro e w' ⟨rfl, rfl⟩
    exact ⟨by rw [HI2.out], rfl⟩)
  still_step
  still_step
  still_step
  still_step
  still_step
  still_step
  still_call HC.out
  still_step
  still_step
  refine wpStill_nil ?_
  have hmem : (l.set i (m.filled acks 4 W8.zero))[i]? = some (m.filled acks 4 W8.zero) := by simp [hil]
  have c13 := (HK.out.1.below (below_drawn (Below.refl _ w1) 1)).elem hmem 13 _ rfl
  have f13 := (HK.out.1.below (below_drawn (Below.refl _ w1) 1)).rowFree (i * 15 + 13)
  clear hmem h1
  change wpList _ _ _ _ _ (w1.drewN 1)
  go_wp2
  go_ret
  refine ⟨rfl, ((HK.out.1.below (below_drawn (Below.refl _ w1) 1)).setAgain (m1 := m.filled acks 4 W8.zero) { m.filled acks 4 W8.zero with granted := true } hil (by decide) rfl), ?_⟩
  refine Chg.setCell ?_ (.inr rfl) _
  exact chg_drawn HK.out.2 1
end
end Go.Proofs.Ytfjeheioglmalaa
