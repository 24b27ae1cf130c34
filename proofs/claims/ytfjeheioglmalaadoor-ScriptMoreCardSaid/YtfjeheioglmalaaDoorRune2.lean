/- The scanner's rune. -/
import Derived.Test.YtfjeheioglmalaaDoorRune
namespace Go.Proofs.YtfjeheioglmalaaDoor
open Go.RowKit Go.Lib
theorem kind_byte (c : UInt8) : Lib.indexByte [32, 76, 83, 88, 70] c = kindOf (c.toNat : Int) := by
  have key : ∀ n, n < 256 → Lib.indexByte [32, 76, 83, 88, 70] (UInt8.ofNat n) = kindOf (n : Int) := by decide +kernel
  have := key c.toNat c.toNat_lt
  rwa [UInt8.ofNat_toNat] at this
theorem letters_walk (c : Int) (h0 : 0 ≤ c) (h1 : c ≤ 2147483647) (w : World) : Calls Tryd.prog 48 #[.string ⟨#[32, 76, 83, 88, 70]⟩, .int .i32 c] w fun e w' => e = .returned (.int .i64 (kindOf c)) ∧ Below w.heap.size w w' := by
  by_cases h : c < 128
  · refine (Tryd.strings_IndexRune_ascii _ c w h0 h).mono ?_
    rintro e w' ⟨rfl, rfl⟩
    refine ⟨ret_int ?_, Below.refl _ _⟩
    have : (c.toNat.toUInt8).toNat = c.toNat := by
      show (UInt8.ofNat c.toNat).toNat = _
      simp; omega
    rw [kind_byte, this, Int.toNat_of_nonneg h0]
  · refine (rune_high c (by omega) h1 w).mono ?_
    rintro e w' ⟨rfl, hb⟩
    refine ⟨ret_int ?_, hb⟩
    unfold kindOf
    rw [if_neg (by omega), if_neg (by omega), if_neg (by omega), if_neg (by omega), if_neg (by omega)]
theorem hs_below {w w1 : World} {g : Nat} {s : Sc} (hs : ScIs w g s) (hw : Below w.heap.size w w1) : ScIs w1 g s := (hw.block g (Array.getElem?_eq_some_iff.1 hs).1).trans hs
theorem rune_minus {w : World} {g : Nat} {k a num dig : Int} {minus value b : Bool} (hs : ScIs w g ⟨k, a, num, dig, minus, value⟩) (hb : (value && decide (dig = 0) && !minus) = b) :
    ScPost g w (Sc.rune ⟨k, a, num, dig, minus, value⟩ 45) (.returned (.bool b)) (w.setCell ⟨g, 5, none⟩ (.bool true)) := by
  subst hb
  exact ⟨rfl, heap_setCell_same w g 5 _ 63 _ hs, grown_set _ _ _ _⟩
theorem rune_eq {w : World} {g : Nat} {k a num dig : Int} {minus value b : Bool} (hs : ScIs w g ⟨k, a, num, dig, minus, value⟩) (hb : (decide (0 < dig) && !value && decide (k = 2 ∨ k = 3)) = b) :
    ScPost g w (Sc.rune ⟨k, a, num, dig, minus, value⟩ 61) (.returned (.bool b)) ((((w.setCell ⟨g, 1, none⟩ (.int .i64 num)).setCell ⟨g, 3, none⟩ (.int .i64 0)).setCell ⟨g, 4, none⟩ (.int .i64 0)).setCell ⟨g, 6, none⟩ (.bool true)) := by
  subst hb
  exact ⟨rfl, heap_setCell_same _ g 6 _ 63 _ (heap_setCell_same _ g 4 _ 63 _ (heap_setCell_same _ g 3 _ 63 _ (heap_setCell_same w g 1 _ 63 _ hs))), (((grown_set _ _ _ _).trans (grown_set _ _ _ _)).trans (grown_set _ _ _ _)).trans (grown_set _ _ _ _)⟩
theorem rune_kind {w w1 : World} {g : Nat} {k a num dig c : Int} {minus value b : Bool} (hs : ScIs w g ⟨k, a, num, dig, minus, value⟩) (hw : Below w.heap.size w w1) (h0 : ¬ (48 ≤ c ∧ c ≤ 57)) (h1 : c ≠ 45) (h2 : c ≠ 61) (hb : (decide (k = 0) && decide (0 < kindOf c)) = b) :
    ScPost g w (Sc.rune ⟨k, a, num, dig, minus, value⟩ c) (.returned (.bool b)) (w1.setCell ⟨g, 0, none⟩ (.int .i64 (kindOf c))) := by
  subst hb
  have hlt : g < w.heap.size := (Array.getElem?_eq_some_iff.1 hs).1
  unfold Sc.rune
  rw [if_neg h0, if_neg h1, if_neg h2]
  exact ⟨rfl, heap_setCell_same w1 g 0 _ 63 _ ((hw.block g hlt).trans hs), (World.grownBy.trans ⟨hw.os, hw.tape, hw.output, hw.size, fun k hk _ => hw.block k hk⟩ (grown_set _ _ _ _))⟩
theorem rune_dig {w w' : World} {g : Nat} {s : Sc} {c : Int} {e : Ending} (h : ScPost g w (s.digit (c - 48)) e w') (h0 : 48 ≤ c) (h1 : c ≤ 57) : ScPost g w (s.rune c) e w' := by
  unfold Sc.rune
  rw [if_pos ⟨h0, h1⟩]
  exact h
set_option maxHeartbeats 1000000 in
theorem rune_walk (s : Sc) (c : Int) (g : Nat) (w : World) (hs : ScIs w g s) (h0 : 0 ≤ c) (h1 : c ≤ 2147483647) (hn0 : 0 ≤ s.num) (hn1 : s.num ≤ 2147483648) (hd0 : 0 ≤ s.dig) (hd1 : s.dig ≤ 5000) :
    Calls Tryd.prog 28 #[.pointer (some ⟨g, 0, none⟩), .int .i32 c] w (ScPost g w (s.rune c)) := by
  by_cases hdg : 48 ≤ c ∧ c ≤ 57
  · obtain ⟨g0, g1⟩ := hdg
    have HD := digit_walk s (c - 48) g w hs (by omega) (by omega) hn0 hn1 hd0 hd1
    clear hs
    go_enter Tryd.func28, Tryd.ntmps28
    go_wp2_with fail
    refine HD.mono ?_
    rintro e w' ⟨rfl, hs, hg⟩
    go_wp2
    go_ret
    exact rune_dig ⟨rfl, hs, hg⟩ g0 g1
  · obtain ⟨k, a, num, dig, minus, value⟩ := s
    simp only at hn0 hn1 hd0 hd1
    obtain ⟨c0, c1, c2, c3, c4, c5, c6⟩ := hs.cells
    have f0 := hs.free 0
    have f1 := hs.free 1
    have f3 := hs.free 3
    have f4 := hs.free 4
    have f5 := hs.free 5
    have f6 := hs.free 6
    have HS := Lib.hid hs
    simp only at c0 c1 c2 c3 c4 c5 c6
    clear hs
    by_cases h45 : c = 45
    · subst h45
      clear hdg
      go_enter Tryd.func28, Tryd.ntmps28
      go_wp2_with fail
      all_goals (try (rename dig = 0 => q; subst q))
      all_goals (try (rename minus = true => q; subst q))
      all_goals (try (rename minus = false => q; subst q))
      all_goals (try (rename value = true => q; subst q))
      all_goals (try (rename value = false => q; subst q))
      all_goals (go_ret; refine rune_minus HS.out ?_; simp [*])
    · by_cases h61 : c = 61
      · subst h61
        clear hdg h45
        go_enter Tryd.func28, Tryd.ntmps28
        go_wp2_with fail
        all_goals (try (rename value = true => q; subst q))
        all_goals (try (rename value = false => q; subst q))
        all_goals (go_ret; refine rune_eq HS.out ?_; first | (simp [*]; done) | (simp [*]; rfl) | (simp [*]; intro h; exfalso; omega))
      · have hcf : (48 ≤ c → ¬ c ≤ 57) := fun h h' => hdg ⟨h, h'⟩
        have HDG := Lib.hid hdg
        have H45 := Lib.hid h45
        have H61 := Lib.hid h61
        have k45 : (c == 45) = false := by simpa using h45
        have k61 : (c == 61) = false := by simpa using h61
        clear hdg h45 h61
        by_cases h48 : 48 ≤ c
        · have h57 : ¬ c ≤ 57 := hcf h48
          clear hcf
          go_enter Tryd.func28, Tryd.ntmps28
          go_wp2_with fail
          refine (letters_walk c h0 h1 _).mono ?_
          rintro e w1 ⟨rfl, hb⟩
          obtain ⟨d0, d1, d2, d3, d4, d5, d6⟩ := (hs_below HS.out hb).cells
          have e0 := (hs_below HS.out hb).free 0
          have HB := Lib.hid hb
          clear hb c0 c1 c2 c3 c4 c5 c6 d1 d2 d3 d4 d5 d6
          simp only at d0
          go_wp2_with fail
          all_goals (go_ret; refine rune_kind HS.out HB.out HDG.out H45.out H61.out ?_; simp [*])
        · clear hcf
          go_enter Tryd.func28, Tryd.ntmps28
          go_wp2_with fail
          refine (letters_walk c h0 h1 _).mono ?_
          rintro e w1 ⟨rfl, hb⟩
          obtain ⟨d0, d1, d2, d3, d4, d5, d6⟩ := (hs_below HS.out hb).cells
          have e0 := (hs_below HS.out hb).free 0
          have HB := Lib.hid hb
          clear hb c0 c1 c2 c3 c4 c5 c6 d1 d2 d3 d4 d5 d6
          simp only at d0
          go_wp2_with fail
          all_goals (go_ret; refine rune_kind HS.out HB.out HDG.out H45.out H61.out ?_; simp [*])
end Go.Proofs.YtfjeheioglmalaaDoor
