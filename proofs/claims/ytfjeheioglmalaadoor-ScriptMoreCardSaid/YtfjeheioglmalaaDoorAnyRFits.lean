/- The reference's Fits. -/
import Derived.Test.YtfjeheioglmalaaDoorFits2
namespace Go.Proofs.YtfjeheioglmalaaDoor.Any
open Go.RowKit Go.Lib
set_option linter.unusedVariables false
set_option linter.unusedSimpArgs false
def ThreeAt (w : World) (b o : Nat) (x y z : Int) : Prop := w.cell? ⟨b, o, none⟩ = some (.int .i64 x) ∧ w.cell? ⟨b, o + 1, none⟩ = some (.int .i64 y) ∧ w.cell? ⟨b, o + 2, none⟩ = some (.int .i64 z)
theorem threeAt_drew {w : World} {b o : Nat} {x y z : Int} (h : ThreeAt w b o x y z) : ThreeAt w.drew b o x y z := h
theorem threeAt_below {W w2 : World} {b o : Nat} {x y z : Int} (hb : Below W.heap.size W w2) (h : ThreeAt W b o x y z) : ThreeAt w2 b o x y z := by
  obtain ⟨hc, hf⟩ := bcell hb
  have hg := World.block_lt_of_cell? W _ h.1
  exact ⟨(hc b o hg).trans h.1, (hc b (o + 1) hg).trans h.2.1, (hc b (o + 2) hg).trans h.2.2⟩
theorem threeAt_range {w : World} {b o : Nat} {x : PO} (h : w.rangeAt b o x.arr.toList) : ThreeAt w b o x.k x.a x.v := ⟨h 0 _ rfl, h 1 _ rfl, h 2 _ rfl⟩
theorem cfg_two {w : World} {g : Nat} {c : Cfg} {t : TypeId} {f : Nat × Nat} (h : w.heap[g]? = some (.cells c.arr t f)) : w.cell? ⟨g, 4, none⟩ = some (.int .i64 c.words) ∧ w.cell? ⟨g, 5, none⟩ = some (.int .i64 c.lines) := ⟨box_cell h 4 rfl, box_cell h 5 rfl⟩
theorem fits_not {c : Cfg} {l : List PO} (h : c.ok = false ∨ 64 < l.length) : fitsP c l = false := by
  unfold fitsP
  rcases h with h | h
  · rw [h]; rfl
  · have : decide (l.length ≤ 64) = false := by simp; omega
    rw [this]; simp
set_option maxRecDepth 100000 in
set_option maxHeartbeats 4000000 in
theorem fits_ref (c : Cfg) (l : List PO) (A : Option Addr) (cap : Nat) (hl : l.length ≤ 9223372036854775807) (w : World) (ho : OpsIn w A l) :
    Calls Tryd.prog 19 #[c.val, .slice A l.length cap] w fun e w' => e = .returned (.bool (fitsP c l)) ∧ Below w.heap.size w w' := by
  have HCK := Lib.hid (fun W => rcheck_walk c W)
  have HO := Lib.hid ho
  clear ho
  obtain ⟨res, hres⟩ : ∃ b, fitsP c l = b := ⟨_, rfl⟩
  have HRES := Lib.hid hres
  rw [hres]
  clear hres
  have HB0 := Lib.hid ((Below.refl w.heap.size w).alloc (Nat.le_refl _) (.cells c.arr 31))
  have HC0 := Lib.hid (heap_alloc_new w (.cells c.arr 31))
  have hno : okNo c = if c.ok then 0 else 1 := rfl
  cases hok : c.ok
  · rw [hok] at hno
    have HN := Lib.hid hno
    have HOK := Lib.hid hok
    clear hno hok
    unfold Cfg.val
    go_enter Tryd.func19, Tryd.ntmps19
    go_wp2_with (first | (refine wpList_load_row rfl 31 (.tmp 2) rfl w.heap.size rfl 31 c.arr (0, 0) _ HC0.out Tryd.underlying31 rfl Tryd.size31 ?_))
    refine (HCK.out _).mono ?_
    rintro e w4 ⟨rfl, hb⟩
    rw [HN.out]
    have HB4 := Lib.hid hb
    clear hb
    go_wp2_with fail
    go_ret
    exact ⟨ret_bool' (by rw [← HRES.out, fits_not (.inl HOK.out)]), HB0.out.trans (HB4.out.mono HB0.out.size)⟩
  · have hr := ok_bounds hok
    obtain ⟨m1, m2⟩ := mul_range hr
    obtain ⟨q1, q2, q3, q4⟩ := hr
    have hwr : IntKind.i64.wrap (c.words * c.lines) = c.words * c.lines := IntWalk.i64_in _ (by omega)
    have hsz : sizeP c = c.words * c.lines := by unfold sizeP; rw [hok]; rfl
    have HS := Lib.hid hsz
    rw [hok] at hno
    have HN := Lib.hid hno
    have HOK := Lib.hid hok
    clear hno hok hsz
    by_cases h64 : 64 < l.length
    · have h64' : (64 : Int) < l.length := by omega
      clear hwr m1 m2 q1 q2 q3 q4
      unfold Cfg.val
      go_enter Tryd.func19, Tryd.ntmps19
      go_wp2_with (first | (refine wpList_load_row rfl 31 (.tmp 2) rfl w.heap.size rfl 31 c.arr (0, 0) _ HC0.out Tryd.underlying31 rfl Tryd.size31 ?_))
      refine (HCK.out _).mono ?_
      rintro e w4 ⟨rfl, hb⟩
      rw [HN.out]
      have HB4 := Lib.hid hb
      clear hb
      go_wp2_with fail
      go_ret
      exact ⟨ret_bool' (by rw [← HRES.out, fits_not (.inr h64)]), HB0.out.trans (HB4.out.mono HB0.out.size)⟩
    · have h64' : ¬ (64 : Int) < l.length := by omega
      unfold Cfg.val
      go_enter Tryd.func19, Tryd.ntmps19
      go_wp2_with (first | (refine wpList_load_row rfl 31 (.tmp 2) rfl w.heap.size rfl 31 c.arr (0, 0) _ HC0.out Tryd.underlying31 rfl Tryd.size31 ?_))
      refine (HCK.out _).mono ?_
      rintro e w0 ⟨rfl, hb⟩
      rw [HN.out]
      have HBI := Lib.hid (HB0.out.trans (hb.mono HB0.out.size))
      have HCI := Lib.hid ((hb.block w.heap.size (Array.getElem?_eq_some_iff.1 HC0.out).1).trans HC0.out)
      clear hb
      go_wp2_with fail
      go_loopw [5] (fun v wr => ∃ k : Nat, v = .int .i64 k ∧ k ≤ l.length ∧ (∀ j x, j < k → l[j]? = some x → x.may = true ∧ x.a < sizeP c) ∧ Below w.heap.size w wr ∧ wr.heap[w.heap.size]? = some (.cells c.arr 31 (0, 0))) (fun v _ => l.length - (RowKit.intOf v).toNat)
      case atStart => exact ⟨0, rfl, by omega, fun j x hj => by omega, HBI.out, HCI.out⟩
      case round =>
        obtain ⟨k, rfl, hk, hno, hb, hcf⟩ := hrel
        have HNO := Lib.hid hno
        have HB := Lib.hid hb
        have HCF := Lib.hid hcf
        clear hno hb hcf
        by_cases hlt : k < l.length
        · obtain ⟨x, hx⟩ : ∃ x, l[k]? = some x := ⟨_, List.getElem?_eq_getElem hlt⟩
          obtain ⟨b, off, hA, _, har⟩ := (HO.out.below HB.out) k x hx
          subst hA
          obtain ⟨xk, xa, xv⟩ := x
          have HTA := Lib.hid (threeAt_range har)
          have HX := Lib.hid hx
          clear har hx
          have hltc := (Array.getElem?_eq_some_iff.1 HCF.out).1
          have hk0 : (0 : Int) ≤ (k : Int) := by omega
          have hk1 : (k : Int) < (l.length : Int) := by omega
          go_wp2_with fail
          cases hm : PO.may ⟨xk, xa, xv⟩
          · have HM := Lib.hid hm
            have HF : Hid (false = res) := by have := fits_bad (c := c) HX.out (.inl hm); rw [HRES.out] at this; exact this.symm
            clear hm
            refine wp_region_noPanic ?_
            refine wp_region_held_drew (S := fun w' => ThreeAt w' b (off + k * 3) xk xa xv) (by kernel_rfl) (threeAt_drew HTA.out) (fun hHeld => ?_)
            change wpAnyH _ _ _ _ _ 19 #[false, false, false, false, false, false, false, false, false, false, false, false, false, false, false, false, false, false, false] _ _
            try simp only [Act.put, List.setIfInBounds_toArray, List.set_cons_zero, List.set_cons_succ]
            refine held_take 0 20 (v := ?_) rfl rfl (by kernel_rfl) (by kernel_rfl) (by kernel_rfl) (fun _ _ _ h => h) (Or.inl ⟨by rfl, ?_⟩) (by assumption) ?_
            rotate_left
            · intro w hSw
              obtain ⟨y0, y1, y2⟩ := hSw
              go_simp
              first | done | (with_reducible rfl)
            try simp only [Act.put, List.setIfInBounds_toArray, List.set_cons_zero, List.set_cons_succ]
            refine held_take 1 21 (v := ?_) rfl rfl (by kernel_rfl) (by kernel_rfl) (by kernel_rfl) (fun _ _ _ h => h) (Or.inl ⟨by rfl, ?_⟩) (by assumption) ?_
            rotate_left
            · intro w hSw
              obtain ⟨y0, y1, y2⟩ := hSw
              go_simp
              first | done | (with_reducible rfl)
            try simp only [Act.put, List.setIfInBounds_toArray, List.set_cons_zero, List.set_cons_succ]
            refine held_take 2 22 (v := ?_) rfl rfl (by kernel_rfl) (by kernel_rfl) (by kernel_rfl) (fun _ _ _ h => h) (Or.inl ⟨by rfl, ?_⟩) (by assumption) ?_
            rotate_left
            · intro w hSw
              obtain ⟨y0, y1, y2⟩ := hSw
              go_simp
              first | done | (with_reducible rfl)
            try simp only [Act.put, List.setIfInBounds_toArray, List.set_cons_zero, List.set_cons_succ]
            refine held_take 3 23 (v := ?_) rfl rfl (by kernel_rfl) (by kernel_rfl) (by kernel_rfl) (fun _ _ _ h => h) (Or.inl ⟨by rfl, ?_⟩) (by assumption) ?_
            rotate_left
            · intro w hSw
              obtain ⟨y0, y1, y2⟩ := hSw
              go_simp
              first | done | (with_reducible rfl)
            try simp only [Act.put, List.setIfInBounds_toArray, List.set_cons_zero, List.set_cons_succ]
            refine wpAnyH_ready (rs := [4]) (by kernel_rfl) (by simp) ?_
            refine AllReadyH.cons rfl (fun K hK => ?_) AllReadyH.nil
            go_simp
            go_at_call 17
            refine (rmay_walk ⟨xk, xa, xv⟩ _).mono ?_; rw [HM.out]; rintro e w4 ⟨rfl, hb⟩
            have HB4 := Lib.hid (HB.out.trans ((below_undrew hb).mono HB.out.size))
            have HT4 := Lib.hid (threeAt_below hb hHeld)
            clear hb
            go_wp2_with fail
            refine hK.out _ _ HT4.out (fun hHeld2 => ?_)
            clear hK K
            try simp only [Act.put, List.setIfInBounds_toArray, List.set_cons_zero, List.set_cons_succ]
            refine held_take 5 25 (v := ?_) rfl rfl (by kernel_rfl) (by kernel_rfl) (by kernel_rfl) (fun _ _ _ h => h) (Or.inl ⟨by rfl, ?_⟩) (by assumption) ?_
            rotate_left
            · intro w hSw
              obtain ⟨y0, y1, y2⟩ := hSw
              go_simp
              first | done | (with_reducible rfl)
            try simp only [Act.put, List.setIfInBounds_toArray, List.set_cons_zero, List.set_cons_succ]
            refine held_take 6 26 (v := ?_) rfl rfl (by kernel_rfl) (by kernel_rfl) (by kernel_rfl) (fun _ _ _ h => h) (Or.inl ⟨by rfl, ?_⟩) (by assumption) ?_
            rotate_left
            · intro w hSw
              obtain ⟨y0, y1, y2⟩ := hSw
              go_simp
              first | done | (with_reducible rfl)
            try simp only [Act.put, List.setIfInBounds_toArray, List.set_cons_zero, List.set_cons_succ]
            refine held_take 7 27 (v := undef) rfl rfl (by kernel_rfl) (by kernel_rfl) (by kernel_rfl) (fun _ _ _ h => h) (Or.inr ⟨by simp [Region.wanted, yielded], rfl⟩) (by assumption) ?_
            try simp only [Act.put, List.setIfInBounds_toArray, List.set_cons_zero, List.set_cons_succ]
            refine held_take 8 28 (v := undef) rfl rfl (by kernel_rfl) (by kernel_rfl) (by kernel_rfl) (fun _ _ _ h => h) (Or.inr ⟨by simp [Region.wanted, yielded], rfl⟩) (by assumption) ?_
            try simp only [Act.put, List.setIfInBounds_toArray, List.set_cons_zero, List.set_cons_succ]
            refine held_take 9 29 (v := undef) rfl rfl (by kernel_rfl) (by kernel_rfl) (by kernel_rfl) (fun _ _ _ h => h) (Or.inr ⟨by simp [Region.wanted, yielded], rfl⟩) (by assumption) ?_
            try simp only [Act.put, List.setIfInBounds_toArray, List.set_cons_zero, List.set_cons_succ]
            refine held_take 10 30 (v := undef) rfl rfl (by kernel_rfl) (by kernel_rfl) (by kernel_rfl) (fun _ _ _ h => h) (Or.inr ⟨by simp [Region.wanted, yielded], rfl⟩) (by assumption) ?_
            try simp only [Act.put, List.setIfInBounds_toArray, List.set_cons_zero, List.set_cons_succ]
            refine held_take 11 31 (v := undef) rfl rfl (by kernel_rfl) (by kernel_rfl) (by kernel_rfl) (fun _ _ _ h => h) (Or.inr ⟨by simp [Region.wanted, yielded], rfl⟩) (by assumption) ?_
            try simp only [Act.put, List.setIfInBounds_toArray, List.set_cons_zero, List.set_cons_succ]
            refine held_take 12 32 (v := undef) rfl rfl (by kernel_rfl) (by kernel_rfl) (by kernel_rfl) (fun _ _ _ h => h) (Or.inr ⟨by simp [Region.wanted, yielded], rfl⟩) (by assumption) ?_
            try simp only [Act.put, List.setIfInBounds_toArray, List.set_cons_zero, List.set_cons_succ]
            refine held_take 13 33 (v := undef) rfl rfl (by kernel_rfl) (by kernel_rfl) (by kernel_rfl) (fun _ _ _ h => h) (Or.inr ⟨by simp [Region.wanted, yielded], rfl⟩) (by assumption) ?_
            try simp only [Act.put, List.setIfInBounds_toArray, List.set_cons_zero, List.set_cons_succ]
            refine held_take 14 34 (v := undef) rfl rfl (by kernel_rfl) (by kernel_rfl) (by kernel_rfl) (fun _ _ _ h => h) (Or.inr ⟨by simp [Region.wanted, yielded], rfl⟩) (by assumption) ?_
            try simp only [Act.put, List.setIfInBounds_toArray, List.set_cons_zero, List.set_cons_succ]
            refine held_take 15 35 (v := undef) rfl rfl (by kernel_rfl) (by kernel_rfl) (by kernel_rfl) (fun _ _ _ h => h) (Or.inr ⟨by simp [Region.wanted, yielded], rfl⟩) (by assumption) ?_
            try simp only [Act.put, List.setIfInBounds_toArray, List.set_cons_zero, List.set_cons_succ]
            refine held_take 16 36 (v := undef) rfl rfl (by kernel_rfl) (by kernel_rfl) (by kernel_rfl) (fun _ _ _ h => h) (Or.inr ⟨by simp [Region.wanted, yielded], rfl⟩) (by assumption) ?_
            try simp only [Act.put, List.setIfInBounds_toArray, List.set_cons_zero, List.set_cons_succ]
            refine held_take 17 37 (v := undef) rfl rfl (by kernel_rfl) (by kernel_rfl) (by kernel_rfl) (fun _ _ _ h => h) (Or.inr ⟨by simp [Region.wanted, yielded], rfl⟩) (by assumption) ?_
            try simp only [Act.put, List.setIfInBounds_toArray, List.set_cons_zero, List.set_cons_succ]
            refine held_take 18 38 (v := ?_) rfl rfl (by kernel_rfl) (by kernel_rfl) (by kernel_rfl) (fun _ _ _ h => h) (Or.inl ⟨by rfl, ?_⟩) (by assumption) ?_
            rotate_left
            · intro w hSw
              obtain ⟨y0, y1, y2⟩ := hSw
              go_simp
              first | done | (with_reducible rfl)
            try simp only [Act.put, List.setIfInBounds_toArray, List.set_cons_zero, List.set_cons_succ]
            refine wpAnyH_done (by kernel_rfl) ?_ _
            refine NoPanic.normal ?_
            go_wp2
            go_ret
            exact ⟨ret_bool' HF.out, HB4.out⟩
          · have HM := Lib.hid hm
            clear hm
            obtain ⟨z0, z1, z2⟩ := HTA.out
            try simp only at z0 z1 z2
            obtain ⟨e4, e5⟩ := cfg_two HCF.out
            by_cases hxa : xa < c.words * c.lines
            · have hxa' : ¬ c.words * c.lines ≤ xa := by omega
              go_region_held3 (fun w' => (w'.cell? ⟨b, off + k * 3, none⟩ = some (.int .i64 xk) ∧ w'.cell? ⟨b, off + k * 3 + 1, none⟩ = some (.int .i64 xa) ∧ w'.cell? ⟨b, off + k * 3 + 2, none⟩ = some (.int .i64 xv)) ∧ w'.cell? ⟨w.heap.size, 4, none⟩ = some (.int .i64 c.words) ∧ w'.cell? ⟨w.heap.size, 5, none⟩ = some (.int .i64 c.lines))
                (first | go_keep | exact ⟨HT4.out, HC4.out⟩)
                (first | (go_at_call 17; refine (rmay_walk ⟨xk, xa, xv⟩ _).mono ?_; rw [HM.out]; rintro e w4 ⟨rfl, hb⟩; have HB4 := Lib.hid (HB.out.trans ((below_undrew hb).mono HB.out.size)); have HT4 := Lib.hid (threeAt_below (below_undrew hb) HTA.out); have HF4 := Lib.hid (((below_undrew hb).block w.heap.size hltc).trans HCF.out); have HC4 := Lib.hid (cfg_two HF4.out); clear hb))
              go_wp2
              go_roundw
              case rel => exact ⟨k + 1, by go_num, by omega, (fun j y hj hy => by
                rcases Nat.lt_succ_iff_lt_or_eq.1 hj with h | h
                · exact HNO.out j y h hy
                · subst h; rw [HX.out] at hy; injection hy with hy; subst hy; exact ⟨HM.out, by rw [HS.out]; exact hxa⟩), HB4.out, HF4.out⟩
              case measure => simp [RowKit.intOf]; omega
            · have hxa' : c.words * c.lines ≤ xa := by omega
              have HF : Hid (false = res) := by have := fits_bad (c := c) HX.out (.inr (by rw [HS.out]; exact hxa)); rw [HRES.out] at this; exact this.symm
              go_region_held3 (fun w' => (w'.cell? ⟨b, off + k * 3, none⟩ = some (.int .i64 xk) ∧ w'.cell? ⟨b, off + k * 3 + 1, none⟩ = some (.int .i64 xa) ∧ w'.cell? ⟨b, off + k * 3 + 2, none⟩ = some (.int .i64 xv)) ∧ w'.cell? ⟨w.heap.size, 4, none⟩ = some (.int .i64 c.words) ∧ w'.cell? ⟨w.heap.size, 5, none⟩ = some (.int .i64 c.lines))
                (first | go_keep | exact ⟨HT4.out, HC4.out⟩)
                (first | (go_at_call 17; refine (rmay_walk ⟨xk, xa, xv⟩ _).mono ?_; rw [HM.out]; rintro e w4 ⟨rfl, hb⟩; have HB4 := Lib.hid (HB.out.trans ((below_undrew hb).mono HB.out.size)); have HT4 := Lib.hid (threeAt_below (below_undrew hb) HTA.out); have HF4 := Lib.hid (((below_undrew hb).block w.heap.size hltc).trans HCF.out); have HC4 := Lib.hid (cfg_two HF4.out); clear hb))
              go_wp2
              go_ret
              exact ⟨ret_bool' HF.out, HB4.out⟩
        · have hkn : k = l.length := by omega
          have HG := Lib.hid (fits_good (c := c) (l := l) (fun j x hj => HNO.out j x (by rw [hkn]; exact (List.getElem?_eq_some_iff.1 hj).1) hj))
          go_wp2_with fail
          go_ret
          refine ⟨ret_bool' ?_, HB.out⟩
          rw [← HRES.out, HG.out, HOK.out]
          simp
          omega
end Go.Proofs.YtfjeheioglmalaaDoor.Any
