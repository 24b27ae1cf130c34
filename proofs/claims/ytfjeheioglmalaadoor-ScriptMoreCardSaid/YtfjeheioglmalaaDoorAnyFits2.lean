/- The program's Fits. -/
import Derived.Test.YtfjeheioglmalaaDoorFits
namespace Go.Proofs.YtfjeheioglmalaaDoor.Any
open Go.RowKit Go.Lib
set_option linter.unusedVariables false
set_option linter.unusedSimpArgs false
theorem ret_bool' {a b : Bool} (h : a = b) : Ending.returned (.bool a) = .returned (.bool b) := by rw [h]
theorem fits_bad {c : Cfg} {l : List PO} {k : Nat} {x : PO} (hx : l[k]? = some x) (h : x.may = false ∨ ¬ x.a < sizeP c) : fitsP c l = false := by
  unfold fitsP
  unfold sizeP at h
  cases hok : c.ok
  · rfl
  · rw [hok] at h
    have : (l.all fun x => x.may && decide (x.a < c.words * c.lines)) = false := by
      rw [List.all_eq_false]
      refine ⟨x, List.mem_of_getElem? hx, ?_⟩
      rcases h with h | h
      · rw [h]; simp
      · simp only [if_true] at h
        simp [h]
    rw [this]; simp
theorem fits_good {c : Cfg} {l : List PO} (h : ∀ (j : Nat) (x : PO), l[j]? = some x → x.may = true ∧ x.a < sizeP c) : fitsP c l = (c.ok && decide (l.length ≤ 64)) := by
  unfold fitsP
  cases hok : c.ok
  · rfl
  · have : (l.all fun x => x.may && decide (x.a < c.words * c.lines)) = true := by
      rw [List.all_eq_true]
      intro x hx
      obtain ⟨j, hj⟩ := List.getElem?_of_mem hx
      have h2 := h j x hj
      unfold sizeP at h2
      rw [hok, if_pos rfl] at h2
      rw [h2.1]; simpa using h2.2
    rw [this]; simp
set_option maxRecDepth 100000 in
set_option maxHeartbeats 4000000 in
theorem fits_prog (c : Cfg) (hc : c.fine) (l : List PO) (A : Option Addr) (cap : Nat) (hl : l.length ≤ 9223372036854775807) (w : World) (ho : OpsIn w A l) :
    Calls Tryd.prog 18 #[c.val, .slice A l.length cap] w fun e w' => e = .returned (.bool (fitsP c l)) ∧ Below w.heap.size w w' := by
  have HCK := Lib.hid (fun W => check_walk c hc W)
  have HSZ := Lib.hid (fun W => size_walk c hc W)
  have HO := Lib.hid ho
  clear hc ho
  obtain ⟨res, hres⟩ : ∃ b, fitsP c l = b := ⟨_, rfl⟩
  have HRES := Lib.hid hres
  rw [hres]
  clear hres
  obtain ⟨sz, hsz⟩ : ∃ n, sizeP c = n := ⟨_, rfl⟩
  rw [hsz] at HSZ
  have HS := Lib.hid hsz
  clear hsz
  unfold Cfg.val
  go_enter Tryd.func18, Tryd.ntmps18
  go_wp2_with fail
  have HB0 := Lib.hid ((Below.refl w.heap.size w).alloc (Nat.le_refl _) (.cells c.arr 31))
  have HC0 := Lib.hid (heap_alloc_new w (.cells c.arr 31))
  go_loopw [9] (fun v wr => ∃ k : Nat, v = .int .i64 k ∧ k ≤ l.length ∧ (∀ j x, j < k → l[j]? = some x → x.may = true ∧ x.a < sz) ∧ Below w.heap.size w wr ∧ wr.heap[w.heap.size]? = some (.cells c.arr 31 (0, 0))) (fun v _ => l.length - (RowKit.intOf v).toNat)
  case atStart => exact ⟨0, rfl, by omega, fun j x hj => by omega, HB0.out, HC0.out⟩
  case round =>
    obtain ⟨k, rfl, hk, hno, hb, hcf⟩ := hrel
    have HNO := Lib.hid hno
    have HB := Lib.hid hb
    have HCF := Lib.hid hcf
    clear hno hb hcf
    by_cases hlt : k < l.length
    · obtain ⟨x, hx⟩ : ∃ x, l[k]? = some x := ⟨_, List.getElem?_eq_getElem hlt⟩
      obtain ⟨b, off, hA, _, har⟩ := (HO.out.below HB.out) k x hx
      subst hA
      have HR := Lib.hid har
      have HX := Lib.hid hx
      clear har hx
      obtain ⟨xk, xa, xv⟩ := x
      go_wp2_with (first | (refine wpList_load_mid rfl 33 (.tmp 11) rfl b (off + k * 3) rfl (PO.arr ⟨xk, xa, xv⟩).toList _ HR.out Tryd.underlying33 rfl Tryd.size33 ?_) | (refine wpList_store_new rfl 33 (.tmp 6) _ rfl wr.heap.size (PO.arr ⟨xk, xa, xv⟩) rfl rfl 33 _ (heap_alloc_new wr _) Tryd.size33 rfl (PO.one _) wr.heap.size (Nat.le_refl _) ?_; intro w1 hx1 hb1; have HX1 := Lib.hid hx1; have HB1 := Lib.hid (((Below.refl wr.heap.size wr).alloc (Nat.le_refl _) _).trans hb1); clear hx1 hb1))
      have hlt0 := (Array.getElem?_eq_some_iff.1 HCF.out).1
      have HCF1 := Lib.hid ((HB1.out.block w.heap.size hlt0).trans HCF.out)
      have HB2 := Lib.hid (HB.out.trans (HB1.out.mono HB.out.size))
      have HT1 := Lib.hid (show Three w1 wr.heap.size xk xa xv from (box_three HX1.out).1)
      have HC1 := Lib.hid (cfg_in HCF1.out)
      cases hm : PO.may ⟨xk, xa, xv⟩
      · have HM := Lib.hid hm
        have HF : Hid (false = res) := by have := fits_bad (c := c) HX.out (.inl hm); rw [HRES.out] at this; exact this.symm
        clear hm
        refine wp_region_noPanic ?_
        refine wp_region_held_drew (S := fun w' => Three w' wr.heap.size xk xa xv) (by kernel_rfl) (three_drew HT1.out) (fun hHeld => ?_)
        change wpAnyH _ _ _ _ _ 10 #[false, false, false, false, false, false, false, false, false, false] _ _
        try simp only [Act.put, List.setIfInBounds_toArray, List.set_cons_zero, List.set_cons_succ]
        refine held_take 0 13 (v := ?_) rfl rfl (by kernel_rfl) (by kernel_rfl) (by kernel_rfl) (fun _ _ _ h => h) (Or.inl ⟨by rfl, ?_⟩) (by assumption) ?_
        rotate_left
        · intro w hSw
          obtain ⟨y0, y1, y2⟩ := hSw
          go_simp
          first | done | (with_reducible rfl)
        try simp only [Act.put, List.setIfInBounds_toArray, List.set_cons_zero, List.set_cons_succ]
        refine wpAnyH_ready (rs := [1]) (by kernel_rfl) (by simp) ?_
        refine AllReadyH.cons rfl (fun K hK => ?_) AllReadyH.nil
        go_simp
        go_at_call 16
        refine (may_walk ⟨xk, xa, xv⟩ _).mono ?_; rw [HM.out]; rintro e w4 ⟨rfl, hb⟩
        have HB4 := Lib.hid (HB2.out.trans ((below_undrew hb).mono HB2.out.size))
        have HT4 := Lib.hid (three_below hb hHeld)
        clear hb
        go_wp2_with fail
        refine hK.out _ _ HT4.out (fun hHeld2 => ?_)
        clear hK K
        try simp only [Act.put, List.setIfInBounds_toArray, List.set_cons_zero, List.set_cons_succ]
        refine held_take 2 15 (v := ?_) rfl rfl (by kernel_rfl) (by kernel_rfl) (by kernel_rfl) (fun _ _ _ h => h) (Or.inl ⟨by rfl, ?_⟩) (by assumption) ?_
        rotate_left
        · intro w hSw
          obtain ⟨y0, y1, y2⟩ := hSw
          go_simp
          first | done | (with_reducible rfl)
        try simp only [Act.put, List.setIfInBounds_toArray, List.set_cons_zero, List.set_cons_succ]
        refine held_take 3 16 (v := ?_) rfl rfl (by kernel_rfl) (by kernel_rfl) (by kernel_rfl) (fun _ _ _ h => h) (Or.inl ⟨by rfl, ?_⟩) (by assumption) ?_
        rotate_left
        · intro w hSw
          obtain ⟨y0, y1, y2⟩ := hSw
          go_simp
          first | done | (with_reducible rfl)
        try simp only [Act.put, List.setIfInBounds_toArray, List.set_cons_zero, List.set_cons_succ]
        refine held_take 4 17 (v := undef) rfl rfl (by kernel_rfl) (by kernel_rfl) (by kernel_rfl) (fun _ _ _ h => h) (Or.inr ⟨by simp [Region.wanted, yielded], rfl⟩) (by assumption) ?_
        try simp only [Act.put, List.setIfInBounds_toArray, List.set_cons_zero, List.set_cons_succ]
        refine held_take 5 18 (v := undef) rfl rfl (by kernel_rfl) (by kernel_rfl) (by kernel_rfl) (fun _ _ _ h => h) (Or.inr ⟨by simp [Region.wanted, yielded], rfl⟩) (by assumption) ?_
        try simp only [Act.put, List.setIfInBounds_toArray, List.set_cons_zero, List.set_cons_succ]
        refine held_take 6 19 (v := undef) rfl rfl (by kernel_rfl) (by kernel_rfl) (by kernel_rfl) (fun _ _ _ h => h) (Or.inr ⟨by simp [Region.wanted, yielded], rfl⟩) (by assumption) ?_
        try simp only [Act.put, List.setIfInBounds_toArray, List.set_cons_zero, List.set_cons_succ]
        refine held_take 7 20 (v := undef) rfl rfl (by kernel_rfl) (by kernel_rfl) (by kernel_rfl) (fun _ _ _ h => h) (Or.inr ⟨by simp [Region.wanted, yielded], rfl⟩) (by assumption) ?_
        try simp only [Act.put, List.setIfInBounds_toArray, List.set_cons_zero, List.set_cons_succ]
        refine held_take 8 21 (v := undef) rfl rfl (by kernel_rfl) (by kernel_rfl) (by kernel_rfl) (fun _ _ _ h => h) (Or.inr ⟨by simp [Region.wanted, yielded], rfl⟩) (by assumption) ?_
        try simp only [Act.put, List.setIfInBounds_toArray, List.set_cons_zero, List.set_cons_succ]
        refine held_take 9 22 (v := ?_) rfl rfl (by kernel_rfl) (by kernel_rfl) (by kernel_rfl) (fun _ _ _ h => h) (Or.inl ⟨by rfl, ?_⟩) (by assumption) ?_
        rotate_left
        · intro w hSw
          obtain ⟨y0, y1, y2⟩ := hSw
          go_simp
          first | done | (with_reducible rfl)
        try simp only [Act.put, List.setIfInBounds_toArray, List.set_cons_zero, List.set_cons_succ]
        refine wpAnyH_done (by kernel_rfl) ?_ _
        refine NoPanic.normal ?_
        go_wp2
        go_ret
        exact ⟨ret_bool' HF.out, HB4.out⟩
      · have HM := Lib.hid hm
        clear hm
        obtain ⟨z0, z1, z2⟩ := HT1.out
        obtain ⟨e0, e1, e2, e3, e4, e5, e6, e7, e8, e9, e10, e11, e12⟩ := HC1.out
        by_cases hxa : xa < sz
        · have hxa' : ¬ sz ≤ xa := by omega
          go_region_held3 (fun w' => (w'.cell? ⟨wr.heap.size, 0, none⟩ = some (.int .i64 xk) ∧ w'.cell? ⟨wr.heap.size, 1, none⟩ = some (.int .i64 xa) ∧ w'.cell? ⟨wr.heap.size, 2, none⟩ = some (.int .i64 xv)) ∧ w'.cell? ⟨w.heap.size, 0, none⟩ = some (.int .i64 c.cores) ∧ w'.cell? ⟨w.heap.size, 1, none⟩ = some (.int .i64 c.homes) ∧ w'.cell? ⟨w.heap.size, 2, none⟩ = some (.int .i64 c.sets) ∧ w'.cell? ⟨w.heap.size, 3, none⟩ = some (.int .i64 c.ways) ∧ w'.cell? ⟨w.heap.size, 4, none⟩ = some (.int .i64 c.words) ∧ w'.cell? ⟨w.heap.size, 5, none⟩ = some (.int .i64 c.lines) ∧ w'.cell? ⟨w.heap.size, 6, none⟩ = some (.int .i64 c.pointers) ∧ w'.cell? ⟨w.heap.size, 7, none⟩ = some (.int .i64 c.mshrs) ∧ w'.cell? ⟨w.heap.size, 8, none⟩ = some (.int .i64 c.buffer) ∧ w'.cell? ⟨w.heap.size, 9, none⟩ = some (.int .i64 c.writebacks) ∧ w'.cell? ⟨w.heap.size, 10, none⟩ = some (.int .i64 c.r0) ∧ w'.cell? ⟨w.heap.size, 11, none⟩ = some (.int .i64 c.r1) ∧ w'.cell? ⟨w.heap.size, 12, none⟩ = some (.int .i64 c.r2))
            (first | go_keep | exact ⟨HT5.out, HC5.out⟩ | exact ⟨HT4.out, HC4.out⟩ | exact ⟨HT1.out, HC1.out⟩)
            (first | (go_at_call 16; refine (may_walk ⟨xk, xa, xv⟩ _).mono ?_; rw [HM.out]; rintro e w4 ⟨rfl, hb⟩; have HB4 := Lib.hid (HB2.out.trans ((below_undrew hb).mono HB2.out.size)); have HT4 := Lib.hid (three_below hb (three_drew HT1.out)); have HF4 := Lib.hid (((below_undrew hb).block w.heap.size (Array.getElem?_eq_some_iff.1 HCF1.out).1).trans HCF1.out); have HC4 := Lib.hid (cfg_in HF4.out); clear hb) | (go_at_call 35; refine (HSZ.out _).mono ?_; rintro e w5 ⟨rfl, hb⟩; have HB5 := Lib.hid (HB4.out.trans (hb.mono HB4.out.size)); have HT5 := Lib.hid (three_below hb HT4.out); have HF5 := Lib.hid ((hb.block w.heap.size (Array.getElem?_eq_some_iff.1 HF4.out).1).trans HF4.out); have HC5 := Lib.hid (cfg_in HF5.out); clear hb))
          go_wp2
          go_roundw
          case rel => exact ⟨k + 1, by go_num, by omega, (fun j y hj hy => by
            rcases Nat.lt_succ_iff_lt_or_eq.1 hj with h | h
            · exact HNO.out j y h hy
            · subst h; rw [HX.out] at hy; injection hy with hy; subst hy; exact ⟨HM.out, hxa⟩), HB5.out, HF5.out⟩
          case measure => simp [RowKit.intOf]; omega
        · have hxa' : sz ≤ xa := by omega
          have HF : Hid (false = res) := by have := fits_bad (c := c) HX.out (.inr (by rw [HS.out]; exact hxa)); rw [HRES.out] at this; exact this.symm
          go_region_held3 (fun w' => (w'.cell? ⟨wr.heap.size, 0, none⟩ = some (.int .i64 xk) ∧ w'.cell? ⟨wr.heap.size, 1, none⟩ = some (.int .i64 xa) ∧ w'.cell? ⟨wr.heap.size, 2, none⟩ = some (.int .i64 xv)) ∧ w'.cell? ⟨w.heap.size, 0, none⟩ = some (.int .i64 c.cores) ∧ w'.cell? ⟨w.heap.size, 1, none⟩ = some (.int .i64 c.homes) ∧ w'.cell? ⟨w.heap.size, 2, none⟩ = some (.int .i64 c.sets) ∧ w'.cell? ⟨w.heap.size, 3, none⟩ = some (.int .i64 c.ways) ∧ w'.cell? ⟨w.heap.size, 4, none⟩ = some (.int .i64 c.words) ∧ w'.cell? ⟨w.heap.size, 5, none⟩ = some (.int .i64 c.lines) ∧ w'.cell? ⟨w.heap.size, 6, none⟩ = some (.int .i64 c.pointers) ∧ w'.cell? ⟨w.heap.size, 7, none⟩ = some (.int .i64 c.mshrs) ∧ w'.cell? ⟨w.heap.size, 8, none⟩ = some (.int .i64 c.buffer) ∧ w'.cell? ⟨w.heap.size, 9, none⟩ = some (.int .i64 c.writebacks) ∧ w'.cell? ⟨w.heap.size, 10, none⟩ = some (.int .i64 c.r0) ∧ w'.cell? ⟨w.heap.size, 11, none⟩ = some (.int .i64 c.r1) ∧ w'.cell? ⟨w.heap.size, 12, none⟩ = some (.int .i64 c.r2))
            (first | go_keep | exact ⟨HT5.out, HC5.out⟩ | exact ⟨HT4.out, HC4.out⟩ | exact ⟨HT1.out, HC1.out⟩)
            (first | (go_at_call 16; refine (may_walk ⟨xk, xa, xv⟩ _).mono ?_; rw [HM.out]; rintro e w4 ⟨rfl, hb⟩; have HB4 := Lib.hid (HB2.out.trans ((below_undrew hb).mono HB2.out.size)); have HT4 := Lib.hid (three_below hb (three_drew HT1.out)); have HF4 := Lib.hid (((below_undrew hb).block w.heap.size (Array.getElem?_eq_some_iff.1 HCF1.out).1).trans HCF1.out); have HC4 := Lib.hid (cfg_in HF4.out); clear hb) | (go_at_call 35; refine (HSZ.out _).mono ?_; rintro e w5 ⟨rfl, hb⟩; have HB5 := Lib.hid (HB4.out.trans (hb.mono HB4.out.size)); have HT5 := Lib.hid (three_below hb HT4.out); have HF5 := Lib.hid ((hb.block w.heap.size (Array.getElem?_eq_some_iff.1 HF4.out).1).trans HF4.out); have HC5 := Lib.hid (cfg_in HF5.out); clear hb))
          go_wp2
          go_ret
          exact ⟨ret_bool' HF.out, HB5.out⟩
    · have hkn : k = l.length := by omega
      have HG := Lib.hid (fits_good (c := c) (l := l) (fun j x hj => by rw [HS.out]; exact HNO.out j x (by rw [hkn]; exact (List.getElem?_eq_some_iff.1 hj).1) hj))
      have hno : okNo c = if c.ok then 0 else 1 := rfl
      cases hok : c.ok
      · rw [hok] at hno
        have HN := Lib.hid hno
        have HOK := Lib.hid hok
        clear hno hok
        go_wp2_with (first | (refine wpList_load_row rfl 31 (.tmp 2) rfl w.heap.size rfl 31 c.arr (0, 0) _ HCF.out Tryd.underlying31 rfl Tryd.size31 ?_))
        refine (HCK.out _).mono ?_
        rintro e w4 ⟨rfl, hb⟩
        rw [HN.out]
        have HB4 := Lib.hid hb
        clear hb
        go_wp2_with fail
        go_ret
        exact ⟨ret_bool' (by rw [← HRES.out, HG.out, HOK.out]; rfl), HB.out.trans (HB4.out.mono HB.out.size)⟩
      · rw [hok] at hno
        have HN := Lib.hid hno
        have HOK := Lib.hid hok
        clear hno hok
        go_wp2_with (first | (refine wpList_load_row rfl 31 (.tmp 2) rfl w.heap.size rfl 31 c.arr (0, 0) _ HCF.out Tryd.underlying31 rfl Tryd.size31 ?_))
        refine (HCK.out _).mono ?_
        rintro e w4 ⟨rfl, hb⟩
        rw [HN.out]
        have HB4 := Lib.hid hb
        clear hb
        go_wp2_with fail
        go_ret
        refine ⟨ret_bool' ?_, HB.out.trans (HB4.out.mono HB.out.size)⟩
        rw [← HRES.out, HG.out, HOK.out]
        simp
        try omega
end Go.Proofs.YtfjeheioglmalaaDoor.Any
