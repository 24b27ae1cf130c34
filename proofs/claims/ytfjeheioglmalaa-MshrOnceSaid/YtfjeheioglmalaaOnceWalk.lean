/- The law MshrOnce, walked: it answers true and changes nothing that was there. -/
import Derived.Test.YtfjeheioglmalaaArgs
import Derived.Test.YtfjeheioglmalaaOrdWalk
namespace Go.Proofs.Ytfjeheioglmalaa
open Go.RowKit

theorem once_long (room : Int) (A : Option Addr) (n c : Nat) (w : World) (h : 60 < n) (hn : n ≤ 9223372036854775807) :
    Calls Try.prog 4 #[.int .i64 room, .slice A n c] w fun e w' => e = .returned (.bool true) ∧ Below w.heap.size w w' := by
  go_enter Try.func4, Try.ntmps4
  go_wp2_with (go_at_call 6; refine (awake_true _).mono ?_; rintro e w1 ⟨rfl, h⟩; have HB := Lib.hid h; clear h)
  go_ret
  exact ⟨rfl, HB.out⟩
theorem once_bad (room : Int) (A : Option Addr) (n c : Nat) (w : World) (h : n ≤ 60) (hr : room < 1 ∨ 8 < room) :
    Calls Try.prog 4 #[.int .i64 room, .slice A n c] w fun e w' => e = .returned (.bool true) ∧ Below w.heap.size w w' := by
  have HR := Lib.hid hr
  clear hr
  go_enter Try.func4, Try.ntmps4
  go_wp2_with (first | (go_at_call 6; refine (awake_true _).mono ?_; rintro e w1 ⟨rfl, h⟩; have HB := Lib.hid h; clear h) | (go_at_call 7; refine (new_bad room _ HR.out).mono ?_; rintro e w1 ⟨rfl, rfl⟩))
  go_ret
  exact ⟨rfl, HB.out⟩
theorem Try.zero4 (w : World) : (zeroValue 4).run Try.prog w = .ok (.bool false) w := by kernel_rfl
theorem St.do_ {W w : World} {B fb : Nat} {room : Int} {l : List Ms} {K : List (Nat × Obj)} (hm : l.length ≤ 1000) (h : St W B fb room l K w) (o : Opr) (hg : ∀ m ∈ l, 0 ≤ m.got ∧ m.got ≤ 1000) :
    Calls Try.prog 9 #[.pointer (some ⟨fb, 0, none⟩), o.val] w fun e w' => e = .returned (.tuple #[(sDo room l o).1.1.val, .bool (sDo room l o).1.2.1, .int .i64 (sDo room l o).1.2.2]) ∧ St W B fb room (sDo room l o).2 K w' := by
  obtain ⟨sv, h1, h2, h3⟩ := h
  exact (do_any w hm h1 o hg).mono fun _ _ ⟨a, b⟩ => ⟨a, St.did h1 h2 h3 b⟩
set_option maxRecDepth 100000 in
set_option maxHeartbeats 20000000 in
theorem once_good (room : Int) (A : Option Addr) (n c : Nat) (os : List Opr) (w : World) (h60 : n ≤ 60) (hn : n = os.length) (ha : OpsAt w A os) (hr1 : 1 ≤ room) (hr8 : room ≤ 8) :
    Calls Try.prog 4 #[.int .i64 room, .slice A n c] w fun e w' => e = .returned (.bool true) ∧ Below w.heap.size w w' := by
  have HN := Lib.hid hn
  have HA := Lib.hid ha
  clear hn ha
  have hmm := @run_makeMap Try.prog
  go_enter Try.func4, Try.ntmps4
  go_wp2_with fail
  refine (awake_true _).mono ?_; rintro e w1 ⟨rfl, h⟩
  have HB := Lib.hid h; clear h
  go_wp2_with fail
  refine (St.new room w1 hr1 hr8).mono ?_; rintro e w2 ⟨rfl, h⟩
  have H2 := Lib.hid (h.rebase (K := []) HB.out (by intro p hp; cases hp)); clear h HB
  go_wp2_with fail
  obtain ⟨bo, hbo⟩ : ∃ bo, bo = w2.heap.size := ⟨_, rfl⟩
  have H3 := Lib.hid (show St w w.heap.size w1.heap.size room [] [(bo, .map #[] 0)] (w2.alloc (.map #[] 0)) from hbo ▸ H2.out.made (.map #[] 0))
  have hbB : w.heap.size ≤ bo := by rw [hbo]; exact H2.out.below.size
  rw [← hbo]
  clear H2 hbo
  go_loopw [33] (fun v wr => ∃ (k : Nat) (S : List Int) (ms : List Ms) (ob : Obj), v = .int .i64 k ∧ k ≤ n ∧ Ok k room ms ∧ Owed ms S ∧ SetObj S ob ∧ St w w.heap.size w1.heap.size room ms [(bo, ob)] wr) (fun v _ => n - (intOf v).toNat)
  case atStart => exact ⟨0, [], [], _, rfl, by omega, ⟨by simp; omega, by simp, by simp⟩, ⟨by simp, by simp⟩, SetObj.new, H3.out⟩
  case round =>
    obtain ⟨k, S, ms, ob, rfl, hk, hok, howed, hset, hs⟩ := hrel
    obtain ⟨wo, rfl⟩ : ∃ wo : World, wo = wr := ⟨_, rfl⟩
    have HO := Lib.hid hok
    have HW := Lib.hid howed
    have HSET := Lib.hid hset
    have HS := Lib.hid hs
    clear hok howed hset hs H3
    by_cases hlt : k < n
    · obtain ⟨o, hko⟩ : ∃ o, os[k]? = some o := ⟨_, List.getElem?_eq_getElem (by rw [← HN.out]; exact hlt)⟩
      obtain ⟨ab, off, hA, _, har⟩ := (HA.out.later HS.out.below) k o hko
      subst hA
      have HR := Lib.hid har
      have hml : ms.length ≤ 1000 := by have := HO.out.len; omega
      clear hko har
      go_wp2_with (first | (refine wpList_load_mid rfl 38 (.tmp 35) rfl ab (off + k * 12) rfl o.arr.toList _ HR.out Try.underlying38 rfl Try.size38 ?_) | (refine wpList_store_box rfl 38 (.tmp 9) _ rfl _ o.arr rfl rfl 38 _ (heap_alloc_new wo _) Try.size38 rfl (Opr.all _) ?_; intro v1 hx hc; have H1 := Lib.hid (HS.out.box hc hx); have hb9 := HS.out.lt (List.mem_singleton.2 rfl); have x1 := H1.out.cell (List.mem_cons_self) 1; have x0 := H1.out.cell (List.mem_cons_self) 0; simp [Opr.arr] at x0 x1; clear hx hc HS))
      obtain ⟨gm, gh, hg⟩ : ∃ gm gh, sGet ms o.line = (gm, gh) := ⟨_, _, rfl⟩
      obtain ⟨m, is, er, ms', hdo⟩ : ∃ m is er ms', sDo room ms o = ((m, is, er), ms') := ⟨_, _, _, _, rfl⟩
      have hk0 : (0 : Int) ≤ k := by omega
      have HO2 := Lib.hid (show Ok ((k : Int) + 1) room ms' by have := HO.out.step hk0 o; rw [hdo] at this; exact this)
      have HG := Lib.hid hg
      have HD := Lib.hid hdo
      have HGOT := Lib.hid (show ∀ m ∈ ms, 0 ≤ m.got ∧ m.got ≤ 1000 from fun m hm => ⟨(HO.out.each m hm).got0, by have := (HO.out.each m hm).gott; omega⟩)
      clear hg hdo
      refine (St.get hml H1.out o.line).mono ?_; rw [HG.out]; rintro e w4 ⟨rfl, h⟩
      have H4 := Lib.hid h; clear h H1 x0 x1
      go_wp2_with (first | (refine wpList_store_box rfl 34 (.tmp 10) _ rfl _ gm.cells.toArray rfl rfl 34 _ (heap_alloc_new w4 _) Try.size34 rfl (Ms.all _) ?_; intro v4 hx hc; have H5 := Lib.hid (H4.out.box hc hx); have hb10 := H4.out.lt List.mem_cons_self; have hx9 := Lib.hid (H5.out.block (g := wo.heap.size) (o := .cells o.arr 38 (0, 0)) (by simp)); clear hx hc H4) | (refine wpList_load_row rfl 38 (.tmp 9) rfl wo.heap.size rfl 38 o.arr (0, 0) _ hx9.out Try.underlying38 rfl Try.size38 ?_))
      rw [show Value.agg o.arr = o.val from rfl]
      refine (St.do_ hml H5.out o HGOT.out).mono ?_; rw [HD.out]; rintro e w5 ⟨rfl, h⟩
      have H6 := Lib.hid h; clear h H5 hx9
      cases is
      · by_cases hout : o.d < 0 ∨ 4 < o.d
        · obtain ⟨_, q1, q2⟩ := once_out HO.out HW.out (room := room) hout
          rw [HD.out] at q1 q2
          have HW2 := Lib.hid q2
          have HQ := Lib.hid q1
          have ho2 : o.d < 0 ∨ ¬ o.d < 0 ∧ 4 < o.d := by omega
          clear q1 q2 hout
          rcases ho2 with ho | ⟨ho, ho'⟩
          all_goals
            go_wp2_with (first | (refine wpList_store_box rfl 34 (.tmp 12) _ rfl _ m.cells.toArray rfl rfl 34 _ (heap_alloc_new w5 _) Try.size34 rfl (Ms.all _) ?_; intro v5 hx hc; have H7 := Lib.hid (H6.out.box hc hx); have x0 := H7.out.cell (g := wo.heap.size) (t := 38) (cs := o.arr) (by simp) 0; have x1 := H7.out.cell (g := wo.heap.size) (t := 38) (cs := o.arr) (by simp) 1; simp [Opr.arr] at x0 x1; have lk := run_lookup_set Try.underlying54 Try.underlying3 (H7.out.block (g := bo) (o := ob) (by simp)) HSET.out Try.zero4 o.line; rw [← HQ.out] at lk; have hbo := Lib.hid (H7.out.block (g := bo) (o := ob) (by simp)); clear hx hc H6) | (refine wpList_delete_set rfl 54 3 4 (.tmp 99) (.tmp 101) 3 rfl Try.underlying54 Try.underlying3 bo ob S o.line rfl rfl hbo.out HSET.out ?_; intro wz ob2 hs2 hb2 hc2; have HZ := Lib.hid (H7.out.put (o := ob) (K' := [(bo, ob2)]) (by simp) hbB hc2 hb2 (by simp)); have HSET2 := Lib.hid hs2; clear lk x0 x1 hs2 hb2 hc2 H7 hbo))
            have hml2 : ms'.length ≤ 1000 := by have := HO2.out.len; omega
            have HM := Lib.hid (HZ.out.made (.map #[] 0))
            obtain ⟨bs, hbs⟩ : ∃ bs, bs = wz.heap.size := ⟨_, rfl⟩
            have hbsB : w.heap.size ≤ bs := by rw [hbs]; exact HZ.out.below.size
            have hbob : bo < bs := by rw [hbs]; exact HZ.out.lt (p := (bo, ob2)) (by simp)
            refine (St.list hml2 HM.out).mono ?_; rintro e w7 ⟨⟨v, rfl, hv, hbv⟩, h⟩
            obtain ⟨A2, c2, KL, hv2, hst, hrow, hkl⟩ := HM.out.listed hv hbv
            replace hkl : ∀ p ∈ KL, bs < p.1 := fun p hp => by have := hkl p hp; rw [hbs]; simp at this; omega
            rw [← hbs] at hst
            rw [← hbs]
            have HST := Lib.hid hst
            have HV := Lib.hid hv2
            have HROW := Lib.hid hrow
            have HKL := Lib.hid (show ∀ p ∈ KL, bs < p.1 from hkl)
            clear hv hbv h hv2 hst hrow HM hbs HZ hkl
            rw [HV.out]
            go_wp2_with fail
            go_loopw [106] (fun v w8 => ∃ (j : Nat) (S2 : List Int) (ob3 : Obj), v = .int .i64 j ∧ j ≤ ms'.length ∧ S2 = (ms'.take j).map (·.line) ∧ SetObj S2 ob3 ∧ St w w.heap.size w1.heap.size room ms' (KL ++ [(bs, ob3), (bo, ob2)]) w8) (fun v _ => ms'.length - (intOf v).toNat)
            case atStart => exact ⟨0, [], _, rfl, by omega, rfl, SetObj.new, HST.out⟩
            case round =>
              obtain ⟨j, S2, ob3, rfl, hj, hS2, hset3, hs8⟩ := hrel
              have HS8 := Lib.hid hs8
              have HSET3 := Lib.hid hset3
              have HS2 := Lib.hid hS2
              clear hs8 hset3 hS2
              by_cases hjl : j < ms'.length
              · obtain ⟨m2, hm2⟩ : ∃ m2, ms'[j]? = some m2 := ⟨_, List.getElem?_eq_getElem hjl⟩
                obtain ⟨g2, hA2, hrng⟩ := HROW.out wr (fun p hp => HS8.out.block (by simp; exact .inl hp)) j m2 hm2
                subst hA2
                have HRNG := Lib.hid hrng
                have HM2 := Lib.hid hm2
                have hmem2 := List.mem_of_getElem? hm2
                have hmok := HO2.out.each m2 hmem2
                have hg0 : ¬ m2.got < 0 := by have := hmok.got0; omega
                have hnd : ¬ 0 ≤ m2.needs ∨ 0 ≤ m2.needs ∧ ¬ m2.needs < m2.got := by rcases hmok.needs with h | ⟨h, h'⟩ <;> omega
                have HSEEN := Lib.hid (seen_no HO2.out hm2)
                have HINS := Lib.hid (seen_ins HO2.out hm2)
                have HOW := Lib.hid (owed_contains HO2.out HW2.out hmem2)
                clear hrng hm2 hmem2 hmok
                rcases hnd with hnd | ⟨hnd, hnd'⟩
                all_goals
                  go_wp2_with (first | (refine wpList_load_mid rfl 34 (.tmp 108) rfl g2 (j * 15) rfl m2.cells _ HRNG.out Try.underlying34 rfl Try.size34 ?_) | (refine wpList_store_box rfl 34 (.tmp 17) _ rfl _ m2.cells.toArray rfl rfl 34 _ (heap_alloc_new wr _) Try.size34 rfl (Ms.all _) ?_; intro v8 hx hc; have H8 := Lib.hid (HS8.out.box hc hx); have y0 := H8.out.cell List.mem_cons_self 0; have y2 := H8.out.cell List.mem_cons_self 2; have y3 := H8.out.cell List.mem_cons_self 3; have y14 := H8.out.cell List.mem_cons_self 14; simp [Ms.cells] at y0 y2 y3 y14; have lk1 := run_lookup_set Try.underlying54 Try.underlying3 (H8.out.block (g := bs) (o := ob3) (by simp)) HSET3.out Try.zero4 m2.line; rw [HS2.out, HSEEN.out] at lk1; have lk2 := run_lookup_set Try.underlying54 Try.underlying3 (H8.out.block (g := bo) (o := ob2) (by simp)) HSET2.out Try.zero4 m2.line; rw [← HOW.out] at lk2; have hbs3 := Lib.hid (H8.out.block (g := bs) (o := ob3) (by simp)); clear hx hc) | (refine wpList_update_set rfl 54 3 4 (.tmp 140) (.tmp 142) (.const (.bool true)) rfl Try.underlying54 Try.underlying3 bs ob3 S2 m2.line rfl rfl rfl hbs3.out HSET3.out ?_; intro w9 ob4 hs4 hb4 hc4; have H9 := Lib.hid (show Chg (· = bs) v8 w9 ∧ w9.heap[bs]? = some ob4 ∧ SetObj (ins S2 m2.line) ob4 from ⟨hc4, hb4, hs4⟩); clear lk1 lk2 y0 y2 y3 y14 hs4 hb4 hc4 hbs3))
                  have H9S := Lib.hid (show SetObj ((ms'.take (j + 1)).map (·.line)) ob4 by have := H9.out.2.2; rw [HS2.out, HINS.out] at this; exact this)
                  have H9T := Lib.hid (H8.out.put (o := ob3) (K' := KL ++ [(bs, ob4), (bo, ob2)]) (by simp) hbsB H9.out.1 H9.out.2.1 (by
                    intro p hp
                    rcases List.mem_append.1 hp with hp | hp
                    · exact .inr ⟨by simp [hp], by have := HKL.out p hp; omega⟩
                    · simp at hp
                      rcases hp with rfl | rfl
                      · exact .inl rfl
                      · exact .inr ⟨by simp, by show bo ≠ bs; omega⟩))
                  go_roundw
                  case rel => exact ⟨j + 1, _, ob4, by go_num, by omega, rfl, H9S.out, H9T.out⟩
                  case measure => simp [intOf]; omega
              · have hjn : j = ms'.length := by omega
                have lkl : ∀ ty, (Builtin.len_ #[54] ty #[.map (some bs)]).run Try.prog wr = .ok (.int .i64 ms'.length) wr := by
                  intro ty
                  have := run_len_set Try.underlying54 (HS8.out.block (g := bs) (o := ob3) (by simp)) HSET3.out ty
                  rw [HS2.out, hjn] at this
                  simpa using this
                have hle : ¬ room < (ms'.length : Int) := by have := HO2.out.len; omega
                have HJN := Lib.hid hjn
                clear hjn
                go_wp2_with fail
                go_roundw
                case rel => exact ⟨k + 1, _, ms', ob2, by go_num, by omega, by simpa using HO2.out, HW2.out, HSET2.out, HS8.out.weaken (by simp)⟩
                case measure => simp [intOf]; omega
        · have HW2 := Lib.hid (show Owed ms' S by have := once_same HO.out HW.out (room := room) (o := o) (by rw [HD.out]) hout; rw [HD.out] at this; exact this)
          have ho : ¬ o.d < 0 := by omega
          have ho' : ¬ 4 < o.d := by omega
          clear hout
          have HSET2 := HSET
          obtain ⟨ob2, rfl⟩ : ∃ ob2, ob2 = ob := ⟨_, rfl⟩
          go_wp2_with (first | (refine wpList_store_box rfl 34 (.tmp 12) _ rfl _ m.cells.toArray rfl rfl 34 _ (heap_alloc_new w5 _) Try.size34 rfl (Ms.all _) ?_; intro wz hx hc; have H7 := Lib.hid (H6.out.box hc hx); have x0 := H7.out.cell (g := wo.heap.size) (t := 38) (cs := o.arr) (by simp) 0; simp [Opr.arr] at x0; have HZ := Lib.hid (H7.out.weaken (K' := [(bo, ob2)]) (by simp)); clear hx hc H6 H7))
          clear x0
          have hml2 : ms'.length ≤ 1000 := by have := HO2.out.len; omega
          have HM := Lib.hid (HZ.out.made (.map #[] 0))
          obtain ⟨bs, hbs⟩ : ∃ bs, bs = wz.heap.size := ⟨_, rfl⟩
          have hbsB : w.heap.size ≤ bs := by rw [hbs]; exact HZ.out.below.size
          have hbob : bo < bs := by rw [hbs]; exact HZ.out.lt (p := (bo, ob2)) (by simp)
          refine (St.list hml2 HM.out).mono ?_; rintro e w7 ⟨⟨v, rfl, hv, hbv⟩, h⟩
          obtain ⟨A2, c2, KL, hv2, hst, hrow, hkl⟩ := HM.out.listed hv hbv
          replace hkl : ∀ p ∈ KL, bs < p.1 := fun p hp => by have := hkl p hp; rw [hbs]; simp at this; omega
          rw [← hbs] at hst
          rw [← hbs]
          have HST := Lib.hid hst
          have HV := Lib.hid hv2
          have HROW := Lib.hid hrow
          have HKL := Lib.hid (show ∀ p ∈ KL, bs < p.1 from hkl)
          clear hv hbv h hv2 hst hrow HM hbs HZ hkl
          rw [HV.out]
          go_wp2_with fail
          go_loopw [106] (fun v w8 => ∃ (j : Nat) (S2 : List Int) (ob3 : Obj), v = .int .i64 j ∧ j ≤ ms'.length ∧ S2 = (ms'.take j).map (·.line) ∧ SetObj S2 ob3 ∧ St w w.heap.size w1.heap.size room ms' (KL ++ [(bs, ob3), (bo, ob2)]) w8) (fun v _ => ms'.length - (intOf v).toNat)
          case atStart => exact ⟨0, [], _, rfl, by omega, rfl, SetObj.new, HST.out⟩
          case round =>
            obtain ⟨j, S2, ob3, rfl, hj, hS2, hset3, hs8⟩ := hrel
            have HS8 := Lib.hid hs8
            have HSET3 := Lib.hid hset3
            have HS2 := Lib.hid hS2
            clear hs8 hset3 hS2
            by_cases hjl : j < ms'.length
            · obtain ⟨m2, hm2⟩ : ∃ m2, ms'[j]? = some m2 := ⟨_, List.getElem?_eq_getElem hjl⟩
              obtain ⟨g2, hA2, hrng⟩ := HROW.out wr (fun p hp => HS8.out.block (by simp; exact .inl hp)) j m2 hm2
              subst hA2
              have HRNG := Lib.hid hrng
              have HM2 := Lib.hid hm2
              have hmem2 := List.mem_of_getElem? hm2
              have hmok := HO2.out.each m2 hmem2
              have hg0 : ¬ m2.got < 0 := by have := hmok.got0; omega
              have hnd : ¬ 0 ≤ m2.needs ∨ 0 ≤ m2.needs ∧ ¬ m2.needs < m2.got := by rcases hmok.needs with h | ⟨h, h'⟩ <;> omega
              have HSEEN := Lib.hid (seen_no HO2.out hm2)
              have HINS := Lib.hid (seen_ins HO2.out hm2)
              have HOW := Lib.hid (owed_contains HO2.out HW2.out hmem2)
              clear hrng hm2 hmem2 hmok
              rcases hnd with hnd | ⟨hnd, hnd'⟩
              all_goals
                go_wp2_with (first | (refine wpList_load_mid rfl 34 (.tmp 108) rfl g2 (j * 15) rfl m2.cells _ HRNG.out Try.underlying34 rfl Try.size34 ?_) | (refine wpList_store_box rfl 34 (.tmp 17) _ rfl _ m2.cells.toArray rfl rfl 34 _ (heap_alloc_new wr _) Try.size34 rfl (Ms.all _) ?_; intro v8 hx hc; have H8 := Lib.hid (HS8.out.box hc hx); have y0 := H8.out.cell List.mem_cons_self 0; have y2 := H8.out.cell List.mem_cons_self 2; have y3 := H8.out.cell List.mem_cons_self 3; have y14 := H8.out.cell List.mem_cons_self 14; simp [Ms.cells] at y0 y2 y3 y14; have lk1 := run_lookup_set Try.underlying54 Try.underlying3 (H8.out.block (g := bs) (o := ob3) (by simp)) HSET3.out Try.zero4 m2.line; rw [HS2.out, HSEEN.out] at lk1; have lk2 := run_lookup_set Try.underlying54 Try.underlying3 (H8.out.block (g := bo) (o := ob2) (by simp)) HSET2.out Try.zero4 m2.line; rw [← HOW.out] at lk2; have hbs3 := Lib.hid (H8.out.block (g := bs) (o := ob3) (by simp)); clear hx hc) | (refine wpList_update_set rfl 54 3 4 (.tmp 140) (.tmp 142) (.const (.bool true)) rfl Try.underlying54 Try.underlying3 bs ob3 S2 m2.line rfl rfl rfl hbs3.out HSET3.out ?_; intro w9 ob4 hs4 hb4 hc4; have H9 := Lib.hid (show Chg (· = bs) v8 w9 ∧ w9.heap[bs]? = some ob4 ∧ SetObj (ins S2 m2.line) ob4 from ⟨hc4, hb4, hs4⟩); clear lk1 lk2 y0 y2 y3 y14 hs4 hb4 hc4 hbs3))
                have H9S := Lib.hid (show SetObj ((ms'.take (j + 1)).map (·.line)) ob4 by have := H9.out.2.2; rw [HS2.out, HINS.out] at this; exact this)
                have H9T := Lib.hid (H8.out.put (o := ob3) (K' := KL ++ [(bs, ob4), (bo, ob2)]) (by simp) hbsB H9.out.1 H9.out.2.1 (by
                  intro p hp
                  rcases List.mem_append.1 hp with hp | hp
                  · exact .inr ⟨by simp [hp], by have := HKL.out p hp; omega⟩
                  · simp at hp
                    rcases hp with rfl | rfl
                    · exact .inl rfl
                    · exact .inr ⟨by simp, by show bo ≠ bs; omega⟩))
                go_roundw
                case rel => exact ⟨j + 1, _, ob4, by go_num, by omega, rfl, H9S.out, H9T.out⟩
                case measure => simp [intOf]; omega
            · have hjn : j = ms'.length := by omega
              have lkl : ∀ ty, (Builtin.len_ #[54] ty #[.map (some bs)]).run Try.prog wr = .ok (.int .i64 ms'.length) wr := by
                intro ty
                have := run_len_set Try.underlying54 (HS8.out.block (g := bs) (o := ob3) (by simp)) HSET3.out ty
                rw [HS2.out, hjn] at this
                simpa using this
              have hle : ¬ room < (ms'.length : Int) := by have := HO2.out.len; omega
              have HJN := Lib.hid hjn
              clear hjn
              go_wp2_with fail
              go_roundw
              case rel => exact ⟨k + 1, _, ms', ob2, by go_num, by omega, by simpa using HO2.out, HW2.out, HSET2.out, HS8.out.weaken (by simp)⟩
              case measure => simp [intOf]; omega
      · obtain ⟨q1, q2, q3, q4, q5, q6, q7⟩ := once_is HO.out HW.out (room := room) (o := o) (by rw [HD.out])
        rw [HD.out] at q3 q4 q5 q6 q7
        rw [HG.out] at q6
        simp only [Prod.mk.injEq] at q6
        obtain ⟨rfl, rfl⟩ := q6
        have HW2 := Lib.hid q7
        have HQ := Lib.hid q2
        have HQ5 := Lib.hid q5
        have HQ1 := Lib.hid q1
        have t3 : (gm.needs != gm.got) = false := by simpa using q3
        have t4 : ¬ gm.needs < 0 := by simp only at q4; omega
        have q : ∀ (a0 a1 a2 a3 a4 a5 a6 a7 : Int) (w : World), (Op.equalIn 9999 32 (.agg #[.int .i64 a0, .int .i64 a1, .int .i64 a2, .int .i64 a3, .int .i64 a4, .int .i64 a5, .int .i64 a6, .int .i64 a7]) (.agg #[.int .i64 a0, .int .i64 a1, .int .i64 a2, .int .i64 a3, .int .i64 a4, .int .i64 a5, .int .i64 a6, .int .i64 a7])).run Try.prog w = .ok true w := fun a0 a1 a2 a3 a4 a5 a6 a7 w => equal_w8 9997 a0 a1 a2 a3 a4 a5 a6 a7 w
        clear q1 q2 q3 q4 q5 q7
        have hkk : ∀ ob2, ∀ p ∈ [(wo.heap.size, Obj.cells o.arr 38 (0, 0)), (bo, ob2)], p = (bo, ob2) ∨ (p ∈ [(w5.heap.size, Obj.cells gm.cells.toArray 34 (0, 0)), (w4.heap.size, .cells gm.cells.toArray 34 (0, 0)), (wo.heap.size, .cells o.arr 38 (0, 0)), (bo, ob)] ∧ p.1 ≠ bo) := by
          intro ob2 p hp
          simp at hp
          rcases hp with rfl | rfl
          · exact .inr ⟨by simp, by show wo.heap.size ≠ bo; omega⟩
          · exact .inl rfl
        have HKK := Lib.hid hkk
        clear hkk
        have cb : ∀ v, St w w.heap.size w1.heap.size room ms' [(w5.heap.size, .cells gm.cells.toArray 34 (0, 0)), (w4.heap.size, .cells gm.cells.toArray 34 (0, 0)), (wo.heap.size, .cells o.arr 38 (0, 0)), (bo, ob)] v → (∀ j, v.cell? ⟨w5.heap.size, j, none⟩ = gm.cells[j]?) ∧ ∀ j, v.cell? ⟨w4.heap.size, j, none⟩ = gm.cells[j]? := by
          intro v hv
          refine ⟨fun j => ?_, fun j => ?_⟩
          · have := hv.cell (g := w5.heap.size) (t := 34) (cs := gm.cells.toArray) (by simp) j
            simpa using this
          · have := hv.cell (g := w4.heap.size) (t := 34) (cs := gm.cells.toArray) (by simp) j
            simpa using this
        have CB := Lib.hid cb
        clear cb
        go_wp2_with (first | (refine wpList_store_box rfl 34 (.tmp 12) _ rfl _ gm.cells.toArray rfl rfl 34 _ (heap_alloc_new w5 _) Try.size34 rfl (Ms.all _) ?_; intro v5 hx hc; have H7 := Lib.hid (H6.out.box hc hx); have c0 := (CB.out _ H7.out).1 0; have c1 := (CB.out _ H7.out).1 1; have c2 := (CB.out _ H7.out).1 2; have c3 := (CB.out _ H7.out).1 3; have c4 := (CB.out _ H7.out).1 4; have c5 := (CB.out _ H7.out).1 5; have c6 := (CB.out _ H7.out).1 6; have c7 := (CB.out _ H7.out).1 7; have c8 := (CB.out _ H7.out).1 8; have c9 := (CB.out _ H7.out).1 9; have c10 := (CB.out _ H7.out).1 10; have c11 := (CB.out _ H7.out).1 11; have c12 := (CB.out _ H7.out).1 12; have c13 := (CB.out _ H7.out).1 13; have c14 := (CB.out _ H7.out).1 14; have d0 := (CB.out _ H7.out).2 0; have d1 := (CB.out _ H7.out).2 1; have d2 := (CB.out _ H7.out).2 2; have d3 := (CB.out _ H7.out).2 3; have d4 := (CB.out _ H7.out).2 4; have d5 := (CB.out _ H7.out).2 5; have d6 := (CB.out _ H7.out).2 6; have d7 := (CB.out _ H7.out).2 7; have d8 := (CB.out _ H7.out).2 8; have d9 := (CB.out _ H7.out).2 9; have d10 := (CB.out _ H7.out).2 10; have d11 := (CB.out _ H7.out).2 11; have d12 := (CB.out _ H7.out).2 12; have d13 := (CB.out _ H7.out).2 13; have d14 := (CB.out _ H7.out).2 14; have x1 := H7.out.cell (g := wo.heap.size) (t := 38) (cs := o.arr) (by simp) 1; have lk := run_lookup_set Try.underlying54 Try.underlying3 (H7.out.block (g := bo) (o := ob) (by simp)) HSET.out Try.zero4 o.line; rw [HQ.out] at lk; have hbo := Lib.hid (H7.out.block (g := bo) (o := ob) (by simp)); simp [Ms.cells, Opr.arr] at c0 c1 c2 c3 c4 c5 c6 c7 c8 c9 c10 c11 c12 c13 c14 d0 d1 d2 d3 d4 d5 d6 d7 d8 d9 d10 d11 d12 d13 d14 x1; rw [HQ5.out] at c14 d14; clear hx hc H6) | (refine wpList_update_set rfl 54 3 4 (.tmp 81) (.tmp 83) (.const (.bool true)) rfl Try.underlying54 Try.underlying3 bo ob S o.line rfl rfl rfl hbo.out HSET.out ?_; intro wz ob2 hs2 hb2 hc2; have HZ0 := Lib.hid (H7.out.put (o := ob) (K' := [(wo.heap.size, .cells o.arr 38 (0, 0)), (bo, ob2)]) (by simp) hbB hc2 hb2 (HKK.out ob2)); have HSET2 := Lib.hid hs2; have x0 := HZ0.out.cell (g := wo.heap.size) (t := 38) (cs := o.arr) (by simp) 0; simp [Opr.arr] at x0; rw [HQ1.out] at x0; have HZ := Lib.hid (HZ0.out.weaken (K' := [(bo, ob2)]) (by simp)); clear c0 c1 c2 c3 c4 c5 c6 c7 c8 c9 c10 c11 c12 c13 c14 d0 d1 d2 d3 d4 d5 d6 d7 d8 d9 d10 d11 d12 d13 d14 x1 lk q hs2 hb2 hc2 H7 hbo HZ0))
        clear x0
        have hml2 : ms'.length ≤ 1000 := by have := HO2.out.len; omega
        have HM := Lib.hid (HZ.out.made (.map #[] 0))
        obtain ⟨bs, hbs⟩ : ∃ bs, bs = wz.heap.size := ⟨_, rfl⟩
        have hbsB : w.heap.size ≤ bs := by rw [hbs]; exact HZ.out.below.size
        have hbob : bo < bs := by rw [hbs]; exact HZ.out.lt (p := (bo, ob2)) (by simp)
        refine (St.list hml2 HM.out).mono ?_; rintro e w7 ⟨⟨v, rfl, hv, hbv⟩, h⟩
        obtain ⟨A2, c2, KL, hv2, hst, hrow, hkl⟩ := HM.out.listed hv hbv
        replace hkl : ∀ p ∈ KL, bs < p.1 := fun p hp => by have := hkl p hp; rw [hbs]; simp at this; omega
        rw [← hbs] at hst
        rw [← hbs]
        have HST := Lib.hid hst
        have HV := Lib.hid hv2
        have HROW := Lib.hid hrow
        have HKL := Lib.hid (show ∀ p ∈ KL, bs < p.1 from hkl)
        clear hv hbv h hv2 hst hrow HM hbs HZ hkl
        rw [HV.out]
        go_wp2_with fail
        go_loopw [106] (fun v w8 => ∃ (j : Nat) (S2 : List Int) (ob3 : Obj), v = .int .i64 j ∧ j ≤ ms'.length ∧ S2 = (ms'.take j).map (·.line) ∧ SetObj S2 ob3 ∧ St w w.heap.size w1.heap.size room ms' (KL ++ [(bs, ob3), (bo, ob2)]) w8) (fun v _ => ms'.length - (intOf v).toNat)
        case atStart => exact ⟨0, [], _, rfl, by omega, rfl, SetObj.new, HST.out⟩
        case round =>
          obtain ⟨j, S2, ob3, rfl, hj, hS2, hset3, hs8⟩ := hrel
          have HS8 := Lib.hid hs8
          have HSET3 := Lib.hid hset3
          have HS2 := Lib.hid hS2
          clear hs8 hset3 hS2
          by_cases hjl : j < ms'.length
          · obtain ⟨m2, hm2⟩ : ∃ m2, ms'[j]? = some m2 := ⟨_, List.getElem?_eq_getElem hjl⟩
            obtain ⟨g2, hA2, hrng⟩ := HROW.out wr (fun p hp => HS8.out.block (by simp; exact .inl hp)) j m2 hm2
            subst hA2
            have HRNG := Lib.hid hrng
            have HM2 := Lib.hid hm2
            have hmem2 := List.mem_of_getElem? hm2
            have hmok := HO2.out.each m2 hmem2
            have hg0 : ¬ m2.got < 0 := by have := hmok.got0; omega
            have hnd : ¬ 0 ≤ m2.needs ∨ 0 ≤ m2.needs ∧ ¬ m2.needs < m2.got := by rcases hmok.needs with h | ⟨h, h'⟩ <;> omega
            have HSEEN := Lib.hid (seen_no HO2.out hm2)
            have HINS := Lib.hid (seen_ins HO2.out hm2)
            have HOW := Lib.hid (owed_contains HO2.out HW2.out hmem2)
            clear hrng hm2 hmem2 hmok
            rcases hnd with hnd | ⟨hnd, hnd'⟩
            all_goals
              go_wp2_with (first | (refine wpList_load_mid rfl 34 (.tmp 108) rfl g2 (j * 15) rfl m2.cells _ HRNG.out Try.underlying34 rfl Try.size34 ?_) | (refine wpList_store_box rfl 34 (.tmp 17) _ rfl _ m2.cells.toArray rfl rfl 34 _ (heap_alloc_new wr _) Try.size34 rfl (Ms.all _) ?_; intro v8 hx hc; have H8 := Lib.hid (HS8.out.box hc hx); have y0 := H8.out.cell List.mem_cons_self 0; have y2 := H8.out.cell List.mem_cons_self 2; have y3 := H8.out.cell List.mem_cons_self 3; have y14 := H8.out.cell List.mem_cons_self 14; simp [Ms.cells] at y0 y2 y3 y14; have lk1 := run_lookup_set Try.underlying54 Try.underlying3 (H8.out.block (g := bs) (o := ob3) (by simp)) HSET3.out Try.zero4 m2.line; rw [HS2.out, HSEEN.out] at lk1; have lk2 := run_lookup_set Try.underlying54 Try.underlying3 (H8.out.block (g := bo) (o := ob2) (by simp)) HSET2.out Try.zero4 m2.line; rw [← HOW.out] at lk2; have hbs3 := Lib.hid (H8.out.block (g := bs) (o := ob3) (by simp)); clear hx hc) | (refine wpList_update_set rfl 54 3 4 (.tmp 140) (.tmp 142) (.const (.bool true)) rfl Try.underlying54 Try.underlying3 bs ob3 S2 m2.line rfl rfl rfl hbs3.out HSET3.out ?_; intro w9 ob4 hs4 hb4 hc4; have H9 := Lib.hid (show Chg (· = bs) v8 w9 ∧ w9.heap[bs]? = some ob4 ∧ SetObj (ins S2 m2.line) ob4 from ⟨hc4, hb4, hs4⟩); clear lk1 lk2 y0 y2 y3 y14 hs4 hb4 hc4 hbs3))
              have H9S := Lib.hid (show SetObj ((ms'.take (j + 1)).map (·.line)) ob4 by have := H9.out.2.2; rw [HS2.out, HINS.out] at this; exact this)
              have H9T := Lib.hid (H8.out.put (o := ob3) (K' := KL ++ [(bs, ob4), (bo, ob2)]) (by simp) hbsB H9.out.1 H9.out.2.1 (by
                intro p hp
                rcases List.mem_append.1 hp with hp | hp
                · exact .inr ⟨by simp [hp], by have := HKL.out p hp; omega⟩
                · simp at hp
                  rcases hp with rfl | rfl
                  · exact .inl rfl
                  · exact .inr ⟨by simp, by show bo ≠ bs; omega⟩))
              go_roundw
              case rel => exact ⟨j + 1, _, ob4, by go_num, by omega, rfl, H9S.out, H9T.out⟩
              case measure => simp [intOf]; omega
          · have hjn : j = ms'.length := by omega
            have lkl : ∀ ty, (Builtin.len_ #[54] ty #[.map (some bs)]).run Try.prog wr = .ok (.int .i64 ms'.length) wr := by
              intro ty
              have := run_len_set Try.underlying54 (HS8.out.block (g := bs) (o := ob3) (by simp)) HSET3.out ty
              rw [HS2.out, hjn] at this
              simpa using this
            have hle : ¬ room < (ms'.length : Int) := by have := HO2.out.len; omega
            have HJN := Lib.hid hjn
            clear hjn
            go_wp2_with fail
            go_roundw
            case rel => exact ⟨k + 1, _, ms', ob2, by go_num, by omega, by simpa using HO2.out, HW2.out, HSET2.out, HS8.out.weaken (by simp)⟩
            case measure => simp [intOf]; omega
    · have hkn : k = n := by omega
      clear hlt
      go_wp2_with fail
      go_ret
      exact ⟨rfl, HS.out.below⟩
end Go.Proofs.Ytfjeheioglmalaa
