/- The law ProgramJoin. -/
import Derived.Test.YtfjeheioglmalaaDoorBackLaw
import Derived.Test.YtfjeheioglmalaaDoorAppend
namespace Go.Proofs.YtfjeheioglmalaaDoor
open Go.RowKit Go.Lib
set_option linter.unusedVariables false
set_option linter.unusedSimpArgs false
theorem print_any (l : List PO) (A : Option Addr) (c : Nat) (hl : l.length ≤ 9223372036854775807) (w : World) (ho : OpsIn w A l) (ht : Tab w) :
    Calls Tryd.prog 14 #[.slice A l.length c] w fun e w' => e = .returned (.tuple #[.string ⟨(printP l).1.toArray⟩, .int .i64 (printP l).2]) ∧ Below w.heap.size w w' := by
  by_cases h64 : 64 < l.length
  · rw [print_full h64]
    have h64' : (64 : Int) < l.length := by omega
    clear ho ht
    go_enter Tryd.func14, Tryd.ntmps14
    go_wp2_with fail
    go_ret2
    exact ⟨rfl, Below.refl _ _⟩
  · exact print_walk l A c (by omega) w ho ht
theorem print_zero {l : List PO} (h : (printP l).2 = 0) : printP l = (allP l, 0) := by
  obtain ⟨h1, h2, h3⟩ := print_ok h
  exact print_good (by omega) h2
/-- What the law wants of the text of both: s is the first one's text, with a blank if neither is empty. -/
theorem join_said {a b : List PO} {ps pt s : List UInt8} (ha : printP a = (ps, 0)) (hb : printP b = (pt, 0)) (hs : s ++ pt = joinP a b) :
    (64 < (a ++ b).length → printP (a ++ b) = ([], 4) ∧ (parseP (s ++ pt)).2 = 4) ∧
    (¬ 64 < (a ++ b).length → printP (a ++ b) = (s ++ pt, 0) ∧ (parseP (s ++ pt ++ [32])).2 = 2) := by
  rw [hs]
  exact join_law (by rw [ha]) (by rw [hb])
theorem print_short {l : List PO} {ps : List UInt8} (h : printP l = (ps, 0)) : l.length ≤ 64 ∧ ps.length ≤ 2000 ∧ ps = allP l := by
  obtain ⟨h1, h2, h3⟩ := print_ok (l := l) (by rw [h])
  rw [h] at h3
  have h4 := allP_short l h2
  simp only at h3
  rw [h3]
  exact ⟨h1, by omega, rfl⟩
theorem own_new (w : World) (B : Nat) (hB : B ≤ w.heap.size) : (w.alloc (.cells #[] 33)).ownsRow B 33 3 (.slice (some ⟨w.heap.size, 0, none⟩) 0 0) 0 [] :=
  ⟨by simp, .inr ⟨w.heap.size, 0, #[], rfl, hB, heap_alloc_new w _, Nat.le_refl _, Nat.zero_le _, rfl, rfl⟩⟩
set_option maxRecDepth 100000 in
set_option maxHeartbeats 1000000 in
theorem join_any (l : List PO) (A : Option Addr) (cap : Nat) (m : List PO) (A2 : Option Addr) (cap2 : Nat) (hl : l.length ≤ 9223372036854775807) (hm : m.length ≤ 9223372036854775807) (w : World) (ht : Tab w) (ho : OpsIn w A l) (ho2 : OpsIn w A2 m) :
    Calls Tryd.prog 6 #[.slice A l.length cap, .slice A2 m.length cap2] w fun e w' => e = .returned (.bool true) ∧ Below w.heap.size w w' := by
  have HA := Lib.hid (awake_walk w ht)
  have HT := Lib.hid ht
  have HO := Lib.hid ho
  have HO2 := Lib.hid ho2
  clear ht ho ho2
  obtain ⟨z, hz⟩ : ∃ z : Int, IntKind.i64.wrap (l.length + m.length) = z := ⟨_, rfl⟩
  by_cases h2 : (200 : Int) < z
  · go_enter Tryd.func6, Tryd.ntmps6
    go_wp2_with fail
    refine HA.out.mono ?_
    rintro e w1 ⟨rfl, hb⟩
    have HB1 := Lib.hid hb
    clear hb
    go_wp2_with fail
    
    go_ret
    exact ⟨rfl, HB1.out⟩
  · have HPA := Lib.hid (fun W h1 h2 => print_any l A cap hl W h1 h2)
    have HPB := Lib.hid (fun W h1 h2 => print_any m A2 cap2 hm W h1 h2)
    have hac := print_codes l
    have hbc := print_codes m
    have HAE := Lib.hid (fun h => print_err (l := l) h)
    have HBE := Lib.hid (fun h => print_err (l := m) h)
    obtain ⟨⟨ps, pe⟩, hps⟩ : ∃ p, printP l = p := ⟨_, rfl⟩
    obtain ⟨⟨pt, qe⟩, hqs⟩ : ∃ p, printP m = p := ⟨_, rfl⟩
    rw [hps] at HPA HAE hac
    rw [hqs] at HPB HBE hbc
    simp only at hac hbc
    have HPS := Lib.hid hps
    have HQS := Lib.hid hqs
    clear hps hqs
    
    go_enter Tryd.func6, Tryd.ntmps6
    go_wp2_with fail
    refine HA.out.mono ?_
    rintro e w1 ⟨rfl, hb⟩
    have HB1 := Lib.hid hb
    clear hb
    go_wp2_with fail
    
    refine (HPA.out _ (HO.out.below HB1.out) (HT.out.below HB1.out)).mono ?_
    rintro e w2 ⟨rfl, hb⟩
    have HB2 := Lib.hid (HB1.out.trans (hb.mono HB1.out.size))
    clear hb
    go_wp2_with fail
    refine (HPB.out _ (HO2.out.below HB2.out) (HT.out.below HB2.out)).mono ?_
    rintro e w3 ⟨rfl, hb⟩
    have HB3 := Lib.hid (HB2.out.trans (hb.mono HB2.out.size))
    clear hb
    rcases hac with rfl | rfl | rfl
    · rcases hbc with rfl | rfl | rfl
      · obtain ⟨hl64, hpl, hpa⟩ := print_short HPS.out
        obtain ⟨hm64, hql, hqa⟩ := print_short HQS.out
        have hjoin := fun s hs => join_said (s := s) HPS.out HQS.out hs
        have HJ := Lib.hid hjoin
        clear hjoin HAE HBE HPA HPB
        by_cases hl0 : l = []
        · have hs : ps ++ pt = joinP l m := by rw [hpa, hqa]; simp [joinP, hl0]
          have HX := Lib.hid (HJ.out ps hs)
          clear hs hpa hqa HJ
          have hlp : ¬ (0 : Int) < l.length := by rw [hl0]; simp
          have hlp2 : ¬ 0 < l.length := by omega
          clear hl0
          obtain ⟨sp, hsp⟩ : ∃ sp, ps ++ pt = sp := ⟨_, rfl⟩
          obtain ⟨sq, hsq⟩ : ∃ sq, sp ++ [32] = sq := ⟨_, rfl⟩
          have cA : ∀ w, (Op.stringOp .add ⟨ps.toArray⟩ ⟨pt.toArray⟩).run Tryd.prog w = .ok (.string ⟨sp.toArray⟩) w := fun w => by rw [cat ps pt (by omega) (by omega) w, hsp]
          have hspl : sp.length ≤ 4001 := by rw [← hsp]; simp; omega
          have cB : ∀ w, (Op.stringOp .add ⟨sp.toArray⟩ ⟨([32] : List UInt8).toArray⟩).run Tryd.prog w = .ok (.string ⟨sq.toArray⟩) w := fun w => by rw [cat sp [32] (by omega) (by simp) w, hsq]
          have hsql : sq.length ≤ 4002 := by rw [← hsq]; simp; omega
          rw [hsp, hsq] at HX
          clear hsp hsq
          have HBA := Lib.hid (HB3.out.alloc HB3.out.size (.cells #[] 33))
          go_wp2_with (at_builtin; go_must (refine wpList_append_ops rfl _ _ rfl w.heap.size _ 0 [] rfl (own_new w3 w.heap.size HB3.out.size) (by intro e; cases e) A l.length cap l rfl rfl (HO.out.below HBA.out) (by omega) HBA.out.size ?_))
          intro v1 w4 hown1 hne1 hgrow1
          try simp only [Nat.zero_add, List.nil_append] at hown1
          have HB4 := Lib.hid (HBA.out.grown hgrow1 HBA.out.size (fun k hk => ((own_new w3 w.heap.size HB3.out.size).lt k hk).1))
          have HOWN1 := Lib.hid hown1
          have HNE1 := Lib.hid hne1
          clear hown1 hne1 hgrow1
          go_wp2_with (at_builtin; go_must (refine wpList_append_ops rfl _ _ rfl w.heap.size v1 l.length (flat l) rfl HOWN1.out HNE1.out A2 m.length cap2 m rfl rfl (HO2.out.below HB4.out) (by omega) HB4.out.size ?_))
          intro v2 w5 hown2 hne2 hgrow2
          have HB5 := Lib.hid (HB4.out.grown hgrow2 HB4.out.size (fun k hk => (HOWN1.out.lt k hk).1))
          rw [← flat_append, ← List.length_append] at hown2
          have hal2 : (l ++ m).length ≤ 128 := by rw [List.length_append]; omega
          clear hne2 hgrow2 HOWN1 HNE1
          obtain ⟨al, hal⟩ : ∃ al, l ++ m = al := ⟨_, rfl⟩
          rw [hal] at hown2 HX hal2
          obtain ⟨A4, c4, rfl⟩ := own_form hown2
          have HOWN2 := Lib.hid hown2
          clear hown2 hal
          by_cases hgt : 64 < al.length
          · have hgt' : (64 : Int) < al.length := by omega
            obtain ⟨hp, hq⟩ := HX.out.1 hgt
            have HP := Lib.hid (fun W h1 h2 => print_any al A4 c4 (by omega) W h1 h2)
            rw [hp] at HP
            have HQ := Lib.hid (fun W => parse_walk sp (by omega) W)
            unfold ParsePost at HQ
            obtain ⟨⟨ql, qe⟩, hqq⟩ : ∃ p, parseP sp = p := ⟨_, rfl⟩
            rw [hqq] at hq HQ
            obtain rfl : qe = 4 := hq
            clear hp hqq HX
            go_wp2_with fail
            refine (HP.out _ (own_ops HOWN2.out rfl) (HT.out.below HB5.out)).mono ?_
            rintro e w6 ⟨rfl, hb⟩
            have HB6 := Lib.hid (HB5.out.trans (hb.mono HB5.out.size))
            clear hb
            go_wp2_with fail
            refine (HQ.out _).mono ?_
            rintro e w7 ⟨A7, c7, rfl, ho, hb⟩
            have HB7 := Lib.hid (HB6.out.trans (hb.mono HB6.out.size))
            clear ho hb
            go_wp2_with fail
            go_ret
            exact ⟨ret_bool' (by simp), HB7.out⟩
          · have hgt' : ¬ (64 : Int) < al.length := by omega
            obtain ⟨hp, hq⟩ := HX.out.2 hgt
            have HP := Lib.hid (fun W h1 h2 => print_any al A4 c4 (by omega) W h1 h2)
            rw [hp] at HP
            have HQ := Lib.hid (fun W => parse_walk sq (by omega) W)
            unfold ParsePost at HQ
            obtain ⟨⟨ql, qe⟩, hqq⟩ : ∃ p, parseP sq = p := ⟨_, rfl⟩
            rw [hqq] at hq HQ
            obtain rfl : qe = 2 := hq
            clear hp hqq HX
            go_wp2_with fail
            refine (HP.out _ (own_ops HOWN2.out rfl) (HT.out.below HB5.out)).mono ?_
            rintro e w6 ⟨rfl, hb⟩
            have HB6 := Lib.hid (HB5.out.trans (hb.mono HB5.out.size))
            clear hb
            go_wp2_with fail
            refine (HQ.out _).mono ?_
            rintro e w7 ⟨A7, c7, rfl, ho, hb⟩
            have HB7 := Lib.hid (HB6.out.trans (hb.mono HB6.out.size))
            clear ho hb
            go_wp2_with fail
            go_ret
            exact ⟨ret_bool' (by simp), HB7.out⟩
        
        · by_cases hm0 : m = []
          · have hs : ps ++ pt = joinP l m := by rw [hpa, hqa]; simp [joinP, hm0]
            have HX := Lib.hid (HJ.out ps hs)
            clear hs hpa hqa HJ
            have hlp : (0 : Int) < l.length := by have := List.length_pos_iff.2 hl0; omega
            have hmp : ¬ (0 : Int) < m.length := by rw [hm0]; simp
            have hmp2 : ¬ 0 < m.length := by omega
            have hlp2 : 0 < l.length := by omega
            clear hl0 hm0
            obtain ⟨sp, hsp⟩ : ∃ sp, ps ++ pt = sp := ⟨_, rfl⟩
            obtain ⟨sq, hsq⟩ : ∃ sq, sp ++ [32] = sq := ⟨_, rfl⟩
            have cA : ∀ w, (Op.stringOp .add ⟨ps.toArray⟩ ⟨pt.toArray⟩).run Tryd.prog w = .ok (.string ⟨sp.toArray⟩) w := fun w => by rw [cat ps pt (by omega) (by omega) w, hsp]
            have hspl : sp.length ≤ 4001 := by rw [← hsp]; simp; omega
            have cB : ∀ w, (Op.stringOp .add ⟨sp.toArray⟩ ⟨([32] : List UInt8).toArray⟩).run Tryd.prog w = .ok (.string ⟨sq.toArray⟩) w := fun w => by rw [cat sp [32] (by omega) (by simp) w, hsq]
            have hsql : sq.length ≤ 4002 := by rw [← hsq]; simp; omega
            rw [hsp, hsq] at HX
            clear hsp hsq
            have HBA := Lib.hid (HB3.out.alloc HB3.out.size (.cells #[] 33))
            go_wp2_with (at_builtin; go_must (refine wpList_append_ops rfl _ _ rfl w.heap.size _ 0 [] rfl (own_new w3 w.heap.size HB3.out.size) (by intro e; cases e) A l.length cap l rfl rfl (HO.out.below HBA.out) (by omega) HBA.out.size ?_))
            intro v1 w4 hown1 hne1 hgrow1
            try simp only [Nat.zero_add, List.nil_append] at hown1
            have HB4 := Lib.hid (HBA.out.grown hgrow1 HBA.out.size (fun k hk => ((own_new w3 w.heap.size HB3.out.size).lt k hk).1))
            have HOWN1 := Lib.hid hown1
            have HNE1 := Lib.hid hne1
            clear hown1 hne1 hgrow1
            go_wp2_with (at_builtin; go_must (refine wpList_append_ops rfl _ _ rfl w.heap.size v1 l.length (flat l) rfl HOWN1.out HNE1.out A2 m.length cap2 m rfl rfl (HO2.out.below HB4.out) (by omega) HB4.out.size ?_))
            intro v2 w5 hown2 hne2 hgrow2
            have HB5 := Lib.hid (HB4.out.grown hgrow2 HB4.out.size (fun k hk => (HOWN1.out.lt k hk).1))
            rw [← flat_append, ← List.length_append] at hown2
            have hal2 : (l ++ m).length ≤ 128 := by rw [List.length_append]; omega
            clear hne2 hgrow2 HOWN1 HNE1
            obtain ⟨al, hal⟩ : ∃ al, l ++ m = al := ⟨_, rfl⟩
            rw [hal] at hown2 HX hal2
            obtain ⟨A4, c4, rfl⟩ := own_form hown2
            have HOWN2 := Lib.hid hown2
            clear hown2 hal
            by_cases hgt : 64 < al.length
            · have hgt' : (64 : Int) < al.length := by omega
              obtain ⟨hp, hq⟩ := HX.out.1 hgt
              have HP := Lib.hid (fun W h1 h2 => print_any al A4 c4 (by omega) W h1 h2)
              rw [hp] at HP
              have HQ := Lib.hid (fun W => parse_walk sp (by omega) W)
              unfold ParsePost at HQ
              obtain ⟨⟨ql, qe⟩, hqq⟩ : ∃ p, parseP sp = p := ⟨_, rfl⟩
              rw [hqq] at hq HQ
              obtain rfl : qe = 4 := hq
              clear hp hqq HX
              go_wp2_with fail
              refine (HP.out _ (own_ops HOWN2.out rfl) (HT.out.below HB5.out)).mono ?_
              rintro e w6 ⟨rfl, hb⟩
              have HB6 := Lib.hid (HB5.out.trans (hb.mono HB5.out.size))
              clear hb
              go_wp2_with fail
              refine (HQ.out _).mono ?_
              rintro e w7 ⟨A7, c7, rfl, ho, hb⟩
              have HB7 := Lib.hid (HB6.out.trans (hb.mono HB6.out.size))
              clear ho hb
              go_wp2_with fail
              go_ret
              exact ⟨ret_bool' (by simp), HB7.out⟩
            · have hgt' : ¬ (64 : Int) < al.length := by omega
              obtain ⟨hp, hq⟩ := HX.out.2 hgt
              have HP := Lib.hid (fun W h1 h2 => print_any al A4 c4 (by omega) W h1 h2)
              rw [hp] at HP
              have HQ := Lib.hid (fun W => parse_walk sq (by omega) W)
              unfold ParsePost at HQ
              obtain ⟨⟨ql, qe⟩, hqq⟩ : ∃ p, parseP sq = p := ⟨_, rfl⟩
              rw [hqq] at hq HQ
              obtain rfl : qe = 2 := hq
              clear hp hqq HX
              go_wp2_with fail
              refine (HP.out _ (own_ops HOWN2.out rfl) (HT.out.below HB5.out)).mono ?_
              rintro e w6 ⟨rfl, hb⟩
              have HB6 := Lib.hid (HB5.out.trans (hb.mono HB5.out.size))
              clear hb
              go_wp2_with fail
              refine (HQ.out _).mono ?_
              rintro e w7 ⟨A7, c7, rfl, ho, hb⟩
              have HB7 := Lib.hid (HB6.out.trans (hb.mono HB6.out.size))
              clear ho hb
              go_wp2_with fail
              go_ret
              exact ⟨ret_bool' (by simp), HB7.out⟩
        
          · have hs : ps ++ [32] ++ pt = joinP l m := by rw [hpa, hqa]; simp [joinP, hl0, hm0]
            have HX := Lib.hid (HJ.out (ps ++ [32]) hs)
            clear hs hpa hqa HJ
            have hlp : (0 : Int) < l.length := by have := List.length_pos_iff.2 hl0; omega
            have hmp : (0 : Int) < m.length := by have := List.length_pos_iff.2 hm0; omega
            have hmp2 : 0 < m.length := by omega
            have hlp2 : 0 < l.length := by omega
            clear hl0 hm0
            obtain ⟨sv, hsv⟩ : ∃ sv, ps ++ [32] = sv := ⟨_, rfl⟩
            have c0 : ∀ w, (Op.stringOp .add ⟨ps.toArray⟩ ⟨([32] : List UInt8).toArray⟩).run Tryd.prog w = .ok (.string ⟨sv.toArray⟩) w := fun w => by rw [cat ps [32] (by omega) (by simp) w, hsv]
            rw [hsv] at HX
            have hsvl : sv.length ≤ 2001 := by rw [← hsv]; simp; omega
            clear hsv
            obtain ⟨sp, hsp⟩ : ∃ sp, sv ++ pt = sp := ⟨_, rfl⟩
            obtain ⟨sq, hsq⟩ : ∃ sq, sp ++ [32] = sq := ⟨_, rfl⟩
            have cA : ∀ w, (Op.stringOp .add ⟨sv.toArray⟩ ⟨pt.toArray⟩).run Tryd.prog w = .ok (.string ⟨sp.toArray⟩) w := fun w => by rw [cat sv pt (by omega) (by omega) w, hsp]
            have hspl : sp.length ≤ 4001 := by rw [← hsp]; simp; omega
            have cB : ∀ w, (Op.stringOp .add ⟨sp.toArray⟩ ⟨([32] : List UInt8).toArray⟩).run Tryd.prog w = .ok (.string ⟨sq.toArray⟩) w := fun w => by rw [cat sp [32] (by omega) (by simp) w, hsq]
            have hsql : sq.length ≤ 4002 := by rw [← hsq]; simp; omega
            rw [hsp, hsq] at HX
            clear hsp hsq
            have HBA := Lib.hid (HB3.out.alloc HB3.out.size (.cells #[] 33))
            go_wp2_with (at_builtin; go_must (refine wpList_append_ops rfl _ _ rfl w.heap.size _ 0 [] rfl (own_new w3 w.heap.size HB3.out.size) (by intro e; cases e) A l.length cap l rfl rfl (HO.out.below HBA.out) (by omega) HBA.out.size ?_))
            intro v1 w4 hown1 hne1 hgrow1
            try simp only [Nat.zero_add, List.nil_append] at hown1
            have HB4 := Lib.hid (HBA.out.grown hgrow1 HBA.out.size (fun k hk => ((own_new w3 w.heap.size HB3.out.size).lt k hk).1))
            have HOWN1 := Lib.hid hown1
            have HNE1 := Lib.hid hne1
            clear hown1 hne1 hgrow1
            go_wp2_with (at_builtin; go_must (refine wpList_append_ops rfl _ _ rfl w.heap.size v1 l.length (flat l) rfl HOWN1.out HNE1.out A2 m.length cap2 m rfl rfl (HO2.out.below HB4.out) (by omega) HB4.out.size ?_))
            intro v2 w5 hown2 hne2 hgrow2
            have HB5 := Lib.hid (HB4.out.grown hgrow2 HB4.out.size (fun k hk => (HOWN1.out.lt k hk).1))
            rw [← flat_append, ← List.length_append] at hown2
            have hal2 : (l ++ m).length ≤ 128 := by rw [List.length_append]; omega
            clear hne2 hgrow2 HOWN1 HNE1
            obtain ⟨al, hal⟩ : ∃ al, l ++ m = al := ⟨_, rfl⟩
            rw [hal] at hown2 HX hal2
            obtain ⟨A4, c4, rfl⟩ := own_form hown2
            have HOWN2 := Lib.hid hown2
            clear hown2 hal
            by_cases hgt : 64 < al.length
            · have hgt' : (64 : Int) < al.length := by omega
              obtain ⟨hp, hq⟩ := HX.out.1 hgt
              have HP := Lib.hid (fun W h1 h2 => print_any al A4 c4 (by omega) W h1 h2)
              rw [hp] at HP
              have HQ := Lib.hid (fun W => parse_walk sp (by omega) W)
              unfold ParsePost at HQ
              obtain ⟨⟨ql, qe⟩, hqq⟩ : ∃ p, parseP sp = p := ⟨_, rfl⟩
              rw [hqq] at hq HQ
              obtain rfl : qe = 4 := hq
              clear hp hqq HX
              go_wp2_with fail
              refine (HP.out _ (own_ops HOWN2.out rfl) (HT.out.below HB5.out)).mono ?_
              rintro e w6 ⟨rfl, hb⟩
              have HB6 := Lib.hid (HB5.out.trans (hb.mono HB5.out.size))
              clear hb
              go_wp2_with fail
              refine (HQ.out _).mono ?_
              rintro e w7 ⟨A7, c7, rfl, ho, hb⟩
              have HB7 := Lib.hid (HB6.out.trans (hb.mono HB6.out.size))
              clear ho hb
              go_wp2_with fail
              go_ret
              exact ⟨ret_bool' (by simp), HB7.out⟩
            · have hgt' : ¬ (64 : Int) < al.length := by omega
              obtain ⟨hp, hq⟩ := HX.out.2 hgt
              have HP := Lib.hid (fun W h1 h2 => print_any al A4 c4 (by omega) W h1 h2)
              rw [hp] at HP
              have HQ := Lib.hid (fun W => parse_walk sq (by omega) W)
              unfold ParsePost at HQ
              obtain ⟨⟨ql, qe⟩, hqq⟩ : ∃ p, parseP sq = p := ⟨_, rfl⟩
              rw [hqq] at hq HQ
              obtain rfl : qe = 2 := hq
              clear hp hqq HX
              go_wp2_with fail
              refine (HP.out _ (own_ops HOWN2.out rfl) (HT.out.below HB5.out)).mono ?_
              rintro e w6 ⟨rfl, hb⟩
              have HB6 := Lib.hid (HB5.out.trans (hb.mono HB5.out.size))
              clear hb
              go_wp2_with fail
              refine (HQ.out _).mono ?_
              rintro e w7 ⟨A7, c7, rfl, ho, hb⟩
              have HB7 := Lib.hid (HB6.out.trans (hb.mono HB6.out.size))
              clear ho hb
              go_wp2_with fail
              go_ret
              exact ⟨ret_bool' (by simp), HB7.out⟩
      · have hnil : pt = [] := HBE.out (by simp)
        subst hnil
        cases ps with
        | nil =>
          go_wp2_with fail
          go_ret
          exact ⟨ret_bool' (by simp), HB3.out⟩
        | cons c r =>
          go_wp2_with fail
          go_ret
          exact ⟨ret_bool' (by simp), HB3.out⟩
      · have hnil : pt = [] := HBE.out (by simp)
        subst hnil
        cases ps with
        | nil =>
          go_wp2_with fail
          go_ret
          exact ⟨ret_bool' (by simp), HB3.out⟩
        | cons c r =>
          go_wp2_with fail
          go_ret
          exact ⟨ret_bool' (by simp), HB3.out⟩
    · have hnil : ps = [] := HAE.out (by simp)
      subst hnil
      go_wp2_with fail
      go_ret
      exact ⟨ret_bool' (by simp), HB3.out⟩
    · have hnil : ps = [] := HAE.out (by simp)
      subst hnil
      go_wp2_with fail
      go_ret
      exact ⟨ret_bool' (by simp), HB3.out⟩
end Go.Proofs.YtfjeheioglmalaaDoor
