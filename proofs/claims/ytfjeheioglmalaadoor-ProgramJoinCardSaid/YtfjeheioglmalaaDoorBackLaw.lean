/- The law ProgramBack. -/
import Derived.Test.YtfjeheioglmalaaDoorReads
namespace Go.Proofs.YtfjeheioglmalaaDoor
open Go.RowKit Go.Lib
set_option linter.unusedVariables false
set_option linter.unusedSimpArgs false
theorem print_ends {l : List PO} (hl : l.length ≤ 200) (h : (printP l).2 = 0) : (printP l).1.length ≤ 100000 := by
  obtain ⟨h1, h2, h3⟩ := print_ok h
  rw [h3]
  have := allP_short l h2
  omega
theorem print_codes (l : List PO) : (printP l).2 = 0 ∨ (printP l).2 = 1 ∨ (printP l).2 = 4 := by
  unfold printP
  split
  · exact .inr (.inr rfl)
  · split
    · exact .inl rfl
    · exact .inr (.inl rfl)
theorem parse_codes (l : List UInt8) : (parseP l).2 = 0 ∨ (parseP l).2 = 2 ∨ (parseP l).2 = 4 := by
  unfold parseP
  split
  · exact .inr (.inr rfl)
  · split
    · exact .inl rfl
    · split
      · exact .inr (.inl rfl)
      · split
        · exact .inr (.inr rfl)
        · exact .inl rfl
set_option maxRecDepth 100000 in
set_option maxHeartbeats 4000000 in
theorem back_any (l : List PO) (A : Option Addr) (cap : Nat) (t : List UInt8) (hl : l.length ≤ 9223372036854775807) (htl : t.length ≤ 9223372036854775807) (w : World) (ht : Tab w) (ho : OpsIn w A l) :
    Calls Tryd.prog 5 #[.slice A l.length cap, .string ⟨t.toArray⟩] w fun e w' => e = .returned (.bool true) ∧ Below w.heap.size w w' := by
  have hsz : (ByteArray.mk t.toArray).size = t.length := by simp [ByteArray.size]
  have HA := Lib.hid (awake_walk w ht)
  have HT := Lib.hid ht
  have HO := Lib.hid ho
  clear ht ho
  by_cases h2 : 200 < l.length
  · have h2' : (200 : Int) < l.length := by omega
    go_enter Tryd.func5, Tryd.ntmps5
    go_wp2_with fail
    refine HA.out.mono ?_
    rintro e w1 ⟨rfl, hb⟩
    have HB := Lib.hid hb
    clear hb
    go_wp2_with fail
    go_ret
    exact ⟨rfl, HB.out⟩
  · have h2' : ¬ (200 : Int) < l.length := by omega
    by_cases h5 : 5000 < t.length
    · have h5' : (5000 : Int) < t.length := by omega
      go_enter Tryd.func5, Tryd.ntmps5
      go_wp2_with fail
      refine HA.out.mono ?_
      rintro e w1 ⟨rfl, hb⟩
      have HB := Lib.hid hb
      clear hb
      go_wp2_with fail
      go_ret
      exact ⟨rfl, HB.out⟩
    · have h5' : ¬ (5000 : Int) < t.length := by omega
      have HPL := Lib.hid (show l.length ≤ 200 by omega)
      have HP1 := Lib.hid (fun W h1 h2 => print_walk l A cap (by omega) W h1 h2)
      have HPE := Lib.hid (fun h => print_ends (l := l) (by omega) h)
      have HBP := Lib.hid (fun h => back_print (l := l) h)
      have HQ := Lib.hid (fun W => parse_walk t (by omega) W)
      have HQB := Lib.hid (fun h => back_parse (s := t) h)
      have HQE := Lib.hid (fun h => parse_err (s := t) h)
      have HQL := Lib.hid (parse_len t)
      have hpc := print_codes l
      have hqc := parse_codes t
      obtain ⟨⟨ps, pe⟩, hps⟩ : ∃ p, printP l = p := ⟨_, rfl⟩
      obtain ⟨⟨ql, qe⟩, hqs⟩ : ∃ p, parseP t = p := ⟨_, rfl⟩
      unfold ParsePost at HQ
      rw [hps] at HP1 HPE HBP hpc
      rw [hqs] at HQ HQB HQE HQL hqc
      clear hps hqs
      simp only at hpc hqc
      go_enter Tryd.func5, Tryd.ntmps5
      go_wp2_with fail
      refine HA.out.mono ?_
      rintro e w1 ⟨rfl, hb⟩
      have HB1 := Lib.hid hb
      clear hb
      go_wp2_with fail
      refine (HP1.out _ (HO.out.below HB1.out) (HT.out.below HB1.out)).mono ?_
      rintro e w2 ⟨rfl, hb⟩
      have HB2 := Lib.hid (HB1.out.trans (hb.mono HB1.out.size))
      clear hb
      rcases hpc with rfl | rfl | rfl
      · have hlen := HPE.out rfl
        have HPP := Lib.hid (fun W => parse_walk ps (by omega) W)
        unfold ParsePost at HPP
        have hbp := HBP.out rfl
        rw [hbp] at HPP
        clear hbp
        go_wp2_with fail
        refine (HPP.out _).mono ?_
        rintro e w3 ⟨A3, c3, rfl, ho, hb⟩
        have HB3 := Lib.hid (HB2.out.trans (hb.mono HB2.out.size))
        have HO3 := Lib.hid ho
        clear ho hb
        go_wp2_with fail
        refine (same_walk l l A A3 cap c3 (by have := HPL.out; omega) _ (HO.out.below HB3.out) HO3.out).mono ?_
        rintro e w4 ⟨rfl, hb⟩
        rw [decide_eq_true (rfl : l = l)]
        have HB4 := Lib.hid (HB3.out.trans (hb.mono HB3.out.size))
        clear hb
        go_wp2_with fail
        refine (HQ.out _).mono ?_
        rintro e w6 ⟨A6, c6, rfl, ho, hb⟩
        have HB6 := Lib.hid (HB4.out.trans (hb.mono HB4.out.size))
        have HO6 := Lib.hid ho
        clear ho hb
        rcases hqc with rfl | rfl | rfl
        · obtain ⟨hmay, hpr⟩ := HQB.out rfl
          have HMAY := Lib.hid hmay
          have HPR := Lib.hid (fun W h1 h2 => print_walk ql A6 c6 (by have := HQL.out; omega) W h1 h2)
          rw [hpr] at HPR
          have hql := HQL.out
          clear hmay hpr HQ HQB HQE HPE HBP HP1
          go_wp2_with fail
          go_loopw [57] (fun v wr => ∃ k : Nat, v = .int .i64 k ∧ k ≤ ql.length ∧ Below w6.heap.size w6 wr) (fun v _ => ql.length - (RowKit.intOf v).toNat)
          case atStart => exact ⟨0, rfl, by omega, Below.refl _ _⟩
          case round =>
            obtain ⟨k, rfl, hk, hb⟩ := hrel
            have HBR := Lib.hid hb
            clear hb
            by_cases hlt : k < ql.length
            · obtain ⟨x, hx⟩ : ∃ x, ql[k]? = some x := ⟨_, List.getElem?_eq_getElem hlt⟩
              obtain ⟨b, off, hA, _, har⟩ := (HO6.out.below HBR.out) k x hx
              subst hA
              have HR := Lib.hid har
              have HMX := Lib.hid (HMAY.out x (List.mem_of_getElem? hx))
              clear har hx
              go_wp2_with (first | (refine wpList_load_mid rfl 33 (.tmp 59) rfl b (off + k * 3) rfl x.arr.toList _ HR.out Tryd.underlying33 rfl Tryd.size33 ?_) | (refine wpList_store_new rfl 33 (.tmp 12) _ rfl wr.heap.size x.arr rfl rfl 33 _ (heap_alloc_new wr _) Tryd.size33 rfl x.one wr.heap.size (Nat.le_refl _) ?_; intro w1 hx1 hb1; have HX1 := Lib.hid hx1; have HBX := Lib.hid (((Below.refl wr.heap.size wr).alloc (Nat.le_refl _) _).trans hb1); clear hx1 hb1) | (refine wpList_load_row rfl 33 (.tmp 12) rfl wr.heap.size rfl 33 x.arr (0, 0) _ HX1.out Tryd.underlying33 rfl Tryd.size33 ?_))
              refine (may_walk x _).mono ?_; rw [HMX.out]; rintro e w8 ⟨rfl, hb⟩
              have HB8 := Lib.hid (HBX.out.trans (hb.mono HBX.out.size))
              clear hb
              go_wp2
              go_roundw
              case rel => exact ⟨k + 1, by go_num, by omega, HBR.out.trans (HB8.out.mono HBR.out.size)⟩
              case measure => simp [RowKit.intOf]; omega
            · have hkn : k = ql.length := by omega
              subst hkn
              have HBW := Lib.hid (HB6.out.trans (HBR.out.mono HB6.out.size))
              go_wp2_with fail
              refine (HPR.out _ (HO6.out.below HBR.out) (HT.out.below HBW.out)).mono ?_
              rintro e w9 ⟨rfl, hb⟩
              have HB9 := Lib.hid (HBW.out.trans (hb.mono HBW.out.size))
              clear hb
              go_wp2_with fail
              go_ret
              exact ⟨ret_bool' (by simp), HB9.out⟩
        · have hnil : ql = [] := HQE.out (by simp)
          subst hnil
          simp only [List.length_nil]
          go_wp2_with fail
          go_ret
          exact ⟨ret_bool' (by simp), HB6.out⟩
        · have hnil : ql = [] := HQE.out (by simp)
          subst hnil
          simp only [List.length_nil]
          go_wp2_with fail
          go_ret
          exact ⟨ret_bool' (by simp), HB6.out⟩
      · go_wp2_with fail
        refine (HQ.out _).mono ?_
        rintro e w6 ⟨A6, c6, rfl, ho, hb⟩
        have HB6 := Lib.hid (HB2.out.trans (hb.mono HB2.out.size))
        have HO6 := Lib.hid ho
        clear ho hb
        rcases hqc with rfl | rfl | rfl
        · obtain ⟨hmay, hpr⟩ := HQB.out rfl
          have HMAY := Lib.hid hmay
          have HPR := Lib.hid (fun W h1 h2 => print_walk ql A6 c6 (by have := HQL.out; omega) W h1 h2)
          rw [hpr] at HPR
          have hql := HQL.out
          clear hmay hpr HQ HQB HQE HPE HBP HP1
          go_wp2_with fail
          go_loopw [57] (fun v wr => ∃ k : Nat, v = .int .i64 k ∧ k ≤ ql.length ∧ Below w6.heap.size w6 wr) (fun v _ => ql.length - (RowKit.intOf v).toNat)
          case atStart => exact ⟨0, rfl, by omega, Below.refl _ _⟩
          case round =>
            obtain ⟨k, rfl, hk, hb⟩ := hrel
            have HBR := Lib.hid hb
            clear hb
            by_cases hlt : k < ql.length
            · obtain ⟨x, hx⟩ : ∃ x, ql[k]? = some x := ⟨_, List.getElem?_eq_getElem hlt⟩
              obtain ⟨b, off, hA, _, har⟩ := (HO6.out.below HBR.out) k x hx
              subst hA
              have HR := Lib.hid har
              have HMX := Lib.hid (HMAY.out x (List.mem_of_getElem? hx))
              clear har hx
              go_wp2_with (first | (refine wpList_load_mid rfl 33 (.tmp 59) rfl b (off + k * 3) rfl x.arr.toList _ HR.out Tryd.underlying33 rfl Tryd.size33 ?_) | (refine wpList_store_new rfl 33 (.tmp 12) _ rfl wr.heap.size x.arr rfl rfl 33 _ (heap_alloc_new wr _) Tryd.size33 rfl x.one wr.heap.size (Nat.le_refl _) ?_; intro w1 hx1 hb1; have HX1 := Lib.hid hx1; have HBX := Lib.hid (((Below.refl wr.heap.size wr).alloc (Nat.le_refl _) _).trans hb1); clear hx1 hb1) | (refine wpList_load_row rfl 33 (.tmp 12) rfl wr.heap.size rfl 33 x.arr (0, 0) _ HX1.out Tryd.underlying33 rfl Tryd.size33 ?_))
              refine (may_walk x _).mono ?_; rw [HMX.out]; rintro e w8 ⟨rfl, hb⟩
              have HB8 := Lib.hid (HBX.out.trans (hb.mono HBX.out.size))
              clear hb
              go_wp2
              go_roundw
              case rel => exact ⟨k + 1, by go_num, by omega, HBR.out.trans (HB8.out.mono HBR.out.size)⟩
              case measure => simp [RowKit.intOf]; omega
            · have hkn : k = ql.length := by omega
              subst hkn
              have HBW := Lib.hid (HB6.out.trans (HBR.out.mono HB6.out.size))
              go_wp2_with fail
              refine (HPR.out _ (HO6.out.below HBR.out) (HT.out.below HBW.out)).mono ?_
              rintro e w9 ⟨rfl, hb⟩
              have HB9 := Lib.hid (HBW.out.trans (hb.mono HBW.out.size))
              clear hb
              go_wp2_with fail
              go_ret
              exact ⟨ret_bool' (by simp), HB9.out⟩
        · have hnil : ql = [] := HQE.out (by simp)
          subst hnil
          simp only [List.length_nil]
          go_wp2_with fail
          go_ret
          exact ⟨ret_bool' (by simp), HB6.out⟩
        · have hnil : ql = [] := HQE.out (by simp)
          subst hnil
          simp only [List.length_nil]
          go_wp2_with fail
          go_ret
          exact ⟨ret_bool' (by simp), HB6.out⟩
      · go_wp2_with fail
        refine (HQ.out _).mono ?_
        rintro e w6 ⟨A6, c6, rfl, ho, hb⟩
        have HB6 := Lib.hid (HB2.out.trans (hb.mono HB2.out.size))
        have HO6 := Lib.hid ho
        clear ho hb
        rcases hqc with rfl | rfl | rfl
        · obtain ⟨hmay, hpr⟩ := HQB.out rfl
          have HMAY := Lib.hid hmay
          have HPR := Lib.hid (fun W h1 h2 => print_walk ql A6 c6 (by have := HQL.out; omega) W h1 h2)
          rw [hpr] at HPR
          have hql := HQL.out
          clear hmay hpr HQ HQB HQE HPE HBP HP1
          go_wp2_with fail
          go_loopw [57] (fun v wr => ∃ k : Nat, v = .int .i64 k ∧ k ≤ ql.length ∧ Below w6.heap.size w6 wr) (fun v _ => ql.length - (RowKit.intOf v).toNat)
          case atStart => exact ⟨0, rfl, by omega, Below.refl _ _⟩
          case round =>
            obtain ⟨k, rfl, hk, hb⟩ := hrel
            have HBR := Lib.hid hb
            clear hb
            by_cases hlt : k < ql.length
            · obtain ⟨x, hx⟩ : ∃ x, ql[k]? = some x := ⟨_, List.getElem?_eq_getElem hlt⟩
              obtain ⟨b, off, hA, _, har⟩ := (HO6.out.below HBR.out) k x hx
              subst hA
              have HR := Lib.hid har
              have HMX := Lib.hid (HMAY.out x (List.mem_of_getElem? hx))
              clear har hx
              go_wp2_with (first | (refine wpList_load_mid rfl 33 (.tmp 59) rfl b (off + k * 3) rfl x.arr.toList _ HR.out Tryd.underlying33 rfl Tryd.size33 ?_) | (refine wpList_store_new rfl 33 (.tmp 12) _ rfl wr.heap.size x.arr rfl rfl 33 _ (heap_alloc_new wr _) Tryd.size33 rfl x.one wr.heap.size (Nat.le_refl _) ?_; intro w1 hx1 hb1; have HX1 := Lib.hid hx1; have HBX := Lib.hid (((Below.refl wr.heap.size wr).alloc (Nat.le_refl _) _).trans hb1); clear hx1 hb1) | (refine wpList_load_row rfl 33 (.tmp 12) rfl wr.heap.size rfl 33 x.arr (0, 0) _ HX1.out Tryd.underlying33 rfl Tryd.size33 ?_))
              refine (may_walk x _).mono ?_; rw [HMX.out]; rintro e w8 ⟨rfl, hb⟩
              have HB8 := Lib.hid (HBX.out.trans (hb.mono HBX.out.size))
              clear hb
              go_wp2
              go_roundw
              case rel => exact ⟨k + 1, by go_num, by omega, HBR.out.trans (HB8.out.mono HBR.out.size)⟩
              case measure => simp [RowKit.intOf]; omega
            · have hkn : k = ql.length := by omega
              subst hkn
              have HBW := Lib.hid (HB6.out.trans (HBR.out.mono HB6.out.size))
              go_wp2_with fail
              refine (HPR.out _ (HO6.out.below HBR.out) (HT.out.below HBW.out)).mono ?_
              rintro e w9 ⟨rfl, hb⟩
              have HB9 := Lib.hid (HBW.out.trans (hb.mono HBW.out.size))
              clear hb
              go_wp2_with fail
              go_ret
              exact ⟨ret_bool' (by simp), HB9.out⟩
        · have hnil : ql = [] := HQE.out (by simp)
          subst hnil
          simp only [List.length_nil]
          go_wp2_with fail
          go_ret
          exact ⟨ret_bool' (by simp), HB6.out⟩
        · have hnil : ql = [] := HQE.out (by simp)
          subst hnil
          simp only [List.length_nil]
          go_wp2_with fail
          go_ret
          exact ⟨ret_bool' (by simp), HB6.out⟩
end Go.Proofs.YtfjeheioglmalaaDoor
