/- The law ProgramReads. -/
import Derived.Test.YtfjeheioglmalaaDoorAwake
namespace Go.Proofs.YtfjeheioglmalaaDoor
open Go.RowKit Go.Lib
set_option linter.unusedVariables false
set_option linter.unusedSimpArgs false
theorem parse_len (l : List UInt8) : (parseP l).1.length ≤ 64 := by
  unfold parseP
  split
  · simp
  · split
    · simp
    · split
      · simp
      · split
        · simp
        · simp only; omega
set_option maxRecDepth 100000 in
set_option maxHeartbeats 1000000 in
theorem reads_any (l : List UInt8) (hl : l.length ≤ 9223372036854775807) (w : World) (ht : Tab w) : Calls Tryd.prog 3 #[.string ⟨l.toArray⟩] w fun e w' => e = .returned (.bool true) ∧ Below w.heap.size w w' := by
  have HA := Lib.hid (awake_walk w ht)
  have hsz : (ByteArray.mk l.toArray).size = l.length := by simp [ByteArray.size]
  clear ht
  by_cases h5 : 5000 < l.length
  · have h5' : (5000 : Int) < l.length := by omega
    go_enter Tryd.func3, Tryd.ntmps3
    go_wp2_with fail
    refine HA.out.mono ?_
    rintro e w1 ⟨rfl, hb⟩
    have HB := Lib.hid hb
    clear hb
    go_wp2_with fail
    go_ret
    exact ⟨rfl, HB.out⟩
  · have h5' : ¬ (5000 : Int) < l.length := by omega
    have HP1 := Lib.hid (fun W => parse_walk l (by omega) W)
    have HP2 := Lib.hid (fun W => rparse_walk l (by omega) W)
    have HL := Lib.hid (parse_len l)
    obtain ⟨ps, hps⟩ : ∃ p, parseP l = p := ⟨_, rfl⟩
    unfold ParsePost at HP1 HP2
    rw [hps] at HP1 HP2 HL
    clear hps
    obtain ⟨pl, pe⟩ := ps
    go_enter Tryd.func3, Tryd.ntmps3
    go_wp2_with fail
    refine HA.out.mono ?_
    rintro e w1 ⟨rfl, hb⟩
    have HB1 := Lib.hid hb
    clear hb
    go_wp2_with fail
    refine (HP1.out _).mono ?_
    rintro e w2 ⟨A, c, rfl, ho, hb⟩
    have HB2 := Lib.hid (HB1.out.trans (hb.mono HB1.out.size))
    have HO2 := Lib.hid ho
    clear ho hb
    go_wp2_with fail
    refine (HP2.out _).mono ?_
    rintro e w3 ⟨A2, c2, rfl, ho, hb⟩
    have HB3 := Lib.hid (HB2.out.trans (hb.mono HB2.out.size))
    have HO3 := Lib.hid ho
    have HO3b := Lib.hid (HO2.out.below hb)
    clear ho hb
    go_wp2_with fail
    refine (same_walk pl pl A A2 c c2 (by have := HL.out; omega) _ HO3b.out HO3.out).mono ?_
    rintro e w4 ⟨rfl, hb⟩
    rw [decide_eq_true (rfl : pl = pl)]
    have HB4 := Lib.hid (HB3.out.trans (hb.mono HB3.out.size))
    clear hb
    go_wp2_with fail
    go_ret
    exact ⟨ret_bool' (by simp), HB4.out⟩
end Go.Proofs.YtfjeheioglmalaaDoor
