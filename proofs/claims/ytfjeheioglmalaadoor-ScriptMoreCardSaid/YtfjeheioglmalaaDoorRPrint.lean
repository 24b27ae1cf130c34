/- The reference's Print. -/
import Derived.Test.YtfjeheioglmalaaDoorAll
namespace Go.Proofs.YtfjeheioglmalaaDoor
open Go.RowKit Go.Lib
theorem print_full {l : List PO} (h : 64 < l.length) : printP l = ([], 4) := by unfold printP; rw [if_pos h]
theorem print_bad {l : List PO} {k : Nat} {x : PO} (h : ¬ 64 < l.length) (hx : l[k]? = some x) (hm : x.may = false) : printP l = ([], 1) := by
  unfold printP
  rw [if_neg h, if_neg]
  intro e
  have := List.all_eq_true.1 e x (List.mem_of_getElem? hx)
  rw [hm] at this
  cases this
theorem print_good {l : List PO} (h : ¬ 64 < l.length) (hm : ∀ x ∈ l, x.may = true) : printP l = (allP l, 0) := by
  unfold printP
  rw [if_neg h, if_pos (List.all_eq_true.2 hm)]
set_option maxRecDepth 100000 in
theorem rprint_walk (l : List PO) (A : Option Addr) (c : Nat) (hl : l.length ≤ 200) (w : World) (ho : OpsIn w A l) :
    Calls Tryd.prog 15 #[.slice A l.length c] w fun e w' => e = .returned (.tuple #[.string ⟨(printP l).1.toArray⟩, .int .i64 (printP l).2]) ∧ Below w.heap.size w w' := by
  have HO := Lib.hid ho
  clear ho
  by_cases h64 : 64 < l.length
  · rw [print_full h64]
    have h64' : (64 : Int) < l.length := by omega
    go_enter Tryd.func15, Tryd.ntmps15
    go_wp2_with fail
    go_ret2
    exact ⟨rfl, Below.refl _ _⟩
  · have h64' : ¬ (64 : Int) < l.length := by omega
    obtain ⟨p, hp⟩ : ∃ p, printP l = p := ⟨_, rfl⟩
    have HP := Lib.hid hp
    rw [hp]
    clear hp
    go_enter Tryd.func15, Tryd.ntmps15
    go_wp2_with fail
    go_loopw [4] (fun v wr => ∃ k : Nat, v = .int .i64 k ∧ k ≤ l.length ∧ (∀ j x, j < k → l[j]? = some x → x.may = true) ∧ Below w.heap.size w wr) (fun v _ => l.length - (intOf v).toNat)
    case atStart => exact ⟨0, rfl, by omega, fun j x hj => by omega, Below.refl _ _⟩
    case round =>
      obtain ⟨k, rfl, hk, hno, hb⟩ := hrel
      have HB := Lib.hid hb
      have HNO := Lib.hid hno
      clear hb hno
      by_cases hlt : k < l.length
      · obtain ⟨x, hx⟩ : ∃ x, l[k]? = some x := ⟨_, List.getElem?_eq_getElem hlt⟩
        obtain ⟨b, off, hA, _, har⟩ := (HO.out.below HB.out) k x hx
        subst hA
        have HR := Lib.hid har
        have HX := Lib.hid hx
        clear har hx
        cases hmx : x.may
        · go_wp2_with (first | (refine wpList_load_mid rfl 33 (.tmp 16) rfl b (off + k * 3) rfl x.arr.toList _ HR.out Tryd.underlying33 rfl Tryd.size33 ?_))
          refine (rmay_walk x _).mono ?_; rw [hmx]; rintro e w2 ⟨rfl, hb⟩
          have HB2 := Lib.hid hb
          clear hb
          go_wp2
          go_ret2
          rw [← HP.out, print_bad h64 HX.out hmx]
          exact ⟨rfl, HB.out.trans (HB2.out.mono HB.out.size)⟩
        · go_wp2_with (first | (refine wpList_load_mid rfl 33 (.tmp 16) rfl b (off + k * 3) rfl x.arr.toList _ HR.out Tryd.underlying33 rfl Tryd.size33 ?_))
          refine (rmay_walk x _).mono ?_; rw [hmx]; rintro e w2 ⟨rfl, hb⟩
          have HB2 := Lib.hid hb
          clear hb
          go_wp2
          go_roundw
          case rel => exact ⟨k + 1, by go_num, by omega, (fun j y hj hy => by
            rcases Nat.lt_succ_iff_lt_or_eq.1 hj with h | h
            · exact HNO.out j y h hy
            · subst h; rw [HX.out] at hy; injection hy with hy; subst hy; exact hmx), HB.out.trans (HB2.out.mono HB.out.size)⟩
          case measure => simp [intOf]; omega
      · have hkn : k = l.length := by omega
        have HM := Lib.hid (show ∀ x ∈ l, x.may = true from fun x hx => by
          obtain ⟨j, hj⟩ := List.getElem?_of_mem hx
          exact HNO.out j x (by rw [hkn]; exact (List.getElem?_eq_some_iff.1 hj).1) hj)
        go_wp2_with fail
        refine (rall_walk l A c HM.out hl _ (HO.out.below HB.out)).mono ?_; rintro e w2 ⟨rfl, hb⟩
        have HB2 := Lib.hid hb
        clear hb
        go_wp2
        go_ret2
        rw [← HP.out, print_good h64 HM.out]
        exact ⟨rfl, HB.out.trans (HB2.out.mono HB.out.size)⟩
end Go.Proofs.YtfjeheioglmalaaDoor
