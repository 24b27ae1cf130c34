/- The reference's text of a program. -/
import Derived.Test.YtfjeheioglmalaaDoorText
namespace Go.Proofs.YtfjeheioglmalaaDoor
open Go.RowKit Go.Lib
/-- The operations of a slice. -/
def OpsIn (w : World) (A : Option Addr) (l : List PO) : Prop := ∀ i x, l[i]? = some x → ∃ b off, A = some ⟨b, off, none⟩ ∧ b < w.heap.size ∧ w.rangeAt b (off + i * 3) x.arr.toList
theorem range_below {w w' : World} {B g o : Nat} {cs : List Value} (h : w.rangeAt g o cs) (hb : Below B w w') (hg : g < B) : w'.rangeAt g o cs := by
  intro j v hv
  rw [hb.cell (p := ⟨g, o + j, none⟩) hg]
  exact h j v hv
theorem OpsIn.below {w w' : World} {A : Option Addr} {l : List PO} (h : OpsIn w A l) (hb : Below w.heap.size w w') : OpsIn w' A l := by
  intro i x hi
  obtain ⟨b, off, h1, h2, h3⟩ := h i x hi
  exact ⟨b, off, h1, by have := hb.size; omega, range_below h3 hb h2⟩
theorem Tryd.size33 : (Tryd.prog.info? 33).map (·.size) = some 3 := by kernel_rfl
theorem allP_take {l : List PO} {k : Nat} {x : PO} (h : l[k]? = some x) : allP (l.take (k + 1)) = (if k = 0 then [] else allP (l.take k) ++ [32]) ++ x.txt := by
  have hk := (List.getElem?_eq_some_iff.1 h).1
  rw [List.take_add_one, h]
  by_cases h0 : k = 0
  · subst h0
    simp [allP_one]
  · rw [if_neg h0]
    have hne : l.take k ≠ [] := by
      intro e
      have := congrArg List.length e
      simp only [List.length_take, List.length_nil] at this
      omega
    have := allP_append hne (b := [x]) (by simp)
    rw [allP_one] at this
    simp only [Option.toList_some]
    rw [this]
    simp
theorem allP_take_short {l : List PO} (hm : ∀ x ∈ l, x.may = true) (hl : l.length ≤ 200) (k : Nat) : (allP (l.take k)).length ≤ 5800 := by
  have := allP_short (l.take k) (fun x hx => hm x (List.mem_of_mem_take hx))
  have h2 : (l.take k).length ≤ 200 := by simp; omega
  omega
set_option maxRecDepth 100000 in
theorem rall_walk (l : List PO) (A : Option Addr) (c : Nat) (hm : ∀ x ∈ l, x.may = true) (hl : l.length ≤ 200) (w : World) (ho : OpsIn w A l) :
    Calls Tryd.prog 34 #[.slice A l.length c] w fun e w' => e = .returned (.string ⟨(allP l).toArray⟩) ∧ Below w.heap.size w w' := by
  have HO := Lib.hid ho
  have HM := Lib.hid hm
  clear ho hm
  go_enter Tryd.func34, Tryd.ntmps34
  go_wp2_with fail
  go_loopw [3, 4] (fun s v wr => ∃ k : Nat, v = .int .i64 k ∧ s = .string ⟨(allP (l.take k)).toArray⟩ ∧ k ≤ l.length ∧ Below w.heap.size w wr) (fun _ v _ => l.length - (intOf v).toNat)
  case atStart => exact ⟨0, rfl, rfl, by omega, Below.refl _ _⟩
  case round =>
    obtain ⟨k, rfl, rfl, hk, hb⟩ := hrel
    have HB := Lib.hid hb
    clear hb
    by_cases hlt : k < l.length
    · obtain ⟨x, hx⟩ : ∃ x, l[k]? = some x := ⟨_, List.getElem?_eq_getElem hlt⟩
      obtain ⟨b, off, hA, _, har⟩ := (HO.out.below HB.out) k x hx
      subst hA
      have HR := Lib.hid har
      have HX := Lib.hid (rtext_walk x (HM.out x (List.mem_of_getElem? hx)) wr)
      have hs1 := allP_take_short HM.out hl k
      have hs2 := allP_take_short HM.out hl (k + 1)
      have ht := allP_take hx
      have hxs := txt_short (HM.out x (List.mem_of_getElem? hx))
      clear har hx
      have HT := Lib.hid ht
      have ca := fun w => cat (allP (l.take k)) [32] (by omega) (by simp) w
      have cb := fun w => cat (allP (l.take k) ++ [32]) x.txt (by simp; omega) (by omega) w
      have cc := fun w => cat (allP (l.take k)) x.txt (by omega) (by omega) w
      clear ht
      by_cases h0 : k = 0
      · subst h0
        have cc0 := fun w => cat (allP []) x.txt (by decide) (by omega) w
        clear ca cb cc
        go_wp2_with (first | (refine wpList_load_mid rfl 33 (.tmp 18) rfl b (off + 0 * 3) (by simp [go_sem]) x.arr.toList _ HR.out Tryd.underlying33 rfl Tryd.size33 ?_))
        refine HX.out.mono ?_; rintro e w2 ⟨rfl, hb⟩
        have HB2 := Lib.hid hb
        clear hb
        go_wp2
        go_roundw
        case rel => exact ⟨1, by go_num, by rw [show (1 : Nat) = 0 + 1 from rfl, HT.out]; simp [allP, join_nil], by omega, HB.out.trans (HB2.out.mono HB.out.size)⟩
        case measure => simp [intOf]; omega
      · have hk0 : (0 : Int) < k := by omega
        go_wp2_with (first | (refine wpList_load_mid rfl 33 (.tmp 18) rfl b (off + k * 3) rfl x.arr.toList _ HR.out Tryd.underlying33 rfl Tryd.size33 ?_))
        refine HX.out.mono ?_; rintro e w2 ⟨rfl, hb⟩
        have HB2 := Lib.hid hb
        clear hb
        go_wp2
        go_roundw
        case rel => exact ⟨k + 1, by go_num, by rw [HT.out, if_neg h0]; simp, by omega, HB.out.trans (HB2.out.mono HB.out.size)⟩
        case measure => simp [intOf]; omega
    · have hkn : k = l.length := by omega
      subst hkn
      go_wp2_with fail
      go_ret
      exact ⟨by simp, HB.out⟩
end Go.Proofs.YtfjeheioglmalaaDoor
