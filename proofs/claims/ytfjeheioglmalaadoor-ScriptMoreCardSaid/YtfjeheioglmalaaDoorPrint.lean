/- The program's Print. -/
import Derived.Test.YtfjeheioglmalaaDoorSame
import Derived.Test.YtfjeheioglmalaaDoorRow
import Derived.Test.YtfjeheioglmalaaDoorItoa
import Derived.Maps.AppendAt
import Derived.Deep.DeepMust
namespace Go.Proofs.YtfjeheioglmalaaDoor
open Go.RowKit Go.Lib
def strs (l : List PO) : List Value := l.map fun x => .string ⟨x.txt.toArray⟩
theorem Tryd.info9 : (Tryd.prog.info? 9).map (fun i => (i.zero, i.size, i.bytes)) = some (some (.string ⟨#[]⟩), 1, 16) := by kernel_rfl
theorem strs_take {l : List PO} {k : Nat} {x : PO} (h : l[k]? = some x) : strs (l.take (k + 1)) = strs (l.take k) ++ [.string ⟨x.txt.toArray⟩] := by
  rw [List.take_add_one, h]
  simp [strs]
def txts (l : List PO) : List ByteArray := l.map fun x => ⟨x.txt.toArray⟩
theorem txts_len (l : List PO) : (txts l).length = l.length := by simp [txts]
theorem txts_data (l : List PO) : (txts l).map (·.data.toList) = l.map PO.txt := by simp [txts, Function.comp_def]
theorem join_walk (l : List PO) (hm : ∀ x ∈ l, x.may = true) (hl : l.length ≤ 200) (A : Option Addr) (c B : Nat) (w : World) (ho : w.ownsRow B 9 1 (.slice A l.length c) l.length (strs l)) :
    Calls Tryd.prog 33 #[.slice A l.length c, .string ⟨#[32]⟩] w fun e w' => e = .returned (.string ⟨(allP l).toArray⟩) ∧ Below w.heap.size w w' := by
  by_cases h0 : l.length = 0
  · have : l = [] := List.eq_nil_of_length_eq_zero h0
    subst this
    exact (Tryd.strings_Join_none A c ⟨#[32]⟩ w).mono fun _ _ ⟨a, b⟩ => ⟨a, b ▸ Below.refl _ _⟩
  · rcases ho.2 with ⟨_, h⟩ | ⟨g, cap, cur, hv, hb, hg, hnc, _⟩
    · exact absurd h h0
    · injection hv with e1 e2 e3
      subst e1
      subst e3
      have hj : Lib.join ((txts l).map (·.data.toList)) (ByteArray.mk #[32]).data.toList = allP l := by rw [txts_data]; rfl
      have := Tryd.strings_Join g 0 c (txts l) ⟨#[32]⟩ w (by
        intro j x hx
        have h := ho.cells (g := g) rfl j (.string x) (by
          unfold txts at hx
          unfold strs
          rw [List.getElem?_map] at hx ⊢
          cases hy : l[j]? with
          | none => rw [hy] at hx; cases hx
          | some y => rw [hy] at hx; injection hx with hx; subst hx; rfl)
        rwa [Addr.add_mid] at h) (Array.getElem?_eq_some_iff.1 hg).1 (by rw [txts_len]; omega) (by rw [txts_len]; exact hnc) (by
        rw [hj]
        have := allP_short l hm
        omega)
      rw [txts_len, hj] at this
      exact this
theorem new_one (w : World) (v : Value) (t : TypeId) : ∀ j u, ([v] : List Value)[j]? = some u → (w.alloc (.cells #[v] t)).cell? ((⟨w.heap.size, 0, none⟩ : Addr).add j) = some u := by
  intro j u hu
  rw [Addr.add_mid, Nat.zero_add, cell_of_row _ w.heap.size j #[v] t _ (heap_alloc_new w _)]
  simpa using hu
set_option maxRecDepth 100000 in
theorem print_walk (l : List PO) (A : Option Addr) (c : Nat) (hl : l.length ≤ 200) (w : World) (ho : OpsIn w A l) (ht : Tab w) :
    Calls Tryd.prog 14 #[.slice A l.length c] w fun e w' => e = .returned (.tuple #[.string ⟨(printP l).1.toArray⟩, .int .i64 (printP l).2]) ∧ Below w.heap.size w w' := by
  obtain ⟨i0, hi0, hz0, hz1, hz2⟩ := info_parts Tryd.info9
  have HI0 := Lib.hid hi0
  have HZ0 := Lib.hid hz0
  have HZ1 := Lib.hid hz1
  have HZ2 := Lib.hid hz2
  have HO := Lib.hid ho
  have HT := Lib.hid ht
  clear ho ht hi0 hz0 hz1 hz2
  by_cases h64 : 64 < l.length
  · rw [print_full h64]
    have h64' : (64 : Int) < l.length := by omega
    go_enter Tryd.func14, Tryd.ntmps14
    go_wp2_with fail
    go_ret2
    exact ⟨rfl, Below.refl _ _⟩
  · have h64' : ¬ (64 : Int) < l.length := by omega
    obtain ⟨p, hp⟩ : ∃ p, printP l = p := ⟨_, rfl⟩
    have HP := Lib.hid hp
    rw [hp]
    clear hp
    go_enter Tryd.func14, Tryd.ntmps14
    go_wp2_with fail
    go_loopw [4, 12] (fun s v wr => ∃ k : Nat, v = .int .i64 k ∧ k ≤ l.length ∧ (∀ j x, j < k → l[j]? = some x → x.may = true) ∧ Below w.heap.size w wr ∧ ∃ A' c', s = .slice A' k c' ∧ wr.ownsRow w.heap.size 9 1 s k (strs (l.take k))) (fun _ v _ => l.length - (RowKit.intOf v).toNat)
    case atStart => exact ⟨0, rfl, by omega, fun j x hj => by omega, Below.refl _ _, none, 0, rfl, World.ownsRow_nil _ _ _ _⟩
    case round =>
      obtain ⟨k, rfl, hk, hno, hb, A', c', rfl, hown⟩ := hrel
      have HB := Lib.hid hb
      have HNO := Lib.hid hno
      have HOWN := Lib.hid hown
      clear hb hno hown
      by_cases hlt : k < l.length
      · obtain ⟨x, hx⟩ : ∃ x, l[k]? = some x := ⟨_, List.getElem?_eq_getElem hlt⟩
        obtain ⟨b, off, hA, _, har⟩ := (HO.out.below HB.out) k x hx
        subst hA
        have HR := Lib.hid har
        have HX := Lib.hid hx
        clear har hx
        cases hmx : x.may
        · go_wp2_with (first | (refine wpList_load_mid rfl 33 (.tmp 14) rfl b (off + k * 3) rfl x.arr.toList _ HR.out Tryd.underlying33 rfl Tryd.size33 ?_) | (refine wpList_store_new rfl 33 (.tmp 6) _ rfl wr.heap.size x.arr rfl rfl 33 _ (heap_alloc_new wr _) Tryd.size33 rfl x.one wr.heap.size (Nat.le_refl _) ?_; intro w1 hx1 hb1; have HX1 := Lib.hid hx1; have HB1 := Lib.hid (((Below.refl wr.heap.size wr).alloc (Nat.le_refl _) _).trans hb1); clear hx1 hb1) | (refine wpList_load_row rfl 33 (.tmp 6) rfl wr.heap.size rfl 33 x.arr (0, 0) _ HX1.out Tryd.underlying33 rfl Tryd.size33 ?_))
          refine (may_walk x _).mono ?_; rw [hmx]; rintro e w2 ⟨rfl, hb⟩
          have HB2 := Lib.hid hb
          clear hb
          go_wp2
          go_ret2
          rw [← HP.out, print_bad h64 HX.out hmx]
          exact ⟨rfl, HB.out.trans ((HB1.out.trans (HB2.out.mono HB1.out.size)).mono HB.out.size)⟩
        · go_wp2_with (first | (refine wpList_load_mid rfl 33 (.tmp 14) rfl b (off + k * 3) rfl x.arr.toList _ HR.out Tryd.underlying33 rfl Tryd.size33 ?_) | (refine wpList_store_new rfl 33 (.tmp 6) _ rfl wr.heap.size x.arr rfl rfl 33 _ (heap_alloc_new wr _) Tryd.size33 rfl x.one wr.heap.size (Nat.le_refl _) ?_; intro w1 hx1 hb1; have HX1 := Lib.hid hx1; have HB1 := Lib.hid (((Below.refl wr.heap.size wr).alloc (Nat.le_refl _) _).trans hb1); clear hx1 hb1) | (refine wpList_load_row rfl 33 (.tmp 6) rfl wr.heap.size rfl 33 x.arr (0, 0) _ HX1.out Tryd.underlying33 rfl Tryd.size33 ?_))
          refine (may_walk x _).mono ?_; rw [hmx]; rintro e w2 ⟨rfl, hb⟩
          have HB2 := Lib.hid (HB1.out.trans (hb.mono HB1.out.size))
          have HX2 := Lib.hid ((hb.block wr.heap.size (Array.getElem?_eq_some_iff.1 HX1.out).1).trans HX1.out)
          clear hb
          go_wp2_with (first | (refine wpList_load_row rfl 33 (.tmp 6) rfl wr.heap.size rfl 33 x.arr (0, 0) _ HX2.out Tryd.underlying33 rfl Tryd.size33 ?_))
          refine (text_walk x hmx _ ((HT.out.below HB.out).below HB2.out)).mono ?_; rintro e w3 ⟨rfl, hb⟩
          have HB3 := Lib.hid (HB2.out.trans (hb.mono HB2.out.size))
          clear hb
          go_wp2_with (at_builtin; go_must (refine wpList_append_own _ rfl _ _ 69 rfl w.heap.size 9 i0 (.string ⟨#[]⟩) 1 16 Tryd.underlying69 HI0.out HZ0.out HZ1.out HZ2.out rfl (by decide) _ k (strs (l.take k)) rfl (World.ownsRow.alloc (ownsRow_kept HOWN.out HB3.out) _) ⟨w3.heap.size, 0, none⟩ 1 1 [.string ⟨x.txt.toArray⟩] rfl ?d1 ?d2 ?d3 ?d4 ?d5 ?d6 ?_))
          case d1 => rfl
          case d2 => exact new_one w3 _ 9
          case d3 => intro u hu; rw [List.mem_singleton] at hu; subst hu; rfl
          case d4 => simp only [maxLen]; omega
          case d5 => omega
          case d6 => have := HB.out.size; have := HB3.out.size; simp; omega
          intro v' w4 hown2 hgrow2 _
          have HB4 := Lib.hid (((HB.out.trans (HB3.out.mono HB.out.size)).alloc (by have := HB.out.size; have := HB3.out.size; omega) _).grown hgrow2 (by have := HB.out.size; have := HB3.out.size; simp; omega) (fun k hk => ((ownsRow_kept HOWN.out HB3.out).lt k hk).1))
          have HO2 := Lib.hid hown2
          clear hown2 hgrow2
          obtain ⟨A2, d2, rfl⟩ := own_form HO2.out
          go_wp2
          go_roundw
          case rel => exact ⟨k + 1, by go_num, by omega, (fun j y hj hy => by
            rcases Nat.lt_succ_iff_lt_or_eq.1 hj with h | h
            · exact HNO.out j y h hy
            · subst h; rw [HX.out] at hy; injection hy with hy; subst hy; exact hmx), HB4.out, A2, d2, rfl, by rw [strs_take HX.out]; exact HO2.out⟩
          case measure => simp [RowKit.intOf]; omega
      · have hkn : k = l.length := by omega
        have HM := Lib.hid (show ∀ x ∈ l, x.may = true from fun x hx => by
          obtain ⟨j, hj⟩ := List.getElem?_of_mem hx
          exact HNO.out j x (by rw [hkn]; exact (List.getElem?_eq_some_iff.1 hj).1) hj)
        subst hkn
        have HJ := Lib.hid (join_walk l HM.out hl A' c' w.heap.size wr (by have := HOWN.out; rwa [List.take_length] at this))
        go_wp2_with fail
        refine HJ.out.mono ?_; rintro e w2 ⟨rfl, hb⟩
        have HB2 := Lib.hid hb
        clear hb
        go_wp2
        go_ret2
        rw [← HP.out, print_good h64 HM.out]
        exact ⟨rfl, HB.out.trans (HB2.out.mono HB.out.size)⟩
end Go.Proofs.YtfjeheioglmalaaDoor
