/- Get, Owing, List and Open of package mshr: what each comes to. -/
import Derived.Test.YtfjeheioglmalaaLook
namespace Go.Proofs.Ytfjeheioglmalaa
open Go.RowKit
theorem get_none {B fb : Nat} {sv : Value} {room : Int} {l : List Ms} (line : Int) (w : World) (hm : l.length ≤ 1000) (hf : FileIs w 60 34 B fb sv room l) (hi : l.findIdx? (fun m => m.line == line) = none) :
    Calls Try.prog 13 #[.pointer (some ⟨fb, 0, none⟩), .int .i64 line] w fun e w' => e = .returned (.tuple #[Ms.zero.val, .bool false]) ∧ Below w.heap.size w w' := by
  have HF := Lib.hid hf
  have HI := Lib.hid hi
  clear hf hi
  go_enter Try.func13, Try.ntmps13
  go_wp2_with (first | (go_at_call 30; refine (of_none _ _ hm (HF.out.below ((Below.refl _ _).alloc (Nat.le_refl _) _)) HI.out).mono ?_; rintro e w' ⟨rfl, hb⟩; have HB := Lib.hid hb; have HX := Lib.hid (box_kept hb); clear hb) | (refine wpList_store_box rfl 34 (.tmp 4) _ rfl _ Ms.zero.cells.toArray rfl rfl 34 _ HX.out Try.size34 rfl (Ms.all _) ?_; intro w2 hx2 hc2; have HX2 := Lib.hid hx2; have HC2 := Lib.hid hc2; clear hx2 hc2))
  refine ret_cell_tmp (p := 4) (q := 5) (ty := 34) rfl w.heap.size 34 Ms.zero.cells.toArray _ _ _ rfl rfl HX2.out Try.underlying34 rfl Try.size34 rfl ⟨rfl, ?_⟩
  exact ((Below.refl _ _).alloc (Nat.le_refl _) _).trans ((HB.out.mono (by simp)).trans (HC2.out.below (by have := HB.out.size; simp at this; omega) (by intro i hi e; omega)))
theorem get_some {B fb g n c : Nat} {room : Int} {l : List Ms} (line : Int) (w : World) (hm : l.length ≤ 1000) (hf : FileIs w 60 34 B fb (.slice (some ⟨g, 0, none⟩) n c) room l) {i : Nat} {m : Ms} (hi : l.findIdx? (fun m => m.line == line) = some i) (hmi : l[i]? = some m) :
    Calls Try.prog 13 #[.pointer (some ⟨fb, 0, none⟩), .int .i64 line] w fun e w' => e = .returned (.tuple #[m.val, .bool true]) ∧ Below w.heap.size w w' := by
  have HF := Lib.hid hf
  have HI := Lib.hid hi
  have HM := Lib.hid hmi
  clear hf hi hmi
  go_enter Try.func13, Try.ntmps13
  go_wp2_with (first | (go_at_call 30; refine (of_some _ _ hm (HF.out.below ((Below.refl _ _).alloc (Nat.le_refl _) _)) HI.out).mono ?_; rintro e w' ⟨rfl, hb⟩; have HB := Lib.hid hb; have HX := Lib.hid (box_kept hb); have HR := Lib.hid (((HF.out.below ((Below.refl _ _).alloc (Nat.le_refl _) _)).below hb).elem HM.out); clear hb) | (refine wpList_load_mid rfl 34 (.tmp 13) rfl g (i * 15) rfl m.cells _ HR.out Try.underlying34 rfl Try.size34 ?_) | (refine wpList_store_box rfl 34 (.tmp 4) _ rfl _ m.cells.toArray rfl rfl 34 _ HX.out Try.size34 rfl (Ms.all _) ?_; intro w2 hx2 hc2; have HX2 := Lib.hid hx2; have HC2 := Lib.hid hc2; clear hx2 hc2))
  refine ret_cell_tmp (p := 4) (q := 5) (ty := 34) rfl w.heap.size 34 m.cells.toArray _ _ _ rfl rfl HX2.out Try.underlying34 rfl Try.size34 rfl ⟨rfl, ?_⟩
  exact ((Below.refl _ _).alloc (Nat.le_refl _) _).trans ((HB.out.mono (by simp)).trans (HC2.out.below (by have := HB.out.size; simp at this; omega) (by intro i hi e; omega)))
/-- 'Owing': none owes. -/
theorem owing_none {B fb : Nat} {sv : Value} {room : Int} {l : List Ms} (w : World) (hm : l.length ≤ 1000) (hf : FileIs w 60 34 B fb sv room l) (hi : l.findIdx? (fun m => m.owes) = none) :
    Calls Try.prog 11 #[.pointer (some ⟨fb, 0, none⟩)] w fun e w' => e = .returned (.tuple #[.int .i64 0, .bool false]) ∧ Below w.heap.size w w' := by
  have HF := Lib.hid hf
  have HI := Lib.hid (place_none hi)
  clear hf hi
  go_enter Try.func11, Try.ntmps11
  go_wp2_with (go_at_call 28; refine (at_any 29 callFunc29 _ _ _ hm HF.out (owing_closure _)).mono ?_; rintro e w' ⟨rfl, hb⟩; rw [HI.out]; have HB := Lib.hid hb; clear hb)
  go_ret2
  exact ⟨rfl, HB.out⟩
/-- 'Owing': the line of the first one. -/
theorem owing_some {B fb g n c : Nat} {room : Int} {l : List Ms} (w : World) (hm : l.length ≤ 1000) (hf : FileIs w 60 34 B fb (.slice (some ⟨g, 0, none⟩) n c) room l) {i : Nat} {m : Ms} (hi : l.findIdx? (fun m => m.owes) = some i) (hmi : l[i]? = some m) :
    Calls Try.prog 11 #[.pointer (some ⟨fb, 0, none⟩)] w fun e w' => e = .returned (.tuple #[.int .i64 m.line, .bool true]) ∧ Below w.heap.size w w' := by
  have HF := Lib.hid hf
  have HI := Lib.hid (place_some hi)
  have HM := Lib.hid hmi
  have hlt : i < n := by rw [hf.len]; exact (List.getElem?_eq_some_iff.1 hmi).1
  have hn : n ≤ 1000 := by rw [hf.len]; exact hm
  clear hf hi hmi
  go_enter Try.func11, Try.ntmps11
  go_wp2_with (go_at_call 28; refine (at_any 29 callFunc29 _ _ _ hm HF.out (owing_closure _)).mono ?_; rintro e w' ⟨rfl, hb⟩; rw [HI.out]; have h1 := (HF.out.below hb).head1; have h2 := (HF.out.below hb).elem HM.out 0 _ rfl; rw [Nat.add_zero] at h2; have HB := Lib.hid hb; clear hb)
  go_ret2
  exact ⟨rfl, HB.out⟩
theorem range_plain {w : World} {g : Nat} {cs : List Value} (h : w.rangeAt g 0 cs) : ∀ j u, cs[j]? = some u → w.cell? ((⟨g, 0, none⟩ : Addr).add j) = some u := by
  intro j u hu
  rw [Addr.add_mid]
  exact h j u hu
/-- What 'List' hands back. -/
def ListPost (l : List Ms) (w : World) (e : Ending) (w' : World) : Prop := ∃ v, e = .returned v ∧ w'.ownsRow w.heap.size 34 15 v l.length (l.flatMap Ms.cells) ∧ Below w.heap.size w w'
theorem flat_one (l : List Ms) : ∀ u ∈ l.flatMap Ms.cells, u.oneCell' = true := by
  intro u hu
  obtain ⟨m, _, hm⟩ := List.mem_flatMap.1 hu
  exact m.one u hm
theorem own_zero {w : World} {B e : Nat} {v : Value} (h : w.ownsRow B e 15 v 0 []) : w.ownsRow B e 15 v 0 [] := h
theorem clone_any {B fb : Nat} {sv : Value} {room : Int} {l : List Ms} (w : World) (hm : l.length ≤ 1000) (hf : FileIs w 60 34 B fb sv room l) :
    Calls Try.prog 32 #[sv] w (ListPost l w) := by
  have qT : ∀ (w : World) (a : Option Addr) (n c n' c' : Nat), (binOp .eql 48 (.slice a n c) (.slice none n' c')).run Try.prog w = .ok (.bool a.isNone) w := fun w a n c n' c' => Lib.run_eql_slice_nil w _ _ a n c n' c' Try.underlying48
  obtain ⟨i0, hi, hz0, hz1, hz2⟩ := info_parts Try.info34
  have HI := Lib.hid hi
  have HZ0 := Lib.hid hz0
  have HZ1 := Lib.hid hz1
  have HZ2 := Lib.hid hz2
  clear hi hz0 hz1 hz2
  rcases hf.row.2 with ⟨rfl, h0⟩ | ⟨g, c, cur, rfl, _⟩
  · have e0 : l = [] := List.eq_nil_of_length_eq_zero h0
    subst e0
    go_enter Try.func32, Try.ntmps32
    go_wp2
    go_ret
    exact ⟨_, rfl, World.ownsRow_nil _ _ _ _, Below.refl _ _⟩
  · have HF := Lib.hid hf
    clear hf
    go_enter Try.func32, Try.ntmps32
    go_wp2_with (at_builtin; refine wpList_append_own _ rfl _ _ 48 rfl w.heap.size 34 i0 Ms.zero.val 15 112 Try.underlying48 HI.out HZ0.out HZ1.out HZ2.out rfl (by decide) _ 0 [] rfl (World.ownsRow_made w #[] 0 (Nat.le_refl _) (by simp [maxLen]) rfl) ⟨g, 0, none⟩ l.length c (l.flatMap Ms.cells) rfl ?c1 ?c2 ?c3 ?c4 ?c5 ?c6 ?_)
    case c1 => exact flat_length _ _ _ Ms.len
    case c2 => exact range_plain (World.rangeAt_alloc HF.out.range _)
    case c3 => exact flat_one l
    case c4 => simp only [maxLen]; omega
    case c5 => omega
    case c6 => simp
    intro v' w' hown' hgrow _
    have HO := Lib.hid hown'
    have HG := Lib.hid hgrow
    clear hown' hgrow
    go_wp2
    go_ret
    refine ⟨_, rfl, ?_, ?_⟩
    · exact HO.out
    · exact ((Below.refl _ _).alloc (Nat.le_refl _) _).grown HG.out (by simp) (by intro k hk; simp [Value.ownBlock] at hk; omega)
theorem list_any {B fb : Nat} {sv : Value} {room : Int} {l : List Ms} (w : World) (hm : l.length ≤ 1000) (hf : FileIs w 60 34 B fb sv room l) :
    Calls Try.prog 15 #[.pointer (some ⟨fb, 0, none⟩)] w (ListPost l w) := by
  have h1 := hf.head1
  have HF := Lib.hid hf
  clear hf
  go_enter Try.func15, Try.ntmps15
  go_wp2_with (go_at_call 32; refine (clone_any _ hm HF.out).mono ?_; rintro e w' ⟨v, rfl, hp⟩; have HP := Lib.hid hp; clear hp)
  go_ret
  exact ⟨v, rfl, HP.out⟩

def Ms.new (line kind : Int) : Ms := ⟨line, kind, -1, 0, 0, 0, 0, 0, 0, 0, 0, 0, 0, false, false⟩
theorem open_arg {fb : Nat} (line kind : Int) (w : World) (h1 : kind ≠ 1) (h2 : kind ≠ 2) :
    Calls Try.prog 16 #[.pointer (some ⟨fb, 0, none⟩), .int .i64 line, .int .i64 kind] w fun e w' => e = .returned (.int .i64 1) ∧ w = w' := by
  have b1 : (kind != 1) = true := by simpa using h1
  have b2 : (kind != 2) = true := by simpa using h2
  clear h1 h2
  go_enter Try.func16, Try.ntmps16
  go_wp2
  go_ret
  exact ⟨rfl, rfl⟩
theorem open_twice {B fb g n c : Nat} {room : Int} {l : List Ms} (line kind : Int) (w : World) (hk : kind = 1 ∨ kind = 2) (hm : l.length ≤ 1000) (hf : FileIs w 60 34 B fb (.slice (some ⟨g, 0, none⟩) n c) room l) {i : Nat} (hi : l.findIdx? (fun m => m.line == line) = some i) :
    Calls Try.prog 16 #[.pointer (some ⟨fb, 0, none⟩), .int .i64 line, .int .i64 kind] w fun e w' => e = .returned (.int .i64 6) ∧ Below w.heap.size w w' := by
  have HF := Lib.hid hf
  have HI := Lib.hid hi
  clear hf hi
  rcases hk with rfl | rfl
  all_goals
    go_enter Try.func16, Try.ntmps16
    go_wp2_with (go_at_call 30; refine (of_some _ _ hm HF.out HI.out).mono ?_; rintro e w' ⟨rfl, hb⟩; have HB := Lib.hid hb; clear hb)
    go_ret
    exact ⟨rfl, HB.out⟩
theorem open_full {B fb : Nat} {sv : Value} {room : Int} {l : List Ms} (line kind : Int) (w : World) (hk : kind = 1 ∨ kind = 2) (hm : l.length ≤ 1000) (hf : FileIs w 60 34 B fb sv room l) (hi : l.findIdx? (fun m => m.line == line) = none) (hr : (l.length : Int) = room) :
    Calls Try.prog 16 #[.pointer (some ⟨fb, 0, none⟩), .int .i64 line, .int .i64 kind] w fun e w' => e = .returned (.int .i64 4) ∧ Below w.heap.size w w' := by
  obtain ⟨A, c, hsv⟩ : ∃ A c, sv = .slice A l.length c := by
    rcases hf.row.2 with ⟨rfl, h0⟩ | ⟨g, c, cur, rfl, _⟩
    · exact ⟨none, 0, by rw [h0]⟩
    · exact ⟨_, c, rfl⟩
  subst hsv
  subst hr
  have HF := Lib.hid hf
  have HI := Lib.hid hi
  clear hf hi
  rcases hk with rfl | rfl
  all_goals
    go_enter Try.func16, Try.ntmps16
    go_wp2_with (go_at_call 30; refine (of_none _ _ hm HF.out HI.out).mono ?_; rintro e w' ⟨rfl, hb⟩; have c0 := (HF.out.below hb).head0; have c1 := (HF.out.below hb).head1; have HB := Lib.hid hb; clear hb)
    go_quiet (fail)
    go_wp2
    go_ret
    exact ⟨rfl, HB.out.trans ⟨rfl, rfl, rfl, Nat.le_refl _, fun _ _ => rfl⟩⟩
theorem open_ok {B fb : Nat} {sv : Value} {room : Int} {l : List Ms} (line kind : Int) (w : World) (hk : kind = 1 ∨ kind = 2) (hm : l.length ≤ 1000) (hB : B ≤ w.heap.size) (hf : FileIs w 60 34 B fb sv room l) (hi : l.findIdx? (fun m => m.line == line) = none) (hr : (l.length : Int) ≠ room) :
    Calls Try.prog 16 #[.pointer (some ⟨fb, 0, none⟩), .int .i64 line, .int .i64 kind] w fun e w' => e = .returned (.int .i64 0) ∧ Did 60 34 B fb sv room (l ++ [Ms.new line kind]) w w' := by
  obtain ⟨A, c, hsv⟩ : ∃ A c, sv = .slice A l.length c := by
    rcases hf.row.2 with ⟨rfl, h0⟩ | ⟨g, c, cur, rfl, _⟩
    · exact ⟨none, 0, by rw [h0]⟩
    · exact ⟨_, c, rfl⟩
  have hr1 : ((l.length : Int) == room) = false := by simpa using hr
  obtain ⟨i0, hi0, hz0, hz1, hz2⟩ := info_parts Try.info34
  have HI0 := Lib.hid hi0
  have HZ0 := Lib.hid hz0
  have HZ1 := Lib.hid hz1
  have HZ2 := Lib.hid hz2
  clear hi0 hz0 hz1 hz2 hr
  have HF := Lib.hid hf
  have HI := Lib.hid hi
  clear hf hi
  have HS := Lib.hid hsv
  clear hsv
  have hl2 : (l.length + 1) * 112 ≤ 140737488355328 := by omega
  have fin : ∀ (w1 w2 : World) (nq : Nat) (o : Obj) (v' : Value) (kind : Int), Below w.heap.size w w1 → (v'.ownBlock = (Value.slice A l.length c).ownBlock ∨ v'.ownBlock = some (w1.heap.size + 1)) → w2.ownsRow B 34 15 v' (l.length + 1) (l.flatMap Ms.cells ++ (Ms.new line kind).cells) → ((w1.drewN nq).alloc o).grownBy w2 (Value.slice A l.length c).ownBlock →
      Did 60 34 B fb sv room (l ++ [Ms.new line kind]) w (w2.setCell ⟨fb, 1, none⟩ v') := by
    intro w1 w2 nq o v' kind hb hv ho hg
    have hs := HS.out
    have f1 : FileIs ((w1.drewN nq).alloc o) 60 34 B fb sv room l := (HF.out.below hb).below (w' := (w1.drewN nq).alloc o) ((below_drawn (Below.refl _ w1) nq).alloc (Nat.le_refl _) o)
    refine ⟨v', f1.renew (by rw [hs]; exact hg) ?_, ?_, ?_⟩
    · rw [List.length_append, List.flatMap_append]
      simpa using ho
    · refine Chg.setCell ?_ (.inl rfl) _
      refine (Chg.grown (a := w) (Chg.alloc (E := own fb sv) (b := w1.drewN nq) ?_ o) hg ?_)
      · exact ⟨hb.os, hb.tape, hb.output, hb.size, fun k hk _ => hb.block k hk⟩
      · intro k hk
        right
        rw [hs, hk]
    · intro k hk
      rcases hk with rfl | hk
      · exact .inl (.inl rfl)
      · rcases hv with hv | hv
        · left; right; rw [hs, ← hv, hk]
        · right
          rw [hk] at hv
          injection hv with hv
          have := hb.size
          omega
  have HL := Lib.hid hl2
  have FIN := Lib.hid fin
  clear hl2 fin
  have hk2 : (kind != 1) = false ∨ (kind != 1) = true ∧ (kind != 2) = false := by rcases hk with rfl | rfl <;> simp
  clear hk
  rcases hk2 with k1 | ⟨k1, k2⟩
  all_goals
    go_enter Try.func16, Try.ntmps16
    go_wp2_with (go_at_call 30; refine (of_none _ _ hm HF.out HI.out).mono ?_; rintro e w1 ⟨rfl, hb⟩; have c0 := (HF.out.below hb).head0; have c1 := (HF.out.below hb).head1; have f1 := (HF.out.below hb).free 1; rw [HS.out] at c1; have hlt := hb.size; have hfb := HF.out.lt; have hrow := (HF.out.below hb).row; rw [HS.out] at hrow; have HR := Lib.hid hrow; have HB := Lib.hid hb; clear hb hrow)
    go_quiet (fail)
    go_wp2_with (at_builtin; go_must (refine wpList_append_own_at _ rfl _ _ 48 rfl B 34 i0 Ms.zero.val 15 112 Try.underlying48 HI0.out HZ0.out HZ1.out HZ2.out rfl (by decide) _ l.length (l.flatMap Ms.cells) rfl ?c0 ⟨w1.heap.size, 0, none⟩ 1 1 (Ms.new line kind).cells rfl ?c1 ?c2 ?c3 ?c4 ?c5 ?c6 ?_))
    case c0 => exact World.ownsRow.alloc (w := World.drewN w1 _) HR.out _
    case c1 => rfl
    case c2 => exact new_plain (World.drewN w1 _) (Ms.new line kind).cells 34
    case c3 => exact Ms.one _
    case c4 => simp only [maxLen]; omega
    case c5 => exact HL.out
    case c6 => simp; omega
    intro v' w2 hown' hgrow _ hat
    have hh := FileIs.head_grown (((HF.out.below HB.out).below (below_drawn (Below.refl _ w1) _)).below ((Below.refl _ (w1.drewN _)).alloc (Nat.le_refl _) _)) (by rw [HS.out]; exact hgrow)
    have c1 : w2.cell? ⟨fb, 1, none⟩ = some sv := by rw [cell_of_row w2 fb 1 _ _ _ hh]; rfl
    have f1 : w2.frozen? ⟨fb, 1, none⟩ = false := frozen_of_row w2 fb 1 _ _ hh
    clear hh
    have HO := Lib.hid hown'
    have HG := Lib.hid hgrow
    have HAT := Lib.hid hat
    clear hown' hgrow hat
    obtain ⟨A2, d2, hv2⟩ := own_form HO.out
    have HV := Lib.hid hv2
    clear hv2
    rw [HV.out]
    go_wp2
    go_ret
    rw [← HV.out]
    exact ⟨rfl, FIN.out _ _ _ _ _ _ HB.out HAT.out HO.out HG.out⟩
end Go.Proofs.Ytfjeheioglmalaa
