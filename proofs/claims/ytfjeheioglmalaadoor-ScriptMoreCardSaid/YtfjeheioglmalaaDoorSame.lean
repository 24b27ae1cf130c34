/- Same of the reference. -/
import Derived.Test.YtfjeheioglmalaaDoorRPrint
namespace Go.Proofs.YtfjeheioglmalaaDoor
open Go.RowKit Go.Lib
theorem neq33 (x y : PO) (w : World) : (binOp .neq 33 (.agg x.arr) (.agg y.arr)).run Tryd.prog w = .ok (.bool (decide (x ≠ y))) w := by
  obtain ⟨k, a, v⟩ := x
  obtain ⟨k', a', v'⟩ := y
  unfold PO.arr
  by_cases h1 : k = k'
  · by_cases h2 : a = a'
    · by_cases h3 : v = v'
      · subst h1 h2 h3; simp [go_sem]
      · subst h1 h2; simp [go_sem, h3]
    · subst h1; simp [go_sem, h2]
  · simp [go_sem, h1]
theorem still_load_mid {P : Program} {ops : Array Oper} {rest : List Oper} {o : Oper} {a : Act} {w : World} {Q : Act → Prop} (hgd : o.guard = none) (ty : TypeId) (x : Operand) (ho : o.op = .load ty x)
    (b off : Nat) (hx : a.eval x = .pointer (some ⟨b, off, none⟩)) (cs : List Value) (d : TypeDesc) (hc : w.rangeAt b off cs) (hu : P.underlying ty = some d) (hd : d.isRow = true) (hi : (P.info? ty).map (·.size) = some cs.length)
    (h : wpStill P ops w Q rest (a.put o.dst (.agg cs.toArray))) : wpStill P ops w Q (o :: rest) a := by
  refine wpStill_step (fun K hK => ?_)
  rw [if_pos (by simp [Region.wanted, hgd])]
  unfold Oper.still execOp
  simp only [ho, hx, Instr.loadAt, Instr.sureAddr, Sem.run_bind, Sem.run_pure, Result.andThen_ok, run_loadVar_mid w b off ty cs d hc hu hd hi, Oper.stillUpon_value]
  exact hK _ h
theorem list_ne {l m : List PO} {k : Nat} {x y : PO} (hx : l[k]? = some x) (hy : m[k]? = some y) (h : x ≠ y) : l ≠ m := by
  rintro rfl
  rw [hx] at hy
  injection hy with hy
  exact h hy
theorem list_eq {l m : List PO} (hl : l.length = m.length) (h : ∀ j, j < l.length → l[j]? = m[j]?) : l = m := by
  apply List.ext_getElem?
  intro j
  by_cases hj : j < l.length
  · exact h j hj
  · rw [List.getElem?_eq_none (by omega), List.getElem?_eq_none (by omega)]
set_option maxRecDepth 100000 in
theorem same_walk (l m : List PO) (A B : Option Addr) (c d : Nat) (hl : l.length ≤ 5000) (w : World) (ho : OpsIn w A l) (hp : OpsIn w B m) :
    Calls Tryd.prog 13 #[.slice A l.length c, .slice B m.length d] w fun e w' => e = .returned (.bool (decide (l = m))) ∧ Below w.heap.size w w' := by
  have HO := Lib.hid ho
  have HP := Lib.hid hp
  clear ho hp
  by_cases hlen : l.length = m.length
  · have HLEN := Lib.hid hlen
    have hn : ((l.length : Int) != (m.length : Int)) = false := by simp [hlen]
    clear hlen
    go_enter Tryd.func13, Tryd.ntmps13
    go_wp2_with fail
    go_loopw [5] (fun v wr => ∃ k q : Nat, v = .int .i64 k ∧ k ≤ l.length ∧ (∀ j, j < k → l[j]? = m[j]?) ∧ wr = w.drewN q) (fun v _ => l.length - (intOf v).toNat)
    case atStart => exact ⟨0, 0, rfl, by omega, fun j hj => by omega, rfl⟩
    case round =>
      obtain ⟨k, q, rfl, hk, hno, hw⟩ := hrel
      have HW := Lib.hid hw
      have HNO := Lib.hid hno
      clear hno hw
      by_cases hlt : k < l.length
      · have hlt2 : k < m.length := by rw [← HLEN.out]; exact hlt
        obtain ⟨x, hx⟩ : ∃ x, l[k]? = some x := ⟨_, List.getElem?_eq_getElem hlt⟩
        obtain ⟨y, hy⟩ : ∃ y, m[k]? = some y := ⟨_, List.getElem?_eq_getElem hlt2⟩
        obtain ⟨b, off, hA, _, har⟩ := HO.out k x hx
        obtain ⟨b2, off2, hB, _, har2⟩ := HP.out k y hy
        subst hA
        subst hB
        have HR := Lib.hid (show wr.rangeAt b (off + k * 3) x.arr.toList by rw [HW.out]; exact har)
        have HR2 := Lib.hid (show wr.rangeAt b2 (off2 + k * 3) y.arr.toList by rw [HW.out]; exact har2)
        have HX := Lib.hid hx
        have HY := Lib.hid hy
        clear har har2 hx hy
        by_cases hxy : x = y
        · subst hxy
          have hd : decide (x ≠ x) = false := by simp
          have q33 := fun w => neq33 x x w
          rw [hd] at q33
          go_wp2_with fail
          refine wp_region_still_lit (by kernel_rfl) (by kernel_rfl) ?_
          still_step
          still_step
          still_step
          refine still_load_mid rfl 33 (.tmp 19) rfl b (off + k * 3) rfl x.arr.toList _ HR.out Tryd.underlying33 rfl Tryd.size33 ?_
          still_step
          still_step
          still_step
          refine still_load_mid rfl 33 (.tmp 23) rfl b2 (off2 + k * 3) rfl x.arr.toList _ HR2.out Tryd.underlying33 rfl Tryd.size33 ?_
          still_step
          refine wpStill_nil ?_
          clear q33 hd
          change Exit.then _ _ _ _ (wr.drewN 1)
          go_wp2
          go_roundw
          case rel => exact ⟨k + 1, q + 1, by go_num, by omega, (fun j hj => by
            rcases Nat.lt_succ_iff_lt_or_eq.1 hj with h | h
            · exact HNO.out j h
            · subst h; rw [HX.out, HY.out]), by rw [HW.out]; rfl⟩
          case measure => simp [intOf]; omega
        · have hd : decide (x ≠ y) = true := by simp [hxy]
          have q33 := fun w => neq33 x y w
          rw [hd] at q33
          go_wp2_with fail
          refine wp_region_still_lit (by kernel_rfl) (by kernel_rfl) ?_
          still_step
          still_step
          still_step
          refine still_load_mid rfl 33 (.tmp 19) rfl b (off + k * 3) rfl x.arr.toList _ HR.out Tryd.underlying33 rfl Tryd.size33 ?_
          still_step
          still_step
          still_step
          refine still_load_mid rfl 33 (.tmp 23) rfl b2 (off2 + k * 3) rfl y.arr.toList _ HR2.out Tryd.underlying33 rfl Tryd.size33 ?_
          still_step
          refine wpStill_nil ?_
          clear q33 hd
          change Exit.then _ _ _ _ (wr.drewN 1)
          go_wp2
          go_ret
          refine ⟨ret_bool (by simp [list_ne HX.out HY.out hxy]), ?_⟩
          rw [HW.out]
          exact ⟨rfl, rfl, rfl, Nat.le_refl _, fun _ _ => rfl⟩
      · have hkn : k = l.length := by omega
        go_wp2_with fail
        go_ret
        refine ⟨ret_bool (by simp [list_eq HLEN.out (by rw [← hkn]; exact HNO.out)]), ?_⟩
        rw [HW.out]
        exact ⟨rfl, rfl, rfl, Nat.le_refl _, fun _ _ => rfl⟩
  · have hn : ((l.length : Int) != (m.length : Int)) = true := by simp; omega
    have hne : l ≠ m := fun e => hlen (by rw [e])
    clear hlen
    go_enter Tryd.func13, Tryd.ntmps13
    go_wp2_with fail
    go_ret
    exact ⟨ret_bool (by simp [hne]), Below.refl _ _⟩
end Go.Proofs.YtfjeheioglmalaaDoor
