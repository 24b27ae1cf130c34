/- The reference's 'guess'. -/
import Derived.Test.YtfjeheioglmalaaDoorDigits
import Derived.Test.YtfjeheioglmalaaDoorBox
namespace Go.Proofs.YtfjeheioglmalaaDoor
open Go.RowKit
/-- What the first loop has found behind the letters below j. -/
def kindUpto (c : UInt8) (j : Nat) : Int := if c = 76 ∧ 1 < j then 1 else if c = 83 ∧ 2 < j then 2 else if c = 88 ∧ 3 < j then 3 else if c = 70 ∧ 4 < j then 4 else 0
theorem kindUpto_all (c : UInt8) : kindUpto c 5 = kindB c := by unfold kindUpto kindB; simp
theorem kindUpto_one (c : UInt8) : kindUpto c 1 = 0 := by unfold kindUpto; simp
/-- Where the second loop has put 'at' behind the places from j on: the first '=' among them, or the length. -/
def eqFrom (l : List UInt8) (j : Nat) : Nat := j + eqAt (l.drop j)
theorem eqFrom_zero (l : List UInt8) : eqFrom l 0 = eqAt l := by simp [eqFrom]
theorem eqFrom_len (l : List UInt8) : eqFrom l l.length = l.length := by simp [eqFrom, eqAt]
theorem eqFrom_step {l : List UInt8} {j : Nat} {c : UInt8} (h : l[j]? = some c) : eqFrom l j = if c = 61 then j else eqFrom l (j + 1) := by
  unfold eqFrom
  obtain ⟨h1, h2⟩ := List.getElem?_eq_some_iff.1 h
  rw [List.drop_eq_getElem_cons h1, h2, eqAt]
  split
  · simp
  · omega
theorem eqAt_le (l : List UInt8) : eqAt l ≤ l.length := by
  induction l with
  | nil => simp [eqAt]
  | cons c l ih => rw [eqAt]; split <;> simp <;> omega
theorem loop1_hit {w wr : World} {c : UInt8} {j q : Nat} (k : Int) (hk : kindUpto c (j + 1) = k) (hx : wr.heap[w.heap.size]? = some (.cells #[.int .i64 0, .int .i64 0, .int .i64 0] 33 (0, 0))) (hy : wr.heap[w.heap.size + 1]? = some (.cells #[.int .i64 (kindUpto c j), .int .i64 0, .int .i64 0] 33 (0, 0))) (hb : Below w.heap.size w wr) :
    ((wr.drewN q).setCell ⟨w.heap.size + 1, 0, none⟩ (.int .i64 k)).heap[w.heap.size]? = some (.cells #[.int .i64 0, .int .i64 0, .int .i64 0] 33 (0, 0)) ∧
    ((wr.drewN q).setCell ⟨w.heap.size + 1, 0, none⟩ (.int .i64 k)).heap[w.heap.size + 1]? = some (.cells #[.int .i64 (kindUpto c (j + 1)), .int .i64 0, .int .i64 0] 33 (0, 0)) ∧ Below w.heap.size w ((wr.drewN q).setCell ⟨w.heap.size + 1, 0, none⟩ (.int .i64 k)) := by
  refine ⟨(Below.heap_setCell _ _ _ _ (by show w.heap.size ≠ w.heap.size + 1; omega)).trans hx, ?_, ?_⟩
  · rw [hk]
    exact heap_setCell_same (wr.drewN q) (w.heap.size + 1) 0 _ 33 (.int .i64 k) hy
  · exact hb.trans ⟨rfl, rfl, rfl, by simp [World.setCell], fun i hi => Below.heap_setCell _ _ _ i (by show i ≠ w.heap.size + 1; omega)⟩
theorem digits_same (l : List UInt8) (hl : l.length ≤ 5000) (w : World) : Calls Tryd.prog 49 #[.string ⟨l.toArray⟩] w fun e w' => e = .returned (.int .i64 (digitsP l)) ∧ w = w' :=
  (digits_walk l hl w).mono fun _ _ h => ⟨h.1, h.2.symm⟩
theorem byte_next {l : List UInt8} {a : Nat} {x : Int} {n : Nat} (hx : (a : Int) = x) (h0 : 0 ≤ x) (h : x + 1 < (n : Int) + 1) (hn : l.length = n + 1) : ∃ b, (∀ hq, (ByteArray.mk l.toArray)[(x + 1).toNat]'hq = b) ∧ l[a + 1]? = some b := by
  have e : (x + 1).toNat = a + 1 := by omega
  refine ⟨_, fun hq => ?_, List.getElem?_eq_getElem (by omega : a + 1 < l.length)⟩
  subst hx
  exact byte_at (List.getElem?_eq_getElem (by omega)) _
theorem u8_not45 {b : UInt8} (h : b ≠ 45) : ((b.toNat : Int) == 45) = false := by
  have : b.toNat ≠ 45 := fun e => h (UInt8.toNat_inj.1 e)
  simp; omega
theorem u8_not61 {b : UInt8} (h : b ≠ 61) : ((b.toNat : Int) == 61) = false := by
  have : b.toNat ≠ 61 := fun e => h (UInt8.toNat_inj.1 e)
  simp; omega
theorem ext_drop {l : List UInt8} {a n : Nat} {x : Int} (hx : (a : Int) = x) (hn : l.length = n + 1) (k : Nat) {q : Int} (hq : q = k) : (ByteArray.mk l.toArray).extract (x + q).toNat (n + 1) = ⟨(l.drop (a + k)).toArray⟩ := by
  have e : (x + q).toNat = a + k := by omega
  rw [e, ByteArray.extract_mk, ← hn, ← List.length_drop, List.take_length]
theorem digits_small (l : List UInt8) : -23000000000000 ≤ digitsP l ∧ digitsP l ≤ 23000000000000 := digFold_small l 12 (by omega)
theorem guess_minus {c : UInt8} {r p : List UInt8} {a : Nat} {kk n m : Int} (ha : eqAt (c :: r) = a) (hk : kindB c = kk) (hp : ((c :: r).take (max a 1)).drop 1 = p) (hn : digitsP p = n) (hb : (c :: r)[a + 1]? = some 45) (hm : digitsP ((c :: r).drop (a + 2)) = m) : guessP (c :: r) = ⟨kk, if kk = 4 then 0 else n, -m⟩ := by
  unfold guessP
  simp only [ha, hk, hp, hn, hm, List.head?_drop, hb, if_true]
theorem guess_plus {c : UInt8} {r p : List UInt8} {a : Nat} {kk n m : Int} (ha : eqAt (c :: r) = a) (hk : kindB c = kk) (hp : ((c :: r).take (max a 1)).drop 1 = p) (hn : digitsP p = n) (hb : (c :: r)[a + 1]? ≠ some 45) (hlt : a < (c :: r).length) (hm : digitsP ((c :: r).drop (a + 1)) = m) : guessP (c :: r) = ⟨kk, if kk = 4 then 0 else n, m⟩ := by
  unfold guessP
  simp only [ha, hk, hp, hn, hm, List.head?_drop, if_neg hb, if_pos hlt]
theorem guess_none {c : UInt8} {r p : List UInt8} {a : Nat} {kk n : Int} (ha : eqAt (c :: r) = a) (hk : kindB c = kk) (hp : ((c :: r).take (max a 1)).drop 1 = p) (hn : digitsP p = n) (hlt : (c :: r).length ≤ a) : guessP (c :: r) = ⟨kk, if kk = 4 then 0 else n, 0⟩ := by
  have hb : (c :: r)[a + 1]? ≠ some 45 := by rw [List.getElem?_eq_none (by omega)]; simp
  unfold guessP
  simp only [ha, hk, hp, hn, List.head?_drop, if_neg hb, if_neg (show ¬ a < (c :: r).length by omega)]
theorem ne1 (c : UInt8) (r : List UInt8) : ((ByteArray.mk (c :: r).toArray) == (ByteArray.mk #[])) = false := by
  first | rfl | (simp [BEq.beq]; done) | (unfold BEq.beq; simp [instBEqByteArray])
set_option maxRecDepth 100000 in
set_option maxHeartbeats 1000000 in
theorem guess_walk (l : List UInt8) (hl : l.length ≤ 5000) (w : World) : Calls Tryd.prog 30 #[.string ⟨l.toArray⟩] w fun e w' => e = .returned (guessP l).val ∧ Below w.heap.size w w' := by
  have hsz : (ByteArray.mk l.toArray).size = l.length := by simp [ByteArray.size]
  cases l with
  | nil =>
    have HN : Hid (guessP [] = ⟨0, 0, 0⟩) := rfl
    go_enter Tryd.func30, Tryd.ntmps30
    go_wp2
    rw [HN.out]
    exact bodyPost_ret (v := .agg #[.int .i64 0, .int .i64 0, .int .i64 0]) (by simp [results, Tryd.results30, go_sem]) rfl ⟨rfl, (Below.refl _ _).alloc (Nat.le_refl _) _⟩
  | cons c r =>
    have c0 : (ByteArray.mk (c :: r).toArray)[0]'(by rw [hsz]; simp) = c := byte_at (by rfl) _
    have hne := ne1 c r
    have hlen : (c :: r).length = r.length + 1 := rfl
    go_enter Tryd.func30, Tryd.ntmps30
    go_wp2_with fail
    go_loopw [4] (fun v wr => ∃ j : Nat, v = .int .i64 j ∧ 1 ≤ j ∧ j ≤ 5 ∧ wr.heap[w.heap.size]? = some (.cells #[.int .i64 0, .int .i64 0, .int .i64 0] 33 (0, 0)) ∧ wr.heap[w.heap.size + 1]? = some (.cells #[.int .i64 (kindUpto c j), .int .i64 0, .int .i64 0] 33 (0, 0)) ∧ Below w.heap.size w wr) (fun v _ => 5 - (intOf v).toNat)
    case atStart =>
      refine ⟨1, rfl, by omega, by omega, ?_, ?_, ?_⟩
      · exact ((Below.refl (w.heap.size + 1) _).alloc (by simp) _).block w.heap.size (by omega) |>.trans (heap_alloc_new w _)
      · have := heap_alloc_new (w.alloc (Obj.cells #[.int .i64 0, .int .i64 0, .int .i64 0] 33)) (Obj.cells #[.int .i64 0, .int .i64 0, .int .i64 0] 33)
        simpa [kindUpto] using this
      · exact ((Below.refl _ _).alloc (Nat.le_refl _) _).alloc (by simp) _
    case round =>
      obtain ⟨j, rfl, hj1, hj5, hx, hy, hb⟩ := hrel
      have y0 := box_cell (v := .int .i64 (kindUpto c j)) hy 0 rfl
      have f0 := frozen_of_row wr (w.heap.size + 1) 0 _ _ hy
      have HX := Lib.hid hx
      have HY := Lib.hid hy
      have HB := Lib.hid hb
      clear hx hy hb
      have hjj : j = 1 ∨ j = 2 ∨ j = 3 ∨ j = 4 ∨ j = 5 := by omega
      rcases hjj with rfl | rfl | rfl | rfl | rfl
      · by_cases hc : c = 76
        · have hq : ((c.toNat : Int) == (((ByteArray.mk #[32, 76, 83, 88, 70])[1]'(by decide)).toNat : Int)) = true := by subst hc; decide
          go_wp2_with fail
          go_quiet (fail)
          go_wp2
          go_roundw
          case rel => exact ⟨2, by go_num, by omega, by omega, loop1_hit (j := 1) 1 (by rw [hc]; decide) HX.out HY.out HB.out⟩
          case measure => simp [intOf]
        · have hq : ((c.toNat : Int) == (((ByteArray.mk #[32, 76, 83, 88, 70])[1]'(by decide)).toNat : Int)) = false := by
            have : c.toNat ≠ 76 := fun e => hc (UInt8.toNat_inj.1 e)
            have e : ((ByteArray.mk #[32, 76, 83, 88, 70])[1]'(by decide)).toNat = 76 := by decide
            rw [e]
            simp; omega
          go_wp2_with fail
          go_quiet (fail)
          go_wp2
          go_roundw
          case rel => exact ⟨2, by go_num, by omega, by omega, HX.out, by rw [show kindUpto c 2 = kindUpto c 1 by simp [kindUpto, hc]]; exact HY.out, below_drawn HB.out _⟩
          case measure => simp [intOf]
      · by_cases hc : c = 83
        · have hq : ((c.toNat : Int) == (((ByteArray.mk #[32, 76, 83, 88, 70])[2]'(by decide)).toNat : Int)) = true := by subst hc; decide
          go_wp2_with fail
          go_quiet (fail)
          go_wp2
          go_roundw
          case rel => exact ⟨3, by go_num, by omega, by omega, loop1_hit (j := 2) 2 (by rw [hc]; decide) HX.out HY.out HB.out⟩
          case measure => simp [intOf]
        · have hq : ((c.toNat : Int) == (((ByteArray.mk #[32, 76, 83, 88, 70])[2]'(by decide)).toNat : Int)) = false := by
            have : c.toNat ≠ 83 := fun e => hc (UInt8.toNat_inj.1 e)
            have e : ((ByteArray.mk #[32, 76, 83, 88, 70])[2]'(by decide)).toNat = 83 := by decide
            rw [e]
            simp; omega
          go_wp2_with fail
          go_quiet (fail)
          go_wp2
          go_roundw
          case rel => exact ⟨3, by go_num, by omega, by omega, HX.out, by rw [show kindUpto c 3 = kindUpto c 2 by simp [kindUpto, hc]]; exact HY.out, below_drawn HB.out _⟩
          case measure => simp [intOf]
      · by_cases hc : c = 88
        · have hq : ((c.toNat : Int) == (((ByteArray.mk #[32, 76, 83, 88, 70])[3]'(by decide)).toNat : Int)) = true := by subst hc; decide
          go_wp2_with fail
          go_quiet (fail)
          go_wp2
          go_roundw
          case rel => exact ⟨4, by go_num, by omega, by omega, loop1_hit (j := 3) 3 (by rw [hc]; decide) HX.out HY.out HB.out⟩
          case measure => simp [intOf]
        · have hq : ((c.toNat : Int) == (((ByteArray.mk #[32, 76, 83, 88, 70])[3]'(by decide)).toNat : Int)) = false := by
            have : c.toNat ≠ 88 := fun e => hc (UInt8.toNat_inj.1 e)
            have e : ((ByteArray.mk #[32, 76, 83, 88, 70])[3]'(by decide)).toNat = 88 := by decide
            rw [e]
            simp; omega
          go_wp2_with fail
          go_quiet (fail)
          go_wp2
          go_roundw
          case rel => exact ⟨4, by go_num, by omega, by omega, HX.out, by rw [show kindUpto c 4 = kindUpto c 3 by simp [kindUpto, hc]]; exact HY.out, below_drawn HB.out _⟩
          case measure => simp [intOf]
      · by_cases hc : c = 70
        · have hq : ((c.toNat : Int) == (((ByteArray.mk #[32, 76, 83, 88, 70])[4]'(by decide)).toNat : Int)) = true := by subst hc; decide
          go_wp2_with fail
          go_quiet (fail)
          go_wp2
          go_roundw
          case rel => exact ⟨5, by go_num, by omega, by omega, loop1_hit (j := 4) 4 (by rw [hc]; decide) HX.out HY.out HB.out⟩
          case measure => simp [intOf]
        · have hq : ((c.toNat : Int) == (((ByteArray.mk #[32, 76, 83, 88, 70])[4]'(by decide)).toNat : Int)) = false := by
            have : c.toNat ≠ 70 := fun e => hc (UInt8.toNat_inj.1 e)
            have e : ((ByteArray.mk #[32, 76, 83, 88, 70])[4]'(by decide)).toNat = 70 := by decide
            rw [e]
            simp; omega
          go_wp2_with fail
          go_quiet (fail)
          go_wp2
          go_roundw
          case rel => exact ⟨5, by go_num, by omega, by omega, HX.out, by rw [show kindUpto c 5 = kindUpto c 4 by simp [kindUpto, hc]]; exact HY.out, below_drawn HB.out _⟩
          case measure => simp [intOf]
      · rw [kindUpto_all] at HY y0
        rw [show ((5 : Nat) : Int) = 5 from rfl]
        go_wp2_with fail
        go_loop [5, 6] (fun a v => ∃ j : Nat, j ≤ (c :: r).length ∧ v = .int .i64 ((j : Int) - 1) ∧ a = .int .i64 (eqFrom (c :: r) j)) (fun _ v => (intOf v + 1).toNat)
        case atStart => exact ⟨(c :: r).length, Nat.le_refl _, by rw [hlen]; go_num, by rw [eqFrom_len, hlen]; rfl⟩
        case round =>
          obtain ⟨j, hj, rfl, rfl⟩ := hrel
          cases j with
          | zero =>
            rw [eqFrom_zero, show ((0 : Nat) : Int) - 1 = -1 from rfl]
            obtain ⟨a, ha⟩ : ∃ a, eqAt (c :: r) = a := ⟨_, rfl⟩
            have hal := eqAt_le (c :: r)
            rw [ha] at hal ⊢
            have HA := Lib.hid ha
            have fz1 := frozen_of_row wr (w.heap.size + 1) 1 _ _ HY.out
            have fz2 := frozen_of_row wr (w.heap.size + 1) 2 _ _ HY.out
            have y1 := box_cell (v := .int .i64 0) HY.out 1 rfl
            have y2 := box_cell (v := .int .i64 0) HY.out 2 rfl
            have fx0 := frozen_of_row wr w.heap.size 0 _ _ HX.out
            have fx1 := frozen_of_row wr w.heap.size 1 _ _ HX.out
            have fx2 := frozen_of_row wr w.heap.size 2 _ _ HX.out
            have x0 := box_cell (v := .int .i64 0) HX.out 0 rfl
            have x1 := box_cell (v := .int .i64 0) HX.out 1 rfl
            have x2 := box_cell (v := .int .i64 0) HX.out 2 rfl
            obtain ⟨kk, hkk⟩ : ∃ kk, kindB c = kk := ⟨_, rfl⟩
            have HKK := Lib.hid hkk
            rw [hkk] at HY y0
            clear ha hkk
            obtain ⟨p, hp⟩ : ∃ p, ((c :: r).take (max a 1)).drop 1 = p := ⟨_, rfl⟩
            have hpl : p.length ≤ 5000 := by rw [← hp]; simp only [List.length_drop, List.length_take]; omega
            have d1 := fun w => digits_same p hpl w
            have HP := Lib.hid hp
            obtain ⟨x, hx⟩ : ∃ x : Int, (a : Int) = x := ⟨_, rfl⟩
            have HX2 := Lib.hid hx
            have hx0 : 0 ≤ x := by omega
            have hxl : x ≤ (r.length : Int) + 1 := by omega
            have hxp : 0 ≤ x + 1 := by omega
            by_cases h0 : x < 1
            · have h0' : a = 0 := by omega
              have s1 : ∀ w, (Instr.slice 9 (.string ⟨(c :: r).toArray⟩) (some (.int .i64 1)) (some (.int .i64 1)) none).run Tryd.prog w = .ok (.string ⟨p.toArray⟩) w := fun w => by rw [← hp, h0']; exact slice_l (c :: r) 1 1 (by omega) (by rw [hlen]; omega) w
              rw [hx]
              clear hp hpl hx hal h0'
              go_wp2_with fail
              (with_reducible refine (d1 _).mono ?_); rintro e w' ⟨rfl, rfl⟩
              clear s1 d1
              obtain ⟨n, hn⟩ : ∃ n, digitsP p = n := ⟨_, rfl⟩
              have HN := Lib.hid hn
              rw [hn]
              clear hn
              by_cases hk4 : kk = 4
              · subst hk4
                by_cases hl2 : x + 1 < (r.length : Int) + 1
                · obtain ⟨b, hb, hbl⟩ := byte_next HX2.out hx0 hl2 (show (c :: r).length = r.length + 1 from rfl)
                  have HBL := Lib.hid hbl
                  clear hbl
                  by_cases h45 : b = 45
                  · have q45 : (((ByteArray.mk (c :: r).toArray)[(x + 1).toNat]'(by rw [hsz, hlen]; omega)).toNat : Int) = 45 := by rw [hb, h45]; rfl
                    subst h45
                    have e2 : (ByteArray.mk (c :: r).toArray).extract (x + 2).toNat (r.length + 1) = ⟨((c :: r).drop (a + 2)).toArray⟩ := ext_drop HX2.out (show (c :: r).length = r.length + 1 from rfl) 2 rfl
                    have d2 := fun w => digits_same ((c :: r).drop (a + 2)) (by rw [List.length_drop]; omega) w
                    rw [← e2] at d2
                    obtain ⟨m, hm⟩ : ∃ m, digitsP ((c :: r).drop (a + 2)) = m := ⟨_, rfl⟩
                    have hmb := digits_small ((c :: r).drop (a + 2))
                    rw [hm] at d2 hmb
                    have HM := Lib.hid hm
                    obtain ⟨hm1, hm2⟩ := hmb
                    clear hm e2
                    go_wp2_with fail
                    (with_reducible refine (d2 _).mono ?_); rintro e w' ⟨rfl, rfl⟩
                    clear d2
                    go_wp2
                    have GE := guess_minus HA.out HKK.out HP.out HN.out HBL.out HM.out
                    rw [if_pos rfl] at GE
                    rw [GE]
                    exact bodyPost_ret (v := .agg #[.int .i64 4, .int .i64 0, .int .i64 (-m)]) (by simp [results, Tryd.results30, x0, x1, x2, go_sem]) rfl ⟨rfl, ((((((HB.out.setCell (by simp) _).setCell (by simp) _).setCell (by simp) _).setCell (by simp) _).setCell (by simp) _).setCell (by simp) _)⟩
                  · have q45 : ((((ByteArray.mk (c :: r).toArray)[(x + 1).toNat]'(by rw [hsz, hlen]; omega)).toNat : Int) == 45) = false := by rw [hb]; exact u8_not45 h45
                    clear hb
                    have hlt : x < (r.length : Int) + 1 := by omega
                    have e2 : (ByteArray.mk (c :: r).toArray).extract (x + 1).toNat (r.length + 1) = ⟨((c :: r).drop (a + 1)).toArray⟩ := ext_drop HX2.out (show (c :: r).length = r.length + 1 from rfl) 1 rfl
                    have d2 := fun w => digits_same ((c :: r).drop (a + 1)) (by rw [List.length_drop]; omega) w
                    rw [← e2] at d2
                    obtain ⟨m, hm⟩ : ∃ m, digitsP ((c :: r).drop (a + 1)) = m := ⟨_, rfl⟩
                    have hmb := digits_small ((c :: r).drop (a + 1))
                    rw [hm] at d2 hmb
                    have HM := Lib.hid hm
                    obtain ⟨hm1, hm2⟩ := hmb
                    clear hm e2
                    go_wp2_with fail
                    (with_reducible refine (d2 _).mono ?_); rintro e w' ⟨rfl, rfl⟩
                    clear d2
                    go_wp2
                    have hax := HX2.out
                    have GE := guess_plus HA.out HKK.out HP.out HN.out (fun e => h45 (by rw [HBL.out] at e; injection e)) (by rw [hlen]; omega) HM.out
                    rw [if_pos rfl] at GE
                    rw [GE]
                    exact bodyPost_ret (v := .agg #[.int .i64 4, .int .i64 0, .int .i64 (m)]) (by simp [results, Tryd.results30, x0, x1, x2, go_sem]) rfl ⟨rfl, ((((((HB.out.setCell (by simp) _).setCell (by simp) _).setCell (by simp) _).setCell (by simp) _).setCell (by simp) _).setCell (by simp) _)⟩
                · by_cases hlt : x < (r.length : Int) + 1
                  · obtain rfl : x = (r.length : Int) := by omega
                    have e2 : (ByteArray.mk (c :: r).toArray).extract ((r.length : Int) + 1).toNat (r.length + 1) = ⟨((c :: r).drop (a + 1)).toArray⟩ := ext_drop HX2.out (show (c :: r).length = r.length + 1 from rfl) 1 rfl
                    have e3 : (c :: r).drop (a + 1) = [] := List.drop_eq_nil_of_le (by have := HX2.out; rw [hlen]; omega)
                    have d2 : ∀ w, Calls Tryd.prog 49 #[.string ByteArray.empty] w fun e w' => e = .returned (.int .i64 (digitsP [])) ∧ w = w' := fun w => digits_same [] (by simp) w
                    rw [← e3] at d2
                    clear e3
                    obtain ⟨m, hm⟩ : ∃ m, digitsP ((c :: r).drop (a + 1)) = m := ⟨_, rfl⟩
                    have hmb := digits_small ((c :: r).drop (a + 1))
                    rw [hm] at d2 hmb
                    have HM := Lib.hid hm
                    obtain ⟨hm1, hm2⟩ := hmb
                    clear hm e2
                    go_wp2_with fail
                    (with_reducible refine (d2 _).mono ?_); rintro e w' ⟨rfl, rfl⟩
                    clear d2
                    go_wp2
                    have hax := HX2.out
                    have GE := guess_plus HA.out HKK.out HP.out HN.out (fun e => by rw [List.getElem?_eq_none (by rw [hlen]; omega)] at e; cases e) (by rw [hlen]; omega) HM.out
                    rw [if_pos rfl] at GE
                    rw [GE]
                    exact bodyPost_ret (v := .agg #[.int .i64 4, .int .i64 0, .int .i64 (m)]) (by simp [results, Tryd.results30, x0, x1, x2, go_sem]) rfl ⟨rfl, ((((((HB.out.setCell (by simp) _).setCell (by simp) _).setCell (by simp) _).setCell (by simp) _).setCell (by simp) _).setCell (by simp) _)⟩
                  · obtain rfl : x = (r.length : Int) + 1 := by omega
                    exact absurd h0 (by omega)
              · have hk4f : (kk == 4) = false := by simpa using hk4
                by_cases hl2 : x + 1 < (r.length : Int) + 1
                · obtain ⟨b, hb, hbl⟩ := byte_next HX2.out hx0 hl2 (show (c :: r).length = r.length + 1 from rfl)
                  have HBL := Lib.hid hbl
                  clear hbl
                  by_cases h45 : b = 45
                  · have q45 : (((ByteArray.mk (c :: r).toArray)[(x + 1).toNat]'(by rw [hsz, hlen]; omega)).toNat : Int) = 45 := by rw [hb, h45]; rfl
                    subst h45
                    have e2 : (ByteArray.mk (c :: r).toArray).extract (x + 2).toNat (r.length + 1) = ⟨((c :: r).drop (a + 2)).toArray⟩ := ext_drop HX2.out (show (c :: r).length = r.length + 1 from rfl) 2 rfl
                    have d2 := fun w => digits_same ((c :: r).drop (a + 2)) (by rw [List.length_drop]; omega) w
                    rw [← e2] at d2
                    obtain ⟨m, hm⟩ : ∃ m, digitsP ((c :: r).drop (a + 2)) = m := ⟨_, rfl⟩
                    have hmb := digits_small ((c :: r).drop (a + 2))
                    rw [hm] at d2 hmb
                    have HM := Lib.hid hm
                    obtain ⟨hm1, hm2⟩ := hmb
                    clear hm e2
                    go_wp2_with fail
                    (with_reducible refine (d2 _).mono ?_); rintro e w' ⟨rfl, rfl⟩
                    clear d2
                    go_wp2
                    have GE := guess_minus HA.out HKK.out HP.out HN.out HBL.out HM.out
                    rw [if_neg hk4] at GE
                    rw [GE]
                    exact bodyPost_ret (v := .agg #[.int .i64 kk, .int .i64 n, .int .i64 (-m)]) (by simp [results, Tryd.results30, x0, x1, x2, go_sem]) rfl ⟨rfl, (((((HB.out.setCell (by simp) _).setCell (by simp) _).setCell (by simp) _).setCell (by simp) _).setCell (by simp) _)⟩
                  · have q45 : ((((ByteArray.mk (c :: r).toArray)[(x + 1).toNat]'(by rw [hsz, hlen]; omega)).toNat : Int) == 45) = false := by rw [hb]; exact u8_not45 h45
                    clear hb
                    have hlt : x < (r.length : Int) + 1 := by omega
                    have e2 : (ByteArray.mk (c :: r).toArray).extract (x + 1).toNat (r.length + 1) = ⟨((c :: r).drop (a + 1)).toArray⟩ := ext_drop HX2.out (show (c :: r).length = r.length + 1 from rfl) 1 rfl
                    have d2 := fun w => digits_same ((c :: r).drop (a + 1)) (by rw [List.length_drop]; omega) w
                    rw [← e2] at d2
                    obtain ⟨m, hm⟩ : ∃ m, digitsP ((c :: r).drop (a + 1)) = m := ⟨_, rfl⟩
                    have hmb := digits_small ((c :: r).drop (a + 1))
                    rw [hm] at d2 hmb
                    have HM := Lib.hid hm
                    obtain ⟨hm1, hm2⟩ := hmb
                    clear hm e2
                    go_wp2_with fail
                    (with_reducible refine (d2 _).mono ?_); rintro e w' ⟨rfl, rfl⟩
                    clear d2
                    go_wp2
                    have hax := HX2.out
                    have GE := guess_plus HA.out HKK.out HP.out HN.out (fun e => h45 (by rw [HBL.out] at e; injection e)) (by rw [hlen]; omega) HM.out
                    rw [if_neg hk4] at GE
                    rw [GE]
                    exact bodyPost_ret (v := .agg #[.int .i64 kk, .int .i64 n, .int .i64 (m)]) (by simp [results, Tryd.results30, x0, x1, x2, go_sem]) rfl ⟨rfl, (((((HB.out.setCell (by simp) _).setCell (by simp) _).setCell (by simp) _).setCell (by simp) _).setCell (by simp) _)⟩
                · by_cases hlt : x < (r.length : Int) + 1
                  · obtain rfl : x = (r.length : Int) := by omega
                    have e2 : (ByteArray.mk (c :: r).toArray).extract ((r.length : Int) + 1).toNat (r.length + 1) = ⟨((c :: r).drop (a + 1)).toArray⟩ := ext_drop HX2.out (show (c :: r).length = r.length + 1 from rfl) 1 rfl
                    have e3 : (c :: r).drop (a + 1) = [] := List.drop_eq_nil_of_le (by have := HX2.out; rw [hlen]; omega)
                    have d2 : ∀ w, Calls Tryd.prog 49 #[.string ByteArray.empty] w fun e w' => e = .returned (.int .i64 (digitsP [])) ∧ w = w' := fun w => digits_same [] (by simp) w
                    rw [← e3] at d2
                    clear e3
                    obtain ⟨m, hm⟩ : ∃ m, digitsP ((c :: r).drop (a + 1)) = m := ⟨_, rfl⟩
                    have hmb := digits_small ((c :: r).drop (a + 1))
                    rw [hm] at d2 hmb
                    have HM := Lib.hid hm
                    obtain ⟨hm1, hm2⟩ := hmb
                    clear hm e2
                    go_wp2_with fail
                    (with_reducible refine (d2 _).mono ?_); rintro e w' ⟨rfl, rfl⟩
                    clear d2
                    go_wp2
                    have hax := HX2.out
                    have GE := guess_plus HA.out HKK.out HP.out HN.out (fun e => by rw [List.getElem?_eq_none (by rw [hlen]; omega)] at e; cases e) (by rw [hlen]; omega) HM.out
                    rw [if_neg hk4] at GE
                    rw [GE]
                    exact bodyPost_ret (v := .agg #[.int .i64 kk, .int .i64 n, .int .i64 (m)]) (by simp [results, Tryd.results30, x0, x1, x2, go_sem]) rfl ⟨rfl, (((((HB.out.setCell (by simp) _).setCell (by simp) _).setCell (by simp) _).setCell (by simp) _).setCell (by simp) _)⟩
                  · obtain rfl : x = (r.length : Int) + 1 := by omega
                    exact absurd h0 (by omega)
            · have s1 : ∀ w, (Instr.slice 9 (.string ⟨(c :: r).toArray⟩) (some (.int .i64 1)) (some (.int .i64 x)) none).run Tryd.prog w = .ok (.string ⟨p.toArray⟩) w := fun w => by rw [← hp, ← hx, show max a 1 = a by omega]; exact slice_l (c :: r) 1 a (by omega) hal w
              rw [hx]
              clear hp hpl hx hal
              go_wp2_with fail
              (with_reducible refine (d1 _).mono ?_); rintro e w' ⟨rfl, rfl⟩
              clear s1 d1
              obtain ⟨n, hn⟩ : ∃ n, digitsP p = n := ⟨_, rfl⟩
              have HN := Lib.hid hn
              rw [hn]
              clear hn
              by_cases hk4 : kk = 4
              · subst hk4
                by_cases hl2 : x + 1 < (r.length : Int) + 1
                · obtain ⟨b, hb, hbl⟩ := byte_next HX2.out hx0 hl2 (show (c :: r).length = r.length + 1 from rfl)
                  have HBL := Lib.hid hbl
                  clear hbl
                  by_cases h45 : b = 45
                  · have q45 : (((ByteArray.mk (c :: r).toArray)[(x + 1).toNat]'(by rw [hsz, hlen]; omega)).toNat : Int) = 45 := by rw [hb, h45]; rfl
                    subst h45
                    have e2 : (ByteArray.mk (c :: r).toArray).extract (x + 2).toNat (r.length + 1) = ⟨((c :: r).drop (a + 2)).toArray⟩ := ext_drop HX2.out (show (c :: r).length = r.length + 1 from rfl) 2 rfl
                    have d2 := fun w => digits_same ((c :: r).drop (a + 2)) (by rw [List.length_drop]; omega) w
                    rw [← e2] at d2
                    obtain ⟨m, hm⟩ : ∃ m, digitsP ((c :: r).drop (a + 2)) = m := ⟨_, rfl⟩
                    have hmb := digits_small ((c :: r).drop (a + 2))
                    rw [hm] at d2 hmb
                    have HM := Lib.hid hm
                    obtain ⟨hm1, hm2⟩ := hmb
                    clear hm e2
                    go_wp2_with fail
                    (with_reducible refine (d2 _).mono ?_); rintro e w' ⟨rfl, rfl⟩
                    clear d2
                    go_wp2
                    have GE := guess_minus HA.out HKK.out HP.out HN.out HBL.out HM.out
                    rw [if_pos rfl] at GE
                    rw [GE]
                    exact bodyPost_ret (v := .agg #[.int .i64 4, .int .i64 0, .int .i64 (-m)]) (by simp [results, Tryd.results30, x0, x1, x2, go_sem]) rfl ⟨rfl, ((((((HB.out.setCell (by simp) _).setCell (by simp) _).setCell (by simp) _).setCell (by simp) _).setCell (by simp) _).setCell (by simp) _)⟩
                  · have q45 : ((((ByteArray.mk (c :: r).toArray)[(x + 1).toNat]'(by rw [hsz, hlen]; omega)).toNat : Int) == 45) = false := by rw [hb]; exact u8_not45 h45
                    clear hb
                    have hlt : x < (r.length : Int) + 1 := by omega
                    have e2 : (ByteArray.mk (c :: r).toArray).extract (x + 1).toNat (r.length + 1) = ⟨((c :: r).drop (a + 1)).toArray⟩ := ext_drop HX2.out (show (c :: r).length = r.length + 1 from rfl) 1 rfl
                    have d2 := fun w => digits_same ((c :: r).drop (a + 1)) (by rw [List.length_drop]; omega) w
                    rw [← e2] at d2
                    obtain ⟨m, hm⟩ : ∃ m, digitsP ((c :: r).drop (a + 1)) = m := ⟨_, rfl⟩
                    have hmb := digits_small ((c :: r).drop (a + 1))
                    rw [hm] at d2 hmb
                    have HM := Lib.hid hm
                    obtain ⟨hm1, hm2⟩ := hmb
                    clear hm e2
                    go_wp2_with fail
                    (with_reducible refine (d2 _).mono ?_); rintro e w' ⟨rfl, rfl⟩
                    clear d2
                    go_wp2
                    have hax := HX2.out
                    have GE := guess_plus HA.out HKK.out HP.out HN.out (fun e => h45 (by rw [HBL.out] at e; injection e)) (by rw [hlen]; omega) HM.out
                    rw [if_pos rfl] at GE
                    rw [GE]
                    exact bodyPost_ret (v := .agg #[.int .i64 4, .int .i64 0, .int .i64 (m)]) (by simp [results, Tryd.results30, x0, x1, x2, go_sem]) rfl ⟨rfl, ((((((HB.out.setCell (by simp) _).setCell (by simp) _).setCell (by simp) _).setCell (by simp) _).setCell (by simp) _).setCell (by simp) _)⟩
                · by_cases hlt : x < (r.length : Int) + 1
                  · obtain rfl : x = (r.length : Int) := by omega
                    have e2 : (ByteArray.mk (c :: r).toArray).extract ((r.length : Int) + 1).toNat (r.length + 1) = ⟨((c :: r).drop (a + 1)).toArray⟩ := ext_drop HX2.out (show (c :: r).length = r.length + 1 from rfl) 1 rfl
                    have e3 : (c :: r).drop (a + 1) = [] := List.drop_eq_nil_of_le (by have := HX2.out; rw [hlen]; omega)
                    have d2 : ∀ w, Calls Tryd.prog 49 #[.string ByteArray.empty] w fun e w' => e = .returned (.int .i64 (digitsP [])) ∧ w = w' := fun w => digits_same [] (by simp) w
                    rw [← e3] at d2
                    clear e3
                    obtain ⟨m, hm⟩ : ∃ m, digitsP ((c :: r).drop (a + 1)) = m := ⟨_, rfl⟩
                    have hmb := digits_small ((c :: r).drop (a + 1))
                    rw [hm] at d2 hmb
                    have HM := Lib.hid hm
                    obtain ⟨hm1, hm2⟩ := hmb
                    clear hm e2
                    go_wp2_with fail
                    (with_reducible refine (d2 _).mono ?_); rintro e w' ⟨rfl, rfl⟩
                    clear d2
                    go_wp2
                    have hax := HX2.out
                    have GE := guess_plus HA.out HKK.out HP.out HN.out (fun e => by rw [List.getElem?_eq_none (by rw [hlen]; omega)] at e; cases e) (by rw [hlen]; omega) HM.out
                    rw [if_pos rfl] at GE
                    rw [GE]
                    exact bodyPost_ret (v := .agg #[.int .i64 4, .int .i64 0, .int .i64 (m)]) (by simp [results, Tryd.results30, x0, x1, x2, go_sem]) rfl ⟨rfl, ((((((HB.out.setCell (by simp) _).setCell (by simp) _).setCell (by simp) _).setCell (by simp) _).setCell (by simp) _).setCell (by simp) _)⟩
                  · obtain rfl : x = (r.length : Int) + 1 := by omega
                    go_wp2_with fail
                    have hax := HX2.out
                    have GE := guess_none HA.out HKK.out HP.out HN.out (by rw [hlen]; omega)
                    rw [if_pos rfl] at GE
                    rw [GE]
                    exact bodyPost_ret (v := .agg #[.int .i64 4, .int .i64 0, .int .i64 0]) (by simp [results, Tryd.results30, x0, x1, x2, go_sem]) rfl ⟨rfl, (((((HB.out.setCell (by simp) _).setCell (by simp) _).setCell (by simp) _).setCell (by simp) _).setCell (by simp) _)⟩
              · have hk4f : (kk == 4) = false := by simpa using hk4
                by_cases hl2 : x + 1 < (r.length : Int) + 1
                · obtain ⟨b, hb, hbl⟩ := byte_next HX2.out hx0 hl2 (show (c :: r).length = r.length + 1 from rfl)
                  have HBL := Lib.hid hbl
                  clear hbl
                  by_cases h45 : b = 45
                  · have q45 : (((ByteArray.mk (c :: r).toArray)[(x + 1).toNat]'(by rw [hsz, hlen]; omega)).toNat : Int) = 45 := by rw [hb, h45]; rfl
                    subst h45
                    have e2 : (ByteArray.mk (c :: r).toArray).extract (x + 2).toNat (r.length + 1) = ⟨((c :: r).drop (a + 2)).toArray⟩ := ext_drop HX2.out (show (c :: r).length = r.length + 1 from rfl) 2 rfl
                    have d2 := fun w => digits_same ((c :: r).drop (a + 2)) (by rw [List.length_drop]; omega) w
                    rw [← e2] at d2
                    obtain ⟨m, hm⟩ : ∃ m, digitsP ((c :: r).drop (a + 2)) = m := ⟨_, rfl⟩
                    have hmb := digits_small ((c :: r).drop (a + 2))
                    rw [hm] at d2 hmb
                    have HM := Lib.hid hm
                    obtain ⟨hm1, hm2⟩ := hmb
                    clear hm e2
                    go_wp2_with fail
                    (with_reducible refine (d2 _).mono ?_); rintro e w' ⟨rfl, rfl⟩
                    clear d2
                    go_wp2
                    have GE := guess_minus HA.out HKK.out HP.out HN.out HBL.out HM.out
                    rw [if_neg hk4] at GE
                    rw [GE]
                    exact bodyPost_ret (v := .agg #[.int .i64 kk, .int .i64 n, .int .i64 (-m)]) (by simp [results, Tryd.results30, x0, x1, x2, go_sem]) rfl ⟨rfl, (((((HB.out.setCell (by simp) _).setCell (by simp) _).setCell (by simp) _).setCell (by simp) _).setCell (by simp) _)⟩
                  · have q45 : ((((ByteArray.mk (c :: r).toArray)[(x + 1).toNat]'(by rw [hsz, hlen]; omega)).toNat : Int) == 45) = false := by rw [hb]; exact u8_not45 h45
                    clear hb
                    have hlt : x < (r.length : Int) + 1 := by omega
                    have e2 : (ByteArray.mk (c :: r).toArray).extract (x + 1).toNat (r.length + 1) = ⟨((c :: r).drop (a + 1)).toArray⟩ := ext_drop HX2.out (show (c :: r).length = r.length + 1 from rfl) 1 rfl
                    have d2 := fun w => digits_same ((c :: r).drop (a + 1)) (by rw [List.length_drop]; omega) w
                    rw [← e2] at d2
                    obtain ⟨m, hm⟩ : ∃ m, digitsP ((c :: r).drop (a + 1)) = m := ⟨_, rfl⟩
                    have hmb := digits_small ((c :: r).drop (a + 1))
                    rw [hm] at d2 hmb
                    have HM := Lib.hid hm
                    obtain ⟨hm1, hm2⟩ := hmb
                    clear hm e2
                    go_wp2_with fail
                    (with_reducible refine (d2 _).mono ?_); rintro e w' ⟨rfl, rfl⟩
                    clear d2
                    go_wp2
                    have hax := HX2.out
                    have GE := guess_plus HA.out HKK.out HP.out HN.out (fun e => h45 (by rw [HBL.out] at e; injection e)) (by rw [hlen]; omega) HM.out
                    rw [if_neg hk4] at GE
                    rw [GE]
                    exact bodyPost_ret (v := .agg #[.int .i64 kk, .int .i64 n, .int .i64 (m)]) (by simp [results, Tryd.results30, x0, x1, x2, go_sem]) rfl ⟨rfl, (((((HB.out.setCell (by simp) _).setCell (by simp) _).setCell (by simp) _).setCell (by simp) _).setCell (by simp) _)⟩
                · by_cases hlt : x < (r.length : Int) + 1
                  · obtain rfl : x = (r.length : Int) := by omega
                    have e2 : (ByteArray.mk (c :: r).toArray).extract ((r.length : Int) + 1).toNat (r.length + 1) = ⟨((c :: r).drop (a + 1)).toArray⟩ := ext_drop HX2.out (show (c :: r).length = r.length + 1 from rfl) 1 rfl
                    have e3 : (c :: r).drop (a + 1) = [] := List.drop_eq_nil_of_le (by have := HX2.out; rw [hlen]; omega)
                    have d2 : ∀ w, Calls Tryd.prog 49 #[.string ByteArray.empty] w fun e w' => e = .returned (.int .i64 (digitsP [])) ∧ w = w' := fun w => digits_same [] (by simp) w
                    rw [← e3] at d2
                    clear e3
                    obtain ⟨m, hm⟩ : ∃ m, digitsP ((c :: r).drop (a + 1)) = m := ⟨_, rfl⟩
                    have hmb := digits_small ((c :: r).drop (a + 1))
                    rw [hm] at d2 hmb
                    have HM := Lib.hid hm
                    obtain ⟨hm1, hm2⟩ := hmb
                    clear hm e2
                    go_wp2_with fail
                    (with_reducible refine (d2 _).mono ?_); rintro e w' ⟨rfl, rfl⟩
                    clear d2
                    go_wp2
                    have hax := HX2.out
                    have GE := guess_plus HA.out HKK.out HP.out HN.out (fun e => by rw [List.getElem?_eq_none (by rw [hlen]; omega)] at e; cases e) (by rw [hlen]; omega) HM.out
                    rw [if_neg hk4] at GE
                    rw [GE]
                    exact bodyPost_ret (v := .agg #[.int .i64 kk, .int .i64 n, .int .i64 (m)]) (by simp [results, Tryd.results30, x0, x1, x2, go_sem]) rfl ⟨rfl, (((((HB.out.setCell (by simp) _).setCell (by simp) _).setCell (by simp) _).setCell (by simp) _).setCell (by simp) _)⟩
                  · obtain rfl : x = (r.length : Int) + 1 := by omega
                    go_wp2_with fail
                    have hax := HX2.out
                    have GE := guess_none HA.out HKK.out HP.out HN.out (by rw [hlen]; omega)
                    rw [if_neg hk4] at GE
                    rw [GE]
                    exact bodyPost_ret (v := .agg #[.int .i64 kk, .int .i64 n, .int .i64 0]) (by simp [results, Tryd.results30, x0, x1, x2, go_sem]) rfl ⟨rfl, ((((HB.out.setCell (by simp) _).setCell (by simp) _).setCell (by simp) _).setCell (by simp) _)⟩
          | succ j =>
            obtain ⟨d, hd⟩ : ∃ d, (c :: r)[j]? = some d := ⟨_, List.getElem?_eq_getElem (by omega)⟩
            have he := eqFrom_step hd
            have hdb := byte_at hd (by rw [hsz]; omega)
            have HE := Lib.hid he
            have ej : ((j + 1 : Nat) : Int) - 1 = j := by omega
            rw [ej]
            clear he hd ej
            by_cases h61 : d = 61
            · subst h61
              have q61 : (((ByteArray.mk (c :: r).toArray)[j]'(by rw [hsz]; omega)).toNat : Int) = 61 := by rw [hdb]; rfl
              clear hdb
              go_wp2_with fail
              go_round
              case rel => exact ⟨j, by omega, rfl, by rw [HE.out]; rfl⟩
              case measure => first | (simp [intOf]; done) | (simp [intOf]; omega)
            · have q61 : ((((ByteArray.mk (c :: r).toArray)[j]'(by rw [hsz]; omega)).toNat : Int) == 61) = false := by rw [hdb]; exact u8_not61 h61
              clear hdb
              go_wp2_with fail
              go_round
              case rel => exact ⟨j, by omega, rfl, by rw [HE.out, if_neg h61]⟩
              case measure => first | (simp [intOf]; done) | (simp [intOf]; omega)
end Go.Proofs.YtfjeheioglmalaaDoor
