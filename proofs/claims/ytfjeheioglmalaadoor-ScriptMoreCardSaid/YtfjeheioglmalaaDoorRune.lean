/- IndexRune at a rune beyond ASCII, of the letters. -/
import Derived.Test.YtfjeheioglmalaaDoorScan
import Derived.Test.YtfjeheioglmalaaDoorShelf
import Derived.Scope
import Derived.LoopN
namespace Go.Proofs.YtfjeheioglmalaaDoor
open Go.RowKit Go.Lib
theorem letters_next (w : World) (pos : Nat) (h : pos < 5) : ∃ c : Int, c ≠ 65533 ∧ ∀ ty, (Instr.next (.pointer (some ⟨w.heap.size, 0, none⟩)) true ty).run Tryd.prog (w.iter ⟨#[32, 76, 83, 88, 70]⟩ pos) = .ok (.tuple #[.bool true, .int .i64 pos, .int .i32 c]) (w.iter ⟨#[32, 76, 83, 88, 70]⟩ (pos + 1)) := by
  have key : ∀ q, (hq : q < 5) → ((ByteArray.mk #[32, 76, 83, 88, 70])[q]'hq).toNat < 128 := by decide
  refine ⟨_, ?_, fun ty => run_next_ascii w ⟨#[32, 76, 83, 88, 70]⟩ pos ty h (key pos h)⟩
  have := key pos h
  omega
theorem high_ne {a b : UInt8} (h : 128 ≤ b.toNat) (ha : a.toNat < 128 := by decide) : ((a.toNat : Int) != (b.toNat : Int)) = true := by
  simp; omega
theorem quiet_more {P : Program} {f : FuncId} {args : Array Value} {w : World} {a n : Nat} {v : Value} (c : ∀ W : World, Calls P f args W fun e w' => e = .returned v ∧ w' = W) :
    Calls P f args (w.drewN (a + n)) fun e w'' => e = .returned v ∧ ∃ m, w'' = w.drewN (a + m) :=
  (c _).mono fun _ _ ⟨he, hm⟩ => ⟨he, n, hm⟩
theorem indexByte_none (l : List UInt8) (c : UInt8) (h : ∀ b ∈ l, b ≠ c) : Lib.indexByte l c = -1 := by
  induction l with
  | nil => rfl
  | cons b l ih =>
    have h1 : (b == c) = false := by simpa using h b List.mem_cons_self
    rw [Lib.indexByte, if_neg (by simp [h1]), ih (fun x hx => h x (List.mem_cons_of_mem _ hx))]
    rfl
theorem ib_high (i : Nat) (b : UInt8) (hb : 128 ≤ b.toNat) (W : World) : Calls Tryd.prog 59 #[.string ((ByteArray.mk #[32, 76, 83, 88, 70]).extract i 5), .int .u8 (b.toNat : Int)] W fun e w' => e = .returned (.int .i64 (-1)) ∧ w' = W := by
  refine (Tryd.strings_IndexByte _ _ W).mono ?_
  rintro e w' ⟨rfl, rfl⟩
  refine ⟨ret_int (indexByte_none _ _ ?_), rfl⟩
  have eb : ((b.toNat : Int).toNat).toUInt8 = b := by
    rw [Int.toNat_natCast]
    exact UInt8.ofNat_toNat
  rw [eb, ByteArray.extract_mk [32, 76, 83, 88, 70] i 5]
  intro x hx e
  have hx' : x ∈ ([32, 76, 83, 88, 70] : List UInt8) := List.mem_of_mem_drop (List.mem_of_mem_take hx)
  have : ∀ y ∈ ([32, 76, 83, 88, 70] : List UInt8), y.toNat < 128 := by decide
  have := this x hx'
  rw [e] at this
  omega
theorem valid_of {r : Int} (h : Lib.validRune r = true) : Utf8.valid r = true := by
  unfold Lib.validRune at h
  unfold Utf8.valid
  simp only [decide_eq_true_eq] at h
  simp only [Bool.or_eq_true, Bool.and_eq_true, decide_eq_true_eq]
  omega
set_option maxRecDepth 100000 in
set_option maxHeartbeats 1000000 in
theorem rune_high (r : Int) (h0 : 128 ≤ r) (h1 : r ≤ 2147483647) (w : World) : Calls Tryd.prog 48 #[.string ⟨#[32, 76, 83, 88, 70]⟩, .int .i32 r] w fun e w' => e = .returned (.int .i64 (-1)) ∧ Below w.heap.size w w' := by
  by_cases hf : r = 65533
  · subst hf
    go_enter Tryd.func48, Tryd.ntmps48
    go_wp2_with fail
    go_loopw [5, 6] (fun _ _ wr => ∃ pos : Nat, pos ≤ 5 ∧ wr = w.iter ⟨#[32, 76, 83, 88, 70]⟩ pos) (fun _ _ wr => 5 - wr.iterPos w.heap.size)
    case atStart => exact ⟨0, by omega, rfl⟩
    case round =>
      obtain ⟨pos, hp, rfl⟩ := hrel
      by_cases hlt : pos < 5
      · have hx : ∃ c : Int, c ≠ 65533 ∧ ∀ ty, (Instr.next (.pointer (some ⟨w.heap.size, 0, none⟩)) true ty).run Tryd.prog (w.iter ⟨#[32, 76, 83, 88, 70]⟩ pos) = .ok (.tuple #[.bool true, .int .i64 pos, .int .i32 c]) (w.iter ⟨#[32, 76, 83, 88, 70]⟩ (pos + 1)) := letters_next w pos hlt
        obtain ⟨c, hc, hnx⟩ := hx
        go_wp2_with fail
        go_roundw
        case rel => exact ⟨pos + 1, by omega, rfl⟩
        case measure => simp; omega
      · have hnx : ∀ ty, (Instr.next (.pointer (some ⟨w.heap.size, 0, none⟩)) true ty).run Tryd.prog (w.iter ⟨#[32, 76, 83, 88, 70]⟩ pos) = _ := fun ty => run_next_end w _ pos ty hlt
        go_wp2_with fail
        go_ret
        exact ⟨rfl, (Below.refl _ _).alloc (Nat.le_refl _) _⟩
  · cases hv : Lib.validRune r with
    | false =>
      have hn : ¬ r = 65533 := hf
      go_enter Tryd.func48, Tryd.ntmps48
      go_wp2_with fail
      refine (Tryd.utf8_ValidRune r _).mono ?_; rw [hv]; rintro e w' ⟨rfl, rfl⟩
      go_wp2
      go_ret
      exact ⟨rfl, Below.refl _ _⟩
    | true =>
      have hn : ¬ r = 65533 := hf
      obtain ⟨e1, e2, e3⟩ := encode_facts r (valid_of hv) h0
      obtain ⟨E, hE⟩ : ∃ E, Utf8.encode r = E := ⟨_, rfl⟩
      rw [hE] at e1 e2 e3
      have HE := Lib.hid hE
      have e3' : ∀ i, (h : E.size = i + 1) → 128 ≤ (E[i]'(by omega)).toNat := fun i h => by
        have := e3 (by omega)
        simp only [h, Nat.add_sub_cancel] at this
        exact this
      clear e3
      go_enter Tryd.func48, Tryd.ntmps48
      go_wp2_with fail
      refine (Tryd.utf8_ValidRune r _).mono ?_; rw [hv]; rintro e w' ⟨rfl, rfl⟩
      obtain hs | hs | hs : E.size = 2 ∨ E.size = 3 ∨ E.size = 4 := by omega
      · have hq : ((((ByteArray.mk #[32, 76, 83, 88, 70])[1]'(by decide)).toNat : Int) != ((E[1]'(by omega)).toNat : Int)) = true := high_ne (e3' 1 hs)
        have hc := ib_high 2 (E[1]'(by omega)) (e3' 1 hs)
        clear e1 e2 e3'
        go_wp2_with fail
        refine wp_scope_straight ?_
        go_wp2_with fail
        refine wp_loop_rounds 1 ?_
        rw [rounds_succ]
        go_wp2_with fail
        refine wp_scope_straight ?_
        go_wp2_with fail
        go_quiet (fail)
        go_wp2_with fail
        go_quiet ((go_at_call 59; exact quiet_more hc))
        clear hc
        go_wp2
        simp only [Exit.noGoto_ret, Exit.inBlock, Exit.then]
        go_ways
        go_ret
        exact ⟨rfl, ⟨rfl, rfl, rfl, Nat.le_refl _, fun _ _ => rfl⟩⟩
      · have hq : ((((ByteArray.mk #[32, 76, 83, 88, 70])[2]'(by decide)).toNat : Int) != ((E[2]'(by omega)).toNat : Int)) = true := high_ne (e3' 2 hs)
        have hc := ib_high 3 (E[2]'(by omega)) (e3' 2 hs)
        clear e1 e2 e3'
        go_wp2_with fail
        refine wp_scope_straight ?_
        go_wp2_with fail
        refine wp_loop_rounds 1 ?_
        rw [rounds_succ]
        go_wp2_with fail
        refine wp_scope_straight ?_
        go_wp2_with fail
        go_quiet (fail)
        go_wp2_with fail
        go_quiet ((go_at_call 59; exact quiet_more hc))
        clear hc
        go_wp2
        simp only [Exit.noGoto_ret, Exit.inBlock, Exit.then]
        go_ways
        go_ret
        exact ⟨rfl, ⟨rfl, rfl, rfl, Nat.le_refl _, fun _ _ => rfl⟩⟩
      · have hq : ((((ByteArray.mk #[32, 76, 83, 88, 70])[3]'(by decide)).toNat : Int) != ((E[3]'(by omega)).toNat : Int)) = true := high_ne (e3' 3 hs)
        have hc := ib_high 4 (E[3]'(by omega)) (e3' 3 hs)
        clear e1 e2 e3'
        go_wp2_with fail
        refine wp_scope_straight ?_
        go_wp2_with fail
        refine wp_loop_rounds 1 ?_
        rw [rounds_succ]
        go_wp2_with fail
        refine wp_scope_straight ?_
        go_wp2_with fail
        go_quiet (fail)
        go_wp2_with fail
        go_quiet ((go_at_call 59; exact quiet_more hc))
        clear hc
        go_wp2
        simp only [Exit.noGoto_ret, Exit.inBlock, Exit.then]
        go_ways
        go_ret
        exact ⟨rfl, ⟨rfl, rfl, rfl, Nat.le_refl _, fun _ _ => rfl⟩⟩
end Go.Proofs.YtfjeheioglmalaaDoor
