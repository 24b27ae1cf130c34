/- The small functions of package script and of its reference. A call's end where a result lies in a box. The sizes of 13 bytes. -/
import Derived.Test.YtfjeheioglmalaaDoorScr
import Derived.Test.YtfjeheioglmalaaDoorPower
import Derived.Laws.IdiomStrings
import Derived.Test.YtfjeheioglmalaaDoorDigits
import Derived.StillTailTactics
namespace Go.Proofs.YtfjeheioglmalaaDoor
open Go.RowKit Go.Lib
set_option linter.unusedVariables false
set_option linter.unusedSimpArgs false
theorem pw_walk (b : UInt8) (w : World) : Calls Tryd.prog 58 #[.int .u8 b.toNat] w fun e w' => e = .returned (.int .i64 (pow2 b)) ∧ w = w' := by
  unfold pow2
  obtain ⟨n, hn⟩ : ∃ n, b.toNat = n := ⟨_, rfl⟩
  rw [hn]
  clear hn
  by_cases h : 20 < n
  · have h' : (20 : Int) < n := by omega
    rw [if_pos h]
    go_enter Tryd.func58, Tryd.ntmps58
    go_wp2_with fail
    go_ret
    exact ⟨rfl, rfl⟩
  · have h' : ¬ (20 : Int) < n := by omega
    rw [if_neg h]
    go_enter Tryd.func58, Tryd.ntmps58
    go_wp2_with fail
    go_ret
    have key : ∀ k : Fin 21, (0 : Int) ≤ 2 ^ k.val ∧ (2 : Int) ^ k.val ≤ 1048576 := by decide +kernel
    have hk := key ⟨n, by omega⟩
    simp only at hk
    have hw : wrap64 (2 ^ n) = 2 ^ n := IntWalk.wrap64_in _ (by omega)
    exact ⟨congrArg (fun z => Ending.returned (Value.int IntKind.i64 z)) hw, rfl⟩
theorem lg_in {n : Int} (h : isPow n = true) : 1 ≤ n ∧ n ≤ 1024 ∧ 0 ≤ lg n ∧ lg n ≤ 10 := by
  unfold isPow at h
  unfold lg
  cases hq : powLog n with
  | none => rw [hq] at h; cases h
  | some m =>
    obtain ⟨hm, rfl⟩ := powLog_some hq
    have key : ∀ m : Fin 11, (1 : Int) ≤ 2 ^ m.val ∧ (2 : Int) ^ m.val ≤ 1024 := by decide +kernel
    have := key ⟨m, hm⟩
    simp only at this
    simp only [Option.getD_some]
    omega
set_option maxRecDepth 100000 in
theorem bit_walk (n : Int) (h : isPow n = true) (w : World) : Calls Tryd.prog 38 #[.int .i64 n] w fun e w' => e = .returned (.int .u8 (byteOf (lg n)).toNat) ∧ w = w' := by
  obtain ⟨h0, h1, h2, h3⟩ := lg_in h
  have hP := Lib.hid (power_walk n (by omega) (by omega) w)
  have hby := byteOf_in h2 (by omega)
  go_enter Tryd.func38, Tryd.ntmps38
  go_wp2_with fail
  refine hP.out.mono ?_
  rintro e w' ⟨k, b, rfl, rfl, _, hk⟩
  obtain ⟨rfl, rfl⟩ := hk h0 h1
  go_wp2_with fail
  go_ret
  exact ⟨by rw [hby]; rfl, rfl⟩
theorem byteOf_mod (n : Int) : ((byteOf n).toNat : Int) = n % 256 := by
  unfold byteOf
  rw [UInt8.toNat_ofNat']
  omega
theorem one_conv (n : Int) (w : World) : (convert 57 9 (.slice (some ⟨w.heap.size, 0, none⟩) 1 1)).run Tryd.prog (w.alloc (.cells #[.int .u8 (n % 256)] 5)) = .ok (.string ⟨#[byteOf n]⟩) (w.alloc (.cells #[.int .u8 (n % 256)] 5)) :=
  run_convert_bytes_back (w.alloc (.cells #[.int .u8 (n % 256)] 5)) 57 9 5 ⟨w.heap.size, 0, none⟩ 1 [byteOf n] Tryd.underlying57 Tryd.underlying5 Tryd.underlying9 (by
    intro j hj
    obtain rfl : j = 0 := by simpa using hj
    rw [Addr.add_mid, Nat.zero_add, cell_of_row _ w.heap.size 0 _ 5 _ (heap_alloc_new w _)]
    simp [byteOf_mod])
set_option maxRecDepth 100000 in
theorem one_walk (n : Int) (w : World) : Calls Tryd.prog 41 #[.int .i64 n] w fun e w' => e = .returned (.string ⟨([byteOf n] : List UInt8).toArray⟩) ∧ Below w.heap.size w w' := by
  have hc := one_conv n w
  go_enter Tryd.func41, Tryd.ntmps41
  go_wp2_with fail
  go_ret
  exact ⟨rfl, (Below.refl _ _).alloc (Nat.le_refl _) _⟩
set_option maxRecDepth 100000 in
theorem bits_walk (n : Int) (h : isPow n = true) (w : World) : Calls Tryd.prog 42 #[.int .i64 n] w fun e w' => e = .returned (.string ⟨([byteOf (lg n)] : List UInt8).toArray⟩) ∧ Below w.heap.size w w' := by
  obtain ⟨h0, h1, h2, h3⟩ := lg_in h
  have hP := Lib.hid (rpower_walk n w)
  have hO := Lib.hid (fun W => one_walk (lg n) W)
  go_enter Tryd.func42, Tryd.ntmps42
  go_wp2_with fail
  refine hP.out.mono ?_
  rintro e w' ⟨k, b, rfl, rfl, _, hk⟩
  obtain ⟨rfl, rfl⟩ := hk h0 h1
  go_wp2_with fail
  refine (hO.out _).mono ?_
  rintro e w2 ⟨rfl, hb⟩
  have HB := Lib.hid hb
  clear hb
  go_wp2_with fail
  go_ret
  exact ⟨rfl, HB.out⟩
end Go.Proofs.YtfjeheioglmalaaDoor
namespace Go.Proofs.YtfjeheioglmalaaDoor
open Go.RowKit Go.Lib
section
variable {P : Program}
theorem results_cell {fn : Func} {p : Tmp} {ty : TypeId} (h : fn.results = #[.cell p ty]) (tmps : Array Value) (w : World) (g : Nat) (t : TypeId) (cs : Array Value) (fr : Nat × Nat) (d : TypeDesc)
    (hp : tmps.getD p undef = .pointer (some ⟨g, 0, none⟩)) (hg : w.heap[g]? = some (.cells cs t fr))
    (hu : P.underlying ty = some d) (hd : (match d with | .struct _ | .array _ _ => true | _ => false) = true) (hi : (P.info? ty).map (·.size) = some cs.size) :
    (results fn tmps).run P w = .ok (.agg cs) w := by
  have hp' : tmps[p]?.getD undef = .pointer (some ⟨g, 0, none⟩) := by simpa using hp
  simp [results, h, hp', asAddr, run_loadVar_row w g t ty cs fr d hg hu hd hi]
theorem ret_cell {fn : Func} {p : Tmp} {ty : TypeId} (h : fn.results = #[.cell p ty]) {R : Ending → World → Prop} {a : Act} {w : World} (g : Nat) (t : TypeId) (cs : Array Value) (fr : Nat × Nat) (d : TypeDesc)
    (hp : a.tmps.getD p undef = .pointer (some ⟨g, 0, none⟩)) (hg : w.heap[g]? = some (.cells cs t fr))
    (hu : P.underlying ty = some d) (hd : (match d with | .struct _ | .array _ _ => true | _ => false) = true) (hi : (P.info? ty).map (·.size) = some cs.size)
    (hda : a.defers = []) (hR : R (.returned (.agg cs)) w) : bodyPost P fn R .ret a w :=
  ⟨hda, _, results_cell h a.tmps w g t cs fr d hp hg hu hd hi, hR⟩
theorem results_cell_tmp {fn : Func} {p q : Tmp} {ty : TypeId} (h : fn.results = #[.cell p ty, .tmp q]) (tmps : Array Value) (w : World) (g : Nat) (t : TypeId) (cs : Array Value) (fr : Nat × Nat) (d : TypeDesc)
    (hp : tmps.getD p undef = .pointer (some ⟨g, 0, none⟩)) (hg : w.heap[g]? = some (.cells cs t fr))
    (hu : P.underlying ty = some d) (hd : (match d with | .struct _ | .array _ _ => true | _ => false) = true) (hi : (P.info? ty).map (·.size) = some cs.size) :
    (results fn tmps).run P w = .ok (.tuple #[.agg cs, tmps.getD q undef]) w := by
  have hp' : tmps[p]?.getD undef = .pointer (some ⟨g, 0, none⟩) := by simpa using hp
  simp [results, h, hp', asAddr, run_loadVar_row w g t ty cs fr d hg hu hd hi]
theorem ret_cell_tmp {fn : Func} {p q : Tmp} {ty : TypeId} (h : fn.results = #[.cell p ty, .tmp q]) {R : Ending → World → Prop} {a : Act} {w : World} (g : Nat) (t : TypeId) (cs : Array Value) (fr : Nat × Nat) (d : TypeDesc) (u : Value)
    (hp : a.tmps.getD p undef = .pointer (some ⟨g, 0, none⟩)) (hq : a.tmps.getD q undef = u) (hg : w.heap[g]? = some (.cells cs t fr))
    (hu : P.underlying ty = some d) (hd : (match d with | .struct _ | .array _ _ => true | _ => false) = true) (hi : (P.info? ty).map (·.size) = some cs.size)
    (hda : a.defers = []) (hR : R (.returned (.tuple #[.agg cs, u])) w) : bodyPost P fn R .ret a w :=
  ⟨hda, _, results_cell_tmp h a.tmps w g t cs fr d hp hg hu hd hi, by rw [hq]; exact hR⟩
end
end Go.Proofs.YtfjeheioglmalaaDoor
namespace Go.Proofs.YtfjeheioglmalaaDoor
open Go.RowKit Go.Lib
set_option linter.unusedVariables false
set_option linter.unusedSimpArgs false
theorem cfg_one (c : Cfg) : c.arr.all (·.oneCell') = true := by simp [Cfg.arr, Value.oneCell']
theorem wrap_byte (x : UInt8) : IntKind.i64.wrap (x.toNat : Int) = x.toNat := IntWalk.i64_in _ (by have := x.toNat_lt; omega)
theorem pw_same (b : UInt8) (w : World) : Calls Tryd.prog 58 #[.int .u8 b.toNat] w fun e w' => e = .returned (.int .i64 (pow2 b)) ∧ w' = w :=
  (pw_walk b w).mono fun _ _ ⟨a, b⟩ => ⟨a, b.symm⟩
set_option maxRecDepth 100000 in
theorem conf_walk (b : List UInt8) (h : ¬ b.length < 13) (hl : b.length ≤ 9223372036854775807) (w : World) : Calls Tryd.prog 43 #[.string ⟨b.toArray⟩] w fun e w' => e = .returned (cfgP b).val ∧ Below w.heap.size w w' := by
  have hsz : (ByteArray.mk b.toArray).size = b.length := by simp [ByteArray.size]
  have hb : ∀ k : Nat, k < 13 → ∃ hk : k < (ByteArray.mk b.toArray).size, (ByteArray.mk b.toArray)[k]'hk = b.getD k 0 := by
    intro k hk
    refine ⟨by rw [hsz]; omega, byte_at ?_ (by rw [hsz]; omega)⟩
    rw [List.getD_eq_getElem?_getD, List.getElem?_eq_getElem (by omega)]
    rfl
  have hz0 : 0 < b.length := by omega
  have hz1 : 1 < b.length := by omega
  have hi1 : (1 : Int) < b.length := by omega
  have hz2 : 2 < b.length := by omega
  have hi2 : (2 : Int) < b.length := by omega
  have hz3 : 3 < b.length := by omega
  have hi3 : (3 : Int) < b.length := by omega
  have hz4 : 4 < b.length := by omega
  have hi4 : (4 : Int) < b.length := by omega
  have hz5 : 5 < b.length := by omega
  have hi5 : (5 : Int) < b.length := by omega
  have hz6 : 6 < b.length := by omega
  have hi6 : (6 : Int) < b.length := by omega
  have hz7 : 7 < b.length := by omega
  have hi7 : (7 : Int) < b.length := by omega
  have hz8 : 8 < b.length := by omega
  have hi8 : (8 : Int) < b.length := by omega
  have hz9 : 9 < b.length := by omega
  have hi9 : (9 : Int) < b.length := by omega
  have hz10 : 10 < b.length := by omega
  have hi10 : (10 : Int) < b.length := by omega
  have hz11 : 11 < b.length := by omega
  have hi11 : (11 : Int) < b.length := by omega
  have hz12 : 12 < b.length := by omega
  have hi12 : (12 : Int) < b.length := by omega
  go_enter Tryd.func43, Tryd.ntmps43
  go_wp2_with fail
  obtain ⟨W, hW, hWB, hWN⟩ : ∃ W, w.alloc (.cells #[.int .i64 0, .int .i64 0, .int .i64 0, .int .i64 0, .int .i64 0, .int .i64 0, .int .i64 0, .int .i64 0, .int .i64 0, .int .i64 0, .int .i64 0, .int .i64 0, .int .i64 0] 31) = W ∧ Below w.heap.size w W ∧ W.heap[w.heap.size]? = some (.cells #[.int .i64 0, .int .i64 0, .int .i64 0, .int .i64 0, .int .i64 0, .int .i64 0, .int .i64 0, .int .i64 0, .int .i64 0, .int .i64 0, .int .i64 0, .int .i64 0, .int .i64 0] 31 (0, 0)) :=
    ⟨_, rfl, (Below.refl _ _).alloc (Nat.le_refl _) _, heap_alloc_new w _⟩
  rw [hW]
  clear hW
  have HW := Lib.hid hWB
  have HN := Lib.hid hWN
  have HC := Lib.hid hb
  clear hWB hWN hb
  refine wp_region_still_tail 41 (by kernel_rfl) (by kernel_rfl) ?_
  simp only [List.take_succ_cons, List.take_zero, List.drop_succ_cons, List.drop_zero]
  repeat still_step
  still_call (pw_same _ _)
  repeat still_step
  still_call (pw_same _ _)
  repeat still_step
  still_call (pw_same _ _)
  repeat still_step
  still_call (pw_same _ _)
  repeat still_step
  refine wpStill_nil ?_
  refine wpList_store_new rfl 31 (.tmp 2) (.tmp 43) rfl w.heap.size (cfgP b).arr rfl ?hy 31 _ HN.out Tryd.size31 rfl (cfg_one _) w.heap.size (Nat.le_refl _) ?_
  case hy =>
    refine Eq.trans (b := Value.agg _) rfl ?_
    have e0 := (HC.out 0 (by omega)).2
    have e1 := (HC.out 1 (by omega)).2
    have e2 := (HC.out 2 (by omega)).2
    have e3 := (HC.out 3 (by omega)).2
    have e4 := (HC.out 4 (by omega)).2
    have e5 := (HC.out 5 (by omega)).2
    have e6 := (HC.out 6 (by omega)).2
    have e7 := (HC.out 7 (by omega)).2
    have e8 := (HC.out 8 (by omega)).2
    have e9 := (HC.out 9 (by omega)).2
    have e10 := (HC.out 10 (by omega)).2
    have e11 := (HC.out 11 (by omega)).2
    have e12 := (HC.out 12 (by omega)).2
    simp only [e0, e1, e2, e3, e4, e5, e6, e7, e8, e9, e10, e11, e12, wrap_byte]
    rfl
  intro w2 hx2 hb2
  have HX2 := Lib.hid hx2
  have HB2 := Lib.hid (HW.out.trans (show Below w.heap.size W w2 from ⟨hb2.os, hb2.tape, hb2.output, hb2.size, hb2.block⟩))
  clear hx2 hb2
  go_wp2_with fail
  refine ret_cell (p := 2) (ty := 31) rfl w.heap.size 31 _ _ _ rfl HX2.out Tryd.underlying31 rfl Tryd.size31 rfl ⟨rfl, HB2.out⟩
end Go.Proofs.YtfjeheioglmalaaDoor
