/- Arguments of the laws of this seat, opened: machines' sizes, operations, slices of operations. -/
import Derived.Test.YtfjeheioglmalaaDoorKit
import Derived.Test.YtfjeheioglmalaaDoorCheck
import Derived.Deep.Slices
import Derived.Deep.Fields
namespace Go.Proofs.YtfjeheioglmalaaDoor
open Go.ChangeShapes Go.WideShapes Go.ChangeAt Go.RowKit Go.Deep
set_option linter.unusedVariables false
theorem opsIn_none (w : World) (A : Option Addr) : OpsIn w A [] := fun i x h => by simp at h
theorem Tryd.cells3 : Tryd.prog.cellsOf 3 = 1 := by kernel_rfl
theorem Tryd.cells29 : Tryd.prog.cellsOf 29 = 3 := by kernel_rfl
theorem Tryd.cells31 : Tryd.prog.cellsOf 31 = 13 := by kernel_rfl
theorem Tryd.cells33 : Tryd.prog.cellsOf 33 = 3 := by kernel_rfl
section
variable {H : Type} {enc : TypeId × Value → H} {w : World} {base : Nat} {spare : Nat → Bool} {held : Bool}
theorem wf_range {n : Int} (h : (Lit.int .i64 n).wf = true) : -9223372036854775808 ≤ n ∧ n ≤ 9223372036854775807 := by
  have h' : (decide (IntKind.i64.min ≤ n) && decide (n ≤ IntKind.i64.max)) = true := h
  rw [show IntKind.i64.min = -9223372036854775808 by decide, show IntKind.i64.max = 9223372036854775807 by decide] at h'
  simpa using h'
theorem fld {cs : List Value} {f : Field} {i m : Nat} {c : Value} {y : Option (DataW H × List MemPlace)} (h : DataW.trod enc Tryd.prog w base spare held m f.type (List.take (Tryd.prog.cellsOf f.type) (List.drop f.offset cs)) = y) (ht : f.type = 3) (ho : f.offset = i) (hc : cs[i]? = some c) :
    DataW.trod enc Tryd.prog w base spare held m 3 [c] = y := by
  obtain ⟨h1, h2⟩ := List.getElem?_eq_some_iff.1 hc
  rw [ht, ho, Tryd.cells3, List.drop_eq_getElem_cons h1, h2] at h
  exact h
theorem fld3 {cs cs' : List Value} {f : Field} {m : Nat} {y : Option (DataW H × List MemPlace)} (h : DataW.trod enc Tryd.prog w base spare held m f.type (List.take (Tryd.prog.cellsOf f.type) (List.drop f.offset cs)) = y) (ht : f.type = 29) (ho : f.offset = 10) (hc : List.take 3 (List.drop 10 cs) = cs') :
    DataW.trod enc Tryd.prog w base spare held m 29 cs' = y := by
  rw [ht, ho, Tryd.cells29, hc] at h
  exact h
/-- One cell of a datum is an integer. -/
theorem one_int {n : Nat} {c : Value} {y : Option (DataW H × List MemPlace)} (hy : y.isSome = true) (h : DataW.trod enc Tryd.prog w base spare held n 3 [c] = y) : ∃ z : Int, c = .int .i64 z ∧ -9223372036854775808 ≤ z ∧ z ≤ 9223372036854775807 := by
  obtain ⟨y', rfl⟩ := Option.isSome_iff_exists.1 hy
  obtain ⟨z, hz, _, hw⟩ := DataW.trod_int Tryd.underlying3 h
  injection hz with hz
  exact ⟨z, hz, wf_range hw⟩
theorem at_some {α : Type} {l : List α} {i : Nat} (h : i < l.length) : (l[i]?).isSome = true := by rw [List.getElem?_eq_getElem h]; rfl
set_option maxRecDepth 100000 in
/-- The three cells of an operation. -/
theorem cells_po {n : Nat} {cs : List Value} {x : DataW H × List MemPlace} (hl : cs.length = 3) (h : DataW.trod enc Tryd.prog w base spare held n 33 cs = some x) : ∃ y : PO, cs = y.arr.toList := by
  match cs, hl with
  | [c0, c1, c2], _ =>
    obtain ⟨xs, m, _, _, _, hxl, hg⟩ := DataW.trod_struct Tryd.underlying33 h
    have hxl' : xs.length = 3 := hxl
    obtain ⟨n0, rfl, _⟩ := one_int (at_some (by omega)) (fld (i := 0) (c := c0) (hg 0 _ rfl) rfl rfl rfl)
    obtain ⟨n1, rfl, _⟩ := one_int (at_some (by omega)) (fld (i := 1) (c := c1) (hg 1 _ rfl) rfl rfl rfl)
    obtain ⟨n2, rfl, _⟩ := one_int (at_some (by omega)) (fld (i := 2) (c := c2) (hg 2 _ rfl) rfl rfl rfl)
    exact ⟨⟨n0, n1, n2⟩, rfl⟩
set_option maxRecDepth 100000 in
theorem open_po {r : Reach} {b0 : Nat} {v : Value} {d : DataW H} {p : List MemPlace} (hv : Value.okWide Tryd.prog w r b0 33 v) (h : DataW.Trod enc Tryd.prog w base spare held 33 v d p) : ∃ y : PO, v = y.val := by
  obtain ⟨cs, rfl, hsz⟩ := okWide_struct Tryd.underlying33 hv
  obtain ⟨fuel, hf⟩ := h
  obtain ⟨l⟩ := cs
  have hl : l.length = 3 := hsz.trans Tryd.cells33
  obtain ⟨y, hy⟩ := cells_po hl (show DataW.trod enc Tryd.prog w base spare held fuel 33 l = some (d, p) from hf)
  exact ⟨y, by rw [hy]; rfl⟩
set_option maxRecDepth 100000 in
/-- The thirteen cells of a machine's sizes. -/
theorem cells_cfg {n : Nat} {cs : List Value} {x : DataW H × List MemPlace} (hl : cs.length = 13) (h : DataW.trod enc Tryd.prog w base spare held n 31 cs = some x) : ∃ c : Cfg, cs = c.arr.toList ∧ c.fine := by
  match cs, hl with
  | [c0, c1, c2, c3, c4, c5, c6, c7, c8, c9, c10, c11, c12], _ =>
    obtain ⟨xs, m, _, _, _, hxl, hg⟩ := DataW.trod_struct Tryd.underlying31 h
    have hxl' : xs.length = 11 := hxl
    obtain ⟨n0, rfl, a0, b0⟩ := one_int (at_some (by omega)) (fld (i := 0) (c := c0) (hg 0 _ rfl) rfl rfl rfl)
    obtain ⟨n1, rfl, a1, b1⟩ := one_int (at_some (by omega)) (fld (i := 1) (c := c1) (hg 1 _ rfl) rfl rfl rfl)
    obtain ⟨n2, rfl, a2, b2⟩ := one_int (at_some (by omega)) (fld (i := 2) (c := c2) (hg 2 _ rfl) rfl rfl rfl)
    obtain ⟨n3, rfl, a3, b3⟩ := one_int (at_some (by omega)) (fld (i := 3) (c := c3) (hg 3 _ rfl) rfl rfl rfl)
    obtain ⟨n4, rfl, a4, b4⟩ := one_int (at_some (by omega)) (fld (i := 4) (c := c4) (hg 4 _ rfl) rfl rfl rfl)
    obtain ⟨n5, rfl, a5, b5⟩ := one_int (at_some (by omega)) (fld (i := 5) (c := c5) (hg 5 _ rfl) rfl rfl rfl)
    obtain ⟨n6, rfl, a6, b6⟩ := one_int (at_some (by omega)) (fld (i := 6) (c := c6) (hg 6 _ rfl) rfl rfl rfl)
    obtain ⟨n7, rfl, a7, b7⟩ := one_int (at_some (by omega)) (fld (i := 7) (c := c7) (hg 7 _ rfl) rfl rfl rfl)
    obtain ⟨n8, rfl, a8, b8⟩ := one_int (at_some (by omega)) (fld (i := 8) (c := c8) (hg 8 _ rfl) rfl rfl rfl)
    obtain ⟨n9, rfl, a9, b9⟩ := one_int (at_some (by omega)) (fld (i := 9) (c := c9) (hg 9 _ rfl) rfl rfl rfl)
    obtain ⟨y, hy⟩ : ∃ y, xs[10]? = some y := ⟨_, List.getElem?_eq_getElem (by omega)⟩
    have g := fld3 (hg 10 _ rfl) rfl rfl rfl
    rw [hy] at g
    obtain ⟨zs, m2, _, _, _, hzl, hz⟩ := DataW.trod_array Tryd.underlying29 g
    have hzl' : zs.length = 3 := hzl
    have q0 := hz 0 (by decide)
    rw [Tryd.cells3] at q0
    obtain ⟨n10, rfl, a10, b10⟩ := one_int (at_some (by omega)) (show DataW.trod enc Tryd.prog w base spare held m2 3 [c10] = zs[0]? from q0)
    have q1 := hz 1 (by decide)
    rw [Tryd.cells3] at q1
    obtain ⟨n11, rfl, a11, b11⟩ := one_int (at_some (by omega)) (show DataW.trod enc Tryd.prog w base spare held m2 3 [c11] = zs[1]? from q1)
    have q2 := hz 2 (by decide)
    rw [Tryd.cells3] at q2
    obtain ⟨n12, rfl, a12, b12⟩ := one_int (at_some (by omega)) (show DataW.trod enc Tryd.prog w base spare held m2 3 [c12] = zs[2]? from q2)
    refine ⟨⟨n0, n1, n2, n3, n4, n5, n6, n7, n8, n9, n10, n11, n12⟩, rfl, ?_⟩
    unfold Cfg.fine Cfg.nums
    intro z hz
    simp only [List.mem_cons, List.not_mem_nil, or_false] at hz
    rcases hz with rfl | rfl | rfl | rfl | rfl | rfl | rfl | rfl | rfl | rfl | rfl | rfl | rfl <;> exact ⟨by assumption, by assumption⟩
set_option maxRecDepth 100000 in
theorem open_cfg {r : Reach} {b0 : Nat} {v : Value} {d : DataW H} {p : List MemPlace} (hv : Value.okWide Tryd.prog w r b0 31 v) (h : DataW.Trod enc Tryd.prog w base spare held 31 v d p) : ∃ c : Cfg, v = c.val ∧ c.fine := by
  obtain ⟨cs, rfl, hsz⟩ := okWide_struct Tryd.underlying31 hv
  obtain ⟨fuel, hf⟩ := h
  obtain ⟨l⟩ := cs
  have hl : l.length = 13 := hsz.trans Tryd.cells31
  obtain ⟨c, hc, hn⟩ := cells_cfg hl (show DataW.trod enc Tryd.prog w base spare held fuel 31 l = some (d, p) from hf)
  exact ⟨c, by rw [hc]; rfl, hn⟩
theorem list_of {α : Type} {P : Nat → α → Prop} (n : Nat) (h : ∀ i, i < n → ∃ x, P i x) : ∃ l : List α, l.length = n ∧ ∀ i x, l[i]? = some x → P i x := by
  induction n with
  | zero => exact ⟨[], rfl, fun i x hx => by simp at hx⟩
  | succ n ih =>
    obtain ⟨l, hl, hp⟩ := ih fun i hi => h i (by omega)
    obtain ⟨x, hx⟩ := h n (by omega)
    refine ⟨l ++ [x], by simp [hl], fun i y hy => ?_⟩
    rcases Nat.lt_or_ge i n with hi | hi
    · rw [List.getElem?_append_left (by omega)] at hy
      exact hp i y hy
    · rw [List.getElem?_append_right (by omega)] at hy
      obtain rfl : i = n := by
        have := (List.getElem?_eq_some_iff.1 hy).1
        simp at this
        omega
      rw [hl, Nat.sub_self] at hy
      rw [← Option.some.inj hy]
      exact hx
theorem spot_of {a : Addr} {v : Value} (h : w.cell? a = some v) : a.spot = none := by
  unfold World.cell? at h
  cases hs : a.spot with
  | none => rfl
  | some s =>
    rw [hs] at h
    split at h
    · simp at h
    · cases h
set_option maxRecDepth 100000 in
/-- A slice of operations that came in. -/
theorem cells_ops {n : Nat} {cs : List Value} {x : DataW H × List MemPlace} (h : DataW.trod enc Tryd.prog w base spare held n 23 cs = some x) : ∃ A c l, cs = [.slice A (List.length l) c] ∧ l.length ≤ maxLen ∧ OpsIn w A l := by
  rcases open_slice Tryd.underlying23 h with ⟨h1, _⟩ | ⟨a, len, cap, m, n, D, Pl, h1, _, hle, hcap, hm, _, hi⟩
  · exact ⟨none, 0, [], h1, by simp, opsIn_none _ _⟩
  · rw [Tryd.cells33] at hi
    have hlm : len ≤ m := by rw [hm]; split <;> omega
    obtain ⟨l, hl, hp⟩ := list_of (P := fun i (y : PO) => ∀ j v, y.arr.toList[j]? = some v → w.cell? (a.add (i * 3 + j)) = some v) len fun i hi' => by
      obtain ⟨cs', hc, ht⟩ := hi i (by omega)
      obtain ⟨_, hcl, hat⟩ := World.cells?_some hc
      obtain ⟨y, rfl⟩ := cells_po hcl ht
      refine ⟨y, fun j v hj => ?_⟩
      have := hat j (by have := (List.getElem?_eq_some_iff.1 hj).1; omega)
      rw [add_add, hj] at this
      exact this
    refine ⟨some a, cap, l, by rw [h1, hl], by omega, fun i x hx => ?_⟩
    have hcell := hp i x hx
    obtain ⟨b, off, spot⟩ := a
    have h0 : spot = none := by
      have hlt := (List.getElem?_eq_some_iff.1 hx).1
      obtain ⟨x0, hx0⟩ : ∃ x0, l[0]? = some x0 := ⟨_, List.getElem?_eq_getElem (by omega)⟩
      have := hp 0 x0 hx0 0 _ rfl
      exact spot_of (by simpa [Addr.add] using this)
    subst h0
    have hc0 := hcell 0 _ rfl
    rw [Addr.add_mid] at hc0
    refine ⟨b, off, rfl, World.block_lt_of_cell? w _ hc0, ?_⟩
    intro j v hj
    have := hcell j v hj
    rw [Addr.add_mid] at this
    rw [Nat.add_assoc]
    exact this
set_option maxRecDepth 100000 in
theorem open_ops {r : Reach} {b0 : Nat} {v : Value} {d : DataW H} {p : List MemPlace} (hv : Value.okWide Tryd.prog w r b0 23 v) (h : DataW.Trod enc Tryd.prog w base spare held 23 v d p) : ∃ A c l, v = .slice A (List.length l) c ∧ l.length ≤ maxLen ∧ OpsIn w A l := by
  obtain ⟨A, n, c, rfl⟩ := okWide_slice Tryd.underlying23 hv
  obtain ⟨fuel, hf⟩ := h
  obtain ⟨A', c', l, h1, h2, h3⟩ := cells_ops (show DataW.trod enc Tryd.prog w base spare held fuel 23 [.slice A n c] = some (d, p) from hf)
  injection h1 with h1
  exact ⟨A', c', l, h1, h2, h3⟩
end
end Go.Proofs.YtfjeheioglmalaaDoor
