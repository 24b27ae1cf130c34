/- A slice of operations that came in, opened: it leads to operations in memory. -/
import Derived.Test.YtfjeheioglmalaaArgs
import Derived.Test.YtfjeheioglmalaaMshrOrder
namespace Go.Proofs.Ytfjeheioglmalaa
open Go.ChangeShapes Go.WideShapes Go.ChangeAt Go.RowKit

theorem Try.cells38 : Try.prog.cellsOf 38 = 12 := by kernel_rfl
instance : Inhabited Opr := ⟨⟨0, 0, 0, 0, W8.zero⟩⟩
theorem list12 {cs : List Value} (h : cs.length = 12) : ∃ c0 c1 c2 c3 c4 c5 c6 c7 c8 c9 c10 c11, cs = [c0, c1, c2, c3, c4, c5, c6, c7, c8, c9, c10, c11] := by
  match cs, h with
  | [a, b, c, d, e, f, g, i, j, k, l, m], _ => exact ⟨a, b, c, d, e, f, g, i, j, k, l, m, rfl⟩
section
variable {H : Type} {enc : TypeId × Value → H} {w : World} {base : Nat} {spare : Nat → Bool} {held : Bool}
theorem w8_cells {m : Nat} {c0 c1 c2 c3 c4 c5 c6 c7 : Value} {x : DataW H × List MemPlace} (hf : DataW.trod enc Try.prog w base spare held m 32 [c0, c1, c2, c3, c4, c5, c6, c7] = some x) : ∃ x : W8, [c0, c1, c2, c3, c4, c5, c6, c7] = x.arr.toList := by
  obtain ⟨xs, m, _, _, _, hl, hx⟩ := DataW.trod_array Try.underlying32 hf
  have one : ∀ i c, i < 8 → (([c0, c1, c2, c3, c4, c5, c6, c7] : List Value).drop i).take 1 = [c] → ∃ n : Int, c = .int .i64 n := by
    intro i c hi hc
    have h1 := hx i hi
    rw [Try.cells3, Nat.mul_one] at h1
    rw [hc, List.getElem?_eq_getElem (by omega)] at h1
    obtain ⟨n, hn, _⟩ := DataW.trod_int Try.underlying3 h1
    injection hn with hn
    exact ⟨n, hn⟩
  obtain ⟨n0, rfl⟩ := one 0 c0 (by decide) rfl
  obtain ⟨n1, rfl⟩ := one 1 c1 (by decide) rfl
  obtain ⟨n2, rfl⟩ := one 2 c2 (by decide) rfl
  obtain ⟨n3, rfl⟩ := one 3 c3 (by decide) rfl
  obtain ⟨n4, rfl⟩ := one 4 c4 (by decide) rfl
  obtain ⟨n5, rfl⟩ := one 5 c5 (by decide) rfl
  obtain ⟨n6, rfl⟩ := one 6 c6 (by decide) rfl
  obtain ⟨n7, rfl⟩ := one 7 c7 (by decide) rfl
  exact ⟨(n0, n1, n2, n3, n4, n5, n6, n7), rfl⟩
theorem op_cells {n : Nat} {cs : List Value} {x : DataW H × List MemPlace} (hf : DataW.trod enc Try.prog w base spare held n 38 cs = some x) : ∃ o : Opr, cs = o.arr.toList := by
  obtain ⟨xs, m, _, _, hl, hn, hx⟩ := DataW.trod_struct Try.underlying38 hf
  rw [Try.cells38] at hl
  obtain ⟨c0, c1, c2, c3, c4, c5, c6, c7, c8, c9, c10, c11, rfl⟩ := list12 hl
  have hn5 : xs.length = 5 := hn
  have one : ∀ i (f : Field) c, i < 5 → (#[{ name := "Do", type := 3, offset := 0, embedded := false, tag := "", pkgPath := "", byteOffset := 0 }, { name := "Line", type := 3, offset := 1, embedded := false, tag := "", pkgPath := "", byteOffset := 8 }, { name := "N", type := 3, offset := 2, embedded := false, tag := "", pkgPath := "", byteOffset := 16 }, { name := "Own", type := 3, offset := 3, embedded := false, tag := "", pkgPath := "", byteOffset := 24 }, { name := "Words", type := 32, offset := 4, embedded := false, tag := "", pkgPath := "", byteOffset := 32 }] : Array Field)[i]? = some f → f.type = 3 → (([c0, c1, c2, c3, c4, c5, c6, c7, c8, c9, c10, c11] : List Value).drop f.offset).take 1 = [c] → ∃ n : Int, c = .int .i64 n := by
    intro i f c hi hf ht hc
    have h1 := hx i f hf
    rw [ht, Try.cells3, hc, List.getElem?_eq_getElem (by omega)] at h1
    obtain ⟨n, hn, _⟩ := DataW.trod_int Try.underlying3 h1
    injection hn with hn
    exact ⟨n, hn⟩
  obtain ⟨n0, rfl⟩ := one 0 _ c0 (by decide) rfl rfl rfl
  obtain ⟨n1, rfl⟩ := one 1 _ c1 (by decide) rfl rfl rfl
  obtain ⟨n2, rfl⟩ := one 2 _ c2 (by decide) rfl rfl rfl
  obtain ⟨n3, rfl⟩ := one 3 _ c3 (by decide) rfl rfl rfl
  have h5 : DataW.trod enc Try.prog w base spare held m 32 ((([.int .i64 n0, .int .i64 n1, .int .i64 n2, .int .i64 n3, c4, c5, c6, c7, c8, c9, c10, c11] : List Value).drop 4).take (Try.prog.cellsOf 32)) = xs[4]? := hx 4 _ rfl
  rw [Try.cells32] at h5
  rw [List.getElem?_eq_getElem (by omega)] at h5
  obtain ⟨y, hy⟩ := w8_cells (c0 := c4) (c1 := c5) (c2 := c6) (c3 := c7) (c4 := c8) (c5 := c9) (c6 := c10) (c7 := c11) h5
  have e : ∀ (a b c d : Value), [a, b, c, d, c4, c5, c6, c7, c8, c9, c10, c11] = a :: b :: c :: d :: y.arr.toList := by intro a b c d; rw [← hy]
  exact ⟨⟨n0, n1, n2, n3, y⟩, e _ _ _ _⟩
/-- The slice of operations. -/
theorem open_ops {b0 : Nat} {r : Reach} {v : Value} {d : DataW H} {p : List MemPlace} (hv : Value.okWide Try.prog w r b0 22 v) (h : DataW.Trod enc Try.prog w base spare held 22 v d p) : ∃ A n c os, v = .slice A n c ∧ n = os.length ∧ n ≤ maxLen ∧ OpsAt w A os := by
  obtain ⟨A, n, c, rfl⟩ := okWide_slice Try.underlying22 hv
  obtain ⟨fuel, hf⟩ := h
  rcases Go.Deep.open_slice Try.underlying22 hf with ⟨hcs, _⟩ | ⟨a, len, cap, m, k, D, Pl, hcs, _, hlc, hcm, hm, _, hx⟩
  · simp [Value.cells] at hcs
    obtain ⟨rfl, rfl, rfl⟩ := hcs
    exact ⟨none, 0, 0, [], rfl, rfl, Nat.zero_le _, fun i o hi => by simp at hi⟩
  · simp [Value.cells] at hcs
    obtain ⟨rfl, rfl, rfl⟩ := hcs
    have hlm : n ≤ m := by rw [hm]; split <;> omega
    have key : ∀ i, i < n → ∃ o : Opr, ∀ j u, o.arr.toList[j]? = some u → w.cell? ((a.add (i * 12)).add j) = some u := by
      intro i hi
      obtain ⟨cs', h1, h2⟩ := hx i (by omega)
      rw [Try.cells38] at h1
      obtain ⟨o, rfl⟩ := op_cells h2
      obtain ⟨_, hl, hc⟩ := World.cells?_some h1
      refine ⟨o, fun j u hu => ?_⟩
      rw [hc j (by have := (List.getElem?_eq_some_iff.1 hu).1; omega)]
      exact hu
    obtain ⟨f, hfo⟩ := Go.Deep.choose_lt key
    refine ⟨some a, n, c, (List.range n).map f, rfl, by simp, by omega, fun i o hi => ?_⟩
    have hin : i < n := by have := (List.getElem?_eq_some_iff.1 hi).1; simpa using this
    have ho : o = f i := by simpa [hin] using hi.symm
    subst ho
    obtain ⟨b, off, spot⟩ := a
    have h0 := hfo 0 (by omega) 0 _ rfl
    have hs : spot = none := by simpa [Addr.add] using World.cell?_spot h0
    subst hs
    refine ⟨b, off, rfl, ?_, fun j u hu => ?_⟩
    · have := World.block_lt_of_cell? w _ h0
      simpa [Addr.add] using this
    · have := hfo i hin j u hu
      rwa [Addr.add_mid, Addr.add_mid] at this
end
end Go.Proofs.Ytfjeheioglmalaa
