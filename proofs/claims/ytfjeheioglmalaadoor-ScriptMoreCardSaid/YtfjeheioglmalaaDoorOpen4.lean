/- Arguments of the laws of layer 4, opened: scripts, three bytes. -/
import Derived.Test.YtfjeheioglmalaaDoorOpen
import Derived.Test.YtfjeheioglmalaaDoorMem4
namespace Go.Proofs.YtfjeheioglmalaaDoor
open Go.ChangeShapes Go.WideShapes Go.ChangeAt Go.RowKit Go.Deep
set_option linter.unusedVariables false
theorem Tryd.cells23 : Tryd.prog.cellsOf 23 = 1 := by kernel_rfl
theorem Tryd.cells40 : Tryd.prog.cellsOf 40 = 1 := by kernel_rfl
theorem Tryd.cells41 : Tryd.prog.cellsOf 41 = 1 := by kernel_rfl
theorem Tryd.cells43 : Tryd.prog.cellsOf 43 = 15 := by kernel_rfl
theorem Tryd.cells59 : Tryd.prog.cellsOf 59 = 3 := by kernel_rfl
theorem Tryd.cells5 : Tryd.prog.cellsOf 5 = 1 := by kernel_rfl
theorem Tryd.cells56 : Tryd.prog.cellsOf 56 = 3 := by kernel_rfl
section
variable {H : Type} {enc : TypeId × Value → H} {w : World} {base : Nat} {spare : Nat → Bool} {held : Bool}
set_option maxRecDepth 100000 in
theorem cells_pk {n : Nat} {cs : List Value} {x : DataW H × List MemPlace} (hl : cs.length = 3) (h : DataW.trod enc Tryd.prog w base spare held n 59 cs = some x) : ∃ y : PK, cs = y.arr.toList := by
  match cs, hl with
  | [c0, c1, c2], _ =>
    obtain ⟨xs, m, _, _, _, hxl, hg⟩ := DataW.trod_struct Tryd.underlying59 h
    have hxl' : xs.length = 3 := hxl
    obtain ⟨n0, rfl, _⟩ := one_int (at_some (by omega)) (fld (i := 0) (c := c0) (hg 0 _ rfl) rfl rfl rfl)
    obtain ⟨n1, rfl, _⟩ := one_int (at_some (by omega)) (fld (i := 1) (c := c1) (hg 1 _ rfl) rfl rfl rfl)
    obtain ⟨n2, rfl, _⟩ := one_int (at_some (by omega)) (fld (i := 2) (c := c2) (hg 2 _ rfl) rfl rfl rfl)
    exact ⟨⟨n0, n1, n2⟩, rfl⟩
theorem picksIn_none (w : World) (A : Option Addr) : PicksIn w A [] := fun i x h => by simp at h
theorem progsIn_none (w : World) (A : Option Addr) : ProgsIn w A [] := fun i x h => by simp at h
set_option maxRecDepth 100000 in
theorem cells_picks {n : Nat} {cs : List Value} {x : DataW H × List MemPlace} (h : DataW.trod enc Tryd.prog w base spare held n 41 cs = some x) : ∃ A c l, cs = [.slice A (List.length l) c] ∧ l.length ≤ maxLen ∧ PicksIn w A l := by
  rcases open_slice Tryd.underlying41 h with ⟨h1, _⟩ | ⟨a, len, cap, m, n, D, Pl, h1, _, hle, hcap, hm, _, hi⟩
  · exact ⟨none, 0, [], h1, by simp, picksIn_none _ _⟩
  · rw [Tryd.cells59] at hi
    have hlm : len ≤ m := by rw [hm]; split <;> omega
    obtain ⟨l, hl, hp⟩ := list_of (P := fun i (y : PK) => ∀ j v, y.arr.toList[j]? = some v → w.cell? (a.add (i * 3 + j)) = some v) len fun i hi' => by
      obtain ⟨cs', hc, ht⟩ := hi i (by omega)
      obtain ⟨_, hcl, hat⟩ := World.cells?_some hc
      obtain ⟨y, rfl⟩ := cells_pk hcl ht
      refine ⟨y, fun j v hj => ?_⟩
      have := hat j (by have := (List.getElem?_eq_some_iff.1 hj).1; omega)
      rw [add_add, hj] at this
      exact this
    refine ⟨some a, cap, l, by rw [h1, hl], by omega, fun i x hx => ?_⟩
    have hcell := hp i x hx
    obtain ⟨b, off, spot⟩ := a
    have h0 : spot = none := by
      have hlt := (List.getElem?_eq_some_iff.1 hx).1
      obtain ⟨x0, hx0⟩ : ∃ x0, l[0]? = some x0 := ⟨_, List.getElem?_eq_getElem (by omega)⟩
      have := hp 0 x0 hx0 0 _ rfl
      exact spot_of (by simpa [Addr.add] using this)
    subst h0
    have hc0 := hcell 0 _ rfl
    rw [Addr.add_mid] at hc0
    refine ⟨b, off, rfl, World.block_lt_of_cell? w _ hc0, ?_⟩
    intro j v hj
    have := hcell j v hj
    rw [Addr.add_mid] at this
    rw [Nat.add_assoc]
    exact this
set_option maxRecDepth 100000 in
theorem cells_progs {n : Nat} {cs : List Value} {x : DataW H × List MemPlace} (h : DataW.trod enc Tryd.prog w base spare held n 40 cs = some x) : ∃ A c l, cs = [.slice A (List.length l) c] ∧ l.length ≤ maxLen ∧ ProgsIn w A l ∧ ∀ q ∈ l, q.length ≤ maxLen := by
  rcases open_slice1 Tryd.underlying40 Tryd.cells23 h with ⟨h1, _⟩ | ⟨a, len, cap, m, n, V, D, Pl, h1, _, hle, hcap, hm, _, hi⟩
  · exact ⟨none, 0, [], h1, by simp, progsIn_none _ _, by simp⟩
  · have hlm : len ≤ m := by rw [hm]; split <;> omega
    obtain ⟨l, hl, hp⟩ := list_of (P := fun i (y : List PO) => y.length ≤ maxLen ∧ ∃ B c, w.cell? (a.add i) = some (.slice B y.length c) ∧ OpsIn w B y) len fun i hi' => by
      obtain ⟨hc, ht⟩ := hi i (by omega)
      obtain ⟨B, c, y, hv, hyl, hy⟩ := cells_ops ht
      injection hv with hv
      exact ⟨y, hyl, B, c, by rw [hc, hv], hy⟩
    refine ⟨some a, cap, l, by rw [h1, hl], by omega, fun i q hq => ?_, fun q hq => ?_⟩
    · obtain ⟨_, B, c, hc, hy⟩ := hp i q hq
      obtain ⟨b, off, spot⟩ := a
      have h0 : spot = none := by
        have hlt := (List.getElem?_eq_some_iff.1 hq).1
        obtain ⟨x0, hx0⟩ : ∃ x0, l[0]? = some x0 := ⟨_, List.getElem?_eq_getElem (by omega)⟩
        obtain ⟨_, _, _, h1, _⟩ := hp 0 x0 hx0
        exact spot_of (by simpa [Addr.add] using h1)
      subst h0
      rw [Addr.add_mid] at hc
      exact ⟨b, off, B, c, rfl, World.block_lt_of_cell? w _ hc, hc, hy⟩
    · obtain ⟨i, hi⟩ := List.getElem?_of_mem hq
      exact (hp i q hi).1
theorem okWide_array {P : Program} {r : Reach} {b0 n : Nat} {t e : TypeId} {v : Value} (ht : P.underlying t = some (.array n e)) (h : Value.okWide P w r b0 t v) : ∃ cs, v = .agg cs ∧ cs.size = P.cellsOf t := by
  simp only [Value.okWide, ht] at h
  obtain ⟨cs, h1, h2, _⟩ := h
  exact ⟨cs, h1, h2⟩
theorem fldT {cs cs' : List Value} {f : Field} {m t k o : Nat} {y : Option (DataW H × List MemPlace)} (h : DataW.trod enc Tryd.prog w base spare held m f.type (List.take (Tryd.prog.cellsOf f.type) (List.drop f.offset cs)) = y) (ht : f.type = t) (ho : f.offset = o) (hk : Tryd.prog.cellsOf t = k) (hc : List.take k (List.drop o cs) = cs') :
    DataW.trod enc Tryd.prog w base spare held m t cs' = y := by
  rw [ht, ho, hk, hc] at h
  exact h
set_option maxRecDepth 100000 in
/-- The fifteen cells of a script. -/
theorem cells_script {n : Nat} {cs : List Value} {x : DataW H × List MemPlace} (hl : cs.length = 15) (h : DataW.trod enc Tryd.prog w base spare held n 43 cs = some x) :
    ∃ (c : Cfg) (ps : List (List PO)) (ks : List PK) (A1 A2 : Option Addr) (c1 c2 : Nat), cs = (scells c (.slice A1 ps.length c1) (.slice A2 ks.length c2)).toList ∧ c.fine ∧ ps.length ≤ maxLen ∧ ks.length ≤ maxLen ∧ (∀ l ∈ ps, l.length ≤ maxLen) ∧ ProgsIn w A1 ps ∧ PicksIn w A2 ks := by
  match cs, hl with
  | [e0, e1, e2, e3, e4, e5, e6, e7, e8, e9, e10, e11, e12, e13, e14], _ =>
    obtain ⟨xs, m, _, _, _, hxl, hg⟩ := DataW.trod_struct Tryd.underlying43 h
    have hxl' : xs.length = 3 := hxl
    obtain ⟨y0, hy0⟩ : ∃ y, xs[0]? = some y := ⟨_, List.getElem?_eq_getElem (by omega)⟩
    obtain ⟨y1, hy1⟩ : ∃ y, xs[1]? = some y := ⟨_, List.getElem?_eq_getElem (by omega)⟩
    obtain ⟨y2, hy2⟩ : ∃ y, xs[2]? = some y := ⟨_, List.getElem?_eq_getElem (by omega)⟩
    have g0 := fldT (t := 31) (o := 0) (hg 0 _ rfl) rfl rfl Tryd.cells31 rfl
    have g1 := fldT (t := 40) (o := 13) (hg 1 _ rfl) rfl rfl Tryd.cells40 rfl
    have g2 := fldT (t := 41) (o := 14) (hg 2 _ rfl) rfl rfl Tryd.cells41 rfl
    rw [hy0] at g0
    rw [hy1] at g1
    rw [hy2] at g2
    obtain ⟨c, hc, hf⟩ := cells_cfg rfl g0
    obtain ⟨A1, c1, ps, hp1, hpl, hpi, hpm⟩ := cells_progs g1
    obtain ⟨A2, c2, ks, hk1, hkl, hki⟩ := cells_picks g2
    refine ⟨c, ps, ks, A1, A2, c1, c2, ?_, hf, hpl, hkl, hpm, hpi, hki⟩
    have a13 : e13 = .slice A1 ps.length c1 := by
      have : [e13] = [Value.slice A1 ps.length c1] := hp1
      injection this
    have a14 : e14 = .slice A2 ks.length c2 := by
      have : [e14] = [Value.slice A2 ks.length c2] := hk1
      injection this
    have h13 : [e0, e1, e2, e3, e4, e5, e6, e7, e8, e9, e10, e11, e12] = c.arr.toList := hc
    rw [show [e0, e1, e2, e3, e4, e5, e6, e7, e8, e9, e10, e11, e12, e13, e14] = [e0, e1, e2, e3, e4, e5, e6, e7, e8, e9, e10, e11, e12] ++ [e13, e14] from rfl, h13, a13, a14]
    rfl
set_option maxRecDepth 100000 in
theorem open_script {r : Reach} {b0 : Nat} {v : Value} {d : DataW H} {p : List MemPlace} (hv : Value.okWide Tryd.prog w r b0 43 v) (h : DataW.Trod enc Tryd.prog w base spare held 43 v d p) :
    ∃ (c : Cfg) (ps : List (List PO)) (ks : List PK) (A1 A2 : Option Addr) (c1 c2 : Nat), v = .agg (scells c (.slice A1 ps.length c1) (.slice A2 ks.length c2)) ∧ c.fine ∧ ps.length ≤ maxLen ∧ ks.length ≤ maxLen ∧ (∀ l ∈ ps, l.length ≤ maxLen) ∧ ProgsIn w A1 ps ∧ PicksIn w A2 ks := by
  obtain ⟨cs, rfl, hsz⟩ := okWide_struct Tryd.underlying43 hv
  obtain ⟨fuel, hf⟩ := h
  obtain ⟨l⟩ := cs
  have hl : l.length = 15 := hsz.trans Tryd.cells43
  obtain ⟨c, ps, ks, A1, A2, c1, c2, hc, rest⟩ := cells_script hl (show DataW.trod enc Tryd.prog w base spare held fuel 43 l = some (d, p) from hf)
  exact ⟨c, ps, ks, A1, A2, c1, c2, by rw [hc], rest⟩
/-- One cell of a datum is a byte. -/
theorem one_byte {n : Nat} {c : Value} {y : Option (DataW H × List MemPlace)} (hy : y.isSome = true) (h : DataW.trod enc Tryd.prog w base spare held n 5 [c] = y) : ∃ z : UInt8, c = .int .u8 z.toNat := by
  obtain ⟨y', rfl⟩ := Option.isSome_iff_exists.1 hy
  obtain ⟨z, hz, _, hw⟩ := DataW.trod_int Tryd.underlying5 h
  injection hz with hz
  have h' : (decide (IntKind.u8.min ≤ z) && decide (z ≤ IntKind.u8.max)) = true := hw
  rw [show IntKind.u8.min = 0 by decide, show IntKind.u8.max = 255 by decide] at h'
  simp only [Bool.and_eq_true, decide_eq_true_eq] at h'
  refine ⟨UInt8.ofNat z.toNat, ?_⟩
  rw [hz]
  have : ((UInt8.ofNat z.toNat).toNat : Int) = z := by rw [UInt8.toNat_ofNat']; omega
  rw [this]
set_option maxRecDepth 100000 in
theorem open_three {r : Reach} {b0 : Nat} {v : Value} {d : DataW H} {p : List MemPlace} (hv : Value.okWide Tryd.prog w r b0 56 v) (h : DataW.Trod enc Tryd.prog w base spare held 56 v d p) : ∃ x y z : UInt8, v = .agg #[.int .u8 x.toNat, .int .u8 y.toNat, .int .u8 z.toNat] := by
  obtain ⟨cs, rfl, hsz⟩ := okWide_array Tryd.underlying56 hv
  obtain ⟨fuel, hf⟩ := h
  obtain ⟨l⟩ := cs
  have hl : l.length = 3 := hsz.trans Tryd.cells56
  match l, hl, hf with
  | [e0, e1, e2], _, hf =>
    obtain ⟨zs, m2, _, _, _, hzl, hz⟩ := DataW.trod_array Tryd.underlying56 (show DataW.trod enc Tryd.prog w base spare held fuel 56 [e0, e1, e2] = some (d, p) from hf)
    have q0 := hz 0 (by decide)
    rw [Tryd.cells5] at q0
    obtain ⟨x, rfl⟩ := one_byte (at_some (by omega)) (show DataW.trod enc Tryd.prog w base spare held m2 5 [e0] = zs[0]? from q0)
    have q1 := hz 1 (by decide)
    rw [Tryd.cells5] at q1
    obtain ⟨y, rfl⟩ := one_byte (at_some (by omega)) (show DataW.trod enc Tryd.prog w base spare held m2 5 [e1] = zs[1]? from q1)
    have q2 := hz 2 (by decide)
    rw [Tryd.cells5] at q2
    obtain ⟨z, rfl⟩ := one_byte (at_some (by omega)) (show DataW.trod enc Tryd.prog w base spare held m2 5 [e2] = zs[2]? from q2)
    exact ⟨x, y, z, rfl⟩
end
end Go.Proofs.YtfjeheioglmalaaDoor
