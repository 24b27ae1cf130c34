/- Boxes, slices of strings, drawn worlds. -/
import Derived.Test.YtfjeheioglmalaaDoorAll
namespace Go.Proofs.YtfjeheioglmalaaDoor
open Go.RowKit Go.Lib
theorem box_kept {w w' : World} {o : Obj} (hb : Below (w.alloc o).heap.size (w.alloc o) w') : w'.heap[w.heap.size]? = some o :=
  (hb.block w.heap.size (by simp)).trans (heap_alloc_new w o)
theorem box_cell {w : World} {g : Nat} {cs : Array Value} {t : TypeId} {f : Nat × Nat} (h : w.heap[g]? = some (.cells cs t f)) (j : Nat) {v : Value} (hj : cs[j]? = some v) : w.cell? ⟨g, j, none⟩ = some v := by
  rw [cell_of_row w g j _ _ _ h]; exact hj
theorem below_drawn {B : Nat} {a w : World} (h : Below B a w) (n : Nat) : Below B a (w.drewN n) := ⟨h.os, h.tape, h.output, h.size, h.block⟩
theorem ret_int {k : IntKind} {a b : Int} (h : a = b) : Ending.returned (.int k a) = .returned (.int k b) := by rw [h]
/-- A struct is written whole into a block of its own. -/
theorem wpList_store_new {P : Program} {ops : Array Oper} {rest : List Oper} {o : Oper} {a : Act} {w : World} {Q : Exit → Act → World → Prop} (hgd : o.guard = none) (ty : TypeId) (x y : Operand) (ho : o.op = .store ty x y)
    (g : Nat) (cells : Array Value) (hx : a.eval x = .pointer (some ⟨g, 0, none⟩)) (hy : a.eval y = .agg cells)
    (t : TypeId) (old : Array Value) (hg : w.heap[g]? = some (.cells old t (0, 0))) (hi : (P.info? ty).map (·.size) = some cells.size)
    (hold : old.size = cells.size) (h1 : cells.all (·.oneCell') = true) (B : Nat) (hB : B ≤ g)
    (h : ∀ w2, w2.heap[g]? = some (.cells cells t (0, 0)) → Below B w w2 → wpList P ops Q rest (a.put o.dst undef) w2) : wpList P ops Q (o :: rest) a w :=
  wpList_store_row hgd ty x y ho g cells hx hy t old hg hi hold h1
    (h _ (setRow_heap w g old cells t _ hg) ⟨rfl, rfl, rfl, by rw [size_setRow]; exact Nat.le_refl _, fun k hk => setRow_other w g k cells (by omega)⟩)
theorem PO.one (x : PO) : x.arr.all (·.oneCell') = true := by simp [PO.arr, Value.oneCell']
theorem heap_set_other {w : World} {g i k : Nat} {v : Value} {o : Obj} (hk : k ≠ g) (h : w.heap[k]? = some o) : (w.setCell ⟨g, i, none⟩ v).heap[k]? = some o := (Below.heap_setCell _ _ _ k hk).trans h
/-- A piece of a string. -/
theorem slice_l (l : List UInt8) (i j : Nat) (h : i ≤ j) (hj : j ≤ l.length) (w : World) : (Instr.slice 9 (.string ⟨l.toArray⟩) (some (.int .i64 (i : Int))) (some (.int .i64 (j : Int))) none).run Tryd.prog w = .ok (.string ⟨((l.take j).drop i).toArray⟩) w := by
  rw [run_slice_string w 9 _ .i64 .i64 _ _ Tryd.underlying9 (by omega) (by omega) (by show (j : Int) ≤ ((l.length : Nat) : Int); omega)]
  have e1 : ((i : Int)).toNat = i := by omega
  have e2 : ((j : Int)).toNat = j := by omega
  rw [e1, e2, ByteArray.extract_mk l i j, List.take_drop, show i + (j - i) = j by omega]
theorem slice_e (l : List UInt8) (i : Nat) (h : i ≤ l.length) (w : World) : (Instr.slice 9 (.string ⟨l.toArray⟩) (some (.int .i64 (i : Int))) none none).run Tryd.prog w = .ok (.string ⟨(l.drop i).toArray⟩) w := by
  rw [run_slice_string_from_if w 9 _ .i64 _ Tryd.underlying9, if_pos ⟨by omega, by show (i : Int) ≤ ((l.length : Nat) : Int); omega⟩]
  have e1 : ((i : Int)).toNat = i := by omega
  have hs : (ByteArray.mk l.toArray).size = l.length := by simp [ByteArray.size]
  rw [e1, hs, ByteArray.extract_mk l i l.length, ← List.length_drop, List.take_length]
end Go.Proofs.YtfjeheioglmalaaDoor
