/- Slices of operations that a call makes; an iterator over a string. -/
import Derived.Test.YtfjeheioglmalaaDoorBox
import Derived.Maps.AppendAt
import Derived.Great.BuildSlice
import Derived.Great.FillDense
namespace Go.Proofs.YtfjeheioglmalaaDoor
open Go.RowKit Go.Lib
set_option linter.unusedSectionVars false
def flat (l : List PO) : List Value := l.flatMap fun x => x.arr.toList
theorem PO.len (x : PO) : x.arr.toList.length = 3 := rfl
theorem flat_len (l : List PO) : (flat l).length = l.length * 3 := by
  induction l with
  | nil => rfl
  | cons x l ih => simp only [flat, List.flatMap_cons, List.length_append, PO.len, List.length_cons] at ih ⊢; rw [ih]; omega
theorem flat_snoc (l : List PO) (x : PO) : flat (l ++ [x]) = flat l ++ x.arr.toList := by simp [flat]
theorem flat_at (l : List PO) : ∀ (i j : Nat) (x : PO) (v : Value), l[i]? = some x → x.arr.toList[j]? = some v → (flat l)[i * 3 + j]? = some v := by
  induction l with
  | nil => intro i j x v h; simp at h
  | cons y l ih =>
    intro i j x v h hv
    have hj : j < 3 := by have := (List.getElem?_eq_some_iff.1 hv).1; rwa [PO.len] at this
    cases i with
    | zero =>
      simp only [List.getElem?_cons_zero, Option.some.injEq] at h
      subst h
      simp only [flat, List.flatMap_cons, Nat.zero_mul, Nat.zero_add]
      rw [List.getElem?_append_left (by rw [PO.len]; exact hj)]
      exact hv
    | succ i =>
      simp only [List.getElem?_cons_succ] at h
      have := ih i j x v h hv
      simp only [flat, List.flatMap_cons] at this ⊢
      rw [List.getElem?_append_right (by rw [PO.len]; omega), PO.len, show (i + 1) * 3 + j - 3 = i * 3 + j by omega]
      exact this
theorem fill_one (x : PO) (ie : TypeInfo) (hs : ie.size = 3) : Instr.fill (fun i => some (i * ie.size, ie.size)) ((Array.range (1 * ie.size)).map ((PO.val ⟨0, 0, 0⟩).cells[· % (PO.val ⟨0, 0, 0⟩).cells.size]!)) [(0, .agg x.arr)] = some x.arr := by
  rw [hs]
  have h := Go.Great.fill_whole (s := 3) (by decide) [.agg x.arr] ((Array.range (1 * 3)).map ((PO.val ⟨0, 0, 0⟩).cells[· % (PO.val ⟨0, 0, 0⟩).cells.size]!)) (by intro v hv; simp at hv; subst hv; exact PO.len x) (by simp)
  have e : (List.flatMap (fun v : Value => v.cells.toList) [Value.agg x.arr]).toArray = x.arr := by simp [Value.cells]
  rw [e] at h
  exact h
/-- A slice literal of one operation. -/
theorem wpList_build_po {P : Program} {ops : Array Oper} {rest : List Oper} {o : Oper} {a : Act} {w : World} {Q : Exit → Act → World → Prop} (hg : o.guard = none) (t e : TypeId) (x : Operand) (ho : o.op = .buildSlice t 1 #[(0, x)])
    (mk : PO) (ie : TypeInfo) (hu : P.underlying t = some (.slice e)) (hie : P.info? e = some ie) (hz : ie.zero = some (PO.val ⟨0, 0, 0⟩)) (hs : ie.size = 3) (hx : a.eval x = .agg mk.arr)
    (h : wpList P ops Q rest (a.put o.dst (.slice (some ⟨w.heap.size, 0, none⟩) 1 1)) (w.alloc (.cells mk.arr e))) : wpList P ops Q (o :: rest) a w := by
  refine wpList_buildSlice hg t e 1 #[(0, x)] ho mk.arr ie (PO.val ⟨0, 0, 0⟩) hu hie hz (by rw [hs]; decide) (by rw [hs]; decide) ?_ h
  simp only [List.map_toArray, List.map_cons, List.map_nil, hx]
  exact fill_one mk ie hs
theorem new_po (w : World) (x : PO) (t : TypeId) : ∀ j u, x.arr.toList[j]? = some u → (w.alloc (.cells x.arr t)).cell? ((⟨w.heap.size, 0, none⟩ : Addr).add j) = some u := by
  intro j u hu
  rw [Addr.add_mid, Nat.zero_add, cell_of_row _ w.heap.size j x.arr t _ (heap_alloc_new w _)]
  simpa using hu
theorem PO.one_list (x : PO) : ∀ u ∈ x.arr.toList, u.oneCell' = true := by
  intro u hu
  simp only [PO.arr, List.mem_cons, List.not_mem_nil, or_false] at hu
  rcases hu with rfl | rfl | rfl <;> rfl
theorem Tryd.info33 : (Tryd.prog.info? 33).map (fun i => (i.zero, i.size, i.bytes)) = some (some (PO.val ⟨0, 0, 0⟩), 3, 24) := by kernel_rfl
theorem info_parts {i? : Option TypeInfo} {z : Value} {s b : Nat} (h : i?.map (fun i => (i.zero, i.size, i.bytes)) = some (some z, s, b)) : ∃ i, i? = some i ∧ i.zero = some z ∧ i.size = s ∧ i.bytes = b := by
  obtain ⟨i, hi, e⟩ := Option.map_eq_some_iff.1 h
  injection e with e1 e2
  injection e2 with e2 e3
  exact ⟨i, hi, e1, e2, e3⟩
/-- What the call owns reads as operations. -/
theorem own_ops {w : World} {B : Nat} {A : Option Addr} {n c : Nat} {l : List PO} (h : w.ownsRow B 33 3 (.slice A n c) n (flat l)) (hn : n = l.length) : OpsIn w A l := by
  intro i x hi
  have hlt := (List.getElem?_eq_some_iff.1 hi).1
  rcases h.2 with ⟨h1, h2⟩ | ⟨g, cap, cur, h1, hB, hg, rest⟩
  · omega
  · injection h1 with h1 h2 h3
    refine ⟨g, 0, h1, (Array.getElem?_eq_some_iff.1 hg).1, ?_⟩
    intro j v hv
    have := h.cells (g := g) (by rw [h1]; rfl) (i * 3 + j) v (flat_at l i j x v hi hv)
    rw [Addr.add_mid] at this
    rw [Nat.add_assoc]
    exact this
theorem own_form {w : World} {B e size n : Nat} {v : Value} {xs : List Value} (h : w.ownsRow B e size v n xs) : ∃ A c, v = .slice A n c := by
  rcases h.2 with ⟨rfl, rfl⟩ | ⟨g, cap, cur, rfl, _⟩
  · exact ⟨none, 0, rfl⟩
  · exact ⟨_, cap, rfl⟩
theorem ownsRow_kept {B : Nat} {e : TypeId} {k : Nat} {v : Value} {n : Nat} {xs : List Value} {w w' : World} (h : w.ownsRow B e k v n xs) (hb : Below w.heap.size w w') : w'.ownsRow B e k v n xs := by
  refine ⟨h.1, ?_⟩
  rcases h.2 with h2 | ⟨g, cap, cur, rfl, hB, hg, rest⟩
  · exact .inl h2
  · exact .inr ⟨g, cap, cur, rfl, hB, (hb.block g (Array.getElem?_eq_some_iff.1 hg).1).trans hg, rest⟩
theorem Below.any {w w' : World} (h : Below w.heap.size w w') (r : Option Nat) : w.grownBy w' r := ⟨h.os, h.tape, h.output, h.size, fun k hk _ => h.block k hk⟩
theorem grown_block {w w' : World} {r : Option Nat} {k : Nat} {o : Obj} (h : w.grownBy w' r) (hk : w.heap[k]? = some o) (hn : some k ≠ r) : w'.heap[k]? = some o :=
  (h.block k (Array.getElem?_eq_some_iff.1 hk).1 hn).trans hk
theorem next_at (P : Program) (w : World) (it : Nat) (s : ByteArray) (pos : Nat) (h : w.heap[it]? = some (.stringIter s pos)) (hp : pos < s.size) :
    ∃ w', (∀ ty, (Instr.next (.pointer (some ⟨it, 0, none⟩)) true ty).run P w = .ok (.tuple #[.bool true, .int .i64 pos, .int .i32 (Utf8.decode s pos).1]) w') ∧
      w'.heap[it]? = some (.stringIter s (pos + (Utf8.decode s pos).2)) ∧ w.grownBy w' (some it) := by
  have hlt := (Array.getElem?_eq_some_iff.1 h).1
  refine ⟨{ w with heap := w.heap.setIfInBounds it (.stringIter s (pos + (Utf8.decode s pos).2)) }, fun ty => ?_, ?_, ?_⟩
  · simp only [Instr.next, getObj, setObj, Sem.run_bind, Sem.run, h, Result.andThen, hp, if_true]
    simp [goInt]
  · simp [hlt]
  · exact ⟨rfl, rfl, rfl, by simp, fun k hk hn => by
      show (w.heap.setIfInBounds it _)[k]? = _
      rw [Array.getElem?_setIfInBounds, if_neg (by rintro rfl; exact hn rfl)]⟩
theorem next_over (P : Program) (w : World) (it : Nat) (s : ByteArray) (pos : Nat) (h : w.heap[it]? = some (.stringIter s pos)) (hp : ¬ pos < s.size) :
    ∀ ty, (Instr.next (.pointer (some ⟨it, 0, none⟩)) true ty).run P w = .ok (.tuple #[.bool false]) w := by
  intro ty
  simp [Instr.next, getObj, Sem.run, h, hp]
end Go.Proofs.YtfjeheioglmalaaDoor
