/- Data of the reference file of misses: a whole struct is written into the row. -/
import Derived.Test.YtfjeheioglmalaaRef3
namespace Go.Proofs.Ytfjeheioglmalaa
open Go.RowKit

theorem heap_setCells (g : Nat) (t : TypeId) : ∀ (vs : List Value) (o : Nat) (w : World) (cur : List Value), w.heap[g]? = some (.cells cur.toArray t (0, 0)) → o + vs.length ≤ cur.length →
    (w.setCells g o vs).heap[g]? = some (.cells (cur.take o ++ vs ++ cur.drop (o + vs.length)).toArray t (0, 0))
  | [], o, w, cur, h, _ => by simpa [World.setCells] using h
  | v :: vs, o, w, cur, h, hl => by
    have hl' : o + (vs.length + 1) ≤ cur.length := by simpa using hl
    have h1 := heap_setCell_same w g o _ t v h
    rw [List.setIfInBounds_toArray] at h1
    have h2 := heap_setCells g t vs (o + 1) _ _ h1 (by rw [List.length_set]; omega)
    simp only [World.setCells]
    rw [h2]
    congr 3
    have e1 : (cur.set o v).take (o + 1) = cur.take o ++ [v] := by
      rw [List.take_add_one, List.take_set_of_le (Nat.le_refl o)]
      congr 1
      rw [List.getElem?_set_self (by omega)]
      rfl
    have e2 : (cur.set o v).drop (o + 1 + vs.length) = cur.drop (o + (v :: vs).length) := by
      rw [List.drop_set_of_lt (by omega)]
      congr 1
      simp only [List.length_cons]; omega
    rw [e1, e2]
    simp
theorem chg_setCells {E : Nat → Prop} {a : World} {g : Nat} (hg : E g) : ∀ (vs : List Value) (o : Nat) (w : World), Chg E a w → Chg E a (w.setCells g o vs)
  | [], _, _, h => h
  | v :: vs, o, _, h => chg_setCells hg vs (o + 1) _ (h.setCell hg v)
theorem flat_setAll {α : Type} (f : α → List Value) (s : Nat) (hf : ∀ a, (f a).length = s) (a' : α) : ∀ (l : List α) (i : Nat), i < l.length →
    (l.flatMap f).take (i * s) ++ f a' ++ (l.flatMap f).drop (i * s + s) = (l.set i a').flatMap f
  | [], i, h => by simp at h
  | b :: l, 0, _ => by
    rw [List.flatMap_cons, List.set_cons_zero, List.flatMap_cons, Nat.zero_mul, List.take_zero, Nat.zero_add, List.drop_left' (hf b)]
    rfl
  | b :: l, i + 1, h => by
    have ih := flat_setAll f s hf a' l i (by simpa using h)
    rw [List.set_cons_succ, List.flatMap_cons, List.flatMap_cons, ← ih]
    have e1 : (i + 1) * s = (f b).length + i * s := by rw [hf, Nat.succ_mul]; omega
    rw [e1, List.take_length_add_append, show (f b).length + i * s + s = (f b).length + (i * s + s) by omega, List.drop_length_add_append]
    simp
theorem FileIs.setAll {w : World} {ft mt B fb g n c : Nat} {room : Int} {l : List Ms} {i : Nat} {m : Ms} (h : FileIs w ft mt B fb (.slice (some ⟨g, 0, none⟩) n c) room l) (hm : l[i]? = some m) (m' : Ms) :
    FileIs (w.setCells g (i * 15) m'.cells) ft mt B fb (.slice (some ⟨g, 0, none⟩) n c) room (l.set i m') ∧ Chg (own fb (.slice (some ⟨g, 0, none⟩) n c)) w (w.setCells g (i * 15) m'.cells) := by
  have hi : i < l.length := (List.getElem?_eq_some_iff.1 hm).1
  have hc := chg_setCells (E := own fb (.slice (some ⟨g, 0, none⟩) n c)) (a := w) (g := g) (.inr rfl) m'.cells (i * 15) w (Chg.refl _ _)
  refine ⟨?_, hc⟩
  have hc2 := chg_setCells (E := (· = g)) (a := w) (g := g) rfl m'.cells (i * 15) w (Chg.refl _ _)
  obtain ⟨cur, hh, hcs, ht, hnc, hcm, hb⟩ := h.block
  have hn := h.len
  have hN : n * 15 ≤ cur.toList.length := by rw [Array.length_toList, hcs]; exact Nat.mul_le_mul_right 15 hnc
  have hlt : i * 15 + 15 ≤ n * 15 := by rw [hn]; have := Nat.mul_le_mul_right 15 (show i + 1 ≤ l.length from hi); rwa [Nat.succ_mul] at this
  have hset := heap_setCells g mt m'.cells (i * 15) w cur.toList (by simpa using hh) (by rw [Ms.len]; omega)
  rw [Ms.len] at hset
  have hflat : (l.flatMap Ms.cells).length = n * 15 := by rw [flat_length l Ms.cells 15 Ms.len, hn]
  have ecur : cur.toList = l.flatMap Ms.cells ++ cur.toList.drop (n * 15) := by rw [← ht]; exact (List.take_append_drop _ _).symm
  refine ⟨(hc2.block fb h.lt (fun e => h.ne e)).trans h.head, ⟨?_, .inr ⟨g, c, _, by rw [List.length_set, ← hn], hb, hset, by rw [List.length_set, ← hn]; exact hnc, hcm, ?_, ?_⟩⟩, h.base, h.apart⟩
  · exact flat_length _ _ _ Ms.len
  · simp only [List.size_toArray, List.length_append, List.length_take, List.length_drop, Ms.len]
    rw [← hcs, ← Array.length_toList]
    omega
  · rw [List.length_set, ← hn]
    have k1 : cur.toList.take (i * 15) = (l.flatMap Ms.cells).take (i * 15) := by rw [← ht, List.take_take, Nat.min_eq_left (by omega)]
    have k2 : cur.toList.drop (i * 15 + 15) = (l.flatMap Ms.cells).drop (i * 15 + 15) ++ cur.toList.drop (n * 15) := by
      rw [← List.drop_append_of_le_length (by rw [hflat]; omega), ← ecur]
    have hl2 : ((l.set i m').flatMap Ms.cells).length = n * 15 := by rw [flat_length _ Ms.cells 15 Ms.len, List.length_set, hn]
    rw [k1, k2, ← List.append_assoc, flat_setAll Ms.cells 15 Ms.len m' l i hi]
    show List.take (n * 15) _ = _
    rw [List.take_append_of_le_length (by rw [hl2]; exact Nat.le_refl _), List.take_of_length_le (by rw [hl2]; exact Nat.le_refl _)]
/-- A whole miss is written into the row. -/
theorem wpList_store_elem {P : Program} {ops : Array Oper} {rest : List Oper} {o : Oper} {a : Act} {w : World} {Q : Exit → Act → World → Prop} (hgd : o.guard = none) (ty : TypeId) (x y : Operand) (ho : o.op = .store ty x y)
    {ft mt B fb g n c : Nat} {room : Int} {l : List Ms} {i : Nat} {m : Ms} (hf : FileIs w ft mt B fb (.slice (some ⟨g, 0, none⟩) n c) room l) (hm : l[i]? = some m) (m' : Ms)
    (hx : a.eval x = .pointer (some ⟨g, i * 15, none⟩)) (hy : a.eval y = .agg m'.cells.toArray) (hi : (P.info? ty).map (·.size) = some 15)
    (h : ∀ w2, FileIs w2 ft mt B fb (.slice (some ⟨g, 0, none⟩) n c) room (l.set i m') → Chg (own fb (.slice (some ⟨g, 0, none⟩) n c)) w w2 → wpList P ops Q rest (a.put o.dst undef) w2) : wpList P ops Q (o :: rest) a w := by
  refine wpList_store_mid hgd ty x y ho g (i * 15) m'.cells.toArray hx hy ?_ hi (Ms.all _) ?_
  · intro j hj
    have hj' : j < m.cells.length := hj
    exact ⟨by rw [hf.elem hm j _ (List.getElem?_eq_getElem hj')]; rfl, hf.rowFree _⟩
  · obtain ⟨h1, h2⟩ := hf.setAll hm m'
    exact h _ h1 h2
/-- Words are written into a boxed miss. -/
theorem wpList_store_words {P : Program} {ops : Array Oper} {rest : List Oper} {o : Oper} {a : Act} {w : World} {Q : Exit → Act → World → Prop} (hgd : o.guard = none) (ty : TypeId) (x y : Operand) (ho : o.op = .store ty x y)
    (g : Nat) (t : TypeId) (m m' : Ms) (old : Array Value) (hg : w.heap[g]? = some (.cells old t (0, 0))) (ho2 : old = m.cells.toArray) (v : W8) (hm' : m' = { m with w0 := v.1, w1 := v.2.1, w2 := v.2.2.1, w3 := v.2.2.2.1, w4 := v.2.2.2.2.1, w5 := v.2.2.2.2.2.1, w6 := v.2.2.2.2.2.2.1, w7 := v.2.2.2.2.2.2.2 })
    (hx : a.eval x = .pointer (some ⟨g, 5, none⟩)) (hy : a.eval y = v.val) (hi : (P.info? ty).map (·.size) = some 8)
    (h : ∀ w2, w2.heap[g]? = some (.cells m'.cells.toArray t (0, 0)) → Chg (· = g) w w2 → wpList P ops Q rest (a.put o.dst undef) w2) : wpList P ops Q (o :: rest) a w := by
  subst ho2
  obtain ⟨v0, v1, v2, v3, v4, v5, v6, v7⟩ := v
  refine wpList_store_mid hgd ty x y ho g 5 #[.int .i64 v0, .int .i64 v1, .int .i64 v2, .int .i64 v3, .int .i64 v4, .int .i64 v5, .int .i64 v6, .int .i64 v7] hx hy ?_ hi (by simp [Value.oneCell']) ?_
  · intro j hj
    have hj' : 5 + j < m.cells.toArray.size := by have : j < 8 := hj; show 5 + j < 15; omega
    refine ⟨by rw [cell_of_row w g (5 + j) _ _ _ hg, Array.getElem?_eq_getElem hj']; rfl, frozen_of_row w g _ _ _ hg⟩
  · subst hm'
    refine h _ ?_ (chg_setCells (E := (· = g)) rfl _ _ _ (Chg.refl _ _))
    exact heap_setCells g t [.int .i64 v0, .int .i64 v1, .int .i64 v2, .int .i64 v3, .int .i64 v4, .int .i64 v5, .int .i64 v6, .int .i64 v7] 5 w m.cells hg (by show 5 + 8 ≤ 15; omega)
/-- In a region that draws: a boxed struct is read whole. -/
theorem still_load_row {P : Program} {ops : Array Oper} {rest : List Oper} {o : Oper} {a : Act} {w : World} {Q : Act → Prop} (hgd : o.guard = none) (ty : TypeId) (x : Operand) (ho : o.op = .load ty x)
    (g : Nat) (hx : a.eval x = .pointer (some ⟨g, 0, none⟩)) (t : TypeId) (cs : Array Value) (fr : Nat × Nat) (d : TypeDesc) (hg : w.heap[g]? = some (.cells cs t fr)) (hu : P.underlying ty = some d) (hd : (match d with | .struct _ | .array _ _ => true | _ => false) = true) (hi : (P.info? ty).map (·.size) = some cs.size)
    (h : wpStill P ops w Q rest (a.put o.dst (.agg cs))) : wpStill P ops w Q (o :: rest) a := by
  refine wpStill_step (fun K hK => ?_)
  rw [if_pos (by simp [Region.wanted, hgd])]
  unfold Oper.still execOp
  simp only [ho, hx, Instr.loadAt, Instr.sureAddr, Sem.run_bind, Sem.run_pure, Result.andThen_ok, run_loadVar_row w g t ty cs fr d hg hu hd hi, Oper.stillUpon_value]
  exact hK _ h
theorem Try.size32 : (Try.prog.info? 32).map (·.size) = some 8 := by kernel_rfl
end Go.Proofs.Ytfjeheioglmalaa
