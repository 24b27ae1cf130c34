/- The laws' slice of operations in memory; further words on the state of a law. -/
import Derived.Test.YtfjeheioglmalaaSet
namespace Go.Proofs.Ytfjeheioglmalaa
open Go.RowKit

/-- The slice value's address leads to the operations. -/
def OpsAt (w : World) (A : Option Addr) (os : List Opr) : Prop := ∀ i o, os[i]? = some o → ∃ b off, A = some ⟨b, off, none⟩ ∧ b < w.heap.size ∧ w.rangeAt b (off + i * 12) o.arr.toList
theorem OpsAt.later {w w' : World} {A : Option Addr} {os : List Opr} (h : OpsAt w A os) (hb : Below w.heap.size w w') : OpsAt w' A os := by
  intro i o hi
  obtain ⟨b, off, h1, h2, h3⟩ := h i o hi
  exact ⟨b, off, h1, by have := hb.size; omega, range_below h3 hb h2⟩
theorem Opr.all (o : Opr) : o.arr.all (·.oneCell') = true := by simp [Opr.arr, Value.oneCell']
theorem Try.size38 : (Try.prog.info? 38).map (·.size) = some 12 := by kernel_rfl
section
variable {W w w2 : World} {B fb : Nat} {room : Int} {l : List Ms} {K K' : List (Nat × Obj)}
theorem St.weaken (h : St W B fb room l K w) (hk : ∀ p ∈ K', p ∈ K) : St W B fb room l K' w := by
  obtain ⟨sv, h1, h2, h3⟩ := h
  exact ⟨sv, h1, h2, fun p hp => h3 p (hk p hp)⟩
theorem St.lt (h : St W B fb room l K w) {p : Nat × Obj} (hp : p ∈ K) : p.1 < w.heap.size := by
  obtain ⟨sv, _, _, h3⟩ := h
  exact lt_of_block (h3 p hp).1
/-- One of the kept blocks is written. -/
theorem St.put (h : St W B fb room l K w) {g : Nat} {o o' : Obj} (hg : (g, o) ∈ K) (hB : B ≤ g) (hc : Chg (· = g) w w2) (ho : w2.heap[g]? = some o') (hk : ∀ p ∈ K', p = (g, o') ∨ (p ∈ K ∧ p.1 ≠ g)) : St W B fb room l K' w2 := by
  obtain ⟨sv, h1, h2, h3⟩ := h
  have hn := (h3 _ hg).2
  have hl := h1.lt
  have hbb := h1.base
  refine ⟨sv, h1.keep hc (fun k hk e => hn (e ▸ hk)), h2.trans (hc.below (by omega) (fun i hi e => by omega)), fun p hp => ?_⟩
  rcases hk p hp with rfl | ⟨hp, hne⟩
  · exact ⟨ho, hn⟩
  · exact ⟨(hc.block p.1 (lt_of_block (h3 p hp).1) hne).trans (h3 p hp).1, (h3 p hp).2⟩
/-- A new block that is not written: a map. -/
theorem St.made (h : St W B fb room l K w) (o : Obj) : St W B fb room l ((w.heap.size, o) :: K) (w.alloc o) := h.box (o := o) (Chg.refl _ _) (heap_alloc_new w o)
/-- What 'List' hands back, kept. -/
theorem St.listed {w' : World} {v : Value} (h : St W B fb room l K w) (hv : w'.ownsRow w.heap.size 34 15 v l.length (l.flatMap Ms.cells)) (hb : Below w.heap.size w w') :
    ∃ A c KL, v = .slice A l.length c ∧ St W B fb room l (KL ++ K) w' ∧ (∀ w2 : World, (∀ p ∈ KL, w2.heap[p.1]? = some p.2) → ∀ i m, l[i]? = some m → ∃ g, A = some ⟨g, 0, none⟩ ∧ w2.rangeAt g (i * 15) m.cells) ∧ ∀ p ∈ KL, w.heap.size ≤ p.1 := by
  have h' := h.grow hb
  rcases hv.2 with ⟨rfl, h0⟩ | ⟨g, c, cur, rfl, hg, hh, hnc, _, hsz, ht⟩
  · exact ⟨none, 0, [], by rw [h0], h', fun w2 _ i m hm => by
      have := (List.getElem?_eq_some_iff.1 hm).1; omega, fun p hp => by cases hp⟩
  · refine ⟨some ⟨g, 0, none⟩, c, [(g, .cells cur 34 (0, 0))], rfl, ?_, fun w2 hk i m hm => ⟨g, rfl, ?_⟩, fun p hp => by rw [List.mem_singleton.1 hp]; exact hg⟩
    · obtain ⟨sv, g1, _, _⟩ := h
      obtain ⟨sv', h1, h2, h3⟩ := h'
      refine ⟨sv, g1.below hb, h2, fun p hp => ?_⟩
      rcases List.mem_append.1 hp with hp | hp
      · rw [List.mem_singleton.1 hp]
        refine ⟨hh, fun e => ?_⟩
        have := (g1.own_lt e).2
        omega
      · have e : sv' = sv := by
          have a := h1.head
          rw [hb.block fb g1.lt, g1.head] at a
          injection a with a
          injection a with a
          have := congrArg (fun a : Array Value => a[1]?) a
          simpa using this.symm
        subst e
        exact h3 p hp
    · have hb2 := hk (g, .cells cur 34 (0, 0)) (List.mem_singleton.2 rfl)
      refine range_elem (l := l) ?_ i m hm
      intro j u hu
      rw [Nat.zero_add, cell_of_row w2 g j cur 34 (0, 0) hb2]
      rw [← ht, List.getElem?_take] at hu
      split at hu
      · simpa using hu
      · cases hu
end
theorem take_lines {l : List Ms} {j : Nat} {m : Ms} (h : l[j]? = some m) : (l.take (j + 1)).map (·.line) = (l.take j).map (·.line) ++ [m.line] := by
  obtain ⟨hj, rfl⟩ := List.getElem?_eq_some_iff.1 h
  rw [List.take_succ_eq_append_getElem hj, List.map_append]
  rfl
theorem seen_no {t room : Int} {l : List Ms} (h : Ok t room l) {j : Nat} {m : Ms} (hm : l[j]? = some m) : ((l.take j).map (·.line)).contains m.line = false := by
  rw [Bool.eq_false_iff]
  intro hc
  have hin : m.line ∈ (l.take j).map (·.line) := by simpa using hc
  obtain ⟨m', hm', hl⟩ := List.mem_map.1 hin
  obtain ⟨i, hi⟩ := List.getElem?_of_mem hm'
  have hlt := (List.getElem?_eq_some_iff.1 hi).1
  rw [List.length_take] at hlt
  rw [List.getElem?_take, if_pos (by omega)] at hi
  have := h.one (List.mem_of_getElem? hi) (List.mem_of_getElem? hm) hl
  subst this
  have hn := List.pairwise_iff_getElem.1 h.nodup
  have hi' := (List.getElem?_eq_some_iff.1 hi).1
  have hj' := (List.getElem?_eq_some_iff.1 hm).1
  have ea : l[i] = m' := (List.getElem?_eq_some_iff.1 hi).2
  have eb : l[j] = m' := (List.getElem?_eq_some_iff.1 hm).2
  exact hn i j (by simpa using hi') (by simpa using hj') (by omega) (by rw [List.getElem_map, List.getElem_map, ea, eb])
theorem seen_ins {t room : Int} {l : List Ms} (h : Ok t room l) {j : Nat} {m : Ms} (hm : l[j]? = some m) : ins ((l.take j).map (·.line)) m.line = (l.take (j + 1)).map (·.line) := by
  unfold ins
  rw [seen_no h hm, take_lines hm]
  rfl
end Go.Proofs.Ytfjeheioglmalaa
