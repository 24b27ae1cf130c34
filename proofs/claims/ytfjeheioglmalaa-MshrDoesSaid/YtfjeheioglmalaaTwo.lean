/- The state of the law MshrDoes: a file, the reference's file, and blocks that are kept. -/
import Derived.Test.YtfjeheioglmalaaRDoAny
import Derived.Test.YtfjeheioglmalaaArgs
import Derived.Test.YtfjeheioglmalaaOrdWalk
namespace Go.Proofs.Ytfjeheioglmalaa
open Go.RowKit
def Two (W : World) (B fb rb : Nat) (room : Int) (l l' : List Ms) (K : List (Nat × Obj)) (w : World) : Prop :=
  ∃ sv rv, FileIs w 60 34 B fb sv room l ∧ FileIs w 52 39 B rb rv room l' ∧ Below B W w ∧ ∀ p ∈ K, w.heap[p.1]? = some p.2 ∧ ¬ own fb sv p.1 ∧ ¬ own rb rv p.1
theorem files_apart {w : World} {B fb B' rb : Nat} {sv rv : Value} {room room' : Int} {l l' : List Ms} (h1 : FileIs w 60 34 B fb sv room l) (h2 : FileIs w 52 39 B' rb rv room' l') : ∀ k, own rb rv k → ¬ own fb sv k :=
  fun k hr hf => FileIs.other h1 h2 (by decide) (by decide) (by decide) (by decide) k hf hr
section
variable {W w w' : World} {B fb rb : Nat} {room : Int} {l l' : List Ms} {K : List (Nat × Obj)}
theorem Two.below (h : Two W B fb rb room l l' K w) : Below B W w := by obtain ⟨_, _, _, _, h, _⟩ := h; exact h
theorem Two.block (h : Two W B fb rb room l l' K w) {g : Nat} {o : Obj} (hk : (g, o) ∈ K) : w.heap[g]? = some o := by obtain ⟨_, _, _, _, _, h⟩ := h; exact (h _ hk).1
theorem Two.weaken {K' : List (Nat × Obj)} (h : Two W B fb rb room l l' K w) (hk : ∀ p ∈ K', p ∈ K) : Two W B fb rb room l l' K' w := by
  obtain ⟨sv, rv, h1, h2, h3, h4⟩ := h
  exact ⟨sv, rv, h1, h2, h3, fun p hp => h4 p (hk p hp)⟩
theorem Two.grow (h : Two W B fb rb room l l' K w) (hb : Below w.heap.size w w') : Two W B fb rb room l l' K w' := by
  obtain ⟨sv, rv, h1, h2, h3, h4⟩ := h
  exact ⟨sv, rv, h1.below hb, h2.below hb, h3.trans (hb.mono (by have := h1.base; have := h1.lt; omega)), fun p hp => ⟨(hb.block p.1 (lt_of_block (h4 p hp).1)).trans (h4 p hp).1, (h4 p hp).2⟩⟩
theorem Two.drawn (h : Two W B fb rb room l l' K w) (n : Nat) : Two W B fb rb room l l' K (w.drewN n) := h.grow (below_drawn (Below.refl _ w) n)
/-- A new box. -/
theorem Two.box {o o' : Obj} (h : Two W B fb rb room l l' K w) (hc : Chg (· = w.heap.size) (w.alloc o) w') (ho : w'.heap[w.heap.size]? = some o') : Two W B fb rb room l l' ((w.heap.size, o') :: K) w' := by
  obtain ⟨sv, rv, h1, h2, h3, h4⟩ := h
  have hb := boxed hc
  refine ⟨sv, rv, h1.below hb, h2.below hb, h3.trans (hb.mono (by have := h1.base; have := h1.lt; omega)), fun p hp => ?_⟩
  rcases List.mem_cons.1 hp with rfl | hp
  · exact ⟨ho, fun e => absurd (h1.own_lt e).2 (Nat.lt_irrefl _), fun e => absurd (h2.own_lt e).2 (Nat.lt_irrefl _)⟩
  · exact ⟨(hb.block p.1 (lt_of_block (h4 p hp).1)).trans (h4 p hp).1, (h4 p hp).2⟩
theorem Two.do_ (hm : l.length ≤ 1000) (h : Two W B fb rb room l l' K w) (o : Opr) (hg : ∀ m ∈ l, 0 ≤ m.got ∧ m.got ≤ 1000) :
    Calls Try.prog 9 #[.pointer (some ⟨fb, 0, none⟩), o.val] w fun e w' => e = .returned (.tuple #[(sDo room l o).1.1.val, .bool (sDo room l o).1.2.1, .int .i64 (sDo room l o).1.2.2]) ∧ Two W B fb rb room (sDo room l o).2 l' K w' := by
  obtain ⟨sv, rv, h1, h2, h3, h4⟩ := h
  refine (do_any w hm h1 o hg).mono fun _ w2 ⟨a, b⟩ => ⟨a, ?_⟩
  have hap := files_apart h1 h2
  obtain ⟨sv', g1, g2, g3⟩ := b
  refine ⟨sv', rv, g1, h2.keep g2 hap, h3.trans (g2.below ?_ ?_), fun p hp => ?_⟩
  · have := h1.base; have := h1.lt; omega
  · intro i hi e
    have := (h1.own_lt e).1
    omega
  · obtain ⟨a, b, c⟩ := h4 p hp
    have hlt := lt_of_block a
    refine ⟨(g2.block p.1 hlt b).trans a, fun e => ?_, c⟩
    rcases g3 p.1 e with h | h
    · exact b h
    · omega
theorem Two.own_ (hm : l'.length ≤ 1000) (h : Two W B fb rb room l l' K w) (o : Opr) {t : Int} (hl : (l'.length : Int) ≤ room) (he : ∀ m ∈ l', MOk t m) (ht : t ≤ 1000) :
    Calls Try.prog 10 #[.pointer (some ⟨rb, 0, none⟩), o.val] w fun e w' => e = .returned (.tuple #[(sDo room l' o).1.1.val, .bool (sDo room l' o).1.2.1, .int .i64 (sDo room l' o).1.2.2]) ∧ Two W B fb rb room l (sDo room l' o).2 K w' := by
  obtain ⟨sv, rv, h1, h2, h3, h4⟩ := h
  refine (own_any w hm h2 hl he ht o).mono fun _ w2 ⟨a, b⟩ => ⟨a, ?_⟩
  have hap := files_apart h1 h2
  obtain ⟨rv', g1, g2, g3⟩ := b
  refine ⟨sv, rv', h1.keep g2 (fun k a b => hap k b a), g1, h3.trans (g2.below ?_ ?_), fun p hp => ?_⟩
  · have := h1.base; have := h1.lt; omega
  · intro i hi e
    have := (h2.own_lt e).1
    omega
  · obtain ⟨a, b, c⟩ := h4 p hp
    have hlt := lt_of_block a
    refine ⟨(g2.block p.1 hlt c).trans a, b, fun e => ?_⟩
    rcases g3 p.1 e with h | h
    · exact c h
    · omega
theorem Two.owing (hm : l.length ≤ 1000) (h : Two W B fb rb room l l' K w) : Calls Try.prog 11 #[.pointer (some ⟨fb, 0, none⟩)] w fun e w' => e = .returned (.tuple #[.int .i64 (sOwing l).1, .bool (sOwing l).2]) ∧ Two W B fb rb room l l' K w' := by
  have h' := h
  obtain ⟨sv, rv, h1, h2, h3, h4⟩ := h
  exact (owing_any w hm h1).mono fun _ _ ⟨a, b⟩ => ⟨a, h'.grow b⟩
theorem Two.rowing (hm : l'.length ≤ 1000) (h : Two W B fb rb room l l' K w) : Calls Try.prog 12 #[.pointer (some ⟨rb, 0, none⟩)] w fun e w' => e = .returned (.tuple #[.int .i64 (sOwing l').1, .bool (sOwing l').2]) ∧ Two W B fb rb room l l' K w' := by
  have h' := h
  obtain ⟨sv, rv, h1, h2, h3, h4⟩ := h
  exact (rowing_any w hm h2).mono fun _ _ ⟨a, b⟩ => ⟨a, b ▸ h'⟩
theorem Two.get (hm : l.length ≤ 1000) (h : Two W B fb rb room l l' K w) (line : Int) : Calls Try.prog 13 #[.pointer (some ⟨fb, 0, none⟩), .int .i64 line] w fun e w' => e = .returned (.tuple #[(sGet l line).1.val, .bool (sGet l line).2]) ∧ Two W B fb rb room l l' K w' := by
  have h' := h
  obtain ⟨sv, rv, h1, h2, h3, h4⟩ := h
  exact (get_any w hm h1 line).mono fun _ _ ⟨a, b⟩ => ⟨a, h'.grow b⟩
theorem Two.rget (hm : l'.length ≤ 1000) (h : Two W B fb rb room l l' K w) (line : Int) {t : Int} (hl : (l'.length : Int) ≤ room) (he : ∀ m ∈ l', MOk t m) (ht : t ≤ 1000) : Calls Try.prog 14 #[.pointer (some ⟨rb, 0, none⟩), .int .i64 line] w fun e w' => e = .returned (.tuple #[(sGet l' line).1.val, .bool (sGet l' line).2]) ∧ Two W B fb rb room l l' K w' := by
  have h' := h
  obtain ⟨sv, rv, h1, h2, h3, h4⟩ := h
  exact (rget_any w hm h2 hl he ht line).mono fun _ _ ⟨a, b⟩ => ⟨a, h'.grow b⟩
/-- All of them, side by side: what 'List' hands back, and the reference's own row. -/
def Rows2 (l l' : List Ms) (rb : Nat) (A : Option Addr) (w : World) : Prop :=
  (∀ j m, l[j]? = some m → ∃ g, A = some ⟨g, 0, none⟩ ∧ w.rangeAt g (j * 15) m.cells) ∧
  ∃ A' c', w.cell? ⟨rb, 1, none⟩ = some (.slice A' l'.length c') ∧ ∀ j m, l'[j]? = some m → ∃ g, A' = some ⟨g, 0, none⟩ ∧ w.rangeAt g (j * 15) m.cells
theorem Two.list (hm : l.length ≤ 1000) (h : Two W B fb rb room l l' K w) : Calls Try.prog 15 #[.pointer (some ⟨fb, 0, none⟩)] w fun e w' => ∃ A c, e = .returned (.slice A l.length c) ∧ Two W B fb rb room l l' K w' ∧ Rows2 l l' rb A w' := by
  have h' := h
  obtain ⟨sv, rv, h1, h2, h3, h4⟩ := h
  refine (list_any w hm h1).mono fun e w2 ⟨v, hv, ho, hb⟩ => ?_
  obtain ⟨A, c, rfl⟩ := own_form ho
  refine ⟨A, c, hv, h'.grow hb, ?_, ?_⟩
  · intro j m hj
    rcases ho.2 with ⟨h0, h00⟩ | ⟨g, cap, cur, hs, _⟩
    · have := (List.getElem?_eq_some_iff.1 hj).1; omega
    · injection hs with e1
      subst e1
      exact ⟨g, rfl, range_elem (fun i u hu => by have := ho.cells (g := g) rfl i u hu; rwa [Addr.add_mid] at this) j m hj⟩
  · have f2 := h2.below hb
    obtain ⟨A', c', rfl⟩ := own_form f2.row
    refine ⟨A', c', f2.head1, fun j m hj => ?_⟩
    obtain ⟨g, c2, e⟩ := f2.form (by have := (List.getElem?_eq_some_iff.1 hj).1; omega)
    injection e with e1 _ e2
    subst e1
    subst e2
    exact ⟨g, rfl, f2.elem hj⟩
end
theorem Two.new {W w1 w2 w3 : World} {fb rb : Nat} {room : Int} (hb1 : Below W.heap.size W w1) (h1 : FileIs w2 60 34 w1.heap.size fb (.slice none 0 0) room []) (hb2 : Below w1.heap.size w1 w2) (h2 : FileIs w3 52 39 w2.heap.size rb (.slice none 0 0) room []) (hb3 : Below w2.heap.size w2 w3) :
    Two W W.heap.size fb rb room [] [] [] w3 :=
  ⟨_, _, (h1.lower hb1.size).below hb3, h2.lower (Nat.le_trans hb1.size hb2.size), (hb1.trans (hb2.mono hb1.size)).trans (hb3.mono (Nat.le_trans hb1.size hb2.size)), fun p hp => by cases hp⟩
end Go.Proofs.Ytfjeheioglmalaa
