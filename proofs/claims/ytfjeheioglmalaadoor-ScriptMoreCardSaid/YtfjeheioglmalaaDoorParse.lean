/- The program's Parse. -/
import Derived.Test.YtfjeheioglmalaaDoorOp
import Derived.Test.YtfjeheioglmalaaDoorRow
namespace Go.Proofs.YtfjeheioglmalaaDoor
open Go.RowKit Go.Lib
set_option linter.unusedVariables false
/-- What a reader of texts gives back. -/
def ParsePost (l : List UInt8) (w : World) (e : Ending) (w' : World) : Prop :=
  ∃ A c, e = .returned (.tuple #[.slice A (parseP l).1.length c, .int .i64 (parseP l).2]) ∧ OpsIn w' A (parseP l).1 ∧ Below w.heap.size w w'
theorem opsIn_nil (w : World) (A : Option Addr) : OpsIn w A [] := fun i x h => by simp at h
theorem mgo_bad {c : UInt8} {r : List UInt8} {s : Sc} {acc : List PO} (h32 : c ≠ 32) (h : (s.rune c.toNat).2 = false) : mgo (c :: r) s acc = none := by
  rw [mgo, if_neg h32]
  unfold run1
  rw [h]; rfl
theorem mgo_rune {c : UInt8} {r : List UInt8} {s : Sc} {acc : List PO} (h32 : c ≠ 32) (h : (s.rune c.toNat).2 = true) : mgo (c :: r) s acc = mgo r (s.rune c.toNat).1 acc := by
  rw [mgo, if_neg h32]
  unfold run1
  rw [h]; rfl
theorem mgo_op {r : List UInt8} {s : Sc} {acc : List PO} {x : PO} (h : s.op = some x) : mgo (32 :: r) s acc = mgo r Sc.zero (acc ++ [x]) := by
  rw [mgo, if_pos rfl, h]; rfl
theorem mgo_noop {r : List UInt8} {s : Sc} {acc : List PO} (h : s.op = none) : mgo (32 :: r) s acc = none := by
  rw [mgo, if_pos rfl, h]; rfl
theorem mgo_end {s : Sc} {acc : List PO} {x : PO} (h : s.op = some x) : mgo [] s acc = some (acc ++ [x]) := by rw [mgo, h]; rfl
theorem mgo_noend {s : Sc} {acc : List PO} (h : s.op = none) : mgo [] s acc = none := by rw [mgo, h]; rfl
theorem parse_none {l : List UInt8} (h4 : ¬ 4000 < l.length) (h0 : l ≠ []) (h : mgo l Sc.zero [] = none) : parseP l = ([], 2) := by
  unfold parseP
  rw [if_neg h4, if_neg h0, ← mgo_all, h]
theorem parse_some {l : List UInt8} {x : List PO} (h4 : ¬ 4000 < l.length) (h0 : l ≠ []) (h : mgo l Sc.zero [] = some x) : parseP l = if 64 < x.length then ([], 4) else (x, 0) := by
  unfold parseP
  rw [if_neg h4, if_neg h0, ← mgo_all, h]
/-- A rune beyond ASCII is none of the scanner's. -/
theorem rune_far {s : Sc} {c : Int} (h : 128 ≤ c) : (s.rune c).2 = false := by
  unfold Sc.rune kindOf
  rw [if_neg (by omega), if_neg (by omega), if_neg (by omega)]
  simp
  intro _
  rw [if_neg (by omega), if_neg (by omega), if_neg (by omega), if_neg (by omega), if_neg (by omega)]
  decide
theorem rune_bound {s : Sc} {c : Int} (h : (s.rune c).2 = true) (hn0 : 0 ≤ s.num) (hn1 : s.num ≤ 2147483648) (hd0 : 0 ≤ s.dig) : 0 ≤ (s.rune c).1.num ∧ (s.rune c).1.num ≤ 2147483648 ∧ 0 ≤ (s.rune c).1.dig ∧ (s.rune c).1.dig ≤ s.dig + 1 := by
  unfold Sc.rune at h ⊢
  split
  · rename_i hc
    rw [if_pos hc] at h
    unfold Sc.digit at h ⊢
    split
    · rename_i hd
      rw [if_pos hd] at h
      cases h
    · rename_i hd
      rw [if_neg hd] at h
      have := of_decide_eq_true h
      simp only
      omega
  · split
    · simp only; omega
    · split
      · simp only; omega
      · simp only; omega
structure PRel (l : List UInt8) (w wr : World) (it : Nat) (v : Value) (k : Nat) (acc : List PO) (s : Sc) (g : Nat) : Prop where
  own : wr.ownsRow w.heap.size 33 3 v acc.length (flat acc)
  neg : v.ownBlock ≠ some g
  nei : v.ownBlock ≠ some it
  git : g ≠ it
  hg : w.heap.size ≤ g
  hit : w.heap.size ≤ it
  sc : ScIs wr g s
  iter : wr.heap[it]? = some (.stringIter ⟨(l ++ [32]).toArray⟩ k)
  below : Below w.heap.size w wr
  hk : k ≤ l.length + 1
  hacc : acc.length ≤ k
  num0 : 0 ≤ s.num
  num1 : s.num ≤ 2147483648
  dig0 : 0 ≤ s.dig
  dig1 : s.dig ≤ k
  inv : (k ≤ l.length ∧ mgo (l.drop k) s acc = mgo l Sc.zero []) ∨ (k = l.length + 1 ∧ mgo l Sc.zero [] = some acc)
theorem str_ne (c : UInt8) (r : List UInt8) : ((ByteArray.mk (c :: r).toArray) == (ByteArray.mk #[])) = false := by
  first | rfl | (simp [BEq.beq]; done) | (unfold BEq.beq; simp [instBEqByteArray])
theorem own_lt {w : World} {B e size n : Nat} {v : Value} {xs : List Value} (h : w.ownsRow B e size v n xs) : ∀ k, v.ownBlock = some k → B ≤ k ∧ k < w.heap.size := h.lt
theorem iter_pos {w : World} {it k : Nat} {s : ByteArray} (h : w.heap[it]? = some (.stringIter s k)) : w.iterPos it = k := by unfold World.iterPos; rw [h]
theorem prel_start (l : List UInt8) (w : World) : PRel l w ((w.alloc (.cells #[.int .i64 0, .int .i64 0, .int .i64 0, .int .i64 0, .int .i64 0, .bool false, .bool false] 63)).iter ⟨(l ++ [32]).toArray⟩ 0) (w.heap.size + 1) (.slice none 0 0) 0 [] Sc.zero w.heap.size := by
  have h1 := World.iter_heap (w.alloc (.cells #[.int .i64 0, .int .i64 0, .int .i64 0, .int .i64 0, .int .i64 0, .bool false, .bool false] 63)) ⟨(l ++ [32]).toArray⟩ 0
  have hz : (w.alloc (.cells #[.int .i64 0, .int .i64 0, .int .i64 0, .int .i64 0, .int .i64 0, .bool false, .bool false] 63)).heap.size = w.heap.size + 1 := by simp
  rw [hz] at h1
  exact {
    own := World.ownsRow_nil _ _ _ _
    neg := by simp [Value.ownBlock]
    nei := by simp [Value.ownBlock]
    git := by omega
    hg := Nat.le_refl _
    hit := by omega
    sc := (Below.heap_alloc _ _ w.heap.size (by rw [hz]; omega)).trans (heap_alloc_new w _)
    iter := h1
    below := ((Below.refl _ _).alloc (Nat.le_refl _) _).alloc (by rw [hz]; omega) _
    hk := by omega
    hacc := by simp
    num0 := by decide
    num1 := by decide
    dig0 := by decide
    dig1 := by decide
    inv := .inl ⟨by omega, rfl⟩ }
theorem PRel.sc1 {l : List UInt8} {w wr w1 : World} {it k g : Nat} {v : Value} {acc : List PO} {s : Sc} (R : PRel l w wr it v k acc s g) (h : wr.grownBy w1 (some it)) : ScIs w1 g s :=
  grown_block h R.sc (fun e => R.git (Option.some.inj e))
theorem PRel.digle {l : List UInt8} {w wr : World} {it k g : Nat} {v : Value} {acc : List PO} {s : Sc} (R : PRel l w wr it v k acc s g) (h : ¬ (4000 : Int) < l.length) : s.dig ≤ 5000 := by
  have := R.dig1; have := R.hk; omega
theorem at_end {l : List UInt8} {k : Nat} {c : UInt8} (h : (l ++ [32])[k]? = some c) : (k < l.length ∧ l.drop k = c :: l.drop (k + 1)) ∨ (k = l.length ∧ c = 32 ∧ l.drop k = []) := by
  have hk := (List.getElem?_eq_some_iff.1 h).1
  simp only [List.length_append, List.length_singleton] at hk
  by_cases hlt : k < l.length
  · left
    rw [List.getElem?_append_left hlt] at h
    obtain ⟨h1, h2⟩ := List.getElem?_eq_some_iff.1 h
    exact ⟨hlt, by rw [List.drop_eq_getElem_cons h1, h2]⟩
  · right
    have : k = l.length := by omega
    subst this
    rw [List.getElem?_append_right (Nat.le_refl _), Nat.sub_self] at h
    exact ⟨rfl, (Option.some.inj h).symm, by simp⟩
theorem PRel.mgo_eq {l : List UInt8} {w wr : World} {it k g : Nat} {v : Value} {acc : List PO} {s : Sc} {c : UInt8} (R : PRel l w wr it v k acc s g) (hc : (l ++ [32])[k]? = some c) : mgo (l.drop k) s acc = mgo l Sc.zero [] := by
  have hk := (List.getElem?_eq_some_iff.1 hc).1
  simp only [List.length_append, List.length_singleton] at hk
  rcases R.inv with ⟨_, h⟩ | ⟨h, _⟩
  · exact h
  · omega
theorem PRel.noop {l : List UInt8} {w wr : World} {it k g : Nat} {v : Value} {acc : List PO} {s : Sc} (R : PRel l w wr it v k acc s g) (hc : (l ++ [32])[k]? = some 32) (ho : s.op = none) : mgo l Sc.zero [] = none := by
  rw [← R.mgo_eq hc]
  rcases at_end hc with ⟨_, h⟩ | ⟨_, _, h⟩
  · rw [h]; exact mgo_noop ho
  · rw [h]; exact mgo_noend ho
theorem dec_ascii {l : List UInt8} {k : Nat} {c : UInt8} (h : l[k]? = some c) (hc : c.toNat < 128) : Utf8.decode ⟨l.toArray⟩ k = (c.toNat, 1) := by
  obtain ⟨h1, h2⟩ := List.getElem?_eq_some_iff.1 h
  have hk : k < (ByteArray.mk l.toArray).size := by simpa [ByteArray.size] using h1
  have hb : (ByteArray.mk l.toArray)[k]'hk = c := h2
  rw [decode_ascii _ k hk (by rw [hb]; exact hc), hb]
theorem PRel.b1 {l : List UInt8} {w wr w1 : World} {it k g : Nat} {v : Value} {acc : List PO} {s : Sc} (R : PRel l w wr it v k acc s g) (h : wr.grownBy w1 (some it)) : Below w.heap.size w w1 :=
  R.below.grown h R.below.size (fun k e => by cases e; exact R.hit)
theorem PRel.b2 {l : List UInt8} {w wr w1 w2 : World} {it k g : Nat} {v : Value} {acc : List PO} {s : Sc} (R : PRel l w wr it v k acc s g) (h : wr.grownBy w1 (some it)) (h2 : w1.grownBy w2 (some g)) : Below w.heap.size w w2 :=
  (R.b1 h).grown h2 (R.b1 h).size (fun k e => by cases e; exact R.hg)
theorem PRel.own2 {l : List UInt8} {w wr w1 w2 : World} {it k g : Nat} {v : Value} {acc : List PO} {s : Sc} (R : PRel l w wr it v k acc s g) (h : wr.grownBy w1 (some it)) (h2 : w1.grownBy w2 (some g)) : w2.ownsRow w.heap.size 33 3 v acc.length (flat acc) :=
  (R.own.kept h (.inr R.nei)).kept h2 (.inr R.neg)
theorem PRel.iter2 {l : List UInt8} {w wr w1 w2 : World} {it k g q : Nat} {v : Value} {acc : List PO} {s : Sc} (R : PRel l w wr it v k acc s g) (h2 : w1.grownBy w2 (some g)) (hi : w1.heap[it]? = some (.stringIter ⟨(l ++ [32]).toArray⟩ q)) : w2.heap[it]? = some (.stringIter ⟨(l ++ [32]).toArray⟩ q) :=
  grown_block h2 hi (fun e => R.git (Option.some.inj e).symm)
/-- Behind a rune that is one of the scanner's. -/
theorem PRel.rune {l : List UInt8} {w wr w1 w2 : World} {it k g : Nat} {v : Value} {acc : List PO} {s : Sc} {c : UInt8} (R : PRel l w wr it v k acc s g) (hc : (l ++ [32])[k]? = some c) (h32 : c ≠ 32) (hr : (s.rune c.toNat).2 = true)
    (h : wr.grownBy w1 (some it)) (hi : w1.heap[it]? = some (.stringIter ⟨(l ++ [32]).toArray⟩ (k + 1))) (h2 : w1.grownBy w2 (some g)) (hs : ScIs w2 g (s.rune c.toNat).1) : PRel l w w2 it v (k + 1) acc (s.rune c.toNat).1 g := by
  obtain ⟨n0, n1, d0, d1⟩ := rune_bound hr R.num0 R.num1 R.dig0
  have hk : k < l.length ∧ l.drop k = c :: l.drop (k + 1) := by
    rcases at_end hc with h | ⟨_, h, _⟩
    · exact h
    · exact absurd h h32
  exact {
    own := R.own2 h h2
    neg := R.neg
    nei := R.nei
    git := R.git
    hg := R.hg
    hit := R.hit
    sc := hs
    iter := R.iter2 h2 hi
    below := R.b2 h h2
    hk := by omega
    hacc := by have := R.hacc; omega
    num0 := n0
    num1 := n1
    dig0 := d0
    dig1 := by have := R.dig1; omega
    inv := .inl ⟨by omega, by rw [← R.mgo_eq hc, hk.2, mgo_rune h32 hr]⟩ }
theorem PRel.norune {l : List UInt8} {w wr : World} {it k g : Nat} {v : Value} {acc : List PO} {s : Sc} {c : UInt8} (R : PRel l w wr it v k acc s g) (hc : (l ++ [32])[k]? = some c) (h32 : c ≠ 32) (hr : (s.rune c.toNat).2 = false) : mgo l Sc.zero [] = none := by
  rw [← R.mgo_eq hc]
  rcases at_end hc with ⟨_, h⟩ | ⟨_, h, _⟩
  · rw [h]; exact mgo_bad h32 hr
  · exact absurd h h32
/-- Behind a blank that ends an operation. -/
theorem PRel.op {l : List UInt8} {w wr w1 w2 w3 w5 : World} {it k g : Nat} {v v' : Value} {acc : List PO} {s : Sc} {x : PO} {o : Obj} (R : PRel l w wr it v k acc s g) (hc : (l ++ [32])[k]? = some 32) (ho : s.op = some x)
    (h : wr.grownBy w1 (some it)) (hi : w1.heap[it]? = some (.stringIter ⟨(l ++ [32]).toArray⟩ (k + 1))) (h2 : w1.grownBy w2 (some g)) (h3 : Below w2.heap.size w2 w3)
    (own : w5.ownsRow w.heap.size 33 3 v' (acc.length + 1) (flat acc ++ x.arr.toList)) (h5 : (w3.alloc o).grownBy w5 v.ownBlock) (hb : v'.ownBlock = v.ownBlock ∨ v'.ownBlock = some (w3.alloc o).heap.size) :
    PRel l w (w5.alloc (.cells #[.int .i64 0, .int .i64 0, .int .i64 0, .int .i64 0, .int .i64 0, .bool false, .bool false] 63)) it v' (k + 1) (acc ++ [x]) Sc.zero w5.heap.size := by
  have hi2 := R.iter2 h2 hi
  have hlt2 := (Array.getElem?_eq_some_iff.1 hi2).1
  have hi3 := (h3.block it hlt2).trans hi2
  have hlt3 := (Array.getElem?_eq_some_iff.1 hi3).1
  have hi4 := (Below.heap_alloc w3 o it hlt3).trans hi3
  have hi5 := grown_block h5 hi4 (fun e => R.nei e.symm)
  have hlt5 := (Array.getElem?_eq_some_iff.1 hi5).1
  have b2 := R.b2 h h2
  have b3 : Below w.heap.size w w3 := b2.trans (h3.mono b2.size)
  have b4 : Below w.heap.size w (w3.alloc o) := b3.alloc b3.size o
  have b5 : Below w.heap.size w w5 := b4.grown h5 b4.size (fun k e => (R.own.lt k e).1)
  have hlt := own.lt
  exact {
    own := by
      rw [flat_snoc, List.length_append, List.length_singleton]
      exact own.alloc _
    neg := fun e => by have := (hlt _ e).2; omega
    nei := fun e => by
      rcases hb with hb | hb
      · exact R.nei (hb ▸ e)
      · rw [hb] at e
        have := Option.some.inj e
        simp at this
        omega
    git := by omega
    hg := b5.size
    hit := R.hit
    sc := heap_alloc_new w5 _
    iter := (Below.heap_alloc w5 _ it hlt5).trans hi5
    below := b5.alloc b5.size _
    hk := by have := (List.getElem?_eq_some_iff.1 hc).1; simp at this; omega
    hacc := by have := R.hacc; simp; omega
    num0 := by decide
    num1 := by decide
    dig0 := by decide
    dig1 := by show (0 : Int) ≤ _; omega
    inv := by
      rcases at_end hc with ⟨hk, hd⟩ | ⟨hk, _, hd⟩
      · exact .inl ⟨by omega, by rw [← R.mgo_eq hc, hd, mgo_op ho]⟩
      · exact .inr ⟨by omega, by rw [← R.mgo_eq hc, hd, mgo_end ho]⟩ }
theorem PRel.over {l : List UInt8} {w wr : World} {it k g : Nat} {v : Value} {acc : List PO} {s : Sc} (R : PRel l w wr it v k acc s g) (h : ¬ k < l.length + 1) : mgo l Sc.zero [] = some acc := by
  rcases R.inv with ⟨h', _⟩ | ⟨_, h'⟩
  · omega
  · exact h'
theorem dec_high {l : List UInt8} {k : Nat} {c : UInt8} (h : l[k]? = some c) (hc : ¬ c.toNat < 128) : 128 ≤ (Utf8.decode ⟨l.toArray⟩ k).1 := by
  obtain ⟨h1, h2⟩ := List.getElem?_eq_some_iff.1 h
  have hk : k < (ByteArray.mk l.toArray).size := by simpa [ByteArray.size] using h1
  have hb : (ByteArray.mk l.toArray)[k]'hk = c := h2
  exact (decode_high _ k hk (by rw [hb]; omega)).1
set_option maxRecDepth 100000 in
set_option maxHeartbeats 4000000 in
theorem parse_walk (l : List UInt8) (hl : l.length ≤ 100000) (w : World) : Calls Tryd.prog 11 #[.string ⟨l.toArray⟩] w (ParsePost l w) := by
  have hsz : (ByteArray.mk l.toArray).size = l.length := by simp [ByteArray.size]
  by_cases h4 : 4000 < l.length
  · have h4' : (4000 : Int) < l.length := by omega
    have HP : Hid (parseP l = ([], 4)) := by unfold parseP; exact if_pos h4
    go_enter Tryd.func11, Tryd.ntmps11
    go_wp2_with fail
    go_ret2
    refine ⟨none, 0, ?_, ?_, Below.refl _ _⟩ <;> rw [HP.out]
    · rfl
    · exact opsIn_nil _ _
  · have h4' : ¬ (4000 : Int) < l.length := by omega
    cases l with
    | nil =>
      have HP : Hid (parseP [] = ([], 0)) := rfl
      go_enter Tryd.func11, Tryd.ntmps11
      go_wp2_with fail
      go_ret2
      refine ⟨none, 0, ?_, ?_, Below.refl _ _⟩ <;> rw [HP.out]
      · rfl
      · exact opsIn_nil _ _
    | cons b t =>
      obtain ⟨l, hl0⟩ : ∃ l, b :: t = l := ⟨_, rfl⟩
      have hne : l.isEmpty = false := by rw [← hl0]; rfl
      have hnil : l ≠ [] := by rw [← hl0]; simp
      rw [hl0] at hl h4 h4' hsz ⊢
      clear hl0
      have HN := Lib.hid hnil
      have H4 := Lib.hid h4
      have hcat := fun w => cat l [32] (by omega) (by simp) w
      clear hnil h4
      go_enter Tryd.func11, Tryd.ntmps11
      go_wp2_with fail
      obtain ⟨i0, hi0, hz0, hz1, hz2⟩ := info_parts Tryd.info33
      have HI0 := Lib.hid hi0
      have HZ0 := Lib.hid hz0
      have HZ1 := Lib.hid hz1
      have HZ2 := Lib.hid hz2
      clear hi0 hz0 hz1 hz2
      go_loopw [4, 5] (fun v p wr => ∃ (k : Nat) (acc : List PO) (s : Sc) (g : Nat), p = .pointer (some ⟨g, 0, none⟩) ∧ PRel l w wr (w.heap.size + 1) v k acc s g) (fun _ _ wr => l.length + 2 - wr.iterPos (w.heap.size + 1))
      case atStart => exact ⟨0, [], Sc.zero, w.heap.size, rfl, prel_start l w⟩
      case round =>
        obtain ⟨k, acc, s, g, rfl, R⟩ := hrel
        have HR := Lib.hid R
        clear R
        by_cases hlt : k < l.length + 1
        · obtain ⟨w1, hnx, hit1, hgr1⟩ := next_at Tryd.prog wr (w.heap.size + 1) ⟨(l ++ [32]).toArray⟩ k HR.out.iter (by simp [ByteArray.size]; omega)
          obtain ⟨c, hc⟩ : ∃ c, (l ++ [32])[k]? = some c := ⟨_, List.getElem?_eq_getElem (by simp; omega)⟩
          have HC := Lib.hid hc
          have HI := Lib.hid hit1
          have HG := Lib.hid hgr1
          clear hc hit1 hgr1
          obtain ⟨A, cc, hv⟩ := own_form HR.out.own
          subst hv
          by_cases hasc : c.toNat < 128
          · have hdec : Utf8.decode ⟨(l ++ [32]).toArray⟩ k = (c.toNat, 1) := dec_ascii HC.out hasc
            rw [hdec] at hnx HI
            clear hdec
            by_cases h32 : c = 32
            · subst h32
              cases ho : s.op with
              | none =>
                have HP : Hid (parseP l = ([], 2)) := parse_none H4.out HN.out (HR.out.noop HC.out ho)
                have HOP := Lib.hid (op_walk s g w1 (HR.out.sc1 HG.out) HR.out.num0 HR.out.num1 HR.out.dig0 (HR.out.digle (by omega)))
                rw [ho] at HOP
                clear ho
                go_wp2_with fail
                refine HOP.out.mono ?_; rintro e w2 ⟨x, h, hg⟩
                obtain ⟨rfl, _⟩ | ⟨rfl, _⟩ := h
                · rename_i h; cases h
                have HG2 := Lib.hid hg
                clear hg
                go_wp2_with (refine wpList_store_new rfl 33 (.tmp 8) _ rfl w2.heap.size x.arr rfl rfl 33 _ (heap_alloc_new w2 _) Tryd.size33 rfl x.one w2.heap.size (Nat.le_refl _) ?_; intro w3 hx3 hb3; have HX3 := Lib.hid hx3; have HB3 := Lib.hid hb3; clear hx3 hb3)
                go_ret2
                refine ⟨none, 0, ?_, ?_, ?_⟩
                · rw [HP.out]; rfl
                · rw [HP.out]; exact opsIn_nil _ _
                · exact ((HR.out.b2 HG.out HG2.out).alloc (HR.out.b2 HG.out HG2.out).size _).trans (HB3.out.mono (HR.out.b2 HG.out HG2.out).size)
              | some x =>
                have HO := Lib.hid ho
                have HOP := Lib.hid (op_walk s g w1 (HR.out.sc1 HG.out) HR.out.num0 HR.out.num1 HR.out.dig0 (HR.out.digle (by omega)))
                rw [ho] at HOP
                clear ho
                go_wp2_with fail
                refine HOP.out.mono ?_; rintro e w2 ⟨x', h, hg⟩
                obtain ⟨rfl, hx⟩ | ⟨rfl, hx⟩ := h
                rotate_left
                · cases hx
                injection hx with hx
                subst hx
                have HG2 := Lib.hid hg
                clear hg
                go_wp2_with (first | (refine wpList_store_new rfl 33 (.tmp 8) _ rfl w2.heap.size x.arr rfl rfl 33 _ (heap_alloc_new w2 _) Tryd.size33 rfl x.one w2.heap.size (Nat.le_refl _) ?_; intro w3 hx3 hb3; have HX3 := Lib.hid hx3; have HB3 := Lib.hid (((Below.refl _ w2).alloc (Nat.le_refl _) _).trans hb3); clear hx3 hb3) | (refine wpList_load_row rfl 33 (.tmp 8) rfl w2.heap.size rfl 33 x.arr (0, 0) _ HX3.out Tryd.underlying33 rfl Tryd.size33 ?_; generalize hG : wpList _ _ _ _ _ _ = G; have HGG := Lib.hid hG; clear hG))
                rw [← HGG.out]
                clear HGG
                refine wpList_build_po rfl 23 33 (.tmp 37) rfl x i0 Tryd.underlying23 HI0.out HZ0.out HZ1.out rfl ?_
                refine wpList_append_own_at _ rfl _ _ 23 rfl w.heap.size 33 i0 (PO.val ⟨0, 0, 0⟩) 3 24 Tryd.underlying23 HI0.out HZ0.out HZ1.out HZ2.out rfl (by decide) _ acc.length (flat acc) rfl (World.ownsRow.alloc (ownsRow_kept (HR.out.own2 HG.out HG2.out) HB3.out) _) ⟨w3.heap.size, 0, none⟩ 1 1 x.arr.toList rfl ?d1 ?d2 ?d3 ?d4 ?d5 ?d6 ?_
                case d1 => rfl
                case d2 => exact new_po w3 x 33
                case d3 => exact PO.one_list x
                case d4 => have := HR.out.hacc; simp only [maxLen]; omega
                case d5 => have := HR.out.hacc; omega
                case d6 => have := (HR.out.b2 HG.out HG2.out).size; have := HB3.out.size; simp; omega
                intro v' w5 hown5 hgrow5 _ hblk
                obtain ⟨A5, c5, rfl⟩ := own_form hown5
                have HPR := Lib.hid (HR.out.op HC.out HO.out HG.out HI.out HG2.out HB3.out hown5 hgrow5 hblk)
                clear hown5 hgrow5 hblk
                go_wp2
                go_roundw
                case rel => exact ⟨k + 1, acc ++ [x], Sc.zero, w5.heap.size, rfl, HPR.out⟩
                case measure => rw [iter_pos HPR.out.iter, iter_pos HR.out.iter]; omega
            · have hc32 : ((c.toNat : Int) != 32) = true := by
                have : c.toNat ≠ 32 := fun e => h32 (UInt8.toNat_inj.1 e)
                simp; omega
              have hc0 : (0 : Int) ≤ c.toNat := by omega
              have hc1 : (c.toNat : Int) ≤ 2147483647 := by omega
              cases hr : (s.rune c.toNat).2 with
              | false =>
                have HP : Hid (parseP l = ([], 2)) := parse_none H4.out HN.out (HR.out.norune HC.out h32 hr)
                have HRW := Lib.hid (rune_walk s c.toNat g w1 (HR.out.sc1 HG.out) hc0 hc1 HR.out.num0 HR.out.num1 HR.out.dig0 (HR.out.digle (by omega)))
                have HRR := Lib.hid hr
                clear hr
                go_wp2_with fail
                refine HRW.out.mono ?_; rintro e w2 ⟨rfl, hs, hg⟩
                rw [HRR.out]
                have HG2 := Lib.hid hg
                clear hg hs
                go_wp2
                go_ret2
                refine ⟨none, 0, ?_, ?_, HR.out.b2 HG.out HG2.out⟩
                · rw [HP.out]; rfl
                · rw [HP.out]; exact opsIn_nil _ _
              | true =>
                have HRW := Lib.hid (rune_walk s c.toNat g w1 (HR.out.sc1 HG.out) hc0 hc1 HR.out.num0 HR.out.num1 HR.out.dig0 (HR.out.digle (by omega)))
                have HRR := Lib.hid hr
                clear hr
                go_wp2_with fail
                refine HRW.out.mono ?_; rintro e w2 ⟨rfl, hs, hg⟩
                rw [HRR.out]
                have HPR := Lib.hid (HR.out.rune HC.out h32 HRR.out HG.out HI.out hg hs)
                clear hg hs
                go_wp2
                go_roundw
                case rel => exact ⟨k + 1, acc, _, g, rfl, HPR.out⟩
                case measure => rw [iter_pos HPR.out.iter, iter_pos HR.out.iter]; omega
          · have h32 : c ≠ 32 := by rintro rfl; exact hasc (by decide)
            have hd := dec_high HC.out hasc
            have hd2 := decode_le ⟨(l ++ [32]).toArray⟩ k
            obtain ⟨q, hq⟩ : ∃ q : Nat, (Utf8.decode ⟨(l ++ [32]).toArray⟩ k).1 = q := ⟨_, rfl⟩
            rw [hq] at hnx hd hd2
            clear hq
            have hc32 : ((q : Int) != 32) = true := by simp; omega
            have hc0 : (0 : Int) ≤ q := by omega
            have hc1 : (q : Int) ≤ 2147483647 := by omega
            have HRR := Lib.hid (rune_far (s := s) (c := q) (by omega))
            have HP : Hid (parseP l = ([], 2)) := parse_none H4.out HN.out (HR.out.norune HC.out h32 (rune_far (by omega)))
            have HRW := Lib.hid (rune_walk s q g w1 (HR.out.sc1 HG.out) hc0 hc1 HR.out.num0 HR.out.num1 HR.out.dig0 (HR.out.digle (by omega)))
            go_wp2_with fail
            refine HRW.out.mono ?_; rintro e w2 ⟨rfl, hs, hg⟩
            rw [HRR.out]
            have HG2 := Lib.hid hg
            clear hg hs
            go_wp2
            go_ret2
            refine ⟨none, 0, ?_, ?_, HR.out.b2 HG.out HG2.out⟩
            · rw [HP.out]; rfl
            · rw [HP.out]; exact opsIn_nil _ _
        · have hnx := next_over Tryd.prog wr (w.heap.size + 1) ⟨(l ++ [32]).toArray⟩ k HR.out.iter (by simp [ByteArray.size]; omega)
          have hov := HR.out.over hlt
          have HPS := Lib.hid (parse_some H4.out HN.out hov)
          obtain ⟨A, cc, hv⟩ := own_form HR.out.own
          subst hv
          clear hov
          by_cases h64 : 64 < acc.length
          · have h64' : (64 : Int) < acc.length := by omega
            go_wp2_with fail
            go_ret2
            have HP : parseP l = ([], 4) := by rw [HPS.out, if_pos h64]
            refine ⟨none, 0, ?_, ?_, HR.out.below⟩
            · rw [HP]; rfl
            · rw [HP]; exact opsIn_nil _ _
          · have h64' : ¬ (64 : Int) < acc.length := by omega
            go_wp2_with fail
            go_ret2
            have HP : parseP l = (acc, 0) := by rw [HPS.out, if_neg h64]
            refine ⟨A, cc, ?_, ?_, HR.out.below⟩
            · rw [HP]; rfl
            · rw [HP]; exact own_ops HR.out.own rfl
end Go.Proofs.YtfjeheioglmalaaDoor
