/- Scripts in memory; is one large? Picks in memory. own: a script of the document's. -/
import Derived.Test.YtfjeheioglmalaaDoorTexts4
import Derived.Test.YtfjeheioglmalaaDoorFits2
import Derived.Test.YtfjeheioglmalaaDoorPrint
namespace Go.Proofs.YtfjeheioglmalaaDoor
open Go.RowKit Go.Lib
set_option linter.unusedVariables false
set_option linter.unusedSimpArgs false
def PK.arr (x : PK) : Array Value := #[.int .i64 x.k, .int .i64 x.a, .int .i64 x.b]
def PK.val (x : PK) : Value := .agg x.arr
def PicksIn (w : World) (A : Option Addr) (l : List PK) : Prop := ∀ i x, l[i]? = some x → ∃ b off, A = some ⟨b, off, none⟩ ∧ b < w.heap.size ∧ w.rangeAt b (off + i * 3) x.arr.toList
def ProgsIn (w : World) (A : Option Addr) (ps : List (List PO)) : Prop := ∀ i l, ps[i]? = some l → ∃ b off B c, A = some ⟨b, off, none⟩ ∧ b < w.heap.size ∧ w.cell? ⟨b, off + i, none⟩ = some (.slice B l.length c) ∧ OpsIn w B l
theorem PicksIn.below {w w' : World} {A : Option Addr} {l : List PK} (h : PicksIn w A l) (hb : Below w.heap.size w w') : PicksIn w' A l := by
  intro i x hi
  obtain ⟨b, off, h1, h2, h3⟩ := h i x hi
  exact ⟨b, off, h1, by have := hb.size; omega, range_below h3 hb h2⟩
theorem ProgsIn.below {w w' : World} {A : Option Addr} {ps : List (List PO)} (h : ProgsIn w A ps) (hb : Below w.heap.size w w') : ProgsIn w' A ps := by
  intro i l hi
  obtain ⟨b, off, B, c, h1, h2, h3, h4⟩ := h i l hi
  exact ⟨b, off, B, c, h1, by have := hb.size; omega, (hb.cell (p := ⟨b, off + i, none⟩) h2).trans h3, h4.below hb⟩
/-- A script's cells: its sizes, the slice of its programs, that of its picks. -/
def scells (c : Cfg) (p k : Value) : Array Value := #[.int .i64 c.cores, .int .i64 c.homes, .int .i64 c.sets, .int .i64 c.ways, .int .i64 c.words, .int .i64 c.lines, .int .i64 c.pointers, .int .i64 c.mshrs, .int .i64 c.buffer, .int .i64 c.writebacks, .int .i64 c.r0, .int .i64 c.r1, .int .i64 c.r2, p, k]
theorem Tryd.size43 : (Tryd.prog.info? 43).map (·.size) = some 15 := by kernel_rfl
theorem Tryd.size49 : (Tryd.prog.info? 49).map (·.size) = some 15 := by kernel_rfl
def LargePost (n : Nat) (w : World) (e : Ending) (w' : World) : Prop := ∃ z, e = .returned (.bool z) ∧ (z = false → n ≤ 3000) ∧ Below w.heap.size w w'
set_option maxRecDepth 100000 in
set_option maxHeartbeats 1000000 in
theorem large_walk (c : Cfg) (ps : List (List PO)) (ks : List PK) (A1 A2 : Option Addr) (c1 c2 : Nat) (h1 : ps.length ≤ 9223372036854775807) (h2 : ks.length ≤ 9223372036854775807) (w : World) (hp : ProgsIn w A1 ps) :
    Calls Tryd.prog 21 #[.agg (scells c (.slice A1 ps.length c1) (.slice A2 ks.length c2))] w (LargePost ks.length w) := by
  have HP := Lib.hid (hp.below ((Below.refl _ _).alloc (Nat.le_refl _) (.cells (scells c (.slice A1 ps.length c1) (.slice A2 ks.length c2)) 43)))
  have hw := heap_alloc_new w (.cells (scells c (.slice A1 ps.length c1) (.slice A2 ks.length c2)) 43)
  have hb13 := box_cell hw 13 rfl
  have hb14 := box_cell hw 14 rfl
  have HB := Lib.hid ((Below.refl w.heap.size w).alloc (Nat.le_refl _) (.cells (scells c (.slice A1 ps.length c1) (.slice A2 ks.length c2)) 43))
  clear hp hw
  by_cases h3 : 3000 < ks.length
  · have h3' : ¬ (ks.length : Int) ≤ 3000 := by omega
    have h3b : (3000 : Int) < ks.length := by omega
    unfold scells at *
    go_enter Tryd.func21, Tryd.ntmps21
    go_wp2_with fail
    go_loop [3, 4] (fun s v => s = .int .i64 ks.length ∧ v = .int .i64 0) (fun _ _ => 0)
    case atStart => exact ⟨rfl, rfl⟩
    case round =>
      obtain ⟨rfl, rfl⟩ := hrel
      by_cases h0 : 0 < ps.length
      · have h0' : (0 : Int) < ps.length := by omega
        go_wp2_with fail
        go_ret
        exact ⟨true, rfl, by simp, HB.out⟩
      · have h0' : ¬ (0 : Int) < ps.length := by omega
        go_wp2_with fail
        go_ret
        exact ⟨true, rfl, by simp, HB.out⟩
  · unfold scells at *
    go_enter Tryd.func21, Tryd.ntmps21
    go_wp2_with fail
    go_loop [3, 4] (fun s v => ∃ (k : Nat) (n : Int), v = .int .i64 k ∧ s = .int .i64 n ∧ k ≤ ps.length) (fun _ v => ps.length - (RowKit.intOf v).toNat)
    case atStart => exact ⟨0, ks.length, rfl, rfl, by omega⟩
    case round =>
      obtain ⟨k, n, rfl, rfl, hk⟩ := hrel
      by_cases hlt : k < ps.length
      · have hlt' : (k : Int) < ps.length := by omega
        by_cases hn : n ≤ 3000
        · obtain ⟨l, hl⟩ : ∃ l, ps[k]? = some l := ⟨_, List.getElem?_eq_getElem hlt⟩
          obtain ⟨b, off, B, cc, hA, _, hcell, _⟩ := HP.out k l hl
          subst hA
          clear hl
          go_wp2_with fail
          go_round
          case rel => exact ⟨k + 1, _, by go_num, rfl, by omega⟩
          case measure => simp [RowKit.intOf]; omega
        · go_wp2_with fail
          go_ret
          exact ⟨_, rfl, fun _ => by omega, HB.out⟩
      · have hlt' : ¬ (k : Int) < ps.length := by omega
        go_wp2_with fail
        go_ret
        exact ⟨_, rfl, fun _ => by omega, HB.out⟩
end Go.Proofs.YtfjeheioglmalaaDoor
namespace Go.Proofs.YtfjeheioglmalaaDoor
open Go.RowKit Go.Lib
set_option linter.unusedVariables false
set_option linter.unusedSimpArgs false
def pflat (l : List PK) : List Value := l.flatMap fun x => x.arr.toList
theorem PK.len (x : PK) : x.arr.toList.length = 3 := rfl
theorem pflat_len (l : List PK) : (pflat l).length = l.length * 3 := by
  induction l with
  | nil => rfl
  | cons x l ih => simp only [pflat, List.flatMap_cons, List.length_append, PK.len, List.length_cons] at ih ⊢; rw [ih]; omega
theorem pflat_snoc (l : List PK) (x : PK) : pflat (l ++ [x]) = pflat l ++ x.arr.toList := by simp [pflat]
theorem pflat_at (l : List PK) : ∀ (i j : Nat) (x : PK) (v : Value), l[i]? = some x → x.arr.toList[j]? = some v → (pflat l)[i * 3 + j]? = some v := by
  induction l with
  | nil => intro i j x v h; simp at h
  | cons y l ih =>
    intro i j x v h hv
    have hj : j < 3 := by have := (List.getElem?_eq_some_iff.1 hv).1; rwa [PK.len] at this
    cases i with
    | zero =>
      simp only [List.getElem?_cons_zero, Option.some.injEq] at h
      subst h
      simp only [pflat, List.flatMap_cons, Nat.zero_mul, Nat.zero_add]
      rw [List.getElem?_append_left (by rw [PK.len]; exact hj)]
      exact hv
    | succ i =>
      simp only [List.getElem?_cons_succ] at h
      have := ih i j x v h hv
      simp only [pflat, List.flatMap_cons] at this ⊢
      rw [List.getElem?_append_right (by rw [PK.len]; omega), PK.len, show (i + 1) * 3 + j - 3 = i * 3 + j by omega]
      exact this
theorem PK.one (x : PK) : x.arr.all (·.oneCell') = true := by simp [PK.arr, Value.oneCell']
theorem PK.one_list (x : PK) : ∀ u ∈ x.arr.toList, u.oneCell' = true := by
  intro u hu
  simp only [PK.arr, List.mem_cons, List.not_mem_nil, or_false] at hu
  rcases hu with rfl | rfl | rfl <;> rfl
theorem new_pk (w : World) (x : PK) (t : TypeId) : ∀ j u, x.arr.toList[j]? = some u → (w.alloc (.cells x.arr t)).cell? ((⟨w.heap.size, 0, none⟩ : Addr).add j) = some u := by
  intro j u hu
  rw [Addr.add_mid, Nat.zero_add, cell_of_row _ w.heap.size j x.arr t _ (heap_alloc_new w _)]
  simpa using hu
/-- What the call owns reads as picks. -/
theorem own_picks {w : World} {B : Nat} {A : Option Addr} {n c : Nat} {l : List PK} {t : TypeId} (h : w.ownsRow B t 3 (.slice A n c) n (pflat l)) (hn : n = l.length) : PicksIn w A l := by
  intro i x hi
  have hlt := (List.getElem?_eq_some_iff.1 hi).1
  rcases h.2 with ⟨h1, h2⟩ | ⟨g, cap, cur, h1, hB, hg, rest⟩
  · omega
  · injection h1 with h1 h2 h3
    refine ⟨g, 0, h1, (Array.getElem?_eq_some_iff.1 hg).1, ?_⟩
    intro j v hv
    have := h.cells (g := g) (by rw [h1]; rfl) (i * 3 + j) v (pflat_at l i j x v hi hv)
    rw [Addr.add_mid] at this
    rw [Nat.add_assoc]
    exact this
theorem pfill_one (x : PK) (ie : TypeInfo) (hs : ie.size = 3) : Instr.fill (fun i => some (i * ie.size, ie.size)) ((Array.range (1 * ie.size)).map ((PK.val ⟨0, 0, 0⟩).cells[· % (PK.val ⟨0, 0, 0⟩).cells.size]!)) [(0, .agg x.arr)] = some x.arr := by
  rw [hs]
  have h := Go.Great.fill_whole (s := 3) (by decide) [.agg x.arr] ((Array.range (1 * 3)).map ((PK.val ⟨0, 0, 0⟩).cells[· % (PK.val ⟨0, 0, 0⟩).cells.size]!)) (by intro v hv; simp at hv; subst hv; exact PK.len x) (by simp)
  have e : (List.flatMap (fun v : Value => v.cells.toList) [Value.agg x.arr]).toArray = x.arr := by simp [Value.cells]
  rw [e] at h
  exact h
/-- A slice literal of one pick. -/
theorem wpList_build_pk {P : Program} {ops : Array Oper} {rest : List Oper} {o : Oper} {a : Act} {w : World} {Q : Exit → Act → World → Prop} (hg : o.guard = none) (t e : TypeId) (x : Operand) (ho : o.op = .buildSlice t 1 #[(0, x)])
    (mk : PK) (ie : TypeInfo) (hu : P.underlying t = some (.slice e)) (hie : P.info? e = some ie) (hz : ie.zero = some (PK.val ⟨0, 0, 0⟩)) (hs : ie.size = 3) (hx : a.eval x = .agg mk.arr)
    (h : wpList P ops Q rest (a.put o.dst (.slice (some ⟨w.heap.size, 0, none⟩) 1 1)) (w.alloc (.cells mk.arr e))) : wpList P ops Q (o :: rest) a w := by
  refine wpList_buildSlice hg t e 1 #[(0, x)] ho mk.arr ie (PK.val ⟨0, 0, 0⟩) hu hie hz (by rw [hs]; decide) (by rw [hs]; decide) ?_ h
  simp only [List.map_toArray, List.map_cons, List.map_nil, hx]
  exact pfill_one mk ie hs
theorem Tryd.info59 : (Tryd.prog.info? 59).map (fun i => (i.zero, i.size, i.bytes)) = some (some (PK.val ⟨0, 0, 0⟩), 3, 24) := by kernel_rfl
theorem Tryd.info78 : (Tryd.prog.info? 78).map (fun i => (i.zero, i.size, i.bytes)) = some (some (PK.val ⟨0, 0, 0⟩), 3, 24) := by kernel_rfl
end Go.Proofs.YtfjeheioglmalaaDoor
namespace Go.Proofs.YtfjeheioglmalaaDoor
open Go.RowKit Go.Lib
set_option linter.unusedVariables false
set_option linter.unusedSimpArgs false
/-- A script's value in a world. -/
def SVal (w : World) (s : PS) (v : Value) : Prop := ∃ A1 c1 A2 c2, v = .agg (scells s.c (.slice A1 s.ps.length c1) (.slice A2 s.ks.length c2)) ∧ ProgsIn w A1 s.ps ∧ PicksIn w A2 s.ks
def OwnPost (s : PS) (w : World) (e : Ending) (w' : World) : Prop := ∃ v, e = .returned v ∧ SVal w' s v ∧ Below w.heap.size w w'
theorem wpList_store_grown {P : Program} {ops : Array Oper} {rest : List Oper} {o : Oper} {a : Act} {w : World} {Q : Exit → Act → World → Prop} (hgd : o.guard = none) (ty : TypeId) (x y : Operand) (ho : o.op = .store ty x y)
    (g : Nat) (cells : Array Value) (hx : a.eval x = .pointer (some ⟨g, 0, none⟩)) (hy : a.eval y = .agg cells)
    (t : TypeId) (old : Array Value) (hg : w.heap[g]? = some (.cells old t (0, 0))) (hi : (P.info? ty).map (·.size) = some cells.size)
    (hold : old.size = cells.size) (h1 : cells.all (·.oneCell') = true)
    (h : ∀ w2, w2.heap[g]? = some (.cells cells t (0, 0)) → w.grownBy w2 (some g) → wpList P ops Q rest (a.put o.dst undef) w2) : wpList P ops Q (o :: rest) a w :=
  wpList_store_row hgd ty x y ho g cells hx hy t old hg hi hold h1
    (h _ (setRow_heap w g old cells t _ hg) ⟨rfl, rfl, rfl, by rw [size_setRow]; exact Nat.le_refl _, fun k _ hk => setRow_other w g k cells (fun e => hk (by rw [e]))⟩)
theorem scells_one (c : Cfg) (A1 A2 : Option Addr) (n1 c1 n2 c2 : Nat) : (scells c (.slice A1 n1 c1) (.slice A2 n2 c2)).all (·.oneCell') = true := by simp [scells, Value.oneCell']
theorem Tryd.size59 : (Tryd.prog.info? 59).map (·.size) = some 3 := by kernel_rfl
def zeros49 : Array Value := #[.int .i64 0, .int .i64 0, .int .i64 0, .int .i64 0, .int .i64 0, .int .i64 0, .int .i64 0, .int .i64 0, .int .i64 0, .int .i64 0, .int .i64 0, .int .i64 0, .int .i64 0, .slice none 0 0, .slice none 0 0]
structure ORel (c : Cfg) (sp : Value) (ks : List PK) (w wr : World) (v : Value) (k : Nat) : Prop where
  own : wr.ownsRow (w.heap.size + 3) 78 3 v k (pflat (ks.take k))
  box : wr.heap[w.heap.size + 1 + 1]? = some (.cells (scells c sp v) 49 (0, 0))
  res : wr.heap[w.heap.size + 1]? = some (.cells zeros49 49 (0, 0))
  below : Below w.heap.size w wr
  size : w.heap.size + 3 ≤ wr.heap.size
theorem orel_start (c : Cfg) (sp kp : Value) (ks : List PK) (w : World) : ORel c sp ks w (((w.alloc (.cells (scells c sp kp) 43)).alloc (.cells zeros49 49)).alloc (.cells (scells c sp (.slice none 0 0)) 49)) (.slice none 0 0) 0 :=
  ⟨World.ownsRow_nil _ _ _ _, by have := heap_alloc_new ((w.alloc (.cells (scells c sp kp) 43)).alloc (.cells zeros49 49)) (.cells (scells c sp (.slice none 0 0)) 49); simpa using this, by have h1 := heap_alloc_new (w.alloc (.cells (scells c sp kp) 43)) (.cells zeros49 49); have h2 := Below.heap_alloc ((w.alloc (.cells (scells c sp kp) 43)).alloc (.cells zeros49 49)) (.cells (scells c sp (.slice none 0 0)) 49) (w.heap.size + 1) (by simp); rw [h2]; simpa using h1, ((((Below.refl _ _).alloc (Nat.le_refl _) _).alloc (by simp) _).alloc (by simp; omega) _), by simp⟩
set_option maxRecDepth 100000 in
set_option maxHeartbeats 1000000 in
theorem own_walk (c : Cfg) (ps : List (List PO)) (ks : List PK) (A1 A2 : Option Addr) (c1 c2 : Nat) (h1 : ps.length ≤ 9223372036854775807) (h2 : ks.length ≤ 3000) (w : World) (hp : ProgsIn w A1 ps) (hk : PicksIn w A2 ks) :
    Calls Tryd.prog 24 #[.agg (scells c (.slice A1 ps.length c1) (.slice A2 ks.length c2))] w (OwnPost ⟨c, ps, ks⟩ w) := by
  have HP := Lib.hid hp
  have HK := Lib.hid hk
  clear hp hk
  have hw := heap_alloc_new w (.cells (scells c (.slice A1 ps.length c1) (.slice A2 ks.length c2)) 43)
  have hb13 := box_cell hw 13 rfl
  have hb14 := box_cell hw 14 rfl
  have HS := Lib.hid (orel_start c (.slice A1 ps.length c1) (.slice A2 ks.length c2) ks w)
  unfold scells at hw hb13 hb14
  unfold scells
  go_enter Tryd.func24, Tryd.ntmps24
  go_wp2_with fail
  go_loopw [14] (fun v wr => ∃ (k : Nat) (sv : Value), v = .int .i64 k ∧ k ≤ ks.length ∧ ORel c (.slice A1 ps.length c1) ks w wr sv k) (fun v _ => ks.length - (RowKit.intOf v).toNat)
  case atStart => exact ⟨0, _, rfl, by omega, HS.out⟩
  case round =>
    obtain ⟨k, sv, rfl, hk, hr⟩ := hrel
    have R := Lib.hid hr
    clear hr hb13 hb14 hw
    by_cases hlt : k < ks.length
    · obtain ⟨x, hx⟩ : ∃ x, ks[k]? = some x := ⟨_, List.getElem?_eq_getElem hlt⟩
      obtain ⟨b, off, hA, _, har⟩ := (HK.out.below R.out.below) k x hx
      subst hA
      have HRg := Lib.hid har
      have HX := Lib.hid hx
      obtain ⟨i0, hi0, hz0, hz1, hz2⟩ := info_parts Tryd.info78
      have HI0 := Lib.hid hi0
      have HZ0 := Lib.hid hz0
      have HZ1 := Lib.hid hz1
      have HZ2 := Lib.hid hz2
      clear har hx hi0 hz0 hz1 hz2
      have HSZ := Lib.hid R.out.size
      go_wp2_with (first
        | (refine wpList_load_mid rfl 59 (.tmp 16) rfl b (off + k * 3) rfl x.arr.toList _ HRg.out Tryd.underlying59 rfl Tryd.size59 ?_)
        | (refine wpList_store_new rfl 59 (.tmp 5) _ rfl wr.heap.size x.arr rfl rfl 59 _ (heap_alloc_new wr _) Tryd.size59 rfl x.one wr.heap.size (Nat.le_refl _) ?_; intro w1 hx1 hb1; have HX1 := Lib.hid hx1; have HB1 := Lib.hid (((Below.refl wr.heap.size wr).alloc (Nat.le_refl _) _).trans hb1); have HBX := Lib.hid ((HB1.out.block (w.heap.size + 1 + 1) (by have := HSZ.out; omega)).trans R.out.box); have h14 := box_cell HBX.out 14 rfl; clear hx1 hb1)
        | (refine wpList_load_row rfl 59 (.tmp 5) rfl wr.heap.size rfl 59 x.arr (0, 0) _ HX1.out Tryd.underlying59 rfl Tryd.size59 ?_)
        | (refine wpList_build_pk rfl 47 78 (.tmp 20) rfl x i0 Tryd.underlying47 HI0.out HZ0.out HZ1.out rfl ?_)
        | (at_builtin; go_must (refine wpList_append_own _ rfl _ _ 47 rfl (w.heap.size + 3) 78 i0 (PK.val ⟨0, 0, 0⟩) 3 24 Tryd.underlying47 HI0.out HZ0.out HZ1.out HZ2.out rfl (by decide) sv k (pflat (ks.take k)) rfl (World.ownsRow.alloc (ownsRow_kept R.out.own HB1.out) _) ⟨w1.heap.size, 0, none⟩ 1 1 x.arr.toList rfl rfl (new_pk w1 x 78) x.one_list (by simp only [maxLen]; omega) (by omega) (by have := HSZ.out; have := HB1.out.size; simp; omega) ?_)))
      intro v' w4 hown2 hgrow2 _
      obtain ⟨A4, c4, rfl⟩ := own_form hown2
      have hlt2 : ∀ j, sv.ownBlock = some j → w.heap.size + 3 ≤ j := fun j e => (R.out.own.lt j e).1
      have hs1 := HB1.out.size
      have hs0 := HSZ.out
      have hbox4 := grown_block hgrow2 ((Below.heap_alloc w1 _ (w.heap.size + 1 + 1) (by omega)).trans HBX.out) (fun e => by have := hlt2 _ e.symm; omega)
      have hres4 := grown_block hgrow2 ((Below.heap_alloc w1 _ (w.heap.size + 1) (by omega)).trans ((HB1.out.block (w.heap.size + 1) (by omega)).trans R.out.res)) (fun e => by have := hlt2 _ e.symm; omega)
      have hbel4 := ((R.out.below.trans (HB1.out.mono R.out.below.size)).alloc (by omega) (.cells x.arr 78)).grown hgrow2 (by simp; omega) (fun j e => by have := hlt2 j e; omega)
      have hsz4 : w.heap.size + 3 ≤ w4.heap.size := by have := hgrow2.size; simp at this; omega
      have hc4 := box_cell hbox4 14 rfl
      have hf4 := frozen_of_row w4 (w.heap.size + 1 + 1) 14 _ _ hbox4
      have R4 := Lib.hid (show ORel c (.slice A1 ps.length c1) ks w (w4.setCell ⟨w.heap.size + 1 + 1, 14, none⟩ (.slice A4 (k + 1) c4)) (.slice A4 (k + 1) c4) (k + 1) from
        ⟨by
          have e : pflat (ks.take (k + 1)) = pflat (ks.take k) ++ x.arr.toList := by rw [List.take_add_one, HX.out]; exact pflat_snoc _ _
          rw [e]
          exact hown2.kept (grown_set w4 (w.heap.size + 1 + 1) 14 (.slice A4 (k + 1) c4)) (.inr (fun e => by have := (hown2.lt _ e).1; omega)),
        heap_setCell_same w4 (w.heap.size + 1 + 1) 14 _ 49 (.slice A4 (k + 1) c4) hbox4,
        heap_set_other (by omega) hres4,
        hbel4.grown (grown_set w4 (w.heap.size + 1 + 1) 14 (.slice A4 (k + 1) c4)) (by omega) (fun j e => by injection e with e; omega),
        by simp [World.setCell]; omega⟩)
      clear hown2 hgrow2 hbox4 hres4 hbel4 h14 hlt2
      go_wp2
      go_roundw
      case rel => exact ⟨k + 1, _, by go_num, by omega, R4.out⟩
      case measure => simp [RowKit.intOf]; omega
    · have hlt' : ¬ (k : Int) < ks.length := by omega
      have hkn : k = ks.length := by omega
      subst hkn
      obtain ⟨A3, c3, rfl⟩ := own_form R.out.own
      go_wp2_with (first | (refine wpList_load_row rfl 49 (.tmp 3) rfl (w.heap.size + 1 + 1) rfl 49 (scells c (.slice A1 ps.length c1) (.slice A3 ks.length c3)) (0, 0) _ R.out.box Tryd.underlying49 rfl Tryd.size49 ?_) | (refine wpList_store_grown rfl 49 (.tmp 2) (.tmp 25) rfl (w.heap.size + 1) (scells c (.slice A1 ps.length c1) (.slice A3 ks.length c3)) rfl rfl 49 _ R.out.res Tryd.size49 rfl (scells_one _ _ _ _ _ _ _) ?_; intro w1 hx1 hg1; have HX1 := Lib.hid hx1; have HG1 := Lib.hid hg1; clear hx1 hg1))
      have HBE := Lib.hid (R.out.below.grown HG1.out R.out.below.size (fun k hk => by injection hk with hk; omega))
      have hown := R.out.own.kept HG1.out (.inr (fun e => by have := (R.out.own.lt _ e).1; omega))
      rw [List.take_length] at hown
      refine ret_cell (p := 2) (ty := 49) rfl (w.heap.size + 1) 49 _ _ _ rfl HX1.out Tryd.underlying49 rfl Tryd.size49 rfl ?_
      exact ⟨_, rfl, ⟨A1, c1, A3, c3, rfl, HP.out.below HBE.out, own_picks hown rfl⟩, HBE.out⟩
end Go.Proofs.YtfjeheioglmalaaDoor
