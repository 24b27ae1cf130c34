/- The law ScriptMore. -/
import Derived.Test.YtfjeheioglmalaaDoorSBack
import Derived.Test.YtfjeheioglmalaaDoorHead
import Derived.Deep.AppendSrc
namespace Go.Proofs.YtfjeheioglmalaaDoor
open Go.RowKit Go.Lib
set_option linter.unusedVariables false
set_option linter.unusedSimpArgs false
theorem three_conv {W : World} {g : Nat} {x y z : UInt8} (h : W.heap[g]? = some (.cells #[.int .u8 x.toNat, .int .u8 y.toNat, .int .u8 z.toNat] 56 (0, 0))) (l : List UInt8) (n : Nat) (hn : l.length = n) (hl : ∀ j (hj : j < l.length), [x, y, z][j]? = some l[j]) :
    (convert 57 9 (.slice (some ⟨g, 0, none⟩) n 3)).run Tryd.prog W = .ok (.string ⟨l.toArray⟩) W := by
  subst hn
  refine run_convert_bytes_back W 57 9 5 ⟨g, 0, none⟩ 3 l Tryd.underlying57 Tryd.underlying5 Tryd.underlying9 fun j hj => ?_
  rw [Addr.add_mid, Nat.zero_add, cell_of_row W g j _ _ _ h]
  have h1 := hl j hj
  have hj3 : j < 3 := by have := (List.getElem?_eq_some_iff.1 h1).1; simpa using this
  obtain rfl | rfl | rfl : j = 0 ∨ j = 1 ∨ j = 2 := by omega
  · simp at h1 ⊢; rw [h1]
  · simp at h1 ⊢; rw [h1]
  · simp at h1 ⊢; rw [h1]
theorem conv3 {W : World} {g : Nat} {x y z : UInt8} (h : W.heap[g]? = some (.cells #[.int .u8 x.toNat, .int .u8 y.toNat, .int .u8 z.toNat] 56 (0, 0))) : (convert 57 9 (.slice (some ⟨g, 0, none⟩) 3 3)).run Tryd.prog W = .ok (.string ⟨#[x, y, z]⟩) W :=
  three_conv h [x, y, z] 3 rfl fun j hj => List.getElem?_eq_getElem hj
theorem conv1 {W : World} {g : Nat} {x y z : UInt8} (h : W.heap[g]? = some (.cells #[.int .u8 x.toNat, .int .u8 y.toNat, .int .u8 z.toNat] 56 (0, 0))) : (convert 57 9 (.slice (some ⟨g, 0, none⟩) 1 3)).run Tryd.prog W = .ok (.string ⟨#[x]⟩) W :=
  three_conv h [x] 1 rfl fun j hj => by
    obtain rfl : j = 0 := by simpa using hj
    rfl
theorem conv2 {W : World} {g : Nat} {x y z : UInt8} (h : W.heap[g]? = some (.cells #[.int .u8 x.toNat, .int .u8 y.toNat, .int .u8 z.toNat] 56 (0, 0))) : (convert 57 9 (.slice (some ⟨g, 0, none⟩) 2 3)).run Tryd.prog W = .ok (.string ⟨#[x, y]⟩) W :=
  three_conv h [x, y] 2 rfl fun j hj => by
    have hj2 : j < 2 := by simpa using hj
    obtain rfl | rfl : j = 0 ∨ j = 1 := by omega
    · rfl
    · rfl
theorem pflat_append (l m : List PK) : pflat (l ++ m) = pflat l ++ pflat m := by simp [pflat]
theorem pflat_one (l : List PK) : ∀ u ∈ pflat l, u.oneCell' = true := by
  intro u hu
  obtain ⟨x, _, hx⟩ := List.mem_flatMap.1 hu
  exact x.one_list u hx
theorem picksIn_flat {w : World} {A : Option Addr} {l : List PK} (h : PicksIn w A l) (hne : l ≠ []) : ∃ ad, A = some ad ∧ ∀ j u, (pflat l)[j]? = some u → w.cell? (ad.add j) = some u := by
  obtain ⟨x0, hx0⟩ : ∃ x, l[0]? = some x := by
    cases l with
    | nil => exact absurd rfl hne
    | cons x l => exact ⟨x, rfl⟩
  obtain ⟨b, off, hA, _, _⟩ := h 0 x0 hx0
  refine ⟨_, hA, ?_⟩
  intro j u hu
  have hj := (List.getElem?_eq_some_iff.1 hu).1
  rw [pflat_len] at hj
  obtain ⟨x, hx⟩ : ∃ x, l[j / 3]? = some x := ⟨_, List.getElem?_eq_getElem (by omega)⟩
  obtain ⟨b2, off2, hA2, _, hr⟩ := h (j / 3) x hx
  rw [hA] at hA2
  injection hA2 with hA2
  injection hA2 with e1 e2 e3
  subst e1
  subst e2
  obtain ⟨v, hv⟩ : ∃ v, x.arr.toList[j % 3]? = some v := ⟨_, List.getElem?_eq_getElem (by rw [PK.len]; omega)⟩
  have h1 := pflat_at l (j / 3) (j % 3) x v hx hv
  rw [show j / 3 * 3 + j % 3 = j by omega] at h1
  rw [h1] at hu
  injection hu with hu
  subst hu
  have := hr (j % 3) v hv
  rw [Addr.add_mid]
  rw [show off + j / 3 * 3 + j % 3 = off + j by omega] at this
  exact this
/-- append of all picks of a slice, nil or not, to a slice that the call owns: a step of a region that draws. -/
theorem step_append_pks {ops : Array Oper} {o : Oper} {a : Act} {w : World} {K : Act → World → Prop} {Q : Exit → Act → World → Prop} {E : Prop} (hgd : o.guard = none) (s x : Operand)
    (ho : o.op = .call { callee := .builtin .append, args := #[s, x], argTypes := #[41, 41] })
    (base : Nat) (v : Value) (n : Nat) (xs : List Value) (hs : a.eval s = v) (hown : w.ownsRow base 59 3 v n xs) (hv : v ≠ .slice none 0 0) (A : Option Addr) (m c : Nat) (l : List PK) (hm : m = l.length) (hx : a.eval x = .slice A m c) (hl : PicksIn w A l)
    (hn : n + l.length ≤ 10000) (hbase : base ≤ w.heap.size)
    (h : ∀ v' w', w'.ownsRow base 59 3 v' (n + l.length) (xs ++ pflat l) → w.grownBy w' v.ownBlock → v' ≠ .slice none 0 0 → K (a.put o.dst v') w') :
    if Region.wanted o (yielded ops a.tmps) = true then Oper.wp Tryd.prog o a w K Q else E := by
  subst hm
  obtain ⟨i0, hi0, hz0, hz1, hz2⟩ := info_parts Tryd.info59
  have hw : Region.wanted o (yielded ops a.tmps) = true := by simp [Region.wanted, hgd]
  rw [if_pos hw]
  by_cases hne : l = []
  · subst hne
    rcases hown.2 with ⟨e, _⟩ | ⟨g, cap, cur, hvv, hbg, hg, hnc, hcm, hcs, htake⟩
    · exact absurd e hv
    have key : (Builtin.append_ #[41, 41] o.type #[v, .slice A 0 c]).run Tryd.prog w = .ok v w := by
      subst hvv
      cases A with
      | none =>
        have := run_append_room_src (P := Tryd.prog) w 41 41 o.type 59 i0 Tryd.underlying41 hi0 g 0 n cap _ 0 [] (Src.ofNil w Tryd.underlying41 c) (by omega) (by intro j hj; simp at hj) (by intro j hj; simp at hj)
        simpa [World.setCells] using this
      | some ad =>
        have := run_append_room_src (P := Tryd.prog) w 41 41 o.type 59 i0 Tryd.underlying41 hi0 g 0 n cap _ 0 [] (Src.ofSlice w Tryd.underlying41 ad 0 c [] (by simp) (by intro j u hu; simp at hu) (by simp)) (by omega) (by intro j hj; simp at hj) (by intro j hj; simp at hj)
        simpa [World.setCells] using this
    unfold Oper.wp execOp
    simp only [ho, resolve, invoke, builtin, Sem.run_bind, Sem.run_pure, Result.andThen_ok, List.map_toArray, List.map_cons, List.map_nil, hs, hx, List.length_nil, key]
    exact h v w (by simpa [pflat] using hown) ⟨rfl, rfl, rfl, Nat.le_refl _, fun _ _ _ => rfl⟩ hv
  · obtain ⟨ad, rfl, hc⟩ := picksIn_flat hl hne
    obtain ⟨v', w', hr, h2, h3, h4, h5⟩ := run_append_own_at (P := Tryd.prog) w base 41 o.type 59 i0 (PK.val ⟨0, 0, 0⟩) 3 24 Tryd.underlying41 hi0 hz0 hz1 hz2 rfl (by decide) v n xs hown ad l.length c (pflat l) (pflat_len l) hc (pflat_one l) (by simp only [maxLen]; omega) (by omega) hbase
    unfold Oper.wp execOp
    simp only [ho, resolve, invoke, builtin, Sem.run_bind, Sem.run_pure, Result.andThen_ok, List.map_toArray, List.map_cons, List.map_nil, hs, hx, hr]
    exact h v' w' h2 h3 (fun e => hv (h4.1 e).1)
theorem int_slice {W : World} {p q : Addr} {v : Value} {i : Int} {s : Option Addr} {n c : Nat} {k : IntKind} (h : W.cell? p = some (.int k i)) (hq : W.cell? q = some (.slice s n c)) : (W.setCell q v).cell? p = some (.int k i) := by
  have hne : q ≠ p := by rintro rfl; rw [hq] at h; cases h
  simpa [World.cell?_setCell_other, hne] using h
theorem OpsIn.setSlice {W : World} {A : Option Addr} {l : List PO} {q : Addr} {v : Value} {s : Option Addr} {n c : Nat} (h : OpsIn W A l) (hq : W.cell? q = some (.slice s n c)) : OpsIn (W.setCell q v) A l := by
  intro i x hi
  obtain ⟨b, off, h1, h2, h3⟩ := h i x hi
  refine ⟨b, off, h1, by simpa [World.setCell] using h2, ?_⟩
  intro j u hu
  have h4 := h3 j u hu
  have hj : j < 3 := by have := (List.getElem?_eq_some_iff.1 hu).1; rwa [PO.len] at this
  obtain rfl | rfl | rfl : j = 0 ∨ j = 1 ∨ j = 2 := by omega
  all_goals
    have e := Option.some.inj hu
    subst e
    exact int_slice h4 hq
theorem PicksIn.setSlice {W : World} {A : Option Addr} {l : List PK} {q : Addr} {v : Value} {s : Option Addr} {n c : Nat} (h : PicksIn W A l) (hq : W.cell? q = some (.slice s n c)) : PicksIn (W.setCell q v) A l := by
  intro i x hi
  obtain ⟨b, off, h1, h2, h3⟩ := h i x hi
  refine ⟨b, off, h1, by simpa [World.setCell] using h2, ?_⟩
  intro j u hu
  have h4 := h3 j u hu
  have hj : j < 3 := by have := (List.getElem?_eq_some_iff.1 hu).1; rwa [PK.len] at this
  obtain rfl | rfl | rfl : j = 0 ∨ j = 1 ∨ j = 2 := by omega
  all_goals
    have e := Option.some.inj hu
    subst e
    exact int_slice h4 hq
theorem ProgsIn.setSlice {W : World} {A : Option Addr} {l : List (List PO)} {q : Addr} {v : Value} {s : Option Addr} {n c : Nat} (h : ProgsIn W A l) (hq : W.cell? q = some (.slice s n c)) (hn : ∀ a, A = some a → a.block ≠ q.block) : ProgsIn (W.setCell q v) A l := by
  intro i x hi
  obtain ⟨b, off, B, cc, h1, h2, h3, h4⟩ := h i x hi
  refine ⟨b, off, B, cc, h1, by simpa [World.setCell] using h2, ?_, h4.setSlice hq⟩
  have hne := hn _ h1
  rw [World.cell?_setCell_far W q ⟨b, off + i, none⟩ v (fun e => hne e.symm)]
  exact h3
theorem empty_own (W : World) : (W.alloc (.cells #[] 59)).ownsRow W.heap.size 59 3 (.slice (some ⟨W.heap.size, 0, none⟩) 0 0) 0 [] :=
  ⟨rfl, .inr ⟨W.heap.size, 0, #[], rfl, Nat.le_refl _, heap_alloc_new W _, Nat.le_refl _, by decide, rfl, rfl⟩⟩
theorem own_base {W : World} {B B' : Nat} {e : TypeId} {k n : Nat} {v : Value} {xs : List Value} (h : W.ownsRow B e k v n xs) (hb : B' ≤ B) : W.ownsRow B' e k v n xs := by
  refine ⟨h.1, ?_⟩
  rcases h.2 with h | ⟨g, cap, cur, h1, h2, h3⟩
  · exact .inl h
  · exact .inr ⟨g, cap, cur, h1, by omega, h3⟩
/-- A pick in a block of its own. -/
def PickAt (W : World) (k : Nat) (x : PK) : Prop := W.heap[k]? = some (.cells x.arr 59 (0, 0))
theorem PickAt.cells {W : World} {k : Nat} {x : PK} (h : PickAt W k x) : ∀ j u, x.arr.toList[j]? = some u → W.cell? ((⟨k, 0, none⟩ : Addr).add j) = some u := by
  intro j u hu
  rw [Addr.add_mid, Nat.zero_add, cell_of_row _ k j x.arr 59 _ h]
  simpa using hu
theorem wpHead_two {P : Program} {ops : Array Oper} {Q : Exit → Act → World → Prop} {md : Region.Mode} {S : World → Prop} {n : Nat} {L : Array Bool → Act → World → Prop} {i j : Nat} {oi oj : Oper} {f : Nat} {listed : Array Bool} {a : Act} {w : World} (inv : HeadInv md ops n listed) (hi : ops[i]? = some oi) (hj : ops[j]? = some oj) (hr : Region.ready md ops listed = [i, j]) (hin : i < n) (hjn : j < n)
    (h1 : ∀ K : Act → World → Prop, (∀ a' w', S w' → (HeadInv md ops n (listed.setIfInBounds i true) → wpHead P md ops Q S n L f (listed.setIfInBounds i true) a' w') → K a' w') → if Region.wanted oi (yielded ops a.tmps) = true then Oper.wp P oi a w K Q else K (a.put oi.dst undef) w)
    (h2 : ∀ K : Act → World → Prop, (∀ a' w', S w' → (HeadInv md ops n (listed.setIfInBounds j true) → wpHead P md ops Q S n L f (listed.setIfInBounds j true) a' w') → K a' w') → if Region.wanted oj (yielded ops a.tmps) = true then Oper.wp P oj a w K Q else K (a.put oj.dst undef) w) :
    wpHead P md ops Q S n L (f + 1) listed a w := by
  refine ⟨by rw [hr]; simp, fun q hq => ?_⟩
  have hq0 := hq
  rw [hr] at hq
  have hcase : q = i ∨ q = j := by simpa using hq
  rcases hcase with rfl | rfl
  · refine ⟨hin, ?_⟩
    have := h1 (fun a' w' => S w' ∧ wpHead P md ops Q S n L f (listed.setIfInBounds q true) a' w') (fun a' w' hS hh => ⟨hS, hh (inv.set hq0 hin)⟩)
    unfold wpOp
    simp only [hi]
    split
    · rename_i hw; rw [if_pos hw] at this; exact .inl this
    · rename_i hw; rw [if_neg hw] at this; exact this
  · refine ⟨hjn, ?_⟩
    have := h2 (fun a' w' => S w' ∧ wpHead P md ops Q S n L f (listed.setIfInBounds q true) a' w') (fun a' w' hS hh => ⟨hS, hh (inv.set hq0 hjn)⟩)
    unfold wpOp
    simp only [hj]
    split
    · rename_i hw; rw [if_pos hw] at this; exact .inl this
    · rename_i hw; rw [if_neg hw] at this; exact this
set_option maxRecDepth 100000 in
set_option maxHeartbeats 4000000 in
theorem smore_any (b : List UInt8) (hbl : b.length ≤ 9223372036854775807) (x y z : UInt8) (w : World) (ht : Tab w) :
    Calls Tryd.prog 9 #[.string ⟨b.toArray⟩, .agg #[.int .u8 x.toNat, .int .u8 y.toNat, .int .u8 z.toNat]] w fun e w' => e = .returned (.bool true) ∧ Below w.heap.size w w' := by
  have hsz : (ByteArray.mk b.toArray).size = b.length := by simp [ByteArray.size]
  have hb0 := (Below.refl w.heap.size w).alloc (Nat.le_refl _) (.cells #[.int .u8 x.toNat, .int .u8 y.toNat, .int .u8 z.toNat] 56)
  have HA := Lib.hid (awake4_walk _ (ht.below hb0))
  have HB0 := Lib.hid hb0
  have HW := Lib.hid (heap_alloc_new w (.cells #[.int .u8 x.toNat, .int .u8 y.toNat, .int .u8 z.toNat] 56))
  clear ht hb0
  by_cases h3000 : 3000 < b.length
  · have h3i : (3000 : Int) < b.length := by omega
    go_enter Tryd.func9, Tryd.ntmps9
    go_wp2_with fail
    refine HA.out.mono ?_
    rintro e w1 ⟨rfl, hb⟩
    have HB1 := Lib.hid (HB0.out.trans (hb.mono HB0.out.size))
    clear hb
    go_wp2_with fail
    go_ret
    exact ⟨rfl, HB1.out⟩
  have h3i : ¬ (3000 : Int) < b.length := by omega
  have HER : Hid ((readP b).2 ≠ 0 → (readP b).1 = noPS) := fun h => read_err h
  have HMO : Hid ((readP b).2 = 0 → readP (b ++ [x, y, z]) = (⟨(readP b).1.c, (readP b).1.ps, (readP b).1.ks ++ [⟨x.toNat, y.toNat, z.toNat⟩]⟩, 0) ∧ (readP (b ++ [x])).2 = 3 ∧ (readP (b ++ [x, y])).2 = 3) := fun h => read_more h x y z
  have HRB : Hid ((readP b).2 = 0 → bytesP (readP b).1 = (b, 0) ∧ (readP b).1.may = true) := fun h => read_bytes h
  have HRW := Lib.hid (fun W => read_walk b (by omega) W)
  obtain ⟨⟨⟨xc, xps, xks⟩, n⟩, hx⟩ : ∃ p, readP b = p := ⟨_, rfl⟩
  unfold ReadPost at HRW
  rw [hx] at HRB HRW HER HMO
  clear hx
  go_enter Tryd.func9, Tryd.ntmps9
  go_wp2_with fail
  refine HA.out.mono ?_
  rintro e w1 ⟨rfl, hb⟩
  have HB1 := Lib.hid (HB0.out.trans (hb.mono HB0.out.size))
  have HX1 := Lib.hid ((hb.block w.heap.size (Array.getElem?_eq_some_iff.1 HW.out).1).trans HW.out)
  clear hb
  go_wp2_with fail
  refine (HRW.out _).mono ?_
  rintro e w2 ⟨v, rfl, ⟨B1, d1, B2, d2, rfl, hp2, hk2⟩, hb⟩
  have HB2 := Lib.hid (HB1.out.trans (hb.mono HB1.out.size))
  have HX2 := Lib.hid ((hb.block w.heap.size (Array.getElem?_eq_some_iff.1 HX1.out).1).trans HX1.out)
  have HP2 := Lib.hid hp2
  have HK2 := Lib.hid hk2
  clear hb hp2 hk2
  by_cases hn : n = 0
  rotate_left
  · have hnb : (n != 0) = true := by simpa using hn
    have hnil := HER.out hn
    injection hnil with e1 e2 e3
    subst e2
    clear hn e1 e3
    go_wp2_with (refine wpList_store_new rfl 43 (.tmp 5) (.tmp 21) rfl w2.heap.size (scells xc (.slice B1 0 d1) (.slice B2 xks.length d2)) rfl rfl 43 _ (heap_alloc_new w2 _) Tryd.size43 rfl (scells_one _ _ _ _ _ _ _) w2.heap.size (Nat.le_refl _) ?_; intro w3 hx3 hb3; have HY3 := Lib.hid hx3; have HB23 := Lib.hid (((Below.refl w2.heap.size w2).alloc (Nat.le_refl _) _).trans hb3); have y13 : w3.cell? ⟨w2.heap.size, 13, none⟩ = some (.slice B1 0 d1) := box_cell hx3 13 rfl; clear hx3 hb3)
    go_ret
    exact ⟨rfl, HB2.out.trans (HB23.out.mono HB2.out.size)⟩
  subst hn
  obtain ⟨hm3, hm1, hm2⟩ := HMO.out rfl
  obtain ⟨mk, hmk⟩ : ∃ m, xks ++ [(⟨x.toNat, y.toNat, z.toNat⟩ : PK)] = m := ⟨_, rfl⟩
  rw [hmk] at hm3
  have HMK := Lib.hid hmk
  have HM3 := Lib.hid hm3
  have HM1 := Lib.hid hm1
  have HM2 := Lib.hid hm2
  have hxk : xks.length ≤ 1000 := by
    obtain ⟨hxb, hxm⟩ := HRB.out rfl
    have := bytes_ks hxm
    rw [hxb] at this
    simp only at this
    omega
  have HXP := Lib.hid (may_parts (HRB.out rfl).2)
  clear hm3 hm1 hm2 hmk
  have kk3 : ∀ W, (Op.stringOp .add ⟨b.toArray⟩ ⟨#[x, y, z]⟩).run Tryd.prog W = .ok (.string ⟨(b ++ [x, y, z]).toArray⟩) W := fun W => cat b [x, y, z] (by omega) (by simp) W
  obtain ⟨s3, hs3⟩ : ∃ s, b ++ [x, y, z] = s := ⟨_, rfl⟩
  rw [hs3] at kk3 HM3
  have kk1 : ∀ W, (Op.stringOp .add ⟨b.toArray⟩ ⟨#[x]⟩).run Tryd.prog W = .ok (.string ⟨(b ++ [x]).toArray⟩) W := fun W => cat b [x] (by omega) (by simp) W
  have kk2 : ∀ W, (Op.stringOp .add ⟨b.toArray⟩ ⟨#[x, y]⟩).run Tryd.prog W = .ok (.string ⟨(b ++ [x, y]).toArray⟩) W := fun W => cat b [x, y] (by omega) (by simp) W
  obtain ⟨s1, hs1⟩ : ∃ s, b ++ [x] = s := ⟨_, rfl⟩
  obtain ⟨s2, hs2⟩ : ∃ s, b ++ [x, y] = s := ⟨_, rfl⟩
  have HL1 : Hid (s1.length ≤ 1000000) := by rw [← hs1]; show _ ≤ _; simp; omega
  have HL2 : Hid (s2.length ≤ 1000000) := by rw [← hs2]; show _ ≤ _; simp; omega
  have HL3 : Hid (s3.length ≤ 1000000) := by rw [← hs3]; show _ ≤ _; simp; omega
  rw [hs1] at kk1 HM1
  rw [hs2] at kk2 HM2
  clear hs1 hs2 hs3
  go_wp2_with (refine wpList_store_new rfl 43 (.tmp 5) (.tmp 21) rfl w2.heap.size (scells xc (.slice B1 xps.length d1) (.slice B2 xks.length d2)) rfl rfl 43 _ (heap_alloc_new w2 _) Tryd.size43 rfl (scells_one _ _ _ _ _ _ _) w2.heap.size (Nat.le_refl _) ?_; intro w3 hx3 hb3; have HY3 := Lib.hid hx3; have HB23 := Lib.hid (((Below.refl w2.heap.size w2).alloc (Nat.le_refl _) _).trans hb3); have HX3 := Lib.hid ((HB23.out.block w.heap.size (Array.getElem?_eq_some_iff.1 HX2.out).1).trans HX2.out); have cv3 := conv3 HX3.out; clear hx3 hb3)
  have HB3 := Lib.hid (HB2.out.trans (HB23.out.mono HB2.out.size))
  clear cv3 kk3
  refine (read_full s3 HL3.out _).mono ?_
  rintro e w4 ⟨v, rfl, hv, hb, hfr⟩
  rw [HM3.out] at hv ⊢
  obtain ⟨T1, t1, T2, t2, hve, hp4, hk4⟩ := hv
  have hve2 : v = .agg (scells xc (.slice T1 xps.length t1) (.slice T2 mk.length t2)) := hve
  clear hve
  subst hve2
  have HFR : Hid (∀ a, T1 = some a → w3.heap.size ≤ a.block) := fun a ha => hfr _ a xps.length t1 rfl (by rw [ha]; rfl)
  clear hfr
  have HB34 := Lib.hid hb
  have HY4 := Lib.hid ((hb.block w2.heap.size (Array.getElem?_eq_some_iff.1 HY3.out).1).trans HY3.out)
  have HX4 := Lib.hid ((hb.block w.heap.size (Array.getElem?_eq_some_iff.1 HX3.out).1).trans HX3.out)
  have HP4 := Lib.hid hp4
  have HK4 := Lib.hid hk4
  clear hb hp4 hk4
  go_wp2_with (refine wpList_store_new rfl 43 (.tmp 7) (.tmp 35) rfl w4.heap.size (scells xc (.slice T1 xps.length t1) (.slice T2 mk.length t2)) rfl rfl 43 _ (heap_alloc_new w4 _) Tryd.size43 rfl (scells_one _ _ _ _ _ _ _) w4.heap.size (Nat.le_refl _) ?_; intro w5 hx5 hb5; have HZ5 := Lib.hid hx5; have HB45 := Lib.hid (((Below.refl w4.heap.size w4).alloc (Nat.le_refl _) _).trans hb5); have HX5 := Lib.hid ((HB45.out.block w.heap.size (Array.getElem?_eq_some_iff.1 HX4.out).1).trans HX4.out); have cv1 := conv1 HX5.out; clear hx5 hb5)
  have HY5 := Lib.hid ((HB45.out.block w2.heap.size (Array.getElem?_eq_some_iff.1 HY4.out).1).trans HY4.out)
  clear cv1 kk1
  refine (read_walk s1 HL1.out _).mono ?_
  rintro e w6 ⟨v, rfl, ⟨U1, u1, U2, u2, rfl, _, _⟩, hb⟩
  rw [HM1.out]
  have HB56 := Lib.hid hb
  have HX6 := Lib.hid ((hb.block w.heap.size (Array.getElem?_eq_some_iff.1 HX5.out).1).trans HX5.out)
  have HY6 := Lib.hid ((hb.block w2.heap.size (Array.getElem?_eq_some_iff.1 HY5.out).1).trans HY5.out)
  have HZ6 := Lib.hid ((hb.block w4.heap.size (Array.getElem?_eq_some_iff.1 HZ5.out).1).trans HZ5.out)
  clear hb
  go_wp2_with (refine wpList_store_new rfl 43 (.tmp 9) (.tmp 43) rfl w6.heap.size _ rfl rfl 43 _ (heap_alloc_new w6 _) Tryd.size43 rfl (scells_one _ _ _ _ _ _ _) w6.heap.size (Nat.le_refl _) ?_; intro w7 hx7 hb7; have HB67 := Lib.hid (((Below.refl w6.heap.size w6).alloc (Nat.le_refl _) _).trans hb7); have HX7 := Lib.hid ((HB67.out.block w.heap.size (Array.getElem?_eq_some_iff.1 HX6.out).1).trans HX6.out); have cv2 := conv2 HX7.out; clear hx7 hb7)
  have HY7 := Lib.hid ((HB67.out.block w2.heap.size (Array.getElem?_eq_some_iff.1 HY6.out).1).trans HY6.out)
  have HZ7 := Lib.hid ((HB67.out.block w4.heap.size (Array.getElem?_eq_some_iff.1 HZ6.out).1).trans HZ6.out)
  clear cv2 kk2
  refine (read_walk s2 HL2.out _).mono ?_
  rintro e w8 ⟨v, rfl, ⟨U3, u3, U4, u4, rfl, _, _⟩, hb⟩
  rw [HM2.out]
  have HB78 := Lib.hid hb
  have HX8 := Lib.hid ((hb.block w.heap.size (Array.getElem?_eq_some_iff.1 HX7.out).1).trans HX7.out)
  have HY8 := Lib.hid ((hb.block w2.heap.size (Array.getElem?_eq_some_iff.1 HY7.out).1).trans HY7.out)
  have HZ8 := Lib.hid ((hb.block w4.heap.size (Array.getElem?_eq_some_iff.1 HZ7.out).1).trans HZ7.out)
  clear hb
  go_wp2_with (refine wpList_store_new rfl 43 (.tmp 11) (.tmp 51) rfl w8.heap.size _ rfl rfl 43 _ (heap_alloc_new w8 _) Tryd.size43 rfl (scells_one _ _ _ _ _ _ _) w8.heap.size (Nat.le_refl _) ?_; intro w9 hx9 hb9; have HB89 := Lib.hid (((Below.refl w8.heap.size w8).alloc (Nat.le_refl _) _).trans hb9); clear hx9 hb9)
  have HB49 := Lib.hid (((((HB45.out.trans (HB56.out.mono HB45.out.size)).trans (HB67.out.mono (Nat.le_trans HB45.out.size HB56.out.size))).trans (HB78.out.mono (Nat.le_trans (Nat.le_trans HB45.out.size HB56.out.size) HB67.out.size))).trans (HB89.out.mono (Nat.le_trans (Nat.le_trans (Nat.le_trans HB45.out.size HB56.out.size) HB67.out.size) HB78.out.size))))
  have HB29 := Lib.hid (HB23.out.trans ((HB34.out.trans (HB49.out.mono HB34.out.size)).mono HB23.out.size))
  have HB09 := Lib.hid (HB2.out.trans (HB29.out.mono HB2.out.size))
  have HK9 := Lib.hid (HK2.out.below HB29.out)
  have HX9 := Lib.hid ((HB89.out.block w.heap.size (Array.getElem?_eq_some_iff.1 HX8.out).1).trans HX8.out)
  have HY9 := Lib.hid ((HB89.out.block w2.heap.size (Array.getElem?_eq_some_iff.1 HY8.out).1).trans HY8.out)
  have HZ9 := Lib.hid ((HB89.out.block w4.heap.size (Array.getElem?_eq_some_iff.1 HZ8.out).1).trans HZ8.out)
  have q14 : w9.cell? ⟨w2.heap.size, 14, none⟩ = some (.slice B2 xks.length d2) := box_cell HY9.out 14 rfl
  have qx : w9.cell? ⟨w.heap.size, 0, none⟩ = some (.int .u8 x.toNat) := box_cell HX9.out 0 rfl
  have qy : w9.cell? ⟨w.heap.size, 1, none⟩ = some (.int .u8 y.toNat) := box_cell HX9.out 1 rfl
  have qz : w9.cell? ⟨w.heap.size, 2, none⟩ = some (.int .u8 z.toNat) := box_cell HX9.out 2 rfl
  have lt5 := (Array.getElem?_eq_some_iff.1 HY9.out).1
  have lt3 := (Array.getElem?_eq_some_iff.1 HX9.out).1
  have v0 := wrap_byte x
  have v1 := wrap_byte y
  have v2 := wrap_byte z
  obtain ⟨i0, hi0, hz0, hz1, hz2⟩ := info_parts Tryd.info59
  have HI0 := Lib.hid hi0
  have HZ0 := Lib.hid hz0
  have HZ1 := Lib.hid hz1
  have HZ2 := Lib.hid hz2
  clear hi0 hz0 hz1 hz2
  refine wp_region_head (S := fun W => Below w9.heap.size w9 W) 17 (by kernel_rfl) rfl (fun inv => ?_)
  obtain ⟨W0, hS, hz, hW0⟩ : ∃ W, Below w9.heap.size w9 W ∧ w9.heap.size ≤ W.heap.size ∧ w9.drew = W := ⟨w9.drew, ⟨rfl, rfl, rfl, Nat.le_refl _, fun _ _ => rfl⟩, Nat.le_refl _, rfl⟩
  rw [hW0]
  clear hW0
  refine wpHead_take inv (i := 1) (v := .pointer (some ⟨w2.heap.size, 14, none⟩)) rfl (by kernel_rfl) (by kernel_rfl) (by kernel_rfl) (of_decide_eq_true (by kernel_rfl)) (by decide) (by kernel_rfl) (by kernel_rfl) (fun _ _ _ h => h) (Or.inl ⟨by rfl, fun W hW => ?_⟩) hS (fun inv => ?_)
  · go_simp
  simp only [Act.put, List.setIfInBounds_toArray, List.set_cons_zero, List.set_cons_succ]
  refine wpHead_take inv (i := 2) (v := .slice B2 xks.length d2) rfl (by kernel_rfl) (by kernel_rfl) (by kernel_rfl) (of_decide_eq_true (by kernel_rfl)) (by decide) (by kernel_rfl) (by kernel_rfl) (fun _ _ _ h => h) (Or.inl ⟨by rfl, fun W hW => ?_⟩) hS (fun inv => ?_)
  · have hld := (hW.cell (p := ⟨w2.heap.size, 14, none⟩) lt5).trans q14
    go_simp
  simp only [Act.put, List.setIfInBounds_toArray, List.set_cons_zero, List.set_cons_succ]
  refine wpHead_take inv (i := 4) (v := .pointer (some ⟨w.heap.size, 0, none⟩)) rfl (by kernel_rfl) (by kernel_rfl) (by kernel_rfl) (of_decide_eq_true (by kernel_rfl)) (by decide) (by kernel_rfl) (by kernel_rfl) (fun _ _ _ h => h) (Or.inl ⟨by rfl, fun W hW => ?_⟩) hS (fun inv => ?_)
  · go_simp
  simp only [Act.put, List.setIfInBounds_toArray, List.set_cons_zero, List.set_cons_succ]
  refine wpHead_take inv (i := 5) (v := .int .u8 x.toNat) rfl (by kernel_rfl) (by kernel_rfl) (by kernel_rfl) (of_decide_eq_true (by kernel_rfl)) (by decide) (by kernel_rfl) (by kernel_rfl) (fun _ _ _ h => h) (Or.inl ⟨by rfl, fun W hW => ?_⟩) hS (fun inv => ?_)
  · have hld := (hW.cell (p := ⟨w.heap.size, 0, none⟩) lt3).trans qx
    go_simp
  simp only [Act.put, List.setIfInBounds_toArray, List.set_cons_zero, List.set_cons_succ]
  refine wpHead_take inv (i := 6) (v := .int .i64 x.toNat) rfl (by kernel_rfl) (by kernel_rfl) (by kernel_rfl) (of_decide_eq_true (by kernel_rfl)) (by decide) (by kernel_rfl) (by kernel_rfl) (fun _ _ _ h => h) (Or.inl ⟨by rfl, fun W hW => ?_⟩) hS (fun inv => ?_)
  · go_simp
  simp only [Act.put, List.setIfInBounds_toArray, List.set_cons_zero, List.set_cons_succ]
  refine wpHead_take inv (i := 7) (v := .pointer (some ⟨w.heap.size, 1, none⟩)) rfl (by kernel_rfl) (by kernel_rfl) (by kernel_rfl) (of_decide_eq_true (by kernel_rfl)) (by decide) (by kernel_rfl) (by kernel_rfl) (fun _ _ _ h => h) (Or.inl ⟨by rfl, fun W hW => ?_⟩) hS (fun inv => ?_)
  · go_simp
  simp only [Act.put, List.setIfInBounds_toArray, List.set_cons_zero, List.set_cons_succ]
  refine wpHead_take inv (i := 8) (v := .int .u8 y.toNat) rfl (by kernel_rfl) (by kernel_rfl) (by kernel_rfl) (of_decide_eq_true (by kernel_rfl)) (by decide) (by kernel_rfl) (by kernel_rfl) (fun _ _ _ h => h) (Or.inl ⟨by rfl, fun W hW => ?_⟩) hS (fun inv => ?_)
  · have hld := (hW.cell (p := ⟨w.heap.size, 1, none⟩) lt3).trans qy
    go_simp
  simp only [Act.put, List.setIfInBounds_toArray, List.set_cons_zero, List.set_cons_succ]
  refine wpHead_take inv (i := 9) (v := .int .i64 y.toNat) rfl (by kernel_rfl) (by kernel_rfl) (by kernel_rfl) (of_decide_eq_true (by kernel_rfl)) (by decide) (by kernel_rfl) (by kernel_rfl) (fun _ _ _ h => h) (Or.inl ⟨by rfl, fun W hW => ?_⟩) hS (fun inv => ?_)
  · go_simp
  simp only [Act.put, List.setIfInBounds_toArray, List.set_cons_zero, List.set_cons_succ]
  refine wpHead_take inv (i := 10) (v := .pointer (some ⟨w.heap.size, 2, none⟩)) rfl (by kernel_rfl) (by kernel_rfl) (by kernel_rfl) (of_decide_eq_true (by kernel_rfl)) (by decide) (by kernel_rfl) (by kernel_rfl) (fun _ _ _ h => h) (Or.inl ⟨by rfl, fun W hW => ?_⟩) hS (fun inv => ?_)
  · go_simp
  simp only [Act.put, List.setIfInBounds_toArray, List.set_cons_zero, List.set_cons_succ]
  refine wpHead_take inv (i := 11) (v := .int .u8 z.toNat) rfl (by kernel_rfl) (by kernel_rfl) (by kernel_rfl) (of_decide_eq_true (by kernel_rfl)) (by decide) (by kernel_rfl) (by kernel_rfl) (fun _ _ _ h => h) (Or.inl ⟨by rfl, fun W hW => ?_⟩) hS (fun inv => ?_)
  · have hld := (hW.cell (p := ⟨w.heap.size, 2, none⟩) lt3).trans qz
    go_simp
  simp only [Act.put, List.setIfInBounds_toArray, List.set_cons_zero, List.set_cons_succ]
  refine wpHead_take inv (i := 12) (v := .int .i64 z.toNat) rfl (by kernel_rfl) (by kernel_rfl) (by kernel_rfl) (of_decide_eq_true (by kernel_rfl)) (by decide) (by kernel_rfl) (by kernel_rfl) (fun _ _ _ h => h) (Or.inl ⟨by rfl, fun W hW => ?_⟩) hS (fun inv => ?_)
  · go_simp
  simp only [Act.put, List.setIfInBounds_toArray, List.set_cons_zero, List.set_cons_succ]
  refine wpHead_take inv (i := 13) (v := .agg #[.int .i64 x.toNat, .int .i64 y.toNat, .int .i64 z.toNat]) rfl (by kernel_rfl) (by kernel_rfl) (by kernel_rfl) (of_decide_eq_true (by kernel_rfl)) (by decide) (by kernel_rfl) (by kernel_rfl) (fun _ _ _ h => h) (Or.inl ⟨by rfl, fun W hW => ?_⟩) hS (fun inv => ?_)
  · go_simp
  simp only [Act.put, List.setIfInBounds_toArray, List.set_cons_zero, List.set_cons_succ]
  have HQ14 := Lib.hid q14
  clear q14 qx qy qz v0 v1 v2
  have HS0 := Lib.hid hS
  have HZS := Lib.hid hz
  clear hS hz
  refine wpHead_two inv (i := 0) (j := 14) rfl rfl (by kernel_rfl) (by decide) (by decide) (fun K hK => ?_) (fun K hK => ?_)
  · go_simp
    obtain ⟨W1, hsW1, hbW1, hoW1, hzW1, hWW1⟩ : ∃ W', W0.heap.size < W'.heap.size ∧ Below w9.heap.size w9 W' ∧ W'.ownsRow w9.heap.size 59 3 (.slice (some ⟨W0.heap.size, 0, none⟩) 0 0) 0 [] ∧ w9.heap.size ≤ W'.heap.size ∧ W0.alloc (.cells #[] 59) = W' := ⟨_, by simp, HS0.out.alloc HZS.out _, own_base (empty_own W0) HZS.out, Nat.le_trans HZS.out (by simp), rfl⟩
    rw [hWW1]
    clear hWW1
    refine hK _ _ hbW1 (fun inv => ?_)
    clear hK K
    have HBW1 := Lib.hid hbW1
    have HOW1 := Lib.hid hoW1
    have HZW1 := Lib.hid hzW1
    clear hbW1 hoW1 hzW1
    refine wpHead_two inv (i := 3) (j := 14) rfl rfl (by kernel_rfl) (by decide) (by decide) (fun K hK => ?_) (fun K hK => ?_)
    · refine step_append_pks rfl (.tmp 53) (.tmp 55) rfl w9.heap.size (.slice (some ⟨W0.heap.size, 0, none⟩) 0 0) 0 [] rfl HOW1.out (by simp) B2 _ d2 xks rfl rfl (HK9.out.below HBW1.out) (by omega) HZW1.out ?_
      intro vW2 W2 hoW2 hgW2 _
      have HBW2 := Lib.hid (HBW1.out.grown hgW2 HZW1.out (fun k e => (HOW1.out.lt k e).1))
      have HZW2 := Lib.hid (Nat.le_trans HZW1.out hgW2.size)
      have HOW2 := Lib.hid hoW2
      refine hK _ _ HBW2.out (fun inv => ?_)
      clear hK K hoW2 hgW2
      refine wpHead_one inv (i := 14) rfl (by kernel_rfl) (by decide) (fun K hK => ?_)
      go_simp
      obtain ⟨W3, hsW3, hbW3, hpW3, hzW3, hoW3, hWW3⟩ : ∃ W', W2.heap.size < W'.heap.size ∧ Below w9.heap.size w9 W' ∧ PickAt W' W2.heap.size (⟨x.toNat, y.toNat, z.toNat⟩ : PK) ∧ w9.heap.size ≤ W'.heap.size ∧ W'.ownsRow w9.heap.size 59 3 vW2 (0 + xks.length) ([] ++ pflat xks) ∧ W2.alloc (.cells #[.int .i64 x.toNat, .int .i64 y.toNat, .int .i64 z.toNat] 59) = W' := ⟨_, by simp, HBW2.out.alloc HZW2.out _, heap_alloc_new W2 _, Nat.le_trans HZW2.out (by simp), HOW2.out.alloc _, rfl⟩
      rw [hWW3]
      clear hWW3
      refine hK _ _ hbW3 (fun inv => ?_)
      clear hK K
      have HBW3 := Lib.hid hbW3
      have HPW3 := Lib.hid hpW3
      have HZW3 := Lib.hid hzW3
      clear hbW3 hpW3 hzW3
      have HOW3 := Lib.hid hoW3
      clear hoW3
      refine wpHead_one inv (i := 15) rfl (by kernel_rfl) (by decide) (fun K hK => ?_)
      refine step_append_own_at rfl (.tmp 56) (.tmp 67) 41 rfl w9.heap.size 59 i0 (PK.val ⟨0, 0, 0⟩) 3 24 Tryd.underlying41 HI0.out HZ0.out HZ1.out HZ2.out rfl (by decide) vW2 (0 + xks.length) ([] ++ pflat xks) rfl HOW3.out ⟨W2.heap.size, 0, none⟩ 1 1 (PK.arr (⟨x.toNat, y.toNat, z.toNat⟩ : PK)).toList rfl rfl HPW3.out.cells (PK.one_list _) (by simp only [maxLen]; omega) (by omega) HZW3.out ?_
      intro v5 W5 ho5 hg5 _
      have HB5 := Lib.hid (HBW3.out.grown hg5 HZW3.out (fun k e => (HOW3.out.lt k e).1))
      have HZ5 := Lib.hid (Nat.le_trans HZW3.out hg5.size)
      have hlm : mk.length = 0 + xks.length + 1 := by rw [← HMK.out]; simp
      have ho6 : W5.ownsRow w9.heap.size 59 3 v5 mk.length (pflat mk) := by
        rw [hlm, ← HMK.out, pflat_append]
        simpa [pflat] using ho5
      obtain ⟨A7, c7, rfl⟩ := own_form ho6
      have HO5 := Lib.hid ho6
      clear ho5 ho6 hg5 hlm
      refine hK _ _ HB5.out (fun inv => ?_)
      clear hK K
      refine wpHead_one inv (i := 16) rfl (by kernel_rfl) (by decide) (fun K hK => ?_)
      go_simp
      refine hK _ _ HB5.out (fun inv => ?_)
      clear hK K
      have hbx5 := (HB5.out.block w2.heap.size lt5).trans HY9.out
      have hc5 : W5.cell? ⟨w2.heap.size, 14, none⟩ = some (.slice B2 xks.length d2) := box_cell hbx5 14 rfl
      have hf5 : W5.frozen? ⟨w2.heap.size, 14, none⟩ = false := frozen_of_row W5 w2.heap.size 14 _ _ hbx5
      have HBX5 := Lib.hid hbx5
      have HC5 := Lib.hid hc5
      clear hbx5
      refine wpHead_last rfl (by kernel_rfl) (by kernel_rfl) (fun K hK => ?_)
      go_simp
      refine hK _ _ ?_
      clear hK K hc5 hf5
      have hsz6 : W5.heap.size ≤ (W5.setCell ⟨w2.heap.size, 14, none⟩ (.slice A7 mk.length c7)).heap.size := by simp [World.setCell]
      obtain ⟨W6, hy6, hz6, hp6, hk6, hq6, hj6, hb6, hW6⟩ : ∃ W', W'.heap[w2.heap.size]? = some (.cells (scells xc (.slice B1 xps.length d1) (.slice A7 mk.length c7)) 43 (0, 0)) ∧ W'.heap[w4.heap.size]? = some (.cells (scells xc (.slice T1 xps.length t1) (.slice T2 mk.length t2)) 43 (0, 0)) ∧ ProgsIn W' B1 xps ∧ PicksIn W' A7 mk ∧ ProgsIn W' T1 xps ∧ PicksIn W' T2 mk ∧ Below w.heap.size w W' ∧ W5.setCell ⟨w2.heap.size, 14, none⟩ (.slice A7 mk.length c7) = W' :=
        ⟨_, heap_setCell_same W5 w2.heap.size 14 _ 43 _ HBX5.out, heap_set_other (by have := HB23.out.size; have := HB34.out.size; have := (Array.getElem?_eq_some_iff.1 HY3.out).1; omega) ((HB5.out.block w4.heap.size (Array.getElem?_eq_some_iff.1 HZ9.out).1).trans HZ9.out),
          HP2.out.below ((HB29.out.trans (HB5.out.mono HB29.out.size)).grown (grown_set W5 w2.heap.size 14 _) (by have := HB29.out.size; have := HB5.out.size; omega) (fun k e => by injection e with e; omega)),
          own_picks (HO5.out.kept (grown_set W5 w2.heap.size 14 _) (.inr (fun e => by have := (HO5.out.lt _ e).1; omega))) rfl,
          ((HP4.out.below HB49.out).below HB5.out).setSlice HC5.out (fun a ha => by have := HFR.out a ha; have := (Array.getElem?_eq_some_iff.1 HY3.out).1; show a.block ≠ w2.heap.size; omega),
          ((HK4.out.below HB49.out).below HB5.out).setSlice HC5.out,
          (HB09.out.trans (HB5.out.mono HB09.out.size)).grown (grown_set W5 w2.heap.size 14 _) (by have := HB09.out.size; have := HB5.out.size; omega) (fun k e => by injection e with e; have := HB2.out.size; omega), rfl⟩
      rw [hW6]
      clear hW6 hsz6
      have HY6' := Lib.hid hy6
      have HZ6' := Lib.hid hz6
      have HP6' := Lib.hid hp6
      have HK6' := Lib.hid hk6
      have HQ6' := Lib.hid hq6
      have HJ6' := Lib.hid hj6
      have HB6' := Lib.hid hb6
      have HST := Lib.hid (thirty_start hy6 hz6)
      have hmk3 : mk.length ≤ 3000 := by rw [← HMK.out]; simp; omega
      clear hy6 hz6 hp6 hk6 hq6 hj6 hb6
      have hps : xps.length ≤ 9223372036854775807 := by
        have h1 := (ok_all HXP.out.1).1
        have h2 := HXP.out.2.1
        omega
      have HL6 : Hid (∀ l ∈ xps, l.length ≤ 5000) := fun l hl => by
        have := (fits_may (HXP.out.2.2.1 l hl)).1
        omega
      have O1 := Lib.hid (fun W a b => own_walk xc xps mk B1 A7 d1 c7 hps hmk3 W a b)
      have O2 := Lib.hid (fun W a b => own_walk xc xps mk T1 T2 t1 t2 hps hmk3 W a b)
      unfold scells at O1 O2
      go_wp2_with fail
      go_region_held3 (fun W' => W'.cell? ⟨w2.heap.size, 0, none⟩ = some (.int .i64 xc.cores) ∧ W'.cell? ⟨w2.heap.size, 1, none⟩ = some (.int .i64 xc.homes) ∧ W'.cell? ⟨w2.heap.size, 2, none⟩ = some (.int .i64 xc.sets) ∧ W'.cell? ⟨w2.heap.size, 3, none⟩ = some (.int .i64 xc.ways) ∧ W'.cell? ⟨w2.heap.size, 4, none⟩ = some (.int .i64 xc.words) ∧ W'.cell? ⟨w2.heap.size, 5, none⟩ = some (.int .i64 xc.lines) ∧ W'.cell? ⟨w2.heap.size, 6, none⟩ = some (.int .i64 xc.pointers) ∧ W'.cell? ⟨w2.heap.size, 7, none⟩ = some (.int .i64 xc.mshrs) ∧ W'.cell? ⟨w2.heap.size, 8, none⟩ = some (.int .i64 xc.buffer) ∧ W'.cell? ⟨w2.heap.size, 9, none⟩ = some (.int .i64 xc.writebacks) ∧ W'.cell? ⟨w2.heap.size, 10, none⟩ = some (.int .i64 xc.r0) ∧ W'.cell? ⟨w2.heap.size, 11, none⟩ = some (.int .i64 xc.r1) ∧ W'.cell? ⟨w2.heap.size, 12, none⟩ = some (.int .i64 xc.r2) ∧ W'.cell? ⟨w2.heap.size, 13, none⟩ = some (.slice B1 xps.length d1) ∧ W'.cell? ⟨w2.heap.size, 14, none⟩ = some (.slice A7 mk.length c7) ∧ W'.cell? ⟨w4.heap.size, 0, none⟩ = some (.int .i64 xc.cores) ∧ W'.cell? ⟨w4.heap.size, 1, none⟩ = some (.int .i64 xc.homes) ∧ W'.cell? ⟨w4.heap.size, 2, none⟩ = some (.int .i64 xc.sets) ∧ W'.cell? ⟨w4.heap.size, 3, none⟩ = some (.int .i64 xc.ways) ∧ W'.cell? ⟨w4.heap.size, 4, none⟩ = some (.int .i64 xc.words) ∧ W'.cell? ⟨w4.heap.size, 5, none⟩ = some (.int .i64 xc.lines) ∧ W'.cell? ⟨w4.heap.size, 6, none⟩ = some (.int .i64 xc.pointers) ∧ W'.cell? ⟨w4.heap.size, 7, none⟩ = some (.int .i64 xc.mshrs) ∧ W'.cell? ⟨w4.heap.size, 8, none⟩ = some (.int .i64 xc.buffer) ∧ W'.cell? ⟨w4.heap.size, 9, none⟩ = some (.int .i64 xc.writebacks) ∧ W'.cell? ⟨w4.heap.size, 10, none⟩ = some (.int .i64 xc.r0) ∧ W'.cell? ⟨w4.heap.size, 11, none⟩ = some (.int .i64 xc.r1) ∧ W'.cell? ⟨w4.heap.size, 12, none⟩ = some (.int .i64 xc.r2) ∧ W'.cell? ⟨w4.heap.size, 13, none⟩ = some (.slice T1 xps.length t1) ∧ W'.cell? ⟨w4.heap.size, 14, none⟩ = some (.slice T2 mk.length t2) ∧ Below W6.heap.size W6 W') (first | exact HST.out | exact thirty_keep (by assumption) hb) (first | (go_at_call 24; (with_reducible refine (O1.out _ (HP6'.out.below (thirty_last (by assumption))) (HK6'.out.below (thirty_last (by assumption)))).mono ?_); rintro e wa ⟨v, rfl, ⟨D1, g1, D2, g2, rfl, hpa, hka⟩, hb⟩; have HPa := Lib.hid hpa; have HKa := Lib.hid hka; clear hpa hka) | (go_at_call 24; (with_reducible refine (O2.out _ (HQ6'.out.below (thirty_last (by assumption))) (HJ6'.out.below (thirty_last (by assumption)))).mono ?_); rintro e wb ⟨v, rfl, ⟨E1, i1, E2, i2, rfl, hpb, hkb⟩, hb⟩; have HPb := Lib.hid hpb; have HKb := Lib.hid hkb; have HPa2 := Lib.hid (HPa.out.below hb); have HKa2 := Lib.hid (HKa.out.below hb); clear hpb hkb) | (go_at_call 27; refine (same4_walk xc xps mk D1 D2 E1 E2 g1 g2 i1 i2 hps (by omega) HL6.out _ HPa2.out HKa2.out HPb.out HKb.out).mono ?_; rintro e wc ⟨rfl, hb⟩))
      have hd := thirty_last (by assumption)
      have HBe := Lib.hid (HB6'.out.trans (hd.mono HB6'.out.size))
      clear hd
      go_wp2
      go_ret
      exact ⟨rfl, HBe.out⟩
    · go_simp
      obtain ⟨W2, hsW2, hbW2, hpW2, hzW2, hoW2, hWW2⟩ : ∃ W', W1.heap.size < W'.heap.size ∧ Below w9.heap.size w9 W' ∧ PickAt W' W1.heap.size (⟨x.toNat, y.toNat, z.toNat⟩ : PK) ∧ w9.heap.size ≤ W'.heap.size ∧ W'.ownsRow w9.heap.size 59 3 (.slice (some ⟨W0.heap.size, 0, none⟩) 0 0) 0 [] ∧ W1.alloc (.cells #[.int .i64 x.toNat, .int .i64 y.toNat, .int .i64 z.toNat] 59) = W' := ⟨_, by simp, HBW1.out.alloc HZW1.out _, heap_alloc_new W1 _, Nat.le_trans HZW1.out (by simp), HOW1.out.alloc _, rfl⟩
      rw [hWW2]
      clear hWW2
      refine hK _ _ hbW2 (fun inv => ?_)
      clear hK K
      have HBW2 := Lib.hid hbW2
      have HPW2 := Lib.hid hpW2
      have HZW2 := Lib.hid hzW2
      clear hbW2 hpW2 hzW2
      have HOW2 := Lib.hid hoW2
      clear hoW2
      refine wpHead_one inv (i := 3) rfl (by kernel_rfl) (by decide) (fun K hK => ?_)
      refine step_append_pks rfl (.tmp 53) (.tmp 55) rfl w9.heap.size (.slice (some ⟨W0.heap.size, 0, none⟩) 0 0) 0 [] rfl HOW2.out (by simp) B2 _ d2 xks rfl rfl (HK9.out.below HBW2.out) (by omega) HZW2.out ?_
      intro vW3 W3 hoW3 hgW3 _
      have HBW3 := Lib.hid (HBW2.out.grown hgW3 HZW2.out (fun k e => (HOW2.out.lt k e).1))
      have HZW3 := Lib.hid (Nat.le_trans HZW2.out hgW3.size)
      have HOW3 := Lib.hid hoW3
      have HPW3 := Lib.hid (show PickAt W3 W1.heap.size (⟨x.toNat, y.toNat, z.toNat⟩ : PK) from grown_block hgW3 HPW2.out (fun e => by have e : W1.heap.size = W0.heap.size := Option.some.inj e; omega))
      refine hK _ _ HBW3.out (fun inv => ?_)
      clear hK K hoW3 hgW3
      refine wpHead_one inv (i := 15) rfl (by kernel_rfl) (by decide) (fun K hK => ?_)
      refine step_append_own_at rfl (.tmp 56) (.tmp 67) 41 rfl w9.heap.size 59 i0 (PK.val ⟨0, 0, 0⟩) 3 24 Tryd.underlying41 HI0.out HZ0.out HZ1.out HZ2.out rfl (by decide) vW3 (0 + xks.length) ([] ++ pflat xks) rfl HOW3.out ⟨W1.heap.size, 0, none⟩ 1 1 (PK.arr (⟨x.toNat, y.toNat, z.toNat⟩ : PK)).toList rfl rfl HPW3.out.cells (PK.one_list _) (by simp only [maxLen]; omega) (by omega) HZW3.out ?_
      intro v5 W5 ho5 hg5 _
      have HB5 := Lib.hid (HBW3.out.grown hg5 HZW3.out (fun k e => (HOW3.out.lt k e).1))
      have HZ5 := Lib.hid (Nat.le_trans HZW3.out hg5.size)
      have hlm : mk.length = 0 + xks.length + 1 := by rw [← HMK.out]; simp
      have ho6 : W5.ownsRow w9.heap.size 59 3 v5 mk.length (pflat mk) := by
        rw [hlm, ← HMK.out, pflat_append]
        simpa [pflat] using ho5
      obtain ⟨A7, c7, rfl⟩ := own_form ho6
      have HO5 := Lib.hid ho6
      clear ho5 ho6 hg5 hlm
      refine hK _ _ HB5.out (fun inv => ?_)
      clear hK K
      refine wpHead_one inv (i := 16) rfl (by kernel_rfl) (by decide) (fun K hK => ?_)
      go_simp
      refine hK _ _ HB5.out (fun inv => ?_)
      clear hK K
      have hbx5 := (HB5.out.block w2.heap.size lt5).trans HY9.out
      have hc5 : W5.cell? ⟨w2.heap.size, 14, none⟩ = some (.slice B2 xks.length d2) := box_cell hbx5 14 rfl
      have hf5 : W5.frozen? ⟨w2.heap.size, 14, none⟩ = false := frozen_of_row W5 w2.heap.size 14 _ _ hbx5
      have HBX5 := Lib.hid hbx5
      have HC5 := Lib.hid hc5
      clear hbx5
      refine wpHead_last rfl (by kernel_rfl) (by kernel_rfl) (fun K hK => ?_)
      go_simp
      refine hK _ _ ?_
      clear hK K hc5 hf5
      have hsz6 : W5.heap.size ≤ (W5.setCell ⟨w2.heap.size, 14, none⟩ (.slice A7 mk.length c7)).heap.size := by simp [World.setCell]
      obtain ⟨W6, hy6, hz6, hp6, hk6, hq6, hj6, hb6, hW6⟩ : ∃ W', W'.heap[w2.heap.size]? = some (.cells (scells xc (.slice B1 xps.length d1) (.slice A7 mk.length c7)) 43 (0, 0)) ∧ W'.heap[w4.heap.size]? = some (.cells (scells xc (.slice T1 xps.length t1) (.slice T2 mk.length t2)) 43 (0, 0)) ∧ ProgsIn W' B1 xps ∧ PicksIn W' A7 mk ∧ ProgsIn W' T1 xps ∧ PicksIn W' T2 mk ∧ Below w.heap.size w W' ∧ W5.setCell ⟨w2.heap.size, 14, none⟩ (.slice A7 mk.length c7) = W' :=
        ⟨_, heap_setCell_same W5 w2.heap.size 14 _ 43 _ HBX5.out, heap_set_other (by have := HB23.out.size; have := HB34.out.size; have := (Array.getElem?_eq_some_iff.1 HY3.out).1; omega) ((HB5.out.block w4.heap.size (Array.getElem?_eq_some_iff.1 HZ9.out).1).trans HZ9.out),
          HP2.out.below ((HB29.out.trans (HB5.out.mono HB29.out.size)).grown (grown_set W5 w2.heap.size 14 _) (by have := HB29.out.size; have := HB5.out.size; omega) (fun k e => by injection e with e; omega)),
          own_picks (HO5.out.kept (grown_set W5 w2.heap.size 14 _) (.inr (fun e => by have := (HO5.out.lt _ e).1; omega))) rfl,
          ((HP4.out.below HB49.out).below HB5.out).setSlice HC5.out (fun a ha => by have := HFR.out a ha; have := (Array.getElem?_eq_some_iff.1 HY3.out).1; show a.block ≠ w2.heap.size; omega),
          ((HK4.out.below HB49.out).below HB5.out).setSlice HC5.out,
          (HB09.out.trans (HB5.out.mono HB09.out.size)).grown (grown_set W5 w2.heap.size 14 _) (by have := HB09.out.size; have := HB5.out.size; omega) (fun k e => by injection e with e; have := HB2.out.size; omega), rfl⟩
      rw [hW6]
      clear hW6 hsz6
      have HY6' := Lib.hid hy6
      have HZ6' := Lib.hid hz6
      have HP6' := Lib.hid hp6
      have HK6' := Lib.hid hk6
      have HQ6' := Lib.hid hq6
      have HJ6' := Lib.hid hj6
      have HB6' := Lib.hid hb6
      have HST := Lib.hid (thirty_start hy6 hz6)
      have hmk3 : mk.length ≤ 3000 := by rw [← HMK.out]; simp; omega
      clear hy6 hz6 hp6 hk6 hq6 hj6 hb6
      have hps : xps.length ≤ 9223372036854775807 := by
        have h1 := (ok_all HXP.out.1).1
        have h2 := HXP.out.2.1
        omega
      have HL6 : Hid (∀ l ∈ xps, l.length ≤ 5000) := fun l hl => by
        have := (fits_may (HXP.out.2.2.1 l hl)).1
        omega
      have O1 := Lib.hid (fun W a b => own_walk xc xps mk B1 A7 d1 c7 hps hmk3 W a b)
      have O2 := Lib.hid (fun W a b => own_walk xc xps mk T1 T2 t1 t2 hps hmk3 W a b)
      unfold scells at O1 O2
      go_wp2_with fail
      go_region_held3 (fun W' => W'.cell? ⟨w2.heap.size, 0, none⟩ = some (.int .i64 xc.cores) ∧ W'.cell? ⟨w2.heap.size, 1, none⟩ = some (.int .i64 xc.homes) ∧ W'.cell? ⟨w2.heap.size, 2, none⟩ = some (.int .i64 xc.sets) ∧ W'.cell? ⟨w2.heap.size, 3, none⟩ = some (.int .i64 xc.ways) ∧ W'.cell? ⟨w2.heap.size, 4, none⟩ = some (.int .i64 xc.words) ∧ W'.cell? ⟨w2.heap.size, 5, none⟩ = some (.int .i64 xc.lines) ∧ W'.cell? ⟨w2.heap.size, 6, none⟩ = some (.int .i64 xc.pointers) ∧ W'.cell? ⟨w2.heap.size, 7, none⟩ = some (.int .i64 xc.mshrs) ∧ W'.cell? ⟨w2.heap.size, 8, none⟩ = some (.int .i64 xc.buffer) ∧ W'.cell? ⟨w2.heap.size, 9, none⟩ = some (.int .i64 xc.writebacks) ∧ W'.cell? ⟨w2.heap.size, 10, none⟩ = some (.int .i64 xc.r0) ∧ W'.cell? ⟨w2.heap.size, 11, none⟩ = some (.int .i64 xc.r1) ∧ W'.cell? ⟨w2.heap.size, 12, none⟩ = some (.int .i64 xc.r2) ∧ W'.cell? ⟨w2.heap.size, 13, none⟩ = some (.slice B1 xps.length d1) ∧ W'.cell? ⟨w2.heap.size, 14, none⟩ = some (.slice A7 mk.length c7) ∧ W'.cell? ⟨w4.heap.size, 0, none⟩ = some (.int .i64 xc.cores) ∧ W'.cell? ⟨w4.heap.size, 1, none⟩ = some (.int .i64 xc.homes) ∧ W'.cell? ⟨w4.heap.size, 2, none⟩ = some (.int .i64 xc.sets) ∧ W'.cell? ⟨w4.heap.size, 3, none⟩ = some (.int .i64 xc.ways) ∧ W'.cell? ⟨w4.heap.size, 4, none⟩ = some (.int .i64 xc.words) ∧ W'.cell? ⟨w4.heap.size, 5, none⟩ = some (.int .i64 xc.lines) ∧ W'.cell? ⟨w4.heap.size, 6, none⟩ = some (.int .i64 xc.pointers) ∧ W'.cell? ⟨w4.heap.size, 7, none⟩ = some (.int .i64 xc.mshrs) ∧ W'.cell? ⟨w4.heap.size, 8, none⟩ = some (.int .i64 xc.buffer) ∧ W'.cell? ⟨w4.heap.size, 9, none⟩ = some (.int .i64 xc.writebacks) ∧ W'.cell? ⟨w4.heap.size, 10, none⟩ = some (.int .i64 xc.r0) ∧ W'.cell? ⟨w4.heap.size, 11, none⟩ = some (.int .i64 xc.r1) ∧ W'.cell? ⟨w4.heap.size, 12, none⟩ = some (.int .i64 xc.r2) ∧ W'.cell? ⟨w4.heap.size, 13, none⟩ = some (.slice T1 xps.length t1) ∧ W'.cell? ⟨w4.heap.size, 14, none⟩ = some (.slice T2 mk.length t2) ∧ Below W6.heap.size W6 W') (first | exact HST.out | exact thirty_keep (by assumption) hb) (first | (go_at_call 24; (with_reducible refine (O1.out _ (HP6'.out.below (thirty_last (by assumption))) (HK6'.out.below (thirty_last (by assumption)))).mono ?_); rintro e wa ⟨v, rfl, ⟨D1, g1, D2, g2, rfl, hpa, hka⟩, hb⟩; have HPa := Lib.hid hpa; have HKa := Lib.hid hka; clear hpa hka) | (go_at_call 24; (with_reducible refine (O2.out _ (HQ6'.out.below (thirty_last (by assumption))) (HJ6'.out.below (thirty_last (by assumption)))).mono ?_); rintro e wb ⟨v, rfl, ⟨E1, i1, E2, i2, rfl, hpb, hkb⟩, hb⟩; have HPb := Lib.hid hpb; have HKb := Lib.hid hkb; have HPa2 := Lib.hid (HPa.out.below hb); have HKa2 := Lib.hid (HKa.out.below hb); clear hpb hkb) | (go_at_call 27; refine (same4_walk xc xps mk D1 D2 E1 E2 g1 g2 i1 i2 hps (by omega) HL6.out _ HPa2.out HKa2.out HPb.out HKb.out).mono ?_; rintro e wc ⟨rfl, hb⟩))
      have hd := thirty_last (by assumption)
      have HBe := Lib.hid (HB6'.out.trans (hd.mono HB6'.out.size))
      clear hd
      go_wp2
      go_ret
      exact ⟨rfl, HBe.out⟩
  · go_simp
    obtain ⟨W1, hsW1, hbW1, hpW1, hzW1, hWW1⟩ : ∃ W', W0.heap.size < W'.heap.size ∧ Below w9.heap.size w9 W' ∧ PickAt W' W0.heap.size (⟨x.toNat, y.toNat, z.toNat⟩ : PK) ∧ w9.heap.size ≤ W'.heap.size ∧ W0.alloc (.cells #[.int .i64 x.toNat, .int .i64 y.toNat, .int .i64 z.toNat] 59) = W' := ⟨_, by simp, HS0.out.alloc HZS.out _, heap_alloc_new W0 _, Nat.le_trans HZS.out (by simp), rfl⟩
    rw [hWW1]
    clear hWW1
    refine hK _ _ hbW1 (fun inv => ?_)
    clear hK K
    have HBW1 := Lib.hid hbW1
    have HPW1 := Lib.hid hpW1
    have HZW1 := Lib.hid hzW1
    clear hbW1 hpW1 hzW1
    refine wpHead_one inv (i := 0) rfl (by kernel_rfl) (by decide) (fun K hK => ?_)
    go_simp
    obtain ⟨W2, hsW2, hbW2, hoW2, hzW2, hpW2, hWW2⟩ : ∃ W', W1.heap.size < W'.heap.size ∧ Below w9.heap.size w9 W' ∧ W'.ownsRow w9.heap.size 59 3 (.slice (some ⟨W1.heap.size, 0, none⟩) 0 0) 0 [] ∧ w9.heap.size ≤ W'.heap.size ∧ PickAt W' W0.heap.size (⟨x.toNat, y.toNat, z.toNat⟩ : PK) ∧ W1.alloc (.cells #[] 59) = W' := ⟨_, by simp, HBW1.out.alloc HZW1.out _, own_base (empty_own W1) HZW1.out, Nat.le_trans HZW1.out (by simp), (Below.heap_alloc W1 _ W0.heap.size (Array.getElem?_eq_some_iff.1 HPW1.out).1).trans HPW1.out, rfl⟩
    rw [hWW2]
    clear hWW2
    refine hK _ _ hbW2 (fun inv => ?_)
    clear hK K
    have HBW2 := Lib.hid hbW2
    have HOW2 := Lib.hid hoW2
    have HZW2 := Lib.hid hzW2
    clear hbW2 hoW2 hzW2
    have HPW2 := Lib.hid hpW2
    clear hpW2
    refine wpHead_one inv (i := 3) rfl (by kernel_rfl) (by decide) (fun K hK => ?_)
    refine step_append_pks rfl (.tmp 53) (.tmp 55) rfl w9.heap.size (.slice (some ⟨W1.heap.size, 0, none⟩) 0 0) 0 [] rfl HOW2.out (by simp) B2 _ d2 xks rfl rfl (HK9.out.below HBW2.out) (by omega) HZW2.out ?_
    intro vW3 W3 hoW3 hgW3 _
    have HBW3 := Lib.hid (HBW2.out.grown hgW3 HZW2.out (fun k e => (HOW2.out.lt k e).1))
    have HZW3 := Lib.hid (Nat.le_trans HZW2.out hgW3.size)
    have HOW3 := Lib.hid hoW3
    have HPW3 := Lib.hid (show PickAt W3 W0.heap.size (⟨x.toNat, y.toNat, z.toNat⟩ : PK) from grown_block hgW3 HPW2.out (fun e => by have e : W0.heap.size = W1.heap.size := Option.some.inj e; omega))
    refine hK _ _ HBW3.out (fun inv => ?_)
    clear hK K hoW3 hgW3
    refine wpHead_one inv (i := 15) rfl (by kernel_rfl) (by decide) (fun K hK => ?_)
    refine step_append_own_at rfl (.tmp 56) (.tmp 67) 41 rfl w9.heap.size 59 i0 (PK.val ⟨0, 0, 0⟩) 3 24 Tryd.underlying41 HI0.out HZ0.out HZ1.out HZ2.out rfl (by decide) vW3 (0 + xks.length) ([] ++ pflat xks) rfl HOW3.out ⟨W0.heap.size, 0, none⟩ 1 1 (PK.arr (⟨x.toNat, y.toNat, z.toNat⟩ : PK)).toList rfl rfl HPW3.out.cells (PK.one_list _) (by simp only [maxLen]; omega) (by omega) HZW3.out ?_
    intro v5 W5 ho5 hg5 _
    have HB5 := Lib.hid (HBW3.out.grown hg5 HZW3.out (fun k e => (HOW3.out.lt k e).1))
    have HZ5 := Lib.hid (Nat.le_trans HZW3.out hg5.size)
    have hlm : mk.length = 0 + xks.length + 1 := by rw [← HMK.out]; simp
    have ho6 : W5.ownsRow w9.heap.size 59 3 v5 mk.length (pflat mk) := by
      rw [hlm, ← HMK.out, pflat_append]
      simpa [pflat] using ho5
    obtain ⟨A7, c7, rfl⟩ := own_form ho6
    have HO5 := Lib.hid ho6
    clear ho5 ho6 hg5 hlm
    refine hK _ _ HB5.out (fun inv => ?_)
    clear hK K
    refine wpHead_one inv (i := 16) rfl (by kernel_rfl) (by decide) (fun K hK => ?_)
    go_simp
    refine hK _ _ HB5.out (fun inv => ?_)
    clear hK K
    have hbx5 := (HB5.out.block w2.heap.size lt5).trans HY9.out
    have hc5 : W5.cell? ⟨w2.heap.size, 14, none⟩ = some (.slice B2 xks.length d2) := box_cell hbx5 14 rfl
    have hf5 : W5.frozen? ⟨w2.heap.size, 14, none⟩ = false := frozen_of_row W5 w2.heap.size 14 _ _ hbx5
    have HBX5 := Lib.hid hbx5
    have HC5 := Lib.hid hc5
    clear hbx5
    refine wpHead_last rfl (by kernel_rfl) (by kernel_rfl) (fun K hK => ?_)
    go_simp
    refine hK _ _ ?_
    clear hK K hc5 hf5
    have hsz6 : W5.heap.size ≤ (W5.setCell ⟨w2.heap.size, 14, none⟩ (.slice A7 mk.length c7)).heap.size := by simp [World.setCell]
    obtain ⟨W6, hy6, hz6, hp6, hk6, hq6, hj6, hb6, hW6⟩ : ∃ W', W'.heap[w2.heap.size]? = some (.cells (scells xc (.slice B1 xps.length d1) (.slice A7 mk.length c7)) 43 (0, 0)) ∧ W'.heap[w4.heap.size]? = some (.cells (scells xc (.slice T1 xps.length t1) (.slice T2 mk.length t2)) 43 (0, 0)) ∧ ProgsIn W' B1 xps ∧ PicksIn W' A7 mk ∧ ProgsIn W' T1 xps ∧ PicksIn W' T2 mk ∧ Below w.heap.size w W' ∧ W5.setCell ⟨w2.heap.size, 14, none⟩ (.slice A7 mk.length c7) = W' :=
      ⟨_, heap_setCell_same W5 w2.heap.size 14 _ 43 _ HBX5.out, heap_set_other (by have := HB23.out.size; have := HB34.out.size; have := (Array.getElem?_eq_some_iff.1 HY3.out).1; omega) ((HB5.out.block w4.heap.size (Array.getElem?_eq_some_iff.1 HZ9.out).1).trans HZ9.out),
        HP2.out.below ((HB29.out.trans (HB5.out.mono HB29.out.size)).grown (grown_set W5 w2.heap.size 14 _) (by have := HB29.out.size; have := HB5.out.size; omega) (fun k e => by injection e with e; omega)),
        own_picks (HO5.out.kept (grown_set W5 w2.heap.size 14 _) (.inr (fun e => by have := (HO5.out.lt _ e).1; omega))) rfl,
        ((HP4.out.below HB49.out).below HB5.out).setSlice HC5.out (fun a ha => by have := HFR.out a ha; have := (Array.getElem?_eq_some_iff.1 HY3.out).1; show a.block ≠ w2.heap.size; omega),
        ((HK4.out.below HB49.out).below HB5.out).setSlice HC5.out,
        (HB09.out.trans (HB5.out.mono HB09.out.size)).grown (grown_set W5 w2.heap.size 14 _) (by have := HB09.out.size; have := HB5.out.size; omega) (fun k e => by injection e with e; have := HB2.out.size; omega), rfl⟩
    rw [hW6]
    clear hW6 hsz6
    have HY6' := Lib.hid hy6
    have HZ6' := Lib.hid hz6
    have HP6' := Lib.hid hp6
    have HK6' := Lib.hid hk6
    have HQ6' := Lib.hid hq6
    have HJ6' := Lib.hid hj6
    have HB6' := Lib.hid hb6
    have HST := Lib.hid (thirty_start hy6 hz6)
    have hmk3 : mk.length ≤ 3000 := by rw [← HMK.out]; simp; omega
    clear hy6 hz6 hp6 hk6 hq6 hj6 hb6
    have hps : xps.length ≤ 9223372036854775807 := by
      have h1 := (ok_all HXP.out.1).1
      have h2 := HXP.out.2.1
      omega
    have HL6 : Hid (∀ l ∈ xps, l.length ≤ 5000) := fun l hl => by
      have := (fits_may (HXP.out.2.2.1 l hl)).1
      omega
    have O1 := Lib.hid (fun W a b => own_walk xc xps mk B1 A7 d1 c7 hps hmk3 W a b)
    have O2 := Lib.hid (fun W a b => own_walk xc xps mk T1 T2 t1 t2 hps hmk3 W a b)
    unfold scells at O1 O2
    go_wp2_with fail
    go_region_held3 (fun W' => W'.cell? ⟨w2.heap.size, 0, none⟩ = some (.int .i64 xc.cores) ∧ W'.cell? ⟨w2.heap.size, 1, none⟩ = some (.int .i64 xc.homes) ∧ W'.cell? ⟨w2.heap.size, 2, none⟩ = some (.int .i64 xc.sets) ∧ W'.cell? ⟨w2.heap.size, 3, none⟩ = some (.int .i64 xc.ways) ∧ W'.cell? ⟨w2.heap.size, 4, none⟩ = some (.int .i64 xc.words) ∧ W'.cell? ⟨w2.heap.size, 5, none⟩ = some (.int .i64 xc.lines) ∧ W'.cell? ⟨w2.heap.size, 6, none⟩ = some (.int .i64 xc.pointers) ∧ W'.cell? ⟨w2.heap.size, 7, none⟩ = some (.int .i64 xc.mshrs) ∧ W'.cell? ⟨w2.heap.size, 8, none⟩ = some (.int .i64 xc.buffer) ∧ W'.cell? ⟨w2.heap.size, 9, none⟩ = some (.int .i64 xc.writebacks) ∧ W'.cell? ⟨w2.heap.size, 10, none⟩ = some (.int .i64 xc.r0) ∧ W'.cell? ⟨w2.heap.size, 11, none⟩ = some (.int .i64 xc.r1) ∧ W'.cell? ⟨w2.heap.size, 12, none⟩ = some (.int .i64 xc.r2) ∧ W'.cell? ⟨w2.heap.size, 13, none⟩ = some (.slice B1 xps.length d1) ∧ W'.cell? ⟨w2.heap.size, 14, none⟩ = some (.slice A7 mk.length c7) ∧ W'.cell? ⟨w4.heap.size, 0, none⟩ = some (.int .i64 xc.cores) ∧ W'.cell? ⟨w4.heap.size, 1, none⟩ = some (.int .i64 xc.homes) ∧ W'.cell? ⟨w4.heap.size, 2, none⟩ = some (.int .i64 xc.sets) ∧ W'.cell? ⟨w4.heap.size, 3, none⟩ = some (.int .i64 xc.ways) ∧ W'.cell? ⟨w4.heap.size, 4, none⟩ = some (.int .i64 xc.words) ∧ W'.cell? ⟨w4.heap.size, 5, none⟩ = some (.int .i64 xc.lines) ∧ W'.cell? ⟨w4.heap.size, 6, none⟩ = some (.int .i64 xc.pointers) ∧ W'.cell? ⟨w4.heap.size, 7, none⟩ = some (.int .i64 xc.mshrs) ∧ W'.cell? ⟨w4.heap.size, 8, none⟩ = some (.int .i64 xc.buffer) ∧ W'.cell? ⟨w4.heap.size, 9, none⟩ = some (.int .i64 xc.writebacks) ∧ W'.cell? ⟨w4.heap.size, 10, none⟩ = some (.int .i64 xc.r0) ∧ W'.cell? ⟨w4.heap.size, 11, none⟩ = some (.int .i64 xc.r1) ∧ W'.cell? ⟨w4.heap.size, 12, none⟩ = some (.int .i64 xc.r2) ∧ W'.cell? ⟨w4.heap.size, 13, none⟩ = some (.slice T1 xps.length t1) ∧ W'.cell? ⟨w4.heap.size, 14, none⟩ = some (.slice T2 mk.length t2) ∧ Below W6.heap.size W6 W') (first | exact HST.out | exact thirty_keep (by assumption) hb) (first | (go_at_call 24; (with_reducible refine (O1.out _ (HP6'.out.below (thirty_last (by assumption))) (HK6'.out.below (thirty_last (by assumption)))).mono ?_); rintro e wa ⟨v, rfl, ⟨D1, g1, D2, g2, rfl, hpa, hka⟩, hb⟩; have HPa := Lib.hid hpa; have HKa := Lib.hid hka; clear hpa hka) | (go_at_call 24; (with_reducible refine (O2.out _ (HQ6'.out.below (thirty_last (by assumption))) (HJ6'.out.below (thirty_last (by assumption)))).mono ?_); rintro e wb ⟨v, rfl, ⟨E1, i1, E2, i2, rfl, hpb, hkb⟩, hb⟩; have HPb := Lib.hid hpb; have HKb := Lib.hid hkb; have HPa2 := Lib.hid (HPa.out.below hb); have HKa2 := Lib.hid (HKa.out.below hb); clear hpb hkb) | (go_at_call 27; refine (same4_walk xc xps mk D1 D2 E1 E2 g1 g2 i1 i2 hps (by omega) HL6.out _ HPa2.out HKa2.out HPb.out HKb.out).mono ?_; rintro e wc ⟨rfl, hb⟩))
    have hd := thirty_last (by assumption)
    have HBe := Lib.hid (HB6'.out.trans (hd.mono HB6'.out.size))
    clear hd
    go_wp2
    go_ret
    exact ⟨rfl, HBe.out⟩
end Go.Proofs.YtfjeheioglmalaaDoor
