/- append of a program's operations to a slice that the call owns. -/
import Derived.Test.YtfjeheioglmalaaDoorPrint
import Derived.Deep.AppendSrc
namespace Go.Proofs.YtfjeheioglmalaaDoor
open Go.RowKit Go.Lib
set_option linter.unusedVariables false
theorem flat_append (l m : List PO) : flat (l ++ m) = flat l ++ flat m := by simp [flat]
theorem flat_one (l : List PO) : ∀ u ∈ flat l, u.oneCell' = true := by
  intro u hu
  obtain ⟨x, _, hx⟩ := List.mem_flatMap.1 hu
  exact x.one_list u hx
theorem opsIn_flat {w : World} {A : Option Addr} {l : List PO} (h : OpsIn w A l) (hne : l ≠ []) : ∃ ad, A = some ad ∧ ∀ j u, (flat l)[j]? = some u → w.cell? (ad.add j) = some u := by
  obtain ⟨x0, hx0⟩ : ∃ x, l[0]? = some x := by
    cases l with
    | nil => exact absurd rfl hne
    | cons x l => exact ⟨x, rfl⟩
  obtain ⟨b, off, hA, _, _⟩ := h 0 x0 hx0
  refine ⟨_, hA, ?_⟩
  intro j u hu
  have hj := (List.getElem?_eq_some_iff.1 hu).1
  rw [flat_len] at hj
  obtain ⟨x, hx⟩ : ∃ x, l[j / 3]? = some x := ⟨_, List.getElem?_eq_getElem (by omega)⟩
  obtain ⟨b2, off2, hA2, _, hr⟩ := h (j / 3) x hx
  rw [hA] at hA2
  injection hA2 with hA2
  injection hA2 with e1 e2 e3
  subst e1
  subst e2
  obtain ⟨v, hv⟩ : ∃ v, x.arr.toList[j % 3]? = some v := ⟨_, List.getElem?_eq_getElem (by rw [PO.len]; omega)⟩
  have h1 := flat_at l (j / 3) (j % 3) x v hx hv
  rw [show j / 3 * 3 + j % 3 = j by omega] at h1
  rw [h1] at hu
  injection hu with hu
  subst hu
  have := hr (j % 3) v hv
  rw [Addr.add_mid]
  rw [show off + j / 3 * 3 + j % 3 = off + j by omega] at this
  exact this
theorem wpList_append_ops {ops : Array Oper} {rest : List Oper} {o : Oper} {a : Act} {w : World} {Q : Exit → Act → World → Prop} (hgd : o.guard = none) (s x : Operand)
    (ho : o.op = .call { callee := .builtin .append, args := #[s, x], argTypes := #[23, 23] })
    (base : Nat) (v : Value) (n : Nat) (xs : List Value) (hs : a.eval s = v) (hown : w.ownsRow base 33 3 v n xs) (hv : v ≠ .slice none 0 0) (A : Option Addr) (m c : Nat) (l : List PO) (hm : m = l.length) (hx : a.eval x = .slice A m c) (hl : OpsIn w A l)
    (hn : n + l.length ≤ 1000) (hbase : base ≤ w.heap.size)
    (h : ∀ v' w', w'.ownsRow base 33 3 v' (n + l.length) (xs ++ flat l) → v' ≠ .slice none 0 0 → w.grownBy w' v.ownBlock → wpList Tryd.prog ops Q rest (a.put o.dst v') w') :
    wpList Tryd.prog ops Q (o :: rest) a w := by
  subst hm
  obtain ⟨i0, hi0, hz0, hz1, hz2⟩ := info_parts Tryd.info33
  by_cases hne : l = []
  · subst hne
    rcases hown.2 with ⟨e, _⟩ | ⟨g, cap, cur, hvv, hbg, hg, hnc, hcm, hcs, htake⟩
    · exact absurd e hv
    have key : (Builtin.append_ #[23, 23] o.type #[v, .slice A 0 c]).run Tryd.prog w = .ok v w := by
      subst hvv
      cases A with
      | none =>
        have := run_append_room_src (P := Tryd.prog) w 23 23 o.type 33 i0 Tryd.underlying23 hi0 g 0 n cap _ 0 [] (Src.ofNil w Tryd.underlying23 c) (by omega) (by intro j hj; simp at hj) (by intro j hj; simp at hj)
        simpa [World.setCells] using this
      | some ad =>
        have := run_append_room_src (P := Tryd.prog) w 23 23 o.type 33 i0 Tryd.underlying23 hi0 g 0 n cap _ 0 [] (Src.ofSlice w Tryd.underlying23 ad 0 c [] (by simp) (by intro j u hu; simp at hu) (by simp)) (by omega) (by intro j hj; simp at hj) (by intro j hj; simp at hj)
        simpa [World.setCells] using this
    refine wpList_plain hgd fun K hK => ?_
    unfold Oper.wp execOp
    simp only [ho, resolve, invoke, builtin, Sem.run_bind, Sem.run_pure, Result.andThen_ok, List.map_toArray, List.map_cons, List.map_nil, hs, hx, List.length_nil, key]
    exact hK _ _ (h v w (by simpa [flat] using hown) hv ⟨rfl, rfl, rfl, Nat.le_refl _, fun _ _ _ => rfl⟩)
  · obtain ⟨ad, rfl, hc⟩ := opsIn_flat hl hne
    refine wpList_append_own_at w hgd s x 23 ho base 33 i0 (PO.val ⟨0, 0, 0⟩) 3 24 Tryd.underlying23 hi0 hz0 hz1 hz2 rfl (by decide) v n xs hs hown ad l.length c (flat l) hx (flat_len l) hc (flat_one l) (by simp only [maxLen]; omega) (by omega) hbase ?_
    intro v' w' h1 h2 h3 _
    exact h v' w' h1 (fun e => hv (h3.1 e).1) h2
end Go.Proofs.YtfjeheioglmalaaDoor
