/- The plain law of MshrOnce: what an operation does to the lines that owe. -/
import Derived.Test.YtfjeheioglmalaaInv
namespace Go.Proofs.Ytfjeheioglmalaa

theorem on_owed {t room : Int} {l : List Ms} {S : List Int} (_h : Ok t room l) (hs : Owed l S) (line : Int) (f : Ms → Int × Ms) (hf : ∀ m, MOk t m → (f m).1 = 0 → (f m).2.line = m.line ∧ (f m).2.owes = m.owes) : Owed (sOn l line f).2 S := by
  rcases sOn_cases l line f with ⟨_, e⟩ | ⟨i, m, _, hm, _, ⟨e0, e⟩ | ⟨_, e⟩⟩
  · rw [e]; exact hs
  · rw [e]
    obtain ⟨a, b⟩ := hf m (_h.each m (List.mem_of_getElem? hm)) e0
    exact hs.set hm a b
  · rw [e]; exact hs
/-- The lines that owe, behind an operation. -/
def sNext (room : Int) (l : List Ms) (o : Opr) (S : List Int) : List Int :=
  if (sDo room l o).1.2.1 = true then ins S o.line else if o.d < 0 ∨ 4 < o.d then S.erase o.line else S
theorem once_is {t room : Int} {l : List Ms} {S : List Int} (h : Ok t room l) (hs : Owed l S) {o : Opr} (hi : (sDo room l o).1.2.1 = true) :
    o.d = 4 ∧ S.contains o.line = false ∧ (sDo room l o).1.1.needs = (sDo room l o).1.1.got ∧ 0 ≤ (sDo room l o).1.1.needs ∧ (sDo room l o).1.1.owes = false ∧ sGet l o.line = ((sDo room l o).1.1, true) ∧ Owed (sDo room l o).2 (ins S o.line) := by
  by_cases h0 : o.d = 0
  · unfold sDo at hi; rw [if_pos h0] at hi; cases hi
  by_cases h1 : o.d = 1
  · unfold sDo at hi; rw [if_neg h0, if_pos h1] at hi; cases hi
  by_cases h2 : o.d = 2
  · unfold sDo at hi; rw [if_neg h0, if_neg h1, if_pos h2] at hi; cases hi
  by_cases h3 : o.d = 3
  · unfold sDo at hi; rw [if_neg h0, if_neg h1, if_neg h2, if_pos h3] at hi; cases hi
  by_cases h4 : o.d = 4
  · have e : sDo room l o = (((sOwe l o.line).1.1, (sOwe l o.line).1.2, 0), (sOwe l o.line).2) := by
      unfold sDo; rw [if_neg h0, if_neg h1, if_neg h2, if_neg h3, if_pos h4]
    rw [e] at hi ⊢
    cases hf : sFind l o.line with
    | none => unfold sOwe at hi; rw [hf] at hi; cases hi
    | some i =>
      obtain ⟨m, hm, hl, hd⟩ := find_some hf
      by_cases hc : m.owes = true ∨ m.needs ≠ m.got
      · unfold sOwe at hi; rw [hf] at hi; simp only [] at hi; rw [hd, if_pos hc] at hi; cases hi
      · have e2 : sOwe l o.line = ((m, true), l.set i { m with owes := true }) := by unfold sOwe; rw [hf]; simp only []; rw [hd, if_neg hc]
        rw [e2]
        have ho : m.owes = false := by simpa using fun h => hc (.inl h)
        have hn : m.needs = m.got := Classical.byContradiction fun h => hc (.inr h)
        have hmem := List.mem_of_getElem? hm
        have hk := h.each m hmem
        refine ⟨h4, ?_, hn, ?_, ho, ?_, nodup_ins hs.nodup, fun n => ?_⟩
        · rw [Bool.eq_false_iff]
          intro hcon
          have hin : o.line ∈ S := by simpa using hcon
          obtain ⟨m', hm', hl', ho'⟩ := (hs.mem _).1 hin
          have := h.one hm' hmem (by rw [hl', hl])
          subst this
          rw [ho] at ho'
          cases ho'
        · show 0 ≤ m.needs
          rw [hn]; exact hk.got0
        · unfold sGet; rw [hf]; simp only []; rw [hd]
        · rw [mem_ins, hs.mem]
          constructor
          · rintro (⟨m', hm', rfl, ho'⟩ | rfl)
            · rcases mem_set_other (b := ({ m with owes := true } : Ms)) hm hm' with rfl | hx
              · rw [ho] at ho'; cases ho'
              · exact ⟨m', hx, rfl, ho'⟩
            · exact ⟨{ m with owes := true }, mem_set_self hm, hl, rfl⟩
          · rintro ⟨m', hm', rfl, ho'⟩
            rcases mem_of_set hm' with rfl | hx
            · right; exact hl
            · exact .inl ⟨m', hx, rfl, ho'⟩
  · unfold sDo at hi; rw [if_neg h0, if_neg h1, if_neg h2, if_neg h3, if_neg h4] at hi; cases hi
theorem once_out {t room : Int} {l : List Ms} {S : List Int} (h : Ok t room l) (hs : Owed l S) {o : Opr} (ho : o.d < 0 ∨ 4 < o.d) :
    (sDo room l o).1.2.1 = false ∧ ((sDo room l o).1.2.2 == 0) = S.contains o.line ∧ Owed (sDo room l o).2 (S.erase o.line) := by
  have e : sDo room l o = ((Ms.zero, false, (sClose l o.line).1), (sClose l o.line).2) := by
    unfold sDo; rw [if_neg (by omega), if_neg (by omega), if_neg (by omega), if_neg (by omega), if_neg (by omega)]
  rw [e]
  refine ⟨rfl, ?_⟩
  cases hf : sFind l o.line with
  | none =>
    have e2 : sClose l o.line = (5, l) := by unfold sClose; rw [hf]
    rw [e2]
    have hn : o.line ∉ S := fun hin => by
      obtain ⟨m, hm, hl, _⟩ := (hs.mem _).1 hin
      exact find_none hf m hm hl
    refine ⟨?_, ?_⟩
    · have : S.contains o.line = false := by rw [Bool.eq_false_iff]; intro hc; exact hn (by simpa using hc)
      rw [this]; rfl
    · rw [List.erase_of_not_mem hn]; exact hs
  | some i =>
    obtain ⟨m, hm, hl, hd⟩ := find_some hf
    have hmem := List.mem_of_getElem? hm
    by_cases hc : m.owes = true
    · have e2 : sClose l o.line = (0, l.eraseIdx i) := by unfold sClose; rw [hf]; simp only []; rw [hd, if_pos hc]
      rw [e2]
      have hin : o.line ∈ S := (hs.mem _).2 ⟨m, hmem, hl, hc⟩
      refine ⟨by simp [hin], (List.erase_sublist).nodup hs.nodup, fun n => ?_⟩
      rw [List.Nodup.mem_erase_iff hs.nodup, hs.mem]
      constructor
      · rintro ⟨hne, m', hm', rfl, ho'⟩
        refine ⟨m', ?_, rfl, ho'⟩
        obtain ⟨j, hj⟩ := List.getElem?_of_mem hm'
        rw [List.mem_eraseIdx_iff_getElem?]
        refine ⟨j, fun e => ?_, hj⟩
        subst e
        rw [hm] at hj
        injection hj with hj
        subst hj
        exact hne hl
      · rintro ⟨m', hm', rfl, ho'⟩
        have hm2 := List.mem_of_mem_eraseIdx hm'
        refine ⟨fun e => ?_, m', hm2, rfl, ho'⟩
        have := h.one hm2 hmem (by rw [e, hl])
        subst this
        obtain ⟨j, hne, hj⟩ := List.mem_eraseIdx_iff_getElem?.1 hm'
        have hn := List.pairwise_iff_getElem.1 h.nodup
        have hi' := (List.getElem?_eq_some_iff.1 hm).1
        have hj' := (List.getElem?_eq_some_iff.1 hj).1
        have ea : l[i] = m' := (List.getElem?_eq_some_iff.1 hm).2
        have eb : l[j] = m' := (List.getElem?_eq_some_iff.1 hj).2
        rcases Nat.lt_or_ge i j with hlt | hge
        · exact hn i j (by simpa using hi') (by simpa using hj') hlt (by rw [List.getElem_map, List.getElem_map, ea, eb])
        · exact hn j i (by simpa using hj') (by simpa using hi') (by omega) (by rw [List.getElem_map, List.getElem_map, ea, eb])
    · have e2 : sClose l o.line = (7, l) := by unfold sClose; rw [hf]; simp only []; rw [hd, if_neg hc]
      rw [e2]
      have hn : o.line ∉ S := fun hin => by
        obtain ⟨m', hm', hl', ho'⟩ := (hs.mem _).1 hin
        have := h.one hm' hmem (by rw [hl', hl])
        subst this
        exact hc ho'
      refine ⟨?_, ?_⟩
      · have : S.contains o.line = false := by rw [Bool.eq_false_iff]; intro hc; exact hn (by simpa using hc)
        rw [this]; rfl
      · rw [List.erase_of_not_mem hn]; exact hs
theorem once_same {t room : Int} {l : List Ms} {S : List Int} (h : Ok t room l) (hs : Owed l S) {o : Opr} (hi : (sDo room l o).1.2.1 = false) (ho : ¬ (o.d < 0 ∨ 4 < o.d)) : Owed (sDo room l o).2 S := by
  by_cases h0 : o.d = 0
  · have e : sDo room l o = ((Ms.zero, false, (sOpen room l o.line o.n).1), (sOpen room l o.line o.n).2) := by unfold sDo; rw [if_pos h0]
    rw [e]
    show Owed (sOpen room l o.line o.n).2 S
    unfold sOpen
    split
    · exact hs
    split
    · exact hs
    split
    · exact hs
    · refine hs.same (fun m hm ho => ⟨m, List.mem_append_left _ hm, rfl, ho⟩) (fun m hm ho => ?_)
      rcases List.mem_append.1 hm with hm | hm
      · exact ⟨m, hm, rfl, ho⟩
      · simp at hm
        subst hm
        cases ho
  by_cases h1 : o.d = 1
  · have e : (sDo room l o).2 = (sData l o.line o.n o.st o.x).2 := by unfold sDo; rw [if_neg h0, if_pos h1]
    rw [e]
    refine on_owed h hs o.line _ fun m _ e => ?_
    unfold fData at e ⊢
    split at e
    · rename_i hf; rw [if_pos hf]; exact ⟨rfl, rfl⟩
    · cases e
  by_cases h2 : o.d = 2
  · have e : (sDo room l o).2 = (sGrant l o.line o.n).2 := by unfold sDo; rw [if_neg h0, if_neg h1, if_pos h2]
    rw [e]
    refine on_owed h hs o.line _ fun m _ e => ?_
    unfold fGrant at e ⊢
    split at e
    · rename_i hf; rw [if_pos hf]; exact ⟨rfl, rfl⟩
    · cases e
  by_cases h3 : o.d = 3
  · have e : (sDo room l o).2 = (sAck l o.line).2 := by unfold sDo; rw [if_neg h0, if_neg h1, if_neg h2, if_pos h3]
    rw [e]
    refine on_owed h hs o.line _ fun m _ e => ?_
    unfold fAck at e ⊢
    split at e
    · cases e
    · rename_i hf; rw [if_neg hf]; exact ⟨rfl, rfl⟩
  have h4 : o.d = 4 := by omega
  have e : sDo room l o = (((sOwe l o.line).1.1, (sOwe l o.line).1.2, 0), (sOwe l o.line).2) := by
    unfold sDo; rw [if_neg h0, if_neg h1, if_neg h2, if_neg h3, if_pos h4]
  rw [e] at hi ⊢
  show Owed (sOwe l o.line).2 S
  have hi2 : (sOwe l o.line).1.2 = false := hi
  unfold sOwe at hi2 ⊢
  cases hf : sFind l o.line with
  | none => exact hs
  | some i =>
    rw [hf] at hi2
    simp only [] at hi2 ⊢
    split
    · exact hs
    · rename_i hc; rw [if_neg hc] at hi2; cases hi2
theorem once_step {t room : Int} {l : List Ms} {S : List Int} (h : Ok t room l) (hs : Owed l S) (o : Opr) : Owed (sDo room l o).2 (sNext room l o S) := by
  unfold sNext
  cases hi : (sDo room l o).1.2.1
  · simp only [Bool.false_eq_true, if_false]
    by_cases ho : o.d < 0 ∨ 4 < o.d
    · rw [if_pos ho]; exact (once_out h hs ho).2.2
    · rw [if_neg ho]; exact once_same h hs hi ho
  · exact (once_is h hs hi).2.2.2.2.2.2
theorem owed_contains {l : List Ms} {S : List Int} {t room : Int} (h : Ok t room l) (hs : Owed l S) {m : Ms} (hm : m ∈ l) : m.owes = S.contains m.line := by
  cases ho : m.owes
  · symm
    rw [Bool.eq_false_iff]
    intro hc
    obtain ⟨m', hm', hl', ho'⟩ := (hs.mem _).1 (show m.line ∈ S by simpa using hc)
    have := h.one hm' hm hl'
    subst this
    rw [ho] at ho'
    cases ho'
  · symm
    have : m.line ∈ S := (hs.mem _).2 ⟨m, hm, rfl, ho⟩
    simpa using this
end Go.Proofs.Ytfjeheioglmalaa
