/- What holds of the misses of a file behind any operations: plain lists, no Go. -/
import Derived.Test.YtfjeheioglmalaaDoAny
namespace Go.Proofs.Ytfjeheioglmalaa

structure MOk (t : Int) (m : Ms) : Prop where
  kind : m.kind = 1 ∨ m.kind = 2
  got0 : 0 ≤ m.got
  gott : m.got ≤ t
  needs : m.needs = -1 ∨ (0 ≤ m.needs ∧ m.got ≤ m.needs)
  owes : m.owes = true → m.needs = m.got
structure Ok (t room : Int) (l : List Ms) : Prop where
  len : (l.length : Int) ≤ room
  nodup : (l.map (·.line)).Nodup
  each : ∀ m ∈ l, MOk t m
theorem MOk.more {t : Int} {m : Ms} (h : MOk t m) : MOk (t + 1) m := ⟨h.kind, h.got0, by have := h.gott; omega, h.needs, h.owes⟩
theorem Ok.more {t room : Int} {l : List Ms} (h : Ok t room l) : Ok (t + 1) room l := ⟨h.len, h.nodup, fun m hm => (h.each m hm).more⟩
theorem map_set {α β : Type} (l : List α) (f : α → β) (i : Nat) (a b : α) (ha : l[i]? = some a) (hf : f b = f a) : (l.set i b).map f = l.map f := by
  apply List.ext_getElem?
  intro j
  rw [List.map_set, List.getElem?_set]
  by_cases h : i = j
  · subst h
    obtain ⟨hi, rfl⟩ := List.getElem?_eq_some_iff.1 ha
    simp [hi, hf]
  · rw [if_neg h]
theorem mem_of_set {α : Type} {l : List α} {i : Nat} {a x : α} (h : x ∈ l.set i a) : x = a ∨ x ∈ l := (List.mem_or_eq_of_mem_set h).symm
theorem Ok.set {t room : Int} {l : List Ms} (h : Ok t room l) {i : Nat} {m m' : Ms} (hm : l[i]? = some m) (hl : m'.line = m.line) (ho : MOk (t + 1) m') : Ok (t + 1) room (l.set i m') := by
  refine ⟨by rw [List.length_set]; exact h.len, by rw [map_set l _ i m m' hm hl]; exact h.nodup, fun x hx => ?_⟩
  rcases mem_of_set hx with rfl | hx
  · exact ho
  · exact (h.each x hx).more
theorem find_some {l : List Ms} {line : Int} {i : Nat} (h : sFind l line = some i) : ∃ m, l[i]? = some m ∧ m.line = line ∧ l.getD i Ms.zero = m := by
  obtain ⟨m, h1, h2⟩ := findIdx_get h
  exact ⟨m, h1, by simpa using h2, getD_of h1⟩
theorem find_none {l : List Ms} {line : Int} (h : sFind l line = none) : ∀ m ∈ l, m.line ≠ line := by
  intro m hm e
  have := (List.findIdx?_eq_none_iff.1 h) m hm
  simp [e] at this
/-- In a list without two of one line a line has one miss. -/
theorem Ok.one {t room : Int} {l : List Ms} (h : Ok t room l) {a b : Ms} (ha : a ∈ l) (hb : b ∈ l) (e : a.line = b.line) : a = b := by
  obtain ⟨i, hi⟩ := List.getElem?_of_mem ha
  obtain ⟨j, hj⟩ := List.getElem?_of_mem hb
  have hi' := (List.getElem?_eq_some_iff.1 hi).1
  have hj' := (List.getElem?_eq_some_iff.1 hj).1
  have hn := List.pairwise_iff_getElem.1 h.nodup
  have ea : l[i] = a := (List.getElem?_eq_some_iff.1 hi).2
  have eb : l[j] = b := (List.getElem?_eq_some_iff.1 hj).2
  have : i = j := by
    rcases Nat.lt_trichotomy i j with hlt | heq | hgt
    · exact absurd (by rw [List.getElem_map, List.getElem_map, ea, eb]; exact e) (hn i j (by simpa using hi') (by simpa using hj') hlt)
    · exact heq
    · exact absurd (by rw [List.getElem_map, List.getElem_map, ea, eb]; exact e.symm) (hn j i (by simpa using hj') (by simpa using hi') hgt)
  subst this
  rw [hi] at hj
  injection hj
theorem Ok.erase {t room : Int} {l : List Ms} (h : Ok t room l) (i : Nat) : Ok (t + 1) room (l.eraseIdx i) := by
  refine ⟨?_, (List.Sublist.map _ (List.eraseIdx_sublist l i)).nodup h.nodup, fun m hm => (h.each m (List.mem_of_mem_eraseIdx hm)).more⟩
  have := h.len
  have := List.length_eraseIdx_le l i
  omega
theorem sOn_cases (l : List Ms) (line : Int) (f : Ms → Int × Ms) :
    (sFind l line = none ∧ sOn l line f = (5, l)) ∨ ∃ i m, sFind l line = some i ∧ l[i]? = some m ∧ m.line = line ∧ ((f m).1 = 0 ∧ sOn l line f = (0, l.set i (f m).2) ∨ (f m).1 ≠ 0 ∧ sOn l line f = ((f m).1, l)) := by
  cases h : sFind l line with
  | none => exact .inl ⟨rfl, by unfold sOn; rw [h]⟩
  | some i =>
    obtain ⟨m, h1, h2, h3⟩ := find_some h
    refine .inr ⟨i, m, rfl, h1, h2, ?_⟩
    by_cases e : (f m).1 = 0
    · exact .inl ⟨e, sOn_ok h h1 e⟩
    · exact .inr ⟨e, sOn_err h h1 e⟩
theorem fits_spec {m : Ms} {acks own : Int} (h : fitsB m acks own = true) : m.needs = -1 ∧ m.got ≤ acks := by
  unfold fitsB at h
  by_cases h1 : m.needs = -1
  · by_cases h2 : acks < m.got
    · simp [h2] at h
    · exact ⟨h1, by omega⟩
  · simp [h1] at h
theorem MOk.data {t : Int} {m : Ms} (h : MOk t m) {acks own : Int} {x : W8} (hf : fitsB m acks own = true) : MOk (t + 1) (m.filled acks own x) := by
  obtain ⟨h1, h2⟩ := fits_spec hf
  have h3 := h.got0
  refine ⟨h.kind, h.got0, by show m.got ≤ t + 1; have := h.gott; omega, .inr ⟨by show 0 ≤ acks; omega, h2⟩, fun e => ?_⟩
  have := h.owes e
  omega
theorem MOk.grant {t : Int} {m : Ms} (h : MOk t m) {acks : Int} (hf : fitsB m acks 4 = true) : MOk (t + 1) { m.filled acks 4 W8.zero with granted := true } := by
  have := h.data (x := W8.zero) hf
  exact ⟨this.kind, this.got0, this.gott, this.needs, this.owes⟩
theorem MOk.ack {t : Int} {m : Ms} (h : MOk t m) (h2 : ¬ (m.kind = 1 ∨ m.needs = m.got)) : MOk (t + 1) { m with got := m.got + 1 } := by
  have h3 := h.got0
  have h4 := h.gott
  refine ⟨h.kind, by show 0 ≤ m.got + 1; omega, by show m.got + 1 ≤ t + 1; omega, ?_, fun e => absurd (.inr (h.owes e)) h2⟩
  rcases h.needs with h5 | ⟨h5, h6⟩
  · exact .inl h5
  · refine .inr ⟨h5, ?_⟩
    show m.got + 1 ≤ m.needs
    omega
/-- The list behind an operation. -/
theorem Ok.step {t room : Int} {l : List Ms} (h : Ok t room l) (h0 : 0 ≤ t) (o : Opr) : Ok (t + 1) room (sDo room l o).2 := by
  unfold sDo
  by_cases h1 : o.d = 0
  · rw [if_pos h1]
    show Ok (t + 1) room (sOpen room l o.line o.n).2
    unfold sOpen
    by_cases hk : o.n ≠ 1 ∧ o.n ≠ 2
    · rw [if_pos hk]; exact h.more
    rw [if_neg hk]
    cases hf : sFind l o.line with
    | some i => exact h.more
    | none =>
      simp only [Option.isSome_none, Bool.false_eq_true, if_false]
      by_cases hr : (l.length : Int) = room
      · rw [if_pos hr]; exact h.more
      rw [if_neg hr]
      refine ⟨by have := h.len; simp; omega, ?_, fun m hm => ?_⟩
      · rw [List.map_append, List.nodup_append]
        refine ⟨h.nodup, by simp, ?_⟩
        intro a ha b hb e
        obtain ⟨m, hm, rfl⟩ := List.mem_map.1 ha
        simp [Ms.new] at hb
        exact find_none hf m hm (e.trans hb)
      · rcases List.mem_append.1 hm with hm | hm
        · exact (h.each m hm).more
        · simp at hm
          subst hm
          exact ⟨by show o.n = 1 ∨ o.n = 2; omega, Int.le_refl _, by show (0 : Int) ≤ t + 1; omega, .inl rfl, fun e => by cases e⟩
  rw [if_neg h1]
  have on : ∀ (f : Ms → Int × Ms), (∀ m, MOk t m → (f m).1 = 0 → (f m).2.line = m.line ∧ MOk (t + 1) (f m).2) → Ok (t + 1) room (sOn l o.line f).2 := by
    intro f hf
    rcases sOn_cases l o.line f with ⟨_, e⟩ | ⟨i, m, _, hm, _, ⟨e0, e⟩ | ⟨_, e⟩⟩
    · rw [e]; exact h.more
    · rw [e]
      obtain ⟨a, b⟩ := hf m (h.each m (List.mem_of_getElem? hm)) e0
      exact h.set hm a b
    · rw [e]; exact h.more
  by_cases h2 : o.d = 1
  · rw [if_pos h2]
    refine on _ fun m hm e => ?_
    unfold fData at e ⊢
    by_cases hf : fitsB m o.n o.st = true
    · rw [if_pos hf]; exact ⟨rfl, hm.data hf⟩
    · rw [if_neg hf] at e; cases e
  rw [if_neg h2]
  by_cases h3 : o.d = 2
  · rw [if_pos h3]
    refine on _ fun m hm e => ?_
    unfold fGrant at e ⊢
    by_cases hf : fitsB m o.n 4 = true
    · rw [if_pos hf]; exact ⟨rfl, hm.grant hf⟩
    · rw [if_neg hf] at e; cases e
  rw [if_neg h3]
  by_cases h4 : o.d = 3
  · rw [if_pos h4]
    refine on _ fun m hm e => ?_
    unfold fAck at e ⊢
    by_cases hf : m.kind = 1 ∨ m.needs = m.got
    · rw [if_pos hf] at e; cases e
    · rw [if_neg hf]; exact ⟨rfl, hm.ack hf⟩
  rw [if_neg h4]
  by_cases h5 : o.d = 4
  · rw [if_pos h5]
    show Ok (t + 1) room (sOwe l o.line).2
    unfold sOwe
    cases hf : sFind l o.line with
    | none => exact h.more
    | some i =>
      obtain ⟨m, hm, _, e⟩ := find_some hf
      simp only []
      rw [e]
      by_cases hc : m.owes = true ∨ m.needs ≠ m.got
      · rw [if_pos hc]; exact h.more
      · rw [if_neg hc]
        have hk := h.each m (List.mem_of_getElem? hm)
        refine h.set hm rfl ⟨hk.kind, hk.got0, by show m.got ≤ t + 1; have := hk.gott; omega, hk.needs, fun _ => ?_⟩
        exact Classical.byContradiction fun hn => hc (.inr hn)
  rw [if_neg h5]
  show Ok (t + 1) room (sClose l o.line).2
  unfold sClose
  cases hf : sFind l o.line with
  | none => exact h.more
  | some i =>
    simp only []
    split
    · exact h.erase i
    · exact h.more

/-! ### The lines that owe -/
/-- S: the lines of the misses that owe. -/
structure Owed (l : List Ms) (S : List Int) : Prop where
  nodup : S.Nodup
  mem : ∀ n, n ∈ S ↔ ∃ m ∈ l, m.line = n ∧ m.owes = true
def ins (S : List Int) (n : Int) : List Int := if S.contains n then S else S ++ [n]
theorem mem_ins {S : List Int} {n k : Int} : k ∈ ins S n ↔ k ∈ S ∨ k = n := by
  unfold ins
  by_cases h : S.contains n = true
  · rw [if_pos h]
    have : n ∈ S := by simpa using h
    constructor
    · exact .inl
    · rintro (h | rfl)
      · exact h
      · exact this
  · rw [if_neg h]; simp
theorem nodup_ins {S : List Int} {n : Int} (h : S.Nodup) : (ins S n).Nodup := by
  unfold ins
  by_cases hc : S.contains n = true
  · rw [if_pos hc]; exact h
  · rw [if_neg hc, List.nodup_append]
    refine ⟨h, by simp, ?_⟩
    intro a ha b hb e
    simp at hb
    subst hb
    subst e
    exact hc (by simpa using ha)
/-- The lines that owe, behind an operation that is no Owe and no Close. -/
theorem Owed.same {l l' : List Ms} {S : List Int} (h : Owed l S) (h1 : ∀ m ∈ l, m.owes = true → ∃ m' ∈ l', m'.line = m.line ∧ m'.owes = true) (h2 : ∀ m ∈ l', m.owes = true → ∃ m' ∈ l, m'.line = m.line ∧ m'.owes = true) : Owed l' S := by
  refine ⟨h.nodup, fun n => ?_⟩
  rw [h.mem n]
  constructor
  · rintro ⟨m, hm, rfl, ho⟩
    obtain ⟨m', a, b, c⟩ := h1 m hm ho
    exact ⟨m', a, b, c⟩
  · rintro ⟨m, hm, rfl, ho⟩
    obtain ⟨m', a, b, c⟩ := h2 m hm ho
    exact ⟨m', a, b, c⟩
theorem mem_set_self {α : Type} {l : List α} {i : Nat} {a b : α} (h : l[i]? = some a) : b ∈ l.set i b := List.mem_set (List.getElem?_eq_some_iff.1 h).1 b
theorem mem_set_other {α : Type} {l : List α} {i : Nat} {a b x : α} (h : l[i]? = some a) (hx : x ∈ l) : x = a ∨ x ∈ l.set i b := by
  obtain ⟨j, hj⟩ := List.getElem?_of_mem hx
  by_cases e : i = j
  · subst e
    rw [h] at hj
    injection hj with hj
    exact .inl hj.symm
  · right
    exact List.mem_of_getElem? (i := j) (by rw [List.getElem?_set, if_neg e]; exact hj)
theorem Owed.set {l : List Ms} {S : List Int} (h : Owed l S) {i : Nat} {m m' : Ms} (hm : l[i]? = some m) (hl : m'.line = m.line) (ho : m'.owes = m.owes) : Owed (l.set i m') S := by
  refine h.same (fun x hx hxo => ?_) (fun x hx hxo => ?_)
  · rcases mem_set_other (b := m') hm hx with rfl | hx
    · exact ⟨m', mem_set_self hm, hl, ho.trans hxo⟩
    · exact ⟨x, hx, rfl, hxo⟩
  · rcases mem_of_set hx with rfl | hx
    · exact ⟨m, List.mem_of_getElem? hm, hl.symm, ho.symm.trans hxo⟩
    · exact ⟨x, hx, rfl, hxo⟩
end Go.Proofs.Ytfjeheioglmalaa
