/- Programs and texts tell one another: plain lists. -/
import Derived.Test.YtfjeheioglmalaaDoorGuess
namespace Go.Proofs.YtfjeheioglmalaaDoor
open Go.Lib

/-- A program's text, of however many operations. -/
def allP (l : List PO) : List UInt8 := join (l.map PO.txt) [32]
def printP (l : List PO) : List UInt8 × Int := if 64 < l.length then ([], 4) else if l.all PO.may then (allP l, 0) else ([], 1)
theorem itoa_no32 (n : Int) : ∀ c ∈ itoa n, c ≠ 32 := by
  intro c hc e
  subst e
  unfold itoa at hc
  split at hc
  · rcases List.mem_cons.1 hc with h | h
    · cases h
    · have := dec_digit _ _ h; simp at this
  · have := dec_digit _ _ hc; simp at this
theorem txt_no32 (x : PO) : ∀ c ∈ x.txt, c ≠ 32 := by
  intro c hc
  unfold PO.txt at hc
  rcases List.mem_cons.1 hc with rfl | hc
  · unfold letter
    split
    · decide
    · split
      · decide
      · split <;> decide
  · split at hc
    · cases hc
    · rcases List.mem_append.1 hc with hc | hc
      · exact itoa_no32 _ c hc
      · split at hc
        · cases hc
        · rcases List.mem_cons.1 hc with rfl | hc
          · decide
          · exact itoa_no32 _ c hc
theorem txt_ne (x : PO) : x.txt ≠ [] := by unfold PO.txt; simp
theorem rword_txt {x : PO} (h : x.may = true) : rword x.txt = some x := by rw [← accept_rword]; exact txt_accept h
theorem rword_some {w : List UInt8} {x : PO} (h : rword w = some x) : x.may = true ∧ x.txt = w := accept_txt (by rw [accept_rword]; exact h)
theorem rgo_word (u r w : List UInt8) (acc : List PO) (h : ∀ c ∈ u, c ≠ 32) : rgo (u ++ r) w acc = rgo r (w ++ u) acc := by
  induction u generalizing w with
  | nil => simp
  | cons c u ih =>
    simp only [List.cons_append, rgo]
    rw [if_neg (h c List.mem_cons_self), ih _ (fun x hx => h x (List.mem_cons_of_mem _ hx))]
    simp
theorem allP_cons2 (x y : PO) (l : List PO) : allP (x :: y :: l) = x.txt ++ 32 :: allP (y :: l) := by
  unfold allP join
  simp [List.intercalate]
theorem allP_one (x : PO) : allP [x] = x.txt := by simp [allP, join_one]
/-- What follows a text. -/
theorem rgo_all (l : List PO) (acc : List PO) (h : ∀ x ∈ l, x.may = true) (hl : l ≠ []) : rgo (allP l) [] acc = some (acc ++ l) := by
  induction l generalizing acc with
  | nil => exact absurd rfl hl
  | cons x l ih =>
    cases l with
    | nil =>
      rw [allP_one]
      have := rgo_word x.txt [] [] acc (txt_no32 x)
      rw [List.append_nil] at this
      rw [this]
      simp only [rgo, List.nil_append, rword_txt (h x List.mem_cons_self), Option.map_some]
    | cons y l =>
      rw [allP_cons2, rgo_word x.txt _ [] acc (txt_no32 x)]
      simp only [rgo, List.nil_append, if_true, rword_txt (h x List.mem_cons_self), Option.bind_some]
      rw [ih (acc ++ [x]) (fun z hz => h z (List.mem_cons_of_mem _ hz)) (by simp)]
      simp
theorem rgo_back (r w : List UInt8) (acc l : List PO) (hw : ∀ c ∈ w, c ≠ 32) (h : rgo r w acc = some l) : ∃ m, m ≠ [] ∧ l = acc ++ m ∧ (∀ x ∈ m, x.may = true) ∧ w ++ r = allP m := by
  induction r generalizing w acc with
  | nil =>
    simp only [rgo] at h
    cases hx : rword w with
    | none => rw [hx] at h; cases h
    | some x =>
      rw [hx] at h
      simp only [Option.map_some, Option.some.injEq] at h
      obtain ⟨h1, h2⟩ := rword_some hx
      exact ⟨[x], by simp, h.symm, by intro y hy; rw [List.mem_singleton] at hy; rw [hy]; exact h1, by rw [allP_one, h2]; simp⟩
  | cons c r ih =>
    simp only [rgo] at h
    by_cases hc : c = 32
    · rw [if_pos hc] at h
      cases hx : rword w with
      | none => rw [hx] at h; cases h
      | some x =>
        rw [hx] at h
        simp only [Option.bind_some] at h
        obtain ⟨m, hm, e1, e2, e3⟩ := ih [] (acc ++ [x]) (by intro c hc; cases hc) h
        obtain ⟨h1, h2⟩ := rword_some hx
        refine ⟨x :: m, by simp, by rw [e1]; simp, ?_, ?_⟩
        · intro y hy
          rcases List.mem_cons.1 hy with rfl | hy
          · exact h1
          · exact e2 y hy
        · cases m with
          | nil => exact absurd rfl hm
          | cons y m =>
            rw [allP_cons2, ← e3, h2, hc]
            rfl
    · rw [if_neg hc] at h
      obtain ⟨m, hm, e1, e2, e3⟩ := ih (w ++ [c]) acc (by
        intro z hz
        rcases List.mem_append.1 hz with hz | hz
        · exact hw z hz
        · rw [List.mem_singleton] at hz; rw [hz]; exact hc) h
      exact ⟨m, hm, e1, e2, by rw [← e3]; simp⟩
theorem allP_ne {l : List PO} (h : l ≠ []) : allP l ≠ [] := by
  cases l with
  | nil => exact absurd rfl h
  | cons x l =>
    cases l with
    | nil => rw [allP_one]; exact txt_ne x
    | cons y l => rw [allP_cons2]; intro e; exact txt_ne x (List.append_eq_nil_iff.1 e).1
theorem itoa_short {n : Int} (h0 : -2147483648 ≤ n) (h1 : n ≤ 2147483647) : (itoa n).length ≤ 13 := by
  unfold itoa
  split
  · have := nDigits_le (n := n.natAbs) (by omega)
    simp only [List.length_cons]; omega
  · have := nDigits_le (n := n.toNat) (by omega)
    omega
theorem txt_short {x : PO} (h : x.may = true) : x.txt.length ≤ 28 := by
  have hb : -2147483648 ≤ x.a ∧ x.a ≤ 2147483647 ∧ -2147483648 ≤ x.v ∧ x.v ≤ 2147483647 := by
    unfold PO.may at h
    split at h
    · have := of_decide_eq_true h; omega
    · split at h
      · have := of_decide_eq_true h; omega
      · have := of_decide_eq_true h; omega
  have h1 := itoa_short hb.1 hb.2.1
  have h2 := itoa_short hb.2.2.1 hb.2.2.2
  unfold PO.txt
  simp only [List.length_cons]
  split
  · simp
  · rw [List.length_append]
    split
    · simp; omega
    · simp only [List.length_cons]; omega
theorem allP_short (l : List PO) (h : ∀ x ∈ l, x.may = true) : (allP l).length ≤ l.length * 29 := by
  induction l with
  | nil => simp [allP, join_nil]
  | cons x l ih =>
    have hx := txt_short (h x List.mem_cons_self)
    cases l with
    | nil => rw [allP_one]; simp; omega
    | cons y l =>
      have := ih (fun z hz => h z (List.mem_cons_of_mem _ hz))
      rw [allP_cons2, List.length_append]
      simp only [List.length_cons] at this ⊢
      omega
theorem may_all {l : List PO} (h : l.all PO.may = true) : ∀ x ∈ l, x.may = true := by simpa using h
/-- The program of a program's text. -/
theorem back_print {l : List PO} (h : (printP l).2 = 0) : parseP (printP l).1 = (l, 0) := by
  unfold printP at h ⊢
  by_cases h1 : 64 < l.length
  · rw [if_pos h1] at h; cases h
  rw [if_neg h1] at h ⊢
  by_cases h2 : l.all PO.may = true
  · rw [if_pos h2]
    have hm := may_all h2
    have hs := allP_short l hm
    unfold parseP
    simp only
    rw [if_neg (by omega)]
    by_cases h3 : l = []
    · subst h3; rfl
    · rw [if_neg (allP_ne h3), rgo_all l [] hm h3]
      simp only [List.nil_append]
      rw [if_neg h1]
  · rw [if_neg h2] at h; cases h
/-- The text of a text's program. -/
theorem back_parse {s : List UInt8} (h : (parseP s).2 = 0) : (∀ x ∈ (parseP s).1, x.may = true) ∧ printP (parseP s).1 = (s, 0) := by
  unfold parseP at h ⊢
  by_cases h1 : 4000 < s.length
  · rw [if_pos h1] at h; cases h
  rw [if_neg h1] at h ⊢
  by_cases h2 : s = []
  · rw [if_pos h2]
    subst h2
    exact ⟨(fun x hx => by cases hx), rfl⟩
  rw [if_neg h2] at h ⊢
  cases hr : rgo s [] [] with
  | none => rw [hr] at h; cases h
  | some l =>
    rw [hr] at h
    simp only at h ⊢
    by_cases h3 : 64 < l.length
    · rw [if_pos h3] at h; cases h
    rw [if_neg h3]
    obtain ⟨m, hm, e1, e2, e3⟩ := rgo_back s [] [] l (by intro c hc; cases hc) hr
    rw [List.nil_append] at e1 e3
    subst e1
    refine ⟨e2, ?_⟩
    unfold printP
    simp only
    rw [if_neg h3, if_pos (by simpa using e2), e3]
theorem parse_err {s : List UInt8} (h : (parseP s).2 ≠ 0) : (parseP s).1 = [] := by
  unfold parseP at h ⊢
  by_cases h1 : 4000 < s.length
  · rw [if_pos h1]
  rw [if_neg h1] at h ⊢
  by_cases h2 : s = []
  · rw [if_pos h2]
  rw [if_neg h2] at h ⊢
  cases hr : rgo s [] [] with
  | none => rfl
  | some l =>
    rw [hr] at h
    simp only at h ⊢
    by_cases h3 : 64 < l.length
    · rw [if_pos h3]
    · rw [if_neg h3] at h; exact absurd rfl h
/-! ### One program behind another -/
theorem allP_append {a b : List PO} (ha : a ≠ []) (hb : b ≠ []) : allP (a ++ b) = allP a ++ 32 :: allP b := by
  induction a with
  | nil => exact absurd rfl ha
  | cons x a ih =>
    cases a with
    | nil =>
      cases b with
      | nil => exact absurd rfl hb
      | cons y b => rw [allP_one]; exact allP_cons2 x y b
    | cons z a =>
      have := ih (by simp)
      rw [List.cons_append, List.cons_append, allP_cons2, ← List.cons_append, this, allP_cons2]
      simp
/-- The text of both: with a blank between, if neither is empty. -/
def joinP (a b : List PO) : List UInt8 := (if a ≠ [] ∧ b ≠ [] then allP a ++ [32] else allP a) ++ allP b
theorem joinP_all (a b : List PO) : joinP a b = allP (a ++ b) := by
  unfold joinP
  by_cases ha : a = []
  · subst ha
    rw [if_neg (by simp)]
    rfl
  · by_cases hb : b = []
    · subst hb
      rw [if_neg (by simp)]
      have : allP [] = [] := rfl
      rw [this, List.append_nil, List.append_nil]
    · rw [if_pos ⟨ha, hb⟩, allP_append ha hb]
      simp
/-- A text that ends behind a blank is none. -/
theorem rgo_blank (l : List PO) (acc : List PO) (h : ∀ x ∈ l, x.may = true) : rgo (allP l ++ [32]) [] acc = none := by
  have hn : rword [] = none := by decide
  induction l generalizing acc with
  | nil =>
    have : allP [] = [] := rfl
    rw [this]
    simp only [List.nil_append, rgo, if_true, hn]
    rfl
  | cons x l ih =>
    cases l with
    | nil =>
      rw [allP_one, rgo_word x.txt [32] [] acc (txt_no32 x)]
      simp only [rgo, List.nil_append, if_true, rword_txt (h x List.mem_cons_self), Option.bind_some, hn]
      rfl
    | cons y l =>
      rw [allP_cons2, List.append_assoc, rgo_word x.txt _ [] acc (txt_no32 x)]
      simp only [List.cons_append, rgo, List.nil_append, if_true, rword_txt (h x List.mem_cons_self), Option.bind_some]
      exact ih (acc ++ [x]) (fun z hz => h z (List.mem_cons_of_mem _ hz))
theorem print_ok {l : List PO} (h : (printP l).2 = 0) : l.length ≤ 64 ∧ (∀ x ∈ l, x.may = true) ∧ (printP l).1 = allP l := by
  unfold printP at h ⊢
  by_cases h1 : 64 < l.length
  · rw [if_pos h1] at h; cases h
  rw [if_neg h1] at h ⊢
  by_cases h2 : l.all PO.may = true
  · rw [if_pos h2]
    exact ⟨by omega, may_all h2, rfl⟩
  · rw [if_neg h2] at h; cases h
theorem print_err {l : List PO} (h : (printP l).2 ≠ 0) : (printP l).1 = [] := by
  unfold printP at h ⊢
  by_cases h1 : 64 < l.length
  · rw [if_pos h1]
  rw [if_neg h1] at h ⊢
  by_cases h2 : l.all PO.may = true
  · rw [if_pos h2] at h; exact absurd rfl h
  · rw [if_neg h2]
/-- Two programs with texts. -/
theorem join_law {a b : List PO} (ha : (printP a).2 = 0) (hb : (printP b).2 = 0) :
    (64 < (a ++ b).length → printP (a ++ b) = ([], 4) ∧ (parseP (joinP a b)).2 = 4) ∧
    (¬ 64 < (a ++ b).length → printP (a ++ b) = (joinP a b, 0) ∧ (parseP (joinP a b ++ [32])).2 = 2) := by
  obtain ⟨la, ma, _⟩ := print_ok ha
  obtain ⟨lb, mb, _⟩ := print_ok hb
  have hm : ∀ x ∈ a ++ b, x.may = true := by
    intro x hx
    rcases List.mem_append.1 hx with h | h
    · exact ma x h
    · exact mb x h
  have hs := allP_short (a ++ b) hm
  have hle : (a ++ b).length ≤ 128 := by rw [List.length_append]; omega
  rw [joinP_all]
  constructor
  · intro h
    refine ⟨by unfold printP; rw [if_pos h], ?_⟩
    have hne : a ++ b ≠ [] := by intro e; rw [e] at h; simp at h
    unfold parseP
    rw [if_neg (by omega), if_neg (allP_ne hne), rgo_all _ [] hm hne]
    simp only [List.nil_append]
    rw [if_pos h]
  · intro h
    refine ⟨by unfold printP; rw [if_neg h, if_pos (List.all_eq_true.2 hm)], ?_⟩
    unfold parseP
    rw [if_neg (by rw [List.length_append]; simp; omega), if_neg (by simp), rgo_blank _ [] hm]
end Go.Proofs.YtfjeheioglmalaaDoor
