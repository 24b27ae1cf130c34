/- Programs and their texts: plain lists, no Go. -/
import Derived.Lib.ItoaMem
import Derived.Lib.Join
namespace Go.Proofs.YtfjeheioglmalaaDoor
open Go.Lib

structure PO where
  k : Int
  a : Int
  v : Int
  deriving DecidableEq, Inhabited
def PO.may (x : PO) : Bool :=
  if x.k = 1 then decide (0 ≤ x.a ∧ x.a ≤ 8191 ∧ x.v = 0)
  else if x.k = 2 ∨ x.k = 3 then decide (0 ≤ x.a ∧ x.a ≤ 8191 ∧ -2147483648 ≤ x.v ∧ x.v ≤ 2147483647)
  else decide (x.k = 4 ∧ x.a = 0 ∧ x.v = 0)
def letter (k : Int) : UInt8 := if k = 1 then 76 else if k = 2 then 83 else if k = 3 then 88 else 70
def PO.txt (x : PO) : List UInt8 := letter x.k :: (if x.k = 4 then [] else itoa x.a ++ if x.k = 1 then [] else 61 :: itoa x.v)

/-! ### The scanner -/
structure Sc where
  k : Int
  a : Int
  num : Int
  dig : Int
  minus : Bool
  value : Bool
  deriving DecidableEq, Inhabited
def Sc.zero : Sc := ⟨0, 0, 0, 0, false, false⟩
def Sc.digit (s : Sc) (n : Int) : Sc × Bool :=
  if s.k = 0 ∨ s.k = 4 ∨ (0 < s.dig ∧ s.num = 0) ∨ (s.minus = true ∧ s.dig = 0 ∧ n = 0) then (s, false)
  else ({ s with num := 10 * s.num + n, dig := s.dig + 1 }, decide (10 * s.num + n ≤ 2147483648))
/-- The kind of a letter (what IndexRune tells of " LSXF"). -/
def kindOf (c : Int) : Int := if c = 32 then 0 else if c = 76 then 1 else if c = 83 then 2 else if c = 88 then 3 else if c = 70 then 4 else -1
def Sc.rune (s : Sc) (c : Int) : Sc × Bool :=
  if 48 ≤ c ∧ c ≤ 57 then s.digit (c - 48)
  else if c = 45 then ({ s with minus := true }, s.value && decide (s.dig = 0) && !s.minus)
  else if c = 61 then ({ s with a := s.num, num := 0, dig := 0, value := true }, decide (0 < s.dig) && !s.value && decide (s.k = 2 ∨ s.k = 3))
  else ({ s with k := kindOf c }, decide (s.k = 0) && decide (0 < kindOf c))
/-- What is read: nothing if there is none. -/
def Sc.op (s : Sc) : Option PO :=
  let x : Option PO := if s.k = 1 ∧ 0 < s.dig then some ⟨1, s.num, 0⟩ else if s.value = true ∧ 0 < s.dig ∧ s.minus = true then some ⟨s.k, s.a, -s.num⟩ else if s.value = true ∧ 0 < s.dig then some ⟨s.k, s.a, s.num⟩ else if s.k ≠ 4 then none else some ⟨s.k, s.a, 0⟩
  x.bind fun x => if x.may then some x else none
def run1 (c : UInt8) (s : Sc) : Option Sc := if (s.rune c.toNat).2 then some (s.rune c.toNat).1 else none
def runW : List UInt8 → Sc → Option Sc
  | [], s => some s
  | c :: r, s => (run1 c s).bind (runW r)
def accept (w : List UInt8) : Option PO := (runW w Sc.zero).bind Sc.op
theorem runW_append (l r : List UInt8) (s : Sc) : runW (l ++ r) s = (runW l s).bind (runW r) := by
  induction l generalizing s with
  | nil => rfl
  | cons c l ih =>
    simp only [List.cons_append, runW]
    cases run1 c s with
    | none => rfl
    | some s' => exact ih s'

/-! ### What has been read: the prefix of a text -/
def digs (num dig : Int) : List UInt8 := if dig = 0 then [] else decDigits num.toNat
structure Rd (w : List UInt8) (s : Sc) : Prop where
  num0 : 0 ≤ s.num
  num1 : s.num ≤ 2147483648
  dig0 : 0 ≤ s.dig
  none : s.dig = 0 → s.num = 0
  txt : (s = Sc.zero ∧ w = []) ∨ (s = { Sc.zero with k := 4 } ∧ w = [70]) ∨
    ((s.k = 1 ∨ s.k = 2 ∨ s.k = 3) ∧ s.value = false ∧ s.minus = false ∧ s.a = 0 ∧ w = letter s.k :: digs s.num s.dig) ∨
    ((s.k = 2 ∨ s.k = 3) ∧ s.value = true ∧ 0 ≤ s.a ∧ (s.minus = true → 0 < s.dig → s.num ≠ 0) ∧ w = letter s.k :: (decDigits s.a.toNat ++ 61 :: ((if s.minus then [45] else []) ++ digs s.num s.dig)))
theorem digs_next {num dig d : Int} (h0 : 0 ≤ num) (h1 : 0 ≤ dig) (hn : dig = 0 → num = 0) (hz : ¬ (0 < dig ∧ num = 0)) (hd0 : 0 ≤ d) (hd1 : d ≤ 9) :
    digs (10 * num + d) (dig + 1) = digs num dig ++ [UInt8.ofNat (48 + d.toNat)] := by
  unfold digs
  rw [if_neg (by omega)]
  by_cases h : dig = 0
  · rw [if_pos h, hn h, decDigits_one (by omega)]
    simp
  · rw [if_neg h]
    have : 0 < num := by omega
    rw [decDigits, dif_neg (by omega)]
    have e1 : (10 * num + d).toNat / 10 = num.toNat := by omega
    have e2 : (10 * num + d).toNat % 10 = d.toNat := by omega
    rw [e1, e2]
theorem u8_of (c : UInt8) (h : 48 ≤ (c.toNat : Int)) : UInt8.ofNat (48 + ((c.toNat : Int) - 48).toNat) = c := by
  have : 48 + ((c.toNat : Int) - 48).toNat = c.toNat := by omega
  rw [this]
  exact UInt8.ofNat_toNat
theorem u8_eq {c : UInt8} {n : Nat} (h : (c.toNat : Int) = n) (_ : n < 256) : c = UInt8.ofNat n := by
  have : c.toNat = n := by omega
  rw [← this]
  exact UInt8.ofNat_toNat.symm
theorem Rd.zero : Rd [] Sc.zero := ⟨by decide, by decide, by decide, fun _ => rfl, .inl ⟨rfl, rfl⟩⟩
theorem Rd.step {w : List UInt8} {s s' : Sc} (h : Rd w s) (c : UInt8) (hr : run1 c s = some s') : Rd (w ++ [c]) s' := by
  unfold run1 at hr
  by_cases hok : (s.rune c.toNat).2 = true
  · rw [if_pos hok] at hr
    injection hr with hr
    obtain ⟨k, a, num, dig, minus, value⟩ := s
    obtain ⟨n0, n1, d0, nn, ht⟩ := h
    simp only at n0 n1 d0 nn
    unfold Sc.rune at hr hok
    by_cases hd : 48 ≤ (c.toNat : Int) ∧ (c.toNat : Int) ≤ 57
    · rw [if_pos hd] at hr hok
      unfold Sc.digit at hr hok
      simp only at hr hok
      split at hok
      · cases hok
      rename_i hc
      rw [if_neg hc] at hr
      subst hr
      have hle : 10 * num + ((c.toNat : Int) - 48) ≤ 2147483648 := by simpa using hok
      have hdx := digs_next (num := num) (dig := dig) (d := (c.toNat : Int) - 48) n0 d0 nn (by omega) (by omega) (by omega)
      rw [u8_of c hd.1] at hdx
      refine ⟨by show 0 ≤ 10 * num + ((c.toNat : Int) - 48); omega, hle, by show 0 ≤ dig + 1; omega, fun e => by have : dig + 1 = 0 := e; omega, ?_⟩
      rcases ht with ⟨e, _⟩ | ⟨e, _⟩ | ⟨hk, hv, hm, ha, hw⟩ | ⟨hk, hv, ha, hm, hw⟩
      · simp [Sc.zero] at e; omega
      · simp [Sc.zero] at e; omega
      · refine .inr (.inr (.inl ⟨hk, hv, hm, ha, ?_⟩))
        simp only at hw ⊢
        rw [hw, hdx]
        simp
      · refine .inr (.inr (.inr ⟨hk, hv, ha, ?_, ?_⟩))
        · intro e1 e2
          simp only at e1 ⊢
          by_cases hz : dig = 0
          · have := nn hz
            have : ¬ ((c.toNat : Int) - 48 = 0) := fun e => hc (.inr (.inr (.inr ⟨e1, hz, e⟩)))
            omega
          · have := hm e1 (by show 0 < dig; omega)
            simp only at this
            omega
        · simp only at hw ⊢
          rw [hw, hdx]
          simp
    · rw [if_neg hd] at hr hok
      by_cases h45 : (c.toNat : Int) = 45
      · rw [if_pos h45] at hr hok
        subst hr
        have hok' : (value = true ∧ dig = 0) ∧ minus = false := by simpa using hok
        obtain ⟨⟨o1, o2⟩, o3⟩ := hok'
        refine ⟨n0, n1, d0, nn, ?_⟩
        rcases ht with ⟨e, _⟩ | ⟨e, _⟩ | ⟨hk, hv, hm, ha, hw⟩ | ⟨hk, hv, ha, hm, hw⟩
        · simp [Sc.zero, o1] at e
        · simp [Sc.zero, o1] at e
        · simp only at hv; rw [o1] at hv; cases hv
        · refine .inr (.inr (.inr ⟨hk, hv, ha, fun _ e => by have : (0 : Int) < dig := e; omega, ?_⟩))
          simp only at hw ⊢
          rw [hw, o3, u8_eq h45 (by decide)]
          simp [digs, o2]
      · rw [if_neg h45] at hr hok
        by_cases h61 : (c.toNat : Int) = 61
        · rw [if_pos h61] at hr hok
          subst hr
          have hok' : (0 < dig ∧ value = false) ∧ (k = 2 ∨ k = 3) := by simpa using hok
          obtain ⟨⟨o1, o2⟩, o3⟩ := hok'
          refine ⟨by show (0 : Int) ≤ 0; omega, by show (0 : Int) ≤ 2147483648; omega, by show (0 : Int) ≤ 0; omega, fun _ => rfl, ?_⟩
          rcases ht with ⟨e, _⟩ | ⟨e, _⟩ | ⟨hk, hv, hm, ha, hw⟩ | ⟨hk, hv, ha, hm, hw⟩
          · simp [Sc.zero] at e; omega
          · simp [Sc.zero] at e; omega
          · refine .inr (.inr (.inr ⟨o3, rfl, n0, fun _ e => by have : (0 : Int) < 0 := e; omega, ?_⟩))
            simp only at hw hm ⊢
            rw [hw, hm, u8_eq h61 (by decide)]
            have : dig ≠ 0 := by omega
            simp [digs, this]
          · simp only at hv; rw [o2] at hv; cases hv
        · rw [if_neg h61] at hr hok
          subst hr
          have hok' : k = 0 ∧ 0 < kindOf c.toNat := by simpa using hok
          obtain ⟨o1, o2⟩ := hok'
          refine ⟨n0, n1, d0, nn, ?_⟩
          rcases ht with ⟨e, rfl⟩ | ⟨e, _⟩ | ⟨hk, hv, hm, ha, hw⟩ | ⟨hk, hv, ha, hm, hw⟩
          · simp only [Sc.zero, Sc.mk.injEq] at e
            obtain ⟨_, rfl, rfl, rfl, rfl, rfl⟩ := e
            unfold kindOf at o2 ⊢
            by_cases c1 : (c.toNat : Int) = 32
            · rw [if_pos c1] at o2; omega
            rw [if_neg c1] at o2 ⊢
            by_cases c2 : (c.toNat : Int) = 76
            · rw [if_pos c2]
              exact .inr (.inr (.inl ⟨.inl rfl, rfl, rfl, rfl, by rw [u8_eq c2 (by decide)]; rfl⟩))
            rw [if_neg c2] at o2 ⊢
            by_cases c3 : (c.toNat : Int) = 83
            · rw [if_pos c3]
              exact .inr (.inr (.inl ⟨.inr (.inl rfl), rfl, rfl, rfl, by rw [u8_eq c3 (by decide)]; rfl⟩))
            rw [if_neg c3] at o2 ⊢
            by_cases c4 : (c.toNat : Int) = 88
            · rw [if_pos c4]
              exact .inr (.inr (.inl ⟨.inr (.inr rfl), rfl, rfl, rfl, by rw [u8_eq c4 (by decide)]; rfl⟩))
            rw [if_neg c4] at o2 ⊢
            by_cases c5 : (c.toNat : Int) = 70
            · rw [if_pos c5]
              exact .inr (.inl ⟨rfl, by rw [u8_eq c5 (by decide)]; rfl⟩)
            rw [if_neg c5] at o2
            omega
          · simp [Sc.zero] at e; omega
          · simp only at hk; omega
          · simp only at hk; omega
  · rw [if_neg hok] at hr; cases hr
theorem Rd.run {w : List UInt8} {s s' : Sc} (h : Rd w s) (l : List UInt8) (hr : runW l s = some s') : Rd (w ++ l) s' := by
  induction l generalizing w s with
  | nil => simp only [runW, Option.some.injEq] at hr; subst hr; simpa using h
  | cons c l ih =>
    simp only [runW] at hr
    cases h1 : run1 c s with
    | none => rw [h1] at hr; cases hr
    | some s1 =>
      rw [h1] at hr
      have := ih (h.step c h1) hr
      simpa using this
theorem itoa_nat {n : Int} (h : 0 ≤ n) : itoa n = decDigits n.toNat := by unfold itoa; rw [if_neg (by omega)]
/-- What is accepted is an operation that may be, and its text. -/
theorem accept_txt {w : List UInt8} {x : PO} (h : accept w = some x) : x.may = true ∧ x.txt = w := by
  unfold accept at h
  cases hr : runW w Sc.zero with
  | none => rw [hr] at h; cases h
  | some s =>
    rw [hr] at h
    have hd := Rd.zero.run w hr
    rw [List.nil_append] at hd
    simp only [Option.bind_some] at h
    unfold Sc.op at h
    obtain ⟨k, a, num, dig, minus, value⟩ := s
    obtain ⟨n0, n1, d0, nn, ht⟩ := hd
    simp only at n0 n1 d0 nn h
    have fin : ∀ y : PO, ((some y : Option PO).bind fun x => if x.may then some x else none) = some x → y = x ∧ x.may = true := by
      intro y hy
      simp only [Option.bind_some] at hy
      split at hy
      · injection hy with hy; subst hy; exact ⟨rfl, by assumption⟩
      · cases hy
    by_cases c1 : k = 1 ∧ 0 < dig
    · rw [if_pos c1] at h
      obtain ⟨rfl, hm⟩ := fin _ h
      refine ⟨hm, ?_⟩
      rcases ht with ⟨e, _⟩ | ⟨e, _⟩ | ⟨hk, hv, hmi, ha, hw⟩ | ⟨hk, hv, ha, hmi, hw⟩
      · simp [Sc.zero] at e; omega
      · simp [Sc.zero] at e; omega
      · simp only at hw
        rw [hw, c1.1]
        have : dig ≠ 0 := by omega
        simp [PO.txt, digs, this, itoa_nat n0]
      · simp only at hk; omega
    rw [if_neg c1] at h
    by_cases c2 : value = true ∧ 0 < dig ∧ minus = true
    · rw [if_pos c2] at h
      obtain ⟨rfl, hm⟩ := fin _ h
      refine ⟨hm, ?_⟩
      rcases ht with ⟨e, _⟩ | ⟨e, _⟩ | ⟨hk, hv, hmi, ha, hw⟩ | ⟨hk, hv, ha, hmi, hw⟩
      · simp [Sc.zero] at e; omega
      · simp [Sc.zero] at e; omega
      · simp only at hv; rw [c2.1] at hv; cases hv
      · simp only at hw hk ha hmi
        have hnz := hmi c2.2.2 c2.2.1
        have : dig ≠ 0 := by omega
        have k1 : k ≠ 1 := by omega
        have k4 : k ≠ 4 := by omega
        have ei : itoa (-num) = 45 :: decDigits num.toNat := by
          unfold itoa
          rw [if_pos (by omega)]
          congr 2
          omega
        rw [hw]
        simp [PO.txt, digs, this, k1, k4, c2.2.2, itoa_nat ha, ei]
    rw [if_neg c2] at h
    by_cases c3 : value = true ∧ 0 < dig
    · rw [if_pos c3] at h
      obtain ⟨rfl, hm⟩ := fin _ h
      refine ⟨hm, ?_⟩
      have hmf : minus = false := by cases hmm : minus; rfl; exact absurd ⟨c3.1, c3.2, hmm⟩ c2
      rcases ht with ⟨e, _⟩ | ⟨e, _⟩ | ⟨hk, hv, hmi, ha, hw⟩ | ⟨hk, hv, ha, hmi, hw⟩
      · simp [Sc.zero] at e; omega
      · simp [Sc.zero] at e; omega
      · simp only at hv; rw [c3.1] at hv; cases hv
      · simp only at hw hk ha
        have : dig ≠ 0 := by omega
        have k1 : k ≠ 1 := by omega
        have k4 : k ≠ 4 := by omega
        rw [hw]
        simp [PO.txt, digs, this, k1, k4, hmf, itoa_nat ha, itoa_nat n0]
    rw [if_neg c3] at h
    by_cases c4 : k ≠ 4
    · rw [if_pos c4] at h; cases h
    · rw [if_neg c4] at h
      obtain ⟨rfl, hm⟩ := fin _ h
      refine ⟨hm, ?_⟩
      have k4 : k = 4 := by omega
      rcases ht with ⟨e, _⟩ | ⟨e, hw⟩ | ⟨hk, hv, hmi, ha, hw⟩ | ⟨hk, hv, ha, hmi, hw⟩
      · simp [Sc.zero] at e; omega
      · rw [hw, k4]; rfl
      · simp only at hk; omega
      · simp only at hk; omega
/-! ### Every text is accepted -/
theorem toNat_digit {d : Nat} (h : d < 10) : (UInt8.ofNat (48 + d)).toNat = 48 + d := by
  rw [UInt8.toNat_ofNat']
  omega
theorem run1_of {c : UInt8} {s s' : Sc} (h : s.rune c.toNat = (s', true)) : run1 c s = some s' := by unfold run1; rw [h]; rfl
theorem op_load {s : Sc} (h : s.k = 1) (hd : 0 < s.dig) (hm : (⟨1, s.num, 0⟩ : PO).may = true) : s.op = some ⟨1, s.num, 0⟩ := by
  unfold Sc.op; simp only []; rw [if_pos ⟨h, hd⟩]; simp only [Option.bind_some]; rw [if_pos hm]
theorem op_minus {s : Sc} (h : s.k ≠ 1) (hv : s.value = true) (hd : 0 < s.dig) (hmi : s.minus = true) (hm : (⟨s.k, s.a, -s.num⟩ : PO).may = true) : s.op = some ⟨s.k, s.a, -s.num⟩ := by
  unfold Sc.op; simp only []; rw [if_neg (fun e => h e.1), if_pos ⟨hv, hd, hmi⟩]; simp only [Option.bind_some]; rw [if_pos hm]
theorem op_plus {s : Sc} (h : s.k ≠ 1) (hv : s.value = true) (hd : 0 < s.dig) (hmi : s.minus = false) (hm : (⟨s.k, s.a, s.num⟩ : PO).may = true) : s.op = some ⟨s.k, s.a, s.num⟩ := by
  unfold Sc.op; simp only []; rw [if_neg (fun e => h e.1), if_neg (fun e => by rw [hmi] at e; cases e.2.2), if_pos ⟨hv, hd⟩]; simp only [Option.bind_some]; rw [if_pos hm]
theorem run1_digit {s : Sc} {d : Nat} (h : d < 10) (hk : s.k = 1 ∨ s.k = 2 ∨ s.k = 3) (h1 : ¬ (0 < s.dig ∧ s.num = 0)) (h2 : ¬ (s.minus = true ∧ s.dig = 0 ∧ d = 0)) (h3 : 10 * s.num + d ≤ 2147483648) :
    run1 (UInt8.ofNat (48 + d)) s = some { s with num := 10 * s.num + d, dig := s.dig + 1 } := by
  refine run1_of ?_
  unfold Sc.rune
  rw [toNat_digit h, if_pos (by omega)]
  have e : ((48 + d : Nat) : Int) - 48 = d := by omega
  rw [e]
  unfold Sc.digit
  rw [if_neg (by
    rintro (h | h | h | ⟨a, b, c⟩)
    · omega
    · omega
    · exact h1 h
    · exact h2 ⟨a, b, by omega⟩)]
  rw [decide_eq_true h3]
theorem runW_digits (n : Nat) : ∀ (s : Sc), (s.k = 1 ∨ s.k = 2 ∨ s.k = 3) → s.dig = 0 → s.num = 0 → (s.minus = true → n ≠ 0) → (n : Int) ≤ 2147483648 →
    ∃ d : Int, 0 < d ∧ runW (decDigits n) s = some { s with num := n, dig := d } := by
  induction n using Nat.strongRecOn with
  | _ n ih =>
    intro s hk hd hn hm hle
    by_cases h : n < 10
    · rw [decDigits_one h]
      refine ⟨s.dig + 1, by omega, ?_⟩
      simp only [runW]
      rw [run1_digit h hk (by omega) (by rintro ⟨a, _, c⟩; exact hm a c) (by omega), hn]
      simp
    · rw [decDigits, dif_neg h, runW_append]
      obtain ⟨d, hd0, e⟩ := ih (n / 10) (by omega) s hk hd hn (by omega) (by omega)
      rw [e]
      refine ⟨d + 1, by omega, ?_⟩
      simp only [Option.bind_some, runW]
      rw [run1_digit (s := { s with num := ((n / 10 : Nat) : Int), dig := d }) (by omega) hk (by show ¬ (0 < d ∧ ((n / 10 : Nat) : Int) = 0); omega) (by show ¬ (s.minus = true ∧ d = 0 ∧ n % 10 = 0); omega) (by show 10 * ((n / 10 : Nat) : Int) + ((n % 10 : Nat) : Int) ≤ 2147483648; omega)]
      have : 10 * ((n / 10 : Nat) : Int) + ((n % 10 : Nat) : Int) = n := by omega
      simp only [Option.bind_some, this]
theorem txt_accept {x : PO} (h : x.may = true) : accept x.txt = some x := by
  obtain ⟨k, a, v⟩ := x
  have hm := h
  unfold PO.may at h
  simp only at h
  unfold accept
  by_cases k1 : k = 1
  · subst k1
    have h' : 0 ≤ a ∧ a ≤ 8191 ∧ v = 0 := by simpa using h
    obtain ⟨a0, a1, rfl⟩ := h'
    have e : PO.txt ⟨1, a, 0⟩ = 76 :: decDigits a.toNat := by simp [PO.txt, letter, itoa_nat a0]
    rw [e]
    simp only [runW]
    have r1 : run1 76 Sc.zero = some { Sc.zero with k := 1 } := by decide
    rw [r1]
    obtain ⟨d, d0, e2⟩ := runW_digits a.toNat { Sc.zero with k := 1 } (.inl rfl) rfl rfl (by intro h; cases h) (by omega)
    simp only [Option.bind_some]
    rw [e2]
    have ea : ((a.toNat : Nat) : Int) = a := by omega
    simp only [Option.bind_some, ea]
    exact op_load (s := { Sc.zero with k := 1, num := a, dig := d }) rfl d0 hm
  · rw [if_neg k1] at h
    by_cases k23 : k = 2 ∨ k = 3
    · rw [if_pos k23] at h
      have h' : 0 ≤ a ∧ a ≤ 8191 ∧ -2147483648 ≤ v ∧ v ≤ 2147483647 := by simpa using h
      obtain ⟨a0, a1, v0, v1⟩ := h'
      have k4 : k ≠ 4 := by omega
      have e : PO.txt ⟨k, a, v⟩ = letter k :: (decDigits a.toNat ++ 61 :: itoa v) := by simp [PO.txt, k1, k4, itoa_nat a0]
      rw [e]
      simp only [runW]
      have r1 : run1 (letter k) Sc.zero = some { Sc.zero with k := k } := by rcases k23 with rfl | rfl <;> decide
      rw [r1]
      obtain ⟨d, d0, e2⟩ := runW_digits a.toNat { Sc.zero with k := k } (.inr k23) rfl rfl (by intro h; cases h) (by omega)
      simp only [Option.bind_some]
      rw [runW_append, e2]
      have ea : ((a.toNat : Nat) : Int) = a := by omega
      simp only [Option.bind_some, ea, runW]
      have r2 : run1 61 { Sc.zero with k := k, num := a, dig := d } = some { Sc.zero with k := k, a := a, value := true } := by
        refine run1_of ?_
        unfold Sc.rune
        have c61 : (((61 : UInt8).toNat : Nat) : Int) = 61 := by decide
        rw [c61, if_neg (by omega), if_neg (by omega), if_pos rfl]
        have : (decide (0 < d) && !false && decide (k = 2 ∨ k = 3)) = true := by simp [d0, k23]
        simp only [Sc.zero, this]
      rw [r2]
      simp only [Option.bind_some]
      by_cases hv : v < 0
      · have ev : itoa v = 45 :: decDigits v.natAbs := by unfold itoa; rw [if_pos hv]
        rw [ev]
        simp only [runW]
        have r3 : run1 45 { Sc.zero with k := k, a := a, value := true } = some { Sc.zero with k := k, a := a, value := true, minus := true } := by
          refine run1_of ?_
          unfold Sc.rune
          have c45 : (((45 : UInt8).toNat : Nat) : Int) = 45 := by decide
          rw [c45, if_neg (by omega), if_pos rfl]
          simp [Sc.zero]
        rw [r3]
        obtain ⟨d2, d20, e3⟩ := runW_digits v.natAbs { Sc.zero with k := k, a := a, value := true, minus := true } (.inr k23) rfl rfl (by intro _; omega) (by omega)
        simp only [Option.bind_some]
        rw [e3]
        have en : -((v.natAbs : Nat) : Int) = v := by omega
        simp only [Option.bind_some]
        have := op_minus (s := { Sc.zero with k := k, a := a, value := true, minus := true, num := ((v.natAbs : Nat) : Int), dig := d2 }) k1 rfl d20 rfl (by simp only [en]; exact hm)
        simp only [en] at this
        exact this
      · have ev : itoa v = decDigits v.toNat := itoa_nat (by omega)
        rw [ev]
        obtain ⟨d2, d20, e3⟩ := runW_digits v.toNat { Sc.zero with k := k, a := a, value := true } (.inr k23) rfl rfl (by intro h; cases h) (by omega)
        rw [e3]
        have en : ((v.toNat : Nat) : Int) = v := by omega
        simp only [Option.bind_some]
        rw [en]
        exact op_plus (s := { Sc.zero with k := k, a := a, value := true, num := v, dig := d2 }) k1 rfl d20 rfl hm
    · rw [if_neg k23] at h
      have h' : k = 4 ∧ a = 0 ∧ v = 0 := by simpa using h
      obtain ⟨rfl, rfl, rfl⟩ := h'
      decide
end Go.Proofs.YtfjeheioglmalaaDoor
