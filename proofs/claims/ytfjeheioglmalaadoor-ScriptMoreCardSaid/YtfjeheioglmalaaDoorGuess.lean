/- What the reference guesses, and the two ways of reading a text. -/
import Derived.Test.YtfjeheioglmalaaDoorPlain
namespace Go.Proofs.YtfjeheioglmalaaDoor
open Go.Lib

/-- The number that digits tell; of other bytes, whatever. -/
def digFold (n : Int) : List UInt8 → Int
  | [] => n
  | c :: r => digFold (10 * n + ((c.toNat : Int) - 48)) r
def digitsP (l : List UInt8) : Int := digFold 0 (l.take 12)
theorem digFold_append (n : Int) (a b : List UInt8) : digFold n (a ++ b) = digFold (digFold n a) b := by
  induction a generalizing n with
  | nil => rfl
  | cons c a ih => exact ih _
theorem digFold_dec (n : Nat) : digFold 0 (decDigits n) = n := by
  induction n using Nat.strongRecOn with
  | _ n ih =>
    by_cases h : n < 10
    · rw [decDigits_one h]
      simp only [digFold]
      rw [toNat_digit h]
      omega
    · rw [decDigits, dif_neg h, digFold_append, ih (n / 10) (by omega)]
      simp only [digFold]
      rw [toNat_digit (by omega)]
      omega
theorem nDigits_le {n : Nat} (h : n < 10 ^ 12) : (decDigits n).length ≤ 12 := by
  rw [decDigits_length]
  exact Classical.byContradiction fun hn => by
    have h1 : 13 ≤ nDigits n := by omega
    have : ∀ k u : Nat, k + 1 ≤ nDigits u → 10 ^ k ≤ u ∨ k = 0 := by
      intro k
      induction k with
      | zero => intro u _; exact .inr rfl
      | succ k ih =>
        intro u hu
        left
        by_cases h10 : u < 10
        · rw [nDigits_small h10] at hu; omega
        · rw [nDigits_big h10] at hu
          rcases ih (u / 10) (by omega) with h | h
          · rw [Nat.pow_succ]; omega
          · subst h; simp; omega
    rcases this 12 n h1 with h' | h'
    · omega
    · cases h'
theorem digitsP_dec {n : Nat} (h : n < 10 ^ 12) : digitsP (decDigits n) = n := by
  unfold digitsP
  rw [List.take_of_length_le (nDigits_le h), digFold_dec]
theorem dec_digit (n : Nat) : ∀ c ∈ decDigits n, 48 ≤ c.toNat ∧ c.toNat ≤ 57 := by
  induction n using Nat.strongRecOn with
  | _ n ih =>
    intro c hc
    by_cases h : n < 10
    · rw [decDigits_one h, List.mem_singleton] at hc
      subst hc
      rw [toNat_digit h]
      omega
    · rw [decDigits, dif_neg h] at hc
      rcases List.mem_append.1 hc with hc | hc
      · exact ih (n / 10) (by omega) c hc
      · rw [List.mem_singleton] at hc
        subst hc
        rw [toNat_digit (by omega)]
        omega
theorem dec_ne (n : Nat) : decDigits n ≠ [] := by
  rw [decDigits]
  split
  · simp
  · simp
/-- The kind that a byte tells. -/
def kindB (c : UInt8) : Int := if c = 76 then 1 else if c = 83 then 2 else if c = 88 then 3 else if c = 70 then 4 else 0
/-- Where the first '=' stands; how many bytes there are, if there is none. -/
def eqAt : List UInt8 → Nat
  | [] => 0
  | c :: r => if c = 61 then 0 else eqAt r + 1
def guessP (w : List UInt8) : PO :=
  match w with
  | [] => ⟨0, 0, 0⟩
  | c :: _ =>
    ⟨kindB c, if kindB c = 4 then 0 else digitsP ((w.take (max (eqAt w) 1)).drop 1),
      if (w.drop (eqAt w + 1)).head? = some 45 then -digitsP (w.drop (eqAt w + 2)) else if eqAt w < w.length then digitsP (w.drop (eqAt w + 1)) else 0⟩
theorem eqAt_none {l : List UInt8} (h : ∀ c ∈ l, c ≠ 61) : eqAt l = l.length := by
  induction l with
  | nil => rfl
  | cons c l ih =>
    rw [eqAt, if_neg (h c List.mem_cons_self), ih (fun x hx => h x (List.mem_cons_of_mem _ hx))]
    rfl
theorem eqAt_some {l r : List UInt8} (h : ∀ c ∈ l, c ≠ 61) : eqAt (l ++ 61 :: r) = l.length := by
  induction l with
  | nil => rfl
  | cons c l ih =>
    rw [List.cons_append, eqAt, if_neg (h c List.mem_cons_self), ih (fun x hx => h x (List.mem_cons_of_mem _ hx))]
    rfl
theorem dec_no61 (n : Nat) : ∀ c ∈ decDigits n, c ≠ 61 := by
  intro c hc e
  have := dec_digit n c hc
  subst e
  simp at this
theorem guess_txt {x : PO} (h : x.may = true) : guessP x.txt = x := by
  obtain ⟨k, a, v⟩ := x
  unfold PO.may at h
  simp only at h
  by_cases k1 : k = 1
  · subst k1
    have h' : 0 ≤ a ∧ a ≤ 8191 ∧ v = 0 := by simpa using h
    obtain ⟨a0, a1, rfl⟩ := h'
    have e : PO.txt ⟨1, a, 0⟩ = 76 :: decDigits a.toNat := by simp [PO.txt, letter, itoa_nat a0]
    rw [e]
    have ea : eqAt (76 :: decDigits a.toNat) = (76 :: decDigits a.toNat).length := eqAt_none (by
      intro c hc
      rcases List.mem_cons.1 hc with rfl | hc
      · decide
      · exact dec_no61 _ c hc)
    unfold guessP
    simp only []
    rw [ea]
    have ek : kindB 76 = 1 := by decide
    rw [ek, if_neg (by decide), if_neg (by rw [List.drop_of_length_le (by omega)]; simp), if_neg (by omega), Nat.max_eq_left (by simp), List.take_length]
    simp only [List.drop_succ_cons, List.drop_zero]
    rw [digitsP_dec (by omega)]
    congr 1
    omega
  · rw [if_neg k1] at h
    by_cases k23 : k = 2 ∨ k = 3
    · rw [if_pos k23] at h
      have h' : 0 ≤ a ∧ a ≤ 8191 ∧ -2147483648 ≤ v ∧ v ≤ 2147483647 := by simpa using h
      obtain ⟨a0, a1, v0, v1⟩ := h'
      have k4 : k ≠ 4 := by omega
      have e : PO.txt ⟨k, a, v⟩ = (letter k :: decDigits a.toNat) ++ 61 :: itoa v := by simp [PO.txt, k1, k4, itoa_nat a0]
      have el : kindB (letter k) = k := by rcases k23 with rfl | rfl <;> decide
      have ea : eqAt ((letter k :: decDigits a.toNat) ++ 61 :: itoa v) = (letter k :: decDigits a.toNat).length := eqAt_some (by
        intro c hc
        rcases List.mem_cons.1 hc with rfl | hc
        · rcases k23 with rfl | rfl <;> decide
        · exact dec_no61 _ c hc)
      rw [e]
      have hcons : (letter k :: decDigits a.toNat) ++ 61 :: itoa v = letter k :: (decDigits a.toNat ++ 61 :: itoa v) := rfl
      unfold guessP
      rw [hcons]
      simp only []
      rw [← hcons, ea, el, if_neg k4, Nat.max_eq_left (by simp)]
      have d0 : ((letter k :: decDigits a.toNat) ++ 61 :: itoa v).take (letter k :: decDigits a.toNat).length = letter k :: decDigits a.toNat := List.take_left
      have d1 : ((letter k :: decDigits a.toNat) ++ 61 :: itoa v).drop ((letter k :: decDigits a.toNat).length + 1) = itoa v := by
        rw [← List.drop_drop, List.drop_left]; rfl
      have d2 : ((letter k :: decDigits a.toNat) ++ 61 :: itoa v).drop ((letter k :: decDigits a.toNat).length + 2) = (itoa v).drop 1 := by
        rw [← List.drop_drop, List.drop_left]; rfl
      rw [d0, d1, d2]
      simp only [List.drop_succ_cons, List.drop_zero]
      rw [digitsP_dec (by omega), if_pos (show (letter k :: decDigits a.toNat).length < ((letter k :: decDigits a.toNat) ++ 61 :: itoa v).length by rw [List.length_append]; simp)]
      have eaa : ((a.toNat : Nat) : Int) = a := by omega
      rw [eaa]
      by_cases hv : v < 0
      · have ev : itoa v = 45 :: decDigits v.natAbs := by unfold itoa; rw [if_pos hv]
        rw [ev, if_pos (show (45 :: decDigits v.natAbs).head? = some 45 from rfl)]
        simp only [List.drop_succ_cons, List.drop_zero]
        rw [digitsP_dec (by omega)]
        congr 1
        omega
      · have ev : itoa v = decDigits v.toNat := itoa_nat (by omega)
        rw [ev, if_neg (by
          intro e
          have := dec_digit v.toNat 45 (List.mem_of_head? e)
          simp at this), digitsP_dec (by omega)]
        congr 1
        omega
    · rw [if_neg k23] at h
      have h' : k = 4 ∧ a = 0 ∧ v = 0 := by simpa using h
      obtain ⟨rfl, rfl, rfl⟩ := h'
      decide
/-- The reference takes a word for the operation that it guesses, if its text is that. -/
def rword (w : List UInt8) : Option PO := if (guessP w).may = true ∧ (guessP w).txt = w then some (guessP w) else none
theorem accept_rword (w : List UInt8) : accept w = rword w := by
  unfold rword
  cases ha : accept w with
  | some x =>
    obtain ⟨h1, h2⟩ := accept_txt ha
    have := guess_txt h1
    rw [h2] at this
    rw [this, if_pos ⟨h1, h2⟩]
  | none =>
    split
    · rename_i h
      have := txt_accept h.1
      rw [h.2, ha] at this
      cases this
    · rfl
/-! ### Texts -/
/-- As the program reads: byte by byte, behind each blank an operation; the text ends with one. -/
def mgo : List UInt8 → Sc → List PO → Option (List PO)
  | [], s, acc => s.op.map (acc ++ [·])
  | c :: r, s, acc => if c = 32 then s.op.bind fun x => mgo r Sc.zero (acc ++ [x]) else (run1 c s).bind fun s' => mgo r s' acc
/-- As the reference reads: word by word. -/
def rgo : List UInt8 → List UInt8 → List PO → Option (List PO)
  | [], w, acc => (rword w).map (acc ++ [·])
  | c :: r, w, acc => if c = 32 then (rword w).bind fun x => rgo r [] (acc ++ [x]) else rgo r (w ++ [c]) acc
theorem rgo_none {r w : List UInt8} (acc : List PO) (h : runW w Sc.zero = none) : rgo r w acc = none := by
  have hr : ∀ w, runW w Sc.zero = none → rword w = none := fun w h => by rw [← accept_rword]; unfold accept; rw [h]; rfl
  induction r generalizing w with
  | nil => simp only [rgo, hr w h, Option.map_none]
  | cons c r ih =>
    simp only [rgo]
    split
    · rw [hr w h]; rfl
    · exact ih (by rw [runW_append, h]; rfl)
theorem mgo_rgo (r w : List UInt8) (s : Sc) (acc : List PO) (h : runW w Sc.zero = some s) : mgo r s acc = rgo r w acc := by
  have hr : ∀ w s, runW w Sc.zero = some s → rword w = s.op := fun w s h => by rw [← accept_rword]; unfold accept; rw [h]; rfl
  induction r generalizing w s acc with
  | nil => simp only [mgo, rgo, hr w s h]
  | cons c r ih =>
    simp only [mgo, rgo]
    split
    · rw [hr w s h]
      cases s.op with
      | none => rfl
      | some x => exact ih [] Sc.zero _ rfl
    · cases h1 : run1 c s with
      | none =>
        rw [rgo_none acc (by rw [runW_append, h]; simp [runW, h1])]
        rfl
      | some s' => exact ih (w ++ [c]) s' acc (by rw [runW_append, h]; simp [runW, h1])
def parseP (l : List UInt8) : List PO × Int :=
  if 4000 < l.length then ([], 4) else if l = [] then ([], 0) else match rgo l [] [] with | none => ([], 2) | some x => if 64 < x.length then ([], 4) else (x, 0)
theorem mgo_all (l : List UInt8) : mgo l Sc.zero [] = rgo l [] [] := mgo_rgo l [] Sc.zero [] rfl
end Go.Proofs.YtfjeheioglmalaaDoor
