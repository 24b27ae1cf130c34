/- Scripts and their bytes: plain lists. Scripts and their bytes tell one another. -/
import Derived.Test.YtfjeheioglmalaaDoorFits
import Derived.Test.YtfjeheioglmalaaDoorBack
namespace Go.Proofs.YtfjeheioglmalaaDoor
open Go.Lib
set_option linter.unusedVariables false
structure PK where
  k : Int
  a : Int
  b : Int
structure PS where
  c : Cfg
  ps : List (List PO)
  ks : List PK
/-- byte(n). -/
def byteOf (n : Int) : UInt8 := UInt8.ofNat (n % 256).toNat
def PK.may (x : PK) : Bool := decide (0 ≤ x.k ∧ x.k ≤ 255 ∧ 0 ≤ x.a ∧ x.a ≤ 255 ∧ 0 ≤ x.b ∧ x.b ≤ 255)
def PK.bytes (x : PK) : List UInt8 := [byteOf x.k, byteOf x.a, byteOf x.b]
def PS.may (s : PS) : Bool := s.c.ok && decide ((s.ps.length : Int) = s.c.cores) && s.ps.all (fitsP s.c) && s.ks.all PK.may
def headP (c : Cfg) : List UInt8 := [byteOf c.cores, byteOf (lg c.homes), byteOf (lg c.sets), byteOf c.ways, byteOf (lg c.words), byteOf (lg c.lines), byteOf c.pointers, byteOf c.mshrs, byteOf c.buffer, byteOf c.writebacks, byteOf c.r0, byteOf c.r1, byteOf c.r2]
def leadP (n : Nat) : List UInt8 := if n < 128 then [UInt8.ofNat n] else [UInt8.ofNat (n / 128 + 128), UInt8.ofNat (n % 128)]
def textP (l : List PO) : List UInt8 := leadP (printP l).1.length ++ (printP l).1
def bytesP (s : PS) : List UInt8 × Int := if s.may then (headP s.c ++ (s.ps.flatMap textP ++ s.ks.flatMap PK.bytes), 0) else ([], 1)
def pow2 (b : UInt8) : Int := if 20 < b.toNat then 0 else 2 ^ b.toNat
def cfgP (b : List UInt8) : Cfg :=
  ⟨(b.getD 0 0).toNat, pow2 (b.getD 1 0), pow2 (b.getD 2 0), (b.getD 3 0).toNat, pow2 (b.getD 4 0), pow2 (b.getD 5 0), (b.getD 6 0).toNat, (b.getD 7 0).toNat, (b.getD 8 0).toNat, (b.getD 9 0).toNat, (b.getD 10 0).toNat, (b.getD 11 0).toNat, (b.getD 12 0).toNat⟩
/-- n bytes, and what is behind them. -/
def cutR (n : Nat) (r : List UInt8) : Except Int (List UInt8 × List UInt8) := if r.length < n then .error 3 else .ok (r.take n, r.drop n)
def textR : List UInt8 → Except Int (List UInt8 × List UInt8)
  | [] => .error 3
  | n :: r => if n.toNat < 128 then cutR n.toNat r else
    match r with
    | [] => .error 3
    | m :: r => if 128 ≤ m.toNat ∨ n.toNat = 128 then .error 2 else cutR ((n.toNat - 128) * 128 + m.toNat) r
def progsR (c : Cfg) : Nat → List UInt8 → List (List PO) → Except Int (List (List PO) × List UInt8)
  | 0, r, acc => .ok (acc, r)
  | n + 1, r, acc =>
    match textR r with
    | .error e => .error e
    | .ok (t, r) => if (parseP t).2 ≠ 0 then .error (parseP t).2 else if fitsP c (parseP t).1 then progsR c n r (acc ++ [(parseP t).1]) else .error 5
def picksR : List UInt8 → List PK
  | a :: b :: c :: r => ⟨a.toNat, b.toNat, c.toNat⟩ :: picksR r
  | _ => []
def noPS : PS := ⟨⟨0, 0, 0, 0, 0, 0, 0, 0, 0, 0, 0, 0, 0⟩, [], []⟩
def readP (b : List UInt8) : PS × Int :=
  if b.length < 13 then (noPS, 3)
  else if (cfgP b).ok = false then (noPS, 1)
  else match progsR (cfgP b) (cfgP b).cores.toNat (b.drop 13) [] with
    | .error e => (noPS, e)
    | .ok (ps, r) => if r.length % 3 ≠ 0 then (noPS, 3) else (⟨cfgP b, ps, picksR r⟩, 0)
/-! ### Bytes -/
theorem byteOf_nat (b : UInt8) : byteOf (b.toNat : Int) = b := by
  have h : b.toNat < 256 := b.toNat_lt
  unfold byteOf
  rw [show ((b.toNat : Int) % 256).toNat = b.toNat by omega]
  simp
theorem byteOf_in {n : Int} (h0 : 0 ≤ n) (h1 : n ≤ 255) : ((byteOf n).toNat : Int) = n := by
  unfold byteOf
  rw [UInt8.toNat_ofNat']
  omega
theorem pow2_lg {n : Int} (h : isPow n = true) : pow2 (byteOf (lg n)) = n := by
  unfold isPow at h
  unfold lg
  cases hq : powLog n with
  | none => rw [hq] at h; cases h
  | some m =>
    obtain ⟨hm, rfl⟩ := powLog_some hq
    have key : ∀ m : Fin 11, pow2 (byteOf ((m.val : Nat) : Int)) = 2 ^ m.val := by decide +kernel
    exact key ⟨m, hm⟩
theorem lg_pow2 (b : UInt8) (h : isPow (pow2 b) = true) : byteOf (lg (pow2 b)) = b := by
  have key : ∀ m : Fin 256, isPow (pow2 (UInt8.ofNat m.val)) = true → byteOf (lg (pow2 (UInt8.ofNat m.val))) = UInt8.ofNat m.val := by decide +kernel
  have := key ⟨b.toNat, b.toNat_lt⟩
  simp only [UInt8.ofNat_toNat] at this
  exact this h
theorem ok_all {c : Cfg} (h : c.ok = true) : (1 ≤ c.cores ∧ c.cores ≤ 64) ∧ isPow c.homes = true ∧ isPow c.sets = true ∧ isPow c.words = true ∧ isPow c.lines = true ∧ (0 ≤ c.ways ∧ c.ways ≤ 255) ∧ (0 ≤ c.pointers ∧ c.pointers ≤ 255) ∧ (0 ≤ c.mshrs ∧ c.mshrs ≤ 255) ∧ (0 ≤ c.buffer ∧ c.buffer ≤ 255) ∧ (0 ≤ c.writebacks ∧ c.writebacks ≤ 255) ∧ (0 ≤ c.r0 ∧ c.r0 ≤ 255) ∧ (0 ≤ c.r1 ∧ c.r1 ≤ 255) ∧ (0 ≤ c.r2 ∧ c.r2 ≤ 255) := by
  unfold Cfg.ok Cfg.bounds at h
  simp only [List.all_cons, List.all_nil, fitB, Bool.and_eq_true, Bool.not_true, Bool.not_false, Bool.true_or, Bool.false_or, Bool.and_true, decide_eq_true_eq, true_and] at h
  simp only [and_assoc] at h ⊢
  refine ⟨?_, ?_, ?_, ?_, ?_, ?_, ?_, ?_, ?_, ?_, ?_, ?_, ?_, ?_, ?_, ?_, ?_, ?_, ?_, ?_, ?_, ?_⟩
  all_goals first | omega | simp_all
theorem head_len (c : Cfg) : (headP c).length = 13 := rfl
theorem cfg_head {c : Cfg} (h : c.ok = true) (r : List UInt8) : cfgP (headP c ++ r) = c := by
  obtain ⟨⟨a0, a1⟩, b1, b2, b3, b4, ⟨c0, c1⟩, ⟨d0, d1⟩, ⟨e0, e1⟩, ⟨f0, f1⟩, ⟨g0, g1⟩, ⟨h0, h1⟩, ⟨i0, i1⟩, j0, j1⟩ := ok_all h
  unfold cfgP headP
  simp only [List.cons_append, List.getD_cons_zero, List.getD_cons_succ]
  rw [byteOf_in (by omega) (by omega), pow2_lg b1, pow2_lg b2, pow2_lg b3, pow2_lg b4, byteOf_in c0 c1, byteOf_in d0 d1, byteOf_in e0 e1, byteOf_in f0 f1, byteOf_in g0 g1, byteOf_in h0 h1, byteOf_in i0 i1, byteOf_in j0 j1]
theorem thirteen {b : List UInt8} (h : ¬ b.length < 13) : ∃ x0 x1 x2 x3 x4 x5 x6 x7 x8 x9 x10 x11 x12 r, b = x0 :: x1 :: x2 :: x3 :: x4 :: x5 :: x6 :: x7 :: x8 :: x9 :: x10 :: x11 :: x12 :: r := by
  rcases b with _ | ⟨x0, b⟩
  · exact absurd (by simp) h
  rcases b with _ | ⟨x1, b⟩
  · exact absurd (by simp) h
  rcases b with _ | ⟨x2, b⟩
  · exact absurd (by simp) h
  rcases b with _ | ⟨x3, b⟩
  · exact absurd (by simp) h
  rcases b with _ | ⟨x4, b⟩
  · exact absurd (by simp) h
  rcases b with _ | ⟨x5, b⟩
  · exact absurd (by simp) h
  rcases b with _ | ⟨x6, b⟩
  · exact absurd (by simp) h
  rcases b with _ | ⟨x7, b⟩
  · exact absurd (by simp) h
  rcases b with _ | ⟨x8, b⟩
  · exact absurd (by simp) h
  rcases b with _ | ⟨x9, b⟩
  · exact absurd (by simp) h
  rcases b with _ | ⟨x10, b⟩
  · exact absurd (by simp) h
  rcases b with _ | ⟨x11, b⟩
  · exact absurd (by simp) h
  rcases b with _ | ⟨x12, b⟩
  · exact absurd (by simp) h
  exact ⟨_, _, _, _, _, _, _, _, _, _, _, _, _, _, rfl⟩
theorem head_cfg {b : List UInt8} (hl : ¬ b.length < 13) (h : (cfgP b).ok = true) : headP (cfgP b) ++ b.drop 13 = b := by
  obtain ⟨_, b1, b2, b3, b4, _⟩ := ok_all h
  obtain ⟨x0, x1, x2, x3, x4, x5, x6, x7, x8, x9, x10, x11, x12, r, rfl⟩ := thirteen hl
  unfold cfgP at b1 b2 b3 b4
  simp only [List.getD_cons_zero, List.getD_cons_succ] at b1 b2 b3 b4
  unfold headP cfgP
  simp only [List.getD_cons_zero, List.getD_cons_succ]
  rw [byteOf_nat, byteOf_nat, byteOf_nat, byteOf_nat, byteOf_nat, byteOf_nat, byteOf_nat, byteOf_nat, byteOf_nat, lg_pow2 _ b1, lg_pow2 _ b2, lg_pow2 _ b3, lg_pow2 _ b4]
  rfl
end Go.Proofs.YtfjeheioglmalaaDoor
namespace Go.Proofs.YtfjeheioglmalaaDoor
open Go.Lib
set_option linter.unusedVariables false
theorem cut_ok {n : Nat} {r t r' : List UInt8} (h : cutR n r = .ok (t, r')) : t.length = n ∧ t ++ r' = r := by
  unfold cutR at h
  split at h
  · cases h
  · injection h with h
    injection h with h1 h2
    subst h1
    subst h2
    exact ⟨by simp; omega, List.take_append_drop n r⟩
theorem cut_of (t r : List UInt8) : cutR t.length (t ++ r) = .ok (t, r) := by
  unfold cutR
  rw [if_neg (by simp)]
  simp
theorem cut_more {n : Nat} {r t r' : List UInt8} (h : cutR n r = .ok (t, r')) (x : List UInt8) : cutR n (r ++ x) = .ok (t, r' ++ x) := by
  obtain ⟨rfl, rfl⟩ := cut_ok h
  rw [List.append_assoc]
  exact cut_of t (r' ++ x)
theorem lead_nat {n : Nat} (h : n < 256) : (UInt8.ofNat n).toNat = n := by rw [UInt8.toNat_ofNat']; omega
theorem text_lead (t r : List UInt8) (h : t.length < 16000) : textR (leadP t.length ++ (t ++ r)) = .ok (t, r) := by
  unfold leadP
  by_cases h1 : t.length < 128
  · rw [if_pos h1]
    simp only [List.cons_append, List.nil_append, textR]
    rw [lead_nat (by omega), if_pos h1]
    exact cut_of t r
  · rw [if_neg h1]
    simp only [List.cons_append, List.nil_append, textR]
    rw [lead_nat (n := t.length / 128 + 128) (by omega), lead_nat (n := t.length % 128) (by omega), if_neg (by omega), if_neg (by omega)]
    rw [show (t.length / 128 + 128 - 128) * 128 + t.length % 128 = t.length by omega]
    exact cut_of t r
theorem text_back {r t r' : List UInt8} (h : textR r = .ok (t, r')) : leadP t.length ++ (t ++ r') = r := by
  cases r with
  | nil => cases h
  | cons n r =>
    simp only [textR] at h
    have hn : n.toNat < 256 := n.toNat_lt
    by_cases h1 : n.toNat < 128
    · rw [if_pos h1] at h
      obtain ⟨h2, h3⟩ := cut_ok h
      unfold leadP
      rw [h2, if_pos h1, h3]
      simp
    · rw [if_neg h1] at h
      cases r with
      | nil => cases h
      | cons m r =>
        simp only at h
        have hm : m.toNat < 256 := m.toNat_lt
        by_cases h4 : 128 ≤ m.toNat ∨ n.toNat = 128
        · rw [if_pos h4] at h; cases h
        · rw [if_neg h4] at h
          obtain ⟨h2, h3⟩ := cut_ok h
          unfold leadP
          rw [h2, if_neg (by omega), h3]
          rw [show ((n.toNat - 128) * 128 + m.toNat) / 128 + 128 = n.toNat by omega, show ((n.toNat - 128) * 128 + m.toNat) % 128 = m.toNat by omega]
          simp
theorem text_more {r t r' : List UInt8} (h : textR r = .ok (t, r')) (x : List UInt8) : textR (r ++ x) = .ok (t, r' ++ x) := by
  cases r with
  | nil => cases h
  | cons n r =>
    simp only [List.cons_append, textR] at h ⊢
    by_cases h1 : n.toNat < 128
    · rw [if_pos h1] at h ⊢
      exact cut_more h x
    · rw [if_neg h1] at h ⊢
      cases r with
      | nil => cases h
      | cons m r =>
        simp only [List.cons_append] at h ⊢
        by_cases h4 : 128 ≤ m.toNat ∨ n.toNat = 128
        · rw [if_pos h4] at h; cases h
        · rw [if_neg h4] at h ⊢
          exact cut_more h x
theorem cut_err {n : Nat} {r : List UInt8} {e : Int} (h : cutR n r = .error e) : e = 3 := by
  unfold cutR at h
  split at h
  · injection h with h; exact h.symm
  · cases h
theorem text_err {r : List UInt8} {e : Int} (h : textR r = .error e) : e = 2 ∨ e = 3 := by
  cases r with
  | nil => simp only [textR, Except.error.injEq] at h; exact .inr h.symm
  | cons n r =>
    simp only [textR] at h
    by_cases h1 : n.toNat < 128
    · rw [if_pos h1] at h; exact .inr (cut_err h)
    · rw [if_neg h1] at h
      cases r with
      | nil => simp only [Except.error.injEq] at h; exact .inr h.symm
      | cons m r =>
        simp only at h
        by_cases h4 : 128 ≤ m.toNat ∨ n.toNat = 128
        · rw [if_pos h4] at h; simp only [Except.error.injEq] at h; exact .inl h.symm
        · rw [if_neg h4] at h; exact .inr (cut_err h)
theorem progs_err {c : Cfg} {n : Nat} {r : List UInt8} {acc : List (List PO)} {e : Int} (h : progsR c n r acc = .error e) : e ≠ 0 := by
  induction n generalizing r acc with
  | zero => cases h
  | succ n ih =>
    simp only [progsR] at h
    cases ht : textR r with
    | error e' =>
      rw [ht] at h
      simp only [Except.error.injEq] at h
      subst h
      rcases text_err ht with rfl | rfl <;> decide
    | ok p =>
      obtain ⟨t, r1⟩ := p
      rw [ht] at h
      simp only at h
      by_cases h1 : (parseP t).2 ≠ 0
      · rw [if_pos h1] at h
        simp only [Except.error.injEq] at h
        rw [← h]; exact h1
      · rw [if_neg h1] at h
        by_cases h2 : fitsP c (parseP t).1 = true
        · rw [if_pos h2] at h; exact ih h
        · rw [if_neg h2] at h
          simp only [Except.error.injEq] at h
          rw [← h]; decide
theorem fits_may {c : Cfg} {l : List PO} (h : fitsP c l = true) : l.length ≤ 64 ∧ ∀ x ∈ l, x.may = true := by
  unfold fitsP at h
  simp only [Bool.and_eq_true, decide_eq_true_eq, List.all_eq_true] at h
  exact ⟨h.1.2, fun x hx => (h.2 x hx).1⟩
theorem fits_print {c : Cfg} {l : List PO} (h : fitsP c l = true) : printP l = (allP l, 0) ∧ (allP l).length < 16000 := by
  obtain ⟨h1, h2⟩ := fits_may h
  have := allP_short l h2
  refine ⟨?_, by omega⟩
  unfold printP
  rw [if_neg (by omega), if_pos (List.all_eq_true.2 h2)]
theorem fits_parse {c : Cfg} {l : List PO} (h : fitsP c l = true) : parseP (printP l).1 = (l, 0) := back_print (by rw [(fits_print h).1])
theorem progs_of (c : Cfg) (ps : List (List PO)) : ∀ (r : List UInt8) (acc : List (List PO)), (∀ l ∈ ps, fitsP c l = true) → progsR c ps.length (ps.flatMap textP ++ r) acc = .ok (acc ++ ps, r) := by
  induction ps with
  | nil => intro r acc _; simp [progsR]
  | cons l ps ih =>
    intro r acc h
    have hl := h l List.mem_cons_self
    have hp := fits_print hl
    have ht : textR (textP l ++ (ps.flatMap textP ++ r)) = .ok ((printP l).1, ps.flatMap textP ++ r) := by
      unfold textP
      rw [List.append_assoc]
      exact text_lead _ _ (by rw [hp.1]; exact hp.2)
    simp only [List.flatMap_cons, List.length_cons, progsR, List.append_assoc]
    rw [ht]
    simp only
    rw [fits_parse hl]
    simp only [ne_eq, not_true_eq_false, if_false]
    rw [if_pos hl, ih r (acc ++ [l]) (fun x hx => h x (List.mem_cons_of_mem _ hx))]
    simp
theorem progs_back (c : Cfg) : ∀ (n : Nat) (r : List UInt8) (acc qs : List (List PO)) (r' : List UInt8), progsR c n r acc = .ok (qs, r') → ∃ ps, qs = acc ++ ps ∧ ps.length = n ∧ (∀ l ∈ ps, fitsP c l = true) ∧ ps.flatMap textP ++ r' = r := by
  intro n
  induction n with
  | zero =>
    intro r acc qs r' h
    simp only [progsR, Except.ok.injEq, Prod.mk.injEq] at h
    obtain ⟨rfl, rfl⟩ := h
    exact ⟨[], by simp, rfl, (fun l hl => by cases hl), rfl⟩
  | succ n ih =>
    intro r acc qs r' h
    simp only [progsR] at h
    cases ht : textR r with
    | error e => rw [ht] at h; cases h
    | ok p =>
      obtain ⟨t, r1⟩ := p
      rw [ht] at h
      simp only at h
      by_cases h1 : (parseP t).2 ≠ 0
      · rw [if_pos h1] at h; cases h
      · rw [if_neg h1] at h
        have h1' : (parseP t).2 = 0 := by simpa using h1
        by_cases h2 : fitsP c (parseP t).1 = true
        · rw [if_pos h2] at h
          obtain ⟨ps, e1, e2, e3, e4⟩ := ih r1 _ qs r' h
          refine ⟨(parseP t).1 :: ps, by rw [e1]; simp, by simp [e2], ?_, ?_⟩
          · intro l hl
            rcases List.mem_cons.1 hl with rfl | hl
            · exact h2
            · exact e3 l hl
          · rw [List.flatMap_cons, List.append_assoc, e4]
            unfold textP
            rw [(back_parse h1').2, List.append_assoc]
            exact text_back ht
        · rw [if_neg h2] at h; cases h
theorem progs_more (c : Cfg) (x : List UInt8) : ∀ (n : Nat) (r : List UInt8) (acc qs : List (List PO)) (r' : List UInt8), progsR c n r acc = .ok (qs, r') → progsR c n (r ++ x) acc = .ok (qs, r' ++ x) := by
  intro n
  induction n with
  | zero =>
    intro r acc qs r' h
    simp only [progsR, Except.ok.injEq, Prod.mk.injEq] at h ⊢
    obtain ⟨rfl, rfl⟩ := h
    exact ⟨rfl, rfl⟩
  | succ n ih =>
    intro r acc qs r' h
    simp only [progsR] at h ⊢
    cases ht : textR r with
    | error e => rw [ht] at h; cases h
    | ok p =>
      obtain ⟨t, r1⟩ := p
      rw [ht] at h
      rw [text_more ht x]
      simp only at h ⊢
      by_cases h1 : (parseP t).2 ≠ 0
      · rw [if_pos h1] at h; cases h
      · rw [if_neg h1] at h ⊢
        by_cases h2 : fitsP c (parseP t).1 = true
        · rw [if_pos h2] at h ⊢
          exact ih r1 _ qs r' h
        · rw [if_neg h2] at h; cases h
/-! ### Picks -/
theorem picks_of (ks : List PK) (h : ∀ x ∈ ks, x.may = true) : picksR (ks.flatMap PK.bytes) = ks ∧ (ks.flatMap PK.bytes).length % 3 = 0 := by
  induction ks with
  | nil => exact ⟨rfl, rfl⟩
  | cons x ks ih =>
    obtain ⟨h1, h2⟩ := ih (fun y hy => h y (List.mem_cons_of_mem _ hy))
    have hx := h x List.mem_cons_self
    unfold PK.may at hx
    simp only [decide_eq_true_eq] at hx
    obtain ⟨a0, a1, b0, b1, c0, c1⟩ := hx
    simp only [List.flatMap_cons, PK.bytes, List.cons_append, List.nil_append, picksR, List.length_cons] at h1 h2 ⊢
    refine ⟨?_, by omega⟩
    rw [byteOf_in a0 a1, byteOf_in b0 b1, byteOf_in c0 c1, h1]
theorem picks_ind {P : List UInt8 → Prop} (h0 : P []) (h1 : ∀ a b c r, P r → P (a :: b :: c :: r)) : ∀ (n : Nat) (r : List UInt8), r.length = 3 * n → P r := by
  intro n
  induction n with
  | zero => intro r h; obtain rfl : r = [] := List.eq_nil_of_length_eq_zero (by simpa using h); exact h0
  | succ n ih =>
    intro r h
    rcases r with _ | ⟨a, r⟩
    · simp at h
    rcases r with _ | ⟨b, r⟩
    · simp at h; omega
    rcases r with _ | ⟨c, r⟩
    · simp at h; omega
    exact h1 a b c r (ih r (by simp at h; omega))
theorem picks_back {r : List UInt8} (h : r.length % 3 = 0) : (picksR r).flatMap PK.bytes = r ∧ ∀ x ∈ picksR r, x.may = true := by
  refine picks_ind (P := fun r => (picksR r).flatMap PK.bytes = r ∧ ∀ x ∈ picksR r, x.may = true) ⟨rfl, fun x hx => by cases hx⟩ ?_ (r.length / 3) r (by omega)
  intro a b c r ⟨h1, h2⟩
  refine ⟨?_, ?_⟩
  · simp only [picksR, List.flatMap_cons, PK.bytes, byteOf_nat, h1, List.cons_append, List.nil_append]
  · intro x hx
    simp only [picksR] at hx
    rcases List.mem_cons.1 hx with rfl | hx
    · have ha : a.toNat < 256 := a.toNat_lt
      have hb : b.toNat < 256 := b.toNat_lt
      have hc : c.toNat < 256 := c.toNat_lt
      unfold PK.may
      simp only [decide_eq_true_eq]
      omega
    · exact h2 x hx
theorem picks_more {r : List UInt8} (h : r.length % 3 = 0) (x y z : UInt8) : picksR (r ++ [x, y, z]) = picksR r ++ [⟨x.toNat, y.toNat, z.toNat⟩] := by
  refine picks_ind (P := fun r => picksR (r ++ [x, y, z]) = picksR r ++ [⟨x.toNat, y.toNat, z.toNat⟩]) rfl ?_ (r.length / 3) r (by omega)
  intro a b c r h
  simp only [List.cons_append, picksR, h]
/-! ### The laws -/
theorem may_parts {s : PS} (h : s.may = true) : s.c.ok = true ∧ (s.ps.length : Int) = s.c.cores ∧ (∀ l ∈ s.ps, fitsP s.c l = true) ∧ ∀ x ∈ s.ks, x.may = true := by
  unfold PS.may at h
  simp only [Bool.and_eq_true, decide_eq_true_eq, List.all_eq_true] at h
  exact ⟨h.1.1.1, h.1.1.2, h.1.2, h.2⟩
/-- The script of a script's bytes. -/
theorem bytes_read {s : PS} (h : (bytesP s).2 = 0) : readP (bytesP s).1 = (s, 0) := by
  unfold bytesP at h ⊢
  by_cases hm : s.may = true
  · rw [if_pos hm]
    obtain ⟨h1, h2, h3, h4⟩ := may_parts hm
    obtain ⟨k1, k2⟩ := picks_of s.ks h4
    unfold readP
    simp only
    rw [if_neg (by rw [List.length_append, head_len]; omega), cfg_head h1, if_neg (by rw [h1]; simp)]
    rw [show (headP s.c ++ (s.ps.flatMap textP ++ s.ks.flatMap PK.bytes)).drop 13 = s.ps.flatMap textP ++ s.ks.flatMap PK.bytes from List.drop_left' (head_len s.c)]
    rw [show s.c.cores.toNat = s.ps.length by omega, progs_of s.c s.ps _ [] h3]
    simp only [List.nil_append]
    rw [if_neg (by omega), k1]
  · rw [if_neg hm] at h; cases h
/-- The bytes of a bytes' script. -/
theorem read_bytes {b : List UInt8} (h : (readP b).2 = 0) : bytesP (readP b).1 = (b, 0) ∧ (readP b).1.may = true := by
  unfold readP at h ⊢
  by_cases h1 : b.length < 13
  · rw [if_pos h1] at h; cases h
  rw [if_neg h1] at h ⊢
  by_cases h2 : (cfgP b).ok = false
  · rw [if_pos h2] at h; cases h
  rw [if_neg h2] at h ⊢
  have h2' : (cfgP b).ok = true := by simpa using h2
  cases hp : progsR (cfgP b) (cfgP b).cores.toNat (b.drop 13) [] with
  | error e =>
    rw [hp] at h
    simp only at h
    exact absurd h (progs_err hp)
  | ok p =>
    obtain ⟨ps, r⟩ := p
    rw [hp] at h
    simp only at h ⊢
    by_cases h3 : r.length % 3 ≠ 0
    · rw [if_pos h3] at h; cases h
    rw [if_neg h3] at h ⊢
    obtain ⟨ps', e1, e2, e3, e4⟩ := progs_back _ _ _ _ _ _ hp
    rw [List.nil_append] at e1
    subst e1
    obtain ⟨k1, k2⟩ := picks_back (r := r) (by omega)
    obtain ⟨⟨c0, c1⟩, _⟩ := ok_all h2'
    have hm : (⟨cfgP b, ps, picksR r⟩ : PS).may = true := by
      unfold PS.may
      simp only [Bool.and_eq_true, decide_eq_true_eq, List.all_eq_true]
      exact ⟨⟨⟨h2', by omega⟩, e3⟩, k2⟩
    refine ⟨?_, hm⟩
    unfold bytesP
    rw [if_pos hm]
    simp only
    rw [k1, e4, head_cfg h1 h2']
/-- Three bytes more. -/
theorem read_more {b : List UInt8} (h : (readP b).2 = 0) (x y z : UInt8) :
    readP (b ++ [x, y, z]) = (⟨(readP b).1.c, (readP b).1.ps, (readP b).1.ks ++ [⟨x.toNat, y.toNat, z.toNat⟩]⟩, 0) ∧ (readP (b ++ [x])).2 = 3 ∧ (readP (b ++ [x, y])).2 = 3 := by
  have hcfg : ∀ u : List UInt8, ¬ b.length < 13 → cfgP (b ++ u) = cfgP b := by
    intro u hl
    obtain ⟨x0, x1, x2, x3, x4, x5, x6, x7, x8, x9, x10, x11, x12, r, rfl⟩ := thirteen hl
    unfold cfgP
    simp only [List.cons_append, List.getD_cons_zero, List.getD_cons_succ]
  unfold readP at h
  by_cases h1 : b.length < 13
  · rw [if_pos h1] at h; cases h
  rw [if_neg h1] at h
  by_cases h2 : (cfgP b).ok = false
  · rw [if_pos h2] at h; cases h
  rw [if_neg h2] at h
  cases hp : progsR (cfgP b) (cfgP b).cores.toNat (b.drop 13) [] with
  | error e =>
    rw [hp] at h
    simp only at h
    exact absurd h (progs_err hp)
  | ok p =>
    obtain ⟨ps, r⟩ := p
    rw [hp] at h
    simp only at h
    by_cases h3 : r.length % 3 ≠ 0
    · rw [if_pos h3] at h; cases h
    have hb : readP b = (⟨cfgP b, ps, picksR r⟩, 0) := by
      unfold readP
      rw [if_neg h1, if_neg h2, hp]
      simp only
      rw [if_neg h3]
    have hr : ∀ u : List UInt8, readP (b ++ u) = if (r ++ u).length % 3 ≠ 0 then (noPS, 3) else (⟨cfgP b, ps, picksR (r ++ u)⟩, 0) := by
      intro u
      unfold readP
      rw [if_neg (by rw [List.length_append]; omega), hcfg u h1, if_neg h2, List.drop_append_of_le_length (by omega), progs_more _ u _ _ _ _ _ hp]
    refine ⟨?_, ?_, ?_⟩
    · rw [hr, hb, if_neg (by rw [List.length_append]; simp; omega), picks_more (by omega)]
    · rw [hr, if_pos (by rw [List.length_append]; simp; omega)]
    · rw [hr, if_pos (by rw [List.length_append]; simp; omega)]
theorem read_err {b : List UInt8} (h : (readP b).2 ≠ 0) : (readP b).1 = noPS := by
  unfold readP at h ⊢
  by_cases h1 : b.length < 13
  · rw [if_pos h1]
  rw [if_neg h1] at h ⊢
  by_cases h2 : (cfgP b).ok = false
  · rw [if_pos h2]
  rw [if_neg h2] at h ⊢
  cases hp : progsR (cfgP b) (cfgP b).cores.toNat (b.drop 13) [] with
  | error e => rfl
  | ok p =>
    obtain ⟨ps, r⟩ := p
    rw [hp] at h
    simp only at h ⊢
    by_cases h3 : r.length % 3 ≠ 0
    · rw [if_pos h3]
    · rw [if_neg h3] at h; exact absurd rfl h
theorem bytes_err {s : PS} (h : (bytesP s).2 ≠ 0) : (bytesP s).1 = [] := by
  unfold bytesP at h ⊢
  split
  · rename_i hm
    rw [if_pos hm] at h; exact absurd rfl h
  · rfl
end Go.Proofs.YtfjeheioglmalaaDoor
