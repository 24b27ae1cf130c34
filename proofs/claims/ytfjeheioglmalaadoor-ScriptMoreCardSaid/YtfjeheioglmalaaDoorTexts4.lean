/- take: n bytes of what is left. texted: a text with its length ahead. -/
import Derived.Test.YtfjeheioglmalaaDoorSmall4
import Derived.Test.YtfjeheioglmalaaDoorScan
namespace Go.Proofs.YtfjeheioglmalaaDoor
open Go.RowKit Go.Lib
set_option linter.unusedVariables false
set_option linter.unusedSimpArgs false
/-- The box of what is left. -/
def Left (w : World) (g : Nat) (r : List UInt8) : Prop := w.heap[g]? = some (.cells #[.string ⟨r.toArray⟩] 9 (0, 0))
theorem slice_to (l : List UInt8) (i : Nat) (h : i ≤ l.length) (w : World) : (Instr.slice 9 (.string ⟨l.toArray⟩) none (some (.int .i64 (i : Int))) none).run Tryd.prog w = .ok (.string ⟨(l.take i).toArray⟩) w := by
  have hs : (ByteArray.mk l.toArray).size = l.length := by simp [ByteArray.size]
  rw [run_slice_string_to_if w 9 _ .i64 _ Tryd.underlying9, if_pos ⟨by omega, by omega⟩]
  have e1 : ((i : Int)).toNat = i := by omega
  rw [e1, ByteArray.extract_mk l 0 i]
  simp
set_option maxRecDepth 100000 in
theorem take_walk (n : Nat) (r : List UInt8) (hr : r.length ≤ 9223372036854775807) (g : Nat) (w : World) (hg : Left w g r) (hn : n ≤ 9223372036854775807) :
    Calls Tryd.prog 44 #[.int .i64 n, .pointer (some ⟨g, 0, none⟩)] w fun e w' =>
      match cutR n r with
      | .error c => e = .returned (.tuple #[.string ⟨#[]⟩, .int .i64 c]) ∧ w = w'
      | .ok (t, r') => e = .returned (.tuple #[.string ⟨t.toArray⟩, .int .i64 0]) ∧ Left w' g r' ∧ w.grownBy w' (some g) := by
  have hsz : (ByteArray.mk r.toArray).size = r.length := by simp [ByteArray.size]
  have hcell : w.cell? ⟨g, 0, none⟩ = some (.string ⟨r.toArray⟩) := by rw [cell_of_row w g 0 _ 9 _ hg]; rfl
  have hfz : w.frozen? ⟨g, 0, none⟩ = false := frozen_of_row w g 0 _ _ hg
  unfold cutR
  by_cases h : r.length < n
  · have h' : (r.length : Int) < n := by omega
    rw [if_pos h]
    go_enter Tryd.func44, Tryd.ntmps44
    go_wp2_with fail
    go_ret2
    exact ⟨rfl, rfl⟩
  · have h' : ¬ (r.length : Int) < n := by omega
    rw [if_neg h]
    have s1 := slice_to r n (by omega) w
    have s2 := slice_e r n (by omega) w
    go_enter Tryd.func44, Tryd.ntmps44
    go_wp2_with fail
    go_ret2
    exact ⟨rfl, heap_setCell_same _ g 0 _ 9 _ hg, grown_set _ _ _ _⟩
end Go.Proofs.YtfjeheioglmalaaDoor
namespace Go.Proofs.YtfjeheioglmalaaDoor
open Go.RowKit Go.Lib
set_option linter.unusedVariables false
set_option linter.unusedSimpArgs false
theorem take_err (n : Nat) (r : List UInt8) (hr : r.length ≤ 9223372036854775807) (g : Nat) (w : World) (hg : Left w g r) (hn : n ≤ 9223372036854775807) (h : r.length < n) :
    Calls Tryd.prog 44 #[.int .i64 n, .pointer (some ⟨g, 0, none⟩)] w fun e w' => e = .returned (.tuple #[.string ⟨#[]⟩, .int .i64 3]) ∧ w = w' := by
  have := take_walk n r hr g w hg hn
  unfold cutR at this
  rwa [if_pos h] at this
theorem take_ok (n : Nat) (r : List UInt8) (hr : r.length ≤ 9223372036854775807) (g : Nat) (w : World) (hg : Left w g r) (hn : n ≤ 9223372036854775807) (h : ¬ r.length < n) :
    Calls Tryd.prog 44 #[.int .i64 n, .pointer (some ⟨g, 0, none⟩)] w fun e w' => e = .returned (.tuple #[.string ⟨(r.take n).toArray⟩, .int .i64 0]) ∧ Left w' g (r.drop n) ∧ w.grownBy w' (some g) := by
  have := take_walk n r hr g w hg hn
  unfold cutR at this
  rwa [if_neg h] at this
def TextPost (g : Nat) (r : List UInt8) (w : World) (e : Ending) (w' : World) : Prop :=
  w.grownBy w' (some g) ∧ match textR r with
    | .error c => e = .returned (.tuple #[.string ⟨#[]⟩, .int .i64 c])
    | .ok (t, r') => e = .returned (.tuple #[.string ⟨t.toArray⟩, .int .i64 0]) ∧ Left w' g r'
theorem one_at (n : UInt8) (h : 0 < (ByteArray.mk #[n]).size) : wrap64 (((ByteArray.mk #[n])[0]'h).toNat : Int) = n.toNat := IntWalk.wrap64_in _ (by
  have e : (ByteArray.mk #[n])[0]'h = n := rfl
  rw [e]
  have := n.toNat_lt
  omega)
theorem grown_more {a b c : World} {g : Nat} (h : a.grownBy b (some g)) (k : b.grownBy c (some g)) : a.grownBy c (some g) :=
  ⟨k.os.trans h.os, k.tape.trans h.tape, k.output.trans h.output, Nat.le_trans h.size k.size, fun j hj hn => (k.block j (by have := h.size; omega) hn).trans (h.block j hj hn)⟩
set_option maxRecDepth 100000 in
set_option maxHeartbeats 1000000 in
theorem texted_walk (r : List UInt8) (hr : r.length ≤ 9223372036854775807) (g : Nat) (w : World) (hg : Left w g r) :
    Calls Tryd.prog 45 #[.func (.func 44) #[] #[.pointer (some ⟨g, 0, none⟩)]] w (TextPost g r w) := by
  cases r with
  | nil =>
    have HT := Lib.hid (take_err 1 [] hr g w hg (by decide) (by decide))
    go_enter Tryd.func45, Tryd.ntmps45
    go_wp2_with fail
    refine HT.out.mono ?_
    rintro e w' ⟨rfl, rfl⟩
    go_wp2_with fail
    go_ret2
    exact ⟨grown_refl _ _, rfl⟩
  | cons n r1 =>
    have HT := Lib.hid (take_ok 1 (n :: r1) hr g w hg (by decide) (by simp))
    rw [show (n :: r1).take 1 = [n] from rfl, show (n :: r1).drop 1 = r1 from rfl] at HT
    have hr1 : r1.length ≤ 9223372036854775807 := by simp at hr; omega
    have hn : n.toNat < 256 := n.toNat_lt
    clear hg
    have e0 : ∀ h, (ByteArray.mk #[n])[0]'h = n := fun _ => rfl
    have w0 : wrap64 (n.toNat : Int) = n.toNat := IntWalk.wrap64_in _ (by omega)
    by_cases h1 : n.toNat < 128
    · have h1' : ¬ (128 : Int) ≤ n.toNat := by omega
      by_cases h2 : r1.length < n.toNat
      · have HP : Hid (textR (n :: r1) = .error 3) := by
          show textR (n :: r1) = .error 3
          simp only [textR, cutR]
          rw [if_pos h1, if_pos h2]
        go_enter Tryd.func45, Tryd.ntmps45
        go_wp2_with fail
        refine HT.out.mono ?_
        rintro e w1 ⟨rfl, hl, hg⟩
        have HL := Lib.hid hl
        have HG := Lib.hid hg
        clear hl hg
        go_wp2_with fail
        refine (take_err n.toNat r1 hr1 g _ HL.out (by omega) h2).mono ?_
        rintro e w2 ⟨rfl, rfl⟩
        go_wp2_with fail
        go_ret2
        exact ⟨HG.out, by rw [HP.out]; rfl⟩
      · have HP : Hid (textR (n :: r1) = .ok (r1.take n.toNat, r1.drop n.toNat)) := by
          show textR (n :: r1) = .ok (r1.take n.toNat, r1.drop n.toNat)
          simp only [textR, cutR]
          rw [if_pos h1, if_neg h2]
        go_enter Tryd.func45, Tryd.ntmps45
        go_wp2_with fail
        refine HT.out.mono ?_
        rintro e w1 ⟨rfl, hl, hg⟩
        have HL := Lib.hid hl
        have HG := Lib.hid hg
        clear hl hg
        go_wp2_with fail
        refine (take_ok n.toNat r1 hr1 g _ HL.out (by omega) h2).mono ?_
        rintro e w2 ⟨rfl, hl, hg⟩
        have HL2 := Lib.hid hl
        have HG2 := Lib.hid (grown_more HG.out hg)
        clear hl hg
        go_wp2_with fail
        go_ret2
        exact ⟨HG2.out, by rw [HP.out]; exact ⟨rfl, HL2.out⟩⟩
    · have h1' : (128 : Int) ≤ n.toNat := by omega
      cases r1 with
      | nil =>
        have HP : Hid (textR [n] = .error 3) := by
          show textR [n] = .error 3
          simp only [textR]
          rw [if_neg h1]
        go_enter Tryd.func45, Tryd.ntmps45
        go_wp2_with fail
        refine HT.out.mono ?_
        rintro e w1 ⟨rfl, hl, hg⟩
        have HL := Lib.hid hl
        have HG := Lib.hid hg
        clear hl hg
        go_wp2_with fail
        refine (take_err 1 [] hr1 g _ HL.out (by decide) (by decide)).mono ?_
        rintro e w2 ⟨rfl, rfl⟩
        go_wp2_with fail
        go_ret2
        exact ⟨HG.out, by rw [HP.out]; rfl⟩
      | cons m r2 =>
        have hm : m.toNat < 256 := m.toNat_lt
        have e1 : ∀ h, (ByteArray.mk #[m])[0]'h = m := fun _ => rfl
        have w1 : wrap64 (m.toNat : Int) = m.toNat := IntWalk.wrap64_in _ (by omega)
        have hr2 : r2.length ≤ 9223372036854775807 := by simp at hr1; omega
        have HTM := Lib.hid (fun W (h : Left W g (m :: r2)) => take_ok 1 (m :: r2) hr1 g W h (by decide) (by simp))
        rw [show (m :: r2).take 1 = [m] from rfl, show (m :: r2).drop 1 = r2 from rfl] at HTM
        have HPB : Hid (128 ≤ m.toNat ∨ n.toNat = 128 → textR (n :: m :: r2) = .error 2) := by
          intro h
          simp only [textR]
          rw [if_neg h1, if_pos h]
        have HPG : Hid (¬ (128 ≤ m.toNat ∨ n.toNat = 128) → textR (n :: m :: r2) = cutR ((n.toNat - 128) * 128 + m.toNat) r2) := by
          intro h
          simp only [textR]
          rw [if_neg h1, if_neg h]
        by_cases h3 : 128 ≤ m.toNat
        · have h3' : (128 : Int) ≤ m.toNat := by omega
          have hp := HPB.out (.inl h3)
          have HP := Lib.hid hp
          clear hp HPB HPG
          go_enter Tryd.func45, Tryd.ntmps45
          go_wp2_with fail
          refine HT.out.mono ?_
          rintro e w1 ⟨rfl, hl, hg⟩
          have HL := Lib.hid hl
          have HG := Lib.hid hg
          clear hl hg
          go_wp2_with fail
          refine (HTM.out _ HL.out).mono ?_
          rintro e w2 ⟨rfl, hl, hg⟩
          have HG2 := Lib.hid (grown_more HG.out hg)
          clear hl hg
          go_wp2_with fail
          go_ret2
          exact ⟨HG2.out, by rw [HP.out]; rfl⟩
        · have h3' : ¬ (128 : Int) ≤ m.toNat := by omega
          by_cases h4 : n.toNat = 128
          · have h4' : (n.toNat : Int) = 128 := by omega
            have hp := HPB.out (.inr h4)
            have HP := Lib.hid hp
            clear hp HPB HPG
            go_enter Tryd.func45, Tryd.ntmps45
            go_wp2_with fail
            refine HT.out.mono ?_
            rintro e w1 ⟨rfl, hl, hg⟩
            have HL := Lib.hid hl
            have HG := Lib.hid hg
            clear hl hg
            go_wp2_with fail
            refine (HTM.out _ HL.out).mono ?_
            rintro e w2 ⟨rfl, hl, hg⟩
            have HG2 := Lib.hid (grown_more HG.out hg)
            clear hl hg
            go_wp2_with fail
            go_ret2
            exact ⟨HG2.out, by rw [HP.out]; rfl⟩
          · have h4' : ¬ (n.toNat : Int) = 128 := by omega
            have hp := HPG.out (by omega)
            obtain ⟨K, hK⟩ : ∃ K : Nat, (n.toNat - 128) * 128 + m.toNat = K := ⟨_, rfl⟩
            rw [hK] at hp
            have hK2 : K ≤ 20000 := by omega
            have wa : wrap64 ((n.toNat : Int) - 128) = (n.toNat : Int) - 128 := IntWalk.wrap64_in _ (by omega)
            have wb : wrap64 (((n.toNat : Int) - 128) * 128) = ((n.toNat : Int) - 128) * 128 := IntWalk.wrap64_in _ (by omega)
            have wc : wrap64 (((n.toNat : Int) - 128) * 128 + (m.toNat : Int)) = ((n.toNat : Int) - 128) * 128 + (m.toNat : Int) := IntWalk.wrap64_in _ (by omega)
            have HKI := Lib.hid (show ((n.toNat : Int) - 128) * 128 + (m.toNat : Int) = (K : Int) by omega)
            have HP := Lib.hid hp
            clear hp HPB HPG hK
            by_cases h5 : r2.length < K
            · have HQ := HP.out
              unfold cutR at HQ
              rw [if_pos h5] at HQ
              have HR := Lib.hid HQ
              clear HQ HP
              go_enter Tryd.func45, Tryd.ntmps45
              go_wp2_with fail
              refine HT.out.mono ?_
              rintro e w1 ⟨rfl, hl, hg⟩
              have HL := Lib.hid hl
              have HG := Lib.hid hg
              clear hl hg
              go_wp2_with fail
              refine (HTM.out _ HL.out).mono ?_
              rintro e w2 ⟨rfl, hl, hg⟩
              have HL2 := Lib.hid hl
              have HG2 := Lib.hid (grown_more HG.out hg)
              clear hl hg
              go_wp2_with fail
              rw [HKI.out]
              refine (take_err K r2 hr2 g _ HL2.out (by omega) h5).mono ?_
              rintro e w3 ⟨rfl, rfl⟩
              go_wp2_with fail
              go_ret2
              exact ⟨HG2.out, by rw [HR.out]; rfl⟩
            · have HQ := HP.out
              unfold cutR at HQ
              rw [if_neg h5] at HQ
              have HR := Lib.hid HQ
              clear HQ HP
              go_enter Tryd.func45, Tryd.ntmps45
              go_wp2_with fail
              refine HT.out.mono ?_
              rintro e w1 ⟨rfl, hl, hg⟩
              have HL := Lib.hid hl
              have HG := Lib.hid hg
              clear hl hg
              go_wp2_with fail
              refine (HTM.out _ HL.out).mono ?_
              rintro e w2 ⟨rfl, hl, hg⟩
              have HL2 := Lib.hid hl
              have HG2 := Lib.hid (grown_more HG.out hg)
              clear hl hg
              go_wp2_with fail
              rw [HKI.out]
              refine (take_ok K r2 hr2 g _ HL2.out (by omega) h5).mono ?_
              rintro e w3 ⟨rfl, hl, hg⟩
              have HL3 := Lib.hid hl
              have HG3 := Lib.hid (grown_more HG2.out hg)
              clear hl hg
              go_wp2_with fail
              go_ret2
              exact ⟨HG3.out, by rw [HR.out]; exact ⟨rfl, HL3.out⟩⟩
end Go.Proofs.YtfjeheioglmalaaDoor
