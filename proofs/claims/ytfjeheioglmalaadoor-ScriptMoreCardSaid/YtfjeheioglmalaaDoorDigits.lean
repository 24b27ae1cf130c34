/- The reference's 'digits'. -/
import Derived.Test.YtfjeheioglmalaaDoorSame
namespace Go.Proofs.YtfjeheioglmalaaDoor
open Go.RowKit
theorem digFold_bound (l : List UInt8) : ∀ (n : Int) (p : Nat), -(23 * (p : Int) - 23) ≤ n → n ≤ 23 * (p : Int) - 23 → 1 ≤ p → -(23 * ((p * 10 ^ l.length : Nat) : Int) - 23) ≤ digFold n l ∧ digFold n l ≤ 23 * ((p * 10 ^ l.length : Nat) : Int) - 23 := by
  induction l with
  | nil => intro n p h1 h2 h3; simp only [List.length_nil, Nat.pow_zero, Nat.mul_one, digFold]; omega
  | cons c l ih =>
    intro n p h1 h2 h3
    have hc : c.toNat < 256 := c.toNat_lt
    have := ih (10 * n + ((c.toNat : Int) - 48)) (p * 10) (by omega) (by omega) (by omega)
    simp only [digFold, List.length_cons]
    rw [Nat.pow_succ, Nat.mul_comm (10 ^ l.length) 10, ← Nat.mul_assoc]
    exact this
theorem digFold_take (l : List UInt8) (k : Nat) (c : UInt8) (h : l[k]? = some c) : digFold 0 (l.take (k + 1)) = 10 * digFold 0 (l.take k) + ((c.toNat : Int) - 48) := by
  rw [List.take_add_one, h, digFold_append]
  rfl
theorem digFold_small (l : List UInt8) (k : Nat) (hk : k ≤ 12) : -23000000000000 ≤ digFold 0 (l.take k) ∧ digFold 0 (l.take k) ≤ 23000000000000 := by
  have h := digFold_bound (l.take k) 0 1 (by decide) (by decide) (by decide)
  have hl : (l.take k).length ≤ 12 := by simp; omega
  have hp : 10 ^ (l.take k).length ≤ 10 ^ 12 := Nat.pow_le_pow_right (by decide) hl
  rw [Nat.one_mul] at h
  generalize 10 ^ (l.take k).length = p at h hp
  omega
theorem byte_at {l : List UInt8} {k : Nat} {c : UInt8} (h : l[k]? = some c) (hk : k < (ByteArray.mk l.toArray).size) : (ByteArray.mk l.toArray)[k]'hk = c := by
  obtain ⟨h1, h2⟩ := List.getElem?_eq_some_iff.1 h
  rw [← h2]
  rfl
set_option maxRecDepth 100000 in
theorem digits_walk (l : List UInt8) (hl : l.length ≤ 5000) (w : World) : Calls Tryd.prog 49 #[.string ⟨l.toArray⟩] w fun e w' => e = .returned (.int .i64 (digitsP l)) ∧ w' = w := by
  have hsz : (ByteArray.mk l.toArray).size = l.length := by simp [ByteArray.size]
  go_enter Tryd.func49, Tryd.ntmps49
  go_wp2_with fail
  go_loop [3, 4] (fun a v => ∃ k : Nat, v = .int .i64 k ∧ a = .int .i64 (digFold 0 (l.take k)) ∧ k ≤ l.length ∧ k ≤ 12) (fun _ v => 12 - (intOf v).toNat)
  case atStart => exact ⟨0, rfl, rfl, by omega, by omega⟩
  case round =>
    obtain ⟨k, rfl, rfl, hk, hk12⟩ := hrel
    by_cases hlt : k < l.length
    · by_cases h12 : k < 12
      · obtain ⟨c, hc⟩ : ∃ c, l[k]? = some c := ⟨_, List.getElem?_eq_getElem hlt⟩
        have ht := digFold_take l k c hc
        have hb := digFold_small l k hk12
        have hcn : c.toNat < 256 := c.toNat_lt
        obtain ⟨n, hn⟩ : ∃ n, digFold 0 (l.take k) = n := ⟨_, rfl⟩
        rw [hn] at ht hb
        rw [hn]
        have HT := Lib.hid ht
        have HC := Lib.hid hc
        clear ht hc hn
        go_wp2_with fail
        go_round
        case rel =>
          refine ⟨k + 1, by go_num, ?_, by omega, by omega⟩
          rw [HT.out]
          have := byte_at HC.out (by rw [hsz]; exact hlt)
          rw [this, IntWalk.wrap64_in (c.toNat : Int) (by omega), IntWalk.wrap64_in (10 * n + (c.toNat : Int)) (by omega), IntWalk.wrap64_in _ (by omega)]
          congr 1
          omega
        case measure => simp [intOf]; omega
      · go_wp2_with fail
        go_ret
        have e : k = 12 := by omega
        subst e
        exact ⟨rfl, rfl⟩
    · go_wp2_with fail
      go_ret
      have e : k = l.length := by omega
      refine ⟨?_, rfl⟩
      unfold digitsP
      rw [List.take_of_length_le (i := 12) (by omega), e, List.take_length]
      rfl
end Go.Proofs.YtfjeheioglmalaaDoor
