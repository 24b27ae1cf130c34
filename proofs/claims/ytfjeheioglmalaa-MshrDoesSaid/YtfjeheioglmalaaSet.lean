/- Maps of ints to bools that hold true alone: sets. What a look-up, a store, a delete and len come to. -/
import Derived.Test.YtfjeheioglmalaaOnce
import Derived.MapKept
namespace Go.Proofs.Ytfjeheioglmalaa
open Go.RowKit

/-- The object is a map whose keys are S, in order, each with true. -/
def SetObj (S : List Int) (o : Obj) : Prop := ∃ (es : Array MapEntry) (clk : Nat), o = .map es clk ∧ es.toList.map (fun e => (e.key, e.val)) = S.map fun n => (Value.int .i64 n, Value.bool true)
theorem SetObj.new : SetObj [] (.map #[] 0) := ⟨#[], 0, rfl, rfl⟩
theorem find_set (n : Int) : ∀ (S : List Int) (es : List MapEntry) (i : Nat), es.map (fun e => (e.key, e.val)) = S.map (fun n => (Value.int .i64 n, Value.bool true)) →
    Instr.findNow (.int .i64) (.int .i64 n) es i = some (match S.findIdx? (· == n) with | some j => some (i + j, Value.bool true) | none => none)
  | [], [], i, _ => rfl
  | [], e :: es, i, h => by cases h
  | k :: S, [], i, h => by cases h
  | k :: S, e :: es, i, h => by
    simp only [List.map_cons, List.cons.injEq, Prod.mk.injEq] at h
    obtain ⟨⟨h1, h2⟩, h3⟩ := h
    have ih := find_set n S es (i + 1) h3
    rw [List.findIdx?_cons]
    by_cases hk : k = n
    · subst hk
      simp [Instr.findNow, h1, h2, Instr.sameNow]
    · have hk2 : (n == k) = false := by simpa using fun e => hk e.symm
      have hk3 : (k == n) = false := by simpa using hk
      simp only [Instr.findNow, h1, Instr.sameNow, hk2, hk3, if_true]
      rw [ih]
      cases S.findIdx? (· == n) with
      | none => rfl
      | some j => simp; omega
theorem find_eq {S : List Int} {n : Int} {j : Nat} (h : S.findIdx? (· == n) = some j) : S.contains n = true ∧ S[j]? = some n := by
  obtain ⟨hj, h1, _⟩ := List.findIdx?_eq_some_iff_getElem.1 h
  have e1 : S[j] = n := by simpa using h1
  refine ⟨by rw [← e1]; simp, by rw [List.getElem?_eq_getElem hj, e1]⟩
theorem find_no {S : List Int} {n : Int} (h : S.findIdx? (· == n) = none) : S.contains n = false := by
  rw [Bool.eq_false_iff]
  intro hc
  have := List.findIdx?_eq_none_iff.1 h n (by simpa using hc)
  simp at this
theorem erase_find {S : List Int} {n : Int} {j : Nat} (h : S.findIdx? (· == n) = some j) : S.erase n = S.eraseIdx j := by
  induction S generalizing j with
  | nil => simp at h
  | cons k S ih =>
    rw [List.findIdx?_cons] at h
    by_cases hk : k = n
    · subst hk
      simp at h
      subst h
      simp
    · have hk2 : (k == n) = false := by simpa using hk
      rw [hk2] at h
      simp only [Bool.false_eq_true, if_false, Option.map_eq_some_iff] at h
      obtain ⟨i, hi, rfl⟩ := h
      rw [List.erase_cons_tail (by simpa using hk), List.eraseIdx_cons_succ, ih hi]
def putObj (w : World) (b : Nat) (o : Obj) : World := { w with heap := w.heap.setIfInBounds b o }
theorem putObj_chg {w : World} {b : Nat} {o o' : Obj} (hb : w.heap[b]? = some o) : (putObj w b o').heap[b]? = some o' ∧ Chg (· = b) w (putObj w b o') := by
  obtain ⟨h1, h2⟩ := MapKept.heap_set (o' := o') hb
  exact ⟨h1, rfl, rfl, rfl, by simp [putObj], fun k _ hk => h2 k hk⟩
section
variable {P : Program} {t kt et : TypeId} (ht : P.underlying t = some (.map kt et)) (hk : P.underlying kt = some (.int .i64)) {w : World} {b : Nat} {o : Obj} {S : List Int} (hb : w.heap[b]? = some o) (ho : SetObj S o)
include hk in
omit hb ho ht in
theorem run_check_set (m : Bool) (n : Int) : (Instr.checkKey m 10000 kt (.int .i64 n)).run P w = .ok () w := MapKept.run_checkKey hk (by simp [MapKept.IsKey]) m 9999
include ht hk hb ho
theorem run_lookup_set (hz : ∀ w, (zeroValue et).run P w = .ok (.bool false) w) (n : Int) : (Instr.lookup t (.map (some b)) (.int .i64 n) false).run P w = .ok (.bool (S.contains n)) w := by
  obtain ⟨es, clk, rfl, he⟩ := ho
  have hf := find_set n S es.toList 0 he
  simp only [Nat.zero_add] at hf
  have hf2 := MapKept.run_findKey (P := P) (w := w) hk hf
  simp only [Instr.lookup, Sem.run_bind, run_underlying ht, Result.andThen_ok, MapKept.run_getObj_map hb, Sem.run_pure, run_check_set hk, hf2]
  cases hx : S.findIdx? (· == n) with
  | none => rw [find_no hx]; simp [hz]
  | some j => rw [(find_eq hx).1]; simp
theorem run_update_set (n : Int) : ∃ o', SetObj (ins S n) o' ∧ (Instr.mapUpdate t (.map (some b)) (.int .i64 n) (.bool true)).run P w = .ok () (putObj w b o') := by
  obtain ⟨es, clk, rfl, he⟩ := ho
  have hf := find_set n S es.toList 0 he
  simp only [Nat.zero_add] at hf
  have hf2 := MapKept.run_findKey (P := P) (w := w) hk hf
  simp only [Instr.mapUpdate, Sem.run_bind, run_underlying ht, Result.andThen_ok, MapKept.run_getObj_map hb, run_check_set hk, hf2]
  cases hx : S.findIdx? (· == n) with
  | none =>
    refine ⟨.map (es.push { key := .int .i64 n, val := .bool true, born := clk }) (clk + 1), ⟨_, _, rfl, ?_⟩, ?_⟩
    · unfold ins
      rw [find_no hx]
      simp [he]
    · simp [MapKept.run_setObj_map _ hb, putObj]
  | some j =>
    obtain ⟨hc, hj⟩ := find_eq hx
    have hlen : es.toList.length = S.length := by have := congrArg List.length he; simpa using this
    have hj1 : j < S.length := (List.getElem?_eq_some_iff.1 hj).1
    have hje : j < es.size := by have : es.toList.length = es.size := Array.length_toList; omega
    have hkv : es[j].key = .int .i64 n ∧ es[j].val = .bool true := by
      have h1 := congrArg (fun l => l[j]?) he
      simp only [List.getElem?_map, hj, Option.map_some] at h1
      rw [List.getElem?_eq_getElem (by simpa using hje)] at h1
      simp at h1
      exact h1
    refine ⟨.map (es.modify j fun e => { e with key := .int .i64 n, val := .bool true }) clk, ⟨_, _, rfl, ?_⟩, ?_⟩
    · unfold ins
      rw [hc, if_pos rfl, ← he]
      apply List.ext_getElem?
      intro i
      simp only [List.getElem?_map, Array.toList_modify, List.getElem?_modify]
      by_cases hi : j = i
      · subst hi
        rw [List.getElem?_eq_getElem (by simpa using hje)]
        simp [hkv.1, hkv.2]
      · simp [hi]
    · have hk2 : (Instr.keyThatStays (.int .i64 n) (.int .i64 n)).run P w = .ok (.int .i64 n) w := by simp [Instr.keyThatStays, Instr.sameBits]
      simp [Array.getElem?_eq_getElem hje, hkv.1, hk2, MapKept.run_setObj_map _ hb, putObj]
theorem run_delete_set (n : Int) (ty tk : TypeId) : ∃ o', SetObj (S.erase n) o' ∧ (Builtin.delete_ #[t, tk] ty #[.map (some b), .int .i64 n]).run P w = .ok (.tuple #[]) (putObj w b o') := by
  obtain ⟨es, clk, rfl, he⟩ := ho
  have hf := find_set n S es.toList 0 he
  simp only [Nat.zero_add] at hf
  have hf2 := MapKept.run_findKey (P := P) (w := w) hk hf
  cases hx : S.findIdx? (· == n) with
  | none =>
    refine ⟨.map es clk, ⟨_, _, rfl, ?_⟩, ?_⟩
    · rw [List.erase_of_not_mem (fun h => by have := find_no hx; rw [Bool.eq_false_iff] at this; exact this (by simpa using h))]
      exact he
    · simp only [hx] at hf2
      simp [Builtin.delete_, run_underlying ht, MapKept.run_getObj_map hb, run_check_set hk, hf2, MapKept.run_setObj_map _ hb, putObj]
  | some j =>
    refine ⟨.map (es.eraseIdxIfInBounds j) clk, ⟨_, _, rfl, ?_⟩, ?_⟩
    · rw [erase_find hx]
      simp only [Array.toList_eraseIdxIfInBounds]
      rw [List.eraseIdx_eq_take_drop_succ, List.eraseIdx_eq_take_drop_succ, List.map_append, List.map_append, List.map_take, List.map_drop, he, List.map_take, List.map_drop]
    · simp only [hx] at hf2
      simp [Builtin.delete_, run_underlying ht, MapKept.run_getObj_map hb, run_check_set hk, hf2, MapKept.run_setObj_map _ hb, putObj]
end
theorem run_len_set {P : Program} {t kt et : TypeId} (ht : P.underlying t = some (.map kt et)) {w : World} {b : Nat} {o : Obj} {S : List Int} (hb : w.heap[b]? = some o) (ho : SetObj S o) (ty : TypeId) : (Builtin.len_ #[t] ty #[.map (some b)]).run P w = .ok (.int .i64 S.length) w := by
  obtain ⟨es, clk, rfl, he⟩ := ho
  have hlen : es.size = S.length := by have := congrArg List.length he; simpa using this
  simp [Builtin.len_, run_underlying ht, MapKept.run_getObj_map hb, goInt, hlen]
section
variable {P : Program} {ops : Array Oper} {rest : List Oper} {o : Oper} {a : Act} {Q : Exit → Act → World → Prop} {w : World}
theorem wpList_update_set (hg : o.guard = none) (t kt et : TypeId) (m x v : Operand) (hop : o.op = .mapUpdate t m x v) (ht : P.underlying t = some (.map kt et)) (hk : P.underlying kt = some (.int .i64)) (b : Nat) (ob : Obj) (S : List Int) (n : Int)
    (hm : a.eval m = .map (some b)) (hx : a.eval x = .int .i64 n) (hv : a.eval v = .bool true) (hb : w.heap[b]? = some ob) (ho : SetObj S ob)
    (h : ∀ w2 o', SetObj (ins S n) o' → w2.heap[b]? = some o' → Chg (· = b) w w2 → wpList P ops Q rest (a.put o.dst undef) w2) : wpList P ops Q (o :: rest) a w := by
  refine wpList_plain hg fun K hK => ?_
  obtain ⟨o', h1, h2⟩ := run_update_set ht hk hb ho n
  unfold Oper.wp
  simp [execOp, hop, hm, hx, hv, h2, Result.andThen]
  exact hK _ _ (h _ o' h1 (putObj_chg hb).1 (putObj_chg hb).2)
theorem wpList_delete_set (hg : o.guard = none) (t kt et : TypeId) (m x : Operand) (tk : TypeId) (hop : o.op = .call { callee := .builtin .delete, args := #[m, x], argTypes := #[t, tk] }) (ht : P.underlying t = some (.map kt et)) (hk : P.underlying kt = some (.int .i64)) (b : Nat) (ob : Obj) (S : List Int) (n : Int)
    (hm : a.eval m = .map (some b)) (hx : a.eval x = .int .i64 n) (hb : w.heap[b]? = some ob) (ho : SetObj S ob)
    (h : ∀ w2 o', SetObj (S.erase n) o' → w2.heap[b]? = some o' → Chg (· = b) w w2 → wpList P ops Q rest (a.put o.dst (.tuple #[])) w2) : wpList P ops Q (o :: rest) a w := by
  refine wpList_plain hg fun K hK => ?_
  obtain ⟨o', h1, h2⟩ := run_delete_set ht hk hb ho n o.type tk
  unfold Oper.wp
  simp [execOp, hop, resolve, invoke, builtin, hm, hx, h2, Result.andThen]
  exact hK _ _ (h _ o' h1 (putObj_chg hb).1 (putObj_chg hb).2)
end
end Go.Proofs.Ytfjeheioglmalaa
