/- Each operation of the reference file as the same plain function on the list of misses. -/
import Derived.Test.YtfjeheioglmalaaRef8
namespace Go.Proofs.Ytfjeheioglmalaa
open Go.RowKit
set_option linter.unusedSectionVars false
theorem rform_some {B fb : Nat} {sv : Value} {room : Int} {l : List Ms} {w : World} (hf : FileIs w 52 39 B fb sv room l) {i : Nat} {m : Ms} (hmi : l[i]? = some m) : ∃ g c, sv = .slice (some ⟨g, 0, none⟩) l.length c :=
  hf.form (by have := (List.getElem?_eq_some_iff.1 hmi).1; omega)
section
variable {B fb : Nat} {sv : Value} {room : Int} {l : List Ms} {t : Int} (w : World) (hm : l.length ≤ 1000) (hf : FileIs w 52 39 B fb sv room l) (hl : (l.length : Int) ≤ room) (he : ∀ m ∈ l, MOk t m) (ht : t ≤ 1000)
include hm hf hl he ht
theorem ropen_any (line kind : Int) (hB : B ≤ w.heap.size) :
    Calls Try.prog 22 #[.pointer (some ⟨fb, 0, none⟩), .int .i64 line, .int .i64 kind] w fun e w' => e = .returned (.int .i64 (sOpen room l line kind).1) ∧ Did 52 39 B fb sv room (sOpen room l line kind).2 w w' := by
  by_cases hk : kind ≠ 1 ∧ kind ≠ 2
  · have e : sOpen room l line kind = (1, l) := by unfold sOpen; rw [if_pos hk]
    rw [e]
    exact (ropen_arg line kind w hm hk.1 hk.2).mono fun _ _ ⟨h1, h2⟩ => ⟨h1, h2 ▸ Did.same hf (Below.refl _ _)⟩
  · have hk2 : kind = 1 ∨ kind = 2 := by omega
    cases hi : l.findIdx? (fun m => m.line == line) with
    | some i =>
      have e : sOpen room l line kind = (6, l) := by unfold sOpen; rw [if_neg hk, if_pos (by unfold sFind; rw [hi]; rfl)]
      rw [e]
      exact (ropen_twice line kind w hm hk2 hf hi).mono fun _ _ ⟨h1, h2⟩ => ⟨h1, h2 ▸ Did.same hf (Below.refl _ _)⟩
    | none =>
      by_cases hr : (l.length : Int) = room
      · have e : sOpen room l line kind = (4, l) := by unfold sOpen; rw [if_neg hk, if_neg (by unfold sFind; rw [hi]; simp), if_pos hr]
        rw [e]
        exact (ropen_full line kind w hm hk2 hf hi (by omega)).mono fun _ _ ⟨h1, h2⟩ => ⟨h1, Did.same hf h2⟩
      · have e : sOpen room l line kind = (0, l ++ [Ms.new line kind]) := by unfold sOpen; rw [if_neg hk, if_neg (by unfold sFind; rw [hi]; simp), if_neg hr]
        rw [e]
        exact ropen_ok line kind w hm hB hk2 hf hi (by omega)
theorem rdata_any (line acks own : Int) (x : W8) :
    Calls Try.prog 23 #[.pointer (some ⟨fb, 0, none⟩), .int .i64 line, .int .i64 acks, .int .i64 own, x.val] w fun e w' => e = .returned (.int .i64 (sData l line acks own x).1) ∧ Did 52 39 B fb sv room (sData l line acks own x).2 w w' := by
  unfold sData
  cases hi : l.findIdx? (fun m => m.line == line) with
  | none =>
    rw [sOn_none hi]
    exact (rdata_none line acks own x w hm hf hi).mono fun _ _ ⟨h1, h2⟩ => ⟨h1, Did.same hf h2⟩
  | some i =>
    obtain ⟨m, hmi, _⟩ := findIdx_get hi
    obtain ⟨g, c, rfl⟩ := rform_some hf hmi
    have hk := he m (List.mem_of_getElem? hmi)
    by_cases hb : fitsB m acks own = true
    · have e : fData acks own x m = (0, m.filled acks own x) := by unfold fData; rw [if_pos hb]
      rw [sOn_ok hi hmi (by rw [e]), e]
      exact (rdata_yes line acks own x w hm hf hi hmi hk ((fits_iff hk acks own).1 hb)).mono fun _ _ ⟨h1, h2⟩ => ⟨h1, Kept.did h2⟩
    · have e : fData acks own x m = (7, m) := by unfold fData; rw [if_neg hb]
      rw [sOn_err hi hmi (by rw [e]; show (7 : Int) ≠ 0; decide), e]
      exact (rdata_no line acks own x w hm hf hi hmi hk (fun h => hb ((fits_iff hk acks own).2 h))).mono fun _ _ ⟨h1, h2⟩ => ⟨h1, Did.same hf h2⟩
theorem rgrant_any (line acks : Int) :
    Calls Try.prog 24 #[.pointer (some ⟨fb, 0, none⟩), .int .i64 line, .int .i64 acks] w fun e w' => e = .returned (.int .i64 (sGrant l line acks).1) ∧ Did 52 39 B fb sv room (sGrant l line acks).2 w w' := by
  unfold sGrant
  cases hi : l.findIdx? (fun m => m.line == line) with
  | none =>
    rw [sOn_none hi]
    exact (rgrant_none line acks w hm hf hi).mono fun _ _ ⟨h1, h2⟩ => ⟨h1, Did.same hf h2⟩
  | some i =>
    obtain ⟨m, hmi, _⟩ := findIdx_get hi
    obtain ⟨g, c, rfl⟩ := rform_some hf hmi
    have hk := he m (List.mem_of_getElem? hmi)
    by_cases hb : fitsB m acks 4 = true
    · have e : fGrant acks m = (0, { m.filled acks 4 W8.zero with granted := true }) := by unfold fGrant; rw [if_pos hb]
      rw [sOn_ok hi hmi (by rw [e]), e]
      exact (rgrant_yes line acks w hm hf hi hmi hk ((fits_iff hk acks 4).1 hb)).mono fun _ _ ⟨h1, h2⟩ => ⟨h1, Kept.did h2⟩
    · have e : fGrant acks m = (7, m) := by unfold fGrant; rw [if_neg hb]
      rw [sOn_err hi hmi (by rw [e]; show (7 : Int) ≠ 0; decide), e]
      exact (rgrant_no line acks w hm hf hi hmi hk (fun h => hb ((fits_iff hk acks 4).2 h))).mono fun _ _ ⟨h1, h2⟩ => ⟨h1, Did.same hf h2⟩
theorem rack_any (line : Int) :
    Calls Try.prog 25 #[.pointer (some ⟨fb, 0, none⟩), .int .i64 line] w fun e w' => e = .returned (.int .i64 (sAck l line).1) ∧ Did 52 39 B fb sv room (sAck l line).2 w w' := by
  unfold sAck
  cases hi : l.findIdx? (fun m => m.line == line) with
  | none =>
    rw [sOn_none hi]
    exact (rack_none line w hm hf hi).mono fun _ _ ⟨h1, h2⟩ => ⟨h1, h2 ▸ Did.same hf (Below.refl _ _)⟩
  | some i =>
    obtain ⟨m, hmi, _⟩ := findIdx_get hi
    obtain ⟨g, c, rfl⟩ := rform_some hf hmi
    have hk := he m (List.mem_of_getElem? hmi)
    have h1 := hk.kind
    have h2 := hk.got0
    have h3 := hk.needs
    have h4 := hk.gott
    by_cases hb : m.kind = 1 ∨ m.needs = m.got
    · have e : fAck m = (7, m) := by unfold fAck; rw [if_pos hb]
      rw [sOn_err hi hmi (by rw [e]; show (7 : Int) ≠ 0; decide), e]
      exact (rack_table line w hm hf hi hmi (by omega)).mono fun _ _ ⟨h1, h2⟩ => ⟨h1, Did.same hf h2⟩
    · have e : fAck m = (0, { m with got := m.got + 1 }) := by unfold fAck; rw [if_neg hb]
      rw [sOn_ok hi hmi (by rw [e]), e]
      exact (rack_ok line w hm hf hi hmi (by omega) (by omega) h2 (by omega)).mono fun _ _ ⟨h1, h2⟩ => ⟨h1, Kept.did h2⟩
theorem rowe_any (line : Int) :
    Calls Try.prog 26 #[.pointer (some ⟨fb, 0, none⟩), .int .i64 line] w fun e w' => e = .returned (.tuple #[(sOwe l line).1.1.val, .bool (sOwe l line).1.2]) ∧ Did 52 39 B fb sv room (sOwe l line).2 w w' := by
  cases hi : l.findIdx? (fun m => m.line == line) with
  | none =>
    have e : sOwe l line = ((Ms.zero, false), l) := by unfold sOwe sFind; rw [hi]
    rw [e]
    exact (rowe_none line w hm hf hi).mono fun _ _ ⟨h1, h2⟩ => ⟨h1, Did.same hf h2⟩
  | some i =>
    obtain ⟨m, hmi, _⟩ := findIdx_get hi
    obtain ⟨g, c, rfl⟩ := rform_some hf hmi
    have hk := he m (List.mem_of_getElem? hmi)
    have h1 := hk.kind
    have h2 := hk.got0
    have h3 := hk.needs
    by_cases hb : m.owes = true ∨ m.needs ≠ m.got
    · have e : sOwe l line = ((Ms.zero, false), l) := by unfold sOwe sFind; rw [hi]; simp only []; rw [getD_of hmi, if_pos hb]
      rw [e]
      exact (rowe_no line w hm hf hi hmi (hb.imp id .inr)).mono fun _ _ ⟨h1, h2⟩ => ⟨h1, Did.same hf h2⟩
    · have e : sOwe l line = ((m, true), l.set i { m with owes := true }) := by unfold sOwe sFind; rw [hi]; simp only []; rw [getD_of hmi, if_neg hb]
      rw [e]
      have o1 : m.owes = false := by cases h : m.owes; rfl; exact absurd (.inl h) hb
      have o2 : m.needs = m.got := Classical.byContradiction fun h => hb (.inr h)
      exact (rowe_yes line w hm hf hi hmi o1 o2 (by omega)).mono fun _ _ ⟨h1, h2⟩ => ⟨h1, Kept.did h2⟩
theorem rclose_any (line : Int) (hB : B ≤ w.heap.size) :
    Calls Try.prog 27 #[.pointer (some ⟨fb, 0, none⟩), .int .i64 line] w fun e w' => e = .returned (.int .i64 (sClose l line).1) ∧ Did 52 39 B fb sv room (sClose l line).2 w w' := by
  cases hi : l.findIdx? (fun m => m.line == line) with
  | none =>
    have e : sClose l line = (5, l) := by unfold sClose sFind; rw [hi]
    rw [e]
    exact (rclose_none line w hm hf hi).mono fun _ _ ⟨h1, h2⟩ => ⟨h1, h2 ▸ Did.same hf (Below.refl _ _)⟩
  | some i =>
    obtain ⟨m, hmi, _⟩ := findIdx_get hi
    obtain ⟨g, c, rfl⟩ := rform_some hf hmi
    cases ho : m.owes
    · have e : sClose l line = (7, l) := by unfold sClose sFind; rw [hi]; simp only []; rw [getD_of hmi, if_neg (by simp [ho])]
      rw [e]
      exact (rclose_table line w hm hf hi hmi ho).mono fun _ _ ⟨h1, h2⟩ => ⟨h1, h2 ▸ Did.same hf (Below.refl _ _)⟩
    · have e : sClose l line = (0, l.eraseIdx i) := by unfold sClose sFind; rw [hi]; simp only []; rw [getD_of hmi, if_pos ho]
      rw [e]
      exact rclose_ok line w hm hf hi hmi hB ho
theorem rget_any (line : Int) :
    Calls Try.prog 14 #[.pointer (some ⟨fb, 0, none⟩), .int .i64 line] w fun e w' => e = .returned (.tuple #[(sGet l line).1.val, .bool (sGet l line).2]) ∧ Below w.heap.size w w' := by
  cases hi : l.findIdx? (fun m => m.line == line) with
  | none =>
    have e : sGet l line = (Ms.zero, false) := by unfold sGet sFind; rw [hi]
    rw [e]
    exact rget_none line w hm hf hi
  | some i =>
    obtain ⟨m, hmi, _⟩ := findIdx_get hi
    obtain ⟨g, c, rfl⟩ := rform_some hf hmi
    have e : sGet l line = (m, true) := by unfold sGet sFind; rw [hi]; simp only []; rw [getD_of hmi]
    rw [e]
    exact rget_some line w hm hf hi hmi
end
end Go.Proofs.Ytfjeheioglmalaa
