/- Each operation of package mshr as a plain function on the list of misses, and one contract for each. -/
import Derived.Test.YtfjeheioglmalaaClose
namespace Go.Proofs.Ytfjeheioglmalaa
open Go.RowKit

def sFind (l : List Ms) (line : Int) : Option Nat := l.findIdx? (fun m => m.line == line)
def sOpen (room : Int) (l : List Ms) (line kind : Int) : Int × List Ms :=
  if kind ≠ 1 ∧ kind ≠ 2 then (1, l) else if (sFind l line).isSome then (6, l) else if (l.length : Int) = room then (4, l) else (0, l ++ [Ms.new line kind])
/-- What becomes of the miss of a line: an error, or another miss. -/
def sOn (l : List Ms) (line : Int) (f : Ms → Int × Ms) : Int × List Ms :=
  match sFind l line with
  | none => (5, l)
  | some i => if (f (l.getD i Ms.zero)).1 = 0 then (0, l.set i (f (l.getD i Ms.zero)).2) else ((f (l.getD i Ms.zero)).1, l)
def fData (acks own : Int) (x : W8) (m : Ms) : Int × Ms := if fitsB m acks own then (0, m.filled acks own x) else (7, m)
def fGrant (acks : Int) (m : Ms) : Int × Ms := if fitsB m acks 4 then (0, { m.filled acks 4 W8.zero with granted := true }) else (7, m)
def fAck (m : Ms) : Int × Ms := if m.kind = 1 ∨ m.needs = m.got then (7, m) else (0, { m with got := m.got + 1 })
def sData (l : List Ms) (line acks own : Int) (x : W8) : Int × List Ms := sOn l line (fData acks own x)
def sGrant (l : List Ms) (line acks : Int) : Int × List Ms := sOn l line (fGrant acks)
def sAck (l : List Ms) (line : Int) : Int × List Ms := sOn l line fAck
def sGet (l : List Ms) (line : Int) : Ms × Bool := match sFind l line with | none => (Ms.zero, false) | some i => (l.getD i Ms.zero, true)
def sOwing (l : List Ms) : Int × Bool := match l.findIdx? (fun m => m.owes) with | none => (0, false) | some i => ((l.getD i Ms.zero).line, true)
def sOwe (l : List Ms) (line : Int) : (Ms × Bool) × List Ms :=
  match sFind l line with
  | none => ((Ms.zero, false), l)
  | some i => if (l.getD i Ms.zero).owes = true ∨ (l.getD i Ms.zero).needs ≠ (l.getD i Ms.zero).got then ((Ms.zero, false), l) else ((l.getD i Ms.zero, true), l.set i { l.getD i Ms.zero with owes := true })
def sClose (l : List Ms) (line : Int) : Int × List Ms :=
  match sFind l line with
  | none => (5, l)
  | some i => if (l.getD i Ms.zero).owes = true then (0, l.eraseIdx i) else (7, l)

theorem getD_of {l : List Ms} {i : Nat} {m : Ms} (h : l[i]? = some m) : l.getD i Ms.zero = m := by simp [List.getD, h]
theorem sOn_none {l : List Ms} {line : Int} {f : Ms → Int × Ms} (h : l.findIdx? (fun m => m.line == line) = none) : sOn l line f = (5, l) := by unfold sOn sFind; rw [h]
theorem sOn_err {l : List Ms} {line : Int} {f : Ms → Int × Ms} {i : Nat} {m : Ms} (h : l.findIdx? (fun m => m.line == line) = some i) (hm : l[i]? = some m) (e : (f m).1 ≠ 0) : sOn l line f = ((f m).1, l) := by
  unfold sOn sFind; rw [h]; simp only []; rw [getD_of hm, if_neg e]
theorem sOn_ok {l : List Ms} {line : Int} {f : Ms → Int × Ms} {i : Nat} {m : Ms} (h : l.findIdx? (fun m => m.line == line) = some i) (hm : l[i]? = some m) (e : (f m).1 = 0) : sOn l line f = (0, l.set i (f m).2) := by
  unfold sOn sFind; rw [h]; simp only []; rw [getD_of hm, if_pos e]

theorem form_some {B fb : Nat} {sv : Value} {room : Int} {l : List Ms} {w : World} (hf : FileIs w 60 34 B fb sv room l) {i : Nat} {m : Ms} (hmi : l[i]? = some m) : ∃ g c, sv = .slice (some ⟨g, 0, none⟩) l.length c :=
  hf.form (by have := (List.getElem?_eq_some_iff.1 hmi).1; omega)
section
variable {B fb : Nat} {sv : Value} {room : Int} {l : List Ms} (w : World) (hm : l.length ≤ 1000) (hf : FileIs w 60 34 B fb sv room l)
include hm hf
theorem open_any (line kind : Int) (hB : B ≤ w.heap.size) :
    Calls Try.prog 16 #[.pointer (some ⟨fb, 0, none⟩), .int .i64 line, .int .i64 kind] w fun e w' => e = .returned (.int .i64 (sOpen room l line kind).1) ∧ Did 60 34 B fb sv room (sOpen room l line kind).2 w w' := by
  by_cases hk : kind ≠ 1 ∧ kind ≠ 2
  · have e : sOpen room l line kind = (1, l) := by unfold sOpen; rw [if_pos hk]
    rw [e]
    exact (open_arg line kind w hk.1 hk.2).mono fun _ _ ⟨h1, h2⟩ => ⟨h1, h2 ▸ Did.same hf (Below.refl _ _)⟩
  · have hk2 : kind = 1 ∨ kind = 2 := by omega
    cases hi : l.findIdx? (fun m => m.line == line) with
    | some i =>
      have e : sOpen room l line kind = (6, l) := by unfold sOpen; rw [if_neg hk, if_pos (by unfold sFind; rw [hi]; rfl)]
      rw [e]
      obtain ⟨m, hmi, _⟩ := findIdx_get hi
      obtain ⟨g, c, rfl⟩ := form_some hf hmi
      exact (open_twice line kind w hk2 hm hf hi).mono fun _ _ ⟨h1, h2⟩ => ⟨h1, Did.same hf h2⟩
    | none =>
      by_cases hr : (l.length : Int) = room
      · have e : sOpen room l line kind = (4, l) := by unfold sOpen; rw [if_neg hk, if_neg (by unfold sFind; rw [hi]; simp), if_pos hr]
        rw [e]
        exact (open_full line kind w hk2 hm hf hi hr).mono fun _ _ ⟨h1, h2⟩ => ⟨h1, Did.same hf h2⟩
      · have e : sOpen room l line kind = (0, l ++ [Ms.new line kind]) := by unfold sOpen; rw [if_neg hk, if_neg (by unfold sFind; rw [hi]; simp), if_neg hr]
        rw [e]
        exact open_ok line kind w hk2 hm hB hf hi hr
theorem data_any (line acks own : Int) (x : W8) :
    Calls Try.prog 19 #[.pointer (some ⟨fb, 0, none⟩), .int .i64 line, .int .i64 acks, .int .i64 own, x.val] w fun e w' => e = .returned (.int .i64 (sData l line acks own x).1) ∧ Did 60 34 B fb sv room (sData l line acks own x).2 w w' := by
  unfold sData
  cases hi : l.findIdx? (fun m => m.line == line) with
  | none =>
    rw [sOn_none hi]
    exact (data_none line acks own x w hm hf hi).mono fun _ _ ⟨h1, h2⟩ => ⟨h1, Did.same hf h2⟩
  | some i =>
    obtain ⟨m, hmi, _⟩ := findIdx_get hi
    obtain ⟨g, c, rfl⟩ := form_some hf hmi
    cases ht : fitsB m acks own
    · have e : fData acks own x m = (7, m) := by simp [fData, ht]
      rw [sOn_err hi hmi (by rw [e]; simp), e]
      exact (data_table line acks own x w hm hf hi hmi ht).mono fun _ _ ⟨h1, h2⟩ => ⟨h1, Did.same hf h2⟩
    · have e : fData acks own x m = (0, m.filled acks own x) := by simp [fData, ht]
      rw [sOn_ok hi hmi (by rw [e]), e]
      exact (data_ok line acks own x w hm hf hi hmi ht).mono fun _ _ ⟨h1, h2⟩ => ⟨h1, h2.did⟩
theorem grant_any (line acks : Int) :
    Calls Try.prog 18 #[.pointer (some ⟨fb, 0, none⟩), .int .i64 line, .int .i64 acks] w fun e w' => e = .returned (.int .i64 (sGrant l line acks).1) ∧ Did 60 34 B fb sv room (sGrant l line acks).2 w w' := by
  unfold sGrant
  cases hi : l.findIdx? (fun m => m.line == line) with
  | none =>
    rw [sOn_none hi]
    exact (grant_none line acks w hm hf hi).mono fun _ _ ⟨h1, h2⟩ => ⟨h1, Did.same hf h2⟩
  | some i =>
    obtain ⟨m, hmi, _⟩ := findIdx_get hi
    obtain ⟨g, c, rfl⟩ := form_some hf hmi
    cases ht : fitsB m acks 4
    · have e : fGrant acks m = (7, m) := by simp [fGrant, ht]
      rw [sOn_err hi hmi (by rw [e]; simp), e]
      exact (grant_table line acks w hm hf hi hmi ht).mono fun _ _ ⟨h1, h2⟩ => ⟨h1, Did.same hf h2⟩
    · have e : fGrant acks m = (0, { m.filled acks 4 W8.zero with granted := true }) := by simp [fGrant, ht]
      rw [sOn_ok hi hmi (by rw [e]), e]
      exact (grant_ok line acks w hm hf hi hmi ht).mono fun _ _ ⟨h1, h2⟩ => ⟨h1, h2.did⟩
theorem ack_any (line : Int) (hg : ∀ m ∈ l, 0 ≤ m.got ∧ m.got ≤ 1000) :
    Calls Try.prog 20 #[.pointer (some ⟨fb, 0, none⟩), .int .i64 line] w fun e w' => e = .returned (.int .i64 (sAck l line).1) ∧ Did 60 34 B fb sv room (sAck l line).2 w w' := by
  unfold sAck
  cases hi : l.findIdx? (fun m => m.line == line) with
  | none =>
    rw [sOn_none hi]
    exact (ack_none line w hm hf hi).mono fun _ _ ⟨h1, h2⟩ => ⟨h1, Did.same hf h2⟩
  | some i =>
    obtain ⟨m, hmi, _⟩ := findIdx_get hi
    obtain ⟨g, c, rfl⟩ := form_some hf hmi
    by_cases ht : m.kind = 1 ∨ m.needs = m.got
    · have e : fAck m = (7, m) := by simp [fAck, ht]
      rw [sOn_err hi hmi (by rw [e]; simp), e]
      exact (ack_table line w hm hf hi hmi ht).mono fun _ _ ⟨h1, h2⟩ => ⟨h1, Did.same hf h2⟩
    · have e : fAck m = (0, { m with got := m.got + 1 }) := by simp [fAck, ht]
      rw [sOn_ok hi hmi (by rw [e]), e]
      obtain ⟨g1, g2⟩ := hg m (List.mem_of_getElem? hmi)
      exact (ack_ok line w hm hf hi hmi (fun h => ht (.inl h)) (fun h => ht (.inr h)) g1 g2).mono fun _ _ ⟨h1, h2⟩ => ⟨h1, h2.did⟩
theorem owe_any (line : Int) :
    Calls Try.prog 17 #[.pointer (some ⟨fb, 0, none⟩), .int .i64 line] w fun e w' => e = .returned (.tuple #[(sOwe l line).1.1.val, .bool (sOwe l line).1.2]) ∧ Did 60 34 B fb sv room (sOwe l line).2 w w' := by
  cases hi : l.findIdx? (fun m => m.line == line) with
  | none =>
    have e : sOwe l line = ((Ms.zero, false), l) := by unfold sOwe sFind; rw [hi]
    rw [e]
    exact (owe_none line w hm hf hi).mono fun _ _ ⟨h1, h2⟩ => ⟨h1, Did.same hf h2⟩
  | some i =>
    obtain ⟨m, hmi, _⟩ := findIdx_get hi
    obtain ⟨g, c, rfl⟩ := form_some hf hmi
    by_cases ht : m.owes = true ∨ m.needs ≠ m.got
    · have e : sOwe l line = ((Ms.zero, false), l) := by unfold sOwe sFind; rw [hi]; simp only []; rw [getD_of hmi, if_pos ht]
      rw [e]
      exact (owe_no line w hm hf hi hmi ht).mono fun _ _ ⟨h1, h2⟩ => ⟨h1, Did.same hf h2⟩
    · have e : sOwe l line = ((m, true), l.set i { m with owes := true }) := by unfold sOwe sFind; rw [hi]; simp only []; rw [getD_of hmi, if_neg ht]
      rw [e]
      have h1 : m.owes = false := by simpa using fun h => ht (.inl h)
      have h2 : m.needs = m.got := Classical.byContradiction fun h => ht (.inr h)
      exact (owe_yes line w hm hf hi hmi h1 h2).mono fun _ _ ⟨h1, h2⟩ => ⟨h1, h2.did⟩
theorem close_any (line : Int) :
    Calls Try.prog 21 #[.pointer (some ⟨fb, 0, none⟩), .int .i64 line] w fun e w' => e = .returned (.int .i64 (sClose l line).1) ∧ Did 60 34 B fb sv room (sClose l line).2 w w' := by
  cases hi : l.findIdx? (fun m => m.line == line) with
  | none =>
    have e : sClose l line = (5, l) := by unfold sClose sFind; rw [hi]
    rw [e]
    exact (close_none line w hm hf hi).mono fun _ _ ⟨h1, h2⟩ => ⟨h1, Did.same hf h2⟩
  | some i =>
    obtain ⟨m, hmi, _⟩ := findIdx_get hi
    obtain ⟨g, c, rfl⟩ := form_some hf hmi
    cases ht : m.owes
    · have e : sClose l line = (7, l) := by unfold sClose sFind; rw [hi]; simp only []; rw [getD_of hmi, if_neg (by simp [ht])]
      rw [e]
      exact (close_table line w hm hf hi hmi ht).mono fun _ _ ⟨h1, h2⟩ => ⟨h1, Did.same hf h2⟩
    · have e : sClose l line = (0, l.eraseIdx i) := by unfold sClose sFind; rw [hi]; simp only []; rw [getD_of hmi, if_pos ht]
      rw [e]
      exact close_ok line w hm hf hi hmi ht
theorem get_any (line : Int) :
    Calls Try.prog 13 #[.pointer (some ⟨fb, 0, none⟩), .int .i64 line] w fun e w' => e = .returned (.tuple #[(sGet l line).1.val, .bool (sGet l line).2]) ∧ Below w.heap.size w w' := by
  cases hi : l.findIdx? (fun m => m.line == line) with
  | none =>
    have e : sGet l line = (Ms.zero, false) := by unfold sGet sFind; rw [hi]
    rw [e]
    exact get_none line w hm hf hi
  | some i =>
    obtain ⟨m, hmi, _⟩ := findIdx_get hi
    obtain ⟨g, c, rfl⟩ := form_some hf hmi
    have e : sGet l line = (m, true) := by unfold sGet sFind; rw [hi]; simp only []; rw [getD_of hmi]
    rw [e]
    exact get_some line w hm hf hi hmi
theorem owing_any :
    Calls Try.prog 11 #[.pointer (some ⟨fb, 0, none⟩)] w fun e w' => e = .returned (.tuple #[.int .i64 (sOwing l).1, .bool (sOwing l).2]) ∧ Below w.heap.size w w' := by
  cases hi : l.findIdx? (fun m => m.owes) with
  | none =>
    have e : sOwing l = (0, false) := by unfold sOwing; rw [hi]
    rw [e]
    exact owing_none w hm hf hi
  | some i =>
    obtain ⟨m, hmi, _⟩ := findIdx_get hi
    obtain ⟨g, c, rfl⟩ := form_some hf hmi
    have e : sOwing l = (m.line, true) := by unfold sOwing; rw [hi]; simp only []; rw [getD_of hmi]
    rw [e]
    exact owing_some w hm hf hi hmi
end
theorem new_bad (room : Int) (w : World) (h : room < 1 ∨ 8 < room) :
    Calls Try.prog 7 #[.int .i64 room] w fun e w' => e = .returned (.tuple #[.pointer none, .int .i64 1]) ∧ w = w' := by
  rcases h with h | h
  · go_enter Try.func7, Try.ntmps7
    go_wp2
    go_ret2
    exact ⟨rfl, rfl⟩
  · have h1 : ¬ room < 1 := by omega
    go_enter Try.func7, Try.ntmps7
    go_wp2
    go_ret2
    exact ⟨rfl, rfl⟩
/-- A new file: its struct lies in the next block. -/
theorem new_good (room : Int) (w : World) (h1 : 1 ≤ room) (h2 : room ≤ 8) :
    Calls Try.prog 7 #[.int .i64 room] w fun e w' => e = .returned (.tuple #[.pointer (some ⟨w.heap.size, 0, none⟩), .int .i64 0]) ∧ FileIs w' 60 34 w.heap.size w.heap.size (.slice none 0 0) room [] ∧ Below w.heap.size w w' := by
  go_enter Try.func7, Try.ntmps7
  go_wp2
  go_ret2
  exact ⟨rfl, ⟨heap_alloc_new _ _, World.ownsRow_nil _ _ _ _, Nat.le_refl _, by decide⟩, (Below.refl _ _).alloc (Nat.le_refl _) _⟩
end Go.Proofs.Ytfjeheioglmalaa
