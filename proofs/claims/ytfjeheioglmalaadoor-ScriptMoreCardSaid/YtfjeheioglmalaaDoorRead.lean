/- Read: the script of bytes. -/
import Derived.Test.YtfjeheioglmalaaDoorRdMem
import Derived.Test.YtfjeheioglmalaaDoorCheck2
import Derived.Test.YtfjeheioglmalaaDoorTexts4
import Derived.Test.YtfjeheioglmalaaDoorMem4
import Derived.Test.YtfjeheioglmalaaDoorAnyFits2
import Derived.Deep.RegionLaw
namespace Go.Proofs.YtfjeheioglmalaaDoor
open Go.RowKit Go.Lib
set_option linter.unusedVariables false
set_option linter.unusedSimpArgs false
def ReadPost (b : List UInt8) (w : World) (e : Ending) (w' : World) : Prop := ∃ v, e = .returned (.tuple #[v, .int .i64 (readP b).2]) ∧ SVal w' (readP b).1 v ∧ Below w.heap.size w w'
/-- The slice of a script's programs was made since a world with B blocks. -/
def FreshP (B : Nat) (v : Value) : Prop := ∀ (cs : Array Value) (a : Addr) (n c : Nat), v = .agg cs → cs[13]? = some (.slice (some a) n c) → B ≤ a.block
def ReadFull (b : List UInt8) (w : World) (e : Ending) (w' : World) : Prop := ∃ v, e = .returned (.tuple #[v, .int .i64 (readP b).2]) ∧ SVal w' (readP b).1 v ∧ Below w.heap.size w w' ∧ FreshP w.heap.size v
theorem progsIn_nil (w : World) (A : Option Addr) : ProgsIn w A [] := fun i l h => by simp at h
theorem picksIn_nil (w : World) (A : Option Addr) : PicksIn w A [] := fun i l h => by simp at h
theorem read_no {b : List UInt8} {w w' : World} {n : Int} (h : readP b = (noPS, n)) (hb : Below w.heap.size w w') : ReadFull b w (.returned (.tuple #[.agg zeros49, .int .i64 n])) w' := by
  refine ⟨_, by rw [h], ?_, hb, ?_⟩
  · rw [h]
    exact ⟨none, 0, none, 0, rfl, progsIn_nil _ _, picksIn_nil _ _⟩
  · intro cs a n c h1 h2
    injection h1 with h1
    subst h1
    simp [zeros49] at h2
theorem zeros_one : zeros49.all (·.oneCell') = true := by simp [zeros49, Value.oneCell']
theorem pow2_in (b : UInt8) : 0 ≤ pow2 b ∧ pow2 b ≤ 1048576 := by
  unfold pow2
  have key : ∀ m : Fin 21, 0 ≤ (2 : Int) ^ m.val ∧ (2 : Int) ^ m.val ≤ 1048576 := by decide +kernel
  by_cases h : 20 < b.toNat
  · rw [if_pos h]; omega
  · rw [if_neg h]; exact key ⟨b.toNat, by omega⟩
theorem cfg_fine (b : List UInt8) : (cfgP b).fine := by
  have hb : ∀ k, (0 : Int) ≤ (b.getD k 0).toNat ∧ ((b.getD k 0).toNat : Int) ≤ 255 := fun k => by have := (b.getD k 0).toNat_lt; omega
  have hp : ∀ k, 0 ≤ pow2 (b.getD k 0) ∧ pow2 (b.getD k 0) ≤ 1048576 := fun k => pow2_in _
  unfold Cfg.fine Cfg.nums cfgP
  simp only [List.mem_cons, List.not_mem_nil, or_false, forall_eq_or_imp, forall_eq]
  refine ⟨?_, ?_, ?_, ?_, ?_, ?_, ?_, ?_, ?_, ?_, ?_, ?_, ?_⟩
  all_goals first | (have := hb 0; omega) | skip
  · have := hp 1; omega
  · have := hp 2; omega
  · have := hb 3; omega
  · have := hp 4; omega
  · have := hp 5; omega
  · have := hb 6; omega
  · have := hb 7; omega
  · have := hb 8; omega
  · have := hb 9; omega
  · have := hb 10; omega
  · have := hb 11; omega
  · have := hb 12; omega
theorem rmem_start (b : List UInt8) (c : Cfg) (w w4 w5 : World) (h4 : Below ((w.alloc (.cells #[.string ⟨b.toArray⟩] 9)).alloc (.cells zeros49 43)).heap.size ((w.alloc (.cells #[.string ⟨b.toArray⟩] 9)).alloc (.cells zeros49 43)) w4)
    (h5 : Below (w4.alloc (.cells (scells c (.slice none 0 0) (.slice none 0 0)) 43)).heap.size (w4.alloc (.cells (scells c (.slice none 0 0) (.slice none 0 0)) 43)) w5) : RMem c w w4.heap.size w5 b [] (.slice none 0 0) [] [] (.slice none 0 0) := by
  have s0 : ((w.alloc (.cells #[.string ⟨b.toArray⟩] 9)).alloc (.cells zeros49 43)).heap.size = w.heap.size + 2 := by simp
  have s4 := h4.size
  have s5 := h5.size
  have s5' : (w4.alloc (.cells (scells c (.slice none 0 0) (.slice none 0 0)) 43)).heap.size = w4.heap.size + 1 := by simp
  have e5 : ∀ n, n < w4.heap.size → w5.heap[n]? = w4.heap[n]? := fun n h => (h5.block n (by omega)).trans (Below.heap_alloc w4 _ n h)
  exact {
    own := World.ownsRow_nil _ _ _ _
    ops := fun i l h => by simp at h
    kown := World.ownsRow_nil _ _ _ _
    apart := fun n h => by cases h
    left := (e5 _ (by omega)).trans ((h4.block _ (by omega)).trans ((Below.heap_alloc _ _ w.heap.size (by simp)).trans (heap_alloc_new w _)))
    box := (h5.block _ (by omega)).trans (heap_alloc_new w4 _)
    res := (e5 _ (by omega)).trans ((h4.block _ (by omega)).trans (heap_alloc2 w _ _))
    below := ((((Below.refl _ _).alloc (Nat.le_refl _) _).alloc (by simp) _).trans (h4.mono (by omega))).trans (((Below.refl _ w4).alloc (Nat.le_refl _) _ |>.mono (by omega)).trans (h5.mono (by omega)))
    g4le := by omega
    size := by omega }
structure RRound (b : List UInt8) (c : Cfg) (w : World) (g4 : Nat) (wr : World) (k : Nat) (r : List UInt8) (acc : List (List PO)) (sv : Value) (cs : List Value) : Prop where
  mem : RMem c w g4 wr r acc sv cs [] (.slice none 0 0)
  len : acc.length = k
  rl : r.length ≤ 1000000
  eqn : progsR c (c.cores.toNat - k) r acc = progsR c c.cores.toNat (b.drop 13) []
theorem RRound.next {b : List UInt8} {c : Cfg} {w : World} {g4 : Nat} {wr : World} {k : Nat} {r : List UInt8} {acc : List (List PO)} {sv : Value} {cs : List Value} (R : RRound b c w g4 wr k r acc sv cs) (h : (k : Int) < c.cores) (h1 : 1 ≤ c.cores) : progsR c (c.cores.toNat - k) r acc = progsR c ((c.cores.toNat - (k + 1)) + 1) r acc := by
  rw [show c.cores.toNat - k = c.cores.toNat - (k + 1) + 1 by omega]
theorem cutR_err {n : Nat} {r : List UInt8} {e : Int} (h : cutR n r = .error e) : e = 3 := by
  unfold cutR at h
  split at h
  · injection h with h; exact h.symm
  · cases h
theorem textR_err {r : List UInt8} {e : Int} (h : textR r = .error e) : e = 3 ∨ e = 2 := by
  unfold textR at h
  split at h
  · injection h with h; exact .inl h.symm
  · split at h
    · exact .inl (cutR_err h)
    · split at h
      · injection h with h; exact .inl h.symm
      · split at h
        · injection h with h; exact .inr h.symm
        · exact .inl (cutR_err h)
theorem cutR_len {n : Nat} {r t r' : List UInt8} (h : cutR n r = .ok (t, r')) : t.length ≤ r.length ∧ r'.length ≤ r.length := by
  unfold cutR at h
  split at h
  · cases h
  · injection h with h
    injection h with h1 h2
    subst h1 h2
    simp
    omega
theorem cutR_short {n : Nat} {r t r' : List UInt8} (h : cutR n r = .ok (t, r')) : t.length ≤ n := by
  unfold cutR at h
  split at h
  · cases h
  · injection h with h
    injection h with h1 h2
    subst h1 h2
    simp
    omega
theorem textR_short {r t r' : List UInt8} (h : textR r = .ok (t, r')) : t.length ≤ 16383 := by
  rcases r with _ | ⟨n, r1⟩
  · cases h
  have hn := n.toNat_lt
  simp only [textR] at h
  split at h
  · have := cutR_short h; omega
  · rcases r1 with _ | ⟨m, r2⟩
    · cases h
    have hm := m.toNat_lt
    simp only at h
    split at h
    · cases h
    · have := cutR_short h
      omega
theorem textR_len {r t r' : List UInt8} (h : textR r = .ok (t, r')) : t.length ≤ r.length ∧ r'.length ≤ r.length := by
  unfold textR at h
  split at h
  · cases h
  · split at h
    · have := cutR_len h; simp; omega
    · split at h
      · cases h
      · split at h
        · cases h
        · have := cutR_len h; simp; omega
theorem Tryd.info23 : (Tryd.prog.info? 23).map (fun i => (i.zero, i.size, i.bytes)) = some (some (.slice none 0 0), 1, 24) := by kernel_rfl
def leftLen (w : World) (g : Nat) : Nat := match w.cell? ⟨g, 0, none⟩ with | some (.string s) => s.size | _ => 0
theorem leftLen_of {w : World} {g : Nat} {r : List UInt8} (h : Left w g r) : leftLen w g = r.length := by
  have : w.cell? ⟨g, 0, none⟩ = some (.string ⟨r.toArray⟩) := box_cell h 0 rfl
  unfold leftLen
  rw [this]
  simp [ByteArray.size]
theorem parse_len (t : List UInt8) : (parseP t).1.length ≤ 64 := by
  unfold parseP
  split
  · simp
  · split
    · simp
    · split
      · simp
      · split
        · simp
        · simp only; omega
/-- append to what the call owns, as one step of a region that draws. -/
theorem step_append_own_at {P : Program} {ops : Array Oper} {o : Oper} {a : Act} {w : World} {K : Act → World → Prop} {Q : Exit → Act → World → Prop} {E : Prop}
    (hg : o.guard = none) (s x : Operand) (t : TypeId) (hop : o.op = Op.call { callee := Callee.builtin Builtin.append, args := #[s, x], argTypes := #[t, t] })
    (base : Nat) (e : TypeId) (i : TypeInfo) (z : Value) (size bytes : Nat) (ht : P.underlying t = some (.slice e)) (hi : P.info? e = some i) (hz : i.zero = some z)
    (hsize : i.size = size) (hby : i.bytes = bytes) (hzs : z.cells.size = size) (hsz : 0 < size)
    (v : Value) (n : Nat) (xs : List Value) (hs : a.eval s = v) (hown : w.ownsRow base e size v n xs)
    (ad : Addr) (m c : Nat) (news : List Value) (hx : a.eval x = .slice (some ad) m c) (hl : news.length = m * size) (hnews : ∀ j u, news[j]? = some u → w.cell? (ad.add j) = some u) (h1 : ∀ u ∈ news, u.oneCell' = true)
    (h63 : n + m ≤ maxLen) (hbytes : (n + m) * bytes ≤ 140737488355328) (hbase : base ≤ w.heap.size)
    (h : ∀ v' w', w'.ownsRow base e size v' (n + m) (xs ++ news) → w.grownBy w' v.ownBlock → (v'.ownBlock = v.ownBlock ∨ v'.ownBlock = some w.heap.size) → K (a.put o.dst v') w') :
    if Region.wanted o (yielded ops a.tmps) = true then Oper.wp P o a w K Q else E := by
  have hw : Region.wanted o (yielded ops a.tmps) = true := by simp [Region.wanted, hg]
  rw [if_pos hw]
  obtain ⟨v', w', hr, h2, h3, h4, h5⟩ := run_append_own_at (P := P) w base t o.type e i z size bytes ht hi hz hsize hby hzs hsz v n xs hown ad m c news hl hnews h1 h63 hbytes hbase
  unfold Oper.wp execOp
  simp only [hop, resolve, invoke, builtin, Sem.run_bind, Sem.run_pure, Result.andThen_ok, List.map_toArray, List.map_cons, List.map_nil, hs, hx, hr]
  exact h v' w' h2 h3 h5
theorem ownsRow_drew {w : World} {base n : Nat} {e : TypeId} {size : Nat} {v : Value} {xs : List Value} (h : w.ownsRow base e size v n xs) : w.drew.ownsRow base e size v n xs := h
set_option maxRecDepth 100000 in
set_option maxHeartbeats 1000000 in
theorem read_full (b : List UInt8) (hl : b.length ≤ 1000000) (w : World) : Calls Tryd.prog 25 #[.string ⟨b.toArray⟩] w (ReadFull b w) := by
  have hsz : (ByteArray.mk b.toArray).size = b.length := by simp [ByteArray.size]
  by_cases h13 : b.length < 13
  · have h13' : (b.length : Int) < 13 := by omega
    have HP : Hid (readP b = (noPS, 3)) := by unfold readP; exact if_pos h13
    go_enter Tryd.func25, Tryd.ntmps25
    go_wp2_with (refine wpList_store_new rfl 43 (.tmp 2) (.tmp 15) rfl (w.heap.size + 1) zeros49 rfl rfl 43 _ (heap_alloc2 w _ _) Tryd.size43 rfl zeros_one w.heap.size (by omega) ?_; intro w3 hx3 hb3; have HX3 := Lib.hid hx3; have HB3 := Lib.hid hb3; clear hx3 hb3)
    refine ret_cell_tmp (p := 2) (q := 3) (ty := 43) rfl (w.heap.size + 1) 43 _ _ _ _ rfl rfl HX3.out Tryd.underlying43 rfl Tryd.size43 rfl ?_
    exact read_no HP.out ((((Below.refl w.heap.size w).alloc (Nat.le_refl _) _).alloc (by simp) _).trans HB3.out)
  · have h13' : ¬ (b.length : Int) < 13 := by omega
    have HCF := Lib.hid (fun W => conf_walk b h13 (by omega) W)
    obtain ⟨c, hc⟩ : ∃ c, cfgP b = c := ⟨_, rfl⟩
    rw [hc] at HCF
    have HF : Hid c.fine := by rw [← hc]; exact cfg_fine b
    have HC := Lib.hid hc
    clear hc
    have H13 := Lib.hid h13
    clear h13
    go_enter Tryd.func25, Tryd.ntmps25
    go_wp2_with fail
    refine (HCF.out _).mono ?_
    rintro e w4 ⟨rfl, hb4⟩
    have HB4 := Lib.hid hb4
    clear hb4
    unfold Cfg.val Cfg.arr
    cases hok : c.ok
    · have HP : Hid (readP b = (noPS, 1)) := by
        show readP b = (noPS, 1)
        unfold readP
        rw [if_neg H13.out, HC.out, if_pos hok]
      have HN : Hid (okNo c = 1) := by
        show okNo c = 1
        unfold okNo
        rw [hok]
        rfl
      clear hok
      go_wp2_with fail
      refine (check_walk c HF.out _).mono ?_
      rintro e w5 ⟨rfl, hb5⟩
      rw [HN.out]
      have R5 := Lib.hid (rmem_start b c w w4 w5 HB4.out hb5)
      clear hb5
      go_wp2_with (refine wpList_store_new rfl 43 (.tmp 2) (.tmp 24) rfl (w.heap.size + 1) zeros49 rfl rfl 43 _ R5.out.res Tryd.size43 rfl zeros_one w.heap.size (by omega) ?_; intro w6 hx6 hb6; have HX6 := Lib.hid hx6; have HB6 := Lib.hid hb6; clear hx6 hb6)
      refine ret_cell_tmp (p := 2) (q := 3) (ty := 43) rfl (w.heap.size + 1) 43 _ _ _ _ rfl rfl HX6.out Tryd.underlying43 rfl Tryd.size43 rfl ?_
      exact read_no HP.out (R5.out.below.trans HB6.out)
    · have HRD : Hid (readP b = match progsR c c.cores.toNat (b.drop 13) [] with
          | .error e => (noPS, e)
          | .ok (ps, r) => if r.length % 3 ≠ 0 then (noPS, 3) else (⟨c, ps, picksR r⟩, 0)) := by
        show readP b = _
        unfold readP
        rw [if_neg H13.out, HC.out, hok]
        rfl
      have HOK := Lib.hid hok
      have HN : Hid (okNo c = 0) := by
        show okNo c = 0
        unfold okNo
        rw [hok]
        rfl
      clear hok
      go_wp2_with fail
      refine (check_walk c HF.out _).mono ?_
      rintro e w5 ⟨rfl, hb5⟩
      rw [HN.out]
      have R5 := Lib.hid (rmem_start b c w w4 w5 HB4.out hb5)
      clear hb5
      have hb0 : w5.cell? ⟨w.heap.size, 0, none⟩ = some (.string ⟨b.toArray⟩) := box_cell R5.out.left 0 rfl
      have hf0 : w5.frozen? ⟨w.heap.size, 0, none⟩ = false := frozen_of_row w5 w.heap.size 0 _ _ R5.out.left
      have hsl : ∀ W, (Instr.slice 9 (.string ⟨b.toArray⟩) (some (.int .i64 13)) none none).run Tryd.prog W = .ok (.string ⟨(b.drop 13).toArray⟩) W := fun W => slice_e b 13 (by omega) W
      have R6 := Lib.hid (R5.out.text (grown_set w5 w.heap.size 0 (.string ⟨(b.drop 13).toArray⟩)) (heap_setCell_same w5 w.heap.size 0 _ 9 _ R5.out.left))
      have hc0 : (w5.setCell ⟨w.heap.size, 0, none⟩ (.string ⟨(b.drop 13).toArray⟩)).cell? ⟨w4.heap.size, 0, none⟩ = some (.int .i64 c.cores) := box_cell R6.out.box 0 rfl
      have HOK2 := Lib.hid (ok_all HOK.out).1
      go_wp2_with fail
      go_loopw [32] (fun v wr => ∃ (k : Nat) (r : List UInt8) (acc : List (List PO)) (sv : Value) (cs : List Value), v = .int .i64 k ∧ (k : Int) ≤ c.cores ∧ RRound b c w w4.heap.size wr k r acc sv cs) (fun v _ => c.cores.toNat - (RowKit.intOf v).toNat)
      case atStart => exact ⟨0, b.drop 13, [], _, [], rfl, by have := HOK2.out; omega, R6.out, rfl, by simp; omega, rfl⟩
      case round =>
        obtain ⟨k, r, acc, sv, cs, rfl, hk, hR⟩ := hrel
        have R := Lib.hid hR
        clear hR hb0 hf0 hsl hc0
        by_cases hlt : (k : Int) < c.cores
        · cases htx : textR r with
          | error e1 =>
            have HP : Hid (readP b = (noPS, e1)) := by
              show readP b = _
              rw [HRD.out, ← R.out.eqn, R.out.next hlt HOK2.out.1]
              simp only [progsR, htx]
            have HT := Lib.hid htx
            obtain he | he := textR_err htx
            all_goals
              subst he
              clear htx
              go_wp2_with fail
              refine (texted_walk r (by have := R.out.rl; omega) w.heap.size _ R.out.mem.left).mono ?_
              rintro e w1 ⟨hg, hm⟩
              rw [HT.out] at hm
              obtain rfl := hm
              have HG := Lib.hid hg
              clear hg
              go_wp2_with (refine wpList_store_new rfl 43 (.tmp 2) (.tmp 41) rfl (w.heap.size + 1) zeros49 rfl rfl 43 _ (grown_block HG.out R.out.mem.res (fun e => by injection e with e; omega)) Tryd.size43 rfl zeros_one w.heap.size (by omega) ?_; intro w6 hx6 hb6; have HX6 := Lib.hid hx6; have HB6 := Lib.hid hb6; clear hx6 hb6)
              refine ret_cell_tmp (p := 2) (q := 3) (ty := 43) rfl (w.heap.size + 1) 43 _ _ _ _ rfl rfl HX6.out Tryd.underlying43 rfl Tryd.size43 rfl ?_
              exact read_no HP.out ((R.out.mem.below.grown HG.out R.out.mem.below.size (fun k e => by injection e with e; omega)).trans HB6.out)
          | ok tr =>
            obtain ⟨t, r'⟩ := tr
            have HT := Lib.hid htx
            clear htx
            have htl := textR_len HT.out
            have hts := textR_short HT.out
            have hrl := R.out.rl
            go_wp2_with fail
            refine (texted_walk r (by omega) w.heap.size _ R.out.mem.left).mono ?_
            rintro e w1 ⟨hg, hm⟩
            rw [HT.out] at hm
            obtain ⟨rfl, hl1⟩ := hm
            have R1 := Lib.hid (R.out.mem.text hg hl1)
            have H1S := Lib.hid hg.size
            clear hg hl1
            go_wp2_with fail
            refine (New.parse_walk t (by omega) _).mono ?_
            rintro e w2 ⟨A, cap, rfl, hops, hb2⟩
            have R2 := Lib.hid (R1.out.more hb2)
            have HO2 := Lib.hid hops
            have HB2 := Lib.hid hb2
            clear hops hb2
            obtain ⟨l, pe, hpp⟩ : ∃ l pe, parseP t = (l, pe) := ⟨_, _, rfl⟩
            rw [hpp] at HO2 ⊢
            simp only at HO2
            have HPP := Lib.hid hpp
            clear hpp
            by_cases hpe : pe = 0
            · subst hpe
              have hops := HO2.out.1
              have hbx := R2.out.box
              have y0 : w2.cell? ⟨w4.heap.size, 0, none⟩ = some (.int .i64 c.cores) := box_cell hbx 0 rfl
              have y1 : w2.cell? ⟨w4.heap.size, 1, none⟩ = some (.int .i64 c.homes) := box_cell hbx 1 rfl
              have y2 : w2.cell? ⟨w4.heap.size, 2, none⟩ = some (.int .i64 c.sets) := box_cell hbx 2 rfl
              have y3 : w2.cell? ⟨w4.heap.size, 3, none⟩ = some (.int .i64 c.ways) := box_cell hbx 3 rfl
              have y4 : w2.cell? ⟨w4.heap.size, 4, none⟩ = some (.int .i64 c.words) := box_cell hbx 4 rfl
              have y5 : w2.cell? ⟨w4.heap.size, 5, none⟩ = some (.int .i64 c.lines) := box_cell hbx 5 rfl
              have y6 : w2.cell? ⟨w4.heap.size, 6, none⟩ = some (.int .i64 c.pointers) := box_cell hbx 6 rfl
              have y7 : w2.cell? ⟨w4.heap.size, 7, none⟩ = some (.int .i64 c.mshrs) := box_cell hbx 7 rfl
              have y8 : w2.cell? ⟨w4.heap.size, 8, none⟩ = some (.int .i64 c.buffer) := box_cell hbx 8 rfl
              have y9 : w2.cell? ⟨w4.heap.size, 9, none⟩ = some (.int .i64 c.writebacks) := box_cell hbx 9 rfl
              have y10 : w2.cell? ⟨w4.heap.size, 10, none⟩ = some (.int .i64 c.r0) := box_cell hbx 10 rfl
              have y11 : w2.cell? ⟨w4.heap.size, 11, none⟩ = some (.int .i64 c.r1) := box_cell hbx 11 rfl
              have y12 : w2.cell? ⟨w4.heap.size, 12, none⟩ = some (.int .i64 c.r2) := box_cell hbx 12 rfl
              have HOPS := Lib.hid hops
              have HLL : Hid (l.length ≤ 64) := by
                have := parse_len t
                rw [HPP.out] at this
                exact this
              clear hops hbx
              go_wp2_with fail
              refine (Any.fits_prog c HF.out l A cap (by have := HLL.out; omega) _ HOPS.out).mono ?_
              rintro e w3 ⟨rfl, hb3⟩
              have R3 := Lib.hid (R2.out.more hb3)
              have HB3 := Lib.hid hb3
              clear hb3 y0 y1 y2 y3 y4 y5 y6 y7 y8 y9 y10 y11 y12
              cases hfl : fitsP c l
              · have HP : Hid (readP b = (noPS, 5)) := by
                  show readP b = _
                  rw [HRD.out, ← R.out.eqn, R.out.next hlt HOK2.out.1]
                  simp [progsR, HT.out, HPP.out, hfl]
                clear hfl
                go_wp2_with (refine wpList_store_new rfl 43 (.tmp 2) (.tmp 59) rfl (w.heap.size + 1) zeros49 rfl rfl 43 _ R3.out.res Tryd.size43 rfl zeros_one w.heap.size (by omega) ?_; intro w6 hx6 hb6; have HX6 := Lib.hid hx6; have HB6 := Lib.hid hb6; clear hx6 hb6)
                refine ret_cell_tmp (p := 2) (q := 3) (ty := 43) rfl (w.heap.size + 1) 43 _ _ _ _ rfl rfl HX6.out Tryd.underlying43 rfl Tryd.size43 rfl ?_
                exact read_no HP.out (R3.out.below.trans HB6.out)
              · have HEQ : Hid (progsR c (c.cores.toNat - (k + 1)) r' (acc ++ [l]) = progsR c c.cores.toNat (b.drop 13) []) := by
                  show _ = _
                  rw [← R.out.eqn, R.out.next hlt HOK2.out.1]
                  simp [progsR, HT.out, HPP.out, hfl]
                clear hfl
                have hx13 : w3.cell? ⟨w4.heap.size, 13, none⟩ = some sv := box_cell R3.out.box 13 rfl
                obtain ⟨i0, hi0, hz0, hz1, hz2⟩ := info_parts Tryd.info23
                have HI0 := Lib.hid hi0
                have HZ0 := Lib.hid hz0
                have HZ1 := Lib.hid hz1
                have HZ2 := Lib.hid hz2
                have HLEN := R.out.len
                have HLN2 := Lib.hid HLEN
                have HCO := HOK2.out.2
                have HS3 := Lib.hid R3.out.size
                clear hi0 hz0 hz1 hz2
                go_wp2_with (at_builtin; go_must (refine wpList_append_own_at _ rfl _ _ 40 rfl (w4.heap.size + 1) 23 i0 (.slice none 0 0) 1 24 Tryd.underlying40 HI0.out HZ0.out HZ1.out HZ2.out rfl (by decide) sv acc.length cs rfl (R3.out.own.alloc _) ⟨w3.heap.size, 0, none⟩ 1 1 [.slice A l.length cap] rfl rfl (cell_one_new _ _ _) (by simp [Value.oneCell']) (by simp only [maxLen]; omega) (by omega) (by have := HS3.out; simp; omega) ?_))
                intro v' w7 hown7 hgrow7 _ hblk7
                obtain ⟨A7, c7, rfl⟩ := own_form hown7
                have hs3 := R3.out.size
                have R8 := Lib.hid (R3.out.push (o := .cells #[.slice A l.length cap] 23) (HOPS.out.below HB3.out) (fun a ha => by
                  have h1 := HO2.out.2 a ha
                  have h2 := R1.out.own.lt
                  have h3 := R1.out.size
                  have h4 := HB3.out.size
                  exact ⟨by omega, by omega, fun e => by have := (h2 _ e).2; omega, fun e => by cases e⟩) (by rw [HLN2.out]; exact hown7) hgrow7 hblk7)
                have hbox7 : w7.heap[w4.heap.size]? = some (.cells (scells c sv (.slice none 0 0)) 43 (0, 0)) := grown_block hgrow7 ((Below.heap_alloc w3 _ w4.heap.size (by omega)).trans R3.out.box) (fun e => by have := (R3.out.own.lt _ e.symm).1; omega)
                have hc7 : w7.cell? ⟨w4.heap.size, 13, none⟩ = some sv := box_cell hbox7 13 rfl
                have hf7 := frozen_of_row w7 w4.heap.size 13 _ _ hbox7
                clear hown7 hgrow7 hblk7 hbox7 hx13
                go_wp2
                go_roundw
                case rel => exact ⟨k + 1, r', acc ++ [l], _, _, by go_num, by omega, R8.out, by simp; omega, by omega, HEQ.out⟩
                case measure => simp [RowKit.intOf]; omega
            · have hpb : (pe != 0) = true := by simpa using hpe
              have HP : Hid (readP b = (noPS, pe)) := by
                show readP b = _
                rw [HRD.out, ← R.out.eqn, R.out.next hlt HOK2.out.1]
                simp [progsR, HT.out, HPP.out, hpe]
              clear hpe
              go_wp2_with (refine wpList_store_new rfl 43 (.tmp 2) (.tmp 51) rfl (w.heap.size + 1) zeros49 rfl rfl 43 _ R2.out.res Tryd.size43 rfl zeros_one w.heap.size (by omega) ?_; intro w6 hx6 hb6; have HX6 := Lib.hid hx6; have HB6 := Lib.hid hb6; clear hx6 hb6)
              refine ret_cell_tmp (p := 2) (q := 3) (ty := 43) rfl (w.heap.size + 1) 43 _ _ _ _ rfl rfl HX6.out Tryd.underlying43 rfl Tryd.size43 rfl ?_
              exact read_no HP.out (R2.out.below.trans HB6.out)
        · have hkc : c.cores.toNat - k = 0 := by omega
          have HRP : Hid (readP b = if r.length % 3 ≠ 0 then (noPS, 3) else (⟨c, acc, picksR r⟩, 0)) := by
            show readP b = _
            rw [HRD.out, ← R.out.eqn, hkc]
            rfl
          have hszr : (ByteArray.mk r.toArray).size = r.length := by simp [ByteArray.size]
          have hb0 : wr.cell? ⟨w.heap.size, 0, none⟩ = some (.string ⟨r.toArray⟩) := box_cell R.out.mem.left 0 rfl
          clear hkc
          by_cases h3 : r.length % 3 = 0
          · have h3' : ((r.length : Int) % 3 != 0) = false := by simp; omega
            have HP : Hid (readP b = (⟨c, acc, picksR r⟩, 0)) := by
              show _ = _
              rw [HRP.out, if_neg (by omega)]
            have HM := Lib.hid h3
            have HRL := Lib.hid R.out.rl
            clear h3
            go_wp2_with fail
            go_loopw [10] (fun v wq => ∃ (rr : List UInt8) (ks : List PK) (kv : Value), rr.length % 3 = 0 ∧ 3 * ks.length + rr.length ≤ 1000000 ∧ ks ++ picksR rr = picksR r ∧ RMem c w w4.heap.size wq rr acc sv cs ks kv) (fun v wq => leftLen wq w.heap.size)
            case atStart => exact ⟨r, [], _, HM.out, by simp; exact HRL.out, rfl, R.out.mem⟩
            case round =>
              obtain ⟨rr, ks, kv, h3, hlen, heq, hR2⟩ := hrel
              have Q := Lib.hid hR2
              have HEQ := Lib.hid heq
              have H3 := Lib.hid h3
              have HLEN := Lib.hid hlen
              clear hR2 heq hb0 hszr h3 hlen h3'
              have hb0 : wr.cell? ⟨w.heap.size, 0, none⟩ = some (.string ⟨rr.toArray⟩) := box_cell Q.out.left 0 rfl
              have hszr : (ByteArray.mk rr.toArray).size = rr.length := by simp [ByteArray.size]
              rcases rr with _ | ⟨a, _ | ⟨b1, _ | ⟨c1, r1⟩⟩⟩
              · have hks : picksR r = ks := by have := HEQ.out; simpa [picksR] using this.symm
                have HR : Hid (readP b = (⟨c, acc, ks⟩, 0)) := by
                  show _ = _
                  rw [HP.out, hks]
                clear hks
                obtain ⟨A1, c1, hA1⟩ := own_form Q.out.own
                obtain ⟨A2, c2, hA2⟩ := own_form Q.out.kown
                have HA1 := Lib.hid hA1
                have HA2 := Lib.hid hA2
                clear hA1 hA2
                go_wp2_with (first | (refine wpList_load_row rfl 43 (.tmp 4) rfl w4.heap.size rfl 43 (scells c sv kv) (0, 0) _ Q.out.box Tryd.underlying43 rfl Tryd.size43 ?_) | (refine wpList_store_grown rfl 43 (.tmp 2) (.tmp 95) rfl (w.heap.size + 1) (scells c sv kv) rfl rfl 43 _ Q.out.res Tryd.size43 rfl (by rw [HA1.out, HA2.out]; exact scells_one _ _ _ _ _ _ _) ?_; intro w1 hx1 hg1; have HX1 := Lib.hid hx1; have HG1 := Lib.hid hg1; clear hx1 hg1))
                refine ret_cell_tmp (p := 2) (q := 3) (ty := 43) rfl (w.heap.size + 1) 43 _ _ _ _ rfl rfl HX1.out Tryd.underlying43 rfl Tryd.size43 rfl ?_
                refine ⟨_, by rw [HR.out]; rfl, ?_, Q.out.below.grown HG1.out Q.out.below.size (fun k hk => by injection hk with hk; omega), fun cs a n c h1 h2 => by
                  injection h1 with h1
                  subst h1
                  have h3 : some sv = some (Value.slice (some a) n c) := h2
                  injection h3 with h3
                  have := (Q.out.own.lt a.block (by rw [h3]; rfl)).1
                  have := Q.out.g4le
                  omega⟩
                rw [HR.out]
                exact ⟨A1, c1, A2, c2, by rw [HA1.out, HA2.out], Q.out.progs HG1.out HA1.out, Q.out.picks HG1.out HA2.out rfl⟩
              · exact absurd H3.out (by simp)
              · exact absurd H3.out (by simp)
              · have hpos : (0 : Int) < ((a :: b1 :: c1 :: r1).length : Nat) := by simp; omega
                have HTK := Lib.hid (take_ok 3 (a :: b1 :: c1 :: r1) (by have := HLEN.out; simp at *; omega) w.heap.size wr Q.out.left (by decide) (by simp))
                rw [show (a :: b1 :: c1 :: r1).take 3 = [a, b1, c1] from rfl, show (a :: b1 :: c1 :: r1).drop 3 = r1 from rfl] at HTK
                go_wp2_with fail
                refine HTK.out.mono ?_
                rintro e w1 ⟨rfl, hl1, hg1⟩
                have Q1 := Lib.hid (Q.out.text hg1 hl1)
                clear hl1 hg1
                have hx14 : w1.cell? ⟨w4.heap.size, 14, none⟩ = some kv := box_cell Q1.out.box 14 rfl
                have hf14 : w1.frozen? ⟨w4.heap.size, 14, none⟩ = false := frozen_of_row w1 w4.heap.size 14 _ _ Q1.out.box
                have e0 : ∀ h, (ByteArray.mk #[a, b1, c1])[0]'h = a := fun _ => rfl
                have e1 : ∀ h, (ByteArray.mk #[a, b1, c1])[1]'h = b1 := fun _ => rfl
                have e2 : ∀ h, (ByteArray.mk #[a, b1, c1])[2]'h = c1 := fun _ => rfl
                have v0 : IntKind.i64.wrap (a.toNat : Int) = a.toNat := IntWalk.i64_in _ (by have := a.toNat_lt; omega)
                have v1 : IntKind.i64.wrap (b1.toNat : Int) = b1.toNat := IntWalk.i64_in _ (by have := b1.toNat_lt; omega)
                have v2 : IntKind.i64.wrap (c1.toNat : Int) = c1.toNat := IntWalk.i64_in _ (by have := c1.toNat_lt; omega)
                obtain ⟨i0, hi0, hz0, hz1, hz2⟩ := info_parts Tryd.info59
                have HI0 := Lib.hid hi0
                have HZ0 := Lib.hid hz0
                have HZ1 := Lib.hid hz1
                have HZ2 := Lib.hid hz2
                have HS1 := Lib.hid Q1.out.size
                clear hi0 hz0 hz1 hz2
                go_wp2_with fail
                refine wp_region_any (by kernel_rfl) ?_
                change wpAny _ _ _ _ _ _ _ (World.drew _)
                refine wpAny_take (i := 0) (v := .pointer (some ⟨w4.heap.size, 14, none⟩)) rfl (by kernel_rfl) (by kernel_rfl) (by kernel_rfl) (fun _ _ _ h => h) (Or.inl ⟨by rfl, ?_⟩) ?_
                · intro w
                  go_simp
                simp only [Act.put, List.setIfInBounds_toArray, List.set_cons_zero, List.set_cons_succ]
                refine wpAny_take (i := 2) (v := .string ⟨#[a, b1, c1]⟩) rfl (by kernel_rfl) (by kernel_rfl) (by kernel_rfl) (fun _ _ _ h => h) (Or.inl ⟨by rfl, ?_⟩) ?_
                · intro w
                  go_simp
                simp only [Act.put, List.setIfInBounds_toArray, List.set_cons_zero, List.set_cons_succ]
                refine wpAny_take (i := 3) (v := .int .u8 a.toNat) rfl (by kernel_rfl) (by kernel_rfl) (by kernel_rfl) (fun _ _ _ h => h) (Or.inl ⟨by rfl, ?_⟩) ?_
                · intro w
                  go_simp
                simp only [Act.put, List.setIfInBounds_toArray, List.set_cons_zero, List.set_cons_succ]
                refine wpAny_take (i := 4) (v := .int .i64 a.toNat) rfl (by kernel_rfl) (by kernel_rfl) (by kernel_rfl) (fun _ _ _ h => h) (Or.inl ⟨by rfl, ?_⟩) ?_
                · intro w
                  go_simp
                simp only [Act.put, List.setIfInBounds_toArray, List.set_cons_zero, List.set_cons_succ]
                refine wpAny_take (i := 5) (v := .string ⟨#[a, b1, c1]⟩) rfl (by kernel_rfl) (by kernel_rfl) (by kernel_rfl) (fun _ _ _ h => h) (Or.inl ⟨by rfl, ?_⟩) ?_
                · intro w
                  go_simp
                simp only [Act.put, List.setIfInBounds_toArray, List.set_cons_zero, List.set_cons_succ]
                refine wpAny_take (i := 6) (v := .int .u8 b1.toNat) rfl (by kernel_rfl) (by kernel_rfl) (by kernel_rfl) (fun _ _ _ h => h) (Or.inl ⟨by rfl, ?_⟩) ?_
                · intro w
                  go_simp
                simp only [Act.put, List.setIfInBounds_toArray, List.set_cons_zero, List.set_cons_succ]
                refine wpAny_take (i := 7) (v := .int .i64 b1.toNat) rfl (by kernel_rfl) (by kernel_rfl) (by kernel_rfl) (fun _ _ _ h => h) (Or.inl ⟨by rfl, ?_⟩) ?_
                · intro w
                  go_simp
                simp only [Act.put, List.setIfInBounds_toArray, List.set_cons_zero, List.set_cons_succ]
                refine wpAny_take (i := 8) (v := .string ⟨#[a, b1, c1]⟩) rfl (by kernel_rfl) (by kernel_rfl) (by kernel_rfl) (fun _ _ _ h => h) (Or.inl ⟨by rfl, ?_⟩) ?_
                · intro w
                  go_simp
                simp only [Act.put, List.setIfInBounds_toArray, List.set_cons_zero, List.set_cons_succ]
                refine wpAny_take (i := 9) (v := .int .u8 c1.toNat) rfl (by kernel_rfl) (by kernel_rfl) (by kernel_rfl) (fun _ _ _ h => h) (Or.inl ⟨by rfl, ?_⟩) ?_
                · intro w
                  go_simp
                simp only [Act.put, List.setIfInBounds_toArray, List.set_cons_zero, List.set_cons_succ]
                refine wpAny_take (i := 10) (v := .int .i64 c1.toNat) rfl (by kernel_rfl) (by kernel_rfl) (by kernel_rfl) (fun _ _ _ h => h) (Or.inl ⟨by rfl, ?_⟩) ?_
                · intro w
                  go_simp
                simp only [Act.put, List.setIfInBounds_toArray, List.set_cons_zero, List.set_cons_succ]
                refine wpAny_take (i := 11) (v := .agg #[.int .i64 a.toNat, .int .i64 b1.toNat, .int .i64 c1.toNat]) rfl (by kernel_rfl) (by kernel_rfl) (by kernel_rfl) (fun _ _ _ h => h) (Or.inl ⟨by rfl, ?_⟩) ?_
                · intro w
                  go_simp
                simp only [Act.put, List.setIfInBounds_toArray, List.set_cons_zero, List.set_cons_succ]
                have hx14b : ((w1.alloc (.cells #[.int .i64 a.toNat, .int .i64 b1.toNat, .int .i64 c1.toNat] 59)).drew).cell? ⟨w4.heap.size, 14, none⟩ = some kv := by
                  rw [show ((w1.alloc (.cells #[.int .i64 a.toNat, .int .i64 b1.toNat, .int .i64 c1.toNat] 59)).drew).cell? ⟨w4.heap.size, 14, none⟩ = (w1.alloc (.cells #[.int .i64 a.toNat, .int .i64 b1.toNat, .int .i64 c1.toNat] 59)).cell? ⟨w4.heap.size, 14, none⟩ from rfl, World.cell?_alloc_some _ _ _ (by rw [hx14]; rfl)]
                  exact hx14
                refine wpAny_ready (rs := [1, 12]) (by kernel_rfl) (by simp) ?_
                refine AllReady.cons rfl (fun K hK => ?_) (AllReady.cons rfl (fun K hK => ?_) AllReady.nil)
                · go_simp
                  refine hK _ _ ?_
                  clear hK K
                  refine wpAny_ready (rs := [12]) (by kernel_rfl) (by simp) ?_
                  refine AllReady.cons rfl (fun K hK => ?_) AllReady.nil
                  go_simp
                  refine hK _ _ ?_
                  clear hK K
                  refine wpAny_ready (rs := [13]) (by kernel_rfl) (by simp) ?_
                  refine AllReady.cons rfl (fun K hK => ?_) AllReady.nil
                  refine step_append_own_at rfl (.tmp 81) (.tmp 92) 41 rfl (w4.heap.size + 1) 59 i0 (PK.val ⟨0, 0, 0⟩) 3 24 Tryd.underlying41 HI0.out HZ0.out HZ1.out HZ2.out rfl (by decide) kv ks.length (pflat ks) rfl (ownsRow_drew (Q1.out.kown.alloc _)) ⟨w1.heap.size, 0, none⟩ 1 1 (PK.arr ⟨a.toNat, b1.toNat, c1.toNat⟩).toList rfl rfl (fun j u h => new_pk w1 ⟨a.toNat, b1.toNat, c1.toNat⟩ 59 j u h) (PK.one_list _) (by have := HLEN.out; simp at this; simp only [maxLen]; omega) (by have := HLEN.out; simp at this; omega) (by have := HS1.out; simp [World.drew]; omega) ?_
                  intro v' w7 hown7 hgrow7 hblk7
                  refine hK _ _ ?_
                  clear hK K
                  obtain ⟨A7, c7, rfl⟩ := own_form hown7
                  have hs1 := HS1.out
                  have hgrow8 : (w1.alloc (.cells (PK.arr ⟨a.toNat, b1.toNat, c1.toNat⟩) 59)).grownBy w7 kv.ownBlock := ⟨hgrow7.os, hgrow7.tape, hgrow7.output, hgrow7.size, hgrow7.block⟩
                  have Q8 := Lib.hid (Q1.out.pick (x := ⟨a.toNat, b1.toNat, c1.toNat⟩) (o := .cells (PK.arr ⟨a.toNat, b1.toNat, c1.toNat⟩) 59) hown7 hgrow8 (by have := hblk7; simpa [World.drew] using this))
                  have hbox7 : w7.heap[w4.heap.size]? = some (.cells (scells c sv kv) 43 (0, 0)) := grown_block hgrow8 ((Below.heap_alloc w1 _ w4.heap.size (by omega)).trans Q1.out.box) (fun e => by have := (Q1.out.kown.lt _ e.symm).1; omega)
                  have hc7 : w7.cell? ⟨w4.heap.size, 14, none⟩ = some kv := box_cell hbox7 14 rfl
                  have hf7 := frozen_of_row w7 w4.heap.size 14 _ _ hbox7
                  clear hown7 hgrow7 hgrow8 hblk7 hbox7
                  refine wpAny_ready (rs := [14]) (by kernel_rfl) (by simp) ?_
                  refine AllReady.cons rfl (fun K hK => ?_) AllReady.nil
                  go_simp
                  refine hK _ _ ?_
                  clear hK K
                  refine wpAny_ready (rs := [15]) (by kernel_rfl) (by simp) ?_
                  refine AllReady.cons rfl (fun K hK => ?_) AllReady.nil
                  go_simp
                  refine hK _ _ ?_
                  clear hK K
                  refine wpAny_done (by kernel_rfl) ?_ _
                  go_wp2
                  go_roundw
                  case rel => exact ⟨r1, ks ++ [⟨a.toNat, b1.toNat, c1.toNat⟩], _, by have := H3.out; simp at this; omega, by have := HLEN.out; simp at this ⊢; omega, by rw [← HEQ.out]; simp [picksR], Q8.out⟩
                  case measure =>
                    rw [leftLen_of Q8.out.left, leftLen_of Q.out.left]
                    simp
                    omega
                · go_simp
                  refine hK _ _ ?_
                  clear hK K
                  refine wpAny_ready (rs := [1]) (by kernel_rfl) (by simp) ?_
                  refine AllReady.cons rfl (fun K hK => ?_) AllReady.nil
                  go_simp
                  refine hK _ _ ?_
                  clear hK K
                  refine wpAny_ready (rs := [13]) (by kernel_rfl) (by simp) ?_
                  refine AllReady.cons rfl (fun K hK => ?_) AllReady.nil
                  refine step_append_own_at rfl (.tmp 81) (.tmp 92) 41 rfl (w4.heap.size + 1) 59 i0 (PK.val ⟨0, 0, 0⟩) 3 24 Tryd.underlying41 HI0.out HZ0.out HZ1.out HZ2.out rfl (by decide) kv ks.length (pflat ks) rfl (ownsRow_drew (Q1.out.kown.alloc _)) ⟨w1.heap.size, 0, none⟩ 1 1 (PK.arr ⟨a.toNat, b1.toNat, c1.toNat⟩).toList rfl rfl (fun j u h => new_pk w1 ⟨a.toNat, b1.toNat, c1.toNat⟩ 59 j u h) (PK.one_list _) (by have := HLEN.out; simp at this; simp only [maxLen]; omega) (by have := HLEN.out; simp at this; omega) (by have := HS1.out; simp [World.drew]; omega) ?_
                  intro v' w7 hown7 hgrow7 hblk7
                  refine hK _ _ ?_
                  clear hK K
                  obtain ⟨A7, c7, rfl⟩ := own_form hown7
                  have hs1 := HS1.out
                  have hgrow8 : (w1.alloc (.cells (PK.arr ⟨a.toNat, b1.toNat, c1.toNat⟩) 59)).grownBy w7 kv.ownBlock := ⟨hgrow7.os, hgrow7.tape, hgrow7.output, hgrow7.size, hgrow7.block⟩
                  have Q8 := Lib.hid (Q1.out.pick (x := ⟨a.toNat, b1.toNat, c1.toNat⟩) (o := .cells (PK.arr ⟨a.toNat, b1.toNat, c1.toNat⟩) 59) hown7 hgrow8 (by have := hblk7; simpa [World.drew] using this))
                  have hbox7 : w7.heap[w4.heap.size]? = some (.cells (scells c sv kv) 43 (0, 0)) := grown_block hgrow8 ((Below.heap_alloc w1 _ w4.heap.size (by omega)).trans Q1.out.box) (fun e => by have := (Q1.out.kown.lt _ e.symm).1; omega)
                  have hc7 : w7.cell? ⟨w4.heap.size, 14, none⟩ = some kv := box_cell hbox7 14 rfl
                  have hf7 := frozen_of_row w7 w4.heap.size 14 _ _ hbox7
                  clear hown7 hgrow7 hgrow8 hblk7 hbox7
                  refine wpAny_ready (rs := [14]) (by kernel_rfl) (by simp) ?_
                  refine AllReady.cons rfl (fun K hK => ?_) AllReady.nil
                  go_simp
                  refine hK _ _ ?_
                  clear hK K
                  refine wpAny_ready (rs := [15]) (by kernel_rfl) (by simp) ?_
                  refine AllReady.cons rfl (fun K hK => ?_) AllReady.nil
                  go_simp
                  refine hK _ _ ?_
                  clear hK K
                  refine wpAny_done (by kernel_rfl) ?_ _
                  go_wp2
                  go_roundw
                  case rel => exact ⟨r1, ks ++ [⟨a.toNat, b1.toNat, c1.toNat⟩], _, by have := H3.out; simp at this; omega, by have := HLEN.out; simp at this ⊢; omega, by rw [← HEQ.out]; simp [picksR], Q8.out⟩
                  case measure =>
                    rw [leftLen_of Q8.out.left, leftLen_of Q.out.left]
                    simp
                    omega
          · have h3' : ((r.length : Int) % 3 != 0) = true := by simp; omega
            have HP : Hid (readP b = (noPS, 3)) := by
              show _ = _
              rw [HRP.out, if_pos h3]
            clear h3
            go_wp2_with (refine wpList_store_new rfl 43 (.tmp 2) (.tmp 71) rfl (w.heap.size + 1) zeros49 rfl rfl 43 _ R.out.mem.res Tryd.size43 rfl zeros_one w.heap.size (by omega) ?_; intro w6 hx6 hb6; have HX6 := Lib.hid hx6; have HB6 := Lib.hid hb6; clear hx6 hb6)
            refine ret_cell_tmp (p := 2) (q := 3) (ty := 43) rfl (w.heap.size + 1) 43 _ _ _ _ rfl rfl HX6.out Tryd.underlying43 rfl Tryd.size43 rfl ?_
            exact read_no HP.out (R.out.mem.below.trans HB6.out)
theorem read_walk (b : List UInt8) (hl : b.length ≤ 1000000) (w : World) : Calls Tryd.prog 25 #[.string ⟨b.toArray⟩] w (ReadPost b w) :=
  (read_full b hl w).mono fun _ _ ⟨v, h1, h2, h3, _⟩ => ⟨v, h1, h2, h3⟩
end Go.Proofs.YtfjeheioglmalaaDoor
