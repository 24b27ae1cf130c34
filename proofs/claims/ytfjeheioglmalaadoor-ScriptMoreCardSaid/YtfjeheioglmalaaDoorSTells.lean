/- The law ScriptTells. -/
import Derived.Test.YtfjeheioglmalaaDoorAwake4
import Derived.Test.YtfjeheioglmalaaDoorRBytes
namespace Go.Proofs.YtfjeheioglmalaaDoor
open Go.RowKit Go.Lib
set_option linter.unusedVariables false
set_option linter.unusedSimpArgs false
set_option maxRecDepth 100000 in
set_option maxHeartbeats 1000000 in
theorem stells_any (c : Cfg) (hc : c.fine) (ps : List (List PO)) (ks : List PK) (A1 A2 : Option Addr) (c1 c2 : Nat) (h1 : ps.length ≤ 9223372036854775807) (h2 : ks.length ≤ 9223372036854775807) (hlen : ∀ l ∈ ps, l.length ≤ 9223372036854775807) (w : World) (ht : Tab w) (hp : ProgsIn w A1 ps) (hk : PicksIn w A2 ks) :
    Calls Tryd.prog 7 #[.agg (scells c (.slice A1 ps.length c1) (.slice A2 ks.length c2))] w fun e w' => e = .returned (.bool true) ∧ Below w.heap.size w w' := by
  have hb0 := (Below.refl w.heap.size w).alloc (Nat.le_refl _) (.cells (scells c (.slice A1 ps.length c1) (.slice A2 ks.length c2)) 43)
  have HA := Lib.hid (awake4_walk _ (ht.below hb0))
  have HT := Lib.hid ht
  have HP := Lib.hid hp
  have HK := Lib.hid hk
  have HC := Lib.hid hc
  have HB0 := Lib.hid hb0
  have HW := Lib.hid (heap_alloc_new w (.cells (scells c (.slice A1 ps.length c1) (.slice A2 ks.length c2)) 43))
  have HLN := Lib.hid hlen
  clear ht hp hk hc hb0 hlen
  go_enter Tryd.func7, Tryd.ntmps7
  go_wp2_with fail
  refine HA.out.mono ?_
  rintro e w1 ⟨rfl, hb⟩
  have HB1 := Lib.hid (HB0.out.trans (hb.mono HB0.out.size))
  have HX1 := Lib.hid ((hb.block w.heap.size (Array.getElem?_eq_some_iff.1 HW.out).1).trans HW.out)
  clear hb
  go_wp2_with (refine wpList_load_row rfl 43 (.tmp 1) rfl w.heap.size rfl 43 (scells c (.slice A1 ps.length c1) (.slice A2 ks.length c2)) (0, 0) _ HX1.out Tryd.underlying43 rfl Tryd.size43 ?_)
  refine (large_walk c ps ks A1 A2 c1 c2 h1 h2 _ (HP.out.below HB1.out)).mono ?_
  rintro e w2 ⟨z, rfl, hz, hb⟩
  have HB2 := Lib.hid (HB1.out.trans (hb.mono HB1.out.size))
  have HX2 := Lib.hid ((hb.block w.heap.size (Array.getElem?_eq_some_iff.1 HX1.out).1).trans HX1.out)
  have HZ := Lib.hid hz
  clear hb hz
  cases z
  · have h3 := HZ.out rfl
    have HBW := Lib.hid (fun W a b t => bytes_walk c HC.out ps ks A1 A2 c1 c2 h1 h3 HLN.out W a b t)
    have HRW := Lib.hid (fun B1 B2 d1 d2 W a b => rbytes_walk c HC.out ps ks B1 B2 d1 d2 h1 h3 HLN.out W a b)
    obtain ⟨⟨bs, be⟩, hbs⟩ : ∃ p, bytesP ⟨c, ps, ks⟩ = p := ⟨_, rfl⟩
    unfold BytesPost at HBW HRW
    rw [hbs] at HBW HRW
    clear hbs
    go_wp2_with (refine wpList_load_row rfl 43 (.tmp 1) rfl w.heap.size rfl 43 (scells c (.slice A1 ps.length c1) (.slice A2 ks.length c2)) (0, 0) _ HX2.out Tryd.underlying43 rfl Tryd.size43 ?_)
    refine (HBW.out _ (HP.out.below HB2.out) (HK.out.below HB2.out) (HT.out.below HB2.out)).mono ?_
    rintro e w3 ⟨rfl, hb⟩
    have HB3 := Lib.hid (HB2.out.trans (hb.mono HB2.out.size))
    have HX3 := Lib.hid ((hb.block w.heap.size (Array.getElem?_eq_some_iff.1 HX2.out).1).trans HX2.out)
    clear hb
    go_wp2_with (refine wpList_load_row rfl 43 (.tmp 1) rfl w.heap.size rfl 43 (scells c (.slice A1 ps.length c1) (.slice A2 ks.length c2)) (0, 0) _ HX3.out Tryd.underlying43 rfl Tryd.size43 ?_)
    refine (own_walk c ps ks A1 A2 c1 c2 h1 h3 _ (HP.out.below HB3.out) (HK.out.below HB3.out)).mono ?_
    rintro e w4 ⟨v, rfl, ⟨B1, d1, B2, d2, rfl, hp4, hk4⟩, hb⟩
    have HB4 := Lib.hid (HB3.out.trans (hb.mono HB3.out.size))
    have HP4 := Lib.hid hp4
    have HK4 := Lib.hid hk4
    clear hb hp4 hk4
    go_wp2_with fail
    refine (HRW.out B1 B2 d1 d2 _ HP4.out HK4.out).mono ?_
    rintro e w5 ⟨rfl, hb⟩
    have HB5 := Lib.hid (HB4.out.trans (hb.mono HB4.out.size))
    clear hb
    go_wp2_with fail
    go_ret
    exact ⟨ret_bool' (by simp), HB5.out⟩
  · go_wp2_with fail
    go_ret
    exact ⟨rfl, HB2.out⟩
end Go.Proofs.YtfjeheioglmalaaDoor
