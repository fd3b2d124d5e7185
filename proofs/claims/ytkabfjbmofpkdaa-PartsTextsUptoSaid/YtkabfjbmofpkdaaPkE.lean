/- Walks and plain laws of the chapter, laid together; each part says what it proves. -/
import Derived.Test.YtkabfjbmofpkdaaPkD
/- Layer 14: what an entry does to a ledger, walked: entries of kind 0. -/
namespace Go.Proofs.Ytkabfjbmofpkdaa
open Go.RowKit Go.Shelf
set_option maxRecDepth 100000

set_option maxHeartbeats 4000000 in
theorem apply_k0 (L : Led) (E : Ent) (hk : E.k = 0) (w : World) (hL : LedR w L) (hok : L.Ok) (hsm : L.Small) (hG : OpsR w E.gv E.os) (hek : E.Ok) (hes : E.Small) :
    Calls Try.prog 10 #[.agg L.cells.toArray, .agg E.cells.toArray] w fun e w' => ∃ M, e = .returned (.tuple #[.agg M.cells.toArray, .bool (applyL L E).2.1, .int .i64 (applyL L E).2.2]) ∧ SameL (applyL L E).1 M ∧ LedO w' w.heap.size M ∧ Below w.heap.size w w' := by
  have HK := Lib.hid hk
  clear hk
  obtain ⟨X, hX⟩ : ∃ X, X = ((w.alloc (.cells L.cells.toArray 30)).alloc (.cells E.cells.toArray 35)).alloc (.cells zero16 30) := ⟨_, rfl⟩
  have hbX : Below w.heap.size w X := by rw [hX]; exact below_box (below_box (below_alloc _ _) _) _
  have hXs : X.heap.size = w.heap.size + 3 := by rw [hX]; simp
  have hBC : BoxC w.heap.size (w.heap.size + 2) X L := by
    refine ⟨?_, fun j => ?_, fun j hj => ?_, by omega, by omega, by omega⟩
    · rw [hX]; exact ((boxL_self w L 30).later (below_alloc _ _)).later (below_alloc _ _)
    · rw [hX, World.frozen?_alloc_past _ _ _ (by simp <;> omega), World.frozen?_alloc_past _ _ _ (by simp <;> omega), World.frozen?_alloc_at _ _ _ _ rfl]
    · refine ⟨?_, by rw [hX, World.frozen?_alloc_at _ _ _ _ (by simp)]⟩
      rw [hX, World.cell?_alloc_at _ _ _ _ (by simp)]
      show (zero16[0 + j]?).isSome = true
      rw [Nat.zero_add]
      have : j < zero16.size := hj
      rw [Array.getElem?_eq_getElem this]; rfl
  have hBE : BoxE X (w.heap.size + 1) E := by
    rw [hX]
    have := (boxE_self (w.alloc (.cells L.cells.toArray 30)) E 35).later (below_alloc _ (.cells zero16 30))
    rwa [World.size_alloc] at this
  have HX := Lib.hid hX
  have HBC := Lib.hid hBC
  have HBE := Lib.hid hBE
  have HBX := Lib.hid hbX
  have HXS := Lib.hid hXs
  have HL := Lib.hid hL
  have HOK := Lib.hid hok
  have HSM := Lib.hid hsm
  have HG := Lib.hid hG
  have HEK := Lib.hid hek
  have HES := Lib.hid hes
  have HRG := Lib.hid hBC.box.range
  have HRE := Lib.hid hBE.range
  clear hX hBC hBE hbX hXs hL hok hsm hG hek hes
  go_enter Try.func10, Try.ntmps10
  go_upto_region 1 with fail
  rw [show ((w.alloc (.cells L.cells.toArray 30)).alloc (.cells E.cells.toArray 35)).alloc (.cells #[.slice none 0 0, .int .i64 0, .int .i64 0, .int .i64 0, .int .i64 0, .int .i64 0, .int .i64 0, .int .i64 0, .int .i64 0, .slice none 0 0, .slice none 0 0, .int .i64 0, .int .i64 0, .bool false, .slice none 0 0, .int .i64 0] 30) = X from HX.out.symm]
  have HH := Lib.hid HBC.out.res
  have HZ := Lib.hid (led_all zeroL rfl rfl rfl rfl)
  cases hg : L.good with
  | false =>
    have HA := Lib.hid (show applyL L E = (zeroL, false, 3) by unfold applyL; rw [if_neg (by simp [hg])])
    have HGD := Lib.hid hg
    clear hg
    go_wp2_with (first | (refine wpList_load_mid rfl 30 _ rfl (w.heap.size) 0 rfl (Led.cells L) _ HRG.out Try.underlying30 rfl (by show _ = some 16; kernel_rfl) ?_) | (refine wp_load_mid 30 _ rfl (w.heap.size) 0 rfl (Led.cells L) _ HRG.out Try.underlying30 rfl (by show _ = some 16; kernel_rfl) ?_) | (refine wpList_store_mid rfl 30 _ _ rfl (w.heap.size + 2) 0 (Led.cells L).toArray rfl rfl HH.out (by show _ = some 16; kernel_rfl) HZ.out ?_) | (refine wp_store_mid 30 _ _ rfl (w.heap.size + 2) 0 (Led.cells L).toArray rfl rfl HH.out (by show _ = some 16; kernel_rfl) HZ.out ?_))
    refine (pGood_calls L X (HL.out.below HBX.out (Nat.le_refl _)) HOK.out HSM.out).mono ?_
    rintro e w1 ⟨rfl, hb1⟩
    rw [HGD.out]
    have HB1 := Lib.hid (HBC.out.later hb1)
    have HH1 := Lib.hid HB1.out.res
    have HX1 := Lib.hid (below_go HBX.out hb1)
    clear hb1
    go_upto_region 2 with fail
    go_wp2_with (first | (refine wpList_load_mid rfl 30 _ rfl (w.heap.size) 0 rfl (Led.cells zeroL) _ HRG.out Try.underlying30 rfl (by show _ = some 16; kernel_rfl) ?_) | (refine wp_load_mid 30 _ rfl (w.heap.size) 0 rfl (Led.cells zeroL) _ HRG.out Try.underlying30 rfl (by show _ = some 16; kernel_rfl) ?_) | (refine wpList_store_mid rfl 30 _ _ rfl (w.heap.size + 2) 0 (Led.cells zeroL).toArray rfl rfl HH1.out (by show _ = some 16; kernel_rfl) HZ.out ?_) | (refine wp_store_mid 30 _ _ rfl (w.heap.size + 2) 0 (Led.cells zeroL).toArray rfl rfl HH1.out (by show _ = some 16; kernel_rfl) HZ.out ?_))
    refine bodyPost_ret (v := .tuple #[.agg (Led.cells zeroL).toArray, .bool false, .int .i64 3]) (results_cell3 Try.results10 rfl (resR_run HH1.out)) rfl ?_
    rw [HA.out]
    exact ⟨zeroL, rfl, SameL.refl _, ledO_zero _ _, HX1.out.trans ((only_cells _ _ _ _).below (by have := HX1.out.size; have := HXS.out; have := HBX.out.size; omega) (fun j hj e => by omega))⟩
  | true =>
    have HGD := Lib.hid hg
    clear hg
    go_wp2_with (first | (refine wpList_load_mid rfl 30 _ rfl (w.heap.size) 0 rfl (Led.cells L) _ HRG.out Try.underlying30 rfl (by show _ = some 16; kernel_rfl) ?_) | (refine wp_load_mid 30 _ rfl (w.heap.size) 0 rfl (Led.cells L) _ HRG.out Try.underlying30 rfl (by show _ = some 16; kernel_rfl) ?_) | (refine wpList_store_mid rfl 30 _ _ rfl (w.heap.size + 2) 0 (Led.cells L).toArray rfl rfl HH.out (by show _ = some 16; kernel_rfl) HZ.out ?_) | (refine wp_store_mid 30 _ _ rfl (w.heap.size + 2) 0 (Led.cells L).toArray rfl rfl HH.out (by show _ = some 16; kernel_rfl) HZ.out ?_))
    refine (pGood_calls L X (HL.out.below HBX.out (Nat.le_refl _)) HOK.out HSM.out).mono ?_
    rintro e w1 ⟨rfl, hb1⟩
    rw [HGD.out]
    have HB1 := Lib.hid (HBC.out.later hb1)
    have HE1 := Lib.hid (HBE.out.later hb1)
    have HRE1 := Lib.hid HE1.out.range
    have HX1 := Lib.hid (below_go HBX.out hb1)
    clear hb1
    have e0 := HE1.out 0 _ rfl
    have e1 := HE1.out 1 _ rfl
    have e2 := HE1.out 2 _ rfl
    have e3 := HE1.out 3 _ rfl
    have e4 := HE1.out 4 _ rfl
    have e5 := HE1.out 5 _ rfl
    have e6 := HE1.out 6 _ rfl
    have e7 := HE1.out 7 _ rfl
    go_wp2_with fail
    clear e0 e1 e2 e3 e4 e5 e6 e7
    refine (entGood_calls E.k E.r E.gv E.os E.n w1 (HG.out.below HX1.out (Nat.le_refl _))).mono ?_
    rintro e w2 ⟨rfl, hb2⟩
    have HB2 := Lib.hid (HB1.out.later hb2)
    have HE2 := Lib.hid (HE1.out.later hb2)
    have HX2 := Lib.hid (below_go HX1.out hb2)
    have HH2 := Lib.hid HB2.out.res
    clear hb2
    cases hge : goodEnt E.k E.r E.os E.n with
    | false =>
      have HA := Lib.hid (show applyL L E = (zeroL, false, 3) by unfold applyL; rw [if_neg (by unfold Ent.good; simp [hge])])
      clear hge
      go_upto_region 2 with fail
      go_wp2_with (first | (refine wpList_load_mid rfl 30 _ rfl (w.heap.size) 0 rfl (Led.cells zeroL) _ HRG.out Try.underlying30 rfl (by show _ = some 16; kernel_rfl) ?_) | (refine wp_load_mid 30 _ rfl (w.heap.size) 0 rfl (Led.cells zeroL) _ HRG.out Try.underlying30 rfl (by show _ = some 16; kernel_rfl) ?_) | (refine wpList_store_mid rfl 30 _ _ rfl (w.heap.size + 2) 0 (Led.cells zeroL).toArray rfl rfl HH2.out (by show _ = some 16; kernel_rfl) HZ.out ?_) | (refine wp_store_mid 30 _ _ rfl (w.heap.size + 2) 0 (Led.cells zeroL).toArray rfl rfl HH2.out (by show _ = some 16; kernel_rfl) HZ.out ?_))
      refine bodyPost_ret (v := .tuple #[.agg (Led.cells zeroL).toArray, .bool false, .int .i64 3]) (results_cell3 Try.results10 rfl (resR_run HH2.out)) rfl ?_
      rw [HA.out]
      exact ⟨zeroL, rfl, SameL.refl _, ledO_zero _ _, HX2.out.trans ((only_cells _ _ _ _).below (by have := HX2.out.size; have := HXS.out; have := HBX.out.size; omega) (fun j hj e => by omega))⟩
    | true =>
      have HA := Lib.hid (show applyL L E = stepL L E by unfold applyL; rw [if_pos ⟨HGD.out, hge⟩])
      have HGE := Lib.hid hge
      have HR2 := Lib.hid HB2.out.box.range
      clear hge
      go_wp2_with (first | (refine wpList_load_mid rfl 30 _ rfl (w.heap.size) 0 rfl (Led.cells L) _ HR2.out Try.underlying30 rfl (by show _ = some 16; kernel_rfl) ?_) | (refine wp_load_mid 30 _ rfl (w.heap.size) 0 rfl (Led.cells L) _ HR2.out Try.underlying30 rfl (by show _ = some 16; kernel_rfl) ?_) | (refine wpList_store_mid rfl 30 _ _ rfl (w.heap.size + 2) 0 (Led.cells L).toArray rfl rfl HH2.out (by show _ = some 16; kernel_rfl) HZ.out ?_) | (refine wp_store_mid 30 _ _ rfl (w.heap.size + 2) 0 (Led.cells L).toArray rfl rfl HH2.out (by show _ = some 16; kernel_rfl) HZ.out ?_))
      refine (pOwn_calls L w2 (HL.out.below HX2.out (Nat.le_refl _)) HSM.out).mono ?_
      rintro e w3 ⟨M, rfl, hS, hO3, hb3⟩
      have HS := Lib.hid hS
      have hB3 := HB2.out.later hb3
      have HTS := Lib.hid hB3.there
      have HB3 := Lib.hid hB3
      have HM1 := Lib.hid (led_all M (own_one hO3.rows) (own_one hO3.opn) (own_one hO3.bats) (own_one hO3.ops))
      have HO3 := Lib.hid hO3
      have HX3 := Lib.hid (below_go HX2.out hb3)
      have HE3 := Lib.hid (HE2.out.later hb3)
      have HZS := Lib.hid (show w.heap.size + 3 ≤ w2.heap.size ∧ w2.heap.size ≤ w3.heap.size from ⟨by have := HB2.out.hR; omega, hb3.size⟩)
      have HFIN := Lib.hid (fun (M1 : Led) (b : Bool) (c : Int) (M2 : Led) (W' : World) (h1 : stepL M E = (M1, b, c)) (h2 : SameL M1 M2) (h3 : LedO W' w.heap.size M2) (h4 : Below w.heap.size w W') =>
        show ∃ M', Ending.returned (.tuple #[.agg M2.cells.toArray, .bool b, .int .i64 c]) = Ending.returned (.tuple #[.agg M'.cells.toArray, .bool (applyL L E).2.1, .int .i64 (applyL L E).2.2]) ∧ SameL (applyL L E).1 M' ∧ LedO W' w.heap.size M' ∧ Below w.heap.size w W' by
          have h := stepL_same hS E
          rw [h1] at h
          rw [HA.out, ← h.2]
          exact ⟨M2, rfl, h.1.trans h2, h3, h4⟩)
      clear hS hB3 hO3 hb3
      go_upto_region 4 with (first | (refine wpList_store_mid rfl 30 _ _ rfl (w.heap.size) 0 (Led.cells M).toArray rfl rfl HTS.out (by show _ = some 16; kernel_rfl) HM1.out ?_) | (refine wp_store_mid 30 _ _ rfl (w.heap.size) 0 (Led.cells M).toArray rfl rfl HTS.out (by show _ = some 16; kernel_rfl) HM1.out ?_))
      have honS := only_cells w3 w.heap.size M.cells 0
      have HB := Lib.hid (HB3.out.put M)
      have HE := Lib.hid (HE3.out.only honS (by omega))
      have HO := Lib.hid (HO3.out.off honS (fun g hg _ e => by have := HZS.out; omega))
      have HBW := Lib.hid (HX3.out.trans (honS.below (by have := HZS.out; omega) (fun j hj e => by omega)))
      have HZW := Lib.hid (show w.heap.size + 3 ≤ w2.heap.size ∧ w2.heap.size ≤ (w3.setCells w.heap.size 0 M.cells).heap.size from ⟨HZS.out.1, by have := honS.size; have := HZS.out; omega⟩)
      clear honS
      generalize hW : w3.setCells _ _ _ = W at *
      clear hW HB3 HTS HB1 HB2 HBC HBE HE1 HE2 HE3 HX HRG HRE HRE1 HR2 HO3 HZS HX1 HX2 HX3
      have hgq := (goodEnt_iff E.k E.r E.os E.n).1 HGE.out
      have HGQ := Lib.hid hgq
      have hk05 : 0 ≤ E.k ∧ E.k ≤ 5 := ⟨hgq.1.1, hgq.1.2.1⟩
      clear hgq
      obtain ⟨k, ⟨rp, rs, rq, rkey, rval⟩, gv, os, n⟩ := E
      have hk := HK.out
      simp only at hk
      clear HK
      subst hk
      simp only at hk05
      have hz := HZW.out
      have HRW := Lib.hid HB.out.box.range
      have HRT := Lib.hid HB.out.res
      have e0 : W.cell? ⟨w.heap.size + 1, 0, none⟩ = some (.int .i64 0) := HE.out 0 _ rfl
      have hgood : M.good = true := by rw [HS.out.good]; exact HGD.out
      have hgm := ((good_iff M).1 hgood).1
      have hnums : I64 M.sealed ∧ I64 M.decided ∧ I64 M.keep := (HS.out.ok HOK.out).nums
      unfold I64 at hnums
      have HGM := Lib.hid hgood
      have HFN := Lib.hid (show 0 ≤ M.decided ∧ M.decided ≤ M.sealed ∧ M.sealed - M.decided ≤ 64 ∧ 0 ≤ M.keep ∧ M.keep ≤ 64 ∧ M.sealed ≤ 9223372036854775807 by omega)
      clear hgood hgm hnums hk05
      have HST := Lib.hid (show stepL M ⟨0, ⟨rp, rs, rq, rkey, rval⟩, gv, os, n⟩ = (M, false, 0) from rfl)
      go_wp2_with (first | (refine wpList_load_mid rfl 30 _ rfl (w.heap.size) 0 rfl (Led.cells M) _ HRW.out Try.underlying30 rfl (by show _ = some 16; kernel_rfl) ?_) | (refine wp_load_mid 30 _ rfl (w.heap.size) 0 rfl (Led.cells M) _ HRW.out Try.underlying30 rfl (by show _ = some 16; kernel_rfl) ?_) | (refine wpList_store_mid rfl 30 _ _ rfl (w.heap.size + 2) 0 (Led.cells M).toArray rfl rfl HRT.out (by show _ = some 16; kernel_rfl) HM1.out ?_) | (refine wp_store_mid 30 _ _ rfl (w.heap.size + 2) 0 (Led.cells M).toArray rfl rfl HRT.out (by show _ = some 16; kernel_rfl) HM1.out ?_))
      refine bodyPost_ret (v := .tuple #[.agg (Led.cells M).toArray, .bool false, .int .i64 0]) (results_cell3 Try.results10 rfl (resR_run HRT.out)) rfl ?_
      exact HFIN.out _ _ _ M _ HST.out (SameL.refl _) ((HO.out.off (only_cells _ _ _ _) (fun g hg _ e => by omega)).mono (by omega)) (HBW.out.trans ((only_cells _ _ _ _).below (by omega) (fun j hj e => by omega)))
end Go.Proofs.Ytkabfjbmofpkdaa

/- Layer 14: what an entry does to a ledger, walked: entries of kind 1. -/
namespace Go.Proofs.Ytkabfjbmofpkdaa
open Go.RowKit Go.Shelf
set_option maxRecDepth 100000

set_option maxHeartbeats 4000000 in
theorem apply_k1 (L : Led) (E : Ent) (hk : E.k = 1) (w : World) (hL : LedR w L) (hok : L.Ok) (hsm : L.Small) (hG : OpsR w E.gv E.os) (hek : E.Ok) (hes : E.Small) :
    Calls Try.prog 10 #[.agg L.cells.toArray, .agg E.cells.toArray] w fun e w' => ∃ M, e = .returned (.tuple #[.agg M.cells.toArray, .bool (applyL L E).2.1, .int .i64 (applyL L E).2.2]) ∧ SameL (applyL L E).1 M ∧ LedO w' w.heap.size M ∧ Below w.heap.size w w' := by
  have HK := Lib.hid hk
  clear hk
  obtain ⟨X, hX⟩ : ∃ X, X = ((w.alloc (.cells L.cells.toArray 30)).alloc (.cells E.cells.toArray 35)).alloc (.cells zero16 30) := ⟨_, rfl⟩
  have hbX : Below w.heap.size w X := by rw [hX]; exact below_box (below_box (below_alloc _ _) _) _
  have hXs : X.heap.size = w.heap.size + 3 := by rw [hX]; simp
  have hBC : BoxC w.heap.size (w.heap.size + 2) X L := by
    refine ⟨?_, fun j => ?_, fun j hj => ?_, by omega, by omega, by omega⟩
    · rw [hX]; exact ((boxL_self w L 30).later (below_alloc _ _)).later (below_alloc _ _)
    · rw [hX, World.frozen?_alloc_past _ _ _ (by simp <;> omega), World.frozen?_alloc_past _ _ _ (by simp <;> omega), World.frozen?_alloc_at _ _ _ _ rfl]
    · refine ⟨?_, by rw [hX, World.frozen?_alloc_at _ _ _ _ (by simp)]⟩
      rw [hX, World.cell?_alloc_at _ _ _ _ (by simp)]
      show (zero16[0 + j]?).isSome = true
      rw [Nat.zero_add]
      have : j < zero16.size := hj
      rw [Array.getElem?_eq_getElem this]; rfl
  have hBE : BoxE X (w.heap.size + 1) E := by
    rw [hX]
    have := (boxE_self (w.alloc (.cells L.cells.toArray 30)) E 35).later (below_alloc _ (.cells zero16 30))
    rwa [World.size_alloc] at this
  have HX := Lib.hid hX
  have HBC := Lib.hid hBC
  have HBE := Lib.hid hBE
  have HBX := Lib.hid hbX
  have HXS := Lib.hid hXs
  have HL := Lib.hid hL
  have HOK := Lib.hid hok
  have HSM := Lib.hid hsm
  have HG := Lib.hid hG
  have HEK := Lib.hid hek
  have HES := Lib.hid hes
  have HRG := Lib.hid hBC.box.range
  have HRE := Lib.hid hBE.range
  clear hX hBC hBE hbX hXs hL hok hsm hG hek hes
  go_enter Try.func10, Try.ntmps10
  go_upto_region 1 with fail
  rw [show ((w.alloc (.cells L.cells.toArray 30)).alloc (.cells E.cells.toArray 35)).alloc (.cells #[.slice none 0 0, .int .i64 0, .int .i64 0, .int .i64 0, .int .i64 0, .int .i64 0, .int .i64 0, .int .i64 0, .int .i64 0, .slice none 0 0, .slice none 0 0, .int .i64 0, .int .i64 0, .bool false, .slice none 0 0, .int .i64 0] 30) = X from HX.out.symm]
  have HH := Lib.hid HBC.out.res
  have HZ := Lib.hid (led_all zeroL rfl rfl rfl rfl)
  cases hg : L.good with
  | false =>
    have HA := Lib.hid (show applyL L E = (zeroL, false, 3) by unfold applyL; rw [if_neg (by simp [hg])])
    have HGD := Lib.hid hg
    clear hg
    go_wp2_with (first | (refine wpList_load_mid rfl 30 _ rfl (w.heap.size) 0 rfl (Led.cells L) _ HRG.out Try.underlying30 rfl (by show _ = some 16; kernel_rfl) ?_) | (refine wp_load_mid 30 _ rfl (w.heap.size) 0 rfl (Led.cells L) _ HRG.out Try.underlying30 rfl (by show _ = some 16; kernel_rfl) ?_) | (refine wpList_store_mid rfl 30 _ _ rfl (w.heap.size + 2) 0 (Led.cells L).toArray rfl rfl HH.out (by show _ = some 16; kernel_rfl) HZ.out ?_) | (refine wp_store_mid 30 _ _ rfl (w.heap.size + 2) 0 (Led.cells L).toArray rfl rfl HH.out (by show _ = some 16; kernel_rfl) HZ.out ?_))
    refine (pGood_calls L X (HL.out.below HBX.out (Nat.le_refl _)) HOK.out HSM.out).mono ?_
    rintro e w1 ⟨rfl, hb1⟩
    rw [HGD.out]
    have HB1 := Lib.hid (HBC.out.later hb1)
    have HH1 := Lib.hid HB1.out.res
    have HX1 := Lib.hid (below_go HBX.out hb1)
    clear hb1
    go_upto_region 2 with fail
    go_wp2_with (first | (refine wpList_load_mid rfl 30 _ rfl (w.heap.size) 0 rfl (Led.cells zeroL) _ HRG.out Try.underlying30 rfl (by show _ = some 16; kernel_rfl) ?_) | (refine wp_load_mid 30 _ rfl (w.heap.size) 0 rfl (Led.cells zeroL) _ HRG.out Try.underlying30 rfl (by show _ = some 16; kernel_rfl) ?_) | (refine wpList_store_mid rfl 30 _ _ rfl (w.heap.size + 2) 0 (Led.cells zeroL).toArray rfl rfl HH1.out (by show _ = some 16; kernel_rfl) HZ.out ?_) | (refine wp_store_mid 30 _ _ rfl (w.heap.size + 2) 0 (Led.cells zeroL).toArray rfl rfl HH1.out (by show _ = some 16; kernel_rfl) HZ.out ?_))
    refine bodyPost_ret (v := .tuple #[.agg (Led.cells zeroL).toArray, .bool false, .int .i64 3]) (results_cell3 Try.results10 rfl (resR_run HH1.out)) rfl ?_
    rw [HA.out]
    exact ⟨zeroL, rfl, SameL.refl _, ledO_zero _ _, HX1.out.trans ((only_cells _ _ _ _).below (by have := HX1.out.size; have := HXS.out; have := HBX.out.size; omega) (fun j hj e => by omega))⟩
  | true =>
    have HGD := Lib.hid hg
    clear hg
    go_wp2_with (first | (refine wpList_load_mid rfl 30 _ rfl (w.heap.size) 0 rfl (Led.cells L) _ HRG.out Try.underlying30 rfl (by show _ = some 16; kernel_rfl) ?_) | (refine wp_load_mid 30 _ rfl (w.heap.size) 0 rfl (Led.cells L) _ HRG.out Try.underlying30 rfl (by show _ = some 16; kernel_rfl) ?_) | (refine wpList_store_mid rfl 30 _ _ rfl (w.heap.size + 2) 0 (Led.cells L).toArray rfl rfl HH.out (by show _ = some 16; kernel_rfl) HZ.out ?_) | (refine wp_store_mid 30 _ _ rfl (w.heap.size + 2) 0 (Led.cells L).toArray rfl rfl HH.out (by show _ = some 16; kernel_rfl) HZ.out ?_))
    refine (pGood_calls L X (HL.out.below HBX.out (Nat.le_refl _)) HOK.out HSM.out).mono ?_
    rintro e w1 ⟨rfl, hb1⟩
    rw [HGD.out]
    have HB1 := Lib.hid (HBC.out.later hb1)
    have HE1 := Lib.hid (HBE.out.later hb1)
    have HRE1 := Lib.hid HE1.out.range
    have HX1 := Lib.hid (below_go HBX.out hb1)
    clear hb1
    have e0 := HE1.out 0 _ rfl
    have e1 := HE1.out 1 _ rfl
    have e2 := HE1.out 2 _ rfl
    have e3 := HE1.out 3 _ rfl
    have e4 := HE1.out 4 _ rfl
    have e5 := HE1.out 5 _ rfl
    have e6 := HE1.out 6 _ rfl
    have e7 := HE1.out 7 _ rfl
    go_wp2_with fail
    clear e0 e1 e2 e3 e4 e5 e6 e7
    refine (entGood_calls E.k E.r E.gv E.os E.n w1 (HG.out.below HX1.out (Nat.le_refl _))).mono ?_
    rintro e w2 ⟨rfl, hb2⟩
    have HB2 := Lib.hid (HB1.out.later hb2)
    have HE2 := Lib.hid (HE1.out.later hb2)
    have HX2 := Lib.hid (below_go HX1.out hb2)
    have HH2 := Lib.hid HB2.out.res
    clear hb2
    cases hge : goodEnt E.k E.r E.os E.n with
    | false =>
      have HA := Lib.hid (show applyL L E = (zeroL, false, 3) by unfold applyL; rw [if_neg (by unfold Ent.good; simp [hge])])
      clear hge
      go_upto_region 2 with fail
      go_wp2_with (first | (refine wpList_load_mid rfl 30 _ rfl (w.heap.size) 0 rfl (Led.cells zeroL) _ HRG.out Try.underlying30 rfl (by show _ = some 16; kernel_rfl) ?_) | (refine wp_load_mid 30 _ rfl (w.heap.size) 0 rfl (Led.cells zeroL) _ HRG.out Try.underlying30 rfl (by show _ = some 16; kernel_rfl) ?_) | (refine wpList_store_mid rfl 30 _ _ rfl (w.heap.size + 2) 0 (Led.cells zeroL).toArray rfl rfl HH2.out (by show _ = some 16; kernel_rfl) HZ.out ?_) | (refine wp_store_mid 30 _ _ rfl (w.heap.size + 2) 0 (Led.cells zeroL).toArray rfl rfl HH2.out (by show _ = some 16; kernel_rfl) HZ.out ?_))
      refine bodyPost_ret (v := .tuple #[.agg (Led.cells zeroL).toArray, .bool false, .int .i64 3]) (results_cell3 Try.results10 rfl (resR_run HH2.out)) rfl ?_
      rw [HA.out]
      exact ⟨zeroL, rfl, SameL.refl _, ledO_zero _ _, HX2.out.trans ((only_cells _ _ _ _).below (by have := HX2.out.size; have := HXS.out; have := HBX.out.size; omega) (fun j hj e => by omega))⟩
    | true =>
      have HA := Lib.hid (show applyL L E = stepL L E by unfold applyL; rw [if_pos ⟨HGD.out, hge⟩])
      have HGE := Lib.hid hge
      have HR2 := Lib.hid HB2.out.box.range
      clear hge
      go_wp2_with (first | (refine wpList_load_mid rfl 30 _ rfl (w.heap.size) 0 rfl (Led.cells L) _ HR2.out Try.underlying30 rfl (by show _ = some 16; kernel_rfl) ?_) | (refine wp_load_mid 30 _ rfl (w.heap.size) 0 rfl (Led.cells L) _ HR2.out Try.underlying30 rfl (by show _ = some 16; kernel_rfl) ?_) | (refine wpList_store_mid rfl 30 _ _ rfl (w.heap.size + 2) 0 (Led.cells L).toArray rfl rfl HH2.out (by show _ = some 16; kernel_rfl) HZ.out ?_) | (refine wp_store_mid 30 _ _ rfl (w.heap.size + 2) 0 (Led.cells L).toArray rfl rfl HH2.out (by show _ = some 16; kernel_rfl) HZ.out ?_))
      refine (pOwn_calls L w2 (HL.out.below HX2.out (Nat.le_refl _)) HSM.out).mono ?_
      rintro e w3 ⟨M, rfl, hS, hO3, hb3⟩
      have HS := Lib.hid hS
      have hB3 := HB2.out.later hb3
      have HTS := Lib.hid hB3.there
      have HB3 := Lib.hid hB3
      have HM1 := Lib.hid (led_all M (own_one hO3.rows) (own_one hO3.opn) (own_one hO3.bats) (own_one hO3.ops))
      have HO3 := Lib.hid hO3
      have HX3 := Lib.hid (below_go HX2.out hb3)
      have HE3 := Lib.hid (HE2.out.later hb3)
      have HZS := Lib.hid (show w.heap.size + 3 ≤ w2.heap.size ∧ w2.heap.size ≤ w3.heap.size from ⟨by have := HB2.out.hR; omega, hb3.size⟩)
      have HFIN := Lib.hid (fun (M1 : Led) (b : Bool) (c : Int) (M2 : Led) (W' : World) (h1 : stepL M E = (M1, b, c)) (h2 : SameL M1 M2) (h3 : LedO W' w.heap.size M2) (h4 : Below w.heap.size w W') =>
        show ∃ M', Ending.returned (.tuple #[.agg M2.cells.toArray, .bool b, .int .i64 c]) = Ending.returned (.tuple #[.agg M'.cells.toArray, .bool (applyL L E).2.1, .int .i64 (applyL L E).2.2]) ∧ SameL (applyL L E).1 M' ∧ LedO W' w.heap.size M' ∧ Below w.heap.size w W' by
          have h := stepL_same hS E
          rw [h1] at h
          rw [HA.out, ← h.2]
          exact ⟨M2, rfl, h.1.trans h2, h3, h4⟩)
      clear hS hB3 hO3 hb3
      go_upto_region 4 with (first | (refine wpList_store_mid rfl 30 _ _ rfl (w.heap.size) 0 (Led.cells M).toArray rfl rfl HTS.out (by show _ = some 16; kernel_rfl) HM1.out ?_) | (refine wp_store_mid 30 _ _ rfl (w.heap.size) 0 (Led.cells M).toArray rfl rfl HTS.out (by show _ = some 16; kernel_rfl) HM1.out ?_))
      have honS := only_cells w3 w.heap.size M.cells 0
      have HB := Lib.hid (HB3.out.put M)
      have HE := Lib.hid (HE3.out.only honS (by omega))
      have HO := Lib.hid (HO3.out.off honS (fun g hg _ e => by have := HZS.out; omega))
      have HBW := Lib.hid (HX3.out.trans (honS.below (by have := HZS.out; omega) (fun j hj e => by omega)))
      have HZW := Lib.hid (show w.heap.size + 3 ≤ w2.heap.size ∧ w2.heap.size ≤ (w3.setCells w.heap.size 0 M.cells).heap.size from ⟨HZS.out.1, by have := honS.size; have := HZS.out; omega⟩)
      clear honS
      generalize hW : w3.setCells _ _ _ = W at *
      clear hW HB3 HTS HB1 HB2 HBC HBE HE1 HE2 HE3 HX HRG HRE HRE1 HR2 HO3 HZS HX1 HX2 HX3
      have hgq := (goodEnt_iff E.k E.r E.os E.n).1 HGE.out
      have HGQ := Lib.hid hgq
      have hk05 : 0 ≤ E.k ∧ E.k ≤ 5 := ⟨hgq.1.1, hgq.1.2.1⟩
      clear hgq
      obtain ⟨k, ⟨rp, rs, rq, rkey, rval⟩, gv, os, n⟩ := E
      have hk := HK.out
      simp only at hk
      clear HK
      subst hk
      simp only at hk05
      have hz := HZW.out
      have HRW := Lib.hid HB.out.box.range
      have HRT := Lib.hid HB.out.res
      have e0 : W.cell? ⟨w.heap.size + 1, 0, none⟩ = some (.int .i64 1) := HE.out 0 _ rfl
      have hgood : M.good = true := by rw [HS.out.good]; exact HGD.out
      have hgm := ((good_iff M).1 hgood).1
      have hnums : I64 M.sealed ∧ I64 M.decided ∧ I64 M.keep := (HS.out.ok HOK.out).nums
      unfold I64 at hnums
      have HGM := Lib.hid hgood
      have HFN := Lib.hid (show 0 ≤ M.decided ∧ M.decided ≤ M.sealed ∧ M.sealed - M.decided ≤ 64 ∧ 0 ≤ M.keep ∧ M.keep ≤ 64 ∧ M.sealed ≤ 9223372036854775807 by omega)
      clear hgood hgm hnums hk05
      have e1 : W.cell? ⟨w.heap.size + 1, 1, none⟩ = some (.int .i64 rp) := HE.out 1 _ rfl
      have e2 : W.cell? ⟨w.heap.size + 1, 2, none⟩ = some (.int .i64 rs) := HE.out 2 _ rfl
      have e3 : W.cell? ⟨w.heap.size + 1, 3, none⟩ = some (.int .i64 rq) := HE.out 3 _ rfl
      have e4 : W.cell? ⟨w.heap.size + 1, 4, none⟩ = some (.string rkey) := HE.out 4 _ rfl
      have e5 : W.cell? ⟨w.heap.size + 1, 5, none⟩ = some (.int .u32 rval) := HE.out 5 _ rfl
      go_upto_region 6 with fail
      go_wp2_with (first | (refine wpList_load_mid rfl 30 _ rfl (w.heap.size) 0 rfl (Led.cells M) _ HRW.out Try.underlying30 rfl (by show _ = some 16; kernel_rfl) ?_) | (refine wp_load_mid 30 _ rfl (w.heap.size) 0 rfl (Led.cells M) _ HRW.out Try.underlying30 rfl (by show _ = some 16; kernel_rfl) ?_) | (refine wpList_store_mid rfl 30 _ _ rfl (w.heap.size + 2) 0 (Led.cells M).toArray rfl rfl HRT.out (by show _ = some 16; kernel_rfl) HM1.out ?_) | (refine wp_store_mid 30 _ _ rfl (w.heap.size + 2) 0 (Led.cells M).toArray rfl rfl HRT.out (by show _ = some 16; kernel_rfl) HM1.out ?_))
      refine (record_calls M w2.heap.size ⟨rp, rs, rq, rkey, rval⟩ W HO.out (HS.out.ok HOK.out) ((table_good _).1 ((good_iff M).1 HGM.out).1.1) (HS.out.small HSM.out).opn HGQ.out.2.2.2.2.2 HEK.out.2.1 hz.2).mono ?_
      rintro e w5 ⟨rv5, ov5, rfl, hO5, hon5⟩
      have hB5 := HB.out.other hon5 (fun e => by have := (World.ownsRow.lt HO.out.opn _ e).1; omega) (fun e => by have := (World.ownsRow.lt HO.out.opn _ e).1; omega)
      have HT5 := Lib.hid hB5.res
      have H5L := Lib.hid (led_all { M.recL ⟨rp, rs, rq, rkey, rval⟩ with rv := rv5, ov := ov5 } (own_one hO5.rows) (own_one hO5.opn) (own_one hO5.bats) (own_one hO5.ops))
      have HSL := Lib.hid (show SameL (M.recL ⟨rp, rs, rq, rkey, rval⟩) { M.recL ⟨rp, rs, rq, rkey, rval⟩ with rv := rv5, ov := ov5 } from ⟨rfl, rfl, rfl, rfl, rfl, rfl, rfl, rfl, rfl⟩)
      have HO5 := Lib.hid hO5
      have HON5 := Lib.hid hon5
      clear hB5 hO5 hon5 e0 e1 e2 e3 e4 e5
      generalize hC : ({ M.recL ⟨rp, rs, rq, rkey, rval⟩ with rv := rv5, ov := ov5 } : Led) = CUR at *
      clear hC
      go_wp2_with (first | (refine wpList_load_mid rfl 30 _ rfl (w.heap.size) 0 rfl (Led.cells CUR) _ HRW.out Try.underlying30 rfl (by show _ = some 16; kernel_rfl) ?_) | (refine wp_load_mid 30 _ rfl (w.heap.size) 0 rfl (Led.cells CUR) _ HRW.out Try.underlying30 rfl (by show _ = some 16; kernel_rfl) ?_) | (refine wpList_store_mid rfl 30 _ _ rfl (w.heap.size + 2) 0 (Led.cells CUR).toArray rfl rfl HT5.out (by show _ = some 16; kernel_rfl) H5L.out ?_) | (refine wp_store_mid 30 _ _ rfl (w.heap.size + 2) 0 (Led.cells CUR).toArray rfl rfl HT5.out (by show _ = some 16; kernel_rfl) H5L.out ?_))
      refine bodyPost_ret (v := .tuple #[.agg CUR.cells.toArray, .bool (M.recTook ⟨rp, rs, rq, rkey, rval⟩), .int .i64 (M.recCode ⟨rp, rs, rq, rkey, rval⟩)]) (results_cell3 Try.results10 rfl (resR_run HT5.out)) rfl ?_
      exact HFIN.out (M.recL ⟨rp, rs, rq, rkey, rval⟩) _ _ CUR _ rfl HSL.out ((HO5.out.off (only_cells _ _ _ _) (fun g hg _ e => by omega)).mono (by omega)) (HBW.out.trans ((HON5.out.below (by omega) (fun j hj e => by have := (World.ownsRow.lt HO.out.opn j e).1; omega)).trans ((only_cells _ _ _ _).below (by have := HON5.out.size; omega) (fun j hj e => by omega))))
end Go.Proofs.Ytkabfjbmofpkdaa

/- Layer 14: what an entry does to a ledger, walked: entries of kind 2. -/
namespace Go.Proofs.Ytkabfjbmofpkdaa
open Go.RowKit Go.Shelf
set_option maxRecDepth 100000

set_option maxHeartbeats 4000000 in
theorem apply_k2 (L : Led) (E : Ent) (hk : E.k = 2) (w : World) (hL : LedR w L) (hok : L.Ok) (hsm : L.Small) (hG : OpsR w E.gv E.os) (hek : E.Ok) (hes : E.Small) :
    Calls Try.prog 10 #[.agg L.cells.toArray, .agg E.cells.toArray] w fun e w' => ∃ M, e = .returned (.tuple #[.agg M.cells.toArray, .bool (applyL L E).2.1, .int .i64 (applyL L E).2.2]) ∧ SameL (applyL L E).1 M ∧ LedO w' w.heap.size M ∧ Below w.heap.size w w' := by
  have HK := Lib.hid hk
  clear hk
  obtain ⟨X, hX⟩ : ∃ X, X = ((w.alloc (.cells L.cells.toArray 30)).alloc (.cells E.cells.toArray 35)).alloc (.cells zero16 30) := ⟨_, rfl⟩
  have hbX : Below w.heap.size w X := by rw [hX]; exact below_box (below_box (below_alloc _ _) _) _
  have hXs : X.heap.size = w.heap.size + 3 := by rw [hX]; simp
  have hBC : BoxC w.heap.size (w.heap.size + 2) X L := by
    refine ⟨?_, fun j => ?_, fun j hj => ?_, by omega, by omega, by omega⟩
    · rw [hX]; exact ((boxL_self w L 30).later (below_alloc _ _)).later (below_alloc _ _)
    · rw [hX, World.frozen?_alloc_past _ _ _ (by simp <;> omega), World.frozen?_alloc_past _ _ _ (by simp <;> omega), World.frozen?_alloc_at _ _ _ _ rfl]
    · refine ⟨?_, by rw [hX, World.frozen?_alloc_at _ _ _ _ (by simp)]⟩
      rw [hX, World.cell?_alloc_at _ _ _ _ (by simp)]
      show (zero16[0 + j]?).isSome = true
      rw [Nat.zero_add]
      have : j < zero16.size := hj
      rw [Array.getElem?_eq_getElem this]; rfl
  have hBE : BoxE X (w.heap.size + 1) E := by
    rw [hX]
    have := (boxE_self (w.alloc (.cells L.cells.toArray 30)) E 35).later (below_alloc _ (.cells zero16 30))
    rwa [World.size_alloc] at this
  have HX := Lib.hid hX
  have HBC := Lib.hid hBC
  have HBE := Lib.hid hBE
  have HBX := Lib.hid hbX
  have HXS := Lib.hid hXs
  have HL := Lib.hid hL
  have HOK := Lib.hid hok
  have HSM := Lib.hid hsm
  have HG := Lib.hid hG
  have HEK := Lib.hid hek
  have HES := Lib.hid hes
  have HRG := Lib.hid hBC.box.range
  have HRE := Lib.hid hBE.range
  clear hX hBC hBE hbX hXs hL hok hsm hG hek hes
  go_enter Try.func10, Try.ntmps10
  go_upto_region 1 with fail
  rw [show ((w.alloc (.cells L.cells.toArray 30)).alloc (.cells E.cells.toArray 35)).alloc (.cells #[.slice none 0 0, .int .i64 0, .int .i64 0, .int .i64 0, .int .i64 0, .int .i64 0, .int .i64 0, .int .i64 0, .int .i64 0, .slice none 0 0, .slice none 0 0, .int .i64 0, .int .i64 0, .bool false, .slice none 0 0, .int .i64 0] 30) = X from HX.out.symm]
  have HH := Lib.hid HBC.out.res
  have HZ := Lib.hid (led_all zeroL rfl rfl rfl rfl)
  cases hg : L.good with
  | false =>
    have HA := Lib.hid (show applyL L E = (zeroL, false, 3) by unfold applyL; rw [if_neg (by simp [hg])])
    have HGD := Lib.hid hg
    clear hg
    go_wp2_with (first | (refine wpList_load_mid rfl 30 _ rfl (w.heap.size) 0 rfl (Led.cells L) _ HRG.out Try.underlying30 rfl (by show _ = some 16; kernel_rfl) ?_) | (refine wp_load_mid 30 _ rfl (w.heap.size) 0 rfl (Led.cells L) _ HRG.out Try.underlying30 rfl (by show _ = some 16; kernel_rfl) ?_) | (refine wpList_store_mid rfl 30 _ _ rfl (w.heap.size + 2) 0 (Led.cells L).toArray rfl rfl HH.out (by show _ = some 16; kernel_rfl) HZ.out ?_) | (refine wp_store_mid 30 _ _ rfl (w.heap.size + 2) 0 (Led.cells L).toArray rfl rfl HH.out (by show _ = some 16; kernel_rfl) HZ.out ?_))
    refine (pGood_calls L X (HL.out.below HBX.out (Nat.le_refl _)) HOK.out HSM.out).mono ?_
    rintro e w1 ⟨rfl, hb1⟩
    rw [HGD.out]
    have HB1 := Lib.hid (HBC.out.later hb1)
    have HH1 := Lib.hid HB1.out.res
    have HX1 := Lib.hid (below_go HBX.out hb1)
    clear hb1
    go_upto_region 2 with fail
    go_wp2_with (first | (refine wpList_load_mid rfl 30 _ rfl (w.heap.size) 0 rfl (Led.cells zeroL) _ HRG.out Try.underlying30 rfl (by show _ = some 16; kernel_rfl) ?_) | (refine wp_load_mid 30 _ rfl (w.heap.size) 0 rfl (Led.cells zeroL) _ HRG.out Try.underlying30 rfl (by show _ = some 16; kernel_rfl) ?_) | (refine wpList_store_mid rfl 30 _ _ rfl (w.heap.size + 2) 0 (Led.cells zeroL).toArray rfl rfl HH1.out (by show _ = some 16; kernel_rfl) HZ.out ?_) | (refine wp_store_mid 30 _ _ rfl (w.heap.size + 2) 0 (Led.cells zeroL).toArray rfl rfl HH1.out (by show _ = some 16; kernel_rfl) HZ.out ?_))
    refine bodyPost_ret (v := .tuple #[.agg (Led.cells zeroL).toArray, .bool false, .int .i64 3]) (results_cell3 Try.results10 rfl (resR_run HH1.out)) rfl ?_
    rw [HA.out]
    exact ⟨zeroL, rfl, SameL.refl _, ledO_zero _ _, HX1.out.trans ((only_cells _ _ _ _).below (by have := HX1.out.size; have := HXS.out; have := HBX.out.size; omega) (fun j hj e => by omega))⟩
  | true =>
    have HGD := Lib.hid hg
    clear hg
    go_wp2_with (first | (refine wpList_load_mid rfl 30 _ rfl (w.heap.size) 0 rfl (Led.cells L) _ HRG.out Try.underlying30 rfl (by show _ = some 16; kernel_rfl) ?_) | (refine wp_load_mid 30 _ rfl (w.heap.size) 0 rfl (Led.cells L) _ HRG.out Try.underlying30 rfl (by show _ = some 16; kernel_rfl) ?_) | (refine wpList_store_mid rfl 30 _ _ rfl (w.heap.size + 2) 0 (Led.cells L).toArray rfl rfl HH.out (by show _ = some 16; kernel_rfl) HZ.out ?_) | (refine wp_store_mid 30 _ _ rfl (w.heap.size + 2) 0 (Led.cells L).toArray rfl rfl HH.out (by show _ = some 16; kernel_rfl) HZ.out ?_))
    refine (pGood_calls L X (HL.out.below HBX.out (Nat.le_refl _)) HOK.out HSM.out).mono ?_
    rintro e w1 ⟨rfl, hb1⟩
    rw [HGD.out]
    have HB1 := Lib.hid (HBC.out.later hb1)
    have HE1 := Lib.hid (HBE.out.later hb1)
    have HRE1 := Lib.hid HE1.out.range
    have HX1 := Lib.hid (below_go HBX.out hb1)
    clear hb1
    have e0 := HE1.out 0 _ rfl
    have e1 := HE1.out 1 _ rfl
    have e2 := HE1.out 2 _ rfl
    have e3 := HE1.out 3 _ rfl
    have e4 := HE1.out 4 _ rfl
    have e5 := HE1.out 5 _ rfl
    have e6 := HE1.out 6 _ rfl
    have e7 := HE1.out 7 _ rfl
    go_wp2_with fail
    clear e0 e1 e2 e3 e4 e5 e6 e7
    refine (entGood_calls E.k E.r E.gv E.os E.n w1 (HG.out.below HX1.out (Nat.le_refl _))).mono ?_
    rintro e w2 ⟨rfl, hb2⟩
    have HB2 := Lib.hid (HB1.out.later hb2)
    have HE2 := Lib.hid (HE1.out.later hb2)
    have HX2 := Lib.hid (below_go HX1.out hb2)
    have HH2 := Lib.hid HB2.out.res
    clear hb2
    cases hge : goodEnt E.k E.r E.os E.n with
    | false =>
      have HA := Lib.hid (show applyL L E = (zeroL, false, 3) by unfold applyL; rw [if_neg (by unfold Ent.good; simp [hge])])
      clear hge
      go_upto_region 2 with fail
      go_wp2_with (first | (refine wpList_load_mid rfl 30 _ rfl (w.heap.size) 0 rfl (Led.cells zeroL) _ HRG.out Try.underlying30 rfl (by show _ = some 16; kernel_rfl) ?_) | (refine wp_load_mid 30 _ rfl (w.heap.size) 0 rfl (Led.cells zeroL) _ HRG.out Try.underlying30 rfl (by show _ = some 16; kernel_rfl) ?_) | (refine wpList_store_mid rfl 30 _ _ rfl (w.heap.size + 2) 0 (Led.cells zeroL).toArray rfl rfl HH2.out (by show _ = some 16; kernel_rfl) HZ.out ?_) | (refine wp_store_mid 30 _ _ rfl (w.heap.size + 2) 0 (Led.cells zeroL).toArray rfl rfl HH2.out (by show _ = some 16; kernel_rfl) HZ.out ?_))
      refine bodyPost_ret (v := .tuple #[.agg (Led.cells zeroL).toArray, .bool false, .int .i64 3]) (results_cell3 Try.results10 rfl (resR_run HH2.out)) rfl ?_
      rw [HA.out]
      exact ⟨zeroL, rfl, SameL.refl _, ledO_zero _ _, HX2.out.trans ((only_cells _ _ _ _).below (by have := HX2.out.size; have := HXS.out; have := HBX.out.size; omega) (fun j hj e => by omega))⟩
    | true =>
      have HA := Lib.hid (show applyL L E = stepL L E by unfold applyL; rw [if_pos ⟨HGD.out, hge⟩])
      have HGE := Lib.hid hge
      have HR2 := Lib.hid HB2.out.box.range
      clear hge
      go_wp2_with (first | (refine wpList_load_mid rfl 30 _ rfl (w.heap.size) 0 rfl (Led.cells L) _ HR2.out Try.underlying30 rfl (by show _ = some 16; kernel_rfl) ?_) | (refine wp_load_mid 30 _ rfl (w.heap.size) 0 rfl (Led.cells L) _ HR2.out Try.underlying30 rfl (by show _ = some 16; kernel_rfl) ?_) | (refine wpList_store_mid rfl 30 _ _ rfl (w.heap.size + 2) 0 (Led.cells L).toArray rfl rfl HH2.out (by show _ = some 16; kernel_rfl) HZ.out ?_) | (refine wp_store_mid 30 _ _ rfl (w.heap.size + 2) 0 (Led.cells L).toArray rfl rfl HH2.out (by show _ = some 16; kernel_rfl) HZ.out ?_))
      refine (pOwn_calls L w2 (HL.out.below HX2.out (Nat.le_refl _)) HSM.out).mono ?_
      rintro e w3 ⟨M, rfl, hS, hO3, hb3⟩
      have HS := Lib.hid hS
      have hB3 := HB2.out.later hb3
      have HTS := Lib.hid hB3.there
      have HB3 := Lib.hid hB3
      have HM1 := Lib.hid (led_all M (own_one hO3.rows) (own_one hO3.opn) (own_one hO3.bats) (own_one hO3.ops))
      have HO3 := Lib.hid hO3
      have HX3 := Lib.hid (below_go HX2.out hb3)
      have HE3 := Lib.hid (HE2.out.later hb3)
      have HZS := Lib.hid (show w.heap.size + 3 ≤ w2.heap.size ∧ w2.heap.size ≤ w3.heap.size from ⟨by have := HB2.out.hR; omega, hb3.size⟩)
      have HFIN := Lib.hid (fun (M1 : Led) (b : Bool) (c : Int) (M2 : Led) (W' : World) (h1 : stepL M E = (M1, b, c)) (h2 : SameL M1 M2) (h3 : LedO W' w.heap.size M2) (h4 : Below w.heap.size w W') =>
        show ∃ M', Ending.returned (.tuple #[.agg M2.cells.toArray, .bool b, .int .i64 c]) = Ending.returned (.tuple #[.agg M'.cells.toArray, .bool (applyL L E).2.1, .int .i64 (applyL L E).2.2]) ∧ SameL (applyL L E).1 M' ∧ LedO W' w.heap.size M' ∧ Below w.heap.size w W' by
          have h := stepL_same hS E
          rw [h1] at h
          rw [HA.out, ← h.2]
          exact ⟨M2, rfl, h.1.trans h2, h3, h4⟩)
      clear hS hB3 hO3 hb3
      go_upto_region 4 with (first | (refine wpList_store_mid rfl 30 _ _ rfl (w.heap.size) 0 (Led.cells M).toArray rfl rfl HTS.out (by show _ = some 16; kernel_rfl) HM1.out ?_) | (refine wp_store_mid 30 _ _ rfl (w.heap.size) 0 (Led.cells M).toArray rfl rfl HTS.out (by show _ = some 16; kernel_rfl) HM1.out ?_))
      have honS := only_cells w3 w.heap.size M.cells 0
      have HB := Lib.hid (HB3.out.put M)
      have HE := Lib.hid (HE3.out.only honS (by omega))
      have HO := Lib.hid (HO3.out.off honS (fun g hg _ e => by have := HZS.out; omega))
      have HBW := Lib.hid (HX3.out.trans (honS.below (by have := HZS.out; omega) (fun j hj e => by omega)))
      have HZW := Lib.hid (show w.heap.size + 3 ≤ w2.heap.size ∧ w2.heap.size ≤ (w3.setCells w.heap.size 0 M.cells).heap.size from ⟨HZS.out.1, by have := honS.size; have := HZS.out; omega⟩)
      clear honS
      generalize hW : w3.setCells _ _ _ = W at *
      clear hW HB3 HTS HB1 HB2 HBC HBE HE1 HE2 HE3 HX HRG HRE HRE1 HR2 HO3 HZS HX1 HX2 HX3
      have hgq := (goodEnt_iff E.k E.r E.os E.n).1 HGE.out
      have HGQ := Lib.hid hgq
      have hk05 : 0 ≤ E.k ∧ E.k ≤ 5 := ⟨hgq.1.1, hgq.1.2.1⟩
      clear hgq
      obtain ⟨k, ⟨rp, rs, rq, rkey, rval⟩, gv, os, n⟩ := E
      have hk := HK.out
      simp only at hk
      clear HK
      subst hk
      simp only at hk05
      have hz := HZW.out
      have HRW := Lib.hid HB.out.box.range
      have HRT := Lib.hid HB.out.res
      have e0 : W.cell? ⟨w.heap.size + 1, 0, none⟩ = some (.int .i64 2) := HE.out 0 _ rfl
      have hgood : M.good = true := by rw [HS.out.good]; exact HGD.out
      have hgm := ((good_iff M).1 hgood).1
      have hnums : I64 M.sealed ∧ I64 M.decided ∧ I64 M.keep := (HS.out.ok HOK.out).nums
      unfold I64 at hnums
      have HGM := Lib.hid hgood
      have HFN := Lib.hid (show 0 ≤ M.decided ∧ M.decided ≤ M.sealed ∧ M.sealed - M.decided ≤ 64 ∧ 0 ≤ M.keep ∧ M.keep ≤ 64 ∧ M.sealed ≤ 9223372036854775807 by omega)
      clear hgood hgm hnums hk05
      have e7 : W.cell? ⟨w.heap.size + 1, 7, none⟩ = some (.int .i64 n) := HE.out 7 _ rfl
      have c13 := HB.out.box 13 _ rfl
      have c11 := HB.out.box 11 _ rfl
      have c12 := HB.out.box 12 _ rfl
      cases hd : M.dep with
      | false =>
        rw [hd] at c13
        have HST := Lib.hid (show stepL M ⟨2, ⟨rp, rs, rq, rkey, rval⟩, gv, os, n⟩ = (M, false, 9) by simp [stepL, hd])
        clear hd c11 c12 e7
        go_upto_region 9 with fail
        go_wp2_with (first | (refine wpList_load_mid rfl 30 _ rfl (w.heap.size) 0 rfl (Led.cells M) _ HRW.out Try.underlying30 rfl (by show _ = some 16; kernel_rfl) ?_) | (refine wp_load_mid 30 _ rfl (w.heap.size) 0 rfl (Led.cells M) _ HRW.out Try.underlying30 rfl (by show _ = some 16; kernel_rfl) ?_) | (refine wpList_store_mid rfl 30 _ _ rfl (w.heap.size + 2) 0 (Led.cells M).toArray rfl rfl HRT.out (by show _ = some 16; kernel_rfl) HM1.out ?_) | (refine wp_store_mid 30 _ _ rfl (w.heap.size + 2) 0 (Led.cells M).toArray rfl rfl HRT.out (by show _ = some 16; kernel_rfl) HM1.out ?_))
        refine bodyPost_ret (v := .tuple #[.agg (Led.cells M).toArray, .bool false, .int .i64 9]) (results_cell3 Try.results10 rfl (resR_run HRT.out)) rfl ?_
        exact HFIN.out _ _ _ M _ HST.out (SameL.refl _) ((HO.out.off (only_cells _ _ _ _) (fun g hg _ e => by omega)).mono (by omega)) (HBW.out.trans ((only_cells _ _ _ _).below (by omega) (fun j hj e => by omega)))
      | true =>
        rw [hd] at c13
        have HD := Lib.hid hd
        clear hd
        by_cases hn : n = M.sealed
        · subst hn
          by_cases hmx : M.sealed = 9223372036854775807
          · have HST := Lib.hid (show stepL M ⟨2, ⟨rp, rs, rq, rkey, rval⟩, gv, os, M.sealed⟩ = (M, false, 14) by simp [stepL, HD.out, hmx])
            have hq : (M.sealed == 9223372036854775807) = true := beq_iff_eq.2 hmx
            clear hmx c12
            go_upto_region 11 with fail
            go_wp2_with (first | (refine wpList_load_mid rfl 30 _ rfl (w.heap.size) 0 rfl (Led.cells M) _ HRW.out Try.underlying30 rfl (by show _ = some 16; kernel_rfl) ?_) | (refine wp_load_mid 30 _ rfl (w.heap.size) 0 rfl (Led.cells M) _ HRW.out Try.underlying30 rfl (by show _ = some 16; kernel_rfl) ?_) | (refine wpList_store_mid rfl 30 _ _ rfl (w.heap.size + 2) 0 (Led.cells M).toArray rfl rfl HRT.out (by show _ = some 16; kernel_rfl) HM1.out ?_) | (refine wp_store_mid 30 _ _ rfl (w.heap.size + 2) 0 (Led.cells M).toArray rfl rfl HRT.out (by show _ = some 16; kernel_rfl) HM1.out ?_))
            refine bodyPost_ret (v := .tuple #[.agg (Led.cells M).toArray, .bool false, .int .i64 14]) (results_cell3 Try.results10 rfl (resR_run HRT.out)) rfl ?_
            exact HFIN.out _ _ _ M _ HST.out (SameL.refl _) ((HO.out.off (only_cells _ _ _ _) (fun g hg _ e => by omega)).mono (by omega)) (HBW.out.trans ((only_cells _ _ _ _).below (by omega) (fun j hj e => by omega)))
          · have hq : (M.sealed == 9223372036854775807) = false := beq_eq_false_iff_ne.2 hmx
            have hfn := HFN.out
            by_cases h64 : 64 ≤ M.sealed - M.decided
            · have HST := Lib.hid (show stepL M ⟨2, ⟨rp, rs, rq, rkey, rval⟩, gv, os, M.sealed⟩ = (M, false, 10) by simp [stepL, HD.out, hmx, h64])
              have hb : decide ((64 : Int) ≤ M.sealed - M.decided) = true := decide_eq_true h64
              clear hmx h64
              go_upto_region 13 with fail
              go_wp2_with (first | (refine wpList_load_mid rfl 30 _ rfl (w.heap.size) 0 rfl (Led.cells M) _ HRW.out Try.underlying30 rfl (by show _ = some 16; kernel_rfl) ?_) | (refine wp_load_mid 30 _ rfl (w.heap.size) 0 rfl (Led.cells M) _ HRW.out Try.underlying30 rfl (by show _ = some 16; kernel_rfl) ?_) | (refine wpList_store_mid rfl 30 _ _ rfl (w.heap.size + 2) 0 (Led.cells M).toArray rfl rfl HRT.out (by show _ = some 16; kernel_rfl) HM1.out ?_) | (refine wp_store_mid 30 _ _ rfl (w.heap.size + 2) 0 (Led.cells M).toArray rfl rfl HRT.out (by show _ = some 16; kernel_rfl) HM1.out ?_))
              refine bodyPost_ret (v := .tuple #[.agg (Led.cells M).toArray, .bool false, .int .i64 10]) (results_cell3 Try.results10 rfl (resR_run HRT.out)) rfl ?_
              exact HFIN.out _ _ _ M _ HST.out (SameL.refl _) ((HO.out.off (only_cells _ _ _ _) (fun g hg _ e => by omega)).mono (by omega)) (HBW.out.trans ((only_cells _ _ _ _).below (by omega) (fun j hj e => by omega)))
            · have HST := Lib.hid (show stepL M ⟨2, ⟨rp, rs, rq, rkey, rval⟩, gv, os, M.sealed⟩ = (M.sealL, true, 0) by simp [stepL, HD.out, hmx, h64])
              have hb : decide ((64 : Int) ≤ M.sealed - M.decided) = false := decide_eq_false h64
              have hsq : -9223372036854775808 ≤ M.sealed ∧ M.sealed < 9223372036854775807 := by omega
              obtain ⟨oa, oc, hov⟩ := own_slice HO.out.opn
              obtain ⟨ba, bc, hbv⟩ := own_slice HO.out.bats
              have HV := Lib.hid (And.intro hov hbv)
              have hol := (HS.out.small HSM.out).bats
              clear hmx h64 hov hbv
              go_upto_region 14 with fail
              have c9 := HB.out.box 9 _ rfl
              have c10 := HB.out.box 10 _ rfl
              rw [HV.out.1] at c9
              rw [HV.out.2] at c10
              have HLIT := Lib.hid (Rd.lit (w := W) (cs := #[.int .i64 M.sealed, .slice oa M.opn.length oc]) (e := 67) (n := 1) (sz := 2) rfl (by omega))
              have hal := below_alloc W (.cells #[.int .i64 M.sealed, .slice oa M.opn.length oc] 67)
              have HAL := Lib.hid hal
              have HOP3 := Lib.hid (ownsRow_below HO.out.bats hal (Nat.le_refl _))
              rw [HV.out.2] at HOP3
              have HBA := Lib.hid (HB.out.later hal)
              have hbs : w2.heap.size ≤ (W.alloc (.cells #[.int .i64 M.sealed, .slice oa M.opn.length oc] 67)).heap.size := by have := hal.size; omega
              have HOB := Lib.hid (fun k (e : (Value.slice ba M.bats.length bc).ownBlock = some k) => (World.ownsRow.lt HO.out.bats k (by rw [HV.out.2]; exact e)))
              clear hal
              go_upto_region 15 with (at_builtin; go_loud (refine app_keep tyBats HOP3.out HLIT.out (by intro u hu; simp at hu; rcases hu with rfl | rfl <;> rfl) (by omega) (by omega) (by omega) hbs rfl rfl rfl rfl ?_; intro g3 k3 w3 hm3 hk3 hg3 hw3; have hB3 := HBA.out.other (Only.of_grown hg3) (fun e => by have := HOB.out _ e; omega) (fun e => by have := HOB.out _ e; omega); have HB3 := Lib.hid hB3; have c10 := hB3.box 10 _ rfl; have bf10 := hB3.bf 10; have HM3 := Lib.hid hm3; have HG3 := Lib.hid hg3; have HW3 := Lib.hid hw3; clear hB3 hm3 hk3 hg3 hw3))
              have hB4 := HB3.out.set (cur' := { M with bv := .slice (some ⟨g3, 0, none⟩) (M.bats.length + 1) k3 }) 10 (.slice (some ⟨g3, 0, none⟩) (M.bats.length + 1) k3) rfl (by omega)
              have hON4 : Only (fun k => k = w.heap.size ∨ k = w.heap.size + 2 ∨ M.bv.ownBlock = some k) W (w3.setCell ⟨w.heap.size, 10, none⟩ (.slice (some ⟨g3, 0, none⟩) (M.bats.length + 1) k3)) :=
                (((Only.of_below HAL.out).trans (Only.of_grown HG3.out) (fun j _ h => .inr (.inr (by rw [HV.out.2]; exact h)))).setCell ⟨w.heap.size, 10, none⟩ _ (.inl (.inl rfl)))
              have hM4 : Only (fun k => k = w.heap.size ∨ k = w.heap.size + 2) w3 (w3.setCell ⟨w.heap.size, 10, none⟩ (.slice (some ⟨g3, 0, none⟩) (M.bats.length + 1) k3)) := (Only.refl _ _).setCell ⟨w.heap.size, 10, none⟩ _ (.inl (.inl rfl))
              have HB4 := Lib.hid hB4
              have HON4 := Lib.hid hON4
              have HM4 := Lib.hid hM4
              have c9 := hB4.box 9 _ rfl
              have bf9 := hB4.bf 9
              clear hB4 hON4 hM4 c10 bf10 c11 c12 c13 e7 e0
              generalize hW3 : w3.setCell _ _ = W3 at *
              clear hW3
              go_upto_region 16 with fail
              have hB5 := HB4.out.set (cur' := { M with bv := .slice (some ⟨g3, 0, none⟩) (M.bats.length + 1) k3, ov := .slice none 0 0 }) 9 (.slice none 0 0) rfl (by omega)
              have HB5 := Lib.hid hB5
              have HON5 := Lib.hid (HON4.out.setCell ⟨w.heap.size, 9, none⟩ (.slice none 0 0) (.inl (.inl rfl)))
              have HM5 := Lib.hid (HM4.out.setCell ⟨w.heap.size, 9, none⟩ (.slice none 0 0) (.inl (.inl rfl)))
              have c11 := hB5.box 11 _ rfl
              have bf11 := hB5.bf 11
              simp only at c11
              clear hB5 c9 bf9
              generalize hW5 : W3.setCell _ _ = W5 at *
              clear hW5
              go_upto_region 17 with fail
              have hB6 := HB5.out.set (cur' := { M with bv := .slice (some ⟨g3, 0, none⟩) (M.bats.length + 1) k3, ov := .slice none 0 0, sealed := M.sealed + 1 }) 11 (.int .i64 (M.sealed + 1)) rfl (by omega)
              have HON6 := Lib.hid (HON5.out.setCell ⟨w.heap.size, 11, none⟩ (.int .i64 (M.sealed + 1)) (.inl (.inl rfl)))
              have HM6 := Lib.hid (HM5.out.setCell ⟨w.heap.size, 11, none⟩ (.int .i64 (M.sealed + 1)) (.inl (.inl rfl)))
              have HR6 := Lib.hid hB6.box.range
              have HT6 := Lib.hid hB6.res
              have H16 := Lib.hid (led_all { M with bv := .slice (some ⟨g3, 0, none⟩) (M.bats.length + 1) k3, ov := .slice none 0 0, sealed := M.sealed + 1 } (own_one HO.out.rows) rfl rfl (own_one HO.out.ops))
              clear hB6 c11 bf11
              generalize hW6 : W5.setCell _ _ = W6 at *
              clear hW6
              go_wp2_with (first | (refine wpList_load_mid rfl 30 _ rfl (w.heap.size) 0 rfl (Led.cells { M with bv := .slice (some ⟨g3, 0, none⟩) (M.bats.length + 1) k3, ov := .slice none 0 0, sealed := M.sealed + 1 }) _ HR6.out Try.underlying30 rfl (by show _ = some 16; kernel_rfl) ?_) | (refine wp_load_mid 30 _ rfl (w.heap.size) 0 rfl (Led.cells { M with bv := .slice (some ⟨g3, 0, none⟩) (M.bats.length + 1) k3, ov := .slice none 0 0, sealed := M.sealed + 1 }) _ HR6.out Try.underlying30 rfl (by show _ = some 16; kernel_rfl) ?_) | (refine wpList_store_mid rfl 30 _ _ rfl (w.heap.size + 2) 0 (Led.cells { M with bv := .slice (some ⟨g3, 0, none⟩) (M.bats.length + 1) k3, ov := .slice none 0 0, sealed := M.sealed + 1 }).toArray rfl rfl HT6.out (by show _ = some 16; kernel_rfl) H16.out ?_) | (refine wp_store_mid 30 _ _ rfl (w.heap.size + 2) 0 (Led.cells { M with bv := .slice (some ⟨g3, 0, none⟩) (M.bats.length + 1) k3, ov := .slice none 0 0, sealed := M.sealed + 1 }).toArray rfl rfl HT6.out (by show _ = some 16; kernel_rfl) H16.out ?_))
              refine bodyPost_ret (v := .tuple #[.agg (Led.cells { M with bv := .slice (some ⟨g3, 0, none⟩) (M.bats.length + 1) k3, ov := .slice none 0 0, sealed := M.sealed + 1 }).toArray, .bool true, .int .i64 0]) (results_cell3 Try.results10 rfl (resR_run HT6.out)) rfl ?_
              have hall : Only (fun k => k = w.heap.size ∨ k = w.heap.size + 2 ∨ M.bv.ownBlock = some k) W (W6.setCells (w.heap.size + 2) 0 (Led.cells { M with bv := .slice (some ⟨g3, 0, none⟩) (M.bats.length + 1) k3, ov := .slice none 0 0, sealed := M.sealed + 1 })) := HON6.out.trans (only_cells _ _ _ _) (fun j _ e => .inr (.inl e))
              have hm6 : Only (fun k => k = w.heap.size ∨ k = w.heap.size + 2) w3 (W6.setCells (w.heap.size + 2) 0 (Led.cells { M with bv := .slice (some ⟨g3, 0, none⟩) (M.bats.length + 1) k3, ov := .slice none 0 0, sealed := M.sealed + 1 })) := HM6.out.trans (only_cells _ _ _ _) (fun j _ e => .inr e)
              have hlt : ∀ {e sz n v cs}, W.ownsRow w2.heap.size e sz v n cs → e ≠ 67 → (W6.setCells (w.heap.size + 2) 0 (Led.cells { M with bv := .slice (some ⟨g3, 0, none⟩) (M.bats.length + 1) k3, ov := .slice none 0 0, sealed := M.sealed + 1 })).ownsRow w.heap.size e sz v n cs := fun h hne => ownsRow_mono (ownsRow_only h hall (fun g hg e => by
                have h1 := (World.ownsRow.lt h g hg).1
                have h2 := own_apart h HO.out.bats hne g hg
                rcases e with e | e | e <;> first | omega | exact h2 e)) (by omega)
              have hg3 : w.heap.size + 3 ≤ g3 := by
                rcases HW3.out with ⟨k, c, hk, -⟩ | h
                · have := HOB.out g3 (by rw [hk]; rfl)
                  omega
                · omega
              refine HFIN.out _ _ _ { { M with bv := .slice (some ⟨g3, 0, none⟩) (M.bats.length + 1) k3, ov := .slice none 0 0, sealed := M.sealed + 1 } with bats := M.bats ++ [⟨M.sealed, .slice oa M.opn.length oc, M.opn⟩], opn := [] } _ HST.out ⟨rfl, rfl, rfl, ?_, rfl, rfl, rfl, rfl, rfl⟩ ⟨hlt HO.out.rows (by decide), World.ownsRow_nil _ _ _ _, ?_, fun b hb => ?_, fun b hb g hg => by simp [Value.ownBlock] at hg, hlt HO.out.ops (by decide), fun o ho => hlt (HO.out.ins o ho) (by decide)⟩ ?_
              · show (M.bats ++ [_]).map Bt.con = (M.bats ++ [_]).map Bt.con
                rw [List.map_append, List.map_append]
                rfl
              · have := ownsRow_mono (ownsRow_only HM3.out hm6 (fun g hg e => by
                  simp [Value.ownBlock] at hg
                  subst hg
                  omega)) (show w.heap.size ≤ w2.heap.size by omega)
                simpa [flatF_append, flatF_one, Bt.cells] using this
              · rcases List.mem_append.1 hb with hb | hb
                · exact hlt (HO.out.recs b hb) (by decide)
                · have e := List.mem_singleton.1 hb
                  subst e
                  have := hlt HO.out.opn (by decide)
                  rw [HV.out.1] at this
                  exact this
              · exact HBW.out.trans (hall.below (by omega) (fun j hj e => by
                  rcases e with e | e | e
                  · omega
                  · omega
                  · have := HOB.out j (by rw [← HV.out.2]; exact e)
                    omega))
        · have HST := Lib.hid (show stepL M ⟨2, ⟨rp, rs, rq, rkey, rval⟩, gv, os, n⟩ = (M, false, 9) by simp [stepL, HD.out, hn])
          have hq : (n == M.sealed) = false := beq_eq_false_iff_ne.2 hn
          clear c12 hn
          go_upto_region 9 with fail
          go_wp2_with (first | (refine wpList_load_mid rfl 30 _ rfl (w.heap.size) 0 rfl (Led.cells M) _ HRW.out Try.underlying30 rfl (by show _ = some 16; kernel_rfl) ?_) | (refine wp_load_mid 30 _ rfl (w.heap.size) 0 rfl (Led.cells M) _ HRW.out Try.underlying30 rfl (by show _ = some 16; kernel_rfl) ?_) | (refine wpList_store_mid rfl 30 _ _ rfl (w.heap.size + 2) 0 (Led.cells M).toArray rfl rfl HRT.out (by show _ = some 16; kernel_rfl) HM1.out ?_) | (refine wp_store_mid 30 _ _ rfl (w.heap.size + 2) 0 (Led.cells M).toArray rfl rfl HRT.out (by show _ = some 16; kernel_rfl) HM1.out ?_))
          refine bodyPost_ret (v := .tuple #[.agg (Led.cells M).toArray, .bool false, .int .i64 9]) (results_cell3 Try.results10 rfl (resR_run HRT.out)) rfl ?_
          exact HFIN.out _ _ _ M _ HST.out (SameL.refl _) ((HO.out.off (only_cells _ _ _ _) (fun g hg _ e => by omega)).mono (by omega)) (HBW.out.trans ((only_cells _ _ _ _).below (by omega) (fun j hj e => by omega)))
end Go.Proofs.Ytkabfjbmofpkdaa

/- Layer 14: what an entry does to a ledger, walked: entries of kind 3. -/
namespace Go.Proofs.Ytkabfjbmofpkdaa
open Go.RowKit Go.Shelf
set_option maxRecDepth 100000

set_option maxHeartbeats 4000000 in
theorem apply_k3 (L : Led) (E : Ent) (hk : E.k = 3) (w : World) (hL : LedR w L) (hok : L.Ok) (hsm : L.Small) (hG : OpsR w E.gv E.os) (hek : E.Ok) (hes : E.Small) :
    Calls Try.prog 10 #[.agg L.cells.toArray, .agg E.cells.toArray] w fun e w' => ∃ M, e = .returned (.tuple #[.agg M.cells.toArray, .bool (applyL L E).2.1, .int .i64 (applyL L E).2.2]) ∧ SameL (applyL L E).1 M ∧ LedO w' w.heap.size M ∧ Below w.heap.size w w' := by
  have HK := Lib.hid hk
  clear hk
  obtain ⟨X, hX⟩ : ∃ X, X = ((w.alloc (.cells L.cells.toArray 30)).alloc (.cells E.cells.toArray 35)).alloc (.cells zero16 30) := ⟨_, rfl⟩
  have hbX : Below w.heap.size w X := by rw [hX]; exact below_box (below_box (below_alloc _ _) _) _
  have hXs : X.heap.size = w.heap.size + 3 := by rw [hX]; simp
  have hBC : BoxC w.heap.size (w.heap.size + 2) X L := by
    refine ⟨?_, fun j => ?_, fun j hj => ?_, by omega, by omega, by omega⟩
    · rw [hX]; exact ((boxL_self w L 30).later (below_alloc _ _)).later (below_alloc _ _)
    · rw [hX, World.frozen?_alloc_past _ _ _ (by simp <;> omega), World.frozen?_alloc_past _ _ _ (by simp <;> omega), World.frozen?_alloc_at _ _ _ _ rfl]
    · refine ⟨?_, by rw [hX, World.frozen?_alloc_at _ _ _ _ (by simp)]⟩
      rw [hX, World.cell?_alloc_at _ _ _ _ (by simp)]
      show (zero16[0 + j]?).isSome = true
      rw [Nat.zero_add]
      have : j < zero16.size := hj
      rw [Array.getElem?_eq_getElem this]; rfl
  have hBE : BoxE X (w.heap.size + 1) E := by
    rw [hX]
    have := (boxE_self (w.alloc (.cells L.cells.toArray 30)) E 35).later (below_alloc _ (.cells zero16 30))
    rwa [World.size_alloc] at this
  have HX := Lib.hid hX
  have HBC := Lib.hid hBC
  have HBE := Lib.hid hBE
  have HBX := Lib.hid hbX
  have HXS := Lib.hid hXs
  have HL := Lib.hid hL
  have HOK := Lib.hid hok
  have HSM := Lib.hid hsm
  have HG := Lib.hid hG
  have HEK := Lib.hid hek
  have HES := Lib.hid hes
  have HRG := Lib.hid hBC.box.range
  have HRE := Lib.hid hBE.range
  clear hX hBC hBE hbX hXs hL hok hsm hG hek hes
  go_enter Try.func10, Try.ntmps10
  go_upto_region 1 with fail
  rw [show ((w.alloc (.cells L.cells.toArray 30)).alloc (.cells E.cells.toArray 35)).alloc (.cells #[.slice none 0 0, .int .i64 0, .int .i64 0, .int .i64 0, .int .i64 0, .int .i64 0, .int .i64 0, .int .i64 0, .int .i64 0, .slice none 0 0, .slice none 0 0, .int .i64 0, .int .i64 0, .bool false, .slice none 0 0, .int .i64 0] 30) = X from HX.out.symm]
  have HH := Lib.hid HBC.out.res
  have HZ := Lib.hid (led_all zeroL rfl rfl rfl rfl)
  cases hg : L.good with
  | false =>
    have HA := Lib.hid (show applyL L E = (zeroL, false, 3) by unfold applyL; rw [if_neg (by simp [hg])])
    have HGD := Lib.hid hg
    clear hg
    go_wp2_with (first | (refine wpList_load_mid rfl 30 _ rfl (w.heap.size) 0 rfl (Led.cells L) _ HRG.out Try.underlying30 rfl (by show _ = some 16; kernel_rfl) ?_) | (refine wp_load_mid 30 _ rfl (w.heap.size) 0 rfl (Led.cells L) _ HRG.out Try.underlying30 rfl (by show _ = some 16; kernel_rfl) ?_) | (refine wpList_store_mid rfl 30 _ _ rfl (w.heap.size + 2) 0 (Led.cells L).toArray rfl rfl HH.out (by show _ = some 16; kernel_rfl) HZ.out ?_) | (refine wp_store_mid 30 _ _ rfl (w.heap.size + 2) 0 (Led.cells L).toArray rfl rfl HH.out (by show _ = some 16; kernel_rfl) HZ.out ?_))
    refine (pGood_calls L X (HL.out.below HBX.out (Nat.le_refl _)) HOK.out HSM.out).mono ?_
    rintro e w1 ⟨rfl, hb1⟩
    rw [HGD.out]
    have HB1 := Lib.hid (HBC.out.later hb1)
    have HH1 := Lib.hid HB1.out.res
    have HX1 := Lib.hid (below_go HBX.out hb1)
    clear hb1
    go_upto_region 2 with fail
    go_wp2_with (first | (refine wpList_load_mid rfl 30 _ rfl (w.heap.size) 0 rfl (Led.cells zeroL) _ HRG.out Try.underlying30 rfl (by show _ = some 16; kernel_rfl) ?_) | (refine wp_load_mid 30 _ rfl (w.heap.size) 0 rfl (Led.cells zeroL) _ HRG.out Try.underlying30 rfl (by show _ = some 16; kernel_rfl) ?_) | (refine wpList_store_mid rfl 30 _ _ rfl (w.heap.size + 2) 0 (Led.cells zeroL).toArray rfl rfl HH1.out (by show _ = some 16; kernel_rfl) HZ.out ?_) | (refine wp_store_mid 30 _ _ rfl (w.heap.size + 2) 0 (Led.cells zeroL).toArray rfl rfl HH1.out (by show _ = some 16; kernel_rfl) HZ.out ?_))
    refine bodyPost_ret (v := .tuple #[.agg (Led.cells zeroL).toArray, .bool false, .int .i64 3]) (results_cell3 Try.results10 rfl (resR_run HH1.out)) rfl ?_
    rw [HA.out]
    exact ⟨zeroL, rfl, SameL.refl _, ledO_zero _ _, HX1.out.trans ((only_cells _ _ _ _).below (by have := HX1.out.size; have := HXS.out; have := HBX.out.size; omega) (fun j hj e => by omega))⟩
  | true =>
    have HGD := Lib.hid hg
    clear hg
    go_wp2_with (first | (refine wpList_load_mid rfl 30 _ rfl (w.heap.size) 0 rfl (Led.cells L) _ HRG.out Try.underlying30 rfl (by show _ = some 16; kernel_rfl) ?_) | (refine wp_load_mid 30 _ rfl (w.heap.size) 0 rfl (Led.cells L) _ HRG.out Try.underlying30 rfl (by show _ = some 16; kernel_rfl) ?_) | (refine wpList_store_mid rfl 30 _ _ rfl (w.heap.size + 2) 0 (Led.cells L).toArray rfl rfl HH.out (by show _ = some 16; kernel_rfl) HZ.out ?_) | (refine wp_store_mid 30 _ _ rfl (w.heap.size + 2) 0 (Led.cells L).toArray rfl rfl HH.out (by show _ = some 16; kernel_rfl) HZ.out ?_))
    refine (pGood_calls L X (HL.out.below HBX.out (Nat.le_refl _)) HOK.out HSM.out).mono ?_
    rintro e w1 ⟨rfl, hb1⟩
    rw [HGD.out]
    have HB1 := Lib.hid (HBC.out.later hb1)
    have HE1 := Lib.hid (HBE.out.later hb1)
    have HRE1 := Lib.hid HE1.out.range
    have HX1 := Lib.hid (below_go HBX.out hb1)
    clear hb1
    have e0 := HE1.out 0 _ rfl
    have e1 := HE1.out 1 _ rfl
    have e2 := HE1.out 2 _ rfl
    have e3 := HE1.out 3 _ rfl
    have e4 := HE1.out 4 _ rfl
    have e5 := HE1.out 5 _ rfl
    have e6 := HE1.out 6 _ rfl
    have e7 := HE1.out 7 _ rfl
    go_wp2_with fail
    clear e0 e1 e2 e3 e4 e5 e6 e7
    refine (entGood_calls E.k E.r E.gv E.os E.n w1 (HG.out.below HX1.out (Nat.le_refl _))).mono ?_
    rintro e w2 ⟨rfl, hb2⟩
    have HB2 := Lib.hid (HB1.out.later hb2)
    have HE2 := Lib.hid (HE1.out.later hb2)
    have HX2 := Lib.hid (below_go HX1.out hb2)
    have HH2 := Lib.hid HB2.out.res
    clear hb2
    cases hge : goodEnt E.k E.r E.os E.n with
    | false =>
      have HA := Lib.hid (show applyL L E = (zeroL, false, 3) by unfold applyL; rw [if_neg (by unfold Ent.good; simp [hge])])
      clear hge
      go_upto_region 2 with fail
      go_wp2_with (first | (refine wpList_load_mid rfl 30 _ rfl (w.heap.size) 0 rfl (Led.cells zeroL) _ HRG.out Try.underlying30 rfl (by show _ = some 16; kernel_rfl) ?_) | (refine wp_load_mid 30 _ rfl (w.heap.size) 0 rfl (Led.cells zeroL) _ HRG.out Try.underlying30 rfl (by show _ = some 16; kernel_rfl) ?_) | (refine wpList_store_mid rfl 30 _ _ rfl (w.heap.size + 2) 0 (Led.cells zeroL).toArray rfl rfl HH2.out (by show _ = some 16; kernel_rfl) HZ.out ?_) | (refine wp_store_mid 30 _ _ rfl (w.heap.size + 2) 0 (Led.cells zeroL).toArray rfl rfl HH2.out (by show _ = some 16; kernel_rfl) HZ.out ?_))
      refine bodyPost_ret (v := .tuple #[.agg (Led.cells zeroL).toArray, .bool false, .int .i64 3]) (results_cell3 Try.results10 rfl (resR_run HH2.out)) rfl ?_
      rw [HA.out]
      exact ⟨zeroL, rfl, SameL.refl _, ledO_zero _ _, HX2.out.trans ((only_cells _ _ _ _).below (by have := HX2.out.size; have := HXS.out; have := HBX.out.size; omega) (fun j hj e => by omega))⟩
    | true =>
      have HA := Lib.hid (show applyL L E = stepL L E by unfold applyL; rw [if_pos ⟨HGD.out, hge⟩])
      have HGE := Lib.hid hge
      have HR2 := Lib.hid HB2.out.box.range
      clear hge
      go_wp2_with (first | (refine wpList_load_mid rfl 30 _ rfl (w.heap.size) 0 rfl (Led.cells L) _ HR2.out Try.underlying30 rfl (by show _ = some 16; kernel_rfl) ?_) | (refine wp_load_mid 30 _ rfl (w.heap.size) 0 rfl (Led.cells L) _ HR2.out Try.underlying30 rfl (by show _ = some 16; kernel_rfl) ?_) | (refine wpList_store_mid rfl 30 _ _ rfl (w.heap.size + 2) 0 (Led.cells L).toArray rfl rfl HH2.out (by show _ = some 16; kernel_rfl) HZ.out ?_) | (refine wp_store_mid 30 _ _ rfl (w.heap.size + 2) 0 (Led.cells L).toArray rfl rfl HH2.out (by show _ = some 16; kernel_rfl) HZ.out ?_))
      refine (pOwn_calls L w2 (HL.out.below HX2.out (Nat.le_refl _)) HSM.out).mono ?_
      rintro e w3 ⟨M, rfl, hS, hO3, hb3⟩
      have HS := Lib.hid hS
      have hB3 := HB2.out.later hb3
      have HTS := Lib.hid hB3.there
      have HB3 := Lib.hid hB3
      have HM1 := Lib.hid (led_all M (own_one hO3.rows) (own_one hO3.opn) (own_one hO3.bats) (own_one hO3.ops))
      have HO3 := Lib.hid hO3
      have HX3 := Lib.hid (below_go HX2.out hb3)
      have HE3 := Lib.hid (HE2.out.later hb3)
      have HZS := Lib.hid (show w.heap.size + 3 ≤ w2.heap.size ∧ w2.heap.size ≤ w3.heap.size from ⟨by have := HB2.out.hR; omega, hb3.size⟩)
      have HFIN := Lib.hid (fun (M1 : Led) (b : Bool) (c : Int) (M2 : Led) (W' : World) (h1 : stepL M E = (M1, b, c)) (h2 : SameL M1 M2) (h3 : LedO W' w.heap.size M2) (h4 : Below w.heap.size w W') =>
        show ∃ M', Ending.returned (.tuple #[.agg M2.cells.toArray, .bool b, .int .i64 c]) = Ending.returned (.tuple #[.agg M'.cells.toArray, .bool (applyL L E).2.1, .int .i64 (applyL L E).2.2]) ∧ SameL (applyL L E).1 M' ∧ LedO W' w.heap.size M' ∧ Below w.heap.size w W' by
          have h := stepL_same hS E
          rw [h1] at h
          rw [HA.out, ← h.2]
          exact ⟨M2, rfl, h.1.trans h2, h3, h4⟩)
      clear hS hB3 hO3 hb3
      go_upto_region 4 with (first | (refine wpList_store_mid rfl 30 _ _ rfl (w.heap.size) 0 (Led.cells M).toArray rfl rfl HTS.out (by show _ = some 16; kernel_rfl) HM1.out ?_) | (refine wp_store_mid 30 _ _ rfl (w.heap.size) 0 (Led.cells M).toArray rfl rfl HTS.out (by show _ = some 16; kernel_rfl) HM1.out ?_))
      have honS := only_cells w3 w.heap.size M.cells 0
      have HB := Lib.hid (HB3.out.put M)
      have HE := Lib.hid (HE3.out.only honS (by omega))
      have HO := Lib.hid (HO3.out.off honS (fun g hg _ e => by have := HZS.out; omega))
      have HBW := Lib.hid (HX3.out.trans (honS.below (by have := HZS.out; omega) (fun j hj e => by omega)))
      have HZW := Lib.hid (show w.heap.size + 3 ≤ w2.heap.size ∧ w2.heap.size ≤ (w3.setCells w.heap.size 0 M.cells).heap.size from ⟨HZS.out.1, by have := honS.size; have := HZS.out; omega⟩)
      clear honS
      generalize hW : w3.setCells _ _ _ = W at *
      clear hW HB3 HTS HB1 HB2 HBC HBE HE1 HE2 HE3 HX HRG HRE HRE1 HR2 HO3 HZS HX1 HX2 HX3
      have hgq := (goodEnt_iff E.k E.r E.os E.n).1 HGE.out
      have HGQ := Lib.hid hgq
      have hk05 : 0 ≤ E.k ∧ E.k ≤ 5 := ⟨hgq.1.1, hgq.1.2.1⟩
      clear hgq
      obtain ⟨k, ⟨rp, rs, rq, rkey, rval⟩, gv, os, n⟩ := E
      have hk := HK.out
      simp only at hk
      clear HK
      subst hk
      simp only at hk05
      have hz := HZW.out
      have HRW := Lib.hid HB.out.box.range
      have HRT := Lib.hid HB.out.res
      have e0 : W.cell? ⟨w.heap.size + 1, 0, none⟩ = some (.int .i64 3) := HE.out 0 _ rfl
      have hgood : M.good = true := by rw [HS.out.good]; exact HGD.out
      have hgm := ((good_iff M).1 hgood).1
      have hnums : I64 M.sealed ∧ I64 M.decided ∧ I64 M.keep := (HS.out.ok HOK.out).nums
      unfold I64 at hnums
      have HGM := Lib.hid hgood
      have HFN := Lib.hid (show 0 ≤ M.decided ∧ M.decided ≤ M.sealed ∧ M.sealed - M.decided ≤ 64 ∧ 0 ≤ M.keep ∧ M.keep ≤ 64 ∧ M.sealed ≤ 9223372036854775807 by omega)
      clear hgood hgm hnums hk05
      have c13 := HB.out.box 13 _ rfl
      obtain ⟨ga, gc, hgv, -, -⟩ := HG.out.row.slice
      simp only at hgv
      subst hgv
      have e6 : W.cell? ⟨w.heap.size + 1, 6, none⟩ = some (.slice ga os.length gc) := HE.out 6 _ rfl
      cases hd : M.dep with
      | true =>
        rw [hd] at c13
        have HST := Lib.hid (show stepL M ⟨3, ⟨rp, rs, rq, rkey, rval⟩, .slice ga os.length gc, os, n⟩ = (M, false, 9) by simp [stepL, hd])
        clear hd e6
        go_upto_region 20 with fail
        go_wp2_with (first | (refine wpList_load_mid rfl 30 _ rfl (w.heap.size) 0 rfl (Led.cells M) _ HRW.out Try.underlying30 rfl (by show _ = some 16; kernel_rfl) ?_) | (refine wp_load_mid 30 _ rfl (w.heap.size) 0 rfl (Led.cells M) _ HRW.out Try.underlying30 rfl (by show _ = some 16; kernel_rfl) ?_) | (refine wpList_store_mid rfl 30 _ _ rfl (w.heap.size + 2) 0 (Led.cells M).toArray rfl rfl HRT.out (by show _ = some 16; kernel_rfl) HM1.out ?_) | (refine wp_store_mid 30 _ _ rfl (w.heap.size + 2) 0 (Led.cells M).toArray rfl rfl HRT.out (by show _ = some 16; kernel_rfl) HM1.out ?_))
        refine bodyPost_ret (v := .tuple #[.agg (Led.cells M).toArray, .bool false, .int .i64 9]) (results_cell3 Try.results10 rfl (resR_run HRT.out)) rfl ?_
        exact HFIN.out _ _ _ M _ HST.out (SameL.refl _) ((HO.out.off (only_cells _ _ _ _) (fun g hg _ e => by omega)).mono (by omega)) (HBW.out.trans ((only_cells _ _ _ _).below (by omega) (fun j hj e => by omega)))
      | false =>
        rw [hd] at c13
        have HD := Lib.hid hd
        clear hd
        have hos := HES.out.os
        simp only at hos
        go_upto_region 21 with fail
        go_wp2_with fail
        refine (check_calls (.slice ga os.length gc) os W (HG.out.below HBW.out (Nat.le_refl _)) (by omega)).mono ?_
        rintro e w5 ⟨⟨kk, rfl⟩, hb5⟩
        have HB5 := Lib.hid (HB.out.later hb5)
        have HO5 := Lib.hid (HO.out.below hb5)
        have HBW5 := Lib.hid (below_go HBW.out hb5)
        have HRW5 := Lib.hid HB5.out.box.range
        have HRT5 := Lib.hid HB5.out.res
        have hz5 := hb5.size
        have e6' := cell_later hb5 e6
        clear hb5 e6 e0 c13
        by_cases hc : graphCode os = 0
        · have HST := Lib.hid (show stepL M ⟨3, ⟨rp, rs, rq, rkey, rval⟩, .slice ga os.length gc, os, n⟩ = (M.graphL (.slice ga os.length gc) os, true, 0) by simp [stepL, HD.out, hc])
          rw [hc]
          clear hc
          go_upto_region 24 with fail
          go_wp2_with fail
          refine (pOwn_calls { zeroL with gv := .slice ga os.length gc, ops := os } w5 (ledR_graph (HG.out.below HBW5.out (Nat.le_refl _))) ⟨by simp [zeroL], by simp [zeroL], by simp [zeroL], fun b hb => by simp [zeroL] at hb, by simp [zeroL, Led.all], hos, HES.out.ins⟩).mono ?_
          rintro e w6 ⟨G, rfl, hS6, hO6, hb6⟩
          obtain ⟨xa, xc, hgg⟩ := own_slice hO6.ops
          have hcs : Led.cells G = [G.rv, .int .i64 (G.C 0), .int .i64 (G.C 1), .int .i64 (G.C 2), .int .i64 (G.C 3), .int .i64 (G.C 4), .int .i64 (G.C 5), .int .i64 (G.C 6), .int .i64 (G.C 7), G.ov, G.bv, .int .i64 G.sealed, .int .i64 G.decided, .bool G.dep, .slice xa G.ops.length xc, .int .i64 G.keep] := by rw [← hgg]; rfl
          rw [hcs]
          have hfd : ∀ w : World, (Instr.field 30 (.agg #[G.rv, .int .i64 (G.C 0), .int .i64 (G.C 1), .int .i64 (G.C 2), .int .i64 (G.C 3), .int .i64 (G.C 4), .int .i64 (G.C 5), .int .i64 (G.C 6), .int .i64 (G.C 7), G.ov, G.bv, .int .i64 G.sealed, .int .i64 G.decided, .bool G.dep, .slice xa G.ops.length xc, .int .i64 G.keep]) 7).run Try.prog w = .ok (.agg #[.slice xa G.ops.length xc]) w := fun _ => by kernel_rfl
          have hB6 := HB5.out.later hb6
          have HB6 := Lib.hid hB6
          have HO6 := Lib.hid (HO5.out.below hb6)
          have HG6 := Lib.hid hO6
          have HGG := Lib.hid hgg
          have HS6 := Lib.hid hS6
          have HBW6 := Lib.hid (below_go HBW5.out hb6)
          have hz6 := hb6.size
          have c13 := hB6.box 13 _ rfl
          have c14 := hB6.box 14 _ rfl
          have bf13 := hB6.bf 13
          have bf14 := hB6.bf 14
          obtain ⟨ya, yc, hyg⟩ := own_slice HO.out.ops
          rw [hyg] at c14
          clear hB6 hO6 hgg hS6 hb6 hcs e6' hyg
          go_upto_region 25 with fail
          have hB7 := (HB6.out.set (cur' := { M with dep := true }) 13 (.bool true) rfl (by omega)).set (cur' := { M with dep := true, gv := .slice xa G.ops.length xc, ops := G.ops }) 14 (.slice xa G.ops.length xc) rfl (by omega)
          have HON7 := Lib.hid ((only_box (w := w) (W := w6) (j := 13) (.bool true)).setCell ⟨w.heap.size, 14, none⟩ (.slice xa G.ops.length xc) (.inl rfl))
          have HR7 := Lib.hid hB7.box.range
          have HT7 := Lib.hid hB7.res
          have H17 := Lib.hid (led_all { M with dep := true, gv := .slice xa G.ops.length xc, ops := G.ops } (own_one HO.out.rows) (own_one HO.out.opn) (own_one HO.out.bats) rfl)
          clear hB7 c13 c14 bf13 bf14
          generalize hW7 : (w6.setCell _ _).setCell _ _ = W7 at *
          clear hW7
          go_wp2_with (first | (refine wpList_load_mid rfl 30 _ rfl (w.heap.size) 0 rfl (Led.cells { M with dep := true, gv := .slice xa G.ops.length xc, ops := G.ops }) _ HR7.out Try.underlying30 rfl (by show _ = some 16; kernel_rfl) ?_) | (refine wp_load_mid 30 _ rfl (w.heap.size) 0 rfl (Led.cells { M with dep := true, gv := .slice xa G.ops.length xc, ops := G.ops }) _ HR7.out Try.underlying30 rfl (by show _ = some 16; kernel_rfl) ?_) | (refine wpList_store_mid rfl 30 _ _ rfl (w.heap.size + 2) 0 (Led.cells { M with dep := true, gv := .slice xa G.ops.length xc, ops := G.ops }).toArray rfl rfl HT7.out (by show _ = some 16; kernel_rfl) H17.out ?_) | (refine wp_store_mid 30 _ _ rfl (w.heap.size + 2) 0 (Led.cells { M with dep := true, gv := .slice xa G.ops.length xc, ops := G.ops }).toArray rfl rfl HT7.out (by show _ = some 16; kernel_rfl) H17.out ?_))
          refine bodyPost_ret (v := .tuple #[.agg (Led.cells { M with dep := true, gv := .slice xa G.ops.length xc, ops := G.ops }).toArray, .bool true, .int .i64 0]) (results_cell3 Try.results10 rfl (resR_run HT7.out)) rfl ?_
          have hall : Only (fun k => k = w.heap.size ∨ k = w.heap.size + 2) w6 (W7.setCells (w.heap.size + 2) 0 (Led.cells { M with dep := true, gv := .slice xa G.ops.length xc, ops := G.ops })) := (HON7.out.weak (T := fun k => k = w.heap.size ∨ k = w.heap.size + 2) (fun _ _ h => .inl h)).trans (only_cells _ _ _ _) (fun j _ e => .inr e)
          have ho := (HO6.out.off hall (fun g hg _ e => by omega)).mono (show w.heap.size ≤ w2.heap.size by omega)
          have hg := (HG6.out.off hall (fun g hg _ e => by omega)).mono (show w.heap.size ≤ w5.heap.size by omega)
          have hgo := hg.ops
          rw [HGG.out] at hgo
          exact HFIN.out _ _ _ { M with dep := true, gv := .slice xa G.ops.length xc, ops := G.ops } _ HST.out ⟨rfl, rfl, rfl, rfl, rfl, rfl, rfl, HS6.out.ops, rfl⟩ ⟨ho.rows, ho.opn, ho.bats, ho.recs, ho.apart, hgo, hg.ins⟩ (HBW6.out.trans (hall.below (by omega) (fun j hj e => by omega)))
        · have HST := Lib.hid (show stepL M ⟨3, ⟨rp, rs, rq, rkey, rval⟩, .slice ga os.length gc, os, n⟩ = (M, false, 13) by simp [stepL, HD.out, hc])
          have hq : (graphCode os == 0) = false := beq_eq_false_iff_ne.2 hc
          clear hc e6'
          go_upto_region 23 with fail
          go_wp2_with (first | (refine wpList_load_mid rfl 30 _ rfl (w.heap.size) 0 rfl (Led.cells M) _ HRW5.out Try.underlying30 rfl (by show _ = some 16; kernel_rfl) ?_) | (refine wp_load_mid 30 _ rfl (w.heap.size) 0 rfl (Led.cells M) _ HRW5.out Try.underlying30 rfl (by show _ = some 16; kernel_rfl) ?_) | (refine wpList_store_mid rfl 30 _ _ rfl (w.heap.size + 2) 0 (Led.cells M).toArray rfl rfl HRT5.out (by show _ = some 16; kernel_rfl) HM1.out ?_) | (refine wp_store_mid 30 _ _ rfl (w.heap.size + 2) 0 (Led.cells M).toArray rfl rfl HRT5.out (by show _ = some 16; kernel_rfl) HM1.out ?_))
          refine bodyPost_ret (v := .tuple #[.agg (Led.cells M).toArray, .bool false, .int .i64 13]) (results_cell3 Try.results10 rfl (resR_run HRT5.out)) rfl ?_
          exact HFIN.out _ _ _ M _ HST.out (SameL.refl _) ((HO5.out.off (only_cells _ _ _ _) (fun g hg _ e => by omega)).mono (by omega)) (HBW5.out.trans ((only_cells _ _ _ _).below (by omega) (fun j hj e => by omega)))
end Go.Proofs.Ytkabfjbmofpkdaa

/- Layer 14: what an entry does to a ledger, walked: entries of kind 4. -/
namespace Go.Proofs.Ytkabfjbmofpkdaa
open Go.RowKit Go.Shelf
set_option maxRecDepth 100000

set_option maxHeartbeats 4000000 in
theorem apply_k4 (L : Led) (E : Ent) (hk : E.k = 4) (w : World) (hL : LedR w L) (hok : L.Ok) (hsm : L.Small) (hG : OpsR w E.gv E.os) (hek : E.Ok) (hes : E.Small) :
    Calls Try.prog 10 #[.agg L.cells.toArray, .agg E.cells.toArray] w fun e w' => ∃ M, e = .returned (.tuple #[.agg M.cells.toArray, .bool (applyL L E).2.1, .int .i64 (applyL L E).2.2]) ∧ SameL (applyL L E).1 M ∧ LedO w' w.heap.size M ∧ Below w.heap.size w w' := by
  have HK := Lib.hid hk
  clear hk
  obtain ⟨X, hX⟩ : ∃ X, X = ((w.alloc (.cells L.cells.toArray 30)).alloc (.cells E.cells.toArray 35)).alloc (.cells zero16 30) := ⟨_, rfl⟩
  have hbX : Below w.heap.size w X := by rw [hX]; exact below_box (below_box (below_alloc _ _) _) _
  have hXs : X.heap.size = w.heap.size + 3 := by rw [hX]; simp
  have hBC : BoxC w.heap.size (w.heap.size + 2) X L := by
    refine ⟨?_, fun j => ?_, fun j hj => ?_, by omega, by omega, by omega⟩
    · rw [hX]; exact ((boxL_self w L 30).later (below_alloc _ _)).later (below_alloc _ _)
    · rw [hX, World.frozen?_alloc_past _ _ _ (by simp <;> omega), World.frozen?_alloc_past _ _ _ (by simp <;> omega), World.frozen?_alloc_at _ _ _ _ rfl]
    · refine ⟨?_, by rw [hX, World.frozen?_alloc_at _ _ _ _ (by simp)]⟩
      rw [hX, World.cell?_alloc_at _ _ _ _ (by simp)]
      show (zero16[0 + j]?).isSome = true
      rw [Nat.zero_add]
      have : j < zero16.size := hj
      rw [Array.getElem?_eq_getElem this]; rfl
  have hBE : BoxE X (w.heap.size + 1) E := by
    rw [hX]
    have := (boxE_self (w.alloc (.cells L.cells.toArray 30)) E 35).later (below_alloc _ (.cells zero16 30))
    rwa [World.size_alloc] at this
  have HX := Lib.hid hX
  have HBC := Lib.hid hBC
  have HBE := Lib.hid hBE
  have HBX := Lib.hid hbX
  have HXS := Lib.hid hXs
  have HL := Lib.hid hL
  have HOK := Lib.hid hok
  have HSM := Lib.hid hsm
  have HG := Lib.hid hG
  have HEK := Lib.hid hek
  have HES := Lib.hid hes
  have HRG := Lib.hid hBC.box.range
  have HRE := Lib.hid hBE.range
  clear hX hBC hBE hbX hXs hL hok hsm hG hek hes
  go_enter Try.func10, Try.ntmps10
  go_upto_region 1 with fail
  rw [show ((w.alloc (.cells L.cells.toArray 30)).alloc (.cells E.cells.toArray 35)).alloc (.cells #[.slice none 0 0, .int .i64 0, .int .i64 0, .int .i64 0, .int .i64 0, .int .i64 0, .int .i64 0, .int .i64 0, .int .i64 0, .slice none 0 0, .slice none 0 0, .int .i64 0, .int .i64 0, .bool false, .slice none 0 0, .int .i64 0] 30) = X from HX.out.symm]
  have HH := Lib.hid HBC.out.res
  have HZ := Lib.hid (led_all zeroL rfl rfl rfl rfl)
  cases hg : L.good with
  | false =>
    have HA := Lib.hid (show applyL L E = (zeroL, false, 3) by unfold applyL; rw [if_neg (by simp [hg])])
    have HGD := Lib.hid hg
    clear hg
    go_wp2_with (first | (refine wpList_load_mid rfl 30 _ rfl (w.heap.size) 0 rfl (Led.cells L) _ HRG.out Try.underlying30 rfl (by show _ = some 16; kernel_rfl) ?_) | (refine wp_load_mid 30 _ rfl (w.heap.size) 0 rfl (Led.cells L) _ HRG.out Try.underlying30 rfl (by show _ = some 16; kernel_rfl) ?_) | (refine wpList_store_mid rfl 30 _ _ rfl (w.heap.size + 2) 0 (Led.cells L).toArray rfl rfl HH.out (by show _ = some 16; kernel_rfl) HZ.out ?_) | (refine wp_store_mid 30 _ _ rfl (w.heap.size + 2) 0 (Led.cells L).toArray rfl rfl HH.out (by show _ = some 16; kernel_rfl) HZ.out ?_))
    refine (pGood_calls L X (HL.out.below HBX.out (Nat.le_refl _)) HOK.out HSM.out).mono ?_
    rintro e w1 ⟨rfl, hb1⟩
    rw [HGD.out]
    have HB1 := Lib.hid (HBC.out.later hb1)
    have HH1 := Lib.hid HB1.out.res
    have HX1 := Lib.hid (below_go HBX.out hb1)
    clear hb1
    go_upto_region 2 with fail
    go_wp2_with (first | (refine wpList_load_mid rfl 30 _ rfl (w.heap.size) 0 rfl (Led.cells zeroL) _ HRG.out Try.underlying30 rfl (by show _ = some 16; kernel_rfl) ?_) | (refine wp_load_mid 30 _ rfl (w.heap.size) 0 rfl (Led.cells zeroL) _ HRG.out Try.underlying30 rfl (by show _ = some 16; kernel_rfl) ?_) | (refine wpList_store_mid rfl 30 _ _ rfl (w.heap.size + 2) 0 (Led.cells zeroL).toArray rfl rfl HH1.out (by show _ = some 16; kernel_rfl) HZ.out ?_) | (refine wp_store_mid 30 _ _ rfl (w.heap.size + 2) 0 (Led.cells zeroL).toArray rfl rfl HH1.out (by show _ = some 16; kernel_rfl) HZ.out ?_))
    refine bodyPost_ret (v := .tuple #[.agg (Led.cells zeroL).toArray, .bool false, .int .i64 3]) (results_cell3 Try.results10 rfl (resR_run HH1.out)) rfl ?_
    rw [HA.out]
    exact ⟨zeroL, rfl, SameL.refl _, ledO_zero _ _, HX1.out.trans ((only_cells _ _ _ _).below (by have := HX1.out.size; have := HXS.out; have := HBX.out.size; omega) (fun j hj e => by omega))⟩
  | true =>
    have HGD := Lib.hid hg
    clear hg
    go_wp2_with (first | (refine wpList_load_mid rfl 30 _ rfl (w.heap.size) 0 rfl (Led.cells L) _ HRG.out Try.underlying30 rfl (by show _ = some 16; kernel_rfl) ?_) | (refine wp_load_mid 30 _ rfl (w.heap.size) 0 rfl (Led.cells L) _ HRG.out Try.underlying30 rfl (by show _ = some 16; kernel_rfl) ?_) | (refine wpList_store_mid rfl 30 _ _ rfl (w.heap.size + 2) 0 (Led.cells L).toArray rfl rfl HH.out (by show _ = some 16; kernel_rfl) HZ.out ?_) | (refine wp_store_mid 30 _ _ rfl (w.heap.size + 2) 0 (Led.cells L).toArray rfl rfl HH.out (by show _ = some 16; kernel_rfl) HZ.out ?_))
    refine (pGood_calls L X (HL.out.below HBX.out (Nat.le_refl _)) HOK.out HSM.out).mono ?_
    rintro e w1 ⟨rfl, hb1⟩
    rw [HGD.out]
    have HB1 := Lib.hid (HBC.out.later hb1)
    have HE1 := Lib.hid (HBE.out.later hb1)
    have HRE1 := Lib.hid HE1.out.range
    have HX1 := Lib.hid (below_go HBX.out hb1)
    clear hb1
    have e0 := HE1.out 0 _ rfl
    have e1 := HE1.out 1 _ rfl
    have e2 := HE1.out 2 _ rfl
    have e3 := HE1.out 3 _ rfl
    have e4 := HE1.out 4 _ rfl
    have e5 := HE1.out 5 _ rfl
    have e6 := HE1.out 6 _ rfl
    have e7 := HE1.out 7 _ rfl
    go_wp2_with fail
    clear e0 e1 e2 e3 e4 e5 e6 e7
    refine (entGood_calls E.k E.r E.gv E.os E.n w1 (HG.out.below HX1.out (Nat.le_refl _))).mono ?_
    rintro e w2 ⟨rfl, hb2⟩
    have HB2 := Lib.hid (HB1.out.later hb2)
    have HE2 := Lib.hid (HE1.out.later hb2)
    have HX2 := Lib.hid (below_go HX1.out hb2)
    have HH2 := Lib.hid HB2.out.res
    clear hb2
    cases hge : goodEnt E.k E.r E.os E.n with
    | false =>
      have HA := Lib.hid (show applyL L E = (zeroL, false, 3) by unfold applyL; rw [if_neg (by unfold Ent.good; simp [hge])])
      clear hge
      go_upto_region 2 with fail
      go_wp2_with (first | (refine wpList_load_mid rfl 30 _ rfl (w.heap.size) 0 rfl (Led.cells zeroL) _ HRG.out Try.underlying30 rfl (by show _ = some 16; kernel_rfl) ?_) | (refine wp_load_mid 30 _ rfl (w.heap.size) 0 rfl (Led.cells zeroL) _ HRG.out Try.underlying30 rfl (by show _ = some 16; kernel_rfl) ?_) | (refine wpList_store_mid rfl 30 _ _ rfl (w.heap.size + 2) 0 (Led.cells zeroL).toArray rfl rfl HH2.out (by show _ = some 16; kernel_rfl) HZ.out ?_) | (refine wp_store_mid 30 _ _ rfl (w.heap.size + 2) 0 (Led.cells zeroL).toArray rfl rfl HH2.out (by show _ = some 16; kernel_rfl) HZ.out ?_))
      refine bodyPost_ret (v := .tuple #[.agg (Led.cells zeroL).toArray, .bool false, .int .i64 3]) (results_cell3 Try.results10 rfl (resR_run HH2.out)) rfl ?_
      rw [HA.out]
      exact ⟨zeroL, rfl, SameL.refl _, ledO_zero _ _, HX2.out.trans ((only_cells _ _ _ _).below (by have := HX2.out.size; have := HXS.out; have := HBX.out.size; omega) (fun j hj e => by omega))⟩
    | true =>
      have HA := Lib.hid (show applyL L E = stepL L E by unfold applyL; rw [if_pos ⟨HGD.out, hge⟩])
      have HGE := Lib.hid hge
      have HR2 := Lib.hid HB2.out.box.range
      clear hge
      go_wp2_with (first | (refine wpList_load_mid rfl 30 _ rfl (w.heap.size) 0 rfl (Led.cells L) _ HR2.out Try.underlying30 rfl (by show _ = some 16; kernel_rfl) ?_) | (refine wp_load_mid 30 _ rfl (w.heap.size) 0 rfl (Led.cells L) _ HR2.out Try.underlying30 rfl (by show _ = some 16; kernel_rfl) ?_) | (refine wpList_store_mid rfl 30 _ _ rfl (w.heap.size + 2) 0 (Led.cells L).toArray rfl rfl HH2.out (by show _ = some 16; kernel_rfl) HZ.out ?_) | (refine wp_store_mid 30 _ _ rfl (w.heap.size + 2) 0 (Led.cells L).toArray rfl rfl HH2.out (by show _ = some 16; kernel_rfl) HZ.out ?_))
      refine (pOwn_calls L w2 (HL.out.below HX2.out (Nat.le_refl _)) HSM.out).mono ?_
      rintro e w3 ⟨M, rfl, hS, hO3, hb3⟩
      have HS := Lib.hid hS
      have hB3 := HB2.out.later hb3
      have HTS := Lib.hid hB3.there
      have HB3 := Lib.hid hB3
      have HM1 := Lib.hid (led_all M (own_one hO3.rows) (own_one hO3.opn) (own_one hO3.bats) (own_one hO3.ops))
      have HO3 := Lib.hid hO3
      have HX3 := Lib.hid (below_go HX2.out hb3)
      have HE3 := Lib.hid (HE2.out.later hb3)
      have HZS := Lib.hid (show w.heap.size + 3 ≤ w2.heap.size ∧ w2.heap.size ≤ w3.heap.size from ⟨by have := HB2.out.hR; omega, hb3.size⟩)
      have HFIN := Lib.hid (fun (M1 : Led) (b : Bool) (c : Int) (M2 : Led) (W' : World) (h1 : stepL M E = (M1, b, c)) (h2 : SameL M1 M2) (h3 : LedO W' w.heap.size M2) (h4 : Below w.heap.size w W') =>
        show ∃ M', Ending.returned (.tuple #[.agg M2.cells.toArray, .bool b, .int .i64 c]) = Ending.returned (.tuple #[.agg M'.cells.toArray, .bool (applyL L E).2.1, .int .i64 (applyL L E).2.2]) ∧ SameL (applyL L E).1 M' ∧ LedO W' w.heap.size M' ∧ Below w.heap.size w W' by
          have h := stepL_same hS E
          rw [h1] at h
          rw [HA.out, ← h.2]
          exact ⟨M2, rfl, h.1.trans h2, h3, h4⟩)
      clear hS hB3 hO3 hb3
      go_upto_region 4 with (first | (refine wpList_store_mid rfl 30 _ _ rfl (w.heap.size) 0 (Led.cells M).toArray rfl rfl HTS.out (by show _ = some 16; kernel_rfl) HM1.out ?_) | (refine wp_store_mid 30 _ _ rfl (w.heap.size) 0 (Led.cells M).toArray rfl rfl HTS.out (by show _ = some 16; kernel_rfl) HM1.out ?_))
      have honS := only_cells w3 w.heap.size M.cells 0
      have HB := Lib.hid (HB3.out.put M)
      have HE := Lib.hid (HE3.out.only honS (by omega))
      have HO := Lib.hid (HO3.out.off honS (fun g hg _ e => by have := HZS.out; omega))
      have HBW := Lib.hid (HX3.out.trans (honS.below (by have := HZS.out; omega) (fun j hj e => by omega)))
      have HZW := Lib.hid (show w.heap.size + 3 ≤ w2.heap.size ∧ w2.heap.size ≤ (w3.setCells w.heap.size 0 M.cells).heap.size from ⟨HZS.out.1, by have := honS.size; have := HZS.out; omega⟩)
      clear honS
      generalize hW : w3.setCells _ _ _ = W at *
      clear hW HB3 HTS HB1 HB2 HBC HBE HE1 HE2 HE3 HX HRG HRE HRE1 HR2 HO3 HZS HX1 HX2 HX3
      have hgq := (goodEnt_iff E.k E.r E.os E.n).1 HGE.out
      have HGQ := Lib.hid hgq
      have hk05 : 0 ≤ E.k ∧ E.k ≤ 5 := ⟨hgq.1.1, hgq.1.2.1⟩
      clear hgq
      obtain ⟨k, ⟨rp, rs, rq, rkey, rval⟩, gv, os, n⟩ := E
      have hk := HK.out
      simp only at hk
      clear HK
      subst hk
      simp only at hk05
      have hz := HZW.out
      have HRW := Lib.hid HB.out.box.range
      have HRT := Lib.hid HB.out.res
      have e0 : W.cell? ⟨w.heap.size + 1, 0, none⟩ = some (.int .i64 4) := HE.out 0 _ rfl
      have hgood : M.good = true := by rw [HS.out.good]; exact HGD.out
      have hgm := ((good_iff M).1 hgood).1
      have hnums : I64 M.sealed ∧ I64 M.decided ∧ I64 M.keep := (HS.out.ok HOK.out).nums
      unfold I64 at hnums
      have HGM := Lib.hid hgood
      have HFN := Lib.hid (show 0 ≤ M.decided ∧ M.decided ≤ M.sealed ∧ M.sealed - M.decided ≤ 64 ∧ 0 ≤ M.keep ∧ M.keep ≤ 64 ∧ M.sealed ≤ 9223372036854775807 by omega)
      clear hgood hgm hnums hk05
      have e7 : W.cell? ⟨w.heap.size + 1, 7, none⟩ = some (.int .i64 n) := HE.out 7 _ rfl
      have c11 := HB.out.box 11 _ rfl
      have c12 := HB.out.box 12 _ rfl
      have bf12 := HB.out.bf 12
      by_cases hn : n = M.decided
      · subst hn
        by_cases hs : M.sealed ≤ M.decided
        · have HST := Lib.hid (show stepL M ⟨4, ⟨rp, rs, rq, rkey, rval⟩, gv, os, M.decided⟩ = (M, false, 9) by simp [stepL, hs])
          have hq : decide (M.sealed ≤ M.decided) = true := decide_eq_true hs
          clear hs bf12
          go_upto_region 28 with fail
          go_wp2_with (first | (refine wpList_load_mid rfl 30 _ rfl (w.heap.size) 0 rfl (Led.cells M) _ HRW.out Try.underlying30 rfl (by show _ = some 16; kernel_rfl) ?_) | (refine wp_load_mid 30 _ rfl (w.heap.size) 0 rfl (Led.cells M) _ HRW.out Try.underlying30 rfl (by show _ = some 16; kernel_rfl) ?_) | (refine wpList_store_mid rfl 30 _ _ rfl (w.heap.size + 2) 0 (Led.cells M).toArray rfl rfl HRT.out (by show _ = some 16; kernel_rfl) HM1.out ?_) | (refine wp_store_mid 30 _ _ rfl (w.heap.size + 2) 0 (Led.cells M).toArray rfl rfl HRT.out (by show _ = some 16; kernel_rfl) HM1.out ?_))
          refine bodyPost_ret (v := .tuple #[.agg (Led.cells M).toArray, .bool false, .int .i64 9]) (results_cell3 Try.results10 rfl (resR_run HRT.out)) rfl ?_
          exact HFIN.out _ _ _ M _ HST.out (SameL.refl _) ((HO.out.off (only_cells _ _ _ _) (fun g hg _ e => by omega)).mono (by omega)) (HBW.out.trans ((only_cells _ _ _ _).below (by omega) (fun j hj e => by omega)))
        · have HST := Lib.hid (show stepL M ⟨4, ⟨rp, rs, rq, rkey, rval⟩, gv, os, M.decided⟩ = (M.decL.dropL, true, 0) by simp [stepL, hs])
          have hq : decide (M.sealed ≤ M.decided) = false := decide_eq_false hs
          have hsq : -9223372036854775808 ≤ M.decided ∧ M.decided < 9223372036854775807 := by have := HFN.out; omega
          clear hs
          go_upto_region 30 with fail
          have hB4 := HB.out.set (cur' := (M.decL)) 12 (.int .i64 (M.decided + 1)) rfl (by omega)
          have HON4 := Lib.hid (only_box (w := w) (W := W) (j := 12) (.int .i64 (M.decided + 1)))
          have HB4 := Lib.hid hB4
          have HR4 := Lib.hid hB4.box.range
          have HT4 := Lib.hid hB4.res
          have hO4 := HO.out.off HON4.out (fun g hg _ e => by omega)
          have HO4 := Lib.hid (show LedO _ w2.heap.size (M.decL) from ⟨hO4.rows, hO4.opn, hO4.bats, hO4.recs, hO4.apart, hO4.ops, hO4.ins⟩)
          have hsm4 := HS.out.small HSM.out
          have HS4 := Lib.hid (show (M.decL).Small from ⟨hsm4.rows, hsm4.opn, hsm4.bats, hsm4.recs, hsm4.all, hsm4.ops, hsm4.ins⟩)
          have HBW4 := Lib.hid (HBW.out.trans (HON4.out.below (by omega) (fun j hj e => by omega)))
          have HZ4 := Lib.hid HON4.out.size
          have H14 := Lib.hid (led_all (M.decL) (own_one HO.out.rows) (own_one HO.out.opn) (own_one HO.out.bats) (own_one HO.out.ops))
          clear hB4 hO4 hsm4 e7 c11 c12 bf12
          generalize hW4 : W.setCell _ _ = W4 at *
          clear hW4
          have hz4 := HZ4.out
          go_wp2_with (first | (refine wpList_load_mid rfl 30 _ rfl (w.heap.size) 0 rfl (Led.cells (M.decL)) _ HR4.out Try.underlying30 rfl (by show _ = some 16; kernel_rfl) ?_) | (refine wp_load_mid 30 _ rfl (w.heap.size) 0 rfl (Led.cells (M.decL)) _ HR4.out Try.underlying30 rfl (by show _ = some 16; kernel_rfl) ?_) | (refine wpList_store_mid rfl 30 _ _ rfl (w.heap.size + 2) 0 (Led.cells (M.decL)).toArray rfl rfl HT4.out (by show _ = some 16; kernel_rfl) H14.out ?_) | (refine wp_store_mid 30 _ _ rfl (w.heap.size + 2) 0 (Led.cells (M.decL)).toArray rfl rfl HT4.out (by show _ = some 16; kernel_rfl) H14.out ?_))
          refine (drop_calls (M.decL) w2.heap.size W4 HO4.out HS4.out (by have := HFN.out; show IntKind.i64.wrap (_ - _) = _; rw [IntKind.wrap_i64]; show (_ : Int) = M.decided + 1 - M.keep; simp only [Led.decL]; omega)).mono ?_
          rintro e w5 ⟨bv5, rfl, hO5, hon5⟩
          have hB5 := HB4.out.other hon5 (fun e => by have := (World.ownsRow.lt HO4.out.bats _ e).1; omega) (fun e => by have := (World.ownsRow.lt HO4.out.bats _ e).1; omega)
          have HT5 := Lib.hid hB5.res
          have H5L := Lib.hid (led_all { (M.decL) with bv := bv5, bats := (M.decL).dropped } (own_one hO5.rows) (own_one hO5.opn) (own_one hO5.bats) (own_one hO5.ops))
          have HSL := Lib.hid (show SameL ((M.decL).dropL) { (M.decL) with bv := bv5, bats := (M.decL).dropped } from ⟨rfl, rfl, rfl, rfl, rfl, rfl, rfl, rfl, rfl⟩)
          have HO5 := Lib.hid hO5
          have HON5 := Lib.hid hon5
          clear hB5 hO5 hon5
          generalize hC : ({ (M.decL) with bv := bv5, bats := (M.decL).dropped } : Led) = CUR at *
          clear hC
          go_wp2_with (first | (refine wpList_load_mid rfl 30 _ rfl (w.heap.size) 0 rfl (Led.cells CUR) _ HR4.out Try.underlying30 rfl (by show _ = some 16; kernel_rfl) ?_) | (refine wp_load_mid 30 _ rfl (w.heap.size) 0 rfl (Led.cells CUR) _ HR4.out Try.underlying30 rfl (by show _ = some 16; kernel_rfl) ?_) | (refine wpList_store_mid rfl 30 _ _ rfl (w.heap.size + 2) 0 (Led.cells CUR).toArray rfl rfl HT5.out (by show _ = some 16; kernel_rfl) H5L.out ?_) | (refine wp_store_mid 30 _ _ rfl (w.heap.size + 2) 0 (Led.cells CUR).toArray rfl rfl HT5.out (by show _ = some 16; kernel_rfl) H5L.out ?_))
          refine bodyPost_ret (v := .tuple #[.agg CUR.cells.toArray, .bool true, .int .i64 0]) (results_cell3 Try.results10 rfl (resR_run HT5.out)) rfl ?_
          exact HFIN.out (M.decL).dropL _ _ CUR _ HST.out HSL.out ((HO5.out.off (only_cells _ _ _ _) (fun g hg _ e => by omega)).mono (by omega)) (HBW4.out.trans ((HON5.out.below (by omega) (fun j hj e => by have := (World.ownsRow.lt HO4.out.bats j e).1; omega)).trans ((only_cells _ _ _ _).below (by have := HON5.out.size; omega) (fun j hj e => by omega))))
      · have HST := Lib.hid (show stepL M ⟨4, ⟨rp, rs, rq, rkey, rval⟩, gv, os, n⟩ = (M, false, 9) by simp [stepL, hn])
        have hq : (n == M.decided) = false := beq_eq_false_iff_ne.2 hn
        have hq2 : (n != M.decided) = true := bne_iff_ne.2 hn
        clear bf12
        go_upto_region 28 with fail
        go_wp2_with (first | (refine wpList_load_mid rfl 30 _ rfl (w.heap.size) 0 rfl (Led.cells M) _ HRW.out Try.underlying30 rfl (by show _ = some 16; kernel_rfl) ?_) | (refine wp_load_mid 30 _ rfl (w.heap.size) 0 rfl (Led.cells M) _ HRW.out Try.underlying30 rfl (by show _ = some 16; kernel_rfl) ?_) | (refine wpList_store_mid rfl 30 _ _ rfl (w.heap.size + 2) 0 (Led.cells M).toArray rfl rfl HRT.out (by show _ = some 16; kernel_rfl) HM1.out ?_) | (refine wp_store_mid 30 _ _ rfl (w.heap.size + 2) 0 (Led.cells M).toArray rfl rfl HRT.out (by show _ = some 16; kernel_rfl) HM1.out ?_))
        refine bodyPost_ret (v := .tuple #[.agg (Led.cells M).toArray, .bool false, .int .i64 9]) (results_cell3 Try.results10 rfl (resR_run HRT.out)) rfl ?_
        exact HFIN.out _ _ _ M _ HST.out (SameL.refl _) ((HO.out.off (only_cells _ _ _ _) (fun g hg _ e => by omega)).mono (by omega)) (HBW.out.trans ((only_cells _ _ _ _).below (by omega) (fun j hj e => by omega)))
end Go.Proofs.Ytkabfjbmofpkdaa

/- Layer 14: what an entry does to a ledger, walked: entries of kind 5. -/
namespace Go.Proofs.Ytkabfjbmofpkdaa
open Go.RowKit Go.Shelf
set_option maxRecDepth 100000

set_option maxHeartbeats 4000000 in
theorem apply_k5 (L : Led) (E : Ent) (hk : E.k = 5) (w : World) (hL : LedR w L) (hok : L.Ok) (hsm : L.Small) (hG : OpsR w E.gv E.os) (hek : E.Ok) (hes : E.Small) :
    Calls Try.prog 10 #[.agg L.cells.toArray, .agg E.cells.toArray] w fun e w' => ∃ M, e = .returned (.tuple #[.agg M.cells.toArray, .bool (applyL L E).2.1, .int .i64 (applyL L E).2.2]) ∧ SameL (applyL L E).1 M ∧ LedO w' w.heap.size M ∧ Below w.heap.size w w' := by
  have HK := Lib.hid hk
  clear hk
  obtain ⟨X, hX⟩ : ∃ X, X = ((w.alloc (.cells L.cells.toArray 30)).alloc (.cells E.cells.toArray 35)).alloc (.cells zero16 30) := ⟨_, rfl⟩
  have hbX : Below w.heap.size w X := by rw [hX]; exact below_box (below_box (below_alloc _ _) _) _
  have hXs : X.heap.size = w.heap.size + 3 := by rw [hX]; simp
  have hBC : BoxC w.heap.size (w.heap.size + 2) X L := by
    refine ⟨?_, fun j => ?_, fun j hj => ?_, by omega, by omega, by omega⟩
    · rw [hX]; exact ((boxL_self w L 30).later (below_alloc _ _)).later (below_alloc _ _)
    · rw [hX, World.frozen?_alloc_past _ _ _ (by simp <;> omega), World.frozen?_alloc_past _ _ _ (by simp <;> omega), World.frozen?_alloc_at _ _ _ _ rfl]
    · refine ⟨?_, by rw [hX, World.frozen?_alloc_at _ _ _ _ (by simp)]⟩
      rw [hX, World.cell?_alloc_at _ _ _ _ (by simp)]
      show (zero16[0 + j]?).isSome = true
      rw [Nat.zero_add]
      have : j < zero16.size := hj
      rw [Array.getElem?_eq_getElem this]; rfl
  have hBE : BoxE X (w.heap.size + 1) E := by
    rw [hX]
    have := (boxE_self (w.alloc (.cells L.cells.toArray 30)) E 35).later (below_alloc _ (.cells zero16 30))
    rwa [World.size_alloc] at this
  have HX := Lib.hid hX
  have HBC := Lib.hid hBC
  have HBE := Lib.hid hBE
  have HBX := Lib.hid hbX
  have HXS := Lib.hid hXs
  have HL := Lib.hid hL
  have HOK := Lib.hid hok
  have HSM := Lib.hid hsm
  have HG := Lib.hid hG
  have HEK := Lib.hid hek
  have HES := Lib.hid hes
  have HRG := Lib.hid hBC.box.range
  have HRE := Lib.hid hBE.range
  clear hX hBC hBE hbX hXs hL hok hsm hG hek hes
  go_enter Try.func10, Try.ntmps10
  go_upto_region 1 with fail
  rw [show ((w.alloc (.cells L.cells.toArray 30)).alloc (.cells E.cells.toArray 35)).alloc (.cells #[.slice none 0 0, .int .i64 0, .int .i64 0, .int .i64 0, .int .i64 0, .int .i64 0, .int .i64 0, .int .i64 0, .int .i64 0, .slice none 0 0, .slice none 0 0, .int .i64 0, .int .i64 0, .bool false, .slice none 0 0, .int .i64 0] 30) = X from HX.out.symm]
  have HH := Lib.hid HBC.out.res
  have HZ := Lib.hid (led_all zeroL rfl rfl rfl rfl)
  cases hg : L.good with
  | false =>
    have HA := Lib.hid (show applyL L E = (zeroL, false, 3) by unfold applyL; rw [if_neg (by simp [hg])])
    have HGD := Lib.hid hg
    clear hg
    go_wp2_with (first | (refine wpList_load_mid rfl 30 _ rfl (w.heap.size) 0 rfl (Led.cells L) _ HRG.out Try.underlying30 rfl (by show _ = some 16; kernel_rfl) ?_) | (refine wp_load_mid 30 _ rfl (w.heap.size) 0 rfl (Led.cells L) _ HRG.out Try.underlying30 rfl (by show _ = some 16; kernel_rfl) ?_) | (refine wpList_store_mid rfl 30 _ _ rfl (w.heap.size + 2) 0 (Led.cells L).toArray rfl rfl HH.out (by show _ = some 16; kernel_rfl) HZ.out ?_) | (refine wp_store_mid 30 _ _ rfl (w.heap.size + 2) 0 (Led.cells L).toArray rfl rfl HH.out (by show _ = some 16; kernel_rfl) HZ.out ?_))
    refine (pGood_calls L X (HL.out.below HBX.out (Nat.le_refl _)) HOK.out HSM.out).mono ?_
    rintro e w1 ⟨rfl, hb1⟩
    rw [HGD.out]
    have HB1 := Lib.hid (HBC.out.later hb1)
    have HH1 := Lib.hid HB1.out.res
    have HX1 := Lib.hid (below_go HBX.out hb1)
    clear hb1
    go_upto_region 2 with fail
    go_wp2_with (first | (refine wpList_load_mid rfl 30 _ rfl (w.heap.size) 0 rfl (Led.cells zeroL) _ HRG.out Try.underlying30 rfl (by show _ = some 16; kernel_rfl) ?_) | (refine wp_load_mid 30 _ rfl (w.heap.size) 0 rfl (Led.cells zeroL) _ HRG.out Try.underlying30 rfl (by show _ = some 16; kernel_rfl) ?_) | (refine wpList_store_mid rfl 30 _ _ rfl (w.heap.size + 2) 0 (Led.cells zeroL).toArray rfl rfl HH1.out (by show _ = some 16; kernel_rfl) HZ.out ?_) | (refine wp_store_mid 30 _ _ rfl (w.heap.size + 2) 0 (Led.cells zeroL).toArray rfl rfl HH1.out (by show _ = some 16; kernel_rfl) HZ.out ?_))
    refine bodyPost_ret (v := .tuple #[.agg (Led.cells zeroL).toArray, .bool false, .int .i64 3]) (results_cell3 Try.results10 rfl (resR_run HH1.out)) rfl ?_
    rw [HA.out]
    exact ⟨zeroL, rfl, SameL.refl _, ledO_zero _ _, HX1.out.trans ((only_cells _ _ _ _).below (by have := HX1.out.size; have := HXS.out; have := HBX.out.size; omega) (fun j hj e => by omega))⟩
  | true =>
    have HGD := Lib.hid hg
    clear hg
    go_wp2_with (first | (refine wpList_load_mid rfl 30 _ rfl (w.heap.size) 0 rfl (Led.cells L) _ HRG.out Try.underlying30 rfl (by show _ = some 16; kernel_rfl) ?_) | (refine wp_load_mid 30 _ rfl (w.heap.size) 0 rfl (Led.cells L) _ HRG.out Try.underlying30 rfl (by show _ = some 16; kernel_rfl) ?_) | (refine wpList_store_mid rfl 30 _ _ rfl (w.heap.size + 2) 0 (Led.cells L).toArray rfl rfl HH.out (by show _ = some 16; kernel_rfl) HZ.out ?_) | (refine wp_store_mid 30 _ _ rfl (w.heap.size + 2) 0 (Led.cells L).toArray rfl rfl HH.out (by show _ = some 16; kernel_rfl) HZ.out ?_))
    refine (pGood_calls L X (HL.out.below HBX.out (Nat.le_refl _)) HOK.out HSM.out).mono ?_
    rintro e w1 ⟨rfl, hb1⟩
    rw [HGD.out]
    have HB1 := Lib.hid (HBC.out.later hb1)
    have HE1 := Lib.hid (HBE.out.later hb1)
    have HRE1 := Lib.hid HE1.out.range
    have HX1 := Lib.hid (below_go HBX.out hb1)
    clear hb1
    have e0 := HE1.out 0 _ rfl
    have e1 := HE1.out 1 _ rfl
    have e2 := HE1.out 2 _ rfl
    have e3 := HE1.out 3 _ rfl
    have e4 := HE1.out 4 _ rfl
    have e5 := HE1.out 5 _ rfl
    have e6 := HE1.out 6 _ rfl
    have e7 := HE1.out 7 _ rfl
    go_wp2_with fail
    clear e0 e1 e2 e3 e4 e5 e6 e7
    refine (entGood_calls E.k E.r E.gv E.os E.n w1 (HG.out.below HX1.out (Nat.le_refl _))).mono ?_
    rintro e w2 ⟨rfl, hb2⟩
    have HB2 := Lib.hid (HB1.out.later hb2)
    have HE2 := Lib.hid (HE1.out.later hb2)
    have HX2 := Lib.hid (below_go HX1.out hb2)
    have HH2 := Lib.hid HB2.out.res
    clear hb2
    cases hge : goodEnt E.k E.r E.os E.n with
    | false =>
      have HA := Lib.hid (show applyL L E = (zeroL, false, 3) by unfold applyL; rw [if_neg (by unfold Ent.good; simp [hge])])
      clear hge
      go_upto_region 2 with fail
      go_wp2_with (first | (refine wpList_load_mid rfl 30 _ rfl (w.heap.size) 0 rfl (Led.cells zeroL) _ HRG.out Try.underlying30 rfl (by show _ = some 16; kernel_rfl) ?_) | (refine wp_load_mid 30 _ rfl (w.heap.size) 0 rfl (Led.cells zeroL) _ HRG.out Try.underlying30 rfl (by show _ = some 16; kernel_rfl) ?_) | (refine wpList_store_mid rfl 30 _ _ rfl (w.heap.size + 2) 0 (Led.cells zeroL).toArray rfl rfl HH2.out (by show _ = some 16; kernel_rfl) HZ.out ?_) | (refine wp_store_mid 30 _ _ rfl (w.heap.size + 2) 0 (Led.cells zeroL).toArray rfl rfl HH2.out (by show _ = some 16; kernel_rfl) HZ.out ?_))
      refine bodyPost_ret (v := .tuple #[.agg (Led.cells zeroL).toArray, .bool false, .int .i64 3]) (results_cell3 Try.results10 rfl (resR_run HH2.out)) rfl ?_
      rw [HA.out]
      exact ⟨zeroL, rfl, SameL.refl _, ledO_zero _ _, HX2.out.trans ((only_cells _ _ _ _).below (by have := HX2.out.size; have := HXS.out; have := HBX.out.size; omega) (fun j hj e => by omega))⟩
    | true =>
      have HA := Lib.hid (show applyL L E = stepL L E by unfold applyL; rw [if_pos ⟨HGD.out, hge⟩])
      have HGE := Lib.hid hge
      have HR2 := Lib.hid HB2.out.box.range
      clear hge
      go_wp2_with (first | (refine wpList_load_mid rfl 30 _ rfl (w.heap.size) 0 rfl (Led.cells L) _ HR2.out Try.underlying30 rfl (by show _ = some 16; kernel_rfl) ?_) | (refine wp_load_mid 30 _ rfl (w.heap.size) 0 rfl (Led.cells L) _ HR2.out Try.underlying30 rfl (by show _ = some 16; kernel_rfl) ?_) | (refine wpList_store_mid rfl 30 _ _ rfl (w.heap.size + 2) 0 (Led.cells L).toArray rfl rfl HH2.out (by show _ = some 16; kernel_rfl) HZ.out ?_) | (refine wp_store_mid 30 _ _ rfl (w.heap.size + 2) 0 (Led.cells L).toArray rfl rfl HH2.out (by show _ = some 16; kernel_rfl) HZ.out ?_))
      refine (pOwn_calls L w2 (HL.out.below HX2.out (Nat.le_refl _)) HSM.out).mono ?_
      rintro e w3 ⟨M, rfl, hS, hO3, hb3⟩
      have HS := Lib.hid hS
      have hB3 := HB2.out.later hb3
      have HTS := Lib.hid hB3.there
      have HB3 := Lib.hid hB3
      have HM1 := Lib.hid (led_all M (own_one hO3.rows) (own_one hO3.opn) (own_one hO3.bats) (own_one hO3.ops))
      have HO3 := Lib.hid hO3
      have HX3 := Lib.hid (below_go HX2.out hb3)
      have HE3 := Lib.hid (HE2.out.later hb3)
      have HZS := Lib.hid (show w.heap.size + 3 ≤ w2.heap.size ∧ w2.heap.size ≤ w3.heap.size from ⟨by have := HB2.out.hR; omega, hb3.size⟩)
      have HFIN := Lib.hid (fun (M1 : Led) (b : Bool) (c : Int) (M2 : Led) (W' : World) (h1 : stepL M E = (M1, b, c)) (h2 : SameL M1 M2) (h3 : LedO W' w.heap.size M2) (h4 : Below w.heap.size w W') =>
        show ∃ M', Ending.returned (.tuple #[.agg M2.cells.toArray, .bool b, .int .i64 c]) = Ending.returned (.tuple #[.agg M'.cells.toArray, .bool (applyL L E).2.1, .int .i64 (applyL L E).2.2]) ∧ SameL (applyL L E).1 M' ∧ LedO W' w.heap.size M' ∧ Below w.heap.size w W' by
          have h := stepL_same hS E
          rw [h1] at h
          rw [HA.out, ← h.2]
          exact ⟨M2, rfl, h.1.trans h2, h3, h4⟩)
      clear hS hB3 hO3 hb3
      go_upto_region 4 with (first | (refine wpList_store_mid rfl 30 _ _ rfl (w.heap.size) 0 (Led.cells M).toArray rfl rfl HTS.out (by show _ = some 16; kernel_rfl) HM1.out ?_) | (refine wp_store_mid 30 _ _ rfl (w.heap.size) 0 (Led.cells M).toArray rfl rfl HTS.out (by show _ = some 16; kernel_rfl) HM1.out ?_))
      have honS := only_cells w3 w.heap.size M.cells 0
      have HB := Lib.hid (HB3.out.put M)
      have HE := Lib.hid (HE3.out.only honS (by omega))
      have HO := Lib.hid (HO3.out.off honS (fun g hg _ e => by have := HZS.out; omega))
      have HBW := Lib.hid (HX3.out.trans (honS.below (by have := HZS.out; omega) (fun j hj e => by omega)))
      have HZW := Lib.hid (show w.heap.size + 3 ≤ w2.heap.size ∧ w2.heap.size ≤ (w3.setCells w.heap.size 0 M.cells).heap.size from ⟨HZS.out.1, by have := honS.size; have := HZS.out; omega⟩)
      clear honS
      generalize hW : w3.setCells _ _ _ = W at *
      clear hW HB3 HTS HB1 HB2 HBC HBE HE1 HE2 HE3 HX HRG HRE HRE1 HR2 HO3 HZS HX1 HX2 HX3
      have hgq := (goodEnt_iff E.k E.r E.os E.n).1 HGE.out
      have HGQ := Lib.hid hgq
      have hk05 : 0 ≤ E.k ∧ E.k ≤ 5 := ⟨hgq.1.1, hgq.1.2.1⟩
      clear hgq
      obtain ⟨k, ⟨rp, rs, rq, rkey, rval⟩, gv, os, n⟩ := E
      have hk := HK.out
      simp only at hk
      clear HK
      subst hk
      simp only at hk05
      have hz := HZW.out
      have HRW := Lib.hid HB.out.box.range
      have HRT := Lib.hid HB.out.res
      have e0 : W.cell? ⟨w.heap.size + 1, 0, none⟩ = some (.int .i64 5) := HE.out 0 _ rfl
      have hgood : M.good = true := by rw [HS.out.good]; exact HGD.out
      have hgm := ((good_iff M).1 hgood).1
      have hnums : I64 M.sealed ∧ I64 M.decided ∧ I64 M.keep := (HS.out.ok HOK.out).nums
      unfold I64 at hnums
      have HGM := Lib.hid hgood
      have HFN := Lib.hid (show 0 ≤ M.decided ∧ M.decided ≤ M.sealed ∧ M.sealed - M.decided ≤ 64 ∧ 0 ≤ M.keep ∧ M.keep ≤ 64 ∧ M.sealed ≤ 9223372036854775807 by omega)
      clear hgood hgm hnums hk05
      have e7 : W.cell? ⟨w.heap.size + 1, 7, none⟩ = some (.int .i64 n) := HE.out 7 _ rfl
      have c15 := HB.out.box 15 _ rfl
      have bf15 := HB.out.bf 15
      by_cases hn : 64 < n
      · have HST := Lib.hid (show stepL M ⟨5, ⟨rp, rs, rq, rkey, rval⟩, gv, os, n⟩ = (M, false, 1) by simp [stepL, hn])
        have hq : decide (64 < n) = true := decide_eq_true hn
        clear hn bf15
        go_upto_region 33 with fail
        go_wp2_with (first | (refine wpList_load_mid rfl 30 _ rfl (w.heap.size) 0 rfl (Led.cells M) _ HRW.out Try.underlying30 rfl (by show _ = some 16; kernel_rfl) ?_) | (refine wp_load_mid 30 _ rfl (w.heap.size) 0 rfl (Led.cells M) _ HRW.out Try.underlying30 rfl (by show _ = some 16; kernel_rfl) ?_) | (refine wpList_store_mid rfl 30 _ _ rfl (w.heap.size + 2) 0 (Led.cells M).toArray rfl rfl HRT.out (by show _ = some 16; kernel_rfl) HM1.out ?_) | (refine wp_store_mid 30 _ _ rfl (w.heap.size + 2) 0 (Led.cells M).toArray rfl rfl HRT.out (by show _ = some 16; kernel_rfl) HM1.out ?_))
        refine bodyPost_ret (v := .tuple #[.agg (Led.cells M).toArray, .bool false, .int .i64 1]) (results_cell3 Try.results10 rfl (resR_run HRT.out)) rfl ?_
        exact HFIN.out _ _ _ M _ HST.out (SameL.refl _) ((HO.out.off (only_cells _ _ _ _) (fun g hg _ e => by omega)).mono (by omega)) (HBW.out.trans ((only_cells _ _ _ _).below (by omega) (fun j hj e => by omega)))
      · have HST := Lib.hid (show stepL M ⟨5, ⟨rp, rs, rq, rkey, rval⟩, gv, os, n⟩ = ((M.keepL n).dropL, true, 0) by simp [stepL, hn])
        have hq : decide (64 < n) = false := decide_eq_false hn
        have HN0 := Lib.hid (show 0 ≤ n ∧ n ≤ 64 from ⟨HGQ.out.1.2.2.1, by omega⟩)
        clear hn
        go_upto_region 35 with fail
        have hB4 := HB.out.set (cur' := (M.keepL n)) 15 (.int .i64 n) rfl (by omega)
        have HON4 := Lib.hid (only_box (w := w) (W := W) (j := 15) (.int .i64 n))
        have HB4 := Lib.hid hB4
        have HR4 := Lib.hid hB4.box.range
        have HT4 := Lib.hid hB4.res
        have hO4 := HO.out.off HON4.out (fun g hg _ e => by omega)
        have HO4 := Lib.hid (show LedO _ w2.heap.size (M.keepL n) from ⟨hO4.rows, hO4.opn, hO4.bats, hO4.recs, hO4.apart, hO4.ops, hO4.ins⟩)
        have hsm4 := HS.out.small HSM.out
        have HS4 := Lib.hid (show (M.keepL n).Small from ⟨hsm4.rows, hsm4.opn, hsm4.bats, hsm4.recs, hsm4.all, hsm4.ops, hsm4.ins⟩)
        have HBW4 := Lib.hid (HBW.out.trans (HON4.out.below (by omega) (fun j hj e => by omega)))
        have HZ4 := Lib.hid HON4.out.size
        have H14 := Lib.hid (led_all (M.keepL n) (own_one HO.out.rows) (own_one HO.out.opn) (own_one HO.out.bats) (own_one HO.out.ops))
        clear hB4 hO4 hsm4 e7 c15 bf15
        generalize hW4 : W.setCell _ _ = W4 at *
        clear hW4
        have hz4 := HZ4.out
        go_wp2_with (first | (refine wpList_load_mid rfl 30 _ rfl (w.heap.size) 0 rfl (Led.cells (M.keepL n)) _ HR4.out Try.underlying30 rfl (by show _ = some 16; kernel_rfl) ?_) | (refine wp_load_mid 30 _ rfl (w.heap.size) 0 rfl (Led.cells (M.keepL n)) _ HR4.out Try.underlying30 rfl (by show _ = some 16; kernel_rfl) ?_) | (refine wpList_store_mid rfl 30 _ _ rfl (w.heap.size + 2) 0 (Led.cells (M.keepL n)).toArray rfl rfl HT4.out (by show _ = some 16; kernel_rfl) H14.out ?_) | (refine wp_store_mid 30 _ _ rfl (w.heap.size + 2) 0 (Led.cells (M.keepL n)).toArray rfl rfl HT4.out (by show _ = some 16; kernel_rfl) H14.out ?_))
        refine (drop_calls (M.keepL n) w2.heap.size W4 HO4.out HS4.out (by have := HFN.out; show IntKind.i64.wrap (_ - _) = _; rw [IntKind.wrap_i64]; have := HN0.out; show (_ : Int) = M.decided - n; simp only [Led.keepL]; omega)).mono ?_
        rintro e w5 ⟨bv5, rfl, hO5, hon5⟩
        have hB5 := HB4.out.other hon5 (fun e => by have := (World.ownsRow.lt HO4.out.bats _ e).1; omega) (fun e => by have := (World.ownsRow.lt HO4.out.bats _ e).1; omega)
        have HT5 := Lib.hid hB5.res
        have H5L := Lib.hid (led_all { (M.keepL n) with bv := bv5, bats := (M.keepL n).dropped } (own_one hO5.rows) (own_one hO5.opn) (own_one hO5.bats) (own_one hO5.ops))
        have HSL := Lib.hid (show SameL ((M.keepL n).dropL) { (M.keepL n) with bv := bv5, bats := (M.keepL n).dropped } from ⟨rfl, rfl, rfl, rfl, rfl, rfl, rfl, rfl, rfl⟩)
        have HO5 := Lib.hid hO5
        have HON5 := Lib.hid hon5
        clear hB5 hO5 hon5
        generalize hC : ({ (M.keepL n) with bv := bv5, bats := (M.keepL n).dropped } : Led) = CUR at *
        clear hC
        go_wp2_with (first | (refine wpList_load_mid rfl 30 _ rfl (w.heap.size) 0 rfl (Led.cells CUR) _ HR4.out Try.underlying30 rfl (by show _ = some 16; kernel_rfl) ?_) | (refine wp_load_mid 30 _ rfl (w.heap.size) 0 rfl (Led.cells CUR) _ HR4.out Try.underlying30 rfl (by show _ = some 16; kernel_rfl) ?_) | (refine wpList_store_mid rfl 30 _ _ rfl (w.heap.size + 2) 0 (Led.cells CUR).toArray rfl rfl HT5.out (by show _ = some 16; kernel_rfl) H5L.out ?_) | (refine wp_store_mid 30 _ _ rfl (w.heap.size + 2) 0 (Led.cells CUR).toArray rfl rfl HT5.out (by show _ = some 16; kernel_rfl) H5L.out ?_))
        refine bodyPost_ret (v := .tuple #[.agg CUR.cells.toArray, .bool true, .int .i64 0]) (results_cell3 Try.results10 rfl (resR_run HT5.out)) rfl ?_
        exact HFIN.out (M.keepL n).dropL _ _ CUR _ HST.out HSL.out ((HO5.out.off (only_cells _ _ _ _) (fun g hg _ e => by omega)).mono (by omega)) (HBW4.out.trans ((HON5.out.below (by omega) (fun j hj e => by have := (World.ownsRow.lt HO4.out.bats j e).1; omega)).trans ((only_cells _ _ _ _).below (by have := HON5.out.size; omega) (fun j hj e => by omega))))
end Go.Proofs.Ytkabfjbmofpkdaa

/- Layer 14: what an entry does to a ledger, walked: the whole. -/
namespace Go.Proofs.Ytkabfjbmofpkdaa
open Go.RowKit Go.Shelf
set_option maxRecDepth 100000

set_option maxHeartbeats 4000000 in
theorem apply_bad (L : Led) (E : Ent) (hk : ¬ (L.good = true ∧ E.good = true)) (w : World) (hL : LedR w L) (hok : L.Ok) (hsm : L.Small) (hG : OpsR w E.gv E.os) (hek : E.Ok) (hes : E.Small) :
    Calls Try.prog 10 #[.agg L.cells.toArray, .agg E.cells.toArray] w fun e w' => ∃ M, e = .returned (.tuple #[.agg M.cells.toArray, .bool (applyL L E).2.1, .int .i64 (applyL L E).2.2]) ∧ SameL (applyL L E).1 M ∧ LedO w' w.heap.size M ∧ Below w.heap.size w w' := by
  have HK := Lib.hid hk
  clear hk
  obtain ⟨X, hX⟩ : ∃ X, X = ((w.alloc (.cells L.cells.toArray 30)).alloc (.cells E.cells.toArray 35)).alloc (.cells zero16 30) := ⟨_, rfl⟩
  have hbX : Below w.heap.size w X := by rw [hX]; exact below_box (below_box (below_alloc _ _) _) _
  have hXs : X.heap.size = w.heap.size + 3 := by rw [hX]; simp
  have hBC : BoxC w.heap.size (w.heap.size + 2) X L := by
    refine ⟨?_, fun j => ?_, fun j hj => ?_, by omega, by omega, by omega⟩
    · rw [hX]; exact ((boxL_self w L 30).later (below_alloc _ _)).later (below_alloc _ _)
    · rw [hX, World.frozen?_alloc_past _ _ _ (by simp <;> omega), World.frozen?_alloc_past _ _ _ (by simp <;> omega), World.frozen?_alloc_at _ _ _ _ rfl]
    · refine ⟨?_, by rw [hX, World.frozen?_alloc_at _ _ _ _ (by simp)]⟩
      rw [hX, World.cell?_alloc_at _ _ _ _ (by simp)]
      show (zero16[0 + j]?).isSome = true
      rw [Nat.zero_add]
      have : j < zero16.size := hj
      rw [Array.getElem?_eq_getElem this]; rfl
  have hBE : BoxE X (w.heap.size + 1) E := by
    rw [hX]
    have := (boxE_self (w.alloc (.cells L.cells.toArray 30)) E 35).later (below_alloc _ (.cells zero16 30))
    rwa [World.size_alloc] at this
  have HX := Lib.hid hX
  have HBC := Lib.hid hBC
  have HBE := Lib.hid hBE
  have HBX := Lib.hid hbX
  have HXS := Lib.hid hXs
  have HL := Lib.hid hL
  have HOK := Lib.hid hok
  have HSM := Lib.hid hsm
  have HG := Lib.hid hG
  have HEK := Lib.hid hek
  have HES := Lib.hid hes
  have HRG := Lib.hid hBC.box.range
  have HRE := Lib.hid hBE.range
  clear hX hBC hBE hbX hXs hL hok hsm hG hek hes
  go_enter Try.func10, Try.ntmps10
  go_upto_region 1 with fail
  rw [show ((w.alloc (.cells L.cells.toArray 30)).alloc (.cells E.cells.toArray 35)).alloc (.cells #[.slice none 0 0, .int .i64 0, .int .i64 0, .int .i64 0, .int .i64 0, .int .i64 0, .int .i64 0, .int .i64 0, .int .i64 0, .slice none 0 0, .slice none 0 0, .int .i64 0, .int .i64 0, .bool false, .slice none 0 0, .int .i64 0] 30) = X from HX.out.symm]
  have HH := Lib.hid HBC.out.res
  have HZ := Lib.hid (led_all zeroL rfl rfl rfl rfl)
  cases hg : L.good with
  | false =>
    have HA := Lib.hid (show applyL L E = (zeroL, false, 3) by unfold applyL; rw [if_neg (by simp [hg])])
    have HGD := Lib.hid hg
    clear hg
    go_wp2_with (first | (refine wpList_load_mid rfl 30 _ rfl (w.heap.size) 0 rfl (Led.cells L) _ HRG.out Try.underlying30 rfl (by show _ = some 16; kernel_rfl) ?_) | (refine wp_load_mid 30 _ rfl (w.heap.size) 0 rfl (Led.cells L) _ HRG.out Try.underlying30 rfl (by show _ = some 16; kernel_rfl) ?_) | (refine wpList_store_mid rfl 30 _ _ rfl (w.heap.size + 2) 0 (Led.cells L).toArray rfl rfl HH.out (by show _ = some 16; kernel_rfl) HZ.out ?_) | (refine wp_store_mid 30 _ _ rfl (w.heap.size + 2) 0 (Led.cells L).toArray rfl rfl HH.out (by show _ = some 16; kernel_rfl) HZ.out ?_))
    refine (pGood_calls L X (HL.out.below HBX.out (Nat.le_refl _)) HOK.out HSM.out).mono ?_
    rintro e w1 ⟨rfl, hb1⟩
    rw [HGD.out]
    have HB1 := Lib.hid (HBC.out.later hb1)
    have HH1 := Lib.hid HB1.out.res
    have HX1 := Lib.hid (below_go HBX.out hb1)
    clear hb1
    go_upto_region 2 with fail
    go_wp2_with (first | (refine wpList_load_mid rfl 30 _ rfl (w.heap.size) 0 rfl (Led.cells zeroL) _ HRG.out Try.underlying30 rfl (by show _ = some 16; kernel_rfl) ?_) | (refine wp_load_mid 30 _ rfl (w.heap.size) 0 rfl (Led.cells zeroL) _ HRG.out Try.underlying30 rfl (by show _ = some 16; kernel_rfl) ?_) | (refine wpList_store_mid rfl 30 _ _ rfl (w.heap.size + 2) 0 (Led.cells zeroL).toArray rfl rfl HH1.out (by show _ = some 16; kernel_rfl) HZ.out ?_) | (refine wp_store_mid 30 _ _ rfl (w.heap.size + 2) 0 (Led.cells zeroL).toArray rfl rfl HH1.out (by show _ = some 16; kernel_rfl) HZ.out ?_))
    refine bodyPost_ret (v := .tuple #[.agg (Led.cells zeroL).toArray, .bool false, .int .i64 3]) (results_cell3 Try.results10 rfl (resR_run HH1.out)) rfl ?_
    rw [HA.out]
    exact ⟨zeroL, rfl, SameL.refl _, ledO_zero _ _, HX1.out.trans ((only_cells _ _ _ _).below (by have := HX1.out.size; have := HXS.out; have := HBX.out.size; omega) (fun j hj e => by omega))⟩
  | true =>
    have HGD := Lib.hid hg
    clear hg
    go_wp2_with (first | (refine wpList_load_mid rfl 30 _ rfl (w.heap.size) 0 rfl (Led.cells L) _ HRG.out Try.underlying30 rfl (by show _ = some 16; kernel_rfl) ?_) | (refine wp_load_mid 30 _ rfl (w.heap.size) 0 rfl (Led.cells L) _ HRG.out Try.underlying30 rfl (by show _ = some 16; kernel_rfl) ?_) | (refine wpList_store_mid rfl 30 _ _ rfl (w.heap.size + 2) 0 (Led.cells L).toArray rfl rfl HH.out (by show _ = some 16; kernel_rfl) HZ.out ?_) | (refine wp_store_mid 30 _ _ rfl (w.heap.size + 2) 0 (Led.cells L).toArray rfl rfl HH.out (by show _ = some 16; kernel_rfl) HZ.out ?_))
    refine (pGood_calls L X (HL.out.below HBX.out (Nat.le_refl _)) HOK.out HSM.out).mono ?_
    rintro e w1 ⟨rfl, hb1⟩
    rw [HGD.out]
    have HB1 := Lib.hid (HBC.out.later hb1)
    have HE1 := Lib.hid (HBE.out.later hb1)
    have HRE1 := Lib.hid HE1.out.range
    have HX1 := Lib.hid (below_go HBX.out hb1)
    clear hb1
    have e0 := HE1.out 0 _ rfl
    have e1 := HE1.out 1 _ rfl
    have e2 := HE1.out 2 _ rfl
    have e3 := HE1.out 3 _ rfl
    have e4 := HE1.out 4 _ rfl
    have e5 := HE1.out 5 _ rfl
    have e6 := HE1.out 6 _ rfl
    have e7 := HE1.out 7 _ rfl
    go_wp2_with fail
    clear e0 e1 e2 e3 e4 e5 e6 e7
    refine (entGood_calls E.k E.r E.gv E.os E.n w1 (HG.out.below HX1.out (Nat.le_refl _))).mono ?_
    rintro e w2 ⟨rfl, hb2⟩
    have HB2 := Lib.hid (HB1.out.later hb2)
    have HE2 := Lib.hid (HE1.out.later hb2)
    have HX2 := Lib.hid (below_go HX1.out hb2)
    have HH2 := Lib.hid HB2.out.res
    clear hb2
    cases hge : goodEnt E.k E.r E.os E.n with
    | false =>
      have HA := Lib.hid (show applyL L E = (zeroL, false, 3) by unfold applyL; rw [if_neg (by unfold Ent.good; simp [hge])])
      clear hge
      go_upto_region 2 with fail
      go_wp2_with (first | (refine wpList_load_mid rfl 30 _ rfl (w.heap.size) 0 rfl (Led.cells zeroL) _ HRG.out Try.underlying30 rfl (by show _ = some 16; kernel_rfl) ?_) | (refine wp_load_mid 30 _ rfl (w.heap.size) 0 rfl (Led.cells zeroL) _ HRG.out Try.underlying30 rfl (by show _ = some 16; kernel_rfl) ?_) | (refine wpList_store_mid rfl 30 _ _ rfl (w.heap.size + 2) 0 (Led.cells zeroL).toArray rfl rfl HH2.out (by show _ = some 16; kernel_rfl) HZ.out ?_) | (refine wp_store_mid 30 _ _ rfl (w.heap.size + 2) 0 (Led.cells zeroL).toArray rfl rfl HH2.out (by show _ = some 16; kernel_rfl) HZ.out ?_))
      refine bodyPost_ret (v := .tuple #[.agg (Led.cells zeroL).toArray, .bool false, .int .i64 3]) (results_cell3 Try.results10 rfl (resR_run HH2.out)) rfl ?_
      rw [HA.out]
      exact ⟨zeroL, rfl, SameL.refl _, ledO_zero _ _, HX2.out.trans ((only_cells _ _ _ _).below (by have := HX2.out.size; have := HXS.out; have := HBX.out.size; omega) (fun j hj e => by omega))⟩
    | true => exact absurd ⟨HGD.out, hge⟩ HK.out

theorem apply_calls (L : Led) (E : Ent) (w : World) (hL : LedR w L) (hok : L.Ok) (hsm : L.Small) (hG : OpsR w E.gv E.os) (hek : E.Ok) (hes : E.Small) :
    Calls Try.prog 10 #[.agg L.cells.toArray, .agg E.cells.toArray] w fun e w' => ∃ M, e = .returned (.tuple #[.agg M.cells.toArray, .bool (applyL L E).2.1, .int .i64 (applyL L E).2.2]) ∧ SameL (applyL L E).1 M ∧ LedO w' w.heap.size M ∧ Below w.heap.size w w' := by
  by_cases h : L.good = true ∧ E.good = true
  · have hg := ((goodEnt_iff E.k E.r E.os E.n).1 h.2).1
    rcases (show E.k = 0 ∨ E.k = 1 ∨ E.k = 2 ∨ E.k = 3 ∨ E.k = 4 ∨ E.k = 5 by omega) with hk | hk | hk | hk | hk | hk
    · exact apply_k0 L E hk w hL hok hsm hG hek hes
    · exact apply_k1 L E hk w hL hok hsm hG hek hes
    · exact apply_k2 L E hk w hL hok hsm hG hek hes
    · exact apply_k3 L E hk w hL hok hsm hG hek hes
    · exact apply_k4 L E hk w hL hok hsm hG hek hes
    · exact apply_k5 L E hk w hL hok hsm hG hek hes
  · exact apply_bad L E h w hL hok hsm hG hek hes
end Go.Proofs.Ytkabfjbmofpkdaa
