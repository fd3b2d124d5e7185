/- Walks and plain laws of the chapter, laid together; each part says what it proves. -/
import Derived.Test.YtkabfjbmofpkdaaPkC
import Derived.Test.YtkabfjbmofpkdaaPkG
import Derived.Test.YtkabfjbmofpkdaaPkN
/- Layer 14: PartsTexts walked. -/
namespace Go.Proofs.Ytkabfjbmofpkdaa
open Go.RowKit Go.Shelf
set_option linter.unusedVariables false
set_option linter.unusedSimpArgs false
set_option maxRecDepth 100000

theorem led_all9 (L : Led) (h1 : L.rv.oneCell' = true) (h2 : L.ov.oneCell' = true) (h3 : L.bv.oneCell' = true) (h4 : L.gv.oneCell' = true) : L.cells.toArray.all (·.oneCell') = true := by
  refine all_oneCell_toArray (fun u hu => ?_)
  simp only [Led.cells, List.mem_cons, List.not_mem_nil, or_false] at hu
  rcases hu with rfl | rfl | rfl | rfl | rfl | rfl | rfl | rfl | rfl | rfl | rfl | rfl | rfl | rfl | rfl | rfl
  all_goals first | rfl | assumption
theorem small_of_bulk {ss : List ByteArray} (h : (ss.map (·.size)).sum ≤ 1048576) : ∀ M, foldTo ss ss.length = some M → M.Small := fun M hM => by
  have := (foldTo_fits _ _ hM).2
  rw [List.take_length] at this
  exact this.small (by omega)
theorem small_of_texts {L : Led} (hg : L.good = true) (hok : L.Ok) (hv : ∀ r ∈ L.all, U32 r.val) (hC : ∀ i, 8 ≤ i → L.C i = 0) (hsm : L.Small) : ∀ M, foldTo (textsOf L) (textsOf L).length = some M → M.Small := fun M hM => by
  obtain ⟨N, hN, hs⟩ := textsOf_back hg hok hv hC
  have h2 := (ledD_some hN).1
  rw [hM] at h2
  have e : M = N := Option.some.inj h2
  subst e
  exact hs.small hsm
theorem LedR.shapes {w : World} {L : Led} (h : LedR w L) : (∃ a c, L.rv = .slice a L.rows.length c) ∧ (∃ a c, L.ov = .slice a L.opn.length c) ∧ (∃ a c, L.bv = .slice a L.bats.length c) ∧ (∃ a c, L.gv = .slice a L.ops.length c) := by
  obtain ⟨a1, c1, h1, -⟩ := Rd.slice h.rows
  obtain ⟨a2, c2, h2, -⟩ := Rd.slice h.opn
  obtain ⟨a3, c3, h3, -⟩ := Rd.slice h.bats.1
  obtain ⟨a4, c4, h4, -⟩ := Rd.slice h.ops.1
  exact ⟨⟨a1, c1, h1⟩, ⟨a2, c2, h2⟩, ⟨a3, c3, h3⟩, ⟨a4, c4, h4⟩⟩
theorem strT_at {w : World} {a : Option Addr} {n cap : Nat} {ss : List ByteArray} (h : Rd w 1 (.slice a n cap) ss.length (strs ss)) (i : Nat) (hi : i < ss.length) : ∃ b o, a = some ⟨b, o, none⟩ ∧ w.cell? ⟨b, o + i, none⟩ = some (.string ss[i]) := by
  obtain ⟨a', cap', hv, h0, h1, h2, h3⟩ := h
  simp only [Value.slice.injEq] at hv
  obtain ⟨rfl, rfl, rfl⟩ := hv
  rcases h3 with h3 | ⟨b, o, rfl, hc⟩
  · omega
  · exact ⟨b, o, rfl, hc _ _ (by unfold strs; rw [List.getElem?_map, List.getElem?_eq_getElem hi]; rfl)⟩
set_option maxHeartbeats 8000000 in
theorem texts_core (hP : PDec) (L : Led) (sv : Value) (ss : List ByteArray) (w : World) (hL : LedR w L) (hok : L.Ok) (hsm : L.Small) (hv : ∀ r ∈ L.all, U32 r.val) (hC : ∀ i, 8 ≤ i → L.C i = 0) (hs : Rd w 1 sv ss.length (strs ss)) (hss : ∀ t ∈ ss, t.size ≤ 9223372036854775807) (hsl : ss.length ≤ 10000000) (hsum : (ss.map (·.size)).sum ≤ 1048576) :
    Calls Try.prog 9 #[.agg L.cells.toArray, sv] w fun e w' => e = .returned (.bool true) ∧ Below w.heap.size w w' := by
  obtain ⟨X, hX⟩ : ∃ X, X = w.alloc (.cells L.cells.toArray 30) := ⟨_, rfl⟩
  have hbX : Below w.heap.size w X := by rw [hX]; exact below_alloc _ _
  have hXS : X.heap.size = w.heap.size + 1 := by rw [hX]; simp
  have HBL := Lib.hid (show BoxL X w.heap.size L by rw [hX]; exact boxL_self w L 30)
  have HL := Lib.hid hL
  have HOK := Lib.hid hok
  have HSM := Lib.hid hsm
  have HV := Lib.hid hv
  have HC := Lib.hid hC
  have HS := Lib.hid hs
  have HSS := Lib.hid hss
  have HSUM := Lib.hid hsum
  have HBX := Lib.hid hbX
  have HX := Lib.hid hX
  obtain ⟨sa, sc, rfl, -, -⟩ := Rd.slice hs
  clear hL hok hsm hv hC hs hss hsum hbX hX
  go_enter Try.func9, Try.ntmps9
  go_upto_region 1 with fail
  rw [← HX.out]
  go_wp2_with fail
  refine (known14_calls _).mono ?_
  rintro e w1 ⟨rfl, hb1⟩
  have HB1 := Lib.hid (HBX.out.trans (hb1.mono (by omega)))
  have HBL1 := Lib.hid (HBL.out.later hb1)
  have HRG := Lib.hid HBL1.out.range
  have hs1 := hb1.size
  clear hb1
  go_wp2_with (first | (refine wpList_load_mid rfl 30 _ rfl (w.heap.size) 0 rfl (Led.cells L) _ (by exact HRG.out) Try.underlying30 rfl (by show _ = some 16; kernel_rfl) ?_) | (refine wp_load_mid 30 _ rfl (w.heap.size) 0 rfl (Led.cells L) _ (by exact HRG.out) Try.underlying30 rfl (by show _ = some 16; kernel_rfl) ?_) | (refine list_loadk rfl rfl (b := w.heap.size) (off := 0) rfl (cs := Led.cells L) Try.underlying30 rfl (by show _ = some 16; kernel_rfl) (by exact HRG.out) ?_))
  cases hg : L.good with
  | false =>
    refine (penc_bad L w1 (HL.out.below HB1.out (Nat.le_refl _)) HOK.out HSM.out hg).mono ?_
    rintro e w2 ⟨rfl, hb2⟩
    have HB2 := Lib.hid (HB1.out.trans (hb2.mono (by omega)))
    have HRG := Lib.hid (HBL1.out.later hb2).range
    have HG := Lib.hid hg
    clear hb2 hg
    go_wp2_with (first | (refine wpList_load_mid rfl 30 _ rfl (w.heap.size) 0 rfl (Led.cells L) _ (by exact HRG.out) Try.underlying30 rfl (by show _ = some 16; kernel_rfl) ?_) | (refine wp_load_mid 30 _ rfl (w.heap.size) 0 rfl (Led.cells L) _ (by exact HRG.out) Try.underlying30 rfl (by show _ = some 16; kernel_rfl) ?_) | (refine list_loadk rfl rfl (b := w.heap.size) (off := 0) rfl (cs := Led.cells L) Try.underlying30 rfl (by show _ = some 16; kernel_rfl) (by exact HRG.out) ?_))
    refine (rGood_calls L w2 (HL.out.below HB2.out (Nat.le_refl _)) HOK.out HSM.out).mono ?_
    rintro e w3 ⟨rfl, hb3⟩
    rw [HG.out]
    have HB3 := Lib.hid (HB2.out.trans (hb3.mono HB2.out.size))
    clear hb3
    go_wp2_with fail
    go_ret
    exact ⟨rfl, HB3.out⟩
  | true =>
    have HF := Lib.hid (fine_of hg HOK.out HV.out)
    have HG := Lib.hid hg
    refine (penc_good L w1 (HL.out.below HB1.out (Nat.le_refl _)) HOK.out HSM.out hg HF.out).mono ?_
    rintro e w2 ⟨tv, rfl, htx, hb2⟩
    have HB2 := Lib.hid (HB1.out.trans (hb2.mono (by omega)))
    have HBL2 := Lib.hid (HBL1.out.later hb2)
    have HRG := Lib.hid HBL2.out.range
    have hs2 := hb2.size
    obtain ⟨ta, tc, rfl⟩ := own_slice htx
    have HTX := Lib.hid htx
    clear hb2 htx hg
    go_wp2_with (first | (refine wpList_load_mid rfl 30 _ rfl (w.heap.size) 0 rfl (Led.cells L) _ (by exact HRG.out) Try.underlying30 rfl (by show _ = some 16; kernel_rfl) ?_) | (refine wp_load_mid 30 _ rfl (w.heap.size) 0 rfl (Led.cells L) _ (by exact HRG.out) Try.underlying30 rfl (by show _ = some 16; kernel_rfl) ?_) | (refine list_loadk rfl rfl (b := w.heap.size) (off := 0) rfl (cs := Led.cells L) Try.underlying30 rfl (by show _ = some 16; kernel_rfl) (by exact HRG.out) ?_))
    refine (rGood_calls L w2 (HL.out.below HB2.out (Nat.le_refl _)) HOK.out HSM.out).mono ?_
    rintro e w3 ⟨rfl, hb3⟩
    rw [HG.out]
    have HB3 := Lib.hid (HB2.out.trans (hb3.mono HB2.out.size))
    have HBL3 := Lib.hid (HBL2.out.later hb3)
    have HTX3 := Lib.hid (ownsRow_below HTX.out hb3 (Nat.le_refl _))
    clear hb3
    have HLEN := Lib.hid (show (textsOf L).length ≤ 10000000 by
      have h1 := HSM.out.rows
      have h2 := HSM.out.bats
      unfold textsOf
      split <;> simp <;> omega)
    have hll := HLEN.out
    go_wp2_with fail
    go_loopw [7] (fun iv wr => ∃ j : Nat, j ≤ (textsOf L).length ∧ iv = .int .i64 j ∧ wr = w3) (fun iv _ => (textsOf L).length - (intOf iv).toNat)
    case atStart => exact ⟨0, by omega, rfl, rfl⟩
    case round =>
      obtain ⟨j, hj, rfl, rfl⟩ := hrel
      by_cases hlt : j < (textsOf L).length
      · obtain ⟨b, o, rfl, d0⟩ := strT_at (Rd.of_own HTX3.out) j hlt
        have hle := textsOf_len HF.out (textsOf L)[j] (List.getElem_mem _)
        generalize (textsOf L)[j] = t at *
        have d1 : decide (60000 < (t.size : Int)) = false := decide_eq_false (by omega)
        go_wp2_with fail
        go_roundw
        case rel => exact ⟨j + 1, by omega, by go_num, trivial⟩
        case measure => simp [intOf]; omega
      · obtain rfl : j = (textsOf L).length := by omega
        have HPT := Lib.hid (hP _ (textsOf L) wr (Rd.of_own HTX3.out) (fun t ht => Nat.le_trans (textsOf_len HF.out t ht) (by omega)) hll (small_of_texts HG.out HOK.out HV.out HC.out HSM.out))
        clear hlt
        go_wp2_with fail
        refine HPT.out.mono ?_
        rintro e w4 ⟨L', cd, rfl, hlo, hb4, hres⟩
        have hback := textsOf_back HG.out HOK.out HV.out HC.out
        have hcs : cd = 0 ∧ SameL L L' := by
          obtain ⟨M, hM, hs⟩ := hback
          rcases hres with ⟨h1, N, hN, hs2⟩ | ⟨-, h2, -⟩
          · rw [hM] at hN
            have e : M = N := Option.some.inj hN
            subst e
            exact ⟨h1, hs.trans hs2⟩
          · rw [hM] at h2; cases h2
        obtain ⟨rfl, hsame⟩ := hcs
        have HSAME := Lib.hid hsame.symm
        have HB4 := Lib.hid (HB3.out.trans (hb4.mono HB3.out.size))
        have HBL4 := Lib.hid (HBL3.out.later hb4)
        have HLO := Lib.hid hlo
        clear hback hres hsame hb4 hlo
        have hs4 := HB4.out.size
        have hT := there_new w4
        unfold zero16 at hT
        have HT := Lib.hid hT
        clear hT
        have H1 := Lib.hid (led_all9 L' (own_one HLO.out.rows) (own_one HLO.out.opn) (own_one HLO.out.bats) (own_one HLO.out.ops))
        have hbn := box_new w4 L'
        have hth := there_new w4
        have hth2 := World.there_setCells hth w4.heap.size 0 L'.cells
        unfold zero16 at hbn hth2
        have HBN := Lib.hid hbn
        have HTH := Lib.hid hth2
        clear hbn hth hth2
        go_upto_region 12 with (first | (refine wpList_store_mid rfl 30 _ _ rfl (w4.heap.size) 0 (Led.cells L').toArray rfl rfl (by exact HT.out) (by show _ = some 16; kernel_rfl) H1.out ?_; generalize hWgen : World.setCells _ _ _ _ = W5 at *; clear hWgen) | (refine wp_store_mid 30 _ _ rfl (w4.heap.size) 0 (Led.cells L').toArray rfl rfl (by exact HT.out) (by show _ = some 16; kernel_rfl) H1.out ?_; generalize hWgen : World.setCells _ _ _ _ = W5 at *; clear hWgen))
        have HB5 := Lib.hid (HB4.out.trans (HBN.out.2.mono hs4))
        have HBL5 := Lib.hid (HBL4.out.later HBN.out.2)
        have HBM5 := Lib.hid HBN.out.1
        have HLO5 := Lib.hid (HLO.out.below HBN.out.2)
        clear HT H1 HBN HBL4 HLO HPT HBL3 HBL2 HBL1 HTX3 HTX HB1 HB2 HB3 HX HBX HRG
        have hsl5 := HL.out.shapes
        have hsm5 := HLO5.out.reads.shapes
        obtain ⟨rv, rows, C, ov, opn, bv, bats, sealed, decided, dep, gv, ops, keep⟩ := L
        obtain ⟨rvm, rowsm, Cm, ovm, opnm, bvm, batsm, sealedm, decidedm, depm, gvm, opsm, keepm⟩ := L'
        obtain ⟨⟨ra, rc, hrv⟩, ⟨oa, oc, hov⟩, ⟨ba, bc, hbv⟩, ⟨ga, gc, hgv⟩⟩ := hsl5
        obtain ⟨⟨ram, rcm, hrvm⟩, ⟨oam, ocm, hovm⟩, ⟨bam, bcm, hbvm⟩, ⟨gam, gcm, hgvm⟩⟩ := hsm5
        simp only at hrv hov hbv hgv hrvm hovm hbvm hgvm
        subst hrv hov hbv hgv hrvm hovm hbvm hgvm
        have c0 : W5.cell? ⟨w4.heap.size, 0, none⟩ = some (.slice ram rowsm.length rcm) := HBM5.out 0 _ rfl
        have c1 : W5.cell? ⟨w4.heap.size, 1, none⟩ = some (.int .i64 (Cm 0)) := HBM5.out 1 _ rfl
        have c2 : W5.cell? ⟨w4.heap.size, 2, none⟩ = some (.int .i64 (Cm 1)) := HBM5.out 2 _ rfl
        have c3 : W5.cell? ⟨w4.heap.size, 3, none⟩ = some (.int .i64 (Cm 2)) := HBM5.out 3 _ rfl
        have c4 : W5.cell? ⟨w4.heap.size, 4, none⟩ = some (.int .i64 (Cm 3)) := HBM5.out 4 _ rfl
        have c5 : W5.cell? ⟨w4.heap.size, 5, none⟩ = some (.int .i64 (Cm 4)) := HBM5.out 5 _ rfl
        have c6 : W5.cell? ⟨w4.heap.size, 6, none⟩ = some (.int .i64 (Cm 5)) := HBM5.out 6 _ rfl
        have c7 : W5.cell? ⟨w4.heap.size, 7, none⟩ = some (.int .i64 (Cm 6)) := HBM5.out 7 _ rfl
        have c8 : W5.cell? ⟨w4.heap.size, 8, none⟩ = some (.int .i64 (Cm 7)) := HBM5.out 8 _ rfl
        have c9 : W5.cell? ⟨w4.heap.size, 9, none⟩ = some (.slice oam opnm.length ocm) := HBM5.out 9 _ rfl
        have c10 : W5.cell? ⟨w4.heap.size, 10, none⟩ = some (.slice bam batsm.length bcm) := HBM5.out 10 _ rfl
        have c11 : W5.cell? ⟨w4.heap.size, 11, none⟩ = some (.int .i64 sealedm) := HBM5.out 11 _ rfl
        have c12 : W5.cell? ⟨w4.heap.size, 12, none⟩ = some (.int .i64 decidedm) := HBM5.out 12 _ rfl
        have c13 : W5.cell? ⟨w4.heap.size, 13, none⟩ = some (.bool depm) := HBM5.out 13 _ rfl
        have c14 : W5.cell? ⟨w4.heap.size, 14, none⟩ = some (.slice gam opsm.length gcm) := HBM5.out 14 _ rfl
        have c15 : W5.cell? ⟨w4.heap.size, 15, none⟩ = some (.int .i64 keepm) := HBM5.out 15 _ rfl
        have d0 : W5.cell? ⟨w.heap.size, 0, none⟩ = some (.slice ra rows.length rc) := HBL5.out 0 _ rfl
        have d1 : W5.cell? ⟨w.heap.size, 1, none⟩ = some (.int .i64 (C 0)) := HBL5.out 1 _ rfl
        have d2 : W5.cell? ⟨w.heap.size, 2, none⟩ = some (.int .i64 (C 1)) := HBL5.out 2 _ rfl
        have d3 : W5.cell? ⟨w.heap.size, 3, none⟩ = some (.int .i64 (C 2)) := HBL5.out 3 _ rfl
        have d4 : W5.cell? ⟨w.heap.size, 4, none⟩ = some (.int .i64 (C 3)) := HBL5.out 4 _ rfl
        have d5 : W5.cell? ⟨w.heap.size, 5, none⟩ = some (.int .i64 (C 4)) := HBL5.out 5 _ rfl
        have d6 : W5.cell? ⟨w.heap.size, 6, none⟩ = some (.int .i64 (C 5)) := HBL5.out 6 _ rfl
        have d7 : W5.cell? ⟨w.heap.size, 7, none⟩ = some (.int .i64 (C 6)) := HBL5.out 7 _ rfl
        have d8 : W5.cell? ⟨w.heap.size, 8, none⟩ = some (.int .i64 (C 7)) := HBL5.out 8 _ rfl
        have d9 : W5.cell? ⟨w.heap.size, 9, none⟩ = some (.slice oa opn.length oc) := HBL5.out 9 _ rfl
        have d10 : W5.cell? ⟨w.heap.size, 10, none⟩ = some (.slice ba bats.length bc) := HBL5.out 10 _ rfl
        have d11 : W5.cell? ⟨w.heap.size, 11, none⟩ = some (.int .i64 sealed) := HBL5.out 11 _ rfl
        have d12 : W5.cell? ⟨w.heap.size, 12, none⟩ = some (.int .i64 decided) := HBL5.out 12 _ rfl
        have d13 : W5.cell? ⟨w.heap.size, 13, none⟩ = some (.bool dep) := HBL5.out 13 _ rfl
        have d14 : W5.cell? ⟨w.heap.size, 14, none⟩ = some (.slice ga ops.length gc) := HBL5.out 14 _ rfl
        have d15 : W5.cell? ⟨w.heap.size, 15, none⟩ = some (.int .i64 keep) := HBL5.out 15 _ rfl
        go_wp2_with fail
        refine (same14_calls ⟨_, rowsm, Cm, _, opnm, _, batsm, sealedm, decidedm, depm, _, opsm, keepm⟩ ⟨_, rows, C, _, opn, _, bats, sealed, decided, dep, _, ops, keep⟩ W5 HLO5.out.reads (HL.out.below HB5.out (Nat.le_refl _)) HSAME.out).mono ?_
        rintro e w6 ⟨rfl, hb6⟩
        have HB6 := Lib.hid (HB5.out.trans (hb6.mono HB5.out.size))
        have HTH6 := Lib.hid (there_only HTH.out (Only.of_below (S := fun _ => False) hb6) HBM5.out.lt (fun h => h))
        have HLT := Lib.hid (Nat.lt_of_lt_of_le HBM5.out.lt hb6.size)
        have HPS := Lib.hid (hP _ ss w6 (HS.out.below HB6.out (Nat.le_refl _)) HSS.out hsl (small_of_bulk HSUM.out))
        clear hb6 c0 c1 c2 c3 c4 c5 c6 c7 c8 c9 c10 c11 c12 c13 c14 c15 d0 d1 d2 d3 d4 d5 d6 d7 d8 d9 d10 d11 d12 d13 d14 d15 HBM5 HBL5 HTH HB5 HLO5 HSAME
        go_wp2_with fail
        refine HPS.out.mono ?_
        rintro e w7 ⟨L2, cd2, rfl, hlo, hb7, hres⟩
        have HB7 := Lib.hid (HB6.out.trans (hb7.mono HB6.out.size))
        have HLO := Lib.hid hlo
        have HT := Lib.hid (there_only HTH6.out (Only.of_below (S := fun _ => False) hb7) HLT.out (fun h => h))
        have H1 := Lib.hid (led_all9 L2 (own_one hlo.rows) (own_one hlo.opn) (own_one hlo.bats) (own_one hlo.ops))
        have HLT7 := Lib.hid (Nat.lt_of_lt_of_le HLT.out hb7.size)
        have hwb : w.heap.size ≤ w4.heap.size := HB4.out.size
        have hb46 : w4.heap.size < w6.heap.size := HLT.out
        have hon := onlyC w7 w4.heap.size (Led.cells L2) 0
        have hbx := World.rangeAt_setCells_same w7 w4.heap.size 0 L2.cells HT.out
        have HB8 := Lib.hid (HB7.out.trans (hon.below HB7.out.size (fun j hj e => by omega)))
        have HR8 := Lib.hid (show BoxL (w7.setCells w4.heap.size 0 L2.cells) w4.heap.size L2 from fun j v hj => by have := hbx j v hj; rwa [Nat.zero_add] at this)
        have HLO8 := Lib.hid (hlo.only hon (fun j h1 h2 e => by omega)).reads
        clear hlo hb7 hon hbx HB7 HPS HTH6 HB6 HLT
        rcases hres with ⟨rfl, M, hM, hs2⟩ | ⟨rfl, -, rfl⟩
        · have hd := ledD_some hM
          have hfit := foldTo_fits _ _ hd.1
          have HOK2 := Lib.hid (hs2.ok hfit.1)
          have HSM2 := Lib.hid (hs2.small (small_of_bulk HSUM.out M hd.1))
          have HG2 := Lib.hid (show L2.good = true by rw [hs2.good]; exact hd.2.2)
          clear hM hs2 hd hfit
          go_upto_region 15 with (first | (refine wpList_store_mid rfl 30 _ _ rfl (w4.heap.size) 0 (Led.cells L2).toArray rfl rfl (by exact HT.out) (by show _ = some 16; kernel_rfl) H1.out ?_; generalize hWgen : World.setCells _ _ _ _ = W8 at *; clear hWgen) | (refine wp_store_mid 30 _ _ rfl (w4.heap.size) 0 (Led.cells L2).toArray rfl rfl (by exact HT.out) (by show _ = some 16; kernel_rfl) H1.out ?_; generalize hWgen : World.setCells _ _ _ _ = W8 at *; clear hWgen))
          have hsl := HLO8.out.shapes
          obtain ⟨rv2, rows2, C2, ov2, opn2, bv2, bats2, sealed2, decided2, dep2, gv2, ops2, keep2⟩ := L2
          obtain ⟨⟨ra2, rc2, hrv⟩, ⟨oa2, oc2, hov⟩, ⟨ba2, bc2, hbv⟩, ⟨ga2, gc2, hgv⟩⟩ := hsl
          simp only at hrv hov hbv hgv
          subst hrv hov hbv hgv
          have c0 : W8.cell? ⟨w4.heap.size, 0, none⟩ = some (.slice ra2 rows2.length rc2) := HR8.out 0 _ rfl
          have c1 : W8.cell? ⟨w4.heap.size, 1, none⟩ = some (.int .i64 (C2 0)) := HR8.out 1 _ rfl
          have c2 : W8.cell? ⟨w4.heap.size, 2, none⟩ = some (.int .i64 (C2 1)) := HR8.out 2 _ rfl
          have c3 : W8.cell? ⟨w4.heap.size, 3, none⟩ = some (.int .i64 (C2 2)) := HR8.out 3 _ rfl
          have c4 : W8.cell? ⟨w4.heap.size, 4, none⟩ = some (.int .i64 (C2 3)) := HR8.out 4 _ rfl
          have c5 : W8.cell? ⟨w4.heap.size, 5, none⟩ = some (.int .i64 (C2 4)) := HR8.out 5 _ rfl
          have c6 : W8.cell? ⟨w4.heap.size, 6, none⟩ = some (.int .i64 (C2 5)) := HR8.out 6 _ rfl
          have c7 : W8.cell? ⟨w4.heap.size, 7, none⟩ = some (.int .i64 (C2 6)) := HR8.out 7 _ rfl
          have c8 : W8.cell? ⟨w4.heap.size, 8, none⟩ = some (.int .i64 (C2 7)) := HR8.out 8 _ rfl
          have c9 : W8.cell? ⟨w4.heap.size, 9, none⟩ = some (.slice oa2 opn2.length oc2) := HR8.out 9 _ rfl
          have c10 : W8.cell? ⟨w4.heap.size, 10, none⟩ = some (.slice ba2 bats2.length bc2) := HR8.out 10 _ rfl
          have c11 : W8.cell? ⟨w4.heap.size, 11, none⟩ = some (.int .i64 sealed2) := HR8.out 11 _ rfl
          have c12 : W8.cell? ⟨w4.heap.size, 12, none⟩ = some (.int .i64 decided2) := HR8.out 12 _ rfl
          have c13 : W8.cell? ⟨w4.heap.size, 13, none⟩ = some (.bool dep2) := HR8.out 13 _ rfl
          have c14 : W8.cell? ⟨w4.heap.size, 14, none⟩ = some (.slice ga2 ops2.length gc2) := HR8.out 14 _ rfl
          have c15 : W8.cell? ⟨w4.heap.size, 15, none⟩ = some (.int .i64 keep2) := HR8.out 15 _ rfl
          go_wp2_with fail
          refine (rGood_calls ⟨_, rows2, C2, _, opn2, _, bats2, sealed2, decided2, dep2, _, ops2, keep2⟩ W8 HLO8.out HOK2.out HSM2.out).mono ?_
          rintro e w9 ⟨rfl, hb9⟩
          rw [HG2.out]
          have HB9 := Lib.hid (HB8.out.trans (hb9.mono HB8.out.size))
          clear hb9 c0 c1 c2 c3 c4 c5 c6 c7 c8 c9 c10 c11 c12 c13 c14 c15
          go_wp2_with fail
          go_ret
          exact ⟨rfl, HB9.out⟩
        · skip
          go_upto_region 15 with (first | (refine wpList_store_mid rfl 30 _ _ rfl (w4.heap.size) 0 (Led.cells zeroL).toArray rfl rfl (by exact HT.out) (by show _ = some 16; kernel_rfl) H1.out ?_; generalize hWgen : World.setCells _ _ _ _ = W8 at *; clear hWgen) | (refine wp_store_mid 30 _ _ rfl (w4.heap.size) 0 (Led.cells zeroL).toArray rfl rfl (by exact HT.out) (by show _ = some 16; kernel_rfl) H1.out ?_; generalize hWgen : World.setCells _ _ _ _ = W8 at *; clear hWgen))
          have c0 : W8.cell? ⟨w4.heap.size, 0, none⟩ = some (.slice none 0 0) := HR8.out 0 _ rfl
          have c1 : W8.cell? ⟨w4.heap.size, 1, none⟩ = some (.int .i64 0) := HR8.out 1 _ rfl
          have c2 : W8.cell? ⟨w4.heap.size, 2, none⟩ = some (.int .i64 0) := HR8.out 2 _ rfl
          have c3 : W8.cell? ⟨w4.heap.size, 3, none⟩ = some (.int .i64 0) := HR8.out 3 _ rfl
          have c4 : W8.cell? ⟨w4.heap.size, 4, none⟩ = some (.int .i64 0) := HR8.out 4 _ rfl
          have c5 : W8.cell? ⟨w4.heap.size, 5, none⟩ = some (.int .i64 0) := HR8.out 5 _ rfl
          have c6 : W8.cell? ⟨w4.heap.size, 6, none⟩ = some (.int .i64 0) := HR8.out 6 _ rfl
          have c7 : W8.cell? ⟨w4.heap.size, 7, none⟩ = some (.int .i64 0) := HR8.out 7 _ rfl
          have c8 : W8.cell? ⟨w4.heap.size, 8, none⟩ = some (.int .i64 0) := HR8.out 8 _ rfl
          have c9 : W8.cell? ⟨w4.heap.size, 9, none⟩ = some (.slice none 0 0) := HR8.out 9 _ rfl
          have c10 : W8.cell? ⟨w4.heap.size, 10, none⟩ = some (.slice none 0 0) := HR8.out 10 _ rfl
          have c11 : W8.cell? ⟨w4.heap.size, 11, none⟩ = some (.int .i64 0) := HR8.out 11 _ rfl
          have c12 : W8.cell? ⟨w4.heap.size, 12, none⟩ = some (.int .i64 0) := HR8.out 12 _ rfl
          have c13 : W8.cell? ⟨w4.heap.size, 13, none⟩ = some (.bool false) := HR8.out 13 _ rfl
          have c14 : W8.cell? ⟨w4.heap.size, 14, none⟩ = some (.slice none 0 0) := HR8.out 14 _ rfl
          have c15 : W8.cell? ⟨w4.heap.size, 15, none⟩ = some (.int .i64 0) := HR8.out 15 _ rfl
          go_wp2_with fail
          refine (same14_calls zeroL zeroL W8 HLO8.out HLO8.out (SameL.refl _)).mono ?_
          rintro e w9 ⟨rfl, hb9⟩
          have HB9 := Lib.hid (HB8.out.trans (hb9.mono HB8.out.size))
          clear hb9 c0 c1 c2 c3 c4 c5 c6 c7 c8 c9 c10 c11 c12 c13 c14 c15
          go_wp2_with fail
          go_ret
          exact ⟨rfl, HB9.out⟩
end Go.Proofs.Ytkabfjbmofpkdaa

/- A ledger with its values' range, and a row of texts, read of an argument. (Printed by tools/gen_toptexts.py.) -/
namespace Go.Proofs.Ytkabfjbmofpkdaa
open Go.RowKit Go.ChangeShapes Go.WideShapes Go.ChangeAt
set_option maxRecDepth 100000

theorem cells_recV {H : Type} {enc : TypeId × Value → H} {W : World} {held : Bool} {fuel : Nat} {cs : List Value} {y : DataW H × List MemPlace} (hf : DataW.trod enc Try.prog W 0 (fun _ => true) held fuel 33 cs = some y) : ∃ r : Rec, cs = Rec.cells r ∧ r.ok ∧ U32 r.val := by
  obtain ⟨xs, n, -, -, hl, hxl, hx⟩ := DataW.trod_struct Try.underlying33 hf
  have hl3 : cs.length = 5 := hl.trans (by kernel_rfl)
  have hc : Try.prog.cellsOf 3 = 1 := by kernel_rfl
  have hcs : Try.prog.cellsOf 9 = 1 := by kernel_rfl
  have hcu : Try.prog.cellsOf 31 = 1 := by kernel_rfl
  match cs, hl3 with
  | [v0, v1, v2, v3, v4], _ =>
    have h0 : DataW.trod enc Try.prog W 0 (fun _ => true) held n 3 (([v0, v1, v2, v3, v4].drop 0).take (Try.prog.cellsOf 3)) = xs[0]? := hx 0 _ rfl
    have h1 : DataW.trod enc Try.prog W 0 (fun _ => true) held n 3 (([v0, v1, v2, v3, v4].drop 1).take (Try.prog.cellsOf 3)) = xs[1]? := hx 1 _ rfl
    have h2 : DataW.trod enc Try.prog W 0 (fun _ => true) held n 3 (([v0, v1, v2, v3, v4].drop 2).take (Try.prog.cellsOf 3)) = xs[2]? := hx 2 _ rfl
    have h3 : DataW.trod enc Try.prog W 0 (fun _ => true) held n 9 (([v0, v1, v2, v3, v4].drop 3).take (Try.prog.cellsOf 9)) = xs[3]? := hx 3 _ rfl
    have h4 : DataW.trod enc Try.prog W 0 (fun _ => true) held n 31 (([v0, v1, v2, v3, v4].drop 4).take (Try.prog.cellsOf 31)) = xs[4]? := hx 4 _ rfl
    simp only [hc, hcs, hcu, List.drop_zero, List.drop_succ_cons, List.take_succ_cons, List.take_zero] at h0 h1 h2 h3 h4
    have hs : ∀ i, i < 5 → ∃ z, xs[i]? = some z := fun i hi => ⟨_, List.getElem?_eq_getElem (by rw [hxl]; exact hi)⟩
    obtain ⟨z0, e0⟩ := hs 0 (by omega)
    obtain ⟨z1, e1⟩ := hs 1 (by omega)
    obtain ⟨z2, e2⟩ := hs 2 (by omega)
    obtain ⟨z3, e3⟩ := hs 3 (by omega)
    obtain ⟨z4, e4⟩ := hs 4 (by omega)
    rw [e0] at h0; rw [e1] at h1; rw [e2] at h2; rw [e3] at h3; rw [e4] at h4
    obtain ⟨a, ha, -, wa⟩ := DataW.trod_int Try.underlying3 h0
    obtain ⟨b, hb, -, wb⟩ := DataW.trod_int Try.underlying3 h1
    obtain ⟨c, hc, -, wc⟩ := DataW.trod_int Try.underlying3 h2
    obtain ⟨s, hst, -, ws⟩ := DataW.trod_string Try.underlying9 h3
    obtain ⟨d, hd, -, wd⟩ := DataW.trod_int Try.underlying31 h4
    cases ha; cases hb; cases hc; cases hst; cases hd
    exact ⟨⟨a, b, c, s, d⟩, rfl, ⟨Go.bounds_i64 wa, Go.bounds_i64 wb, Go.bounds_i64 wc, by unfold maxLen at ws; omega⟩, Go.bounds_u32 wd⟩

theorem cells_recsV {H : Type} {enc : TypeId × Value → H} {W : World} {held : Bool} {fuel : Nat} {cs : List Value} {y : DataW H × List MemPlace} (hf : DataW.trod enc Try.prog W 0 (fun _ => true) held fuel 24 cs = some y) : ∃ v rs, cs = [v] ∧ Recs W v rs ∧ (∀ r ∈ rs, r.ok ∧ U32 r.val) ∧ rs.length + 1 ≤ Rows.uptoBulk y.1 ∧ Shape y.1 rs.length :=
  cells_structs (f := Rec.cells) Try.underlying24 (by kernel_rfl) rec5 (by omega) (fun _ _ _ h => cells_recV h) hf

theorem cells_btV {H : Type} {enc : TypeId × Value → H} {W : World} {held : Bool} {fuel : Nat} {cs : List Value} {y : DataW H × List MemPlace}
    (hf : DataW.trod enc Try.prog W 0 (fun _ => true) held fuel 67 cs = some y) : ∃ b : Bt, cs = b.cells ∧ (Recs W b.rv b.recs ∧ I64 b.ep ∧ ∀ r ∈ b.recs, r.ok ∧ U32 r.val) ∧ b.recs.length + 1 ≤ Rows.uptoBulk y.1 := by
  obtain ⟨xs, n, -, hxy, hl, hxl, hx⟩ := DataW.trod_struct Try.underlying67 hf
  have hlN : cs.length = 2 := hl.trans (by kernel_rfl)
  have hc_tInt : Try.prog.cellsOf 3 = 1 := by kernel_rfl
  have hc_tRecs : Try.prog.cellsOf 24 = 1 := by kernel_rfl
  match cs, hlN with
  | [v0, v1], _ =>
    have h0 : DataW.trod enc Try.prog W 0 (fun _ => true) held n 3 (([v0, v1].drop 0).take (Try.prog.cellsOf 3)) = xs[0]? := hx 0 _ rfl
    have h1 : DataW.trod enc Try.prog W 0 (fun _ => true) held n 24 (([v0, v1].drop 1).take (Try.prog.cellsOf 24)) = xs[1]? := hx 1 _ rfl
    simp only [hc_tInt, hc_tRecs, List.drop_zero, List.drop_succ_cons, List.take_succ_cons, List.take_zero] at h0 h1
    have hs : ∀ i, i < 2 → ∃ z, xs[i]? = some z := fun i hi => ⟨_, List.getElem?_eq_getElem (by rw [hxl]; exact hi)⟩
    obtain ⟨z0, e0⟩ := hs 0 (by omega)
    rw [e0] at h0
    obtain ⟨z1, e1⟩ := hs 1 (by omega)
    rw [e1] at h1
    obtain ⟨a, q0, -, wa⟩ := DataW.trod_int Try.underlying3 h0
    obtain ⟨v, rs, q1, hi, hk, hb, -⟩ := cells_recsV h1
    cases q0
    cases q1
    exact ⟨⟨a, _, rs⟩, rfl, ⟨hi, Go.bounds_i64 wa, hk⟩, by
      have hq := bulk_mem (l := xs.map (·.1)) (j := 1) (by rw [List.getElem?_map, e1]; rfl)
      dsimp only at hq
      rw [hxy]
      simp only [Rows.uptoBulk]
      show rs.length + 1 ≤ _
      omega⟩

theorem cells_batsV {H : Type} {enc : TypeId × Value → H} {W : World} {held : Bool} {fuel : Nat} {cs : List Value} {y : DataW H × List MemPlace} (hf : DataW.trod enc Try.prog W 0 (fun _ => true) held fuel 25 cs = some y) :
    ∃ v bs, cs = [v] ∧ BtsR W v bs ∧ (∀ b ∈ bs, I64 b.ep ∧ ∀ r ∈ b.recs, r.ok ∧ U32 r.val) ∧ (bs.map (fun b => b.recs.length)).sum + bs.length + 1 ≤ Rows.uptoBulk y.1 := by
  obtain ⟨v, bs, h1, h2, h3, h4⟩ := cells_structsW (f := Bt.cells) (k := 2) (Q := fun b => Recs W b.rv b.recs ∧ I64 b.ep ∧ ∀ r ∈ b.recs, r.ok ∧ U32 r.val) (fun b => b.recs.length) Try.underlying25 (by kernel_rfl) bt2 (by omega) (fun fuel cs z h => cells_btV h) hf
  exact ⟨v, bs, h1, ⟨h2, fun b hb => (h3 b hb).1⟩, fun b hb => (h3 b hb).2, h4⟩

theorem cells_ledV {H : Type} {enc : TypeId × Value → H} {W : World} {held : Bool} {fuel : Nat} {cs : List Value} {y : DataW H × List MemPlace}
    (hf : DataW.trod enc Try.prog W 0 (fun _ => true) held fuel 30 cs = some y) : ∃ L : Led, cs = L.cells ∧ LedR W L ∧ L.Ok ∧ (∀ r ∈ L.all, U32 r.val) ∧ (Rows.uptoBulk y.1 ≤ 1048576 → L.Sz 1048576) := by
  obtain ⟨xs, n, -, hxy, hl, hxl, hx⟩ := DataW.trod_struct Try.underlying30 hf
  have hlN : cs.length = 16 := hl.trans (by kernel_rfl)
  have hc_tRows : Try.prog.cellsOf 22 = 1 := by kernel_rfl
  have hc_tCnt : Try.prog.cellsOf 23 = 8 := by kernel_rfl
  have hc_tRecs : Try.prog.cellsOf 24 = 1 := by kernel_rfl
  have hc_tBats : Try.prog.cellsOf 25 = 1 := by kernel_rfl
  have hc_tInt : Try.prog.cellsOf 3 = 1 := by kernel_rfl
  have hc_tBool : Try.prog.cellsOf 4 = 1 := by kernel_rfl
  have hc_tGraph : Try.prog.cellsOf 28 = 1 := by kernel_rfl
  match cs, hlN with
  | [v0, v1, v2, v3, v4, v5, v6, v7, v8, v9, v10, v11, v12, v13, v14, v15], _ =>
    have h0 : DataW.trod enc Try.prog W 0 (fun _ => true) held n 22 (([v0, v1, v2, v3, v4, v5, v6, v7, v8, v9, v10, v11, v12, v13, v14, v15].drop 0).take (Try.prog.cellsOf 22)) = xs[0]? := hx 0 _ rfl
    have h1 : DataW.trod enc Try.prog W 0 (fun _ => true) held n 23 (([v0, v1, v2, v3, v4, v5, v6, v7, v8, v9, v10, v11, v12, v13, v14, v15].drop 1).take (Try.prog.cellsOf 23)) = xs[1]? := hx 1 _ rfl
    have h2 : DataW.trod enc Try.prog W 0 (fun _ => true) held n 24 (([v0, v1, v2, v3, v4, v5, v6, v7, v8, v9, v10, v11, v12, v13, v14, v15].drop 9).take (Try.prog.cellsOf 24)) = xs[2]? := hx 2 _ rfl
    have h3 : DataW.trod enc Try.prog W 0 (fun _ => true) held n 25 (([v0, v1, v2, v3, v4, v5, v6, v7, v8, v9, v10, v11, v12, v13, v14, v15].drop 10).take (Try.prog.cellsOf 25)) = xs[3]? := hx 3 _ rfl
    have h4 : DataW.trod enc Try.prog W 0 (fun _ => true) held n 3 (([v0, v1, v2, v3, v4, v5, v6, v7, v8, v9, v10, v11, v12, v13, v14, v15].drop 11).take (Try.prog.cellsOf 3)) = xs[4]? := hx 4 _ rfl
    have h5 : DataW.trod enc Try.prog W 0 (fun _ => true) held n 3 (([v0, v1, v2, v3, v4, v5, v6, v7, v8, v9, v10, v11, v12, v13, v14, v15].drop 12).take (Try.prog.cellsOf 3)) = xs[5]? := hx 5 _ rfl
    have h6 : DataW.trod enc Try.prog W 0 (fun _ => true) held n 4 (([v0, v1, v2, v3, v4, v5, v6, v7, v8, v9, v10, v11, v12, v13, v14, v15].drop 13).take (Try.prog.cellsOf 4)) = xs[6]? := hx 6 _ rfl
    have h7 : DataW.trod enc Try.prog W 0 (fun _ => true) held n 28 (([v0, v1, v2, v3, v4, v5, v6, v7, v8, v9, v10, v11, v12, v13, v14, v15].drop 14).take (Try.prog.cellsOf 28)) = xs[7]? := hx 7 _ rfl
    have h8 : DataW.trod enc Try.prog W 0 (fun _ => true) held n 3 (([v0, v1, v2, v3, v4, v5, v6, v7, v8, v9, v10, v11, v12, v13, v14, v15].drop 15).take (Try.prog.cellsOf 3)) = xs[8]? := hx 8 _ rfl
    simp only [hc_tRows, hc_tCnt, hc_tRecs, hc_tBats, hc_tInt, hc_tBool, hc_tGraph, List.drop_zero, List.drop_succ_cons, List.take_succ_cons, List.take_zero] at h0 h1 h2 h3 h4 h5 h6 h7 h8
    have hs : ∀ i, i < 9 → ∃ z, xs[i]? = some z := fun i hi => ⟨_, List.getElem?_eq_getElem (by rw [hxl]; exact hi)⟩
    obtain ⟨z0, e0⟩ := hs 0 (by omega)
    rw [e0] at h0
    obtain ⟨z1, e1⟩ := hs 1 (by omega)
    rw [e1] at h1
    obtain ⟨z2, e2⟩ := hs 2 (by omega)
    rw [e2] at h2
    obtain ⟨z3, e3⟩ := hs 3 (by omega)
    rw [e3] at h3
    obtain ⟨z4, e4⟩ := hs 4 (by omega)
    rw [e4] at h4
    obtain ⟨z5, e5⟩ := hs 5 (by omega)
    rw [e5] at h5
    obtain ⟨z6, e6⟩ := hs 6 (by omega)
    rw [e6] at h6
    obtain ⟨z7, e7⟩ := hs 7 (by omega)
    rw [e7] at h7
    obtain ⟨z8, e8⟩ := hs 8 (by omega)
    rw [e8] at h8
    obtain ⟨rv, rs, q0, hrs, kr, br, -⟩ := cells_rows h0
    obtain ⟨C, CC⟩ := cells_cntI h1
    obtain ⟨ov, os, q2, hos, ko, bo, -⟩ := cells_recsV h2
    obtain ⟨bv, bs, q3, hbs, kb, bb⟩ := cells_batsV h3
    obtain ⟨a, q4, -, wa⟩ := DataW.trod_int Try.underlying3 h4
    obtain ⟨b, q5, -, wb⟩ := DataW.trod_int Try.underlying3 h5
    obtain ⟨dp, q6, -⟩ := DataW.trod_bool Try.underlying4 h6
    obtain ⟨gv, gs, q7, hgs, kg, bg⟩ := cells_graph h7
    obtain ⟨k, q8, -, wk⟩ := DataW.trod_int Try.underlying3 h8
    cases q0
    have q1 := CC.1
    simp only [List.cons.injEq, and_true] at q1
    obtain ⟨rfl, rfl, rfl, rfl, rfl, rfl, rfl, rfl⟩ := q1
    cases q2
    cases q3
    cases q4
    cases q5
    cases q6
    cases q7
    cases q8
    exact ⟨⟨_, rs, C, _, os, _, bs, a, b, dp, _, gs, k⟩, rfl, ⟨hrs, hos, hbs, hgs⟩, ⟨kr, CC.2, fun r hr => (ko r hr).1, fun b hb => ⟨(kb b hb).1, fun r hr => ((kb b hb).2 r hr).1⟩, ⟨Go.bounds_i64 wa, Go.bounds_i64 wb, Go.bounds_i64 wk⟩, kg⟩, (fun r hr => by
      rcases List.mem_append.1 hr with h | h
      · obtain ⟨b, hb, hr⟩ := List.mem_flatMap.1 h
        exact ((kb b hb).2 r hr).2
      · exact (ko r h).2), fun hb => by
      rw [hxy] at hb
      simp only [Rows.uptoBulk] at hb
      have q0 := bulk_mem (l := xs.map (·.1)) (j := 0) (by rw [List.getElem?_map, e0]; rfl)
      have q23 := bulk_two (l := xs.map (·.1)) (i := 2) (j := 3) (by omega) (by rw [List.getElem?_map, e2]; rfl) (by rw [List.getElem?_map, e3]; rfl)
      have q7 := bulk_mem (l := xs.map (·.1)) (j := 7) (by rw [List.getElem?_map, e7]; rfl)
      have hfl := flat_len bs
      dsimp only at q0 q23 q7
      refine ⟨?_, ?_, ?_, fun x hx => ?_, ?_, ?_, fun x hx => ?_⟩
      · show rs.length ≤ _; omega
      · show os.length ≤ _; omega
      · show bs.length ≤ _; omega
      · have := sum_mem (fun b : Bt => b.recs.length) hx
        simp only at this ⊢
        omega
      · show (bs.flatMap (·.recs) ++ os).length ≤ _
        rw [List.length_append]
        omega
      · show gs.length ≤ _; omega
      · have := sum_mem (fun o : Opr => o.ins.length) hx
        simp only at this ⊢
        omega⟩

theorem open_ledgerV {H : Type} {enc : TypeId × Value → H} {W : World} {B : Nat} {held : Bool} {v : Value} {d : DataW H} {p : List MemPlace}
    (ok : Value.okWide Try.prog W .any B 30 v) (h : DataW.Trod enc Try.prog W 0 (fun _ => true) held 30 v d p) : ∃ L : Led, v = .agg L.cells.toArray ∧ LedR W L ∧ L.Ok ∧ (∀ r ∈ L.all, U32 r.val) ∧ (Rows.uptoBulk d ≤ 1048576 → L.Sz 1048576) := by
  obtain ⟨csA, rfl, hsz⟩ := okWide_struct Try.underlying30 ok
  obtain ⟨fuel, hf⟩ := h
  simp only [Value.cells] at hf
  obtain ⟨L, hL, h1, h2, h3, h4⟩ := cells_ledV hf
  exact ⟨L, by rw [← hL], h1, h2, h3, h4⟩

theorem flatF_strs (ss : List ByteArray) : flatF (fun s => [Value.string s]) ss = strs ss := by
  induction ss with
  | nil => rfl
  | cons n ns ih => simp only [flatF, List.flatMap_cons, strs, List.map_cons] at ih ⊢; rw [ih]; rfl
theorem open_strs {H : Type} {enc : TypeId × Value → H} {W : World} {B : Nat} {held : Bool} {v : Value} {d : DataW H} {p : List MemPlace}
    (ok : Value.okWide Try.prog W .any B 69 v) (h : DataW.Trod enc Try.prog W 0 (fun _ => true) held 69 v d p) : ∃ ss : List ByteArray, Rd W 1 v ss.length (strs ss) ∧ (∀ s ∈ ss, s.size ≤ maxLen) ∧ (ss.map (·.size)).sum + ss.length + 1 ≤ Rows.uptoBulk d := by
  obtain ⟨a, len, cap, rfl⟩ := okWide_slice Try.underlying69 ok
  obtain ⟨fuel, hf⟩ := h
  obtain ⟨v, ss, hcs, h1, h2, h3⟩ := cells_structsW (f := fun s : ByteArray => [Value.string s]) (k := 1) (Q := fun s => s.size ≤ maxLen) (·.size) Try.underlying69 (by kernel_rfl) (fun _ => rfl) (by omega) (fun fuel cs z h => by
    obtain ⟨s, hs, hz, ws⟩ := DataW.trod_string Try.underlying9 h
    exact ⟨s, hs, ws, by rw [hz]; simp only [Rows.uptoBulk]; rw [Array.length_toList]; exact Nat.le_refl _⟩) hf
  rw [flatF_strs] at h1
  simp [Value.cells] at hcs
  subst hcs
  exact ⟨ss, h1, h2, h3⟩
/-- Counts behind the eighth don't matter: they are none. -/
def Led.cut (L : Led) : Led := { L with C := fun i => if i < 8 then L.C i else 0 }
theorem Led.cut_cells (L : Led) : L.cut.cells = L.cells := rfl
theorem Led.cut_ok {L : Led} (h : L.Ok) : L.cut.Ok := ⟨h.rows, fun i hi => by show I64 (if i < 8 then L.C i else 0); rw [if_pos hi]; exact h.C i hi, h.opn, h.bats, h.nums, h.ops⟩
theorem Led.cut_reads {w : World} {L : Led} (h : LedR w L) : LedR w L.cut := ⟨h.rows, h.opn, h.bats, h.ops⟩
theorem texts_whole (hP : PDec) (L : Led) (sv : Value) (ss : List ByteArray) (w : World) (hL : LedR w L) (hok : L.Ok) (hv : ∀ r ∈ L.all, U32 r.val) (hsz : L.Sz 1048576) (hs : Rd w 1 sv ss.length (strs ss)) (hss : ∀ t ∈ ss, t.size ≤ maxLen) (hb : (ss.map (·.size)).sum + ss.length + 1 ≤ 1048576) :
    Calls Try.prog 9 #[.agg L.cells.toArray, sv] w fun e w' => e = .returned (.bool true) ∧ Below w.heap.size w w' := by
  have h := texts_core hP L.cut sv ss w (Led.cut_reads hL) (Led.cut_ok hok) (show L.cut.Small from by
    have h1 : L.Small := hsz.small (by omega)
    exact ⟨h1.rows, h1.opn, h1.bats, h1.recs, h1.all, h1.ops, h1.ins⟩) hv (fun i hi => if_neg (by omega)) hs (fun t ht => Nat.le_trans (hss t ht) (by unfold maxLen; omega)) (by omega) (by omega)
  rw [Led.cut_cells] at h
  exact h
end Go.Proofs.Ytkabfjbmofpkdaa
