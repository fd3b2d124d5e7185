/- Walks and plain laws of the chapter, laid together; each part says what it proves. -/
import Derived.Test.YtkabfjbmofpkdaaPkF
import Derived.Test.YtkabfjbmofpkdaaPkG
/- Layer 14: PartsApplies walked. -/
namespace Go.Proofs.Ytkabfjbmofpkdaa
open Go.RowKit Go.Shelf
set_option maxRecDepth 100000

theorem range_later {w w' : World} {b : Nat} {cs : List Value} (hb : Below w.heap.size w w') (h : w.rangeAt b 0 cs) : w'.rangeAt b 0 cs := fun j v hj => cell_later hb (h j v hj)
theorem rd_one {w : World} {sz n : Nat} {v : Value} {cs : List Value} (h : Rd w sz v n cs) : v.oneCell' = true := by
  obtain ⟨a, c, rfl, -⟩ := Rd.slice h
  rfl

set_option maxHeartbeats 4000000 in
theorem applies_core (L : Led) (E : Ent) (w : World) (hL : LedR w L) (hok : L.Ok) (hsz : L.Sz 1048576) (hG : OpsR w E.gv E.os) (hek : E.Ok) (hes : E.Small) :
    Calls Try.prog 3 #[.agg L.cells.toArray, .agg E.cells.toArray] w fun e w' => e = .returned (.bool true) ∧ Below w.heap.size w w' := by
  obtain ⟨X, hX⟩ : ∃ X, X = (w.alloc (.cells L.cells.toArray 30)).alloc (.cells E.cells.toArray 35) := ⟨_, rfl⟩
  have hbX : Below w.heap.size w X := by rw [hX]; exact below_box (below_alloc _ _) _
  have hBL : BoxL X w.heap.size L := by rw [hX]; exact (boxL_self w L 30).later (below_alloc _ _)
  have hBE : BoxE X (w.heap.size + 1) E := by
    rw [hX]
    have := boxE_self (w.alloc (.cells L.cells.toArray 30)) E 35
    rwa [World.size_alloc] at this
  have HX := Lib.hid hX
  have HBL := Lib.hid hBL
  have HBE := Lib.hid hBE
  have HBX := Lib.hid hbX
  have HL := Lib.hid hL
  have HOK := Lib.hid hok
  have HSM := Lib.hid (hsz.small (by omega))
  have HAOK := Lib.hid (apply_ok L E hok hek)
  have HASM := Lib.hid ((apply_sz L E hsz).small (by omega))
  have HG := Lib.hid hG
  have HEK := Lib.hid hek
  have HES := Lib.hid hes
  have HRL := Lib.hid hBL.range
  have HGA := Lib.hid (good_apply L E)
  clear hX hBL hBE hbX hL hok hsz hG hek hes
  go_enter Try.func3, Try.ntmps3
  go_upto_region 1 with fail
  rw [show (w.alloc (.cells L.cells.toArray 30)).alloc (.cells E.cells.toArray 35) = X from HX.out.symm]
  have e0 := HBE.out 0 _ rfl
  have e1 := HBE.out 1 _ rfl
  have e2 := HBE.out 2 _ rfl
  have e3 := HBE.out 3 _ rfl
  have e4 := HBE.out 4 _ rfl
  have e5 := HBE.out 5 _ rfl
  have e6 := HBE.out 6 _ rfl
  have e7 := HBE.out 7 _ rfl
  go_wp2_with (first | (refine wpList_load_mid rfl 30 _ rfl (w.heap.size) 0 rfl (Led.cells L) _ (by exact HRL.out) Try.underlying30 rfl (by show _ = some 16; kernel_rfl) ?_) | (refine wp_load_mid 30 _ rfl (w.heap.size) 0 rfl (Led.cells L) _ (by exact HRL.out) Try.underlying30 rfl (by show _ = some 16; kernel_rfl) ?_) | (refine list_loadk rfl rfl (b := w.heap.size) (off := 0) rfl (cs := Led.cells L) Try.underlying30 rfl (by show _ = some 16; kernel_rfl) (by exact HRL.out) ?_))
  clear e0 e1 e2 e3 e4 e5 e6 e7
  refine (apply_calls L E X (HL.out.below HBX.out (Nat.le_refl _)) HOK.out HSM.out (HG.out.below HBX.out (Nat.le_refl _)) HEK.out HES.out).mono ?_
  rintro e w1 ⟨M, rfl, hS, hO, hb1⟩
  have HS := Lib.hid hS
  have HO := Lib.hid hO
  have HB1 := Lib.hid (below_go HBX.out hb1)
  have HE1 := Lib.hid (HBE.out.later hb1)
  have HR1 := Lib.hid (range_later hb1 HRL.out)
  have hT := there_new w1
  unfold zero16 at hT
  have HT := Lib.hid hT
  clear hT
  have H1 := Lib.hid (led_all M (own_one hO.rows) (own_one hO.opn) (own_one hO.bats) (own_one hO.ops))
  clear hS hO hb1
  have hbn := box_new w1 M
  unfold zero16 at hbn
  have HBN := Lib.hid hbn
  clear hbn
  go_upto_region 2 with (first | (refine wpList_store_mid rfl 30 _ _ rfl (w1.heap.size) 0 (Led.cells M).toArray rfl rfl (by exact HT.out) (by show _ = some 16; kernel_rfl) H1.out ?_; generalize hWgen : World.setCells _ _ _ _ = W2 at *; clear hWgen) | (refine wp_store_mid 30 _ _ rfl (w1.heap.size) 0 (Led.cells M).toArray rfl rfl (by exact HT.out) (by show _ = some 16; kernel_rfl) H1.out ?_; generalize hWgen : World.setCells _ _ _ _ = W2 at *; clear hWgen))
  have HB2 := Lib.hid (below_go HB1.out HBN.out.2)
  have HE2 := Lib.hid (HE1.out.later HBN.out.2)
  have HR2 := Lib.hid (range_later HBN.out.2 HR1.out)
  have HRM := Lib.hid HBN.out.1.range
  have HM2 := Lib.hid (HO.out.below HBN.out.2).reads
  clear HO HT H1 HB1 HE1 HR1
  have e0 := HE2.out 0 _ rfl
  have e1 := HE2.out 1 _ rfl
  have e2 := HE2.out 2 _ rfl
  have e3 := HE2.out 3 _ rfl
  have e4 := HE2.out 4 _ rfl
  have e5 := HE2.out 5 _ rfl
  have e6 := HE2.out 6 _ rfl
  have e7 := HE2.out 7 _ rfl
  go_wp2_with (first | (refine wpList_load_mid rfl 30 _ rfl (w.heap.size) 0 rfl (Led.cells L) _ (by exact HR2.out) Try.underlying30 rfl (by show _ = some 16; kernel_rfl) ?_) | (refine wp_load_mid 30 _ rfl (w.heap.size) 0 rfl (Led.cells L) _ (by exact HR2.out) Try.underlying30 rfl (by show _ = some 16; kernel_rfl) ?_) | (refine list_loadk rfl rfl (b := w.heap.size) (off := 0) rfl (cs := Led.cells L) Try.underlying30 rfl (by show _ = some 16; kernel_rfl) (by exact HR2.out) ?_))
  clear e0 e1 e2 e3 e4 e5 e6 e7
  refine (rapply_calls L E W2 (HL.out.below HB2.out (Nat.le_refl _)) HOK.out HSM.out (HG.out.below HB2.out (Nat.le_refl _)) HEK.out HES.out).mono ?_
  rintro e w3 ⟨N, rfl, hS3, hR3, hb3⟩
  have HS3 := Lib.hid hS3
  have HN3 := Lib.hid hR3
  have HB3 := Lib.hid (below_go HB2.out hb3)
  have HR3 := Lib.hid (range_later hb3 HR2.out)
  have HRM3 := Lib.hid (range_later hb3 HRM.out)
  have HM3 := Lib.hid (HM2.out.below hb3 (Nat.le_refl _))
  have hT := there_new w3
  unfold zero16 at hT
  have HT := Lib.hid hT
  clear hT
  have H1 := Lib.hid (led_allR hR3)
  clear hS3 hR3 hb3
  have hbn := box_new w3 N
  unfold zero16 at hbn
  have HBN3 := Lib.hid hbn
  clear hbn
  go_upto_region 3 with (first | (refine wpList_store_mid rfl 30 _ _ rfl (w3.heap.size) 0 (Led.cells N).toArray rfl rfl (by exact HT.out) (by show _ = some 16; kernel_rfl) H1.out ?_; generalize hWgen : World.setCells _ _ _ _ = W4 at *; clear hWgen) | (refine wp_store_mid 30 _ _ rfl (w3.heap.size) 0 (Led.cells N).toArray rfl rfl (by exact HT.out) (by show _ = some 16; kernel_rfl) H1.out ?_; generalize hWgen : World.setCells _ _ _ _ = W4 at *; clear hWgen))
  have HB4 := Lib.hid (below_go HB3.out HBN3.out.2)
  have HR4 := Lib.hid (range_later HBN3.out.2 HR3.out)
  have HRM4 := Lib.hid (range_later HBN3.out.2 HRM3.out)
  have HRN4 := Lib.hid HBN3.out.1.range
  have HM4 := Lib.hid (HM3.out.below HBN3.out.2 (Nat.le_refl _))
  have HN4 := Lib.hid (HN3.out.below HBN3.out.2 (Nat.le_refl _))
  have HGM := Lib.hid HS.out.good
  generalize hga : (applyL L E).2.1 = GA at *
  generalize hgc : (applyL L E).2.2 = GC at *
  clear hga hgc HT H1 HN3 HM3 HRM3 HR3 HB3 HE2 HR2 HRM HM2
  by_cases hc : GC = 3
  · have hc1 : (GC == 3) = true := beq_iff_eq.2 hc
    clear hc HGA
    refine region_m [(0, true), (1, false), (2, false), (4, false), (3, true), (5, true), (6, false), (7, false), (8, false), (9, false), (10, false), (11, true), (12, false), (13, false), (14, false), (15, false), (16, false), (17, false), (18, false), (19, false), (20, false), (21, false), (22, false), (23, false), (24, false), (25, false), (26, false), (27, false), (28, true), (29, false), (30, false)] 31 (fun V => V.rangeAt w.heap.size 0 L.cells ∧ V.rangeAt w1.heap.size 0 M.cells ∧ V.rangeAt w3.heap.size 0 N.cells) (by kernel_rfl) (by kernel_rfl) ⟨HR4.out, HRM4.out, HRN4.out⟩ ?_
    refine m_loud rfl (fun K hK => ?_)
    have HK := Lib.hid hK
    clear hK
    go_simp
    refine (known14_calls _).mono ?_
    rintro e w5 ⟨rfl, hb5⟩
    have hb5 : Below W4.heap.size W4 w5 := ((Below.refl W4.heap.size W4).drew).trans hb5
    have HB5 := Lib.hid hb5
    clear hb5
    refine HK.out _ _ ⟨range_later HB5.out HR4.out, range_later HB5.out HRM4.out, range_later HB5.out HRN4.out⟩ ?_
    clear HK
    iterate 1
      first
      | (refine m_take (v := ?_) rfl rfl ?_ ?_
         rotate_left
         · intro W hW
           go_simp
           with_reducible rfl
         simp only [Act.put, List.setIfInBounds_toArray, List.set_cons_zero, List.set_cons_succ])
      | (refine m_skip rfl rfl ?_
         simp only [Act.put, List.setIfInBounds_toArray, List.set_cons_zero, List.set_cons_succ])
    refine m_loadk rfl rfl rfl rfl (fun W hW => hW.1) Try.underlying30 rfl (by show _ = some 16; kernel_rfl) ?_
    refine m_loadk rfl rfl rfl rfl (fun W hW => hW.1) Try.underlying30 rfl (by show _ = some 16; kernel_rfl) ?_
    simp only [Act.put, List.setIfInBounds_toArray, List.set_cons_zero, List.set_cons_succ]
    refine m_loud rfl (fun K hK => ?_)
    have HK := Lib.hid hK
    clear hK
    go_simp
    refine (pGood_calls L w5 (HL.out.below (below_go HB4.out HB5.out) (Nat.le_refl _)) HOK.out HSM.out).mono ?_
    rintro e w6 ⟨rfl, hb6⟩
    have HB6 := Lib.hid (below_go HB5.out hb6)
    clear hb6
    refine HK.out _ _ ⟨range_later HB6.out HR4.out, range_later HB6.out HRM4.out, range_later HB6.out HRN4.out⟩ ?_
    clear HK
    refine m_loud rfl (fun K hK => ?_)
    have HK := Lib.hid hK
    clear hK
    go_simp
    refine (rGood_calls L w6 (HL.out.below (below_go HB4.out HB6.out) (Nat.le_refl _)) HOK.out HSM.out).mono ?_
    rintro e w7 ⟨rfl, hb7⟩
    have HB7 := Lib.hid (below_go HB6.out hb7)
    clear hb7
    refine HK.out _ _ ⟨range_later HB7.out HR4.out, range_later HB7.out HRM4.out, range_later HB7.out HRN4.out⟩ ?_
    clear HK
    generalize L.good = G
    iterate 3
      first
      | (refine m_take (v := ?_) rfl rfl ?_ ?_
         rotate_left
         · intro W hW
           go_simp
           with_reducible rfl
         simp only [Act.put, List.setIfInBounds_toArray, List.set_cons_zero, List.set_cons_succ])
      | (refine m_skip rfl rfl ?_
         simp only [Act.put, List.setIfInBounds_toArray, List.set_cons_zero, List.set_cons_succ])
    refine m_loadk rfl rfl rfl rfl (fun W hW => hW.2.1) Try.underlying30 rfl (by show _ = some 16; kernel_rfl) ?_
    refine m_loadk rfl rfl rfl rfl (fun W hW => hW.2.2) Try.underlying30 rfl (by show _ = some 16; kernel_rfl) ?_
    simp only [Act.put, List.setIfInBounds_toArray, List.set_cons_zero, List.set_cons_succ]
    refine m_loud rfl (fun K hK => ?_)
    have HK := Lib.hid hK
    clear hK
    go_simp
    refine (same14_calls M N w7 (HM4.out.below HB7.out (Nat.le_refl _)) (HN4.out.below HB7.out (Nat.le_refl _)) (HS.out.symm.trans HS3.out)).mono ?_
    rintro e w8 ⟨rfl, hb8⟩
    have HB8 := Lib.hid (below_go HB7.out hb8)
    clear hb8
    refine HK.out _ _ ⟨range_later HB8.out HR4.out, range_later HB8.out HRM4.out, range_later HB8.out HRN4.out⟩ ?_
    clear HK
    iterate 16
      first
      | (refine m_take (v := ?_) rfl rfl ?_ ?_
         rotate_left
         · intro W hW
           go_simp
           with_reducible rfl
         simp only [Act.put, List.setIfInBounds_toArray, List.set_cons_zero, List.set_cons_succ])
      | (refine m_skip rfl rfl ?_
         simp only [Act.put, List.setIfInBounds_toArray, List.set_cons_zero, List.set_cons_succ])
    refine m_loud rfl (fun K hK => ?_)
    have HK := Lib.hid hK
    clear hK
    go_simp
    refine HK.out _ _ ⟨range_later HB8.out HR4.out, range_later HB8.out HRM4.out, range_later HB8.out HRN4.out⟩ ?_
    clear HK
    iterate 2
      first
      | (refine m_take (v := ?_) rfl rfl ?_ ?_
         rotate_left
         · intro W hW
           go_simp
           with_reducible rfl
         simp only [Act.put, List.setIfInBounds_toArray, List.set_cons_zero, List.set_cons_succ])
      | (refine m_skip rfl rfl ?_
         simp only [Act.put, List.setIfInBounds_toArray, List.set_cons_zero, List.set_cons_succ])
    refine m_done ?_
    simp only [List.drop_succ_cons, List.drop_zero]
    go_wp2_with fail
    simp only [NP]
    go_wp2_with fail
    go_ret
    exact ⟨rfl, below_go HB4.out HB8.out⟩
  · have hc1 : (GC == 3) = false := beq_eq_false_iff_ne.2 hc
    have hgm : M.good = true := by rw [HGM.out]; exact HGA.out.resolve_left hc
    have HGM := Lib.hid hgm
    clear hc HGA hgm
    refine region_m [(0, true), (1, false), (2, false), (4, false), (3, true), (5, true), (6, false), (7, false), (8, false), (9, false), (10, false), (11, true), (12, false), (13, false), (14, false), (15, false), (16, false), (17, false), (18, false), (19, false), (20, false), (21, false), (22, false), (23, false), (24, false), (25, false), (26, false), (27, false), (28, true), (29, false), (30, false)] 31 (fun V => V.rangeAt w.heap.size 0 L.cells ∧ V.rangeAt w1.heap.size 0 M.cells ∧ V.rangeAt w3.heap.size 0 N.cells) (by kernel_rfl) (by kernel_rfl) ⟨HR4.out, HRM4.out, HRN4.out⟩ ?_
    refine m_loud rfl (fun K hK => ?_)
    have HK := Lib.hid hK
    clear hK
    go_simp
    refine (known14_calls _).mono ?_
    rintro e w5 ⟨rfl, hb5⟩
    have hb5 : Below W4.heap.size W4 w5 := ((Below.refl W4.heap.size W4).drew).trans hb5
    have HB5 := Lib.hid hb5
    clear hb5
    refine HK.out _ _ ⟨range_later HB5.out HR4.out, range_later HB5.out HRM4.out, range_later HB5.out HRN4.out⟩ ?_
    clear HK
    iterate 1
      first
      | (refine m_take (v := ?_) rfl rfl ?_ ?_
         rotate_left
         · intro W hW
           go_simp
           with_reducible rfl
         simp only [Act.put, List.setIfInBounds_toArray, List.set_cons_zero, List.set_cons_succ])
      | (refine m_skip rfl rfl ?_
         simp only [Act.put, List.setIfInBounds_toArray, List.set_cons_zero, List.set_cons_succ])
    refine m_loadk rfl rfl rfl rfl (fun W hW => hW.1) Try.underlying30 rfl (by show _ = some 16; kernel_rfl) ?_
    refine m_loadk rfl rfl rfl rfl (fun W hW => hW.1) Try.underlying30 rfl (by show _ = some 16; kernel_rfl) ?_
    simp only [Act.put, List.setIfInBounds_toArray, List.set_cons_zero, List.set_cons_succ]
    refine m_loud rfl (fun K hK => ?_)
    have HK := Lib.hid hK
    clear hK
    go_simp
    refine (pGood_calls L w5 (HL.out.below (below_go HB4.out HB5.out) (Nat.le_refl _)) HOK.out HSM.out).mono ?_
    rintro e w6 ⟨rfl, hb6⟩
    have HB6 := Lib.hid (below_go HB5.out hb6)
    clear hb6
    refine HK.out _ _ ⟨range_later HB6.out HR4.out, range_later HB6.out HRM4.out, range_later HB6.out HRN4.out⟩ ?_
    clear HK
    refine m_loud rfl (fun K hK => ?_)
    have HK := Lib.hid hK
    clear hK
    go_simp
    refine (rGood_calls L w6 (HL.out.below (below_go HB4.out HB6.out) (Nat.le_refl _)) HOK.out HSM.out).mono ?_
    rintro e w7 ⟨rfl, hb7⟩
    have HB7 := Lib.hid (below_go HB6.out hb7)
    clear hb7
    refine HK.out _ _ ⟨range_later HB7.out HR4.out, range_later HB7.out HRM4.out, range_later HB7.out HRN4.out⟩ ?_
    clear HK
    generalize L.good = G
    iterate 3
      first
      | (refine m_take (v := ?_) rfl rfl ?_ ?_
         rotate_left
         · intro W hW
           go_simp
           with_reducible rfl
         simp only [Act.put, List.setIfInBounds_toArray, List.set_cons_zero, List.set_cons_succ])
      | (refine m_skip rfl rfl ?_
         simp only [Act.put, List.setIfInBounds_toArray, List.set_cons_zero, List.set_cons_succ])
    refine m_loadk rfl rfl rfl rfl (fun W hW => hW.2.1) Try.underlying30 rfl (by show _ = some 16; kernel_rfl) ?_
    refine m_loadk rfl rfl rfl rfl (fun W hW => hW.2.2) Try.underlying30 rfl (by show _ = some 16; kernel_rfl) ?_
    simp only [Act.put, List.setIfInBounds_toArray, List.set_cons_zero, List.set_cons_succ]
    refine m_loud rfl (fun K hK => ?_)
    have HK := Lib.hid hK
    clear hK
    go_simp
    refine (same14_calls M N w7 (HM4.out.below HB7.out (Nat.le_refl _)) (HN4.out.below HB7.out (Nat.le_refl _)) (HS.out.symm.trans HS3.out)).mono ?_
    rintro e w8 ⟨rfl, hb8⟩
    have HB8 := Lib.hid (below_go HB7.out hb8)
    clear hb8
    refine HK.out _ _ ⟨range_later HB8.out HR4.out, range_later HB8.out HRM4.out, range_later HB8.out HRN4.out⟩ ?_
    clear HK
    iterate 15
      first
      | (refine m_take (v := ?_) rfl rfl ?_ ?_
         rotate_left
         · intro W hW
           go_simp
           with_reducible rfl
         simp only [Act.put, List.setIfInBounds_toArray, List.set_cons_zero, List.set_cons_succ])
      | (refine m_skip rfl rfl ?_
         simp only [Act.put, List.setIfInBounds_toArray, List.set_cons_zero, List.set_cons_succ])
    refine m_loadk rfl rfl rfl rfl (fun W hW => hW.2.1) Try.underlying30 rfl (by show _ = some 16; kernel_rfl) ?_
    simp only [Act.put, List.setIfInBounds_toArray, List.set_cons_zero, List.set_cons_succ]
    refine m_loud rfl (fun K hK => ?_)
    have HK := Lib.hid hK
    clear hK
    go_simp
    refine (pGood_calls M w8 (HM4.out.below HB8.out (Nat.le_refl _)) (HS.out.ok HAOK.out) (HS.out.small HASM.out)).mono ?_
    rintro e w9 ⟨rfl, hb9⟩
    have HB9 := Lib.hid (below_go HB8.out hb9)
    clear hb9
    rw [HGM.out]
    refine HK.out _ _ ⟨range_later HB9.out HR4.out, range_later HB9.out HRM4.out, range_later HB9.out HRN4.out⟩ ?_
    clear HK
    iterate 2
      first
      | (refine m_take (v := ?_) rfl rfl ?_ ?_
         rotate_left
         · intro W hW
           go_simp
           with_reducible rfl
         simp only [Act.put, List.setIfInBounds_toArray, List.set_cons_zero, List.set_cons_succ])
      | (refine m_skip rfl rfl ?_
         simp only [Act.put, List.setIfInBounds_toArray, List.set_cons_zero, List.set_cons_succ])
    refine m_done ?_
    simp only [List.drop_succ_cons, List.drop_zero]
    go_wp2_with fail
    simp only [NP]
    go_wp2_with fail
    go_ret
    exact ⟨rfl, below_go HB4.out HB9.out⟩
end Go.Proofs.Ytkabfjbmofpkdaa
