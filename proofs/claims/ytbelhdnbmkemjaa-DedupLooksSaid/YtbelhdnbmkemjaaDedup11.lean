/- Layer 13: DedupLooks walked. -/
import Derived.Test.YtbelhdnbmkemjaaDedup10
namespace Go.Proofs.Ytbelhdnbmkemjaa
open Go.RowKit Go.Shelf

set_option maxHeartbeats 2000000 in
theorem looks_core (v : Value) (rs : List Row) (p q s : Int) (w : World) (hv : Rows w v rs) (hok : ∀ r ∈ rs, r.ok) (hs : I64 s) :
    Calls Try.prog 4 #[v, .agg #[.int .i64 p, .int .i64 q], .int .i64 s] w fun e w' => e = .returned (.bool true) ∧ Below w.heap.size w w' := by
  obtain ⟨X, hX⟩ : ∃ X, X = w.alloc (.cells #[.int .i64 p, .int .i64 q] 23) := ⟨_, rfl⟩
  have hbX : Below w.heap.size w X := by rw [hX]; exact (Below.refl _ _).alloc (Nat.le_refl _) _
  have x0 : X.cell? ⟨w.heap.size, 0, none⟩ = some (.int .i64 p) := by rw [hX, World.cell?_alloc_at _ _ _ _ rfl]; rfl
  have x1 : X.cell? ⟨w.heap.size, 1, none⟩ = some (.int .i64 q) := by rw [hX, World.cell?_alloc_at _ _ _ _ rfl]; rfl
  have HV := Lib.hid hv
  have HOK := Lib.hid hok
  have HS := Lib.hid hs
  have HBX := Lib.hid hbX
  obtain ⟨a, cap, rfl, -, -⟩ := Rd.slice hv
  clear hv hok hs hbX
  go_enter Try.func4, Try.ntmps4
  go_wp2_with fail
  rw [← hX]
  clear hX
  refine region_m [(0, true), (1, false), (2, false), (4, false), (3, true), (5, true), (6, false), (7, false), (8, false), (9, false), (10, false), (11, false), (12, false), (13, false), (15, false), (16, false), (17, false), (18, false), (19, false), (14, true), (20, true), (21, false), (22, false), (23, false), (24, false), (25, false), (26, false), (27, false), (28, false), (29, false), (31, false), (32, false), (33, false), (34, false), (35, false), (36, false), (30, true), (37, true), (38, false), (39, false), (40, false)] 41 (fun V => V.cell? ⟨w.heap.size, 0, none⟩ = some (.int .i64 p) ∧ V.cell? ⟨w.heap.size, 1, none⟩ = some (.int .i64 q)) (by kernel_rfl) (by kernel_rfl) ⟨x0, x1⟩ ?_
  refine m_loud rfl (fun K hK => ?_)
  have HK := Lib.hid hK
  clear hK
  go_simp
  refine (known_calls _).mono ?_
  rintro e w1 ⟨rfl, hb1⟩
  have hb1 : Below X.heap.size X w1 := ((Below.refl X.heap.size X).drew).trans hb1
  have HB1 := Lib.hid (HBX.out.trans (hb1.mono HBX.out.size))
  refine HK.out _ _ ⟨cell_later hb1 x0, cell_later hb1 x1⟩ ?_
  clear HK
  have y0 := cell_later hb1 x0
  have y1 := cell_later hb1 x1
  clear hb1 x0 x1
  iterate 3
    first
    | (refine m_take (v := ?_) rfl rfl ?_ ?_
       rotate_left
       · intro W hW
         go_simp
         with_reducible rfl
       simp only [Act.put, List.setIfInBounds_toArray, List.set_cons_zero, List.set_cons_succ])
    | (refine m_skip rfl rfl ?_
       simp only [Act.put, List.setIfInBounds_toArray, List.set_cons_zero, List.set_cons_succ])
  refine m_loud rfl (fun K hK => ?_)
  have HK := Lib.hid hK
  clear hK
  go_simp
  refine (dgood_calls _ rs _ (HV.out.below HB1.out (Nat.le_refl _))).mono ?_
  rintro e w2 ⟨rfl, hb2⟩
  have HB2 := Lib.hid (HB1.out.trans (hb2.mono HB1.out.size))
  refine HK.out _ _ ⟨cell_later hb2 y0, cell_later hb2 y1⟩ ?_
  clear HK
  have z0 := cell_later hb2 y0
  have z1 := cell_later hb2 y1
  clear hb2 y0 y1
  refine m_loud rfl (fun K hK => ?_)
  have HK := Lib.hid hK
  clear hK
  go_simp
  refine (rdgood_calls _ rs _ (HV.out.below HB2.out (Nat.le_refl _))).mono ?_
  rintro e w3 ⟨rfl, hb3⟩
  have HB3 := Lib.hid (HB2.out.trans (hb3.mono HB2.out.size))
  refine HK.out _ _ ⟨cell_later hb3 z0, cell_later hb3 z1⟩ ?_
  clear HK
  have y0 := cell_later hb3 z0
  have y1 := cell_later hb3 z1
  clear hb3 z0 z1
  generalize goodRows rs = G
  iterate 13
    first
    | (refine m_take (v := ?_) rfl rfl ?_ ?_
       rotate_left
       · intro W hW
         go_simp
         with_reducible rfl
       simp only [Act.put, List.setIfInBounds_toArray, List.set_cons_zero, List.set_cons_succ])
    | (refine m_skip rfl rfl ?_
       simp only [Act.put, List.setIfInBounds_toArray, List.set_cons_zero, List.set_cons_succ])
  refine m_loud rfl (fun K hK => ?_)
  have HK := Lib.hid hK
  clear hK
  go_simp
  refine (last_calls _ rs p q _ (HV.out.below HB3.out (Nat.le_refl _))).mono ?_
  rintro e w4 ⟨rfl, hb4⟩
  have HB4 := Lib.hid (HB3.out.trans (hb4.mono HB3.out.size))
  refine HK.out _ _ ⟨cell_later hb4 y0, cell_later hb4 y1⟩ ?_
  clear HK
  have z0 := cell_later hb4 y0
  have z1 := cell_later hb4 y1
  clear hb4 y0 y1
  refine m_loud rfl (fun K hK => ?_)
  have HK := Lib.hid hK
  clear hK
  go_simp
  refine (rlast_calls _ rs p q _ (HV.out.below HB4.out (Nat.le_refl _))).mono ?_
  rintro e w5 ⟨rfl, rfl⟩
  refine HK.out _ _ ⟨z0, z1⟩ ?_
  clear HK
  generalize hL : lastOf rs p q = L
  clear hL
  iterate 15
    first
    | (refine m_take (v := ?_) rfl rfl ?_ ?_
       rotate_left
       · intro W hW
         go_simp
         with_reducible rfl
       simp only [Act.put, List.setIfInBounds_toArray, List.set_cons_zero, List.set_cons_succ])
    | (refine m_skip rfl rfl ?_
       simp only [Act.put, List.setIfInBounds_toArray, List.set_cons_zero, List.set_cons_succ])
  refine m_loud rfl (fun K hK => ?_)
  have HK := Lib.hid hK
  clear hK
  go_simp
  refine (look_calls _ rs p q s _ (HV.out.below HB4.out (Nat.le_refl _)) HOK.out HS.out).mono ?_
  rintro e w6 ⟨rfl, hb6⟩
  have HB6 := Lib.hid (HB4.out.trans (hb6.mono HB4.out.size))
  refine HK.out _ _ ⟨cell_later hb6 z0, cell_later hb6 z1⟩ ?_
  clear HK
  have y0 := cell_later hb6 z0
  have y1 := cell_later hb6 z1
  clear hb6 z0 z1
  refine m_loud rfl (fun K hK => ?_)
  have HK := Lib.hid hK
  clear hK
  go_simp
  refine (rlook_calls _ rs p q s _ (HV.out.below HB6.out (Nat.le_refl _)) HOK.out HS.out).mono ?_
  rintro e w7 ⟨rfl, rfl⟩
  refine HK.out _ _ ⟨y0, y1⟩ ?_
  clear HK
  generalize lookOf rs p q s = L2
  iterate 3
    first
    | (refine m_take (v := ?_) rfl rfl ?_ ?_
       rotate_left
       · intro W hW
         go_simp
         with_reducible rfl
       simp only [Act.put, List.setIfInBounds_toArray, List.set_cons_zero, List.set_cons_succ])
    | (refine m_skip rfl rfl ?_
       simp only [Act.put, List.setIfInBounds_toArray, List.set_cons_zero, List.set_cons_succ])
  refine m_done ?_
  simp only [List.drop_succ_cons, List.drop_zero]
  go_wp2_with fail
  simp only [NP]
  go_wp2_with fail
  go_ret
  exact ⟨rfl, HB6.out⟩
end Go.Proofs.Ytbelhdnbmkemjaa
