/- Layer 13: BinarySearchFunc walked. -/
import Derived.Test.YtbelhdnbmkemjaaDedup04
namespace Go.Proofs.Ytbelhdnbmkemjaa
open Go.RowKit Go.Shelf

set_option maxHeartbeats 2000000 in
theorem bsR_calls (v : Value) (rs : List Row) (x : Row) (c : Nat) (w : World) (hv : Rows w v rs) (hc : c ≤ rs.length) (hn : rs.length ≤ 1000000)
    (hlo : ∀ k, ∀ h : k < rs.length, k < c → ordOf rs[k] x < 0) (hhi : ∀ k, ∀ h : k < rs.length, c ≤ k → 0 ≤ ordOf rs[k] x) :
    Calls Try.prog 23 #[v, .agg #[.int .i64 x.p, .int .i64 x.q, .int .i64 x.l], .func (.func 22) #[] #[]] w fun e w' => (∃ f, e = .returned (.tuple #[.int .i64 c, .bool f])) ∧ Below w.heap.size w w' := by
  have HV := Lib.hid hv
  have HLO := Lib.hid hlo
  have HHI := Lib.hid hhi
  obtain ⟨a, cap, rfl, hle, hcap⟩ := Rd.slice hv
  clear hv hlo hhi
  obtain ⟨X, hX⟩ : ∃ X, X = w.alloc (.cells #[.int .i64 x.p, .int .i64 x.q, .int .i64 x.l] 42) := ⟨_, rfl⟩
  have hbX : Below w.heap.size w X := by rw [hX]; exact (Below.refl _ _).alloc (Nat.le_refl _) _
  have x0 : X.cell? ⟨w.heap.size, 0, none⟩ = some (.int .i64 x.p) := by rw [hX, World.cell?_alloc_at _ _ _ _ rfl]; rfl
  have x1 : X.cell? ⟨w.heap.size, 1, none⟩ = some (.int .i64 x.q) := by rw [hX, World.cell?_alloc_at _ _ _ _ rfl]; rfl
  have x2 : X.cell? ⟨w.heap.size, 2, none⟩ = some (.int .i64 x.l) := by rw [hX, World.cell?_alloc_at _ _ _ _ rfl]; rfl
  have HBX := Lib.hid hbX
  have HX := Lib.hid (And.intro x0 (And.intro x1 x2))
  clear hbX x0 x1 x2
  go_enter Try.func23, Try.ntmps23
  go_wp2_with fail
  rw [← hX]
  clear hX
  go_loopw [9, 10, 11] (fun iv jv _ wr => ∃ i j : Nat, i ≤ c ∧ c ≤ j ∧ j ≤ rs.length ∧ iv = .int .i64 i ∧ jv = .int .i64 j ∧ Below X.heap.size X wr) (fun iv jv _ _ => (intOf jv).toNat - (intOf iv).toNat)
  case atStart => exact ⟨0, rs.length, by omega, hc, by omega, rfl, rfl, Below.refl _ _⟩
  case round =>
    obtain ⟨i, j, hi, hj, hjn, rfl, rfl, hb⟩ := hrel
    have HB := Lib.hid hb
    have x0 := cell_later hb HX.out.1
    have x1 := cell_later hb HX.out.2.1
    have x2 := cell_later hb HX.out.2.2
    by_cases hlt : i < j
    · obtain ⟨h, hh⟩ : ∃ h : Nat, h = (i + j) / 2 := ⟨_, rfl⟩
      have h1 : i ≤ h := by omega
      have h2 : h < j := by omega
      obtain ⟨b, o, rfl, c0, c1, c2⟩ := row_at HV.out h (by omega)
      have hbw := HBX.out.trans (hb.mono HBX.out.size)
      have d0 := cell_later hbw c0
      have d1 := cell_later hbw c1
      have d2 := cell_later hbw c2
      clear c0 c1 c2 hbw hb
      have hc2 : ((i : Int) + (j : Int)) / 2 = (h : Int) := by omega
      have hln : h < rs.length := by omega
      have hord := HLO.out h hln
      have hord2 := HHI.out h hln
      generalize hR : rs[h] = R at *
      have HR := Lib.hid hR
      have ho : (ordOf R x < 0 ∧ h < c) ∨ (¬ ordOf R x < 0 ∧ c ≤ h) := by
        by_cases hcc : h < c
        · exact .inl ⟨hord hcc, hcc⟩
        · exact .inr ⟨by have := hord2 (by omega); omega, by omega⟩
      have HO := Lib.hid ho
      have HH := Lib.hid hh
      clear hord hord2 ho hR hh
      go_wp2_with fail
      refine region_m [(0, false), (1, false), (2, false), (3, false), (4, false), (5, false), (6, true)] 7 (fun V => V.cell? ⟨w.heap.size, 0, none⟩ = some (.int .i64 x.p) ∧ V.cell? ⟨w.heap.size, 1, none⟩ = some (.int .i64 x.q) ∧ V.cell? ⟨w.heap.size, 2, none⟩ = some (.int .i64 x.l) ∧ V.cell? ⟨b, o + h * 3, none⟩ = some (.int .i64 R.p) ∧ V.cell? ⟨b, o + h * 3 + 1, none⟩ = some (.int .i64 R.q) ∧ V.cell? ⟨b, o + h * 3 + 2, none⟩ = some (.int .i64 R.l)) (by kernel_rfl) (by kernel_rfl) ⟨x0, x1, x2, d0, d1, d2⟩ ?_
      iterate 6
        refine m_take (v := ?_) rfl rfl ?_ ?_
        rotate_left
        · intro W hW
          go_simp
          with_reducible rfl
        simp only [Act.put, List.setIfInBounds_toArray, List.set_cons_zero, List.set_cons_succ]
      refine m_loud rfl (fun K hK => ?_)
      have HK := Lib.hid hK
      clear hK
      go_simp
      refine (order_calls R x _).mono ?_
      rintro e w1 ⟨rfl, hb1⟩
      have hb1 : Below wr.heap.size wr w1 := ((Below.refl wr.heap.size wr).drew).trans hb1
      have HB1 := Lib.hid (HB.out.trans (hb1.mono HB.out.size))
      refine HK.out _ _ ⟨cell_later hb1 x0, cell_later hb1 x1, cell_later hb1 x2, cell_later hb1 d0, cell_later hb1 d1, cell_later hb1 d2⟩ ?_
      clear HK
      clear hb1 x0 x1 x2 d0 d1 d2
      refine m_done ?_
      simp only [List.drop_succ_cons, List.drop_zero]
      rcases HO.out with ⟨k1, k2⟩ | ⟨k1, k2⟩
      · go_wp2_with fail
        simp only [NP]
        go_wp2_with fail
        go_roundw
        case rel => exact ⟨h + 1, j, by omega, by omega, by omega, by go_num, rfl, HB1.out⟩
        case measure => simp [intOf]; omega
      · go_wp2_with fail
        simp only [NP]
        go_wp2_with fail
        go_roundw
        case rel => exact ⟨i, h, by omega, by omega, by omega, rfl, rfl, HB1.out⟩
        case measure => simp [intOf]; omega
    · obtain rfl : i = c := by omega
      obtain rfl : j = i := by omega
      by_cases hlc : j < rs.length
      · obtain ⟨b, o, rfl, c0, c1, c2⟩ := row_at HV.out j hlc
        have hbw := HBX.out.trans (hb.mono HBX.out.size)
        have d0 := cell_later hbw c0
        have d1 := cell_later hbw c1
        have d2 := cell_later hbw c2
        clear c0 c1 c2 hbw hb
        generalize rs[j] = R at *
        go_wp2_with fail
        refine region_m [(0, false), (1, false), (2, false), (3, false), (4, false), (5, false), (6, false), (7, false), (8, false), (9, false), (10, false), (11, true), (12, false), (13, false), (14, false), (15, false)] 16 (fun V => V.cell? ⟨w.heap.size, 0, none⟩ = some (.int .i64 x.p) ∧ V.cell? ⟨w.heap.size, 1, none⟩ = some (.int .i64 x.q) ∧ V.cell? ⟨w.heap.size, 2, none⟩ = some (.int .i64 x.l) ∧ V.cell? ⟨b, o + j * 3, none⟩ = some (.int .i64 R.p) ∧ V.cell? ⟨b, o + j * 3 + 1, none⟩ = some (.int .i64 R.q) ∧ V.cell? ⟨b, o + j * 3 + 2, none⟩ = some (.int .i64 R.l)) (by kernel_rfl) (by kernel_rfl) ⟨x0, x1, x2, d0, d1, d2⟩ ?_
        iterate 11
          first
          | (refine m_take (v := ?_) rfl rfl ?_ ?_
             rotate_left
             · intro W hW
               go_simp
               with_reducible rfl
             simp only [Act.put, List.setIfInBounds_toArray, List.set_cons_zero, List.set_cons_succ])
          | (refine m_skip rfl rfl ?_
             simp only [Act.put, List.setIfInBounds_toArray, List.set_cons_zero, List.set_cons_succ])
        refine m_loud rfl (fun K hK => ?_)
        have HK := Lib.hid hK
        clear hK
        go_simp
        refine (order_calls R x _).mono ?_
        rintro e w1 ⟨rfl, hb1⟩
        have hb1 : Below wr.heap.size wr w1 := ((Below.refl wr.heap.size wr).drew).trans hb1
        have HB1 := Lib.hid (HB.out.trans (hb1.mono HB.out.size))
        refine HK.out _ _ ⟨cell_later hb1 x0, cell_later hb1 x1, cell_later hb1 x2, cell_later hb1 d0, cell_later hb1 d1, cell_later hb1 d2⟩ ?_
        clear HK
        clear hb1 x0 x1 x2 d0 d1 d2
        iterate 4
          first
          | (refine m_take (v := ?_) rfl rfl ?_ ?_
             rotate_left
             · intro W hW
               go_simp
               with_reducible rfl
             simp only [Act.put, List.setIfInBounds_toArray, List.set_cons_zero, List.set_cons_succ])
          | (refine m_skip rfl rfl ?_
             simp only [Act.put, List.setIfInBounds_toArray, List.set_cons_zero, List.set_cons_succ])
        refine m_done ?_
        simp only [List.drop_succ_cons, List.drop_zero]
        go_wp2_with fail
        simp only [NP]
        go_wp2_with fail
        exact bodyPost_ret (v := .tuple #[.int .i64 j, .bool (ordOf R x == 0)]) (by simp [results, Try.results23, go_sem]) rfl ⟨⟨_, rfl⟩, HBX.out.trans (HB1.out.mono HBX.out.size)⟩
      · obtain rfl : j = rs.length := by omega
        clear hb
        go_wp2_with fail
        refine region_m [(0, false), (1, false), (2, false), (3, false), (4, false), (5, false), (6, false), (7, false), (8, false), (9, false), (10, false), (11, true), (12, false), (13, false), (14, false), (15, false)] 16 (fun V => True) (by kernel_rfl) (by kernel_rfl) trivial ?_
        iterate 11
          first
          | (refine m_take (v := ?_) rfl rfl ?_ ?_
             rotate_left
             · intro W hW
               go_simp
               with_reducible rfl
             simp only [Act.put, List.setIfInBounds_toArray, List.set_cons_zero, List.set_cons_succ])
          | (refine m_skip rfl rfl ?_
             simp only [Act.put, List.setIfInBounds_toArray, List.set_cons_zero, List.set_cons_succ])
        refine m_loud rfl (fun K hK => ?_)
        have HK := Lib.hid hK
        clear hK
        go_simp
        refine HK.out _ _ trivial ?_
        clear HK
        iterate 4
          first
          | (refine m_take (v := ?_) rfl rfl ?_ ?_
             rotate_left
             · intro W hW
               go_simp
               with_reducible rfl
             simp only [Act.put, List.setIfInBounds_toArray, List.set_cons_zero, List.set_cons_succ])
          | (refine m_skip rfl rfl ?_
             simp only [Act.put, List.setIfInBounds_toArray, List.set_cons_zero, List.set_cons_succ])
        refine m_done ?_
        simp only [List.drop_succ_cons, List.drop_zero]
        go_wp2_with fail
        simp only [NP]
        go_wp2_with fail
        exact bodyPost_ret (v := .tuple #[.int .i64 (rs.length : Nat), .bool false]) (by simp [results, Try.results23, go_sem]) rfl ⟨⟨_, rfl⟩, HBX.out.trans (HB.out.drew.mono HBX.out.size)⟩
end Go.Proofs.Ytbelhdnbmkemjaa
