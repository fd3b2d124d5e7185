/- Layer 13: Good, the document's Good, Same, walked. -/
import Derived.Test.YtbelhdnbmkemjaaDedup01
namespace Go.Proofs.Ytbelhdnbmkemjaa
open Go.RowKit

theorem goodAt_zero (rs : List Row) (h : 0 < rs.length) : goodAt rs 0 = (rightB rs[0].p rs[0].q && decide (0 ≤ rs[0].l)) := by
  unfold goodAt
  rw [List.getElem?_eq_getElem h]
  simp
theorem goodAt_succ (rs : List Row) (j : Nat) (h : j + 1 < rs.length) : goodAt rs (j + 1) = (rightB rs[j + 1].p rs[j + 1].q && decide (0 ≤ rs[j + 1].l) && decide (rs[j].key < rs[j + 1].key)) := by
  have h' : j < rs.length := by omega
  simp [goodAt, List.getElem?_eq_getElem h, List.getElem?_eq_getElem h']
theorem goodAt_right (rs : List Row) (j : Nat) (h : j < rs.length) (hg : goodAt rs j = true) : rightB rs[j].p rs[j].q = true ∧ 0 ≤ rs[j].l := by
  cases j with
  | zero => rw [goodAt_zero rs h] at hg; simpa using hg
  | succ j => rw [goodAt_succ rs j h] at hg; simp only [Bool.and_eq_true, decide_eq_true_eq] at hg; exact hg.1
theorem goodTo_at (rs : List Row) (n j : Nat) (hj : j < n) (h : goodTo rs n = true) : goodAt rs j = true := by
  unfold goodTo at h
  exact List.all_eq_true.1 h j (List.mem_range.2 hj)

/-- The ways through the check of row k. -/
theorem good_row_ways (rs : List Row) (k : Nat) (hk : k < rs.length) (hg : goodTo rs k = true) :
    (rightB rs[k].p rs[k].q = false ∧ goodAt rs k = false) ∨
    (rightB rs[k].p rs[k].q = true ∧ decide (rs[k].l < 0) = true ∧ goodAt rs k = false) ∨
    (rightB rs[k].p rs[k].q = true ∧ decide (rs[k].l < 0) = false ∧ k = 0 ∧ goodAt rs k = true) ∨
    (∃ j, ∃ h : k = j + 1, rightB rs[k].p rs[k].q = true ∧ decide (rs[k].l < 0) = false ∧ decide (0 ≤ ordOf (rs[j]'(by omega)) rs[k]) = true ∧ decide ((rs[k].key) ≤ (rs[j]'(by omega)).key) = true ∧ goodAt rs k = false ∧ rightB (rs[j]'(by omega)).p (rs[j]'(by omega)).q = true) ∨
    (∃ j, ∃ h : k = j + 1, rightB rs[k].p rs[k].q = true ∧ decide (rs[k].l < 0) = false ∧ decide (0 ≤ ordOf (rs[j]'(by omega)) rs[k]) = false ∧ decide ((rs[k].key) ≤ (rs[j]'(by omega)).key) = false ∧ goodAt rs k = true ∧ rightB (rs[j]'(by omega)).p (rs[j]'(by omega)).q = true) := by
  cases hr : rightB rs[k].p rs[k].q with
  | false =>
    left
    refine ⟨rfl, ?_⟩
    cases k with
    | zero => rw [goodAt_zero rs hk, hr]; rfl
    | succ j => rw [goodAt_succ rs j hk, hr]; rfl
  | true =>
    right
    by_cases hl : rs[k].l < 0
    · left
      refine ⟨rfl, decide_eq_true hl, ?_⟩
      cases k with
      | zero => rw [goodAt_zero rs hk, hr, decide_eq_false (by omega)]; rfl
      | succ j => rw [goodAt_succ rs j hk, hr, decide_eq_false (by omega)]; rfl
    · right
      cases k with
      | zero =>
        left
        exact ⟨rfl, decide_eq_false hl, rfl, by rw [goodAt_zero rs hk, hr, decide_eq_true (by omega)]; rfl⟩
      | succ j =>
        right
        have hp := (goodAt_right rs j (by omega) (goodTo_at rs (j + 1) j (by omega) hg)).1
        have ho := (ord_key hp hr).1
        by_cases hlt : rs[j].key < rs[j + 1].key
        · right
          exact ⟨j, rfl, rfl, decide_eq_false hl, decide_eq_false (by have := ho.2 hlt; omega), decide_eq_false (by omega), by rw [goodAt_succ rs j hk, hr, decide_eq_true (by omega), decide_eq_true hlt]; rfl, hp⟩
        · left
          exact ⟨j, rfl, rfl, decide_eq_false hl, decide_eq_true (by have := fun h => hlt (ho.1 h); omega), decide_eq_true (by omega), by rw [goodAt_succ rs j hk, hr, decide_eq_true (by omega), decide_eq_false hlt]; rfl, hp⟩

set_option maxHeartbeats 2000000 in
theorem dgood_calls (v : Value) (rs : List Row) (w : World) (hv : Rows w v rs) :
    Calls Try.prog 12 #[v] w fun e w' => e = .returned (.bool (goodRows rs)) ∧ Below w.heap.size w w' := by
  have HV := Lib.hid hv
  obtain ⟨a, cap, rfl, hle, hcap⟩ := Rd.slice hv
  clear hv
  go_enter Try.func12, Try.ntmps12
  go_wp2_with fail
  go_loopw [4, 7] (fun _ i wr => ∃ k : Nat, k ≤ rs.length ∧ i = .int .i64 k ∧ goodTo rs k = true ∧ Below w.heap.size w wr) (fun _ i _ => rs.length - (intOf i).toNat)
  case atStart => exact ⟨0, by omega, rfl, rfl, Below.refl _ _⟩
  case round =>
    obtain ⟨k, hk, rfl, hg, hb⟩ := hrel
    have HB := Lib.hid hb
    have HG := Lib.hid hg
    by_cases hlt : k < rs.length
    · have hway := good_row_ways rs k hlt hg
      obtain ⟨b, o, rfl, c0, c1, c2⟩ := row_at HV.out k hlt
      have d0 := cell_later hb c0
      have d1 := cell_later hb c1
      have d2 := cell_later hb c2
      clear hb hg c0 c1 c2
      have hal := (HB.out.alloc HB.out.size (.cells #[.int .i64 rs[k].p, .int .i64 rs[k].q, .int .i64 rs[k].l] 42))
      have HB2 := Lib.hid hal
      obtain ⟨W, hW⟩ : ∃ W, W = wr.alloc (.cells #[.int .i64 rs[k].p, .int .i64 rs[k].q, .int .i64 rs[k].l] 42) := ⟨_, rfl⟩
      have x0 : W.cell? ⟨wr.heap.size, 0, none⟩ = some (.int .i64 rs[k].p) := by rw [hW, World.cell?_alloc_at _ _ _ _ rfl]; rfl
      have x1 : W.cell? ⟨wr.heap.size, 1, none⟩ = some (.int .i64 rs[k].q) := by rw [hW, World.cell?_alloc_at _ _ _ _ rfl]; rfl
      have x2 : W.cell? ⟨wr.heap.size, 2, none⟩ = some (.int .i64 rs[k].l) := by rw [hW, World.cell?_alloc_at _ _ _ _ rfl]; rfl
      have HW := Lib.hid hW
      clear hal hW
      rcases hway with ⟨k1, k2⟩ | ⟨k1, k2, k3⟩ | ⟨k1, k2, hk0, k3⟩ | ⟨j, rfl, k1, k2, k3, -, k4, k5⟩ | ⟨j, rfl, k1, k2, k3, -, k4, k5⟩
      · have HN := Lib.hid (goodTo_no rs rs.length k hlt k2)
        generalize rs[k] = R at *
        clear k2
        go_wp2_with fail
        rw [← HW.out]
        refine region_m [(0, false), (1, false), (2, false), (3, false), (4, true), (5, false), (6, false), (7, false), (8, false), (9, false), (10, false), (11, false), (12, false), (13, false), (14, false), (15, false), (16, false), (17, false), (18, false), (19, false), (20, false), (21, true), (22, false), (23, false), (24, false)] 25 (fun V => V.cell? ⟨wr.heap.size, 0, none⟩ = some (.int .i64 R.p) ∧ V.cell? ⟨wr.heap.size, 1, none⟩ = some (.int .i64 R.q) ∧ V.cell? ⟨wr.heap.size, 2, none⟩ = some (.int .i64 R.l)) (by kernel_rfl) (by kernel_rfl) ⟨x0, x1, x2⟩ ?_
        iterate 4
          refine m_take (v := ?_) rfl rfl ?_ ?_
          rotate_left
          · intro W hW
            go_simp
            with_reducible rfl
          simp only [Act.put, List.setIfInBounds_toArray, List.set_cons_zero, List.set_cons_succ]
        refine m_loud rfl (fun K hK => ?_)
        have HK := Lib.hid hK
        clear hK
        go_simp
        refine (right_calls _ _ _).mono ?_
        rintro e w1 ⟨rfl, rfl⟩
        refine HK.out _ _ ⟨x0, x1, x2⟩ ?_
        clear HK
        iterate 16
          first
          | (refine m_take (v := ?_) rfl rfl ?_ ?_
             rotate_left
             · intro W hW
               go_simp
               with_reducible rfl
             simp only [Act.put, List.setIfInBounds_toArray, List.set_cons_zero, List.set_cons_succ])
          | (refine m_skip rfl rfl ?_
             simp only [Act.put, List.setIfInBounds_toArray, List.set_cons_zero, List.set_cons_succ])
        refine m_loud rfl (fun K hK => ?_)
        have HK := Lib.hid hK
        clear hK
        go_simp
        refine HK.out _ _ ⟨x0, x1, x2⟩ ?_
        clear HK
        iterate 3
          first
          | (refine m_take (v := ?_) rfl rfl ?_ ?_
             rotate_left
             · intro W hW
               go_simp
               with_reducible rfl
             simp only [Act.put, List.setIfInBounds_toArray, List.set_cons_zero, List.set_cons_succ])
          | (refine m_skip rfl rfl ?_
             simp only [Act.put, List.setIfInBounds_toArray, List.set_cons_zero, List.set_cons_succ])
        refine m_done ?_
        simp only [List.drop_succ_cons, List.drop_zero]
        go_wp2_with fail
        simp only [NP]
        go_wp2_with fail
        go_ret
        exact ⟨by rw [show goodRows rs = false from HN.out]; rfl, by first | exact HB2.out.drew | (have h := HW.out; rw [h]; exact HB2.out.drew)⟩
      · have HN := Lib.hid (goodTo_no rs rs.length k hlt k3)
        generalize rs[k] = R at *
        clear k3
        go_wp2_with fail
        rw [← HW.out]
        refine region_m [(0, false), (1, false), (2, false), (3, false), (4, true), (5, false), (6, false), (7, false), (8, false), (9, false), (10, false), (11, false), (12, false), (13, false), (14, false), (15, false), (16, false), (17, false), (18, false), (19, false), (20, false), (21, true), (22, false), (23, false), (24, false)] 25 (fun V => V.cell? ⟨wr.heap.size, 0, none⟩ = some (.int .i64 R.p) ∧ V.cell? ⟨wr.heap.size, 1, none⟩ = some (.int .i64 R.q) ∧ V.cell? ⟨wr.heap.size, 2, none⟩ = some (.int .i64 R.l)) (by kernel_rfl) (by kernel_rfl) ⟨x0, x1, x2⟩ ?_
        iterate 4
          refine m_take (v := ?_) rfl rfl ?_ ?_
          rotate_left
          · intro W hW
            go_simp
            with_reducible rfl
          simp only [Act.put, List.setIfInBounds_toArray, List.set_cons_zero, List.set_cons_succ]
        refine m_loud rfl (fun K hK => ?_)
        have HK := Lib.hid hK
        clear hK
        go_simp
        refine (right_calls _ _ _).mono ?_
        rintro e w1 ⟨rfl, rfl⟩
        refine HK.out _ _ ⟨x0, x1, x2⟩ ?_
        clear HK
        iterate 16
          first
          | (refine m_take (v := ?_) rfl rfl ?_ ?_
             rotate_left
             · intro W hW
               go_simp
               with_reducible rfl
             simp only [Act.put, List.setIfInBounds_toArray, List.set_cons_zero, List.set_cons_succ])
          | (refine m_skip rfl rfl ?_
             simp only [Act.put, List.setIfInBounds_toArray, List.set_cons_zero, List.set_cons_succ])
        refine m_loud rfl (fun K hK => ?_)
        have HK := Lib.hid hK
        clear hK
        go_simp
        refine HK.out _ _ ⟨x0, x1, x2⟩ ?_
        clear HK
        iterate 3
          first
          | (refine m_take (v := ?_) rfl rfl ?_ ?_
             rotate_left
             · intro W hW
               go_simp
               with_reducible rfl
             simp only [Act.put, List.setIfInBounds_toArray, List.set_cons_zero, List.set_cons_succ])
          | (refine m_skip rfl rfl ?_
             simp only [Act.put, List.setIfInBounds_toArray, List.set_cons_zero, List.set_cons_succ])
        refine m_done ?_
        simp only [List.drop_succ_cons, List.drop_zero]
        go_wp2_with fail
        simp only [NP]
        go_wp2_with fail
        go_ret
        exact ⟨by rw [show goodRows rs = false from HN.out]; rfl, by first | exact HB2.out.drew | (have h := HW.out; rw [h]; exact HB2.out.drew)⟩
      · have HN := Lib.hid (show goodTo rs (k + 1) = true by rw [goodTo_succ, HG.out, k3]; rfl)
        have kk : decide (0 < k) = false := decide_eq_false (by omega)
        generalize rs[k] = R at *
        clear k3 hk0
        go_wp2_with fail
        rw [← HW.out]
        refine region_m [(0, false), (1, false), (2, false), (3, false), (4, true), (5, false), (6, false), (7, false), (8, false), (9, false), (10, false), (11, false), (12, false), (13, false), (14, false), (15, false), (16, false), (17, false), (18, false), (19, false), (20, false), (21, true), (22, false), (23, false), (24, false)] 25 (fun V => V.cell? ⟨wr.heap.size, 0, none⟩ = some (.int .i64 R.p) ∧ V.cell? ⟨wr.heap.size, 1, none⟩ = some (.int .i64 R.q) ∧ V.cell? ⟨wr.heap.size, 2, none⟩ = some (.int .i64 R.l)) (by kernel_rfl) (by kernel_rfl) ⟨x0, x1, x2⟩ ?_
        iterate 4
          refine m_take (v := ?_) rfl rfl ?_ ?_
          rotate_left
          · intro W hW
            go_simp
            with_reducible rfl
          simp only [Act.put, List.setIfInBounds_toArray, List.set_cons_zero, List.set_cons_succ]
        refine m_loud rfl (fun K hK => ?_)
        have HK := Lib.hid hK
        clear hK
        go_simp
        refine (right_calls _ _ _).mono ?_
        rintro e w1 ⟨rfl, rfl⟩
        refine HK.out _ _ ⟨x0, x1, x2⟩ ?_
        clear HK
        iterate 16
          first
          | (refine m_take (v := ?_) rfl rfl ?_ ?_
             rotate_left
             · intro W hW
               go_simp
               with_reducible rfl
             simp only [Act.put, List.setIfInBounds_toArray, List.set_cons_zero, List.set_cons_succ])
          | (refine m_skip rfl rfl ?_
             simp only [Act.put, List.setIfInBounds_toArray, List.set_cons_zero, List.set_cons_succ])
        refine m_loud rfl (fun K hK => ?_)
        have HK := Lib.hid hK
        clear hK
        go_simp
        refine HK.out _ _ ⟨x0, x1, x2⟩ ?_
        clear HK
        iterate 3
          first
          | (refine m_take (v := ?_) rfl rfl ?_ ?_
             rotate_left
             · intro W hW
               go_simp
               with_reducible rfl
             simp only [Act.put, List.setIfInBounds_toArray, List.set_cons_zero, List.set_cons_succ])
          | (refine m_skip rfl rfl ?_
             simp only [Act.put, List.setIfInBounds_toArray, List.set_cons_zero, List.set_cons_succ])
        refine m_done ?_
        simp only [List.drop_succ_cons, List.drop_zero]
        go_wp2_with fail
        simp only [NP]
        go_wp2_with fail
        go_roundw
        case rel => exact ⟨k + 1, by omega, by go_num, HN.out, by rw [HW.out]; exact HB2.out.drew⟩
        case measure => simp [intOf]; omega
      · have HN := Lib.hid (goodTo_no rs rs.length (j + 1) hlt k4)
        clear k4 k5
        have hbW : Below w.heap.size w W := by rw [HW.out]; exact HB2.out
        obtain ⟨b', o', e', y0, y1, y2⟩ := row_at HV.out j (by omega)
        simp only [Option.some.injEq, Addr.mk.injEq, and_true] at e'
        obtain ⟨rfl, rfl⟩ := e'
        have y0 := cell_later hbW y0
        have y1 := cell_later hbW y1
        have y2 := cell_later hbW y2
        have HBW := Lib.hid hbW
        clear hbW
        generalize rs[j + 1] = R at *
        generalize rs[j] = R1 at *
        have hcast : ((j + 1 : Nat) : Int) = (j : Int) + 1 := by omega
        have kk : decide ((0 : Int) < (j : Int) + 1) = true := decide_eq_true (by omega)
        have kj : (j : Int) < (rs.length : Int) := by omega
        have kj2 : j < rs.length := by omega
        have kw : IntKind.i64.wrap (j : Int) = (j : Int) := by rw [IntKind.wrap_i64]; omega
        rw [hcast]
        go_wp2_with fail
        rw [← HW.out]
        refine region_m [(0, false), (1, false), (2, false), (3, false), (4, true), (5, false), (6, false), (7, false), (8, false), (9, false), (10, false), (11, false), (12, false), (13, false), (14, false), (15, false), (16, false), (17, false), (18, false), (19, false), (20, false), (21, true), (22, false), (23, false), (24, false)] 25 (fun V => V.cell? ⟨wr.heap.size, 0, none⟩ = some (.int .i64 R.p) ∧ V.cell? ⟨wr.heap.size, 1, none⟩ = some (.int .i64 R.q) ∧ V.cell? ⟨wr.heap.size, 2, none⟩ = some (.int .i64 R.l) ∧ V.cell? ⟨b, o + j * 3, none⟩ = some (.int .i64 R1.p) ∧ V.cell? ⟨b, o + j * 3 + 1, none⟩ = some (.int .i64 R1.q) ∧ V.cell? ⟨b, o + j * 3 + 2, none⟩ = some (.int .i64 R1.l)) (by kernel_rfl) (by kernel_rfl) ⟨x0, x1, x2, y0, y1, y2⟩ ?_
        iterate 4
          refine m_take (v := ?_) rfl rfl ?_ ?_
          rotate_left
          · intro W hW
            go_simp
            with_reducible rfl
          simp only [Act.put, List.setIfInBounds_toArray, List.set_cons_zero, List.set_cons_succ]
        refine m_loud rfl (fun K hK => ?_)
        have HK := Lib.hid hK
        clear hK
        go_simp
        refine (right_calls _ _ _).mono ?_
        rintro e w1 ⟨rfl, rfl⟩
        refine HK.out _ _ ⟨x0, x1, x2, y0, y1, y2⟩ ?_
        clear HK
        iterate 16
          first
          | (refine m_take (v := ?_) rfl rfl ?_ ?_
             rotate_left
             · intro W hW
               go_simp
               with_reducible rfl
             simp only [Act.put, List.setIfInBounds_toArray, List.set_cons_zero, List.set_cons_succ])
          | (refine m_skip rfl rfl ?_
             simp only [Act.put, List.setIfInBounds_toArray, List.set_cons_zero, List.set_cons_succ])
        refine m_loud rfl (fun K hK => ?_)
        have HK := Lib.hid hK
        clear hK
        go_simp
        refine (order_calls R1 R _).mono ?_
        rintro e w2 ⟨rfl, hb2⟩
        have hb2 : Below W.heap.size W w2 := ((Below.refl W.heap.size W).drew).trans hb2
        have HB3 := Lib.hid hb2
        refine HK.out _ _ ⟨cell_later hb2 x0, cell_later hb2 x1, cell_later hb2 x2, cell_later hb2 y0, cell_later hb2 y1, cell_later hb2 y2⟩ ?_
        clear HK
        clear hb2 x0 x1 x2 y0 y1 y2
        iterate 3
          first
          | (refine m_take (v := ?_) rfl rfl ?_ ?_
             rotate_left
             · intro W hW
               go_simp
               with_reducible rfl
             simp only [Act.put, List.setIfInBounds_toArray, List.set_cons_zero, List.set_cons_succ])
          | (refine m_skip rfl rfl ?_
             simp only [Act.put, List.setIfInBounds_toArray, List.set_cons_zero, List.set_cons_succ])
        refine m_done ?_
        simp only [List.drop_succ_cons, List.drop_zero]
        go_wp2_with fail
        simp only [NP]
        go_wp2_with fail
        go_ret
        exact ⟨by rw [show goodRows rs = false from HN.out]; rfl, HBW.out.trans (HB3.out.mono HBW.out.size)⟩
      · have HN := Lib.hid (show goodTo rs (j + 1 + 1) = true by rw [goodTo_succ, HG.out, k4]; rfl)
        clear k4 k5
        have hbW : Below w.heap.size w W := by rw [HW.out]; exact HB2.out
        obtain ⟨b', o', e', y0, y1, y2⟩ := row_at HV.out j (by omega)
        simp only [Option.some.injEq, Addr.mk.injEq, and_true] at e'
        obtain ⟨rfl, rfl⟩ := e'
        have y0 := cell_later hbW y0
        have y1 := cell_later hbW y1
        have y2 := cell_later hbW y2
        have HBW := Lib.hid hbW
        clear hbW
        generalize rs[j + 1] = R at *
        generalize rs[j] = R1 at *
        have hcast : ((j + 1 : Nat) : Int) = (j : Int) + 1 := by omega
        have kk : decide ((0 : Int) < (j : Int) + 1) = true := decide_eq_true (by omega)
        have kj : (j : Int) < (rs.length : Int) := by omega
        have kj2 : j < rs.length := by omega
        have kw : IntKind.i64.wrap (j : Int) = (j : Int) := by rw [IntKind.wrap_i64]; omega
        rw [hcast]
        go_wp2_with fail
        rw [← HW.out]
        refine region_m [(0, false), (1, false), (2, false), (3, false), (4, true), (5, false), (6, false), (7, false), (8, false), (9, false), (10, false), (11, false), (12, false), (13, false), (14, false), (15, false), (16, false), (17, false), (18, false), (19, false), (20, false), (21, true), (22, false), (23, false), (24, false)] 25 (fun V => V.cell? ⟨wr.heap.size, 0, none⟩ = some (.int .i64 R.p) ∧ V.cell? ⟨wr.heap.size, 1, none⟩ = some (.int .i64 R.q) ∧ V.cell? ⟨wr.heap.size, 2, none⟩ = some (.int .i64 R.l) ∧ V.cell? ⟨b, o + j * 3, none⟩ = some (.int .i64 R1.p) ∧ V.cell? ⟨b, o + j * 3 + 1, none⟩ = some (.int .i64 R1.q) ∧ V.cell? ⟨b, o + j * 3 + 2, none⟩ = some (.int .i64 R1.l)) (by kernel_rfl) (by kernel_rfl) ⟨x0, x1, x2, y0, y1, y2⟩ ?_
        iterate 4
          refine m_take (v := ?_) rfl rfl ?_ ?_
          rotate_left
          · intro W hW
            go_simp
            with_reducible rfl
          simp only [Act.put, List.setIfInBounds_toArray, List.set_cons_zero, List.set_cons_succ]
        refine m_loud rfl (fun K hK => ?_)
        have HK := Lib.hid hK
        clear hK
        go_simp
        refine (right_calls _ _ _).mono ?_
        rintro e w1 ⟨rfl, rfl⟩
        refine HK.out _ _ ⟨x0, x1, x2, y0, y1, y2⟩ ?_
        clear HK
        iterate 16
          first
          | (refine m_take (v := ?_) rfl rfl ?_ ?_
             rotate_left
             · intro W hW
               go_simp
               with_reducible rfl
             simp only [Act.put, List.setIfInBounds_toArray, List.set_cons_zero, List.set_cons_succ])
          | (refine m_skip rfl rfl ?_
             simp only [Act.put, List.setIfInBounds_toArray, List.set_cons_zero, List.set_cons_succ])
        refine m_loud rfl (fun K hK => ?_)
        have HK := Lib.hid hK
        clear hK
        go_simp
        refine (order_calls R1 R _).mono ?_
        rintro e w2 ⟨rfl, hb2⟩
        have hb2 : Below W.heap.size W w2 := ((Below.refl W.heap.size W).drew).trans hb2
        have HB3 := Lib.hid hb2
        refine HK.out _ _ ⟨cell_later hb2 x0, cell_later hb2 x1, cell_later hb2 x2, cell_later hb2 y0, cell_later hb2 y1, cell_later hb2 y2⟩ ?_
        clear HK
        clear hb2 x0 x1 x2 y0 y1 y2
        iterate 3
          first
          | (refine m_take (v := ?_) rfl rfl ?_ ?_
             rotate_left
             · intro W hW
               go_simp
               with_reducible rfl
             simp only [Act.put, List.setIfInBounds_toArray, List.set_cons_zero, List.set_cons_succ])
          | (refine m_skip rfl rfl ?_
             simp only [Act.put, List.setIfInBounds_toArray, List.set_cons_zero, List.set_cons_succ])
        refine m_done ?_
        simp only [List.drop_succ_cons, List.drop_zero]
        go_wp2_with fail
        simp only [NP]
        go_wp2_with fail
        go_roundw
        case rel => exact ⟨j + 1 + 1, by omega, by go_num, HN.out, HBW.out.trans (HB3.out.mono HBW.out.size)⟩
        case measure => simp [intOf]; omega
    · obtain rfl : k = rs.length := by omega
      clear hb hg
      go_wp2_with fail
      go_ret
      exact ⟨by rw [show goodRows rs = true from HG.out]; rfl, HB.out⟩
end Go.Proofs.Ytbelhdnbmkemjaa
