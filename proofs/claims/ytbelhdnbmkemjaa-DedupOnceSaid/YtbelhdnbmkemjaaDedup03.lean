/- Layer 13: the document's Good and Same, walked. -/
import Derived.Test.YtbelhdnbmkemjaaDedup02
namespace Go.Proofs.Ytbelhdnbmkemjaa
open Go.RowKit

theorem right_nums {p q : Int} (h : rightB p q = true) : 0 ≤ p ∧ p ≤ 63 ∧ 0 ≤ q ∧ q < 8 := by
  unfold rightB at h
  simpa using h

set_option maxHeartbeats 2000000 in
theorem rdgood_calls (v : Value) (rs : List Row) (w : World) (hv : Rows w v rs) :
    Calls Try.prog 8 #[v] w fun e w' => e = .returned (.bool (goodRows rs)) ∧ Below w.heap.size w w' := by
  have HV := Lib.hid hv
  obtain ⟨a, cap, rfl, hle, hcap⟩ := Rd.slice hv
  clear hv
  go_enter Try.func8, Try.ntmps8
  go_wp2_with fail
  go_loopw [3] (fun i wr => ∃ k : Nat, k ≤ rs.length ∧ i = .int .i64 k ∧ goodTo rs k = true ∧ Below w.heap.size w wr) (fun i _ => rs.length - (intOf i).toNat)
  case atStart => exact ⟨0, by omega, rfl, rfl, Below.refl _ _⟩
  case round =>
    obtain ⟨k, hk, rfl, hg, hb⟩ := hrel
    have HB := Lib.hid hb
    have HG := Lib.hid hg
    by_cases hlt : k < rs.length
    · have hway := good_row_ways rs k hlt hg
      obtain ⟨b, o, rfl, c0, c1, c2⟩ := row_at HV.out k hlt
      have x0 := cell_later hb c0
      have x1 := cell_later hb c1
      have x2 := cell_later hb c2
      clear hb hg c0 c1 c2
      rcases hway with ⟨k1, k2⟩ | ⟨k1, k2, k3⟩ | ⟨k1, k2, hk0, k3⟩ | ⟨j, rfl, k1, k2, -, k3, k4, k5⟩ | ⟨j, rfl, k1, k2, -, k3, k4, k5⟩
      · have HN := Lib.hid (goodTo_no rs rs.length k hlt k2)
        generalize rs[k] = R at *
        clear k2
        go_wp2_with fail
        refine region_m [(0, false), (1, false), (2, false), (3, false), (4, false), (5, false), (6, false), (7, false), (8, false), (9, false), (10, true), (11, false), (12, false), (13, false), (14, false), (15, false), (16, false), (17, false), (18, false), (19, false)] 20 (fun V => V.cell? ⟨b, o + k * 3, none⟩ = some (.int .i64 R.p) ∧ V.cell? ⟨b, o + k * 3 + 1, none⟩ = some (.int .i64 R.q) ∧ V.cell? ⟨b, o + k * 3 + 2, none⟩ = some (.int .i64 R.l)) (by kernel_rfl) (by kernel_rfl) ⟨x0, x1, x2⟩ ?_
        iterate 10
          refine m_take (v := ?_) rfl rfl ?_ ?_
          rotate_left
          · intro W hW
            go_simp
            with_reducible rfl
          simp only [Act.put, List.setIfInBounds_toArray, List.set_cons_zero, List.set_cons_succ]
        refine m_loud rfl (fun K hK => ?_)
        have HK := Lib.hid hK
        clear hK
        go_simp
        refine (rright_calls _ _ _).mono ?_
        rintro e w1 ⟨rfl, rfl⟩
        refine HK.out _ _ ⟨x0, x1, x2⟩ ?_
        clear HK
        iterate 9
          first
          | (refine m_take (v := ?_) rfl rfl ?_ ?_
             rotate_left
             · intro W hW
               go_simp
               with_reducible rfl
             simp only [Act.put, List.setIfInBounds_toArray, List.set_cons_zero, List.set_cons_succ])
          | (refine m_skip rfl rfl ?_
             simp only [Act.put, List.setIfInBounds_toArray, List.set_cons_zero, List.set_cons_succ])
        refine m_done ?_
        simp only [List.drop_succ_cons, List.drop_zero]
        go_wp2_with fail
        simp only [NP]
        go_wp2_with fail
        go_ret
        exact ⟨by rw [show goodRows rs = false from HN.out]; rfl, HB.out.drew⟩
      · have HN := Lib.hid (goodTo_no rs rs.length k hlt k3)
        generalize rs[k] = R at *
        clear k3
        go_wp2_with fail
        refine region_m [(0, false), (1, false), (2, false), (3, false), (4, false), (5, false), (6, false), (7, false), (8, false), (9, false), (10, true), (11, false), (12, false), (13, false), (14, false), (15, false), (16, false), (17, false), (18, false), (19, false)] 20 (fun V => V.cell? ⟨b, o + k * 3, none⟩ = some (.int .i64 R.p) ∧ V.cell? ⟨b, o + k * 3 + 1, none⟩ = some (.int .i64 R.q) ∧ V.cell? ⟨b, o + k * 3 + 2, none⟩ = some (.int .i64 R.l)) (by kernel_rfl) (by kernel_rfl) ⟨x0, x1, x2⟩ ?_
        iterate 10
          refine m_take (v := ?_) rfl rfl ?_ ?_
          rotate_left
          · intro W hW
            go_simp
            with_reducible rfl
          simp only [Act.put, List.setIfInBounds_toArray, List.set_cons_zero, List.set_cons_succ]
        refine m_loud rfl (fun K hK => ?_)
        have HK := Lib.hid hK
        clear hK
        go_simp
        refine (rright_calls _ _ _).mono ?_
        rintro e w1 ⟨rfl, rfl⟩
        refine HK.out _ _ ⟨x0, x1, x2⟩ ?_
        clear HK
        iterate 9
          first
          | (refine m_take (v := ?_) rfl rfl ?_ ?_
             rotate_left
             · intro W hW
               go_simp
               with_reducible rfl
             simp only [Act.put, List.setIfInBounds_toArray, List.set_cons_zero, List.set_cons_succ])
          | (refine m_skip rfl rfl ?_
             simp only [Act.put, List.setIfInBounds_toArray, List.set_cons_zero, List.set_cons_succ])
        refine m_done ?_
        simp only [List.drop_succ_cons, List.drop_zero]
        go_wp2_with fail
        simp only [NP]
        go_wp2_with fail
        go_ret
        exact ⟨by rw [show goodRows rs = false from HN.out]; rfl, HB.out.drew⟩
      · have HN := Lib.hid (show goodTo rs (k + 1) = true by rw [goodTo_succ, HG.out, k3]; rfl)
        have kk : decide (0 < k) = false := decide_eq_false (by omega)
        generalize rs[k] = R at *
        clear k3 hk0
        go_wp2_with fail
        refine region_m [(0, false), (1, false), (2, false), (3, false), (4, false), (5, false), (6, false), (7, false), (8, false), (9, false), (10, true), (11, false), (12, false), (13, false), (14, false), (15, false), (16, false), (17, false), (18, false), (19, false)] 20 (fun V => V.cell? ⟨b, o + k * 3, none⟩ = some (.int .i64 R.p) ∧ V.cell? ⟨b, o + k * 3 + 1, none⟩ = some (.int .i64 R.q) ∧ V.cell? ⟨b, o + k * 3 + 2, none⟩ = some (.int .i64 R.l)) (by kernel_rfl) (by kernel_rfl) ⟨x0, x1, x2⟩ ?_
        iterate 10
          refine m_take (v := ?_) rfl rfl ?_ ?_
          rotate_left
          · intro W hW
            go_simp
            with_reducible rfl
          simp only [Act.put, List.setIfInBounds_toArray, List.set_cons_zero, List.set_cons_succ]
        refine m_loud rfl (fun K hK => ?_)
        have HK := Lib.hid hK
        clear hK
        go_simp
        refine (rright_calls _ _ _).mono ?_
        rintro e w1 ⟨rfl, rfl⟩
        refine HK.out _ _ ⟨x0, x1, x2⟩ ?_
        clear HK
        iterate 9
          first
          | (refine m_take (v := ?_) rfl rfl ?_ ?_
             rotate_left
             · intro W hW
               go_simp
               with_reducible rfl
             simp only [Act.put, List.setIfInBounds_toArray, List.set_cons_zero, List.set_cons_succ])
          | (refine m_skip rfl rfl ?_
             simp only [Act.put, List.setIfInBounds_toArray, List.set_cons_zero, List.set_cons_succ])
        refine m_done ?_
        simp only [List.drop_succ_cons, List.drop_zero]
        go_wp2_with fail
        simp only [NP]
        go_wp2_with fail
        refine region_m [(0, false), (1, false), (2, false), (3, false), (4, false), (5, false), (6, false), (7, false), (8, false), (9, false), (10, false), (11, false), (12, false), (13, false), (14, false), (15, false), (16, false), (17, false), (18, false), (19, false), (20, false), (21, false), (22, false), (23, false), (24, false), (25, false), (26, false), (27, false), (28, false), (29, false), (30, false)] 31 (fun V => V.cell? ⟨b, o + k * 3, none⟩ = some (.int .i64 R.p) ∧ V.cell? ⟨b, o + k * 3 + 1, none⟩ = some (.int .i64 R.q) ∧ V.cell? ⟨b, o + k * 3 + 2, none⟩ = some (.int .i64 R.l)) (by kernel_rfl) (by kernel_rfl) ⟨x0, x1, x2⟩ ?_
        iterate 31
          first
          | (refine m_take (v := ?_) rfl rfl ?_ ?_
             rotate_left
             · intro W hW
               go_simp
               with_reducible rfl
             simp only [Act.put, List.setIfInBounds_toArray, List.set_cons_zero, List.set_cons_succ])
          | (refine m_skip rfl rfl ?_
             simp only [Act.put, List.setIfInBounds_toArray, List.set_cons_zero, List.set_cons_succ])
        refine m_done ?_
        simp only [List.drop_succ_cons, List.drop_zero]
        go_wp2_with fail
        simp only [NP]
        go_wp2_with fail
        go_roundw
        case rel => exact ⟨k + 1, by omega, by go_num, HN.out, HB.out.drew.drew⟩
        case measure => simp [intOf]; omega
      · have HN := Lib.hid (goodTo_no rs rs.length (j + 1) hlt k4)
        obtain ⟨b', o', e', y0, y1, -⟩ := row_at HV.out j (by omega)
        simp only [Option.some.injEq, Addr.mk.injEq, and_true] at e'
        obtain ⟨rfl, rfl⟩ := e'
        have y0 := cell_later HB.out y0
        have y1 := cell_later HB.out y1
        have hR := right_nums k1
        have hR1 := right_nums k5
        have k3' : decide (8 * rs[j + 1].p + rs[j + 1].q ≤ 8 * rs[j].p + rs[j].q) = true := k3
        clear k3 k4 k5
        generalize rs[j + 1] = R at *
        generalize rs[j] = R1 at *
        have q1 : IntKind.i64.wrap (8 * R.p) = 8 * R.p := by rw [IntKind.wrap_i64]; omega
        have q2 : IntKind.i64.wrap (8 * R.p + R.q) = 8 * R.p + R.q := by rw [IntKind.wrap_i64]; omega
        have q3 : IntKind.i64.wrap (8 * R1.p) = 8 * R1.p := by rw [IntKind.wrap_i64]; omega
        have q4 : IntKind.i64.wrap (8 * R1.p + R1.q) = 8 * R1.p + R1.q := by rw [IntKind.wrap_i64]; omega
        clear hR hR1
        have hcast : ((j + 1 : Nat) : Int) = (j : Int) + 1 := by omega
        have kk : decide ((0 : Int) < (j : Int) + 1) = true := decide_eq_true (by omega)
        have kj : (j : Int) < (rs.length : Int) := by omega
        have kj2 : j < rs.length := by omega
        have kz : (0 : Int) ≤ (j : Int) + 1 := by omega
        have kw : IntKind.i64.wrap (j : Int) = (j : Int) := by rw [IntKind.wrap_i64]; omega
        rw [hcast]
        go_wp2_with fail
        refine region_m [(0, false), (1, false), (2, false), (3, false), (4, false), (5, false), (6, false), (7, false), (8, false), (9, false), (10, true), (11, false), (12, false), (13, false), (14, false), (15, false), (16, false), (17, false), (18, false), (19, false)] 20 (fun V => V.cell? ⟨b, o + (j + 1) * 3, none⟩ = some (.int .i64 R.p) ∧ V.cell? ⟨b, o + (j + 1) * 3 + 1, none⟩ = some (.int .i64 R.q) ∧ V.cell? ⟨b, o + (j + 1) * 3 + 2, none⟩ = some (.int .i64 R.l)) (by kernel_rfl) (by kernel_rfl) ⟨x0, x1, x2⟩ ?_
        iterate 10
          refine m_take (v := ?_) rfl rfl ?_ ?_
          rotate_left
          · intro W hW
            go_simp
            with_reducible rfl
          simp only [Act.put, List.setIfInBounds_toArray, List.set_cons_zero, List.set_cons_succ]
        refine m_loud rfl (fun K hK => ?_)
        have HK := Lib.hid hK
        clear hK
        go_simp
        refine (rright_calls _ _ _).mono ?_
        rintro e w1 ⟨rfl, rfl⟩
        refine HK.out _ _ ⟨x0, x1, x2⟩ ?_
        clear HK
        iterate 9
          first
          | (refine m_take (v := ?_) rfl rfl ?_ ?_
             rotate_left
             · intro W hW
               go_simp
               with_reducible rfl
             simp only [Act.put, List.setIfInBounds_toArray, List.set_cons_zero, List.set_cons_succ])
          | (refine m_skip rfl rfl ?_
             simp only [Act.put, List.setIfInBounds_toArray, List.set_cons_zero, List.set_cons_succ])
        refine m_done ?_
        simp only [List.drop_succ_cons, List.drop_zero]
        go_wp2_with fail
        simp only [NP]
        go_wp2_with fail
        refine region_m [(0, false), (1, false), (2, false), (3, false), (4, false), (5, false), (6, false), (7, false), (8, false), (9, false), (10, false), (11, false), (12, false), (13, false), (14, false), (15, false), (16, false), (17, false), (18, false), (19, false), (20, false), (21, false), (22, false), (23, false), (24, false), (25, false), (26, false), (27, false), (28, false), (29, false), (30, false)] 31 (fun V => V.cell? ⟨b, o + (j + 1) * 3, none⟩ = some (.int .i64 R.p) ∧ V.cell? ⟨b, o + (j + 1) * 3 + 1, none⟩ = some (.int .i64 R.q) ∧ V.cell? ⟨b, o + (j + 1) * 3 + 2, none⟩ = some (.int .i64 R.l) ∧ V.cell? ⟨b, o + j * 3, none⟩ = some (.int .i64 R1.p) ∧ V.cell? ⟨b, o + j * 3 + 1, none⟩ = some (.int .i64 R1.q)) (by kernel_rfl) (by kernel_rfl) ⟨x0, x1, x2, y0, y1⟩ ?_
        iterate 31
          first
          | (refine m_take (v := ?_) rfl rfl ?_ ?_
             rotate_left
             · intro W hW
               go_simp
               with_reducible rfl
             simp only [Act.put, List.setIfInBounds_toArray, List.set_cons_zero, List.set_cons_succ])
          | (refine m_skip rfl rfl ?_
             simp only [Act.put, List.setIfInBounds_toArray, List.set_cons_zero, List.set_cons_succ])
        refine m_done ?_
        simp only [List.drop_succ_cons, List.drop_zero]
        go_wp2_with fail
        simp only [NP]
        go_wp2_with fail
        go_ret
        exact ⟨by rw [show goodRows rs = false from HN.out]; rfl, HB.out.drew.drew⟩
      · have HN := Lib.hid (show goodTo rs (j + 1 + 1) = true by rw [goodTo_succ, HG.out, k4]; rfl)
        obtain ⟨b', o', e', y0, y1, -⟩ := row_at HV.out j (by omega)
        simp only [Option.some.injEq, Addr.mk.injEq, and_true] at e'
        obtain ⟨rfl, rfl⟩ := e'
        have y0 := cell_later HB.out y0
        have y1 := cell_later HB.out y1
        have hR := right_nums k1
        have hR1 := right_nums k5
        have k3' : decide (8 * rs[j + 1].p + rs[j + 1].q ≤ 8 * rs[j].p + rs[j].q) = false := k3
        clear k3 k4 k5
        generalize rs[j + 1] = R at *
        generalize rs[j] = R1 at *
        have q1 : IntKind.i64.wrap (8 * R.p) = 8 * R.p := by rw [IntKind.wrap_i64]; omega
        have q2 : IntKind.i64.wrap (8 * R.p + R.q) = 8 * R.p + R.q := by rw [IntKind.wrap_i64]; omega
        have q3 : IntKind.i64.wrap (8 * R1.p) = 8 * R1.p := by rw [IntKind.wrap_i64]; omega
        have q4 : IntKind.i64.wrap (8 * R1.p + R1.q) = 8 * R1.p + R1.q := by rw [IntKind.wrap_i64]; omega
        clear hR hR1
        have hcast : ((j + 1 : Nat) : Int) = (j : Int) + 1 := by omega
        have kk : decide ((0 : Int) < (j : Int) + 1) = true := decide_eq_true (by omega)
        have kj : (j : Int) < (rs.length : Int) := by omega
        have kj2 : j < rs.length := by omega
        have kz : (0 : Int) ≤ (j : Int) + 1 := by omega
        have kw : IntKind.i64.wrap (j : Int) = (j : Int) := by rw [IntKind.wrap_i64]; omega
        rw [hcast]
        go_wp2_with fail
        refine region_m [(0, false), (1, false), (2, false), (3, false), (4, false), (5, false), (6, false), (7, false), (8, false), (9, false), (10, true), (11, false), (12, false), (13, false), (14, false), (15, false), (16, false), (17, false), (18, false), (19, false)] 20 (fun V => V.cell? ⟨b, o + (j + 1) * 3, none⟩ = some (.int .i64 R.p) ∧ V.cell? ⟨b, o + (j + 1) * 3 + 1, none⟩ = some (.int .i64 R.q) ∧ V.cell? ⟨b, o + (j + 1) * 3 + 2, none⟩ = some (.int .i64 R.l)) (by kernel_rfl) (by kernel_rfl) ⟨x0, x1, x2⟩ ?_
        iterate 10
          refine m_take (v := ?_) rfl rfl ?_ ?_
          rotate_left
          · intro W hW
            go_simp
            with_reducible rfl
          simp only [Act.put, List.setIfInBounds_toArray, List.set_cons_zero, List.set_cons_succ]
        refine m_loud rfl (fun K hK => ?_)
        have HK := Lib.hid hK
        clear hK
        go_simp
        refine (rright_calls _ _ _).mono ?_
        rintro e w1 ⟨rfl, rfl⟩
        refine HK.out _ _ ⟨x0, x1, x2⟩ ?_
        clear HK
        iterate 9
          first
          | (refine m_take (v := ?_) rfl rfl ?_ ?_
             rotate_left
             · intro W hW
               go_simp
               with_reducible rfl
             simp only [Act.put, List.setIfInBounds_toArray, List.set_cons_zero, List.set_cons_succ])
          | (refine m_skip rfl rfl ?_
             simp only [Act.put, List.setIfInBounds_toArray, List.set_cons_zero, List.set_cons_succ])
        refine m_done ?_
        simp only [List.drop_succ_cons, List.drop_zero]
        go_wp2_with fail
        simp only [NP]
        go_wp2_with fail
        refine region_m [(0, false), (1, false), (2, false), (3, false), (4, false), (5, false), (6, false), (7, false), (8, false), (9, false), (10, false), (11, false), (12, false), (13, false), (14, false), (15, false), (16, false), (17, false), (18, false), (19, false), (20, false), (21, false), (22, false), (23, false), (24, false), (25, false), (26, false), (27, false), (28, false), (29, false), (30, false)] 31 (fun V => V.cell? ⟨b, o + (j + 1) * 3, none⟩ = some (.int .i64 R.p) ∧ V.cell? ⟨b, o + (j + 1) * 3 + 1, none⟩ = some (.int .i64 R.q) ∧ V.cell? ⟨b, o + (j + 1) * 3 + 2, none⟩ = some (.int .i64 R.l) ∧ V.cell? ⟨b, o + j * 3, none⟩ = some (.int .i64 R1.p) ∧ V.cell? ⟨b, o + j * 3 + 1, none⟩ = some (.int .i64 R1.q)) (by kernel_rfl) (by kernel_rfl) ⟨x0, x1, x2, y0, y1⟩ ?_
        iterate 31
          first
          | (refine m_take (v := ?_) rfl rfl ?_ ?_
             rotate_left
             · intro W hW
               go_simp
               with_reducible rfl
             simp only [Act.put, List.setIfInBounds_toArray, List.set_cons_zero, List.set_cons_succ])
          | (refine m_skip rfl rfl ?_
             simp only [Act.put, List.setIfInBounds_toArray, List.set_cons_zero, List.set_cons_succ])
        refine m_done ?_
        simp only [List.drop_succ_cons, List.drop_zero]
        go_wp2_with fail
        simp only [NP]
        go_wp2_with fail
        go_roundw
        case rel => exact ⟨j + 1 + 1, by omega, by go_num, HN.out, HB.out.drew.drew⟩
        case measure => simp [intOf]; omega
    · obtain rfl : k = rs.length := by omega
      clear hb hg
      go_wp2_with fail
      go_ret
      exact ⟨by rw [show goodRows rs = true from HG.out]; rfl, HB.out⟩

set_option maxHeartbeats 2000000 in
theorem rsame_calls (u v : Value) (rs : List Row) (w : World) (hu : Rows w u rs) (hv : Rows w v rs) :
    Calls Try.prog 16 #[u, v] w fun e w' => e = .returned (.bool true) ∧ Below w.heap.size w w' := by
  have HU := Lib.hid hu
  have HV := Lib.hid hv
  obtain ⟨a, cap, rfl, hle, hcap⟩ := Rd.slice hu
  obtain ⟨a', cap', rfl, hle', hcap'⟩ := Rd.slice hv
  clear hu hv
  go_enter Try.func16, Try.ntmps16
  go_wp2_with fail
  go_loopw [5] (fun i wr => ∃ k : Nat, k ≤ rs.length ∧ i = .int .i64 k ∧ Below w.heap.size w wr) (fun i _ => rs.length - (intOf i).toNat)
  case atStart => exact ⟨0, by omega, rfl, Below.refl _ _⟩
  case round =>
    obtain ⟨k, hk, rfl, hb⟩ := hrel
    have HB := Lib.hid hb
    by_cases hlt : k < rs.length
    · obtain ⟨b, o, rfl, c0, c1, c2⟩ := row_at HU.out k hlt
      obtain ⟨b', o', rfl, d0, d1, d2⟩ := row_at HV.out k hlt
      have x0 := cell_later hb c0
      have x1 := cell_later hb c1
      have x2 := cell_later hb c2
      have y0 := cell_later hb d0
      have y1 := cell_later hb d1
      have y2 := cell_later hb d2
      clear hb c0 c1 c2 d0 d1 d2
      generalize rs[k] = R at *
      go_wp2_with fail
      refine region_m [(0, false), (1, false), (2, false), (3, false), (4, false), (5, false), (6, false), (7, false), (8, false), (9, false), (10, false), (11, false), (12, false), (13, false), (14, false), (15, false), (16, false), (17, false), (18, false), (19, false), (20, false), (21, false), (22, false), (23, false), (24, false), (25, false), (26, false), (27, false), (28, false), (29, false), (30, false), (31, false), (32, false), (33, false), (34, false), (35, false), (36, false)] 37 (fun V => V.cell? ⟨b, o + k * 3, none⟩ = some (.int .i64 R.p) ∧ V.cell? ⟨b, o + k * 3 + 1, none⟩ = some (.int .i64 R.q) ∧ V.cell? ⟨b, o + k * 3 + 2, none⟩ = some (.int .i64 R.l) ∧ V.cell? ⟨b', o' + k * 3, none⟩ = some (.int .i64 R.p) ∧ V.cell? ⟨b', o' + k * 3 + 1, none⟩ = some (.int .i64 R.q) ∧ V.cell? ⟨b', o' + k * 3 + 2, none⟩ = some (.int .i64 R.l)) (by kernel_rfl) (by kernel_rfl) ⟨x0, x1, x2, y0, y1, y2⟩ ?_
      iterate 37
        first
        | (refine m_take (v := ?_) rfl rfl ?_ ?_
           rotate_left
           · intro W hW
             go_simp
             with_reducible rfl
           simp only [Act.put, List.setIfInBounds_toArray, List.set_cons_zero, List.set_cons_succ])
        | (refine m_skip rfl rfl ?_
           simp only [Act.put, List.setIfInBounds_toArray, List.set_cons_zero, List.set_cons_succ])
      refine m_done ?_
      simp only [List.drop_succ_cons, List.drop_zero]
      go_wp2_with fail
      simp only [NP]
      go_wp2_with fail
      go_roundw
      case rel => exact ⟨k + 1, by omega, by go_num, HB.out.drew⟩
      case measure => simp [intOf]; omega
    · obtain rfl : k = rs.length := by omega
      clear hb
      go_wp2_with fail
      go_ret
      exact ⟨rfl, HB.out⟩
end Go.Proofs.Ytbelhdnbmkemjaa
