/- Layer 13: DedupApart walked. -/
import Derived.Test.YtbelhdnbmkemjaaDedup12
namespace Go.Proofs.Ytbelhdnbmkemjaa
open Go.RowKit Go.Shelf

theorem last_apart {rs : List Row} (h : Table rs) (p q s a b : Int) (hne : ¬ (p = a ∧ q = b)) : lastOf (takeRows rs p q s) a b = lastOf rs a b := by
  unfold takeRows
  split
  · rename_i hc
    exact last_put_other h p q s a b hc.1 hne
  · rfl
theorem look_apart {rs : List Row} (h : Table rs) (p q s a b n : Int) (hne : ¬ (p = a ∧ q = b)) : lookOf (takeRows rs p q s) a b n = lookOf rs a b n := by
  unfold lookOf
  rw [last_apart h p q s a b hne]

theorem eqArr (a b c d : Int) (w : World) : (Op.equalIn 10000 23 (.agg #[.int .i64 a, .int .i64 b]) (.agg #[.int .i64 c, .int .i64 d])).run Try.prog w = .ok (a == c && b == d) w := by
  have u3 := Try.underlying3
  have a3 := Try.isAgg3
  have z3 := Try.sizeOf3
  rw [show (10000 : Nat) = 9999 + 1 from rfl, Op.equalIn]
  simp only [Sem.run_bind, run_underlying Try.underlying23, Result.andThen_ok]
  simp only [Std.Legacy.Range.forIn_eq_forIn_range', Std.Legacy.Range.size, Nat.sub_zero, Nat.add_sub_cancel, Nat.div_one, List.range'_succ, List.range'_zero, List.forIn_cons, List.forIn_nil]
  go_simp
  by_cases h1 : a = c <;> by_cases h2 : b = d <;> simp [h1, h2]

set_option maxHeartbeats 2000000 in
theorem apart_core (v : Value) (rs : List Row) (p q a b s : Int) (w : World) (hv : Rows w v rs) (hok : ∀ r ∈ rs, r.ok) (hp : I64 p) (hq : I64 q) (hs : I64 s) :
    Calls Try.prog 3 #[v, .agg #[.int .i64 p, .int .i64 q], .agg #[.int .i64 a, .int .i64 b, .int .i64 s]] w fun e w' => e = .returned (.bool true) ∧ Below w.heap.size w w' := by
  obtain ⟨X, hX⟩ : ∃ X, X = (w.alloc (.cells #[.int .i64 p, .int .i64 q] 23)).alloc (.cells #[.int .i64 a, .int .i64 b, .int .i64 s] 25) := ⟨_, rfl⟩
  have hbX : Below w.heap.size w X := by rw [hX]; exact ((Below.refl _ _).alloc (Nat.le_refl _) _).alloc (by simp) _
  have x0 : X.cell? ⟨w.heap.size, 0, none⟩ = some (.int .i64 p) := by rw [hX, World.cell?_alloc_past _ _ _ (by simp), World.cell?_alloc_at _ _ _ _ rfl]; rfl
  have x1 : X.cell? ⟨w.heap.size, 1, none⟩ = some (.int .i64 q) := by rw [hX, World.cell?_alloc_past _ _ _ (by simp), World.cell?_alloc_at _ _ _ _ rfl]; rfl
  have x2 : X.cell? ⟨w.heap.size + 1, 0, none⟩ = some (.int .i64 a) := by rw [hX, World.cell?_alloc_at _ _ _ _ (by simp)]; rfl
  have x3 : X.cell? ⟨w.heap.size + 1, 1, none⟩ = some (.int .i64 b) := by rw [hX, World.cell?_alloc_at _ _ _ _ (by simp)]; rfl
  have x4 : X.cell? ⟨w.heap.size + 1, 2, none⟩ = some (.int .i64 s) := by rw [hX, World.cell?_alloc_at _ _ _ _ (by simp)]; rfl
  have hXs : X.heap.size = w.heap.size + 2 := by rw [hX]; simp
  have HV := Lib.hid hv
  have HOK := Lib.hid hok
  have HS := Lib.hid hs
  have HP := Lib.hid hp
  have HQ := Lib.hid hq
  have HBX := Lib.hid hbX
  obtain ⟨c, cap, rfl, -, -⟩ := Rd.slice hv
  clear hv hok hs hp hq hbX
  go_enter Try.func3, Try.ntmps3
  go_wp2_with fail
  rw [← hX]
  clear hX
  refine (known_calls _).mono ?_
  rintro e w1 ⟨rfl, hb1⟩
  have HB1 := Lib.hid (HBX.out.trans (hb1.mono HBX.out.size))
  have hsz1 : w.heap.size + 2 ≤ w1.heap.size := by have := hb1.size; omega
  clear hXs
  have HSZ := Lib.hid hsz1
  clear hsz1
  have y0 := cell_later hb1 x0
  have y1 := cell_later hb1 x1
  have y2 := cell_later hb1 x2
  have y3 := cell_later hb1 x3
  have y4 := cell_later hb1 x4
  clear hb1 x0 x1 x2 x3 x4
  go_wp2_with fail
  refine region_m [(0, false), (1, false), (2, false), (3, false), (4, true), (5, true), (6, false)] 7 (fun V => V.cell? ⟨w.heap.size + 1, 0, none⟩ = some (.int .i64 a) ∧ V.cell? ⟨w.heap.size + 1, 1, none⟩ = some (.int .i64 b) ∧ V.cell? ⟨w.heap.size + 1, 2, none⟩ = some (.int .i64 s)) (by kernel_rfl) (by kernel_rfl) ⟨y2, y3, y4⟩ ?_
  iterate 4
    refine m_take (v := ?_) rfl rfl ?_ ?_
    rotate_left
    · intro W hW
      go_simp
      with_reducible rfl
    simp only [Act.put, List.setIfInBounds_toArray, List.set_cons_zero, List.set_cons_succ]
  refine m_loud rfl (fun K hK => ?_)
  have HK := Lib.hid hK
  clear hK
  go_simp
  obtain ⟨V1, hV1⟩ : ∃ V1, V1 = (w1.alloc (.cells #[.int .i64 0, .int .i64 0] 23)).drew := ⟨_, rfl⟩
  have hb2 : Below w1.heap.size w1 V1 := by rw [hV1]; exact ((Below.refl _ _).alloc (Nat.le_refl _) _).drew
  have n0 : V1.cell? ⟨w1.heap.size, 0, none⟩ = some (.int .i64 0) := by rw [hV1, World.cell?_drew, World.cell?_alloc_at _ _ _ _ rfl]; rfl
  have n1 : V1.cell? ⟨w1.heap.size, 1, none⟩ = some (.int .i64 0) := by rw [hV1, World.cell?_drew, World.cell?_alloc_at _ _ _ _ rfl]; rfl
  have f0 : V1.frozen? ⟨w1.heap.size, 0, none⟩ = false := by rw [hV1]; unfold World.frozen? World.drew; rw [heap_alloc_new]; simp
  have f1 : V1.frozen? ⟨w1.heap.size, 1, none⟩ = false := by rw [hV1]; unfold World.frozen? World.drew; rw [heap_alloc_new]; simp
  rw [← hV1]
  clear hV1
  have HBV := Lib.hid (HB1.out.trans (hb2.mono HB1.out.size))
  refine HK.out _ _ ⟨cell_later hb2 y2, cell_later hb2 y3, cell_later hb2 y4⟩ ?_
  clear HK
  have z0 := cell_later hb2 y0
  have z1 := cell_later hb2 y1
  have z2 := cell_later hb2 y2
  have z3 := cell_later hb2 y3
  have z4 := cell_later hb2 y4
  clear hb2 y0 y1 y2 y3 y4
  refine m_loud rfl (fun K hK => ?_)
  have HK := Lib.hid hK
  clear hK
  go_simp
  obtain ⟨V2, hV2⟩ : ∃ V2, V2 = (V1.setCell ⟨w1.heap.size, 0, none⟩ (.int .i64 a)).setCell ⟨w1.heap.size, 1, none⟩ (.int .i64 b) := ⟨_, rfl⟩
  have keep : ∀ (bb o : Nat) (u : Value), bb < w.heap.size + 2 → V1.cell? ⟨bb, o, none⟩ = some u → V2.cell? ⟨bb, o, none⟩ = some u := fun bb o u h e => by
    have := HSZ.out
    rw [hV2, cell_set_block _ (by omega), cell_set_block _ (by omega)]
    exact e
  have m0 : V2.cell? ⟨w1.heap.size, 0, none⟩ = some (.int .i64 a) := by
    rw [hV2, World.cell?_setCell_other _ _ _ _ (by simp), cell_set_same _ n0]
  have m1 : V2.cell? ⟨w1.heap.size, 1, none⟩ = some (.int .i64 b) := by
    rw [hV2]
    exact cell_set_same (u := .int .i64 0) _ (by rw [World.cell?_setCell_other _ _ _ _ (by simp)]; exact n1)
  have y0 := keep _ _ _ (by omega) z0
  have y1 := keep _ _ _ (by omega) z1
  have y2 := keep _ _ _ (by omega) z2
  have y3 := keep _ _ _ (by omega) z3
  have y4 := keep _ _ _ (by omega) z4
  have HB2 := Lib.hid (show Below w.heap.size w V2 by rw [hV2]; exact (HBV.out.setCell (p := ⟨w1.heap.size, 0, none⟩) (by have := HSZ.out; show w.heap.size ≤ w1.heap.size; omega) _).setCell (p := ⟨w1.heap.size, 1, none⟩) (by have := HSZ.out; show w.heap.size ≤ w1.heap.size; omega) _)
  rw [← hV2]
  clear hV2 n0 n1 f0 f1 z0 z1 z2 z3 z4 keep HBV
  refine HK.out _ _ ⟨y2, y3, y4⟩ ?_
  clear HK
  clear y2 y3 y4
  generalize w1.heap.size = ob at *
  iterate 1
    refine m_take (v := ?_) rfl rfl ?_ ?_
    rotate_left
    · intro W hW
      go_simp
      with_reducible rfl
    simp only [Act.put, List.setIfInBounds_toArray, List.set_cons_zero, List.set_cons_succ]
  refine m_done ?_
  simp only [List.drop_succ_cons, List.drop_zero]
  go_wp2_with fail
  simp only [NP]
  go_wp2_with fail
  refine (rdgood_calls _ rs _ (HV.out.below HB2.out (Nat.le_refl _))).mono ?_
  rintro e w3 ⟨rfl, hb3⟩
  have HB3 := Lib.hid (HB2.out.trans (hb3.mono HB2.out.size))
  have z0 := cell_later hb3 y0
  have z1 := cell_later hb3 y1
  have k0 := cell_later hb3 m0
  have k1 := cell_later hb3 m1
  clear hb3 y0 y1 m0 m1
  cases hg : goodRows rs with
  | false =>
    clear hg
    go_wp2_with fail
    go_ret
    exact ⟨rfl, HB3.out⟩
  | true =>
    have HT := Lib.hid ((table_good rs).1 hg)
    clear hg
    have heqA : ∀ w, (Op.equalIn 10000 23 (.agg #[.int .i64 p, .int .i64 q]) (.agg #[.int .i64 a, .int .i64 b])).run Try.prog w = .ok (p == a && q == b) w := eqArr p q a b
    cases heq : (p == a && q == b) with
    | true =>
      rw [heq] at heqA
      clear heq
      go_wp2_with fail
      go_ret
      exact ⟨rfl, HB3.out⟩
    | false =>
      rw [heq] at heqA
      have HNE := Lib.hid (show ¬ (p = a ∧ q = b) from fun ⟨h1, h2⟩ => by rw [h1, h2] at heq; simp at heq)
      clear heq
      go_wp2_with fail
      refine (take_calls _ rs p q s _ (HV.out.below HB3.out (Nat.le_refl _)) HT.out HOK.out HS.out).mono ?_
      rintro e w4 ⟨v4, rfl, ho4, hb4⟩
      have HB4 := Lib.hid (HB3.out.trans (hb4.mono HB3.out.size))
      have j0 := cell_later hb4 k0
      have j1 := cell_later hb4 k1
      have HR4 := Lib.hid (Rows.of_own ho4)
      obtain ⟨a4, c4, rfl⟩ := own_slice ho4
      have HL := Lib.hid (last_apart HT.out p q s a b HNE.out)
      have HLK := Lib.hid (look_apart HT.out p q s a b s HNE.out)
      have HOK4 := Lib.hid (ok_take HOK.out p q s HP.out HQ.out HS.out)
      clear hb4 k0 k1 z0 z1 ho4 heqA
      generalize takeRows rs p q s = T at *
      generalize takeCode rs p q s = C at *
      go_wp2_with fail
      refine region_m [(0, false), (1, false), (2, false), (3, false), (4, false), (6, false), (7, false), (8, false), (9, false), (10, false), (5, true), (11, true), (12, false), (13, false), (14, false), (15, false), (16, false), (17, false), (18, false), (19, false), (21, false), (22, false), (23, false), (24, false), (25, false), (26, false), (20, true), (27, true), (28, false), (29, false), (30, false)] 31 (fun V => V.cell? ⟨ob, 0, none⟩ = some (.int .i64 a) ∧ V.cell? ⟨ob, 1, none⟩ = some (.int .i64 b)) (by kernel_rfl) (by kernel_rfl) ⟨j0, j1⟩ ?_
      iterate 10
        refine m_take (v := ?_) rfl rfl ?_ ?_
        rotate_left
        · intro W hW
          go_simp
          with_reducible rfl
        simp only [Act.put, List.setIfInBounds_toArray, List.set_cons_zero, List.set_cons_succ]
      refine m_loud rfl (fun K hK => ?_)
      have HK := Lib.hid hK
      clear hK
      go_simp
      refine (last_calls _ T a b _ (show Rows w4.drew _ T from HR4.out)).mono ?_
      rintro e w5 ⟨rfl, hb5⟩
      have hb5 : Below w4.heap.size w4 w5 := ((Below.refl w4.heap.size w4).drew).trans hb5
      have HB5 := Lib.hid (HB4.out.trans (hb5.mono HB4.out.size))
      have HR5 := Lib.hid (HR4.out.below hb5 (Nat.le_refl _))
      refine HK.out _ _ ⟨cell_later hb5 j0, cell_later hb5 j1⟩ ?_
      clear HK
      have i0 := cell_later hb5 j0
      have i1 := cell_later hb5 j1
      clear hb5 j0 j1
      refine m_loud rfl (fun K hK => ?_)
      have HK := Lib.hid hK
      clear hK
      go_simp
      refine (last_calls _ rs a b _ (HV.out.below HB5.out (Nat.le_refl _))).mono ?_
      rintro e w6 ⟨rfl, hb6⟩
      have HB6 := Lib.hid (HB5.out.trans (hb6.mono HB5.out.size))
      have HR6 := Lib.hid (HR5.out.below hb6 (Nat.le_refl _))
      refine HK.out _ _ ⟨cell_later hb6 i0, cell_later hb6 i1⟩ ?_
      clear HK
      have j0 := cell_later hb6 i0
      have j1 := cell_later hb6 i1
      clear hb6 i0 i1
      rw [HL.out]
      generalize lastOf rs a b = L
      iterate 14
        first
        | (refine m_take (v := ?_) rfl rfl ?_ ?_
           rotate_left
           · intro W hW
             go_simp
             with_reducible rfl
           simp only [Act.put, List.setIfInBounds_toArray, List.set_cons_zero, List.set_cons_succ])
        | (refine m_skip rfl rfl ?_
           simp only [Act.put, List.setIfInBounds_toArray, List.set_cons_zero, List.set_cons_succ])
      refine m_loud rfl (fun K hK => ?_)
      have HK := Lib.hid hK
      clear hK
      go_simp
      refine (look_calls _ T a b s _ HR6.out HOK4.out HS.out).mono ?_
      rintro e w7 ⟨rfl, hb7⟩
      have HB7 := Lib.hid (HB6.out.trans (hb7.mono HB6.out.size))
      refine HK.out _ _ ⟨cell_later hb7 j0, cell_later hb7 j1⟩ ?_
      clear HK
      have i0 := cell_later hb7 j0
      have i1 := cell_later hb7 j1
      clear hb7 j0 j1
      refine m_loud rfl (fun K hK => ?_)
      have HK := Lib.hid hK
      clear hK
      go_simp
      refine (look_calls _ rs a b s _ (HV.out.below HB7.out (Nat.le_refl _)) HOK.out HS.out).mono ?_
      rintro e w8 ⟨rfl, hb8⟩
      have HB8 := Lib.hid (HB7.out.trans (hb8.mono HB7.out.size))
      refine HK.out _ _ ⟨cell_later hb8 i0, cell_later hb8 i1⟩ ?_
      clear HK
      clear hb8 i0 i1
      rw [HLK.out]
      generalize lookOf rs a b s = L2
      iterate 3
        first
        | (refine m_take (v := ?_) rfl rfl ?_ ?_
           rotate_left
           · intro W hW
             go_simp
             with_reducible rfl
           simp only [Act.put, List.setIfInBounds_toArray, List.set_cons_zero, List.set_cons_succ])
        | (refine m_skip rfl rfl ?_
           simp only [Act.put, List.setIfInBounds_toArray, List.set_cons_zero, List.set_cons_succ])
      refine m_done ?_
      simp only [List.drop_succ_cons, List.drop_zero]
      go_wp2_with fail
      simp only [NP]
      go_wp2_with fail
      go_ret
      exact ⟨rfl, HB8.out⟩
end Go.Proofs.Ytbelhdnbmkemjaa
