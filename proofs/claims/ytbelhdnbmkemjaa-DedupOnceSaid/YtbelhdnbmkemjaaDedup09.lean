/- Layer 13: the document's Take walked. -/
import Derived.Test.YtbelhdnbmkemjaaDedup08
namespace Go.Proofs.Ytbelhdnbmkemjaa
open Go.RowKit Go.Shelf

/-- The row that grows, behind the box. -/
structure OutAt (X wr : World) (v : Value) (xs : List Row) : Prop where
  own : wr.ownsRow X.heap.size 42 3 v xs.length (flatF Row.cells xs)
  below : Below X.heap.size X wr

theorem OutAt.grow {X wr w1 w2 : World} {v v2 : Value} {xs : List Row} {r : Row} (h : OutAt X wr v xs) (h1 : w1 = wr.alloc (.cells #[.int .i64 r.p, .int .i64 r.q, .int .i64 r.l] 42)) (ho : w2.ownsRow X.heap.size 42 3 v2 (xs.length + 1) (flatF Row.cells xs ++ [.int .i64 r.p, .int .i64 r.q, .int .i64 r.l])) (hg : w1.grownBy w2 v.ownBlock) : OutAt X w2 v2 (xs ++ [r]) := by
  refine ⟨?_, ?_⟩
  · rw [flatF_append, flatF_one, List.length_append]; exact ho
  · have hb1 : Below X.heap.size X w1 := by rw [h1]; exact h.below.alloc h.below.size _
    exact hb1.grown hg hb1.size (fun j e => (World.ownsRow.lt h.own j e).1)
theorem OutAt.drew {X wr : World} {v : Value} {xs : List Row} (h : OutAt X wr v xs) : OutAt X wr.drew v xs := ⟨h.own, h.below.drew⟩
theorem OutAt.room {X wr : World} {v : Value} {xs : List Row} (h : OutAt X wr v xs) (o : Obj) : X.heap.size ≤ (wr.alloc o).heap.size := (h.below.alloc h.below.size o).size
theorem docTo_len (row : Row) (rs : List Row) (k : Nat) (d : Bool) : (docTo row rs k d).length ≤ rs.length + 1 := by
  have hp : ∀ xs : List Row, (putRowAt row xs).length ≤ xs.length + 1 := by
    intro xs
    induction xs with
    | nil => simp [putRowAt]
    | cons x xs ih =>
      unfold putRowAt
      split
      · simp only [List.length_cons]; omega
      · split <;> simp only [List.length_cons] <;> omega
  unfold docTo
  split
  · have := hp (rs.take k)
    rw [List.length_take] at this
    omega
  · rw [List.length_take]; omega

set_option maxHeartbeats 4000000 in
theorem rtake_calls (v : Value) (rs : List Row) (p q s : Int) (w : World) (hv : Rows w v rs) (ht : Table rs) (hok : ∀ r ∈ rs, r.ok) (hs : I64 s) :
    Calls Try.prog 15 #[v, .int .i64 p, .int .i64 q, .int .i64 s] w fun e w' => ∃ v', e = .returned (.tuple #[v', .int .i64 (takeCode rs p q s)]) ∧
      w'.ownsRow w.heap.size 42 3 v' (takeRows rs p q s).length (flatF Row.cells (takeRows rs p q s)) ∧ Below w.heap.size w w' := by
  have hlen := table_len ht
  have HV := Lib.hid hv
  have HT := Lib.hid ht
  have HOK := Lib.hid hok
  have HS := Lib.hid hs
  have H1 := Lib.hid (rows_one rs)
  have HN := Lib.hid (World.ownsRow_nil w w.heap.size 42 3)
  obtain ⟨a, cap, rfl, hle, hcap⟩ := Rd.slice hv
  clear hv ht hok hs
  go_enter Try.func15, Try.ntmps15
  go_wp2_with fail
  refine (rright_calls p q _).mono ?_
  rintro e w2 ⟨rfl, rfl⟩
  cases hrt : rightB p q with
  | false =>
    have HR := Lib.hid hrt
    clear hrt
    go_wp2_with (at_builtin; go_loud (refine app_list tyRows HN.out HV.out H1.out (by omega) (by omega) (Nat.le_refl _) rfl rfl rfl rfl ?_; intro v3 w3 hm3 hb3 hn3; obtain ⟨ga, gc, rfl⟩ := own_slice hm3))
    have hc : takeCode rs p q s = 0 := if_neg (by rw [HR.out]; simp)
    have hr : takeRows rs p q s = rs := if_neg (fun h => by rw [HR.out] at h; cases h.1)
    rw [hc, hr]
    simp only [Nat.zero_add, List.nil_append] at hm3
    exact bodyPost_ret (v := .tuple #[.slice ga rs.length gc, .int .i64 0]) (by simp [results, Try.results15, go_sem]) rfl ⟨_, rfl, hm3, (Below.refl _ _).grown hb3 (Nat.le_refl _) (by simp [Value.ownBlock])⟩
  | true =>
    have HR := Lib.hid hrt
    have hpq := right_nums hrt
    clear hrt
    go_wp2_with fail
    refine (rlook_calls (.slice a rs.length cap) rs p q s _ HV.out HOK.out HS.out).mono ?_
    rintro e w3 ⟨rfl, rfl⟩
    by_cases hlk : lookOf rs p q s = 1
    · have HLK := Lib.hid hlk
      rw [hlk]
      clear hlk
      go_wp2_with fail
      obtain ⟨X, hX⟩ : ∃ X, X = w3.alloc (.cells #[.int .i64 p, .int .i64 q, .int .i64 s] 42) := ⟨_, rfl⟩
      have hbX : Below w3.heap.size w3 X := by rw [hX]; exact (Below.refl _ _).alloc (Nat.le_refl _) _
      have x0 : X.cell? ⟨w3.heap.size, 0, none⟩ = some (.int .i64 p) := by rw [hX, World.cell?_alloc_at _ _ _ _ rfl]; rfl
      have x1 : X.cell? ⟨w3.heap.size, 1, none⟩ = some (.int .i64 q) := by rw [hX, World.cell?_alloc_at _ _ _ _ rfl]; rfl
      have x2 : X.cell? ⟨w3.heap.size, 2, none⟩ = some (.int .i64 s) := by rw [hX, World.cell?_alloc_at _ _ _ _ rfl]; rfl
      have HX := Lib.hid (And.intro x0 (And.intro x1 x2))
      have HBX := Lib.hid hbX
      rw [← hX]
      clear hX hbX x0 x1 x2
      have q1 : IntKind.i64.wrap (8 * p) = 8 * p := by rw [IntKind.wrap_i64]; omega
      have q2 : IntKind.i64.wrap (8 * p + q) = 8 * p + q := by rw [IntKind.wrap_i64]; omega
      have HPQ := Lib.hid hpq
      clear hpq
      go_loopw [10, 13, 14, 15] (fun ov dv iv _ wr => ∃ (k : Nat) (d : Bool), k ≤ rs.length ∧ iv = .int .i64 k ∧ dv = .bool d ∧ DocAt ⟨p, q, s⟩ rs k d ∧ OutAt X wr ov (docTo ⟨p, q, s⟩ rs k d)) (fun _ _ iv _ _ => rs.length - (intOf iv).toNat)
      case atStart => exact ⟨0, false, by omega, rfl, rfl, (doc_start _ _).1, by rw [(doc_start _ _).2]; exact ⟨World.ownsRow_nil _ _ _ _, Below.refl _ _⟩⟩
      case round =>
        obtain ⟨k, d, hk, rfl, rfl, hd, ho⟩ := hrel
        have hol := docTo_len ⟨p, q, s⟩ rs k d
        obtain ⟨ga, gc, rfl⟩ := own_slice ho.own
        have HO := Lib.hid ho
        have x0 := cell_later ho.below HX.out.1
        have x1 := cell_later ho.below HX.out.2.1
        have x2 := cell_later ho.below HX.out.2.2
        by_cases hlt : k < rs.length
        · have hway := doc_ways (row := ⟨p, q, s⟩) HT.out.1 hlt hd
          obtain ⟨b, o, rfl, c0, c1, c2⟩ := row_at HV.out k hlt
          have hb := HBX.out.trans (ho.below.mono HBX.out.size)
          have d0 := cell_later hb c0
          have d1 := cell_later hb c1
          have d2 := cell_later hb c2
          have hR := right_nums (HT.out.2 rs[k] (List.getElem_mem hlt)).1
          have HCC := Lib.hid (And.intro c0 (And.intro c1 c2))
          clear ho hb c0 c1 c2 hd
          generalize rs[k] = R at *
          have q3 : IntKind.i64.wrap (8 * R.p) = 8 * R.p := by rw [IntKind.wrap_i64]; omega
          have q4 : IntKind.i64.wrap (8 * R.p + R.q) = 8 * R.p + R.q := by rw [IntKind.wrap_i64]; omega
          clear hR
          generalize hL : docTo ⟨p, q, s⟩ rs k d = L at *
          clear hL
          rcases hway with ⟨rfl, k1, k2, k3⟩ | ⟨rfl, k1, k2, k3⟩ | ⟨rfl, k1, k2, k3⟩ | ⟨rfl, k1, k2, k3⟩
          · have j1 : decide (8 * p + q ≤ 8 * R.p + R.q) = false := decide_eq_false (by have := k1; simp only [Row.key] at this; omega)
            have j2 : (8 * R.p + R.q == 8 * p + q) = false := beq_eq_false_iff_ne.2 (by have := k1; simp only [Row.key] at this; omega)
            have K2 := Lib.hid k2
            have K3 := Lib.hid k3
            have HOD := Lib.hid HO.out.drew
            clear k1 k2 k3
            go_wp2_with fail
            refine region_m [(0, false), (1, false), (2, false), (3, false), (4, false), (5, false), (6, false), (7, false), (8, false), (9, false), (10, false), (11, false), (12, false)] 13 (fun V => V.cell? ⟨b, o + k * 3, none⟩ = some (.int .i64 R.p) ∧ V.cell? ⟨b, o + k * 3 + 1, none⟩ = some (.int .i64 R.q)) (by kernel_rfl) (by kernel_rfl) ⟨d0, d1⟩ ?_
            iterate 13
              refine m_take (v := ?_) rfl rfl ?_ ?_
              rotate_left
              · intro W hW
                go_simp
                with_reducible rfl
              simp only [Act.put, List.setIfInBounds_toArray, List.set_cons_zero, List.set_cons_succ]
            refine m_done ?_
            simp only [List.drop_succ_cons, List.drop_zero]
            go_wp2_with fail
            simp only [NP]
            go_wp2_with (at_builtin; go_loud (refine app_list tyRows (HOD.out.own.alloc _) (Rd.lit (n := 1) rfl (by omega)) (by simp [Value.oneCell']) (by omega) (by omega) (HOD.out.room _) rfl rfl rfl rfl ?_; intro v4 w4 hm4 hb4 hn4; obtain ⟨gb, gd, rfl⟩ := own_slice hm4))
            go_roundw
            case rel => exact ⟨k + 1, false, by omega, by go_num, rfl, K2.out, by rw [K3.out]; exact HOD.out.grow rfl hm4 hb4⟩
            case measure => simp [intOf]; omega
          · have j1 : decide (8 * p + q ≤ 8 * R.p + R.q) = true := decide_eq_true (by have := k1; simp only [Row.key] at this; omega)
            have j2 : (8 * R.p + R.q == 8 * p + q) = true := beq_iff_eq.2 (by have := k1; simp only [Row.key] at this; omega)
            have K2 := Lib.hid k2
            have K3 := Lib.hid k3
            have HOD := Lib.hid HO.out.drew
            clear k1 k2 k3
            go_wp2_with fail
            refine region_m [(0, false), (1, false), (2, false), (3, false), (4, false), (5, false), (6, false), (7, false), (8, false), (9, false), (10, false), (11, false), (12, false)] 13 (fun V => V.cell? ⟨b, o + k * 3, none⟩ = some (.int .i64 R.p) ∧ V.cell? ⟨b, o + k * 3 + 1, none⟩ = some (.int .i64 R.q)) (by kernel_rfl) (by kernel_rfl) ⟨d0, d1⟩ ?_
            iterate 13
              refine m_take (v := ?_) rfl rfl ?_ ?_
              rotate_left
              · intro W hW
                go_simp
                with_reducible rfl
              simp only [Act.put, List.setIfInBounds_toArray, List.set_cons_zero, List.set_cons_succ]
            refine m_done ?_
            simp only [List.drop_succ_cons, List.drop_zero]
            go_wp2_with fail
            simp only [NP]
            go_wp2_with (at_builtin; go_loud (refine app_list tyRows (HOD.out.own.alloc _) (Rd.lit (n := 1) rfl (by omega)) (by simp [Value.oneCell']) (by omega) (by omega) (HOD.out.room _) rfl rfl rfl rfl ?_; intro v4 w4 hm4 hb4 hn4; obtain ⟨gb, gd, rfl⟩ := own_slice hm4))
            go_roundw
            case rel => exact ⟨k + 1, true, by omega, by go_num, rfl, K2.out, by rw [K3.out]; exact HOD.out.grow (r := ⟨p, q, s⟩) rfl hm4 hb4⟩
            case measure => simp [intOf]; omega
          · have j1 : decide (8 * p + q ≤ 8 * R.p + R.q) = true := decide_eq_true (by have := k1; simp only [Row.key] at this; omega)
            have j2 : (8 * R.p + R.q == 8 * p + q) = false := beq_eq_false_iff_ne.2 (by have := k1; simp only [Row.key] at this; omega)
            have K2 := Lib.hid k2
            have K3 := Lib.hid k3
            have HOD := Lib.hid HO.out.drew
            clear k1 k2 k3
            go_wp2_with fail
            refine region_m [(0, false), (1, false), (2, false), (3, false), (4, false), (5, false), (6, false), (7, false), (8, false), (9, false), (10, false), (11, false), (12, false)] 13 (fun V => V.cell? ⟨b, o + k * 3, none⟩ = some (.int .i64 R.p) ∧ V.cell? ⟨b, o + k * 3 + 1, none⟩ = some (.int .i64 R.q)) (by kernel_rfl) (by kernel_rfl) ⟨d0, d1⟩ ?_
            iterate 13
              refine m_take (v := ?_) rfl rfl ?_ ?_
              rotate_left
              · intro W hW
                go_simp
                with_reducible rfl
              simp only [Act.put, List.setIfInBounds_toArray, List.set_cons_zero, List.set_cons_succ]
            refine m_done ?_
            simp only [List.drop_succ_cons, List.drop_zero]
            go_wp2_with fail
            simp only [NP]
            have hl5 : (L ++ [(⟨p, q, s⟩ : Row)]).length ≤ L.length + 1 := by rw [List.length_append]; exact Nat.le_refl _
            go_wp2_with first
              | (at_builtin; have _t := HOD; go_loud (refine app_list tyRows (HOD.out.own.alloc _) (Rd.lit (n := 1) rfl (by omega)) (by simp [Value.oneCell']) (by omega) (by omega) (HOD.out.room _) rfl rfl rfl rfl ?_; intro v4 w4 hm4 hb4 hn4; obtain ⟨gb, gd, rfl⟩ := own_slice hm4; have HO4 := Lib.hid (HOD.out.grow (r := ⟨p, q, s⟩) rfl hm4 hb4); have d0 := cell_later (HBX.out.trans (HO4.out.below.mono HBX.out.size)) HCC.out.1; have d1 := cell_later (HBX.out.trans (HO4.out.below.mono HBX.out.size)) HCC.out.2.1; have d2 := cell_later (HBX.out.trans (HO4.out.below.mono HBX.out.size)) HCC.out.2.2; clear hm4 hb4 hn4 HOD))
              | (at_builtin; go_loud (refine app_list tyRows (HO4.out.own.alloc _) (Rd.lit (n := 1) rfl (by omega)) (by simp [Value.oneCell']) (by omega) (by omega) (HO4.out.room _) rfl rfl rfl rfl ?_; intro v5 w5 hm5 hb5 hn5; obtain ⟨gb5, gd5, rfl⟩ := own_slice hm5))
            go_roundw
            case rel => exact ⟨k + 1, true, by omega, by go_num, rfl, K2.out, by
              have h5 := HO4.out.grow rfl hm5 hb5
              rw [List.length_append] at h5
              rw [K3.out]
              exact h5⟩
            case measure => simp [intOf]; omega
          · have j1 : decide (8 * p + q ≤ 8 * R.p + R.q) = true := decide_eq_true (by have := k1; simp only [Row.key] at this; omega)
            have j2 : (8 * R.p + R.q == 8 * p + q) = false := beq_eq_false_iff_ne.2 (by have := k1; simp only [Row.key] at this; omega)
            have K2 := Lib.hid k2
            have K3 := Lib.hid k3
            have HOD := Lib.hid HO.out.drew
            clear k1 k2 k3
            go_wp2_with fail
            refine region_m [(0, false), (1, false), (2, false), (3, false), (4, false), (5, false), (6, false), (7, false), (8, false), (9, false), (10, false), (11, false), (12, false)] 13 (fun V => V.cell? ⟨b, o + k * 3, none⟩ = some (.int .i64 R.p) ∧ V.cell? ⟨b, o + k * 3 + 1, none⟩ = some (.int .i64 R.q)) (by kernel_rfl) (by kernel_rfl) ⟨d0, d1⟩ ?_
            iterate 13
              refine m_take (v := ?_) rfl rfl ?_ ?_
              rotate_left
              · intro W hW
                go_simp
                with_reducible rfl
              simp only [Act.put, List.setIfInBounds_toArray, List.set_cons_zero, List.set_cons_succ]
            refine m_done ?_
            simp only [List.drop_succ_cons, List.drop_zero]
            go_wp2_with fail
            simp only [NP]
            go_wp2_with (at_builtin; go_loud (refine app_list tyRows (HOD.out.own.alloc _) (Rd.lit (n := 1) rfl (by omega)) (by simp [Value.oneCell']) (by omega) (by omega) (HOD.out.room _) rfl rfl rfl rfl ?_; intro v4 w4 hm4 hb4 hn4; obtain ⟨gb, gd, rfl⟩ := own_slice hm4))
            go_roundw
            case rel => exact ⟨k + 1, true, by omega, by go_num, rfl, K2.out, by rw [K3.out]; exact HOD.out.grow rfl hm4 hb4⟩
            case measure => simp [intOf]; omega
        · obtain rfl : k = rs.length := by omega
          have hend := doc_end hd
          cases d with
          | true =>
            have HE := Lib.hid hend
            clear hend hd ho
            go_wp2_with fail
            have hc : takeCode rs p q s = 1 := (if_pos HR.out).trans HLK.out
            have hr : takeRows rs p q s = docTo ⟨p, q, s⟩ rs rs.length true := (if_pos ⟨HR.out, HLK.out⟩).trans (by rw [← HE.out]; simp)
            rw [hc, hr]
            exact bodyPost_ret (v := .tuple #[.slice ga (docTo ⟨p, q, s⟩ rs rs.length true).length gc, .int .i64 1]) (by simp [results, Try.results15, go_sem]) rfl ⟨_, rfl, ownsRow_mono HO.out.own HBX.out.size, HBX.out.trans (HO.out.below.mono HBX.out.size)⟩
          | false =>
            have HE := Lib.hid hend
            clear hend hd ho
            go_wp2_with (at_builtin; go_loud (refine app_list tyRows (HO.out.own.alloc _) (Rd.lit (n := 1) rfl (by omega)) (by simp [Value.oneCell']) (by omega) (by omega) (HO.out.room _) rfl rfl rfl rfl ?_; intro v4 w4 hm4 hb4 hn4; obtain ⟨gb, gd, rfl⟩ := own_slice hm4))
            have hc : takeCode rs p q s = 1 := (if_pos HR.out).trans HLK.out
            have hr : takeRows rs p q s = docTo ⟨p, q, s⟩ rs rs.length false ++ [⟨p, q, s⟩] := (if_pos ⟨HR.out, HLK.out⟩).trans (by rw [← HE.out]; simp)
            have ho4 := HO.out.grow (r := ⟨p, q, s⟩) rfl hm4 hb4
            have hl4 : (docTo ⟨p, q, s⟩ rs rs.length false ++ [(⟨p, q, s⟩ : Row)]).length = (docTo ⟨p, q, s⟩ rs rs.length false).length + 1 := by rw [List.length_append]; rfl
            rw [hc, hr]
            exact bodyPost_ret (v := .tuple #[.slice gb ((docTo ⟨p, q, s⟩ rs rs.length false).length + 1) gd, .int .i64 1]) (by simp [results, Try.results15, go_sem]) rfl ⟨_, rfl, ownsRow_mono ho4.own HBX.out.size, HBX.out.trans (ho4.below.mono HBX.out.size)⟩
    · go_wp2_with (at_builtin; go_loud (refine app_list tyRows HN.out HV.out H1.out (by omega) (by omega) (Nat.le_refl _) rfl rfl rfl rfl ?_; intro v3 w3 hm3 hb3 hn3; obtain ⟨ga, gc, rfl⟩ := own_slice hm3))
      have hc : takeCode rs p q s = lookOf rs p q s := if_pos HR.out
      have hr : takeRows rs p q s = rs := if_neg (fun h => hlk h.2)
      rw [hc, hr]
      simp only [Nat.zero_add, List.nil_append] at hm3
      exact bodyPost_ret (v := .tuple #[.slice ga rs.length gc, .int .i64 _]) (by simp [results, Try.results15, go_sem]) rfl ⟨_, rfl, hm3, (Below.refl _ _).grown hb3 (Nat.le_refl _) (by simp [Value.ownBlock])⟩
end Go.Proofs.Ytbelhdnbmkemjaa
