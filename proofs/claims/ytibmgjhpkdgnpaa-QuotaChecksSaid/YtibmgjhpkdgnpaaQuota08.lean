/- Layer 15: QuotaChecks walked. -/
import Derived.Test.YtibmgjhpkdgnpaaQuota07
namespace Go.Proofs.Ytibmgjhpkdgnpaa
open Go.RowKit Go.Shelf

set_option maxHeartbeats 8000000 in
set_option maxRecDepth 100000 in
theorem checks_core (rows opn batches ops v : Value) (C : Nat → Int) (sealed decided keep : Int) (deployed : Bool) (rs : List Row) (os way : List Rec) (r : Rec) (w : World)
    (hrs : Rows w rows rs) (hok : ∀ x ∈ rs, x.ok) (ho : Recs w opn os) (hv : Recs w v way) (hr : r.ok) (hlen : os.length ≤ 140737488351232) :
    Calls Try.prog 3 #[.agg (ledL rows opn batches ops C sealed decided keep deployed).toArray, v, .agg (Rec.cells r).toArray] w fun e w' => e = .returned (.bool true) ∧ Below w.heap.size w w' := by
  obtain ⟨LL, hLL⟩ : ∃ LL, LL = ledL rows opn batches ops C sealed decided keep deployed := ⟨_, rfl⟩
  rw [← hLL]
  obtain ⟨X, hX⟩ : ∃ X, X = (w.alloc (.cells LL.toArray 30)).alloc (.cells (Rec.cells r).toArray 33) := ⟨_, rfl⟩
  obtain ⟨hXs, hbX, hlb⟩ := law_boxes w X _ _ LL (Rec.cells r) hX
  have HLL := Lib.hid hLL
  have hlen16 : LL.length = 16 := by rw [hLL]; rfl
  have HL16 := Lib.hid hlen16
  have HRS := Lib.hid (hrs.below hbX (Nat.le_refl _) : Rows X rows rs)
  have HO := Lib.hid (ho.below hbX (Nat.le_refl _) : Recs X opn os)
  have HV := Lib.hid (hv.below hbX (Nat.le_refl _) : Recs X v way)
  have HOK := Lib.hid hok
  have HR := Lib.hid hr
  obtain ⟨ra, rcap, rfl, -, -⟩ := Rd.slice hrs
  obtain ⟨oa, ocap, rfl, -, -⟩ := Rd.slice ho
  obtain ⟨va, vcap, rfl, hvc1, hvc2⟩ := Rd.slice hv
  have HX := Lib.hid hX
  have HBX := Lib.hid hbX
  have HLB := Lib.hid hlb
  clear hrs ho hv hok hX hbX hlb hr hXs hLL hlen16
  go_enter Try.func3, Try.ntmps3
  go_wp2_with fail
  rw [← HX.out]
  refine (known_calls X).mono ?_
  rintro e w1 ⟨rfl, hb1⟩
  have HB1 := Lib.hid hb1
  clear hb1
  -- the way, cut
  have hcut : ∃ n : Nat, n ≤ 600 ∧ n ≤ way.length ∧ ((way.length ≤ 600 ∧ n = way.length) ∨ (600 < way.length ∧ n = 600)) := by
    rcases Nat.lt_or_ge 600 way.length with h | h
    · exact ⟨600, by omega, by omega, .inr ⟨h, rfl⟩⟩
    · exact ⟨way.length, by omega, by omega, .inl ⟨h, rfl⟩⟩
  obtain ⟨n, hn1, hn2, hway⟩ := hcut
  have hv' := recs_take HV.out rfl hn2
  have hwl : (way.take n).length = n := by rw [List.length_take]; omega
  generalize hW : way.take n = wy at *
  have HV' := Lib.hid hv'
  have HWL := Lib.hid hwl
  clear hv' hwl hW HV
  rcases hway with ⟨q1, q2⟩ | ⟨q1, q2⟩
  all_goals
    have hq : (600 : Int) < way.length ∨ ¬ (600 : Int) < way.length := by omega
    subst q2
    go_wp2_with fail
    have hwa := Nat.le_of_eq HWL.out
    have hwb := Nat.le_of_eq HWL.out.symm
    go_loopw [7, 8] (fun nv i wr => ∃ k : Nat, k ≤ os.length ∧ i = .int .i64 k ∧ nv = .int .i64 (mine (os.take k) r.p) ∧ Below X.heap.size X wr) (fun _ i _ => os.length - (intOf i).toNat)
    case atStart => exact ⟨0, by omega, rfl, rfl, HB1.out⟩
    case round =>
      obtain ⟨k, hk, rfl, rfl, hb⟩ := hrel
      have HB := Lib.hid hb
      have hlb := HLB.out.below hb
      obtain ⟨-, -, x9, xr⟩ := hlb.led HLL.out
      have z0 := xr.c0
      have hml := mine_le os r.p k
      by_cases hkl : k < os.length
      · have hmt := mine_take os r.p k hkl
        obtain ⟨b2, o2, hva, c0, -, -, -, -⟩ := rec_at HO.out k hkl
        subst hva
        have d0 := cell_later hb c0
        generalize os[k] = o at *
        have hway2 : ((o.p == r.p) = true ∧ mine (os.take (k + 1)) r.p = mine (os.take k) r.p + 1) ∨ ((o.p == r.p) = false ∧ mine (os.take (k + 1)) r.p = mine (os.take k) r.p) := by
          by_cases h : o.p = r.p
          · left; exact ⟨beq_iff_eq.2 h, by rw [hmt, if_pos h]⟩
          · right; exact ⟨beq_eq_false_iff_ne.2 h, by rw [hmt, if_neg h]; omega⟩
        clear hb c0 xr hmt hlb
        generalize mine (os.take k) r.p = M at *
        rcases hway2 with ⟨j1, hm⟩ | ⟨j1, hm⟩
        all_goals
          have HMT := Lib.hid hm
          clear hm
          go_wp2_with fail
          refine region_m [(0, false), (1, false), (2, false), (3, false), (4, false), (5, false), (6, false), (7, false), (8, false)] 9 (fun W => (W.cell? ⟨w.heap.size, 9, none⟩ = some (.slice (some ⟨b2, o2, none⟩) os.length ocap) ∧ W.cell? ⟨b2, o2 + k * 5, none⟩ = some (.int .i64 o.p)) ∧ W.cell? ⟨w.heap.size + 1, 0, none⟩ = some (.int .i64 r.p)) (by kernel_rfl) (by kernel_rfl) ⟨⟨x9, d0⟩, z0⟩ ?_
          iterate 9
            first
            | (refine m_take (v := ?_) rfl rfl ?_ ?_
               rotate_left
               · intro W hW
                 go_simp
                 with_reducible rfl
               simp only [Act.put, List.setIfInBounds_toArray, List.set_cons_zero, List.set_cons_succ])
            | (refine m_skip rfl rfl ?_
               simp only [Act.put, List.setIfInBounds_toArray, List.set_cons_zero, List.set_cons_succ])
          refine m_done ?_
          simp only [List.drop_succ_cons, List.drop_zero]
          go_wp2_with fail
          simp only [NP]
          go_wp2_with fail
          go_roundw
          case rel => exact ⟨k + 1, by omega, by go_num, by rw [HMT.out] <;> go_num, HB.out.drew⟩
          case measure => simp [intOf] <;> omega
      · obtain rfl : k = os.length := by omega
        have hms : mine (os.take os.length) r.p = mine os r.p := by rw [List.take_length]
        rw [hms] at hml ⊢
        have HLW := Lib.hid hlb
        clear hms hb xr z0
        go_wp2_with fail
        refine region_m [(0, false), (1, false), (2, false), (4, false), (5, false), (6, false), (3, true), (7, true), (8, false), (9, false), (10, false), (11, false), (12, false), (14, false), (13, true), (15, false), (16, false)] 17 (fun W => LawBox W w.heap.size LL (Rec.cells r)) (by kernel_rfl) (by kernel_rfl) hlb ?_
        clear hlb x9
        refine m_loadk rfl rfl rfl rfl (fun W hW => hW.1) Try.underlying30 rfl (by rw [HL16.out]; kernel_rfl) ?_
        simp only [Act.put, List.setIfInBounds_toArray, List.set_cons_zero, List.set_cons_succ]
        iterate 1
          refine m_take (v := ?_) rfl rfl ?_ ?_
          rotate_left
          · intro W hW
            go_simp
            with_reducible rfl
          simp only [Act.put, List.setIfInBounds_toArray, List.set_cons_zero, List.set_cons_succ]
        refine m_loadk rfl rfl rfl rfl (fun W hW => hW.2) Try.underlying33 rfl (by kernel_rfl) ?_
        simp only [Act.put, List.setIfInBounds_toArray, List.set_cons_zero, List.set_cons_succ]
        refine m_loadk rfl rfl rfl rfl (fun W hW => hW.1) Try.underlying30 rfl (by rw [HL16.out]; kernel_rfl) ?_
        simp only [Act.put, List.setIfInBounds_toArray, List.set_cons_zero, List.set_cons_succ]
        iterate 1
          refine m_take (v := ?_) rfl rfl ?_ ?_
          rotate_left
          · intro W hW
            go_simp
            with_reducible rfl
          simp only [Act.put, List.setIfInBounds_toArray, List.set_cons_zero, List.set_cons_succ]
        refine m_loadk rfl rfl rfl rfl (fun W hW => hW.2) Try.underlying33 rfl (by kernel_rfl) ?_
        simp only [Act.put, List.setIfInBounds_toArray, List.set_cons_zero, List.set_cons_succ]
        refine m_loud rfl (fun K hK => ?_)
        have HK := Lib.hid hK
        clear hK
        go_simp
        have hc1 := check_calls (.slice ra rs.length rcap) (.slice oa os.length ocap) batches ops _ C sealed decided keep deployed rs os wy r _ (HRS.out.below HB.out.drew (Nat.le_refl _)) HOK.out (HO.out.below HB.out.drew (Nat.le_refl _)) (HV'.out.below HB.out.drew (Nat.le_refl _)) HR.out (by omega)
        change Calls _ _ #[.agg (ledL _ _ _ _ _ _ _ _ _).toArray, _, .agg (Rec.cells r).toArray] _ _ at hc1
        rw [← HLL.out] at hc1
        refine hc1.mono ?_
        clear hc1
        rintro e w7 ⟨rfl, hb7⟩
        have hb7 : Below wr.heap.size wr w7 := ((Below.refl wr.heap.size wr).drew).trans hb7
        have hcl7 := HLW.out.below hb7
        have HB7 := Lib.hid (HB.out.trans (hb7.mono HB.out.size))
        refine HK.out _ _ hcl7 ?_
        clear HK
        clear hb7
        refine m_loud rfl (fun K hK => ?_)
        have HK := Lib.hid hK
        clear hK
        go_simp
        have hc2 := rcheck_calls (.slice ra rs.length rcap) (.slice oa os.length ocap) batches ops _ C sealed decided keep deployed rs os wy r _ (HRS.out.below HB7.out (Nat.le_refl _)) HOK.out (HO.out.below HB7.out (Nat.le_refl _)) (HV'.out.below HB7.out (Nat.le_refl _)) HR.out (by omega)
        change Calls _ _ #[.agg (ledL _ _ _ _ _ _ _ _ _).toArray, _, .agg (Rec.cells r).toArray] _ _ at hc2
        rw [← HLL.out] at hc2
        refine hc2.mono ?_
        clear hc2
        rintro e w8 ⟨rfl, hb8⟩
        generalize checkCode rs (C r.q.toNat) os wy r = code at *
        have hcl8 := hcl7.below hb8
        have HB8 := Lib.hid (HB7.out.trans (hb8.mono HB7.out.size))
        refine HK.out _ _ hcl8 ?_
        clear HK
        clear hb8 hcl7
        iterate 2
          refine m_take (v := ?_) rfl rfl ?_ ?_
          rotate_left
          · intro W hW
            go_simp
            with_reducible rfl
          simp only [Act.put, List.setIfInBounds_toArray, List.set_cons_zero, List.set_cons_succ]
        refine m_loadk rfl rfl rfl rfl (fun W hW => hW.1) Try.underlying30 rfl (by rw [HL16.out]; kernel_rfl) ?_
        simp only [Act.put, List.setIfInBounds_toArray, List.set_cons_zero, List.set_cons_succ]
        iterate 1
          refine m_take (v := ?_) rfl rfl ?_ ?_
          rotate_left
          · intro W hW
            go_simp
            with_reducible rfl
          simp only [Act.put, List.setIfInBounds_toArray, List.set_cons_zero, List.set_cons_succ]
        refine m_take (v := ?_) rfl rfl ?_ ?_
        rotate_left
        · intro W hW
          obtain ⟨-, -, -, xr⟩ := hW.led HLL.out
          have z0 := xr.c0
          clear xr hW
          go_simp
          with_reducible rfl
        simp only [Act.put, List.setIfInBounds_toArray, List.set_cons_zero, List.set_cons_succ]
        iterate 1
          refine m_take (v := ?_) rfl rfl ?_ ?_
          rotate_left
          · intro W hW
            go_simp
            with_reducible rfl
          simp only [Act.put, List.setIfInBounds_toArray, List.set_cons_zero, List.set_cons_succ]
        refine m_loud rfl (fun K hK => ?_)
        have HK := Lib.hid hK
        clear hK
        go_simp
        have hc3 := of_calls (.slice ra rs.length rcap) (.slice oa os.length ocap) batches ops C sealed decided keep deployed os r.p w8 (HO.out.below HB8.out (Nat.le_refl _))
        change Calls _ _ #[.agg (ledL _ _ _ _ _ _ _ _ _).toArray, _] _ _ at hc3
        rw [← HLL.out] at hc3
        refine hc3.mono ?_
        clear hc3
        rintro e w9 ⟨rfl, hb9⟩
        have hcl9 := hcl8.below hb9
        have HB9 := Lib.hid (HB8.out.trans (hb9.mono HB8.out.size))
        refine HK.out _ _ hcl9 ?_
        clear HK
        clear hb9 hcl8 hcl9
        generalize mine os r.p = M at *
        iterate 2
          refine m_take (v := ?_) rfl rfl ?_ ?_
          rotate_left
          · intro W hW
            go_simp
            with_reducible rfl
          simp only [Act.put, List.setIfInBounds_toArray, List.set_cons_zero, List.set_cons_succ]
        refine m_done ?_
        simp only [List.drop_succ_cons, List.drop_zero]
        go_wp2_with fail
        simp only [NP]
        go_wp2_with fail
        go_ret
        exact ⟨rfl, HBX.out.trans (HB9.out.mono HBX.out.size)⟩
end Go.Proofs.Ytibmgjhpkdgnpaa
