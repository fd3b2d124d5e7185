/- Layer 15: the document's Check walked. -/
import Derived.Test.YtibmgjhpkdgnpaaQuota06
import Derived.Test.YtibmgjhpkdgnpaaQuotaMath2
namespace Go.Proofs.Ytibmgjhpkdgnpaa
open Go.RowKit Go.Shelf

/-- What the boxes of a law hold, cell by cell. -/
theorem LawBox.led {W : World} {b : Nat} {LL : List Value} {rows opn batches ops : Value} {C : Nat → Int} {sealed decided keep : Int} {deployed : Bool} {r : Rec} (h : LawBox W b LL (Rec.cells r)) (hL : LL = ledL rows opn batches ops C sealed decided keep deployed) :
    W.cell? ⟨b, 0, none⟩ = some rows ∧ (∀ Q, Q < 8 → W.cell? ⟨b, 1 + Q, none⟩ = some (.int .i64 (C Q))) ∧ W.cell? ⟨b, 9, none⟩ = some opn ∧ RecBox W (b + 1) r := by
  subst hL
  have h0 : ∀ j v, (ledL rows opn batches ops C sealed decided keep deployed)[j]? = some v → W.cell? ⟨b, j, none⟩ = some v := fun j v hv => by have := h.1 j v hv; rwa [Nat.zero_add] at this
  have h1 : ∀ j v, (Rec.cells r)[j]? = some v → W.cell? ⟨b + 1, j, none⟩ = some v := fun j v hv => by have := h.2 j v hv; rwa [Nat.zero_add] at this
  refine ⟨h0 0 _ rfl, fun Q hQ => ?_, h0 9 _ rfl, ⟨h1 0 _ rfl, h1 1 _ rfl, h1 2 _ rfl, h1 3 _ rfl, h1 4 _ rfl⟩⟩
  rcases (show Q = 0 ∨ Q = 1 ∨ Q = 2 ∨ Q = 3 ∨ Q = 4 ∨ Q = 5 ∨ Q = 6 ∨ Q = 7 from by omega) with rfl | rfl | rfl | rfl | rfl | rfl | rfl | rfl
  · exact h0 1 _ rfl
  · exact h0 2 _ rfl
  · exact h0 3 _ rfl
  · exact h0 4 _ rfl
  · exact h0 5 _ rfl
  · exact h0 6 _ rfl
  · exact h0 7 _ rfl
  · exact h0 8 _ rfl

theorem mine_take (l : List Rec) (p : Int) (k : Nat) (hk : k < l.length) : mine (l.take (k + 1)) p = mine (l.take k) p + if l[k].p = p then 1 else 0 := by
  unfold mine
  rw [List.take_succ_eq_append_getElem hk, List.filter_append, List.length_append]
  by_cases h : l[k].p = p <;> simp [h]
theorem mine_le (l : List Rec) (p : Int) (k : Nat) : mine (l.take k) p ≤ k := by
  have h1 := List.length_filter_le (fun o : Rec => o.p == p) (l.take k)
  have h2 : (l.take k).length ≤ k := by simp; omega
  unfold mine; omega
/-- The ways of one record looked at for the least number. -/
theorem look_lt (rs : List Row) (p q s : Int) (h2 : (lookOf rs p q s == 2) = false) (h4 : (lookOf rs p q s == 4) = false) : lastOf rs p q < s := by
  rw [beq_eq_false_iff_ne] at h2 h4
  unfold lookOf at h2 h4
  rcases Int.lt_or_le (lastOf rs p q) s with h | h
  · exact h
  · exfalso
    rw [if_neg (fun h5 => by rw [if_pos h5] at h4; exact h4 rfl), if_pos h] at h2
    exact h2 rfl
theorem lstep_ways (r o : Rec) (l : Int) :
    ((o.p == r.p) = false ∧ lstep r l o = l) ∨ (((o.p == r.p) = true ∧ (o.q == r.q) = false) ∧ lstep r l o = l) ∨ (((o.p == r.p) = true ∧ (o.q == r.q) = true ∧ (o.s == l) = false) ∧ lstep r l o = l) ∨
    (((o.p == r.p) = true ∧ (o.q == r.q) = true ∧ (o.s == l) = true ∧ decide (l < 9223372036854775807) = false) ∧ lstep r l o = l) ∨
    (((o.p == r.p) = true ∧ (o.q == r.q) = true ∧ (o.s == l) = true ∧ decide (l < 9223372036854775807) = true) ∧ l + 1 ≤ 9223372036854775807 ∧ lstep r l o = l + 1) := by
  unfold lstep
  simp only [beq_iff_eq, beq_eq_false_iff_ne, decide_eq_true_eq, decide_eq_false_iff_not]
  by_cases h1 : o.p = r.p
  · by_cases h2 : o.q = r.q
    · by_cases h3 : o.s = l
      · by_cases h4 : l < 9223372036854775807
        · right; right; right; right; exact ⟨⟨h1, h2, h3, h4⟩, by omega, if_pos ⟨h1, h2, h3, h4⟩⟩
        · right; right; right; left; exact ⟨⟨h1, h2, h3, h4⟩, if_neg (fun h => h4 h.2.2.2)⟩
      · right; right; left; exact ⟨⟨h1, h2, h3⟩, if_neg (fun h => h3 h.2.2.1)⟩
    · right; left; exact ⟨⟨h1, h2⟩, if_neg (fun h => h2 h.2.1)⟩
  · left; exact ⟨h1, if_neg (fun h => h1 h.1)⟩
theorem hit_ways (r o : Rec) (s : Int) :
    ((o.p == r.p) = false ∧ (o.p == r.p && o.q == r.q && o.s == s) = false) ∨ (((o.p == r.p) = true ∧ (o.q == r.q) = false) ∧ (o.p == r.p && o.q == r.q && o.s == s) = false) ∨ (((o.p == r.p) = true ∧ (o.q == r.q) = true ∧ (o.s == s) = false) ∧ (o.p == r.p && o.q == r.q && o.s == s) = false) ∨
    (((o.p == r.p) = true ∧ (o.q == r.q) = true ∧ (o.s == s) = true) ∧ (o.p == r.p && o.q == r.q && o.s == s) = true) := by
  cases (o.p == r.p) <;> cases (o.q == r.q) <;> cases (o.s == s) <;> simp

set_option maxHeartbeats 20000000 in
set_option maxRecDepth 100000 in
theorem rcheck_calls (rows opn batches ops v : Value) (C : Nat → Int) (sealed decided keep : Int) (deployed : Bool) (rs : List Row) (os way : List Rec) (r : Rec) (w : World)
    (hrs : Rows w rows rs) (hok : ∀ x ∈ rs, x.ok) (ho : Recs w opn os) (hv : Recs w v way) (hr : r.ok) (hlen : os.length + way.length ≤ 4611686018427387904) :
    Calls Try.prog 8 #[.agg (ledL rows opn batches ops C sealed decided keep deployed).toArray, v, .agg #[.int .i64 r.p, .int .i64 r.s, .int .i64 r.q, .string r.key, .int .u32 r.val]] w fun e w' =>
      e = .returned (.int .i64 (checkCode rs (C r.q.toNat) os way r)) ∧ Below w.heap.size w w' := by
  obtain ⟨LL, hLL⟩ : ∃ LL, LL = ledL rows opn batches ops C sealed decided keep deployed := ⟨_, rfl⟩
  rw [← hLL]
  obtain ⟨X, hX⟩ : ∃ X, X = (w.alloc (.cells LL.toArray 30)).alloc (.cells #[.int .i64 r.p, .int .i64 r.s, .int .i64 r.q, .string r.key, .int .u32 r.val] 33) := ⟨_, rfl⟩
  obtain ⟨hXs, hbX, hlb⟩ := law_boxes w X 30 33 LL (Rec.cells r) hX
  have HLL := Lib.hid hLL
  have HRS := Lib.hid (hrs.below hbX (Nat.le_refl _) : Rows X rows rs)
  have HO := Lib.hid (ho.below hbX (Nat.le_refl _) : Recs X opn os)
  have HV := Lib.hid (hv.below hbX (Nat.le_refl _) : Recs X v way)
  have HOK := Lib.hid hok
  have HR := Lib.hid hr
  obtain ⟨ra, rcap, rfl, -, -⟩ := Rd.slice hrs
  obtain ⟨oa, ocap, rfl, -, -⟩ := Rd.slice ho
  obtain ⟨va, vcap, rfl, -, -⟩ := Rd.slice hv
  have HX := Lib.hid hX
  have HBX := Lib.hid hbX
  have HLB := Lib.hid hlb
  obtain ⟨-, -, -, xr⟩ := hlb.led hLL
  have y0 := xr.c0
  have y1 := xr.c1
  have y2 := xr.c2
  have y3 := xr.c3
  have y4 := xr.c4
  have HW := Lib.hid (check_ways rs (C r.q.toNat) os way r hr)
  have HNG : Hid (goodRec r = false → checkCode rs (C r.q.toNat) os way r = 3) := Lib.hid (fun h => by unfold checkCode; rw [if_pos h])
  clear hrs ho hv hok hX hbX hlb xr hXs hr hLL
  generalize hcode : checkCode rs (C r.q.toNat) os way r = code at *
  clear hcode
  go_enter Try.func8, Try.ntmps8
  go_wp2_with fail
  rw [← HX.out]
  refine (rgood_calls r X).mono ?_
  rintro e w1 ⟨rfl, hb1⟩
  have HB1 := Lib.hid hb1
  have lb1 := HLB.out.below hb1
  clear hb1 y0 y1 y2 y3 y4
  cases hg : goodRec r with
  | false =>
    have hc3 := HNG.out hg
    subst hc3
    clear hg lb1
    go_wp2_with fail
    go_ret
    exact ⟨rfl, HBX.out.trans (HB1.out.mono HBX.out.size)⟩
  | true =>
    obtain ⟨⟨hq1, hq2⟩, hway⟩ := HW.out hg
    obtain ⟨Q, hQ⟩ : ∃ Q : Nat, r.q = Q := ⟨r.q.toNat, by omega⟩
    rw [show r.q.toNat = Q from by omega] at hway
    have HWAY := Lib.hid hway
    have hQ8 : (Q : Int) < 8 := by omega
    obtain ⟨x0, -, -, xr⟩ := lb1.led HLL.out
    have y0 := xr.c0
    have y1 := xr.c1
    have y2 := xr.c2
    have LB1 := Lib.hid lb1
    have HQ := Lib.hid hQ
    clear hg hway lb1 hQ xr
    go_wp2_with fail
    refine (rlook_calls _ rs r.p r.q r.s w1 (HRS.out.below HB1.out (Nat.le_refl _)) HOK.out HR.out.2.1).mono ?_
    rintro e w2 ⟨rfl, rfl⟩
    have xC := (LB1.out.led HLL.out).2.1 Q (by omega)
    rw [HQ.out] at y2
    have hsplit : ((lookOf rs r.p r.q r.s == 2) = true ∧ code = 0) ∨ (((lookOf rs r.p r.q r.s == 2) = false ∧ (lookOf rs r.p r.q r.s == 4) = true) ∧ code = 14) ∨
        (((lookOf rs r.p r.q r.s == 2) = false ∧ (lookOf rs r.p r.q r.s == 4) = false ∧ (C Q == 9223372036854775807) = true) ∧ code = 14) ∨
        (((lookOf rs r.p r.q r.s == 2) = false ∧ (lookOf rs r.p r.q r.s == 4) = false ∧ (C Q == 9223372036854775807) = false) ∧ lastOf rs r.p r.q < r.s ∧
          ((onWay way r r.s = true ∧ code = 0) ∨ (onWay way r r.s = false ∧ code = if r.s ≠ passes way r (lastOf rs r.p r.q + 1) way.length then 11 else if 32 ≤ mine way r.p + mine os r.p ∨ 256 ≤ way.length ∨ 512 ≤ os.length + way.length then 10 else 0))) := by
      rcases HWAY.out with h | h | h | ⟨⟨k1, k2, k3, k4⟩, h⟩ | ⟨⟨k1, k2, k3, k4⟩, hlt, h⟩
      · exact .inl h
      · exact .inr (.inl h)
      · exact .inr (.inr (.inl h))
      · exact .inr (.inr (.inr ⟨⟨k1, k2, k3⟩, look_lt rs _ _ _ k1 k2, .inl ⟨k4, h⟩⟩))
      · refine .inr (.inr (.inr ⟨⟨k1, k2, k3⟩, hlt, .inr ⟨k4, ?_⟩⟩))
        rw [h]
        exact checkCode_tail rs os way r hlt HR.out.2.1.2 k4
    generalize lookOf rs r.p r.q r.s = lk at *
    clear HWAY
    rcases hsplit with ⟨k1, rfl⟩ | ⟨⟨k1, k2⟩, rfl⟩ | ⟨⟨k1, k2, k3⟩, rfl⟩ | ⟨⟨k1, k2, k3⟩, hlt, hcode⟩
    · go_wp2_with fail
      go_ret
      exact ⟨rfl, HBX.out.trans (HB1.out.mono HBX.out.size)⟩
    · go_wp2_with fail
      go_ret
      exact ⟨rfl, HBX.out.trans (HB1.out.mono HBX.out.size)⟩
    · go_wp2_with fail
      go_ret
      exact ⟨rfl, HBX.out.trans (HB1.out.mono HBX.out.size)⟩
    have HCODE := Lib.hid hcode
    have hls := lastOf_ok rs r.p r.q HOK.out
    have hrs := HR.out.2.1
    unfold I64 at hls hrs
    obtain ⟨hl1, hl2⟩ := hls
    obtain ⟨hs1, hs2⟩ := hrs
    clear hcode
    go_wp2_with fail
    refine (rlast_calls _ rs r.p Q w2 (HRS.out.below HB1.out (Nat.le_refl _))).mono ?_
    rintro e w3 ⟨rfl, rfl⟩
    rw [← HQ.out]
    generalize lastOf rs r.p r.q = l at *
    have hl3 : l + 1 ≤ 9223372036854775807 := by omega
    clear y0 y1 y2 x0 xC k1 k2 k3
    go_wp2_with fail
    have hpm := passes_max way r (l + 1) hl3
    have HPM := Lib.hid hpm
    have hpg := passes_ge way r (l + 1)
    have HPGE := Lib.hid hpg
    clear hpm hpg
    go_loopw [8, 9, 10, 11] (fun lv mv iv _ wr => ∃ i : Nat, i ≤ way.length ∧ iv = .int .i64 i ∧ lv = .int .i64 (passes way r (l + 1) i) ∧ mv = .int .i64 (mine (way.take i) r.p) ∧ Below X.heap.size X wr) (fun _ _ iv _ _ => way.length - (intOf iv).toNat)
    case atStart => exact ⟨0, by omega, rfl, rfl, rfl, HB1.out⟩
    case round =>
      obtain ⟨i, hi, rfl, rfl, rfl, hb⟩ := hrel
      have HB := Lib.hid hb
      clear hb
      by_cases hil : i < way.length
      · have hmx := HPM.out i
        have hmn := HPGE.out i
        have hpx : passes way r (l + 1) (i + 1) = way.foldl (lstep r) (passes way r (l + 1) i) := rfl
        have HPX := Lib.hid hpx
        generalize passes way r (l + 1) i = l0 at *
        have HMN := Lib.hid hmn
        clear hpx hmn
        go_wp2_with fail
        go_loopw [8, 11] (fun lv kv wq => ∃ (k : Nat) (lc : Int), k ≤ way.length ∧ kv = .int .i64 k ∧ lv = .int .i64 lc ∧ lc = (way.take k).foldl (lstep r) l0 ∧ -9223372036854775808 ≤ lc ∧ lc ≤ 9223372036854775807 ∧ Below X.heap.size X wq) (fun _ kv _ => way.length - (intOf kv).toNat)
        case atStart => exact ⟨0, l0, by omega, rfl, rfl, rfl, by have h := HMN.out; omega, hmx, HB.out⟩
        case round =>
          obtain ⟨k, lc, hk, rfl, rfl, hlc, hlc1, hlc2, hb⟩ := hrel
          have HB2 := Lib.hid hb
          have HLC := Lib.hid hlc
          by_cases hkl : k < way.length
          · obtain ⟨b2, o2, hva, c0, c1, c2, -, -⟩ := rec_at HV.out k hkl
            subst hva
            have d0 := cell_later hb c0
            have d1 := cell_later hb c1
            have d2 := cell_later hb c2
            obtain ⟨-, -, -, xr⟩ := (HLB.out.below hb).led HLL.out
            have z0 := xr.c0
            have z2 := xr.c2
            have hnx : (way.take (k + 1)).foldl (lstep r) l0 = lstep r lc way[k] := by
              rw [List.take_succ_eq_append_getElem hkl, List.foldl_append, ← hlc]; rfl
            have HNX := Lib.hid hnx
            have hws := lstep_ways r way[k] lc
            generalize way[k] = o at *
            clear hb hlc c0 c1 c2 xr hnx
            rcases hws with ⟨j1, hst⟩ | ⟨⟨j1, j2⟩, hst⟩ | ⟨⟨j1, j2, j3⟩, hst⟩ | ⟨⟨j1, j2, j3, j4⟩, hst⟩ | ⟨⟨j1, j2, j3, j4⟩, j5, hst⟩
            all_goals
              have HST := Lib.hid hst
              clear hst
              go_wp2_with fail
              refine region_m [(0, false), (1, false), (2, false), (3, false), (4, false), (5, false), (6, false), (7, false), (8, false), (9, false), (10, false), (11, false), (12, false), (13, false), (14, false), (15, false), (16, false), (17, false), (18, false), (19, false), (20, false), (21, false), (22, false), (23, false), (24, false), (25, false), (26, false), (27, false), (28, false), (29, false), (30, false)] 31 (fun W => (W.cell? ⟨b2, o2 + k * 5, none⟩ = some (.int .i64 o.p) ∧ W.cell? ⟨b2, o2 + k * 5 + 1, none⟩ = some (.int .i64 o.s) ∧ W.cell? ⟨b2, o2 + k * 5 + 2, none⟩ = some (.int .i64 o.q)) ∧ W.cell? ⟨w.heap.size + 1, 0, none⟩ = some (.int .i64 r.p) ∧ W.cell? ⟨w.heap.size + 1, 2, none⟩ = some (.int .i64 r.q)) (by kernel_rfl) (by kernel_rfl) ⟨⟨d0, d1, d2⟩, z0, z2⟩ ?_
              iterate 31
                first
                | (refine m_take (v := ?_) rfl rfl ?_ ?_
                   rotate_left
                   · intro W hW
                     go_simp
                     with_reducible rfl
                   simp only [Act.put, List.setIfInBounds_toArray, List.set_cons_zero, List.set_cons_succ])
                | (refine m_skip rfl rfl ?_
                   simp only [Act.put, List.setIfInBounds_toArray, List.set_cons_zero, List.set_cons_succ])
              refine m_done ?_
              simp only [List.drop_succ_cons, List.drop_zero]
              go_wp2_with fail
              simp only [NP]
              go_wp2_with fail
              go_roundw
              case rel => exact ⟨k + 1, _, by omega, by go_num, rfl, by rw [HNX.out, HST.out], by omega, by omega, HB2.out.drew⟩
              case measure => simp [intOf] <;> omega
          · obtain rfl : k = way.length := by omega
            rw [List.take_length] at hlc
            rw [← HPX.out] at hlc
            have HLC2 := Lib.hid hlc
            have hmt := mine_take way r.p i hil
            have hml := mine_le way r.p i
            have hml2 := mine_le way r.p (i + 1)
            obtain ⟨b2, o2, hva, c0, -, -, -, -⟩ := rec_at HV.out i hil
            subst hva
            have d0 := cell_later hb c0
            obtain ⟨-, -, -, xr⟩ := (HLB.out.below hb).led HLL.out
            have z0 := xr.c0
            generalize way[i] = o at *
            have hway2 : ((o.p == r.p) = true ∧ mine (way.take (i + 1)) r.p = mine (way.take i) r.p + 1) ∨ ((o.p == r.p) = false ∧ mine (way.take (i + 1)) r.p = mine (way.take i) r.p) := by
              by_cases h : o.p = r.p
              · left; exact ⟨beq_iff_eq.2 h, by rw [hmt, if_pos h]⟩
              · right; exact ⟨beq_eq_false_iff_ne.2 h, by rw [hmt, if_neg h]; omega⟩
            clear hb hlc c0 xr hmt HLC
            rcases hway2 with ⟨j1, hm⟩ | ⟨j1, hm⟩
            all_goals
              have HMT := Lib.hid hm
              clear hm
              go_wp2_with fail
              refine region_m [(0, false), (1, false), (2, false), (3, false), (4, false), (5, false), (6, false), (7, false)] 8 (fun W => W.cell? ⟨b2, o2 + i * 5, none⟩ = some (.int .i64 o.p) ∧ W.cell? ⟨w.heap.size + 1, 0, none⟩ = some (.int .i64 r.p)) (by kernel_rfl) (by kernel_rfl) ⟨d0, z0⟩ ?_
              iterate 8
                first
                | (refine m_take (v := ?_) rfl rfl ?_ ?_
                   rotate_left
                   · intro W hW
                     go_simp
                     with_reducible rfl
                   simp only [Act.put, List.setIfInBounds_toArray, List.set_cons_zero, List.set_cons_succ])
                | (refine m_skip rfl rfl ?_
                   simp only [Act.put, List.setIfInBounds_toArray, List.set_cons_zero, List.set_cons_succ])
              refine m_done ?_
              simp only [List.drop_succ_cons, List.drop_zero]
              go_wp2_with fail
              simp only [NP]
              go_wp2_with fail
              go_roundw
              case rel => exact ⟨i + 1, by omega, by go_num, by rw [HLC2.out], by rw [HMT.out] <;> go_num, HB2.out.drew⟩
              case measure => simp [intOf] <;> omega
      · obtain rfl : i = way.length := by omega
        have hmw : mine (way.take way.length) r.p = mine way r.p := by rw [List.take_length]
        rw [hmw]
        have hmle : mine way r.p ≤ way.length := List.length_filter_le _ _
        generalize passes way r (l + 1) way.length = L at *
        clear hmw
        go_wp2_with fail
        go_loopw [12] (fun kv wq => ∃ k : Nat, k ≤ way.length ∧ kv = .int .i64 k ∧ onWay (way.take k) r r.s = false ∧ Below X.heap.size X wq) (fun kv _ => way.length - (intOf kv).toNat)
        case atStart => exact ⟨0, by omega, rfl, rfl, HB.out⟩
        case round =>
          obtain ⟨k, hk, rfl, hno, hb⟩ := hrel
          have HB2 := Lib.hid hb
          by_cases hkl : k < way.length
          · obtain ⟨b2, o2, hva, c0, c1, c2, -, -⟩ := rec_at HV.out k hkl
            subst hva
            have d0 := cell_later hb c0
            have d1 := cell_later hb c1
            have d2 := cell_later hb c2
            obtain ⟨-, -, -, xr⟩ := (HLB.out.below hb).led HLL.out
            have z0 := xr.c0
            have z1 := xr.c1
            have z2 := xr.c2
            have hnx : onWay (way.take (k + 1)) r r.s = (onWay (way.take k) r r.s || (way[k].p == r.p && way[k].q == r.q && way[k].s == r.s)) := by
              unfold onWay
              rw [List.take_succ_eq_append_getElem hkl, List.any_append]; simp
            rw [hno, Bool.false_or] at hnx
            have hhit : (way[k].p == r.p && way[k].q == r.q && way[k].s == r.s) = true → onWay way r r.s = true := fun h => List.any_eq_true.2 ⟨way[k], List.getElem_mem _, h⟩
            have hws := hit_ways r way[k] r.s
            generalize way[k] = o at *
            have HNX := Lib.hid hnx
            have HHIT := Lib.hid hhit
            clear hb c0 c1 c2 xr hnx hno hhit
            rcases hws with ⟨j1, hst⟩ | ⟨⟨j1, j2⟩, hst⟩ | ⟨⟨j1, j2, j3⟩, hst⟩ | ⟨⟨j1, j2, j3⟩, hst⟩
            all_goals
              have HST := Lib.hid hst
              clear hst
              go_wp2_with fail
              refine region_m [(0, false), (1, false), (2, false), (3, false), (4, false), (5, false), (6, false), (7, false), (8, false), (9, false), (10, false), (11, false), (12, false), (13, false), (14, false), (15, false), (16, false), (17, false), (18, false), (19, false), (20, false), (21, false), (22, false), (23, false), (24, false), (25, false), (26, false), (27, false)] 28 (fun W => (W.cell? ⟨b2, o2 + k * 5, none⟩ = some (.int .i64 o.p) ∧ W.cell? ⟨b2, o2 + k * 5 + 1, none⟩ = some (.int .i64 o.s) ∧ W.cell? ⟨b2, o2 + k * 5 + 2, none⟩ = some (.int .i64 o.q)) ∧ W.cell? ⟨w.heap.size + 1, 0, none⟩ = some (.int .i64 r.p) ∧ W.cell? ⟨w.heap.size + 1, 1, none⟩ = some (.int .i64 r.s) ∧ W.cell? ⟨w.heap.size + 1, 2, none⟩ = some (.int .i64 r.q)) (by kernel_rfl) (by kernel_rfl) ⟨⟨d0, d1, d2⟩, z0, z1, z2⟩ ?_
              iterate 28
                first
                | (refine m_take (v := ?_) rfl rfl ?_ ?_
                   rotate_left
                   · intro W hW
                     go_simp
                     with_reducible rfl
                   simp only [Act.put, List.setIfInBounds_toArray, List.set_cons_zero, List.set_cons_succ])
                | (refine m_skip rfl rfl ?_
                   simp only [Act.put, List.setIfInBounds_toArray, List.set_cons_zero, List.set_cons_succ])
              refine m_done ?_
              simp only [List.drop_succ_cons, List.drop_zero]
              go_wp2_with fail
              simp only [NP]
              go_wp2_with fail
            iterate 3
              · go_roundw
                case rel => exact ⟨k + 1, by omega, by go_num, by rw [HNX.out, HST.out], HB2.out.drew⟩
                case measure => simp [intOf] <;> omega
            · go_ret
              have hc0 : code = 0 := by
                rcases HCODE.out with ⟨-, h⟩ | ⟨h, -⟩
                · exact h
                · rw [HHIT.out HST.out] at h; cases h
              exact ⟨by rw [hc0]; rfl, HBX.out.trans (HB2.out.drew.mono HBX.out.size)⟩
          · obtain rfl : k = way.length := by omega
            rw [List.take_length] at hno
            have hcd : code = if r.s ≠ L then 11 else if 32 ≤ mine way r.p + mine os r.p ∨ 256 ≤ way.length ∨ 512 ≤ os.length + way.length then 10 else 0 := by
              rcases HCODE.out with ⟨h, -⟩ | ⟨-, h⟩
              · rw [hno] at h; cases h
              · exact h
            have HCD := Lib.hid hcd
            obtain ⟨-, -, -, xr⟩ := (HLB.out.below hb).led HLL.out
            have z1 := xr.c1
            clear hb hno hcd xr HCODE
            by_cases hsl : r.s = L
            · have k5 : (r.s != L) = false := bne_eq_false_iff_eq.2 hsl
              have HCD2 := Lib.hid (HCD.out.trans (if_neg (fun h => h hsl)))
              clear hsl
              go_wp2_with fail
              go_loopw [9, 13] (fun mv kv wq => ∃ k : Nat, k ≤ os.length ∧ kv = .int .i64 k ∧ mv = .int .i64 ((mine way r.p : Int) + (mine (os.take k) r.p : Int)) ∧ Below X.heap.size X wq) (fun _ kv _ => os.length - (intOf kv).toNat)
              case atStart => exact ⟨0, by omega, rfl, by congr 1, HB2.out⟩
              case round =>
                obtain ⟨k, hk, rfl, rfl, hb⟩ := hrel
                have HB3 := Lib.hid hb
                obtain ⟨-, -, x9, xr⟩ := (HLB.out.below hb).led HLL.out
                have z0 := xr.c0
                have hml := mine_le os r.p k
                by_cases hkl : k < os.length
                · have hmt := mine_take os r.p k hkl
                  obtain ⟨b2, o2, hva, c0, -, -, -, -⟩ := rec_at HO.out k hkl
                  subst hva
                  have d0 := cell_later hb c0
                  generalize os[k] = o at *
                  have hway2 : ((o.p == r.p) = true ∧ mine (os.take (k + 1)) r.p = mine (os.take k) r.p + 1) ∨ ((o.p == r.p) = false ∧ mine (os.take (k + 1)) r.p = mine (os.take k) r.p) := by
                    by_cases h : o.p = r.p
                    · left; exact ⟨beq_iff_eq.2 h, by rw [hmt, if_pos h]⟩
                    · right; exact ⟨beq_eq_false_iff_ne.2 h, by rw [hmt, if_neg h]; omega⟩
                  clear hb c0 xr hmt
                  generalize mine (os.take k) r.p = M at *
                  rcases hway2 with ⟨j1, hm⟩ | ⟨j1, hm⟩
                  all_goals
                    have HMT := Lib.hid hm
                    clear hm
                    go_wp2_with fail
                    refine region_m [(0, false), (1, false), (2, false), (3, false), (4, false), (5, false), (6, false), (7, false), (8, false)] 9 (fun W => (W.cell? ⟨w.heap.size, 9, none⟩ = some (.slice (some ⟨b2, o2, none⟩) os.length ocap) ∧ W.cell? ⟨b2, o2 + k * 5, none⟩ = some (.int .i64 o.p)) ∧ W.cell? ⟨w.heap.size + 1, 0, none⟩ = some (.int .i64 r.p)) (by kernel_rfl) (by kernel_rfl) ⟨⟨x9, d0⟩, z0⟩ ?_
                    iterate 9
                      first
                      | (refine m_take (v := ?_) rfl rfl ?_ ?_
                         rotate_left
                         · intro W hW
                           go_simp
                           with_reducible rfl
                         simp only [Act.put, List.setIfInBounds_toArray, List.set_cons_zero, List.set_cons_succ])
                      | (refine m_skip rfl rfl ?_
                         simp only [Act.put, List.setIfInBounds_toArray, List.set_cons_zero, List.set_cons_succ])
                    refine m_done ?_
                    simp only [List.drop_succ_cons, List.drop_zero]
                    go_wp2_with fail
                    simp only [NP]
                    go_wp2_with fail
                    go_roundw
                    case rel => exact ⟨k + 1, by omega, by go_num, by rw [HMT.out] <;> (congr 1 <;> omega), HB3.out.drew⟩
                    case measure => simp [intOf] <;> omega
                · obtain rfl : k = os.length := by omega
                  have hms : mine (os.take os.length) r.p = mine os r.p := by rw [List.take_length]
                  rw [hms] at hml ⊢
                  clear hms hb xr
                  generalize mine os r.p = M1 at *
                  generalize mine way r.p = M2 at *
                  have hway2 : (decide ((32 : Int) ≤ (M2 : Int) + (M1 : Int)) = true ∧ code = 10) ∨ ((decide ((32 : Int) ≤ (M2 : Int) + (M1 : Int)) = false ∧ decide ((256 : Int) ≤ way.length) = true) ∧ code = 10) ∨ ((decide ((32 : Int) ≤ (M2 : Int) + (M1 : Int)) = false ∧ decide ((256 : Int) ≤ way.length) = false ∧ decide ((512 : Int) ≤ (os.length : Int) + way.length) = true) ∧ code = 10) ∨
                      ((decide ((32 : Int) ≤ (M2 : Int) + (M1 : Int)) = false ∧ decide ((256 : Int) ≤ way.length) = false ∧ decide ((512 : Int) ≤ (os.length : Int) + way.length) = false) ∧ code = 0) := by
                    have hc := HCD2.out
                    simp only [decide_eq_true_eq, decide_eq_false_iff_not]
                    by_cases q1 : 32 ≤ M2 + M1
                    · left; exact ⟨by omega, by rw [hc, if_pos (.inl q1)]⟩
                    by_cases q2 : 256 ≤ way.length
                    · right; left; exact ⟨by omega, by rw [hc, if_pos (.inr (.inl q2))]⟩
                    by_cases q3 : 512 ≤ os.length + way.length
                    · right; right; left; exact ⟨by omega, by rw [hc, if_pos (.inr (.inr q3))]⟩
                    · right; right; right; exact ⟨by omega, by rw [hc, if_neg (by omega)]⟩
                  clear HCD2 HCD
                  rcases hway2 with ⟨j1, rfl⟩ | ⟨⟨j1, j2⟩, rfl⟩ | ⟨⟨j1, j2, j3⟩, rfl⟩ | ⟨⟨j1, j2, j3⟩, rfl⟩
                  all_goals
                    go_wp2_with fail
                    go_ret
                    exact ⟨rfl, HBX.out.trans (HB3.out.mono HBX.out.size)⟩
            · have k5 : (r.s != L) = true := bne_iff_ne.2 hsl
              have HCD2 := Lib.hid (HCD.out.trans (if_pos hsl))
              clear hsl
              go_wp2_with fail
              go_ret
              exact ⟨by rw [HCD2.out]; rfl, HBX.out.trans (HB2.out.mono HBX.out.size)⟩
end Go.Proofs.Ytibmgjhpkdgnpaa
