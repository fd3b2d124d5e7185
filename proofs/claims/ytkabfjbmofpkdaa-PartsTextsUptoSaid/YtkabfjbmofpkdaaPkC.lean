/- Walks and plain laws of the chapter, laid together; each part says what it proves. -/
import Derived.Deep.MidRow
import Derived.Deep.Cut
import Derived.Test.YtkabfjbmofpkdaaPkA
import Derived.Test.YtkabfjbmofpkdaaPkB
/- Layer 14: Good of a ledger, walked. -/
namespace Go.Proofs.Ytkabfjbmofpkdaa
open Go.RowKit Go.Shelf
set_option maxRecDepth 100000
attribute [local go_sem] Oper.semAt_some

theorem keeps_below {W W' : World} (hb : Below W.heap.size W W') : KeepsOthers W W' := ⟨hb.size, fun k _ hk _ => (hb.block k (Array.getElem?_eq_some_iff.1 hk).1).trans hk⟩

set_option maxHeartbeats 4000000 in
theorem pGood_calls (L : Led) (w : World) (hL : LedR w L) (hok : L.Ok) (hsm : L.Small) :
    Calls Try.prog 13 #[.agg L.cells.toArray] w fun e w' => e = .returned (.bool L.good) ∧ Below w.heap.size w w' := by
  obtain ⟨S, hS⟩ : ∃ S, S = w.heap.size := ⟨_, rfl⟩
  have hlc : L.cells.toArray = #[L.rv, .int .i64 (L.C 0), .int .i64 (L.C 1), .int .i64 (L.C 2), .int .i64 (L.C 3), .int .i64 (L.C 4), .int .i64 (L.C 5), .int .i64 (L.C 6), .int .i64 (L.C 7), L.ov, L.bv, .int .i64 L.sealed, .int .i64 L.decided, .bool L.dep, L.gv, .int .i64 L.keep] := rfl
  obtain ⟨X, hX⟩ : ∃ X, X = (w.alloc (.cells L.cells.toArray 30)).alloc (.cells #[.bool false] 4) := ⟨_, rfl⟩
  have hbX : Below w.heap.size w X := by rw [hX]; exact below_box (below_alloc _ _) _
  have hXs : X.heap.size = S + 2 := by rw [hX, hS]; simp
  have hbox : BoxL X S L := by rw [hX, hS]; exact (boxL_self w L 30).later (below_alloc _ _)
  have hres : X.cell? ⟨S + 1, 0, none⟩ = some (.bool false) := by rw [hX, World.cell?_alloc_at _ _ _ _ (by rw [hS]; simp)]; rfl
  have hfz : X.frozen? ⟨S + 1, 0, none⟩ = false := by rw [hX, World.frozen?_alloc_at _ _ _ _ (by rw [hS]; simp)]
  have HLX := Lib.hid (hL.below hbX (Nat.le_refl _))
  have HL := Lib.hid hL
  have HBX := Lib.hid hbX
  have HOK := Lib.hid hok
  have HSM := Lib.hid hsm
  rw [hS] at hbox hres hfz hXs
  have HBOX := Lib.hid hbox
  have HRES := Lib.hid (And.intro hres hfz)
  have HXS := Lib.hid hXs
  obtain ⟨ra, rc, hrv, hrc, -⟩ := Rd.slice hL.rows
  obtain ⟨oa, oc, hov, hoc, -⟩ := Rd.slice hL.opn
  obtain ⟨ba, bc, hbv, hbc, -⟩ := hL.bats.row.slice
  obtain ⟨ga, gc, hgv, hgc, -⟩ := hL.ops.row.slice
  have c0 := hbox 0 _ rfl
  have c9 := hbox 9 _ rfl
  have c10 := hbox 10 _ rfl
  have c11 := hbox 11 _ rfl
  have c12 := hbox 12 _ rfl
  have c13 := hbox 13 _ rfl
  have c14 := hbox 14 _ rfl
  have c15 := hbox 15 _ rfl
  rw [hrv] at c0
  rw [hov] at c9
  rw [hbv] at c10
  rw [hgv] at c14
  have HV := Lib.hid (And.intro hrv (And.intro hov (And.intro hbv hgv)))
  have hbn := hsm.bats
  have hon := hsm.opn
  have hnums := hok.nums
  unfold I64 at hnums
  rw [hrv, hov, hbv, hgv] at hlc
  rw [hlc] at hX ⊢
  have HX := Lib.hid hX
  have HS := Lib.hid hS
  have HLC := Lib.hid hlc
  clear hL hbX hXs hbox hok hsm hres hfz hrv hov hbv hgv hlc hX hS
  refine (callsIn_wide (n := 0)).1 ?_
  refine callsIn_of_wp_marks Try.func13 rfl trivial ?_
  simp only [Try.ntmps13, List.size_toArray, List.length_cons, List.length_nil, Nat.reduceAdd, Nat.reduceSub, Array.replicate_succ, Array.replicate_zero, List.push_toArray, List.append_toArray, List.nil_append, List.cons_append]
  gi_wp2_with fail
  rw [← HX.out]
  refine (callsIn_wide.2 (dgood_calls _ L.rows _ (by have := HLX.out.rows; rwa [HV.out.1] at this))).mono ?_
  rintro e w1 ⟨rfl, hb1⟩
  have HB1 := Lib.hid hb1
  have hbox1 := HBOX.out.later hb1
  have HBOX1 := Lib.hid hbox1
  have r0 := cell_later hb1 HRES.out.1
  have rz := frozen_later hb1 HRES.out.1 HRES.out.2
  have c9 := cell_later hb1 c9
  have c10 := cell_later hb1 c10
  have c11 := cell_later hb1 c11
  have c12 := cell_later hb1 c12
  have c13 := cell_later hb1 c13
  have c14 := cell_later hb1 c14
  have c15 := cell_later hb1 c15
  have HL1 := Lib.hid (HLX.out.below hb1 (Nat.le_refl _))
  have HBW := Lib.hid (below_go HBX.out hb1)
  have HR0 := Lib.hid (And.intro r0 rz)
  clear hb1 hbox1 HBOX HLX HRES HX c0
  cases hgr : goodRows L.rows with
  | false =>
    have HG := Lib.hid (no_rows hgr)
    clear hgr
    gi_wp2_with fail
    refine ⟨.bool false, ?_, by rw [HG.out], HBW.out.setCell (p := ⟨w.heap.size + 1, 0, none⟩) (by show w.heap.size ≤ w.heap.size + 1; omega) _⟩
    simp [results, Try.results13, go_sem, cell_set_same (.bool false) HR0.out.1]
  | true =>
    have HGR := Lib.hid hgr
    clear hgr
    by_cases hnum : L.opn.length ≤ 512 ∧ 0 ≤ L.decided ∧ L.decided ≤ L.sealed ∧ L.sealed - L.decided ≤ 64 ∧ 0 ≤ L.keep ∧ L.keep ≤ 64
    · obtain ⟨n1, n2, n3, n4, n5, n6⟩ := hnum
      have HN := Lib.hid (And.intro n1 (And.intro n2 (And.intro n3 (And.intro n4 (And.intro n5 n6)))))
      have hwr : IntKind.i64.wrap (L.sealed - L.decided) = L.sealed - L.decided := by rw [IntKind.wrap_i64]; omega
      gi_wp2_with fail
      gi_loopw [4, 5, 58] (fun _ _ iv wr => ∃ i : Nat, i ≤ L.bats.length ∧ iv = .int .i64 i ∧ epochsTo L i = true ∧ Below w1.heap.size w1 wr) (fun _ _ iv _ => L.bats.length - (intOf iv).toNat)
      case atStart => exact ⟨0, by omega, rfl, epochsTo_zero L, Below.refl _ _⟩
      case round =>
        obtain ⟨i, hi, rfl, hto, hb⟩ := hrel
        have HTO := Lib.hid hto
        have HB := Lib.hid hb
        clear hto hb c9 c10 c11 c12 c13 c14 c15 r0 rz
        have HBR := Lib.hid (below_go HBW.out HB.out)
        have HLR := Lib.hid (HL1.out.below HB.out (Nat.le_refl _))
        have hboxr := HBOX1.out.later HB.out
        have c11 := hboxr 11 _ rfl
        have r0 := cell_later HB.out HR0.out.1
        have rz := frozen_later HB.out HR0.out.1 HR0.out.2
        have hsz : w.heap.size + 1 < wr.heap.size := World.block_lt_of_cell? wr _ r0
        have hsz0 : w.heap.size < wr.heap.size := by omega
        by_cases hlt : i < L.bats.length
        · have hrow := HLR.out.bats
          rw [HV.out.2.2.1] at hrow
          obtain ⟨b, o, rfl, c0, c1⟩ := bt_at hrow i hlt
          have hrec := HLR.out.bats.recs L.bats[i] (List.getElem_mem _)
          obtain ⟨ra', rc', hrv', hrc', -⟩ := Rd.slice hrec
          rw [hrv'] at c1
          have hwr2 : IntKind.i64.wrap (L.sealed - (L.bats.length : Int)) = L.sealed - (L.bats.length : Int) := by rw [IntKind.wrap_i64]; omega
          have hwr3 : IntKind.i64.wrap (L.sealed - (L.bats.length : Int) + (i : Int)) = L.sealed - (L.bats.length : Int) + (i : Int) := by rw [IntKind.wrap_i64]; omega
          have HNE := Lib.hid (no_ep (L := L) i hlt)
          have HES := Lib.hid (epochsTo_succ L i hlt)
          clear hrow hrec hrv' hboxr
          generalize L.bats[i] = B at *
          obtain ⟨ep, rv', recs⟩ := B
          simp only at HNE HES c0 c1
          by_cases hq : recs.length ≤ 512 ∧ 0 ≤ ep ∧ ep = L.sealed - L.bats.length + i
          · have HQ := Lib.hid hq
            obtain ⟨q1, q2, q3⟩ := hq
            have d1 : decide ((512 : Int) < recs.length) = false := decide_eq_false (by omega)
            have d2 : decide (ep < 0) = false := decide_eq_false (by omega)
            have d3 : (ep != L.sealed - (L.bats.length : Int) + (i : Int)) = false := bne_eq_false_iff_eq.2 q3
            clear q1 q2 q3
            gi_wp2_with fail
            go_roundw
            case rel => exact ⟨i + 1, by omega, by go_num, by rw [HES.out, HTO.out, decide_eq_true ⟨HQ.out.1, HQ.out.2.2⟩]; rfl, below_box HB.out _⟩
            case measure => simp [intOf]; omega
          · have HG := Lib.hid (HNE.out hq)
            have hways : decide ((512 : Int) < recs.length) = true ∨ (decide ((512 : Int) < recs.length) = false ∧ decide (ep < 0) = true) ∨ (decide ((512 : Int) < recs.length) = false ∧ decide (ep < 0) = false ∧ (ep != L.sealed - (L.bats.length : Int) + (i : Int)) = true) := by
              simp only [decide_eq_true_eq, decide_eq_false_iff_not, bne_iff_ne]
              omega
            clear hq
            rcases hways with d1 | ⟨d1, d2⟩ | ⟨d1, d2, d3⟩
            all_goals
              gi_wp2_with fail
              refine ⟨.bool false, ?_, by rw [HG.out], (HBR.out.setCell (p := ⟨w.heap.size + 1, 0, none⟩) (by show w.heap.size ≤ w.heap.size + 1; omega) _).alloc (by simp; omega) _⟩
              simp [results, Try.results13, go_sem, cell_later (below_alloc _ _) (cell_set_same (.bool false) r0)]
        · obtain rfl : i = L.bats.length := by omega
          have c11 := hboxr 11 _ rfl
          have c12 := hboxr 12 _ rfl
          have c13 := hboxr 13 _ rfl
          have c14 := hboxr 14 _ rfl
          rw [HV.out.2.2.2] at c14
          have HBXR := Lib.hid hboxr
          by_cases hcnt : L.sealed - L.decided ≤ L.bats.length ∧ (L.bats.length : Int) ≤ L.sealed
          · have HCNT := Lib.hid hcnt
            obtain ⟨q1, q2⟩ := hcnt
            have d1 : decide ((L.bats.length : Int) < L.sealed - L.decided) = false := decide_eq_false (by omega)
            have d2 : decide (L.sealed < (L.bats.length : Int)) = false := decide_eq_false (by omega)
            clear q1 q2 hboxr
            cases hdep : L.dep with
            | true =>
              rw [hdep] at c13
              have HDEP := Lib.hid hdep
              clear hdep
              gi_wp2_with fail
              refine (callsIn_wide.2 (check_calls _ L.ops _ (by have := HLR.out.ops; rwa [HV.out.2.2.2] at this) (by have := HSM.out.ops; omega))).mono ?_
              rintro e w3 ⟨⟨kk, rfl⟩, hb3⟩
              have HB3 := Lib.hid (below_go HB.out hb3)
              have r0 := cell_later hb3 r0
              have rz := frozen_later hb3 (cell_later HB.out HR0.out.1) rz
              have hcb := graphCode_beq L.ops
              clear hb3 c11 c12 c13 c14
              cases hck : checkOk L.ops with
              | false =>
                rw [hck] at hcb
                have hcb2 : (graphCode L.ops != 0) = true := by simp [bne, hcb]
                have HG := Lib.hid (no_graph HDEP.out hck)
                clear hck
                gi_wp2_with fail
                refine ⟨.bool false, ?_, by rw [HG.out], (below_go HBW.out HB3.out).setCell (p := ⟨w.heap.size + 1, 0, none⟩) (by show w.heap.size ≤ w.heap.size + 1; omega) _⟩
                simp [results, Try.results13, go_sem, cell_set_same (.bool false) r0]
              | true =>
                rw [hck] at hcb
                have hcb2 : (graphCode L.ops != 0) = false := by simp [bne, hcb]
                have HGR2 := Lib.hid (show (if L.dep = true then checkOk L.ops = true else (L.ops.length = 0 ∧ L.sealed ≤ 0)) from by rw [if_pos HDEP.out]; exact hck)
                clear hck
                generalize graphCode L.ops = gco at *
                have HC3 := Lib.hid HB3.out
                have hs0 : w.heap.size < w3.heap.size := by have := World.block_lt_of_cell? w3 _ r0; simp at this; omega
                have hs1 : w.heap.size + 1 < w3.heap.size := by have := World.block_lt_of_cell? w3 _ r0; simpa using this
                have hbx := HBOX1.out.later HC3.out
                have c0 := hbx 0 _ rfl
                have c1 := hbx 1 _ rfl
                have c2 := hbx 2 _ rfl
                have c3 := hbx 3 _ rfl
                have c4 := hbx 4 _ rfl
                have c5 := hbx 5 _ rfl
                have c6 := hbx 6 _ rfl
                have c7 := hbx 7 _ rfl
                have c8 := hbx 8 _ rfl
                have c9 := hbx 9 _ rfl
                have c10 := hbx 10 _ rfl
                have c11 := hbx 11 _ rfl
                have c12 := hbx 12 _ rfl
                have c13 := hbx 13 _ rfl
                have c14 := hbx 14 _ rfl
                have c15 := hbx 15 _ rfl
                rw [HV.out.1] at c0
                rw [HV.out.2.1] at c9
                rw [HV.out.2.2.1] at c10
                rw [HDEP.out] at c13
                rw [HV.out.2.2.2] at c14
                have HBW3 := Lib.hid (below_go HBW.out HC3.out)
                have HLW3 := Lib.hid (HL1.out.below HC3.out (Nat.le_refl _))
                have HRW3 := Lib.hid (And.intro r0 rz)
                obtain ⟨Z, hZ⟩ : ∃ Z, Z = w3.alloc (.cells #[.int .i64 0, .int .i64 0, .int .i64 0, .int .i64 0, .int .i64 0, .int .i64 0, .int .i64 0, .int .i64 0] 23) := ⟨_, rfl⟩
                have hbZ : Below w3.heap.size w3 Z := by rw [hZ]; exact below_alloc _ _
                have hZs : Z.heap.size = w3.heap.size + 1 := by rw [hZ]; simp
                have hhv : Haves Z w3.heap.size L.all 0 := by
                  refine ⟨fun p hp => ?_, fun p => by rw [hZ, World.frozen?_alloc_at _ _ _ _ rfl]⟩
                  rw [hZ]
                  refine box_self p _ ?_
                  rcases (show p = 0 ∨ p = 1 ∨ p = 2 ∨ p = 3 ∨ p = 4 ∨ p = 5 ∨ p = 6 ∨ p = 7 from by omega) with rfl | rfl | rfl | rfl | rfl | rfl | rfl | rfl <;> rfl
                have hrecs := records_calls L Z
                have hbY := boxL_self Z L 30
                rw [HLC.out, HDEP.out] at hrecs hbY
                have HRECS := Lib.hid hrecs
                have HBYX := Lib.hid hbY
                have HZ := Lib.hid hZ
                have HBZ := Lib.hid hbZ
                have HZS := Lib.hid hZs
                have HHV := Lib.hid hhv
                clear hbx hrecs hbY hZ hbZ hZs hhv
                gi_wp2_with fail
                rw [← HZ.out]
                refine HRECS.out.mono ?_
                rintro e w4 ⟨rfl, rfl⟩
                clear HRECS
                obtain ⟨Y, hY⟩ : ∃ Y, Y = Z.alloc (.cells #[.slice ra L.rows.length rc, .int .i64 (L.C 0), .int .i64 (L.C 1), .int .i64 (L.C 2), .int .i64 (L.C 3), .int .i64 (L.C 4), .int .i64 (L.C 5), .int .i64 (L.C 6), .int .i64 (L.C 7), .slice oa L.opn.length oc, .slice ba L.bats.length bc, .int .i64 L.sealed, .int .i64 L.decided, .bool true, .slice ga L.ops.length gc, .int .i64 L.keep] 30) := ⟨_, rfl⟩
                rw [← hY] at HBYX ⊢
                have HBY := Lib.hid (show Below Z.heap.size Z Y from by rw [hY]; exact below_alloc _ _)
                have HHY := Lib.hid (HHV.out.below HBY.out)
                have HB3Y := Lib.hid (below_go HBZ.out HBY.out)
                clear hY c0 c1 c2 c3 c4 c5 c6 c7 c8 c9 c10 c11 c12 c13 c14 c15 HHV
                gi_wp2_with fail
                refine range_w (gf := 71) (lb := #[.pointer (some ⟨Z.heap.size, 0, none⟩)]) rfl (fun args w => enter_of Try.func71 (by kernel_rfl) rfl args w)
                  (fun k W => Only (fun j => j = w3.heap.size) Y W ∧ k ≤ L.all.length ∧ (∀ i, i < k → ∀ hi : i < L.all.length, goodRec L.all[i] = true) ∧ Haves W w3.heap.size L.all k)
                  (fun c W => c = .ret ∧ L.good = false ∧ Only (fun j => j = w3.heap.size ∨ j = w.heap.size + 1) Y W ∧ W.cell? ⟨w.heap.size + 1, 0, none⟩ = some (.bool false)) (RStep L) (fun k => k = L.all.length) 0
                  (fun s W W' hc h => ⟨h.1.calm (Nat.le_refl _) hc, h.2.1, h.2.2.1, h.2.2.2.calm hc⟩) (fun c W W' hc h => ⟨h.1, h.2.1, h.2.2.1.calm (Nat.le_refl _) hc, hc.cell h.2.2.2⟩) ⟨Only.refl _ _, Nat.zero_le _, fun i hi => by omega, HHY.out⟩ ?iter ?body ?done ?stop
                case iter =>
                  intro l J' Jx' W hm _ hJJ hc hJ0 hy
                  refine records1_iter L Z.heap.size l J' Jx' W HSM.out hm (fun s W h => ?_) hy hJ0
                  have ho := (hJJ s W h).1
                  have h3 := ho.below (B := w3.heap.size) (by have := HB3Y.out.size; omega) (fun j hj e => by omega)
                  exact ⟨HLW3.out.below (HB3Y.out.trans h3) (Nat.le_refl _), fun j v hj => ho.cell (by have := HZS.out; omega) (HBYX.out j v hj)⟩
                case body =>
                  intro l k args s' W hr hst hsz
                  obtain ⟨hlt, rfl, rfl⟩ := hst
                  have HR := Lib.hid hr
                  have HNR := Lib.hid (no_rec (L := L) k hlt)
                  have HST := Lib.hid (fun V (h : Haves V w3.heap.size L.all k) => Haves.step h hlt)
                  have hyl : Z.heap.size < Y.heap.size := World.block_lt_of_cell? Y _ (HBYX.out 0 _ rfl)
                  have hzl := HZS.out
                  clear hr
                  generalize hRk : L.all[k] = R at *
                  obtain ⟨rp, rs, rq, rkey, rval⟩ := R
                  have HRK := Lib.hid hRk
                  clear hRk
                  refine ⟨rfl, ?_⟩
                  gi_wp2_with fail
                  refine ⟨KeepsOthers.alloc _ _, fun W₂ hc => ?_⟩
                  have hc0 : Calm Y.heap.size W W₂ := (Calm.of_below hsz (below_alloc _ _)).trans hc
                  have b0 : W₂.cell? ⟨W.heap.size, 0, none⟩ = some (.int .i64 rp) := hc.cell (box_self 0 _ rfl)
                  have b1 : W₂.cell? ⟨W.heap.size, 1, none⟩ = some (.int .i64 rs) := hc.cell (box_self 1 _ rfl)
                  have b2 : W₂.cell? ⟨W.heap.size, 2, none⟩ = some (.int .i64 rq) := hc.cell (box_self 2 _ rfl)
                  have b3 : W₂.cell? ⟨W.heap.size, 3, none⟩ = some (.string rkey) := hc.cell (box_self 3 _ rfl)
                  have b4 : W₂.cell? ⟨W.heap.size, 4, none⟩ = some (.int .u32 rval) := hc.cell (box_self 4 _ rfl)
                  have HO2 := Lib.hid (HR.out.1.calm (Nat.le_refl _) hc0)
                  have HH2 := Lib.hid (HR.out.2.2.2.calm hc0)
                  clear hc hc0
                  gi_wp2_with fail
                  refine (CallsIn.inRound l (callsIn_wide.2 (pgood_calls ⟨rp, rs, rq, rkey, rval⟩ _))).mono ?_
                  rintro e w5 ⟨rfl, hb5⟩
                  have HB5 := Lib.hid hb5
                  have HO5 := Lib.hid (HO2.out.trans (Only.of_below (S := fun _ => False) hb5) (fun _ _ h => h.elim))
                  have b2 := cell_later hb5 b2
                  have HH5 := Lib.hid (HH2.out.below hb5)
                  clear hb5 b0 b1 b3 b4
                  cases hg : goodRec ⟨rp, rs, rq, rkey, rval⟩ with
                  | false =>
                    have HG := Lib.hid (HNR.out hg)
                    clear hg
                    have h0 : Y.cell? ⟨w.heap.size + 1, 0, none⟩ = some (.bool false) := cell_later HB3Y.out HRW3.out.1
                    have f0 : Y.frozen? ⟨w.heap.size + 1, 0, none⟩ = false := frozen_later HB3Y.out HRW3.out.1 HRW3.out.2
                    have r5 := HO5.out.cell (by omega) h0
                    have z5 := (HO5.out.frozen (o := 0) (by omega) (by omega)).trans f0
                    clear h0 f0
                    gi_wp2_with fail
                    exact ⟨(keeps_below HB5.out).trans (KeepsOthers.setCell _ _ _), rfl, HG.out, (HO5.out.weak (fun j _ h => .inl h)).setCell ⟨w.heap.size + 1, 0, none⟩ _ (.inl (.inr rfl)), cell_set_same _ r5⟩
                  | true =>
                    have hq := goodRec_part hg
                    simp only at hq
                    obtain ⟨p, hp⟩ : ∃ p : Nat, rq = p := ⟨rq.toNat, by omega⟩
                    have hp8 : p < 8 := by omega
                    subst hp
                    have HGR3 := Lib.hid hg
                    have d0 := HH5.out.c p hp8
                    have df := HH5.out.f p
                    have hle := have_le L.all k p
                    have hk := HR.out.2.1
                    have hall := HSM.out.all
                    have hwr4 : IntKind.i64.wrap ((have_ (L.all.take k) p : Int) + 1) = (have_ (L.all.take k) p : Int) + 1 := by rw [IntKind.wrap_i64]; omega
                    clear hg hq
                    gi_wp2_with fail
                    refine ⟨(keeps_below HB5.out).trans (KeepsOthers.setCell _ _ _), HO5.out.setCell ⟨w3.heap.size, p, none⟩ _ (.inl rfl), hlt, fun i hi hi' => ?_, HST.out _ HH5.out p hp8 rfl⟩
                    rcases (show i < k ∨ i = k from by omega) with h | rfl
                    · exact HR.out.2.2.1 i h hi'
                    · rw [HRK.out]; exact HGR3.out
                case done =>
                  intro D s W hD hs hr hK
                  subst hs
                  have HO := Lib.hid hr.1
                  have HALL := Lib.hid (all_good (fun i hi => hr.2.2.1 i hi hi))
                  have HH := Lib.hid hr.2.2.2
                  have HKD := Lib.hid hK
                  have h3 := hr.1.below (B := w3.heap.size) (by have := HB3Y.out.size; omega) (fun j hj e => by omega)
                  have HB3W := Lib.hid (HB3Y.out.trans h3)
                  have hbW := HBOX1.out.later (below_go HC3.out HB3W.out)
                  have c1 := hbW 1 _ rfl
                  have c2 := hbW 2 _ rfl
                  have c3 := hbW 3 _ rfl
                  have c4 := hbW 4 _ rfl
                  have c5 := hbW 5 _ rfl
                  have c6 := hbW 6 _ rfl
                  have c7 := hbW 7 _ rfl
                  have c8 := hbW 8 _ rfl
                  have r5 := cell_later HB3W.out HRW3.out.1
                  have z5 := frozen_later HB3W.out HRW3.out.1 HRW3.out.2
                  have hwW : w.heap.size + 1 < W.heap.size := by have := HB3W.out.size; omega
                  clear hr hK h3 hbW
                  gi_wp2_with fail
                  gi_loopw [10, 11, 131] (fun _ _ iv wr => ∃ p : Nat, p ≤ 8 ∧ iv = .int .i64 p ∧ countsTo L p = true ∧ Below W.heap.size W wr) (fun _ _ iv _ => 8 - (intOf iv).toNat)
                  case atStart => exact ⟨0, by omega, rfl, countsTo_zero L, Below.refl _ _⟩
                  case round =>
                    obtain ⟨p, hp, rfl, hcto, hb⟩ := hrel
                    have HCT := Lib.hid hcto
                    have HB := Lib.hid hb
                    have hrr := cell_later hb r5
                    have hrz := frozen_later hb r5 z5
                    clear hcto hb r5 z5 c1 c2 c3 c4 c5 c6 c7 c8
                    by_cases hp8 : p < 8
                    · have hcell := cell_later HB.out (HH.out.c p hp8)
                      have HSU := Lib.hid (countsTo_succ L p)
                      have HNC := Lib.hid (no_counts (L := L) p hp8)
                      rw [List.take_length] at hcell
                      rcases (show p = 0 ∨ p = 1 ∨ p = 2 ∨ p = 3 ∨ p = 4 ∨ p = 5 ∨ p = 6 ∨ p = 7 from by omega) with rfl | rfl | rfl | rfl | rfl | rfl | rfl | rfl
                      · simp only [Int.natCast_zero] at hcell HSU HNC
                        have hcnt := have_le L.all L.all.length
                        have hb_D : wr.heap[D]? = W.heap[D]? := HB.out.block D (Array.getElem?_eq_some_iff.1 HKD.out).1
                        have hDs : w.heap.size + 1 < D := by have := HB3Y.out.size; omega
                        generalize hhc : have_ L.all 0 = hc at *
                        have hix : ∀ V, (Instr.index 23 (.agg #[.int .i64 (L.C 0), .int .i64 (L.C 1), .int .i64 (L.C 2), .int .i64 (L.C 3), .int .i64 (L.C 4), .int .i64 (L.C 5), .int .i64 (L.C 6), .int .i64 (L.C 7)]) (.int .i64 0)).run Try.prog V = .ok (.int .i64 (L.C 0)) V := fun _ => by kernel_rfl
                        generalize hcc' : L.C 0 = cc  at *
                        by_cases hle : (hc : Int) ≤ cc
                        · have d1 : decide (cc < (hc : Int)) = false := decide_eq_false (by omega)
                          have HLE := Lib.hid hle
                          clear hle
                          gi_wp2_with fail
                          go_roundw
                          case rel => exact ⟨0 + 1, by omega, by go_num, by rw [HSU.out, HCT.out, decide_eq_true HLE.out]; rfl, HB.out⟩
                          case measure => simp [intOf]
                        · have d1 : decide (cc < (hc : Int)) = true := decide_eq_true (by omega)
                          have HG := Lib.hid (HNC.out hle)
                          clear hle
                          gi_wp2_with fail
                          have hK2 : (wr.setCell ⟨w.heap.size + 1, 0, none⟩ (.bool false)).heap[D]? = some (.deferred (some [])) := (heap_setCell_other wr ⟨w.heap.size + 1, 0, none⟩ D _ (by simp; omega)).trans (hb_D.trans HKD.out)
                          refine ⟨by simp, .inl ⟨_, _, rfl, run_takeDeferred hK2, ?_⟩⟩
                          have hcal := Calm.putObj (B := w.heap.size) (.deferred none) (by omega) hK2 rfl
                          have hcc := hcal.cell (a := ⟨w.heap.size + 1, 0, none⟩) (cell_set_same (.bool false) hrr)
                          refine ⟨.bool false, ?_, by rw [HG.out], (((HBW3.out.trans (HB3W.out.mono HBW3.out.size)).trans (HB.out.mono (by have := HBW3.out.size; have := HB3W.out.size; omega))).setCell (p := ⟨w.heap.size + 1, 0, none⟩) (by show w.heap.size ≤ w.heap.size + 1; omega) _).trans hcal.below⟩
                          simp [results, Try.results13, go_sem, hcc]
                      · simp only [Int.cast_ofNat_Int] at hcell HSU HNC
                        have hcnt := have_le L.all L.all.length
                        have hb_D : wr.heap[D]? = W.heap[D]? := HB.out.block D (Array.getElem?_eq_some_iff.1 HKD.out).1
                        have hDs : w.heap.size + 1 < D := by have := HB3Y.out.size; omega
                        generalize hhc : have_ L.all 1 = hc at *
                        have hix : ∀ V, (Instr.index 23 (.agg #[.int .i64 (L.C 0), .int .i64 (L.C 1), .int .i64 (L.C 2), .int .i64 (L.C 3), .int .i64 (L.C 4), .int .i64 (L.C 5), .int .i64 (L.C 6), .int .i64 (L.C 7)]) (.int .i64 1)).run Try.prog V = .ok (.int .i64 (L.C 1)) V := fun _ => by kernel_rfl
                        generalize hcc' : L.C 1 = cc  at *
                        by_cases hle : (hc : Int) ≤ cc
                        · have d1 : decide (cc < (hc : Int)) = false := decide_eq_false (by omega)
                          have HLE := Lib.hid hle
                          clear hle
                          gi_wp2_with fail
                          go_roundw
                          case rel => exact ⟨1 + 1, by omega, by go_num, by rw [HSU.out, HCT.out, decide_eq_true HLE.out]; rfl, HB.out⟩
                          case measure => simp [intOf]
                        · have d1 : decide (cc < (hc : Int)) = true := decide_eq_true (by omega)
                          have HG := Lib.hid (HNC.out hle)
                          clear hle
                          gi_wp2_with fail
                          have hK2 : (wr.setCell ⟨w.heap.size + 1, 0, none⟩ (.bool false)).heap[D]? = some (.deferred (some [])) := (heap_setCell_other wr ⟨w.heap.size + 1, 0, none⟩ D _ (by simp; omega)).trans (hb_D.trans HKD.out)
                          refine ⟨by simp, .inl ⟨_, _, rfl, run_takeDeferred hK2, ?_⟩⟩
                          have hcal := Calm.putObj (B := w.heap.size) (.deferred none) (by omega) hK2 rfl
                          have hcc := hcal.cell (a := ⟨w.heap.size + 1, 0, none⟩) (cell_set_same (.bool false) hrr)
                          refine ⟨.bool false, ?_, by rw [HG.out], (((HBW3.out.trans (HB3W.out.mono HBW3.out.size)).trans (HB.out.mono (by have := HBW3.out.size; have := HB3W.out.size; omega))).setCell (p := ⟨w.heap.size + 1, 0, none⟩) (by show w.heap.size ≤ w.heap.size + 1; omega) _).trans hcal.below⟩
                          simp [results, Try.results13, go_sem, hcc]
                      · simp only [Int.cast_ofNat_Int] at hcell HSU HNC
                        have hcnt := have_le L.all L.all.length
                        have hb_D : wr.heap[D]? = W.heap[D]? := HB.out.block D (Array.getElem?_eq_some_iff.1 HKD.out).1
                        have hDs : w.heap.size + 1 < D := by have := HB3Y.out.size; omega
                        generalize hhc : have_ L.all 2 = hc at *
                        have hix : ∀ V, (Instr.index 23 (.agg #[.int .i64 (L.C 0), .int .i64 (L.C 1), .int .i64 (L.C 2), .int .i64 (L.C 3), .int .i64 (L.C 4), .int .i64 (L.C 5), .int .i64 (L.C 6), .int .i64 (L.C 7)]) (.int .i64 2)).run Try.prog V = .ok (.int .i64 (L.C 2)) V := fun _ => by kernel_rfl
                        generalize hcc' : L.C 2 = cc  at *
                        by_cases hle : (hc : Int) ≤ cc
                        · have d1 : decide (cc < (hc : Int)) = false := decide_eq_false (by omega)
                          have HLE := Lib.hid hle
                          clear hle
                          gi_wp2_with fail
                          go_roundw
                          case rel => exact ⟨2 + 1, by omega, by go_num, by rw [HSU.out, HCT.out, decide_eq_true HLE.out]; rfl, HB.out⟩
                          case measure => simp [intOf]
                        · have d1 : decide (cc < (hc : Int)) = true := decide_eq_true (by omega)
                          have HG := Lib.hid (HNC.out hle)
                          clear hle
                          gi_wp2_with fail
                          have hK2 : (wr.setCell ⟨w.heap.size + 1, 0, none⟩ (.bool false)).heap[D]? = some (.deferred (some [])) := (heap_setCell_other wr ⟨w.heap.size + 1, 0, none⟩ D _ (by simp; omega)).trans (hb_D.trans HKD.out)
                          refine ⟨by simp, .inl ⟨_, _, rfl, run_takeDeferred hK2, ?_⟩⟩
                          have hcal := Calm.putObj (B := w.heap.size) (.deferred none) (by omega) hK2 rfl
                          have hcc := hcal.cell (a := ⟨w.heap.size + 1, 0, none⟩) (cell_set_same (.bool false) hrr)
                          refine ⟨.bool false, ?_, by rw [HG.out], (((HBW3.out.trans (HB3W.out.mono HBW3.out.size)).trans (HB.out.mono (by have := HBW3.out.size; have := HB3W.out.size; omega))).setCell (p := ⟨w.heap.size + 1, 0, none⟩) (by show w.heap.size ≤ w.heap.size + 1; omega) _).trans hcal.below⟩
                          simp [results, Try.results13, go_sem, hcc]
                      · simp only [Int.cast_ofNat_Int] at hcell HSU HNC
                        have hcnt := have_le L.all L.all.length
                        have hb_D : wr.heap[D]? = W.heap[D]? := HB.out.block D (Array.getElem?_eq_some_iff.1 HKD.out).1
                        have hDs : w.heap.size + 1 < D := by have := HB3Y.out.size; omega
                        generalize hhc : have_ L.all 3 = hc at *
                        have hix : ∀ V, (Instr.index 23 (.agg #[.int .i64 (L.C 0), .int .i64 (L.C 1), .int .i64 (L.C 2), .int .i64 (L.C 3), .int .i64 (L.C 4), .int .i64 (L.C 5), .int .i64 (L.C 6), .int .i64 (L.C 7)]) (.int .i64 3)).run Try.prog V = .ok (.int .i64 (L.C 3)) V := fun _ => by kernel_rfl
                        generalize hcc' : L.C 3 = cc  at *
                        by_cases hle : (hc : Int) ≤ cc
                        · have d1 : decide (cc < (hc : Int)) = false := decide_eq_false (by omega)
                          have HLE := Lib.hid hle
                          clear hle
                          gi_wp2_with fail
                          go_roundw
                          case rel => exact ⟨3 + 1, by omega, by go_num, by rw [HSU.out, HCT.out, decide_eq_true HLE.out]; rfl, HB.out⟩
                          case measure => simp [intOf]
                        · have d1 : decide (cc < (hc : Int)) = true := decide_eq_true (by omega)
                          have HG := Lib.hid (HNC.out hle)
                          clear hle
                          gi_wp2_with fail
                          have hK2 : (wr.setCell ⟨w.heap.size + 1, 0, none⟩ (.bool false)).heap[D]? = some (.deferred (some [])) := (heap_setCell_other wr ⟨w.heap.size + 1, 0, none⟩ D _ (by simp; omega)).trans (hb_D.trans HKD.out)
                          refine ⟨by simp, .inl ⟨_, _, rfl, run_takeDeferred hK2, ?_⟩⟩
                          have hcal := Calm.putObj (B := w.heap.size) (.deferred none) (by omega) hK2 rfl
                          have hcc := hcal.cell (a := ⟨w.heap.size + 1, 0, none⟩) (cell_set_same (.bool false) hrr)
                          refine ⟨.bool false, ?_, by rw [HG.out], (((HBW3.out.trans (HB3W.out.mono HBW3.out.size)).trans (HB.out.mono (by have := HBW3.out.size; have := HB3W.out.size; omega))).setCell (p := ⟨w.heap.size + 1, 0, none⟩) (by show w.heap.size ≤ w.heap.size + 1; omega) _).trans hcal.below⟩
                          simp [results, Try.results13, go_sem, hcc]
                      · simp only [Int.cast_ofNat_Int] at hcell HSU HNC
                        have hcnt := have_le L.all L.all.length
                        have hb_D : wr.heap[D]? = W.heap[D]? := HB.out.block D (Array.getElem?_eq_some_iff.1 HKD.out).1
                        have hDs : w.heap.size + 1 < D := by have := HB3Y.out.size; omega
                        generalize hhc : have_ L.all 4 = hc at *
                        have hix : ∀ V, (Instr.index 23 (.agg #[.int .i64 (L.C 0), .int .i64 (L.C 1), .int .i64 (L.C 2), .int .i64 (L.C 3), .int .i64 (L.C 4), .int .i64 (L.C 5), .int .i64 (L.C 6), .int .i64 (L.C 7)]) (.int .i64 4)).run Try.prog V = .ok (.int .i64 (L.C 4)) V := fun _ => by kernel_rfl
                        generalize hcc' : L.C 4 = cc  at *
                        by_cases hle : (hc : Int) ≤ cc
                        · have d1 : decide (cc < (hc : Int)) = false := decide_eq_false (by omega)
                          have HLE := Lib.hid hle
                          clear hle
                          gi_wp2_with fail
                          go_roundw
                          case rel => exact ⟨4 + 1, by omega, by go_num, by rw [HSU.out, HCT.out, decide_eq_true HLE.out]; rfl, HB.out⟩
                          case measure => simp [intOf]
                        · have d1 : decide (cc < (hc : Int)) = true := decide_eq_true (by omega)
                          have HG := Lib.hid (HNC.out hle)
                          clear hle
                          gi_wp2_with fail
                          have hK2 : (wr.setCell ⟨w.heap.size + 1, 0, none⟩ (.bool false)).heap[D]? = some (.deferred (some [])) := (heap_setCell_other wr ⟨w.heap.size + 1, 0, none⟩ D _ (by simp; omega)).trans (hb_D.trans HKD.out)
                          refine ⟨by simp, .inl ⟨_, _, rfl, run_takeDeferred hK2, ?_⟩⟩
                          have hcal := Calm.putObj (B := w.heap.size) (.deferred none) (by omega) hK2 rfl
                          have hcc := hcal.cell (a := ⟨w.heap.size + 1, 0, none⟩) (cell_set_same (.bool false) hrr)
                          refine ⟨.bool false, ?_, by rw [HG.out], (((HBW3.out.trans (HB3W.out.mono HBW3.out.size)).trans (HB.out.mono (by have := HBW3.out.size; have := HB3W.out.size; omega))).setCell (p := ⟨w.heap.size + 1, 0, none⟩) (by show w.heap.size ≤ w.heap.size + 1; omega) _).trans hcal.below⟩
                          simp [results, Try.results13, go_sem, hcc]
                      · simp only [Int.cast_ofNat_Int] at hcell HSU HNC
                        have hcnt := have_le L.all L.all.length
                        have hb_D : wr.heap[D]? = W.heap[D]? := HB.out.block D (Array.getElem?_eq_some_iff.1 HKD.out).1
                        have hDs : w.heap.size + 1 < D := by have := HB3Y.out.size; omega
                        generalize hhc : have_ L.all 5 = hc at *
                        have hix : ∀ V, (Instr.index 23 (.agg #[.int .i64 (L.C 0), .int .i64 (L.C 1), .int .i64 (L.C 2), .int .i64 (L.C 3), .int .i64 (L.C 4), .int .i64 (L.C 5), .int .i64 (L.C 6), .int .i64 (L.C 7)]) (.int .i64 5)).run Try.prog V = .ok (.int .i64 (L.C 5)) V := fun _ => by kernel_rfl
                        generalize hcc' : L.C 5 = cc  at *
                        by_cases hle : (hc : Int) ≤ cc
                        · have d1 : decide (cc < (hc : Int)) = false := decide_eq_false (by omega)
                          have HLE := Lib.hid hle
                          clear hle
                          gi_wp2_with fail
                          go_roundw
                          case rel => exact ⟨5 + 1, by omega, by go_num, by rw [HSU.out, HCT.out, decide_eq_true HLE.out]; rfl, HB.out⟩
                          case measure => simp [intOf]
                        · have d1 : decide (cc < (hc : Int)) = true := decide_eq_true (by omega)
                          have HG := Lib.hid (HNC.out hle)
                          clear hle
                          gi_wp2_with fail
                          have hK2 : (wr.setCell ⟨w.heap.size + 1, 0, none⟩ (.bool false)).heap[D]? = some (.deferred (some [])) := (heap_setCell_other wr ⟨w.heap.size + 1, 0, none⟩ D _ (by simp; omega)).trans (hb_D.trans HKD.out)
                          refine ⟨by simp, .inl ⟨_, _, rfl, run_takeDeferred hK2, ?_⟩⟩
                          have hcal := Calm.putObj (B := w.heap.size) (.deferred none) (by omega) hK2 rfl
                          have hcc := hcal.cell (a := ⟨w.heap.size + 1, 0, none⟩) (cell_set_same (.bool false) hrr)
                          refine ⟨.bool false, ?_, by rw [HG.out], (((HBW3.out.trans (HB3W.out.mono HBW3.out.size)).trans (HB.out.mono (by have := HBW3.out.size; have := HB3W.out.size; omega))).setCell (p := ⟨w.heap.size + 1, 0, none⟩) (by show w.heap.size ≤ w.heap.size + 1; omega) _).trans hcal.below⟩
                          simp [results, Try.results13, go_sem, hcc]
                      · simp only [Int.cast_ofNat_Int] at hcell HSU HNC
                        have hcnt := have_le L.all L.all.length
                        have hb_D : wr.heap[D]? = W.heap[D]? := HB.out.block D (Array.getElem?_eq_some_iff.1 HKD.out).1
                        have hDs : w.heap.size + 1 < D := by have := HB3Y.out.size; omega
                        generalize hhc : have_ L.all 6 = hc at *
                        have hix : ∀ V, (Instr.index 23 (.agg #[.int .i64 (L.C 0), .int .i64 (L.C 1), .int .i64 (L.C 2), .int .i64 (L.C 3), .int .i64 (L.C 4), .int .i64 (L.C 5), .int .i64 (L.C 6), .int .i64 (L.C 7)]) (.int .i64 6)).run Try.prog V = .ok (.int .i64 (L.C 6)) V := fun _ => by kernel_rfl
                        generalize hcc' : L.C 6 = cc  at *
                        by_cases hle : (hc : Int) ≤ cc
                        · have d1 : decide (cc < (hc : Int)) = false := decide_eq_false (by omega)
                          have HLE := Lib.hid hle
                          clear hle
                          gi_wp2_with fail
                          go_roundw
                          case rel => exact ⟨6 + 1, by omega, by go_num, by rw [HSU.out, HCT.out, decide_eq_true HLE.out]; rfl, HB.out⟩
                          case measure => simp [intOf]
                        · have d1 : decide (cc < (hc : Int)) = true := decide_eq_true (by omega)
                          have HG := Lib.hid (HNC.out hle)
                          clear hle
                          gi_wp2_with fail
                          have hK2 : (wr.setCell ⟨w.heap.size + 1, 0, none⟩ (.bool false)).heap[D]? = some (.deferred (some [])) := (heap_setCell_other wr ⟨w.heap.size + 1, 0, none⟩ D _ (by simp; omega)).trans (hb_D.trans HKD.out)
                          refine ⟨by simp, .inl ⟨_, _, rfl, run_takeDeferred hK2, ?_⟩⟩
                          have hcal := Calm.putObj (B := w.heap.size) (.deferred none) (by omega) hK2 rfl
                          have hcc := hcal.cell (a := ⟨w.heap.size + 1, 0, none⟩) (cell_set_same (.bool false) hrr)
                          refine ⟨.bool false, ?_, by rw [HG.out], (((HBW3.out.trans (HB3W.out.mono HBW3.out.size)).trans (HB.out.mono (by have := HBW3.out.size; have := HB3W.out.size; omega))).setCell (p := ⟨w.heap.size + 1, 0, none⟩) (by show w.heap.size ≤ w.heap.size + 1; omega) _).trans hcal.below⟩
                          simp [results, Try.results13, go_sem, hcc]
                      · simp only [Int.cast_ofNat_Int] at hcell HSU HNC
                        have hcnt := have_le L.all L.all.length
                        have hb_D : wr.heap[D]? = W.heap[D]? := HB.out.block D (Array.getElem?_eq_some_iff.1 HKD.out).1
                        have hDs : w.heap.size + 1 < D := by have := HB3Y.out.size; omega
                        generalize hhc : have_ L.all 7 = hc at *
                        have hix : ∀ V, (Instr.index 23 (.agg #[.int .i64 (L.C 0), .int .i64 (L.C 1), .int .i64 (L.C 2), .int .i64 (L.C 3), .int .i64 (L.C 4), .int .i64 (L.C 5), .int .i64 (L.C 6), .int .i64 (L.C 7)]) (.int .i64 7)).run Try.prog V = .ok (.int .i64 (L.C 7)) V := fun _ => by kernel_rfl
                        generalize hcc' : L.C 7 = cc  at *
                        by_cases hle : (hc : Int) ≤ cc
                        · have d1 : decide (cc < (hc : Int)) = false := decide_eq_false (by omega)
                          have HLE := Lib.hid hle
                          clear hle
                          gi_wp2_with fail
                          go_roundw
                          case rel => exact ⟨7 + 1, by omega, by go_num, by rw [HSU.out, HCT.out, decide_eq_true HLE.out]; rfl, HB.out⟩
                          case measure => simp [intOf]
                        · have d1 : decide (cc < (hc : Int)) = true := decide_eq_true (by omega)
                          have HG := Lib.hid (HNC.out hle)
                          clear hle
                          gi_wp2_with fail
                          have hK2 : (wr.setCell ⟨w.heap.size + 1, 0, none⟩ (.bool false)).heap[D]? = some (.deferred (some [])) := (heap_setCell_other wr ⟨w.heap.size + 1, 0, none⟩ D _ (by simp; omega)).trans (hb_D.trans HKD.out)
                          refine ⟨by simp, .inl ⟨_, _, rfl, run_takeDeferred hK2, ?_⟩⟩
                          have hcal := Calm.putObj (B := w.heap.size) (.deferred none) (by omega) hK2 rfl
                          have hcc := hcal.cell (a := ⟨w.heap.size + 1, 0, none⟩) (cell_set_same (.bool false) hrr)
                          refine ⟨.bool false, ?_, by rw [HG.out], (((HBW3.out.trans (HB3W.out.mono HBW3.out.size)).trans (HB.out.mono (by have := HBW3.out.size; have := HB3W.out.size; omega))).setCell (p := ⟨w.heap.size + 1, 0, none⟩) (by show w.heap.size ≤ w.heap.size + 1; omega) _).trans hcal.below⟩
                          simp [results, Try.results13, go_sem, hcc]
                    · have hb_D : wr.heap[D]? = W.heap[D]? := HB.out.block D (Array.getElem?_eq_some_iff.1 HKD.out).1
                      obtain rfl : p = 8 := by omega
                      have HGOOD := Lib.hid ((good_iff L).2 ⟨⟨HGR.out, HN.out, HTO.out, HCNT.out, HGR2.out⟩, HALL.out, HCT.out⟩)
                      have hDs : w.heap.size + 1 < D := by have := HB3Y.out.size; omega
                      gi_wp2_with fail
                      have hK2 : (wr.setCell ⟨w.heap.size + 1, 0, none⟩ (.bool true)).heap[D]? = some (.deferred (some [])) := (heap_setCell_other wr ⟨w.heap.size + 1, 0, none⟩ D _ (by simp; omega)).trans (hb_D.trans HKD.out)
                      refine ⟨by simp, .inl ⟨_, _, rfl, run_takeDeferred hK2, ?_⟩⟩
                      have hcal := Calm.putObj (B := w.heap.size) (.deferred none) (by omega) hK2 rfl
                      have hcc := hcal.cell (a := ⟨w.heap.size + 1, 0, none⟩) (cell_set_same (.bool true) hrr)
                      refine ⟨.bool true, ?_, by rw [HGOOD.out], (((HBW3.out.trans (HB3W.out.mono HBW3.out.size)).trans (HB.out.mono (by have := HBW3.out.size; have := HB3W.out.size; omega))).setCell (p := ⟨w.heap.size + 1, 0, none⟩) (by show w.heap.size ≤ w.heap.size + 1; omega) _).trans hcal.below⟩
                      simp [results, Try.results13, go_sem, hcc]
                case stop =>
                  intro D c W hD hr hK
                  obtain ⟨rfl, hg, ho, hz⟩ := hr
                  have HG := Lib.hid hg
                  have HZ5 := Lib.hid hz
                  have HKD := Lib.hid hK
                  have HBE := Lib.hid (ho.below (B := w.heap.size) (by have := HB3Y.out.size; omega) (fun j hj e => by omega))
                  have hDs : w.heap.size ≤ D := by have := HB3Y.out.size; omega
                  have hys := HB3Y.out.size
                  clear hg ho hz hK
                  gi_wp2_with fail
                  refine ⟨by simp, .inl ⟨_, _, rfl, run_takeDeferred HKD.out, ?_⟩⟩
                  have hcal := Calm.putObj (B := w.heap.size) (.deferred none) hDs HKD.out rfl
                  have hcc := hcal.cell (a := ⟨w.heap.size + 1, 0, none⟩) HZ5.out
                  refine ⟨.bool false, ?_, by rw [HG.out], (((HBW3.out.trans (HB3Y.out.mono HBW3.out.size)).trans HBE.out)).trans hcal.below⟩
                  simp [results, Try.results13, go_sem, hcc]
            | false =>
              rw [hdep] at c13
              by_cases hbare : L.ops.length = 0 ∧ L.sealed ≤ 0
              · have HGR2 := Lib.hid (show (if L.dep = true then checkOk L.ops = true else (L.ops.length = 0 ∧ L.sealed ≤ 0)) from by rw [if_neg (by rw [hdep]; decide)]; exact hbare)
                have d3 : decide (0 < L.ops.length) = false := decide_eq_false (by omega)
                have d3' : decide ((0 : Int) < L.ops.length) = false := decide_eq_false (by omega)
                have d4 : decide (0 < L.sealed) = false := decide_eq_false (by omega)
                have HDEP := Lib.hid hdep
                clear hdep hbare c11 c12 c13 c14
                have HC3 := Lib.hid HB.out
                have hs0 : w.heap.size < wr.heap.size := by have := World.block_lt_of_cell? wr _ r0; simp at this; omega
                have hs1 : w.heap.size + 1 < wr.heap.size := by have := World.block_lt_of_cell? wr _ r0; simpa using this
                have hbx := HBOX1.out.later HC3.out
                have c0 := hbx 0 _ rfl
                have c1 := hbx 1 _ rfl
                have c2 := hbx 2 _ rfl
                have c3 := hbx 3 _ rfl
                have c4 := hbx 4 _ rfl
                have c5 := hbx 5 _ rfl
                have c6 := hbx 6 _ rfl
                have c7 := hbx 7 _ rfl
                have c8 := hbx 8 _ rfl
                have c9 := hbx 9 _ rfl
                have c10 := hbx 10 _ rfl
                have c11 := hbx 11 _ rfl
                have c12 := hbx 12 _ rfl
                have c13 := hbx 13 _ rfl
                have c14 := hbx 14 _ rfl
                have c15 := hbx 15 _ rfl
                rw [HV.out.1] at c0
                rw [HV.out.2.1] at c9
                rw [HV.out.2.2.1] at c10
                rw [HDEP.out] at c13
                rw [HV.out.2.2.2] at c14
                have HBW3 := Lib.hid (below_go HBW.out HC3.out)
                have HLW3 := Lib.hid (HL1.out.below HC3.out (Nat.le_refl _))
                have HRW3 := Lib.hid (And.intro r0 rz)
                obtain ⟨Z, hZ⟩ : ∃ Z, Z = wr.alloc (.cells #[.int .i64 0, .int .i64 0, .int .i64 0, .int .i64 0, .int .i64 0, .int .i64 0, .int .i64 0, .int .i64 0] 23) := ⟨_, rfl⟩
                have hbZ : Below wr.heap.size wr Z := by rw [hZ]; exact below_alloc _ _
                have hZs : Z.heap.size = wr.heap.size + 1 := by rw [hZ]; simp
                have hhv : Haves Z wr.heap.size L.all 0 := by
                  refine ⟨fun p hp => ?_, fun p => by rw [hZ, World.frozen?_alloc_at _ _ _ _ rfl]⟩
                  rw [hZ]
                  refine box_self p _ ?_
                  rcases (show p = 0 ∨ p = 1 ∨ p = 2 ∨ p = 3 ∨ p = 4 ∨ p = 5 ∨ p = 6 ∨ p = 7 from by omega) with rfl | rfl | rfl | rfl | rfl | rfl | rfl | rfl <;> rfl
                have hrecs := records_calls L Z
                have hbY := boxL_self Z L 30
                rw [HLC.out, HDEP.out] at hrecs hbY
                have HRECS := Lib.hid hrecs
                have HBYX := Lib.hid hbY
                have HZ := Lib.hid hZ
                have HBZ := Lib.hid hbZ
                have HZS := Lib.hid hZs
                have HHV := Lib.hid hhv
                clear hbx hrecs hbY hZ hbZ hZs hhv
                gi_wp2_with fail
                rw [← HZ.out]
                refine HRECS.out.mono ?_
                rintro e w4 ⟨rfl, rfl⟩
                clear HRECS
                obtain ⟨Y, hY⟩ : ∃ Y, Y = Z.alloc (.cells #[.slice ra L.rows.length rc, .int .i64 (L.C 0), .int .i64 (L.C 1), .int .i64 (L.C 2), .int .i64 (L.C 3), .int .i64 (L.C 4), .int .i64 (L.C 5), .int .i64 (L.C 6), .int .i64 (L.C 7), .slice oa L.opn.length oc, .slice ba L.bats.length bc, .int .i64 L.sealed, .int .i64 L.decided, .bool false, .slice ga L.ops.length gc, .int .i64 L.keep] 30) := ⟨_, rfl⟩
                rw [← hY] at HBYX ⊢
                have HBY := Lib.hid (show Below Z.heap.size Z Y from by rw [hY]; exact below_alloc _ _)
                have HHY := Lib.hid (HHV.out.below HBY.out)
                have HB3Y := Lib.hid (below_go HBZ.out HBY.out)
                clear hY c0 c1 c2 c3 c4 c5 c6 c7 c8 c9 c10 c11 c12 c13 c14 c15 HHV
                gi_wp2_with fail
                refine range_w (gf := 71) (lb := #[.pointer (some ⟨Z.heap.size, 0, none⟩)]) rfl (fun args w => enter_of Try.func71 (by kernel_rfl) rfl args w)
                  (fun k W => Only (fun j => j = wr.heap.size) Y W ∧ k ≤ L.all.length ∧ (∀ i, i < k → ∀ hi : i < L.all.length, goodRec L.all[i] = true) ∧ Haves W wr.heap.size L.all k)
                  (fun c W => c = .ret ∧ L.good = false ∧ Only (fun j => j = wr.heap.size ∨ j = w.heap.size + 1) Y W ∧ W.cell? ⟨w.heap.size + 1, 0, none⟩ = some (.bool false)) (RStep L) (fun k => k = L.all.length) 0
                  (fun s W W' hc h => ⟨h.1.calm (Nat.le_refl _) hc, h.2.1, h.2.2.1, h.2.2.2.calm hc⟩) (fun c W W' hc h => ⟨h.1, h.2.1, h.2.2.1.calm (Nat.le_refl _) hc, hc.cell h.2.2.2⟩) ⟨Only.refl _ _, Nat.zero_le _, fun i hi => by omega, HHY.out⟩ ?iter ?body ?done ?stop
                case iter =>
                  intro l J' Jx' W hm _ hJJ hc hJ0 hy
                  refine records1_iter L Z.heap.size l J' Jx' W HSM.out hm (fun s W h => ?_) hy hJ0
                  have ho := (hJJ s W h).1
                  have h3 := ho.below (B := wr.heap.size) (by have := HB3Y.out.size; omega) (fun j hj e => by omega)
                  exact ⟨HLW3.out.below (HB3Y.out.trans h3) (Nat.le_refl _), fun j v hj => ho.cell (by have := HZS.out; omega) (HBYX.out j v hj)⟩
                case body =>
                  intro l k args s' W hr hst hsz
                  obtain ⟨hlt, rfl, rfl⟩ := hst
                  have HR := Lib.hid hr
                  have HNR := Lib.hid (no_rec (L := L) k hlt)
                  have HST := Lib.hid (fun V (h : Haves V wr.heap.size L.all k) => Haves.step h hlt)
                  have hyl : Z.heap.size < Y.heap.size := World.block_lt_of_cell? Y _ (HBYX.out 0 _ rfl)
                  have hzl := HZS.out
                  clear hr
                  generalize hRk : L.all[k] = R at *
                  obtain ⟨rp, rs, rq, rkey, rval⟩ := R
                  have HRK := Lib.hid hRk
                  clear hRk
                  refine ⟨rfl, ?_⟩
                  gi_wp2_with fail
                  refine ⟨KeepsOthers.alloc _ _, fun W₂ hc => ?_⟩
                  have hc0 : Calm Y.heap.size W W₂ := (Calm.of_below hsz (below_alloc _ _)).trans hc
                  have b0 : W₂.cell? ⟨W.heap.size, 0, none⟩ = some (.int .i64 rp) := hc.cell (box_self 0 _ rfl)
                  have b1 : W₂.cell? ⟨W.heap.size, 1, none⟩ = some (.int .i64 rs) := hc.cell (box_self 1 _ rfl)
                  have b2 : W₂.cell? ⟨W.heap.size, 2, none⟩ = some (.int .i64 rq) := hc.cell (box_self 2 _ rfl)
                  have b3 : W₂.cell? ⟨W.heap.size, 3, none⟩ = some (.string rkey) := hc.cell (box_self 3 _ rfl)
                  have b4 : W₂.cell? ⟨W.heap.size, 4, none⟩ = some (.int .u32 rval) := hc.cell (box_self 4 _ rfl)
                  have HO2 := Lib.hid (HR.out.1.calm (Nat.le_refl _) hc0)
                  have HH2 := Lib.hid (HR.out.2.2.2.calm hc0)
                  clear hc hc0
                  gi_wp2_with fail
                  refine (CallsIn.inRound l (callsIn_wide.2 (pgood_calls ⟨rp, rs, rq, rkey, rval⟩ _))).mono ?_
                  rintro e w5 ⟨rfl, hb5⟩
                  have HB5 := Lib.hid hb5
                  have HO5 := Lib.hid (HO2.out.trans (Only.of_below (S := fun _ => False) hb5) (fun _ _ h => h.elim))
                  have b2 := cell_later hb5 b2
                  have HH5 := Lib.hid (HH2.out.below hb5)
                  clear hb5 b0 b1 b3 b4
                  cases hg : goodRec ⟨rp, rs, rq, rkey, rval⟩ with
                  | false =>
                    have HG := Lib.hid (HNR.out hg)
                    clear hg
                    have h0 : Y.cell? ⟨w.heap.size + 1, 0, none⟩ = some (.bool false) := cell_later HB3Y.out HRW3.out.1
                    have f0 : Y.frozen? ⟨w.heap.size + 1, 0, none⟩ = false := frozen_later HB3Y.out HRW3.out.1 HRW3.out.2
                    have r5 := HO5.out.cell (by omega) h0
                    have z5 := (HO5.out.frozen (o := 0) (by omega) (by omega)).trans f0
                    clear h0 f0
                    gi_wp2_with fail
                    exact ⟨(keeps_below HB5.out).trans (KeepsOthers.setCell _ _ _), rfl, HG.out, (HO5.out.weak (fun j _ h => .inl h)).setCell ⟨w.heap.size + 1, 0, none⟩ _ (.inl (.inr rfl)), cell_set_same _ r5⟩
                  | true =>
                    have hq := goodRec_part hg
                    simp only at hq
                    obtain ⟨p, hp⟩ : ∃ p : Nat, rq = p := ⟨rq.toNat, by omega⟩
                    have hp8 : p < 8 := by omega
                    subst hp
                    have HGR3 := Lib.hid hg
                    have d0 := HH5.out.c p hp8
                    have df := HH5.out.f p
                    have hle := have_le L.all k p
                    have hk := HR.out.2.1
                    have hall := HSM.out.all
                    have hwr4 : IntKind.i64.wrap ((have_ (L.all.take k) p : Int) + 1) = (have_ (L.all.take k) p : Int) + 1 := by rw [IntKind.wrap_i64]; omega
                    clear hg hq
                    gi_wp2_with fail
                    refine ⟨(keeps_below HB5.out).trans (KeepsOthers.setCell _ _ _), HO5.out.setCell ⟨wr.heap.size, p, none⟩ _ (.inl rfl), hlt, fun i hi hi' => ?_, HST.out _ HH5.out p hp8 rfl⟩
                    rcases (show i < k ∨ i = k from by omega) with h | rfl
                    · exact HR.out.2.2.1 i h hi'
                    · rw [HRK.out]; exact HGR3.out
                case done =>
                  intro D s W hD hs hr hK
                  subst hs
                  have HO := Lib.hid hr.1
                  have HALL := Lib.hid (all_good (fun i hi => hr.2.2.1 i hi hi))
                  have HH := Lib.hid hr.2.2.2
                  have HKD := Lib.hid hK
                  have h3 := hr.1.below (B := wr.heap.size) (by have := HB3Y.out.size; omega) (fun j hj e => by omega)
                  have HB3W := Lib.hid (HB3Y.out.trans h3)
                  have hbW := HBOX1.out.later (below_go HC3.out HB3W.out)
                  have c1 := hbW 1 _ rfl
                  have c2 := hbW 2 _ rfl
                  have c3 := hbW 3 _ rfl
                  have c4 := hbW 4 _ rfl
                  have c5 := hbW 5 _ rfl
                  have c6 := hbW 6 _ rfl
                  have c7 := hbW 7 _ rfl
                  have c8 := hbW 8 _ rfl
                  have r5 := cell_later HB3W.out HRW3.out.1
                  have z5 := frozen_later HB3W.out HRW3.out.1 HRW3.out.2
                  have hwW : w.heap.size + 1 < W.heap.size := by have := HB3W.out.size; omega
                  clear hr hK h3 hbW
                  gi_wp2_with fail
                  gi_loopw [10, 11, 131] (fun _ _ iv wr => ∃ p : Nat, p ≤ 8 ∧ iv = .int .i64 p ∧ countsTo L p = true ∧ Below W.heap.size W wr) (fun _ _ iv _ => 8 - (intOf iv).toNat)
                  case atStart => exact ⟨0, by omega, rfl, countsTo_zero L, Below.refl _ _⟩
                  case round =>
                    obtain ⟨p, hp, rfl, hcto, hb⟩ := hrel
                    have HCT := Lib.hid hcto
                    have HB := Lib.hid hb
                    have hrr := cell_later hb r5
                    have hrz := frozen_later hb r5 z5
                    clear hcto hb r5 z5 c1 c2 c3 c4 c5 c6 c7 c8
                    by_cases hp8 : p < 8
                    · have hcell := cell_later HB.out (HH.out.c p hp8)
                      have HSU := Lib.hid (countsTo_succ L p)
                      have HNC := Lib.hid (no_counts (L := L) p hp8)
                      rw [List.take_length] at hcell
                      rcases (show p = 0 ∨ p = 1 ∨ p = 2 ∨ p = 3 ∨ p = 4 ∨ p = 5 ∨ p = 6 ∨ p = 7 from by omega) with rfl | rfl | rfl | rfl | rfl | rfl | rfl | rfl
                      · simp only [Int.natCast_zero] at hcell HSU HNC
                        have hcnt := have_le L.all L.all.length
                        have hb_D : wr.heap[D]? = W.heap[D]? := HB.out.block D (Array.getElem?_eq_some_iff.1 HKD.out).1
                        have hDs : w.heap.size + 1 < D := by have := HB3Y.out.size; omega
                        generalize hhc : have_ L.all 0 = hc at *
                        have hix : ∀ V, (Instr.index 23 (.agg #[.int .i64 (L.C 0), .int .i64 (L.C 1), .int .i64 (L.C 2), .int .i64 (L.C 3), .int .i64 (L.C 4), .int .i64 (L.C 5), .int .i64 (L.C 6), .int .i64 (L.C 7)]) (.int .i64 0)).run Try.prog V = .ok (.int .i64 (L.C 0)) V := fun _ => by kernel_rfl
                        generalize hcc' : L.C 0 = cc  at *
                        by_cases hle : (hc : Int) ≤ cc
                        · have d1 : decide (cc < (hc : Int)) = false := decide_eq_false (by omega)
                          have HLE := Lib.hid hle
                          clear hle
                          gi_wp2_with fail
                          go_roundw
                          case rel => exact ⟨0 + 1, by omega, by go_num, by rw [HSU.out, HCT.out, decide_eq_true HLE.out]; rfl, HB.out⟩
                          case measure => simp [intOf]
                        · have d1 : decide (cc < (hc : Int)) = true := decide_eq_true (by omega)
                          have HG := Lib.hid (HNC.out hle)
                          clear hle
                          gi_wp2_with fail
                          have hK2 : (wr.setCell ⟨w.heap.size + 1, 0, none⟩ (.bool false)).heap[D]? = some (.deferred (some [])) := (heap_setCell_other wr ⟨w.heap.size + 1, 0, none⟩ D _ (by simp; omega)).trans (hb_D.trans HKD.out)
                          refine ⟨by simp, .inl ⟨_, _, rfl, run_takeDeferred hK2, ?_⟩⟩
                          have hcal := Calm.putObj (B := w.heap.size) (.deferred none) (by omega) hK2 rfl
                          have hcc := hcal.cell (a := ⟨w.heap.size + 1, 0, none⟩) (cell_set_same (.bool false) hrr)
                          refine ⟨.bool false, ?_, by rw [HG.out], (((HBW3.out.trans (HB3W.out.mono HBW3.out.size)).trans (HB.out.mono (by have := HBW3.out.size; have := HB3W.out.size; omega))).setCell (p := ⟨w.heap.size + 1, 0, none⟩) (by show w.heap.size ≤ w.heap.size + 1; omega) _).trans hcal.below⟩
                          simp [results, Try.results13, go_sem, hcc]
                      · simp only [Int.cast_ofNat_Int] at hcell HSU HNC
                        have hcnt := have_le L.all L.all.length
                        have hb_D : wr.heap[D]? = W.heap[D]? := HB.out.block D (Array.getElem?_eq_some_iff.1 HKD.out).1
                        have hDs : w.heap.size + 1 < D := by have := HB3Y.out.size; omega
                        generalize hhc : have_ L.all 1 = hc at *
                        have hix : ∀ V, (Instr.index 23 (.agg #[.int .i64 (L.C 0), .int .i64 (L.C 1), .int .i64 (L.C 2), .int .i64 (L.C 3), .int .i64 (L.C 4), .int .i64 (L.C 5), .int .i64 (L.C 6), .int .i64 (L.C 7)]) (.int .i64 1)).run Try.prog V = .ok (.int .i64 (L.C 1)) V := fun _ => by kernel_rfl
                        generalize hcc' : L.C 1 = cc  at *
                        by_cases hle : (hc : Int) ≤ cc
                        · have d1 : decide (cc < (hc : Int)) = false := decide_eq_false (by omega)
                          have HLE := Lib.hid hle
                          clear hle
                          gi_wp2_with fail
                          go_roundw
                          case rel => exact ⟨1 + 1, by omega, by go_num, by rw [HSU.out, HCT.out, decide_eq_true HLE.out]; rfl, HB.out⟩
                          case measure => simp [intOf]
                        · have d1 : decide (cc < (hc : Int)) = true := decide_eq_true (by omega)
                          have HG := Lib.hid (HNC.out hle)
                          clear hle
                          gi_wp2_with fail
                          have hK2 : (wr.setCell ⟨w.heap.size + 1, 0, none⟩ (.bool false)).heap[D]? = some (.deferred (some [])) := (heap_setCell_other wr ⟨w.heap.size + 1, 0, none⟩ D _ (by simp; omega)).trans (hb_D.trans HKD.out)
                          refine ⟨by simp, .inl ⟨_, _, rfl, run_takeDeferred hK2, ?_⟩⟩
                          have hcal := Calm.putObj (B := w.heap.size) (.deferred none) (by omega) hK2 rfl
                          have hcc := hcal.cell (a := ⟨w.heap.size + 1, 0, none⟩) (cell_set_same (.bool false) hrr)
                          refine ⟨.bool false, ?_, by rw [HG.out], (((HBW3.out.trans (HB3W.out.mono HBW3.out.size)).trans (HB.out.mono (by have := HBW3.out.size; have := HB3W.out.size; omega))).setCell (p := ⟨w.heap.size + 1, 0, none⟩) (by show w.heap.size ≤ w.heap.size + 1; omega) _).trans hcal.below⟩
                          simp [results, Try.results13, go_sem, hcc]
                      · simp only [Int.cast_ofNat_Int] at hcell HSU HNC
                        have hcnt := have_le L.all L.all.length
                        have hb_D : wr.heap[D]? = W.heap[D]? := HB.out.block D (Array.getElem?_eq_some_iff.1 HKD.out).1
                        have hDs : w.heap.size + 1 < D := by have := HB3Y.out.size; omega
                        generalize hhc : have_ L.all 2 = hc at *
                        have hix : ∀ V, (Instr.index 23 (.agg #[.int .i64 (L.C 0), .int .i64 (L.C 1), .int .i64 (L.C 2), .int .i64 (L.C 3), .int .i64 (L.C 4), .int .i64 (L.C 5), .int .i64 (L.C 6), .int .i64 (L.C 7)]) (.int .i64 2)).run Try.prog V = .ok (.int .i64 (L.C 2)) V := fun _ => by kernel_rfl
                        generalize hcc' : L.C 2 = cc  at *
                        by_cases hle : (hc : Int) ≤ cc
                        · have d1 : decide (cc < (hc : Int)) = false := decide_eq_false (by omega)
                          have HLE := Lib.hid hle
                          clear hle
                          gi_wp2_with fail
                          go_roundw
                          case rel => exact ⟨2 + 1, by omega, by go_num, by rw [HSU.out, HCT.out, decide_eq_true HLE.out]; rfl, HB.out⟩
                          case measure => simp [intOf]
                        · have d1 : decide (cc < (hc : Int)) = true := decide_eq_true (by omega)
                          have HG := Lib.hid (HNC.out hle)
                          clear hle
                          gi_wp2_with fail
                          have hK2 : (wr.setCell ⟨w.heap.size + 1, 0, none⟩ (.bool false)).heap[D]? = some (.deferred (some [])) := (heap_setCell_other wr ⟨w.heap.size + 1, 0, none⟩ D _ (by simp; omega)).trans (hb_D.trans HKD.out)
                          refine ⟨by simp, .inl ⟨_, _, rfl, run_takeDeferred hK2, ?_⟩⟩
                          have hcal := Calm.putObj (B := w.heap.size) (.deferred none) (by omega) hK2 rfl
                          have hcc := hcal.cell (a := ⟨w.heap.size + 1, 0, none⟩) (cell_set_same (.bool false) hrr)
                          refine ⟨.bool false, ?_, by rw [HG.out], (((HBW3.out.trans (HB3W.out.mono HBW3.out.size)).trans (HB.out.mono (by have := HBW3.out.size; have := HB3W.out.size; omega))).setCell (p := ⟨w.heap.size + 1, 0, none⟩) (by show w.heap.size ≤ w.heap.size + 1; omega) _).trans hcal.below⟩
                          simp [results, Try.results13, go_sem, hcc]
                      · simp only [Int.cast_ofNat_Int] at hcell HSU HNC
                        have hcnt := have_le L.all L.all.length
                        have hb_D : wr.heap[D]? = W.heap[D]? := HB.out.block D (Array.getElem?_eq_some_iff.1 HKD.out).1
                        have hDs : w.heap.size + 1 < D := by have := HB3Y.out.size; omega
                        generalize hhc : have_ L.all 3 = hc at *
                        have hix : ∀ V, (Instr.index 23 (.agg #[.int .i64 (L.C 0), .int .i64 (L.C 1), .int .i64 (L.C 2), .int .i64 (L.C 3), .int .i64 (L.C 4), .int .i64 (L.C 5), .int .i64 (L.C 6), .int .i64 (L.C 7)]) (.int .i64 3)).run Try.prog V = .ok (.int .i64 (L.C 3)) V := fun _ => by kernel_rfl
                        generalize hcc' : L.C 3 = cc  at *
                        by_cases hle : (hc : Int) ≤ cc
                        · have d1 : decide (cc < (hc : Int)) = false := decide_eq_false (by omega)
                          have HLE := Lib.hid hle
                          clear hle
                          gi_wp2_with fail
                          go_roundw
                          case rel => exact ⟨3 + 1, by omega, by go_num, by rw [HSU.out, HCT.out, decide_eq_true HLE.out]; rfl, HB.out⟩
                          case measure => simp [intOf]
                        · have d1 : decide (cc < (hc : Int)) = true := decide_eq_true (by omega)
                          have HG := Lib.hid (HNC.out hle)
                          clear hle
                          gi_wp2_with fail
                          have hK2 : (wr.setCell ⟨w.heap.size + 1, 0, none⟩ (.bool false)).heap[D]? = some (.deferred (some [])) := (heap_setCell_other wr ⟨w.heap.size + 1, 0, none⟩ D _ (by simp; omega)).trans (hb_D.trans HKD.out)
                          refine ⟨by simp, .inl ⟨_, _, rfl, run_takeDeferred hK2, ?_⟩⟩
                          have hcal := Calm.putObj (B := w.heap.size) (.deferred none) (by omega) hK2 rfl
                          have hcc := hcal.cell (a := ⟨w.heap.size + 1, 0, none⟩) (cell_set_same (.bool false) hrr)
                          refine ⟨.bool false, ?_, by rw [HG.out], (((HBW3.out.trans (HB3W.out.mono HBW3.out.size)).trans (HB.out.mono (by have := HBW3.out.size; have := HB3W.out.size; omega))).setCell (p := ⟨w.heap.size + 1, 0, none⟩) (by show w.heap.size ≤ w.heap.size + 1; omega) _).trans hcal.below⟩
                          simp [results, Try.results13, go_sem, hcc]
                      · simp only [Int.cast_ofNat_Int] at hcell HSU HNC
                        have hcnt := have_le L.all L.all.length
                        have hb_D : wr.heap[D]? = W.heap[D]? := HB.out.block D (Array.getElem?_eq_some_iff.1 HKD.out).1
                        have hDs : w.heap.size + 1 < D := by have := HB3Y.out.size; omega
                        generalize hhc : have_ L.all 4 = hc at *
                        have hix : ∀ V, (Instr.index 23 (.agg #[.int .i64 (L.C 0), .int .i64 (L.C 1), .int .i64 (L.C 2), .int .i64 (L.C 3), .int .i64 (L.C 4), .int .i64 (L.C 5), .int .i64 (L.C 6), .int .i64 (L.C 7)]) (.int .i64 4)).run Try.prog V = .ok (.int .i64 (L.C 4)) V := fun _ => by kernel_rfl
                        generalize hcc' : L.C 4 = cc  at *
                        by_cases hle : (hc : Int) ≤ cc
                        · have d1 : decide (cc < (hc : Int)) = false := decide_eq_false (by omega)
                          have HLE := Lib.hid hle
                          clear hle
                          gi_wp2_with fail
                          go_roundw
                          case rel => exact ⟨4 + 1, by omega, by go_num, by rw [HSU.out, HCT.out, decide_eq_true HLE.out]; rfl, HB.out⟩
                          case measure => simp [intOf]
                        · have d1 : decide (cc < (hc : Int)) = true := decide_eq_true (by omega)
                          have HG := Lib.hid (HNC.out hle)
                          clear hle
                          gi_wp2_with fail
                          have hK2 : (wr.setCell ⟨w.heap.size + 1, 0, none⟩ (.bool false)).heap[D]? = some (.deferred (some [])) := (heap_setCell_other wr ⟨w.heap.size + 1, 0, none⟩ D _ (by simp; omega)).trans (hb_D.trans HKD.out)
                          refine ⟨by simp, .inl ⟨_, _, rfl, run_takeDeferred hK2, ?_⟩⟩
                          have hcal := Calm.putObj (B := w.heap.size) (.deferred none) (by omega) hK2 rfl
                          have hcc := hcal.cell (a := ⟨w.heap.size + 1, 0, none⟩) (cell_set_same (.bool false) hrr)
                          refine ⟨.bool false, ?_, by rw [HG.out], (((HBW3.out.trans (HB3W.out.mono HBW3.out.size)).trans (HB.out.mono (by have := HBW3.out.size; have := HB3W.out.size; omega))).setCell (p := ⟨w.heap.size + 1, 0, none⟩) (by show w.heap.size ≤ w.heap.size + 1; omega) _).trans hcal.below⟩
                          simp [results, Try.results13, go_sem, hcc]
                      · simp only [Int.cast_ofNat_Int] at hcell HSU HNC
                        have hcnt := have_le L.all L.all.length
                        have hb_D : wr.heap[D]? = W.heap[D]? := HB.out.block D (Array.getElem?_eq_some_iff.1 HKD.out).1
                        have hDs : w.heap.size + 1 < D := by have := HB3Y.out.size; omega
                        generalize hhc : have_ L.all 5 = hc at *
                        have hix : ∀ V, (Instr.index 23 (.agg #[.int .i64 (L.C 0), .int .i64 (L.C 1), .int .i64 (L.C 2), .int .i64 (L.C 3), .int .i64 (L.C 4), .int .i64 (L.C 5), .int .i64 (L.C 6), .int .i64 (L.C 7)]) (.int .i64 5)).run Try.prog V = .ok (.int .i64 (L.C 5)) V := fun _ => by kernel_rfl
                        generalize hcc' : L.C 5 = cc  at *
                        by_cases hle : (hc : Int) ≤ cc
                        · have d1 : decide (cc < (hc : Int)) = false := decide_eq_false (by omega)
                          have HLE := Lib.hid hle
                          clear hle
                          gi_wp2_with fail
                          go_roundw
                          case rel => exact ⟨5 + 1, by omega, by go_num, by rw [HSU.out, HCT.out, decide_eq_true HLE.out]; rfl, HB.out⟩
                          case measure => simp [intOf]
                        · have d1 : decide (cc < (hc : Int)) = true := decide_eq_true (by omega)
                          have HG := Lib.hid (HNC.out hle)
                          clear hle
                          gi_wp2_with fail
                          have hK2 : (wr.setCell ⟨w.heap.size + 1, 0, none⟩ (.bool false)).heap[D]? = some (.deferred (some [])) := (heap_setCell_other wr ⟨w.heap.size + 1, 0, none⟩ D _ (by simp; omega)).trans (hb_D.trans HKD.out)
                          refine ⟨by simp, .inl ⟨_, _, rfl, run_takeDeferred hK2, ?_⟩⟩
                          have hcal := Calm.putObj (B := w.heap.size) (.deferred none) (by omega) hK2 rfl
                          have hcc := hcal.cell (a := ⟨w.heap.size + 1, 0, none⟩) (cell_set_same (.bool false) hrr)
                          refine ⟨.bool false, ?_, by rw [HG.out], (((HBW3.out.trans (HB3W.out.mono HBW3.out.size)).trans (HB.out.mono (by have := HBW3.out.size; have := HB3W.out.size; omega))).setCell (p := ⟨w.heap.size + 1, 0, none⟩) (by show w.heap.size ≤ w.heap.size + 1; omega) _).trans hcal.below⟩
                          simp [results, Try.results13, go_sem, hcc]
                      · simp only [Int.cast_ofNat_Int] at hcell HSU HNC
                        have hcnt := have_le L.all L.all.length
                        have hb_D : wr.heap[D]? = W.heap[D]? := HB.out.block D (Array.getElem?_eq_some_iff.1 HKD.out).1
                        have hDs : w.heap.size + 1 < D := by have := HB3Y.out.size; omega
                        generalize hhc : have_ L.all 6 = hc at *
                        have hix : ∀ V, (Instr.index 23 (.agg #[.int .i64 (L.C 0), .int .i64 (L.C 1), .int .i64 (L.C 2), .int .i64 (L.C 3), .int .i64 (L.C 4), .int .i64 (L.C 5), .int .i64 (L.C 6), .int .i64 (L.C 7)]) (.int .i64 6)).run Try.prog V = .ok (.int .i64 (L.C 6)) V := fun _ => by kernel_rfl
                        generalize hcc' : L.C 6 = cc  at *
                        by_cases hle : (hc : Int) ≤ cc
                        · have d1 : decide (cc < (hc : Int)) = false := decide_eq_false (by omega)
                          have HLE := Lib.hid hle
                          clear hle
                          gi_wp2_with fail
                          go_roundw
                          case rel => exact ⟨6 + 1, by omega, by go_num, by rw [HSU.out, HCT.out, decide_eq_true HLE.out]; rfl, HB.out⟩
                          case measure => simp [intOf]
                        · have d1 : decide (cc < (hc : Int)) = true := decide_eq_true (by omega)
                          have HG := Lib.hid (HNC.out hle)
                          clear hle
                          gi_wp2_with fail
                          have hK2 : (wr.setCell ⟨w.heap.size + 1, 0, none⟩ (.bool false)).heap[D]? = some (.deferred (some [])) := (heap_setCell_other wr ⟨w.heap.size + 1, 0, none⟩ D _ (by simp; omega)).trans (hb_D.trans HKD.out)
                          refine ⟨by simp, .inl ⟨_, _, rfl, run_takeDeferred hK2, ?_⟩⟩
                          have hcal := Calm.putObj (B := w.heap.size) (.deferred none) (by omega) hK2 rfl
                          have hcc := hcal.cell (a := ⟨w.heap.size + 1, 0, none⟩) (cell_set_same (.bool false) hrr)
                          refine ⟨.bool false, ?_, by rw [HG.out], (((HBW3.out.trans (HB3W.out.mono HBW3.out.size)).trans (HB.out.mono (by have := HBW3.out.size; have := HB3W.out.size; omega))).setCell (p := ⟨w.heap.size + 1, 0, none⟩) (by show w.heap.size ≤ w.heap.size + 1; omega) _).trans hcal.below⟩
                          simp [results, Try.results13, go_sem, hcc]
                      · simp only [Int.cast_ofNat_Int] at hcell HSU HNC
                        have hcnt := have_le L.all L.all.length
                        have hb_D : wr.heap[D]? = W.heap[D]? := HB.out.block D (Array.getElem?_eq_some_iff.1 HKD.out).1
                        have hDs : w.heap.size + 1 < D := by have := HB3Y.out.size; omega
                        generalize hhc : have_ L.all 7 = hc at *
                        have hix : ∀ V, (Instr.index 23 (.agg #[.int .i64 (L.C 0), .int .i64 (L.C 1), .int .i64 (L.C 2), .int .i64 (L.C 3), .int .i64 (L.C 4), .int .i64 (L.C 5), .int .i64 (L.C 6), .int .i64 (L.C 7)]) (.int .i64 7)).run Try.prog V = .ok (.int .i64 (L.C 7)) V := fun _ => by kernel_rfl
                        generalize hcc' : L.C 7 = cc  at *
                        by_cases hle : (hc : Int) ≤ cc
                        · have d1 : decide (cc < (hc : Int)) = false := decide_eq_false (by omega)
                          have HLE := Lib.hid hle
                          clear hle
                          gi_wp2_with fail
                          go_roundw
                          case rel => exact ⟨7 + 1, by omega, by go_num, by rw [HSU.out, HCT.out, decide_eq_true HLE.out]; rfl, HB.out⟩
                          case measure => simp [intOf]
                        · have d1 : decide (cc < (hc : Int)) = true := decide_eq_true (by omega)
                          have HG := Lib.hid (HNC.out hle)
                          clear hle
                          gi_wp2_with fail
                          have hK2 : (wr.setCell ⟨w.heap.size + 1, 0, none⟩ (.bool false)).heap[D]? = some (.deferred (some [])) := (heap_setCell_other wr ⟨w.heap.size + 1, 0, none⟩ D _ (by simp; omega)).trans (hb_D.trans HKD.out)
                          refine ⟨by simp, .inl ⟨_, _, rfl, run_takeDeferred hK2, ?_⟩⟩
                          have hcal := Calm.putObj (B := w.heap.size) (.deferred none) (by omega) hK2 rfl
                          have hcc := hcal.cell (a := ⟨w.heap.size + 1, 0, none⟩) (cell_set_same (.bool false) hrr)
                          refine ⟨.bool false, ?_, by rw [HG.out], (((HBW3.out.trans (HB3W.out.mono HBW3.out.size)).trans (HB.out.mono (by have := HBW3.out.size; have := HB3W.out.size; omega))).setCell (p := ⟨w.heap.size + 1, 0, none⟩) (by show w.heap.size ≤ w.heap.size + 1; omega) _).trans hcal.below⟩
                          simp [results, Try.results13, go_sem, hcc]
                    · have hb_D : wr.heap[D]? = W.heap[D]? := HB.out.block D (Array.getElem?_eq_some_iff.1 HKD.out).1
                      obtain rfl : p = 8 := by omega
                      have HGOOD := Lib.hid ((good_iff L).2 ⟨⟨HGR.out, HN.out, HTO.out, HCNT.out, HGR2.out⟩, HALL.out, HCT.out⟩)
                      have hDs : w.heap.size + 1 < D := by have := HB3Y.out.size; omega
                      gi_wp2_with fail
                      have hK2 : (wr.setCell ⟨w.heap.size + 1, 0, none⟩ (.bool true)).heap[D]? = some (.deferred (some [])) := (heap_setCell_other wr ⟨w.heap.size + 1, 0, none⟩ D _ (by simp; omega)).trans (hb_D.trans HKD.out)
                      refine ⟨by simp, .inl ⟨_, _, rfl, run_takeDeferred hK2, ?_⟩⟩
                      have hcal := Calm.putObj (B := w.heap.size) (.deferred none) (by omega) hK2 rfl
                      have hcc := hcal.cell (a := ⟨w.heap.size + 1, 0, none⟩) (cell_set_same (.bool true) hrr)
                      refine ⟨.bool true, ?_, by rw [HGOOD.out], (((HBW3.out.trans (HB3W.out.mono HBW3.out.size)).trans (HB.out.mono (by have := HBW3.out.size; have := HB3W.out.size; omega))).setCell (p := ⟨w.heap.size + 1, 0, none⟩) (by show w.heap.size ≤ w.heap.size + 1; omega) _).trans hcal.below⟩
                      simp [results, Try.results13, go_sem, hcc]
                case stop =>
                  intro D c W hD hr hK
                  obtain ⟨rfl, hg, ho, hz⟩ := hr
                  have HG := Lib.hid hg
                  have HZ5 := Lib.hid hz
                  have HKD := Lib.hid hK
                  have HBE := Lib.hid (ho.below (B := w.heap.size) (by have := HB3Y.out.size; omega) (fun j hj e => by omega))
                  have hDs : w.heap.size ≤ D := by have := HB3Y.out.size; omega
                  have hys := HB3Y.out.size
                  clear hg ho hz hK
                  gi_wp2_with fail
                  refine ⟨by simp, .inl ⟨_, _, rfl, run_takeDeferred HKD.out, ?_⟩⟩
                  have hcal := Calm.putObj (B := w.heap.size) (.deferred none) hDs HKD.out rfl
                  have hcc := hcal.cell (a := ⟨w.heap.size + 1, 0, none⟩) HZ5.out
                  refine ⟨.bool false, ?_, by rw [HG.out], (((HBW3.out.trans (HB3Y.out.mono HBW3.out.size)).trans HBE.out)).trans hcal.below⟩
                  simp [results, Try.results13, go_sem, hcc]
              · have HG := Lib.hid (no_bare hdep hbare)
                have hways : (decide (0 < L.ops.length) = true ∧ decide ((0 : Int) < L.ops.length) = true) ∨ ((decide (0 < L.ops.length) = false ∧ decide ((0 : Int) < L.ops.length) = false) ∧ decide (0 < L.sealed) = true) := by
                  simp only [decide_eq_true_eq, decide_eq_false_iff_not]
                  omega
                clear hdep hbare
                rcases hways with ⟨d3, d3'⟩ | ⟨⟨d3, d3'⟩, d4⟩
                all_goals
                  gi_wp2_with fail
                  refine ⟨.bool false, ?_, by rw [HG.out], HBR.out.setCell (p := ⟨w.heap.size + 1, 0, none⟩) (by show w.heap.size ≤ w.heap.size + 1; omega) _⟩
                  simp [results, Try.results13, go_sem, cell_set_same (.bool false) r0]
          · have HG := Lib.hid (no_count hcnt)
            have hways : decide ((L.bats.length : Int) < L.sealed - L.decided) = true ∨ (decide ((L.bats.length : Int) < L.sealed - L.decided) = false ∧ decide (L.sealed < (L.bats.length : Int)) = true) := by
              simp only [decide_eq_true_eq, decide_eq_false_iff_not]
              omega
            clear hcnt hboxr
            rcases hways with d1 | ⟨d1, d2⟩
            all_goals
              gi_wp2_with fail
              refine ⟨.bool false, ?_, by rw [HG.out], HBR.out.setCell (p := ⟨w.heap.size + 1, 0, none⟩) (by show w.heap.size ≤ w.heap.size + 1; omega) _⟩
              simp [results, Try.results13, go_sem, cell_set_same (.bool false) r0]
    · have HG := Lib.hid (no_nums hnum)
      have HNN := Lib.hid hnum
      by_cases hd : 0 ≤ L.decided ∧ L.decided ≤ L.sealed
      · have hwr : IntKind.i64.wrap (L.sealed - L.decided) = L.sealed - L.decided := by rw [IntKind.wrap_i64]; omega
        clear hnum
        gi_wp2_with fail
        all_goals first
          | (exfalso; have := HNN.out; omega)
          | (refine ⟨.bool false, ?_, by rw [HG.out], HBW.out.setCell (p := ⟨w.heap.size + 1, 0, none⟩) (by show w.heap.size ≤ w.heap.size + 1; omega) _⟩
             simp [results, Try.results13, go_sem, cell_set_same (.bool false) HR0.out.1])
      · clear hnum
        gi_wp2_with fail
        all_goals first
          | (exfalso; have := HNN.out; omega)
          | (refine ⟨.bool false, ?_, by rw [HG.out], HBW.out.setCell (p := ⟨w.heap.size + 1, 0, none⟩) (by show w.heap.size ≤ w.heap.size + 1; omega) _⟩
             simp [results, Try.results13, go_sem, cell_set_same (.bool false) HR0.out.1])
end Go.Proofs.Ytkabfjbmofpkdaa

/- Layer 14: the document's All and Of, walked. -/
namespace Go.Proofs.Ytkabfjbmofpkdaa
open Go.RowKit Go.Shelf
set_option maxRecDepth 100000

theorem tyRecs : STy Try.prog 24 33 (.agg #[.int .i64 0, .int .i64 0, .int .i64 0, .string ⟨#[]⟩, .int .u32 0]) 5 48 := .of Try.underlying24 (by kernel_rfl) rfl (by omega)
theorem recs_one (rs : List Rec) : ∀ u ∈ flatF Rec.cells rs, u.oneCell' = true := by
  intro u hu
  obtain ⟨r, -, hu⟩ := List.mem_flatMap.1 hu
  simp only [Rec.cells, List.mem_cons, List.not_mem_nil, or_false] at hu
  rcases hu with rfl | rfl | rfl | rfl | rfl <;> rfl
theorem BoxL.range {W : World} {b : Nat} {L : Led} (h : BoxL W b L) : W.rangeAt b 0 L.cells := fun j v hv => by rw [Nat.zero_add]; exact h j v hv
theorem load_led {W : World} {b : Nat} {L : Led} (h : BoxL W b L) : (Instr.loadAt 30 (.pointer (some ⟨b, 0, none⟩))).run Try.prog W = .ok (.agg L.cells.toArray) W :=
  run_loadAt_mid (P := Try.prog) W b 0 30 L.cells _ h.range Try.underlying30 rfl (by show _ = some 16; kernel_rfl)

/-- A row of records that grows, behind what was there. -/
structure OutR (X wr : World) (v : Value) (rs : List Rec) : Prop where
  own : wr.ownsRow X.heap.size 33 5 v rs.length (flatF Rec.cells rs)
  below : Below X.heap.size X wr
theorem OutR.start (X : World) : OutR X X (.slice none 0 0) [] := ⟨World.ownsRow_nil _ _ _ _, Below.refl _ _⟩
theorem OutR.more {X wr w2 : World} {v v2 : Value} {rs ss : List Rec} (h : OutR X wr v rs) (ho : w2.ownsRow X.heap.size 33 5 v2 (rs.length + ss.length) (flatF Rec.cells rs ++ flatF Rec.cells ss)) (hg : wr.grownBy w2 v.ownBlock) : OutR X w2 v2 (rs ++ ss) := by
  refine ⟨?_, h.below.grown hg h.below.size (fun k e => (World.ownsRow.lt h.own k e).1)⟩
  rw [List.length_append, flatF_append]
  exact ho

set_option maxHeartbeats 2000000 in
theorem all_calls (L : Led) (w : World) (hL : LedR w L) (hsm : L.Small) :
    Calls Try.prog 41 #[.agg L.cells.toArray] w fun e w' => ∃ v, e = .returned v ∧ w'.ownsRow w.heap.size 33 5 v L.all.length (flatF Rec.cells L.all) ∧ Below w.heap.size w w' := by
  obtain ⟨X, hX⟩ : ∃ X, X = w.alloc (.cells L.cells.toArray 30) := ⟨_, rfl⟩
  have hbX : Below w.heap.size w X := by rw [hX]; exact below_alloc _ _
  have hbox : BoxL X w.heap.size L := by rw [hX]; exact boxL_self w L 30
  have HLX := Lib.hid (hL.below hbX (Nat.le_refl _))
  have HBOX := Lib.hid hbox
  have HBX := Lib.hid hbX
  have HX := Lib.hid hX
  have HSM := Lib.hid hsm
  obtain ⟨oa, oc, hov, hoc, -⟩ := Rd.slice hL.opn
  obtain ⟨ba, bc, hbv, hbc, -⟩ := hL.bats.row.slice
  have hbn := hsm.bats
  have hon := hsm.opn
  have HV := Lib.hid (And.intro hov hbv)
  clear hX hbX hbox hL hsm hov hbv
  go_enter Try.func41, Try.ntmps41
  go_wp2_with fail
  rw [← HX.out]
  go_loopw [3, 4] (fun ov iv wr => ∃ i : Nat, i ≤ L.bats.length ∧ iv = .int .i64 i ∧ OutR X wr ov (L.pre i)) (fun _ iv _ => L.bats.length - (intOf iv).toNat)
  case atStart => exact ⟨0, by omega, rfl, by rw [pre_zero]; exact OutR.start X⟩
  case round =>
    obtain ⟨i, hi, rfl, ho⟩ := hrel
    obtain ⟨ga, gc, rfl⟩ := own_slice ho.own
    have HO := Lib.hid ho
    have hb := HBOX.out.later ho.below
    have c9 := hb 9 _ rfl
    have c10 := hb 10 _ rfl
    rw [HV.out.1] at c9
    rw [HV.out.2] at c10
    have hLr := HLX.out.below ho.below (Nat.le_refl _)
    have hpl : (L.pre i).length ≤ 1100000 := by
      obtain ⟨t, ht⟩ := pre_all L i
      have := HSM.out.all
      rw [ht, List.length_append] at this
      omega
    have hbs := ho.below.size
    have HLR := Lib.hid hLr
    clear ho hb hLr
    by_cases hlt : i < L.bats.length
    · have hrow := HLR.out.bats
      rw [HV.out.2] at hrow
      obtain ⟨b, o, rfl, c0, c1⟩ := bt_at hrow i hlt
      have hrec := HLR.out.bats.recs L.bats[i] (List.getElem_mem _)
      have hrn := HSM.out.recs L.bats[i] (List.getElem_mem _)
      obtain ⟨ra, rc, hrv, hrc, -⟩ := Rd.slice hrec
      rw [hrv] at c1 hrec
      have HREC := Lib.hid hrec
      have HPS := Lib.hid (pre_succ L i hlt)
      have H1 := Lib.hid (recs_one L.bats[i].recs)
      clear hrow hrec hrv
      generalize L.bats[i].recs = rs at *
      go_wp2_with (at_builtin; go_loud (refine app_list tyRecs HO.out.own HREC.out H1.out (by omega) (by omega) hbs rfl rfl rfl rfl ?_; intro v3 w3 hm3 hg3 hn3; have HO3 := Lib.hid (HO.out.more hm3 hg3); clear hm3 hg3 hn3))
      go_roundw
      case rel => exact ⟨i + 1, by omega, by go_num, by rw [HPS.out]; exact HO3.out⟩
      case measure => simp [intOf]; omega
    · obtain rfl : i = L.bats.length := by omega
      have hopn := HLR.out.opn
      rw [HV.out.1] at hopn
      have HOPN := Lib.hid hopn
      have H1 := Lib.hid (recs_one L.opn)
      have HPE := Lib.hid (pre_end L)
      clear hopn
      go_wp2_with (at_builtin; go_loud (refine app_list tyRecs HO.out.own HOPN.out H1.out (by omega) (by omega) hbs rfl rfl rfl rfl ?_; intro v3 w3 hm3 hg3 hn3; have HO3 := Lib.hid (HO.out.more hm3 hg3); clear hm3 hg3 hn3))
      go_ret
      refine ⟨_, rfl, ?_, below_then HBX.out HO3.out.below HBX.out.size⟩
      rw [HPE.out]
      exact ownsRow_mono HO3.out.own HBX.out.size

theorem ofPart_zero (rs : List Rec) (q : Int) : ofPart (rs.take 0) q = [] := rfl
theorem ofPart_succ (rs : List Rec) (k : Nat) (hk : k < rs.length) (q : Int) : ofPart (rs.take (k + 1)) q = ofPart (rs.take k) q ++ (if rs[k].q = q then [rs[k]] else []) := by
  unfold ofPart
  rw [List.take_succ_eq_append_getElem hk, List.filter_append]
  congr 1
  by_cases h : rs[k].q = q
  · simp [h]
  · simp [h]
theorem ofPart_le (rs : List Rec) (k : Nat) (q : Int) : (ofPart (rs.take k) q).length ≤ k := have_le rs k q

set_option maxHeartbeats 2000000 in
theorem of_calls (L : Led) (q : Int) (w : World) (hL : LedR w L) (hsm : L.Small) :
    Calls Try.prog 25 #[.agg L.cells.toArray, .int .i64 q] w fun e w' => ∃ v, e = .returned v ∧ w'.ownsRow w.heap.size 33 5 v (ofPart L.all q).length (flatF Rec.cells (ofPart L.all q)) ∧ Below w.heap.size w w' := by
  have HRG := Lib.hid (boxL_self w L 30).range
  have hbX := below_alloc w (.cells L.cells.toArray 30)
  have HBX := Lib.hid hbX
  have HL := Lib.hid hL
  have HSM := Lib.hid hsm
  have hall := hsm.all
  clear hbX hL hsm
  go_enter Try.func25, Try.ntmps25
  go_wp2_with (first | (refine wpList_load_mid rfl 30 _ rfl w.heap.size 0 rfl L.cells _ HRG.out Try.underlying30 rfl (by show _ = some 16; kernel_rfl) ?_) | (refine wp_load_mid 30 _ rfl w.heap.size 0 rfl L.cells _ HRG.out Try.underlying30 rfl (by show _ = some 16; kernel_rfl) ?_))
  refine (all_calls L _ (HL.out.below HBX.out (Nat.le_refl _)) HSM.out).mono ?_
  rintro e X ⟨v, rfl, ho, hb⟩
  obtain ⟨va, vc, rfl⟩ := own_slice ho
  have HV := Lib.hid ho
  have HB := Lib.hid (below_go HBX.out hb)
  clear ho hb
  go_wp2_with fail
  go_loopw [6, 7] (fun ov iv wr => ∃ k : Nat, k ≤ L.all.length ∧ iv = .int .i64 k ∧ OutR X wr ov (ofPart (L.all.take k) q)) (fun _ iv _ => L.all.length - (intOf iv).toNat)
  case atStart => exact ⟨0, by omega, rfl, OutR.start X⟩
  case round =>
    obtain ⟨k, hk, rfl, ho⟩ := hrel
    obtain ⟨ga, gc, rfl⟩ := own_slice ho.own
    have HO := Lib.hid ho
    have hbs := ho.below.size
    have hlen := ofPart_le L.all k q
    by_cases hlt : k < L.all.length
    · have hrd : Recs wr (.slice va L.all.length vc) L.all := Rd.below (Rd.of_own HV.out) ho.below (Nat.le_refl _)
      obtain ⟨b, o, hva, c0, c1, c2, c3, c4⟩ := rec_at hrd k hlt
      subst hva
      have HSU := Lib.hid (ofPart_succ L.all k hlt q)
      clear ho hrd
      generalize L.all[k] = R at *
      obtain ⟨rp, rs, rq, rkey, rval⟩ := R
      simp only at c0 c1 c2 c3 c4 HSU
      by_cases hq : rq = q
      · subst hq
        have hlit := Rd.lit (w := wr) (cs := #[.int .i64 rp, .int .i64 rs, .int .i64 rq, .string rkey, .int .u32 rval]) (e := 33) (n := 1) (sz := 5) rfl (by omega)
        have HLIT := Lib.hid hlit
        have hal := below_alloc wr (.cells #[.int .i64 rp, .int .i64 rs, .int .i64 rq, .string rkey, .int .u32 rval] 33)
        have HO2 := Lib.hid (OutR.mk (ownsRow_below HO.out.own hal (Nat.le_refl _)) (below_then HO.out.below hal hbs))
        have hbs2 := HO2.out.below.size
        clear hlit hal
        go_wp2_with (at_builtin; go_loud (refine app_list tyRecs HO2.out.own HLIT.out (recs_one [⟨rp, rs, rq, rkey, rval⟩]) (by omega) (by omega) hbs2 rfl rfl rfl rfl ?_; intro v3 w3 hm3 hg3 hn3; have HO3 := Lib.hid (OutR.more (ss := [⟨rp, rs, rq, rkey, rval⟩]) HO2.out hm3 hg3); clear hm3 hg3 hn3))
        go_roundw
        case rel => exact ⟨k + 1, by omega, by go_num, by rw [HSU.out, if_pos rfl]; exact HO3.out⟩
        case measure => simp [intOf]; omega
      · have hq' : (rq == q) = false := beq_eq_false_iff_ne.2 hq
        have HQ := Lib.hid hq
        clear hq
        go_wp2_with fail
        go_roundw
        case rel => exact ⟨k + 1, by omega, by go_num, by rw [HSU.out, if_neg HQ.out, List.append_nil]; exact HO.out⟩
        case measure => simp [intOf]; omega
    · obtain rfl : k = L.all.length := by omega
      clear ho
      go_wp2_with fail
      go_ret
      have hown := ownsRow_mono HO.out.own HB.out.size
      simp only [List.take_length] at hown ⊢
      exact ⟨_, rfl, hown, below_go HB.out HO.out.below⟩
end Go.Proofs.Ytkabfjbmofpkdaa

/- Layer 14: the document's Good of a ledger, walked. -/
namespace Go.Proofs.Ytkabfjbmofpkdaa
open Go.RowKit Go.Shelf
set_option maxRecDepth 100000

theorem cells_C (L : Led) (p : Nat) (hp : p < 8) : L.cells[1 + p]? = some (.int .i64 (L.C p)) := by
  rcases (show p = 0 ∨ p = 1 ∨ p = 2 ∨ p = 3 ∨ p = 4 ∨ p = 5 ∨ p = 6 ∨ p = 7 from by omega) with rfl | rfl | rfl | rfl | rfl | rfl | rfl | rfl <;> rfl
/-- A struct that is loaded whole. -/
theorem m_loadk {P : Program} {l : List Oper} {Q : Exit → Act → World → Prop} {S : World → Prop} {T : Act → World → Prop} {i : Nat} {o : Oper} {π : List (Nat × Bool)} {a : Act} {w : World} {t : TypeId} {x : Operand} {b off : Nat} {cs : List Value} {d : TypeDesc}
    (ho : l[i]? = some o) (hw : Region.wanted o (yielded l.toArray a.tmps) = true) (hop : o.op = .load t x) (hx : a.eval x = .pointer (some ⟨b, off, none⟩)) (hc : ∀ W, S W → W.rangeAt b off cs)
    (hu : P.underlying t = some d) (hd : d.isRow = true) (hi : (P.info? t).map (·.size) = some cs.length) (h : wpM P l.toArray Q S T π (a.put o.dst (.agg cs.toArray)) w) : wpM P l.toArray Q S T ((i, false) :: π) a w := by
  refine m_take ho hw (fun W hW => ?_) h
  have hl := run_loadAt_mid (P := P) W b off t cs d (hc W hW) hu hd hi
  simp [execOp, hop, hx, hl, Result.andThen]

set_option maxHeartbeats 4000000 in
theorem rGood_calls (L : Led) (w : World) (hL : LedR w L) (hok : L.Ok) (hsm : L.Small) :
    Calls Try.prog 14 #[.agg L.cells.toArray] w fun e w' => e = .returned (.bool L.good) ∧ Below w.heap.size w w' := by
  obtain ⟨X, hX⟩ : ∃ X, X = w.alloc (.cells L.cells.toArray 30) := ⟨_, rfl⟩
  have hbX : Below w.heap.size w X := by rw [hX]; exact below_alloc _ _
  have hbox : BoxL X w.heap.size L := by rw [hX]; exact boxL_self w L 30
  have HLX := Lib.hid (hL.below hbX (Nat.le_refl _))
  have HBX := Lib.hid hbX
  have HBOX := Lib.hid hbox
  have HSM := Lib.hid hsm
  obtain ⟨ra, rc, hrv, hrc, -⟩ := Rd.slice hL.rows
  obtain ⟨oa, oc, hov, hoc, -⟩ := Rd.slice hL.opn
  obtain ⟨ba, bc, hbv, hbc, -⟩ := hL.bats.row.slice
  obtain ⟨ga, gc, hgv, hgc, -⟩ := hL.ops.row.slice
  have HV := Lib.hid (And.intro hrv (And.intro hov (And.intro hbv hgv)))
  have hbn := hsm.bats
  have hon := hsm.opn
  have hnums := hok.nums
  unfold I64 at hnums
  have c0 := hbox 0 _ rfl
  have c9 := hbox 9 _ rfl
  have c15 := hbox 15 _ rfl
  rw [hrv] at c0
  rw [hov] at c9
  rw [hX] at c0 c9 c15
  have HX := Lib.hid hX
  clear hL hbX hbox hok hsm hrv hov hbv hgv hX
  go_enter Try.func14, Try.ntmps14
  go_wp2_with fail
  rw [← HX.out]
  refine (rdgood_calls _ L.rows _ (by have := HLX.out.rows; rwa [HV.out.1] at this)).mono ?_
  rintro e w1 ⟨rfl, hb1⟩
  have HB1 := Lib.hid hb1
  have hbox1 := HBOX.out.later hb1
  have HBOX1 := Lib.hid hbox1
  have c9 := hbox1 9 _ rfl
  have c10 := hbox1 10 _ rfl
  have c11 := hbox1 11 _ rfl
  have c12 := hbox1 12 _ rfl
  have c13 := hbox1 13 _ rfl
  have c14 := hbox1 14 _ rfl
  have c15 := hbox1 15 _ rfl
  rw [HV.out.2.1] at c9
  rw [HV.out.2.2.1] at c10
  rw [HV.out.2.2.2] at c14
  have HL1 := Lib.hid (HLX.out.below hb1 (Nat.le_refl _))
  have HBW := Lib.hid (below_go HBX.out hb1)
  clear hb1 hbox1 HBOX HLX c0
  cases hgr : goodRows L.rows with
  | false =>
    have HG := Lib.hid (no_rows hgr)
    clear hgr
    go_wp2_with fail
    go_ret
    exact ⟨by rw [HG.out]; rfl, HBW.out⟩
  | true =>
    have HGR := Lib.hid hgr
    clear hgr
    by_cases hnum : L.opn.length ≤ 512 ∧ 0 ≤ L.decided ∧ L.decided ≤ L.sealed ∧ L.sealed - L.decided ≤ 64 ∧ 0 ≤ L.keep ∧ L.keep ≤ 64
    · obtain ⟨n1, n2, n3, n4, n5, n6⟩ := hnum
      have HN := Lib.hid (And.intro n1 (And.intro n2 (And.intro n3 (And.intro n4 (And.intro n5 n6)))))
      have hwr : IntKind.i64.wrap (L.sealed - L.decided) = L.sealed - L.decided := by rw [IntKind.wrap_i64]; omega
      by_cases hcnt : L.sealed - L.decided ≤ L.bats.length ∧ (L.bats.length : Int) ≤ L.sealed
      · have HCNT := Lib.hid hcnt
        obtain ⟨q1, q2⟩ := hcnt
        have d1 : decide ((L.bats.length : Int) < L.sealed - L.decided) = false := decide_eq_false (by omega)
        have d2 : decide (L.sealed < (L.bats.length : Int)) = false := decide_eq_false (by omega)
        go_wp2_with fail
        go_loopw [4] (fun iv wr => ∃ i : Nat, i ≤ L.bats.length ∧ iv = .int .i64 i ∧ epochsTo L i = true ∧ Below w1.heap.size w1 wr) (fun iv _ => L.bats.length - (intOf iv).toNat)
        case atStart => exact ⟨0, by omega, rfl, epochsTo_zero L, Below.refl _ _⟩
        case round =>
          obtain ⟨i, hi, rfl, hto, hb⟩ := hrel
          have HTO := Lib.hid hto
          have HB := Lib.hid hb
          clear hto hb c9 c10 c11 c12 c13 c14 c15
          have HBR := Lib.hid (below_go HBW.out HB.out)
          have HLR := Lib.hid (HL1.out.below HB.out (Nat.le_refl _))
          have hboxr := HBOX1.out.later HB.out
          have c10 := hboxr 10 _ rfl
          have c11 := hboxr 11 _ rfl
          have c13 := hboxr 13 _ rfl
          have c14 := hboxr 14 _ rfl
          rw [HV.out.2.2.1] at c10
          rw [HV.out.2.2.2] at c14
          by_cases hlt : i < L.bats.length
          · have hrow := HLR.out.bats
            rw [HV.out.2.2.1] at hrow
            obtain ⟨b, o, rfl, b0, b1⟩ := bt_at hrow i hlt
            have hrec := HLR.out.bats.recs L.bats[i] (List.getElem_mem _)
            obtain ⟨ra', rc', hrv', hrc', -⟩ := Rd.slice hrec
            rw [hrv'] at b1
            have hwr2 : IntKind.i64.wrap (L.sealed - (L.bats.length : Int)) = L.sealed - (L.bats.length : Int) := by rw [IntKind.wrap_i64]; omega
            have hwr3 : IntKind.i64.wrap (L.sealed - (L.bats.length : Int) + (i : Int)) = L.sealed - (L.bats.length : Int) + (i : Int) := by rw [IntKind.wrap_i64]; omega
            have HNE := Lib.hid (no_epochs (L := L) i hlt)
            have HES := Lib.hid (epochsTo_succ L i hlt)
            clear hrow hrec hrv' hboxr
            generalize L.bats[i] = B at *
            obtain ⟨ep, rv', recs⟩ := B
            simp only at HNE HES b0 b1
            have hix1 : decide ((L.bats.length : Int) ≤ (i : Int)) = false := decide_eq_false (by omega)
            have hix2 : decide (L.bats.length ≤ i) = false := decide_eq_false (by omega)
            have hways : (ep != L.sealed - (L.bats.length : Int) + (i : Int)) = true ∧ ¬ ep = L.sealed - (L.bats.length : Int) + (i : Int) ∨
                ((ep != L.sealed - (L.bats.length : Int) + (i : Int)) = false ∧ ep = L.sealed - (L.bats.length : Int) + (i : Int) ∧ decide ((512 : Int) < recs.length) = true) ∨
                ((ep != L.sealed - (L.bats.length : Int) + (i : Int)) = false ∧ ep = L.sealed - (L.bats.length : Int) + (i : Int) ∧ decide ((512 : Int) < recs.length) = false) := by
              simp only [decide_eq_true_eq, decide_eq_false_iff_not, bne_iff_ne, bne_eq_false_iff_eq]
              omega
            rcases hways with ⟨e1, e2⟩ | ⟨e1, e2, e3⟩ | ⟨e1, e2, e3⟩
            · have HG := Lib.hid (HNE.out (fun h => e2 h.2))
              clear e2
              go_wp2_with fail
              refine region_m [(0, false), (1, false), (2, false), (3, false), (4, false), (5, false), (6, false), (7, false), (8, false), (9, false), (10, false), (11, false), (12, false), (13, false), (14, false), (15, false), (16, false), (17, false), (18, false), (19, false), (20, false), (21, false), (22, false)] 23 (fun V => V.cell? ⟨w.heap.size, 10, none⟩ = some (.slice (some ⟨b, o, none⟩) L.bats.length bc) ∧ V.cell? ⟨w.heap.size, 11, none⟩ = some (.int .i64 L.sealed) ∧ V.cell? ⟨b, o + i * 2, none⟩ = some (.int .i64 ep) ∧ V.cell? ⟨b, o + i * 2 + 1, none⟩ = some (.slice ra' recs.length rc')) (by kernel_rfl) (by kernel_rfl) ⟨c10, c11, b0, b1⟩ ?_
              iterate 23
                first
                | (refine m_take (v := ?_) rfl rfl ?_ ?_
                   rotate_left
                   · intro W hW
                     go_simp
                     with_reducible rfl
                   simp only [Act.put, List.setIfInBounds_toArray, List.set_cons_zero, List.set_cons_succ])
                | (refine m_skip rfl rfl ?_
                   simp only [Act.put, List.setIfInBounds_toArray, List.set_cons_zero, List.set_cons_succ])
              refine m_done ?_
              simp only [List.drop_succ_cons, List.drop_zero]
              go_wp2
              simp only [NP]
              go_wp2_with fail
              go_ret
              exact ⟨by rw [HG.out]; rfl, HBR.out.drew⟩
            · have HG := Lib.hid (HNE.out (fun h => by have := h.1; simp only [decide_eq_true_eq] at e3; omega))
              clear e2
              go_wp2_with fail
              refine region_m [(0, false), (1, false), (2, false), (3, false), (4, false), (5, false), (6, false), (7, false), (8, false), (9, false), (10, false), (11, false), (12, false), (13, false), (14, false), (15, false), (16, false), (17, false), (18, false), (19, false), (20, false), (21, false), (22, false)] 23 (fun V => V.cell? ⟨w.heap.size, 10, none⟩ = some (.slice (some ⟨b, o, none⟩) L.bats.length bc) ∧ V.cell? ⟨w.heap.size, 11, none⟩ = some (.int .i64 L.sealed) ∧ V.cell? ⟨b, o + i * 2, none⟩ = some (.int .i64 ep) ∧ V.cell? ⟨b, o + i * 2 + 1, none⟩ = some (.slice ra' recs.length rc')) (by kernel_rfl) (by kernel_rfl) ⟨c10, c11, b0, b1⟩ ?_
              iterate 23
                first
                | (refine m_take (v := ?_) rfl rfl ?_ ?_
                   rotate_left
                   · intro W hW
                     go_simp
                     with_reducible rfl
                   simp only [Act.put, List.setIfInBounds_toArray, List.set_cons_zero, List.set_cons_succ])
                | (refine m_skip rfl rfl ?_
                   simp only [Act.put, List.setIfInBounds_toArray, List.set_cons_zero, List.set_cons_succ])
              refine m_done ?_
              simp only [List.drop_succ_cons, List.drop_zero]
              go_wp2
              simp only [NP]
              go_wp2_with fail
              go_ret
              exact ⟨by rw [HG.out]; rfl, HBR.out.drew⟩
            · have HE := Lib.hid (And.intro (show recs.length ≤ 512 by simp only [decide_eq_false_iff_not] at e3; omega) e2)
              clear e2
              go_wp2_with fail
              refine region_m [(0, false), (1, false), (2, false), (3, false), (4, false), (5, false), (6, false), (7, false), (8, false), (9, false), (10, false), (11, false), (12, false), (13, false), (14, false), (15, false), (16, false), (17, false), (18, false), (19, false), (20, false), (21, false), (22, false)] 23 (fun V => V.cell? ⟨w.heap.size, 10, none⟩ = some (.slice (some ⟨b, o, none⟩) L.bats.length bc) ∧ V.cell? ⟨w.heap.size, 11, none⟩ = some (.int .i64 L.sealed) ∧ V.cell? ⟨b, o + i * 2, none⟩ = some (.int .i64 ep) ∧ V.cell? ⟨b, o + i * 2 + 1, none⟩ = some (.slice ra' recs.length rc')) (by kernel_rfl) (by kernel_rfl) ⟨c10, c11, b0, b1⟩ ?_
              iterate 23
                first
                | (refine m_take (v := ?_) rfl rfl ?_ ?_
                   rotate_left
                   · intro W hW
                     go_simp
                     with_reducible rfl
                   simp only [Act.put, List.setIfInBounds_toArray, List.set_cons_zero, List.set_cons_succ])
                | (refine m_skip rfl rfl ?_
                   simp only [Act.put, List.setIfInBounds_toArray, List.set_cons_zero, List.set_cons_succ])
              refine m_done ?_
              simp only [List.drop_succ_cons, List.drop_zero]
              go_wp2
              simp only [NP]
              go_wp2_with fail
              go_roundw
              case rel => exact ⟨i + 1, by omega, by go_num, by rw [HES.out, HTO.out, decide_eq_true ⟨HE.out.1, HE.out.2⟩]; rfl, HB.out.drew⟩
              case measure => simp [intOf]; omega
          · obtain rfl : i = L.bats.length := by omega
            clear hboxr
            go_wp2_with fail
            refine (rcheck_calls _ L.ops _ (by have := HLR.out.ops; rwa [HV.out.2.2.2] at this) (by have := HSM.out.ops; omega)).mono ?_
            rintro e w3 ⟨⟨kk, rfl⟩, hb3⟩
            have HB3 := Lib.hid hb3
            have c11 := cell_later hb3 c11
            have c13 := cell_later hb3 c13
            have c14 := cell_later hb3 c14
            have hcb := graphCode_beq L.ops
            clear hb3 c10
            cases hdep : L.dep with
            | true =>
              rw [hdep] at c13
              have HDEP := Lib.hid hdep
              cases hck : checkOk L.ops with
              | false =>
                rw [hck] at hcb
                have hcb2 : (graphCode L.ops != 0) = true := by simp [bne, hcb]
                have HG := Lib.hid (no_graph hdep hck)
                clear hck hdep
                go_wp2_with fail
                go_ret
                exact ⟨by rw [HG.out]; rfl, below_go HBR.out HB3.out⟩
              | true =>
                rw [hck] at hcb
                have hcb2 : (graphCode L.ops != 0) = false := by simp [bne, hcb]
                have HGR2 := Lib.hid (show (if L.dep = true then checkOk L.ops = true else (L.ops.length = 0 ∧ L.sealed ≤ 0)) from by rw [if_pos hdep]; exact hck)
                clear hck hdep
                generalize graphCode L.ops = gco at *
                have HBA := Lib.hid (below_go HBR.out HB3.out)
                have hbx3 := HBOX1.out.later (below_go HB.out HB3.out)
                have HBX3 := Lib.hid hbx3
                have HRG := Lib.hid hbx3.range
                have HL3 := Lib.hid (HL1.out.below (below_go HB.out HB3.out) (Nat.le_refl _))
                have hall := HSM.out.all
                clear hbx3
                go_upto_region 16 with fail
                go_wp2_with (first | (refine wpList_load_mid rfl 30 _ rfl w.heap.size 0 rfl L.cells _ HRG.out Try.underlying30 rfl (by show _ = some 16; kernel_rfl) ?_) | (refine wp_load_mid 30 _ rfl w.heap.size 0 rfl L.cells _ HRG.out Try.underlying30 rfl (by show _ = some 16; kernel_rfl) ?_))
                refine (all_calls L _ HL3.out HSM.out).mono ?_
                rintro e w4 ⟨v4, rfl, ho4, hb4⟩
                obtain ⟨va, vc, rfl⟩ := own_slice ho4
                have HO4 := Lib.hid ho4
                have HB4 := Lib.hid (below_go HBA.out hb4)
                have HBX4 := Lib.hid (HBX3.out.later hb4)
                have HL4 := Lib.hid (HL3.out.below hb4 (Nat.le_refl _))
                clear ho4 hb4 HRG c11 c13 c14
                go_wp2_with fail
                go_loopw [8] (fun iv wq => ∃ k : Nat, k ≤ L.all.length ∧ iv = .int .i64 k ∧ (∀ i, i < k → ∀ hi : i < L.all.length, goodRec L.all[i] = true) ∧ Below w4.heap.size w4 wq) (fun iv _ => L.all.length - (intOf iv).toNat)
                case atStart => exact ⟨0, by omega, rfl, fun i hi => by omega, Below.refl _ _⟩
                case round =>
                  obtain ⟨k, hk, rfl, hgs, hbq⟩ := hrel
                  have HGS := Lib.hid hgs
                  have HBQ := Lib.hid hbq
                  clear hgs hbq
                  have HBT := Lib.hid (below_go HB4.out HBQ.out)
                  by_cases hlk : k < L.all.length
                  · have hrd : Recs wr (.slice va L.all.length vc) L.all := Rd.below (Rd.of_own HO4.out) HBQ.out (Nat.le_refl _)
                    obtain ⟨rb, ro, hva, b0, b1, b2, b3, b4⟩ := rec_at hrd k hlk
                    subst hva
                    have HNR := Lib.hid (no_rec (L := L) k hlk)
                    clear hrd
                    generalize hRk : L.all[k] = R at *
                    obtain ⟨rp, rs, rq, rkey, rval⟩ := R
                    have HRK := Lib.hid hRk
                    simp only at b0 b1 b2 b3 b4
                    clear hRk
                    go_wp2_with fail
                    refine (entRgood_calls 1 ⟨rp, rs, rq, rkey, rval⟩ (.slice none 0 0) [] 0 _ ⟨Rd.nil _ _, fun o h => by simp at h⟩).mono ?_
                    rintro e w5 ⟨rfl, hb5⟩
                    rw [ent1]
                    have HB5 := Lib.hid (below_go HBQ.out hb5)
                    clear hb5 b0 b1 b2 b3 b4
                    cases hg : goodRec ⟨rp, rs, rq, rkey, rval⟩ with
                    | false =>
                      have HG := Lib.hid (HNR.out hg)
                      simp only [List.length_nil, decide_true, Bool.true_and, Bool.and_false]
                      clear hg
                      go_wp2_with fail
                      go_ret
                      exact ⟨by rw [HG.out]; rfl, below_go HB4.out HB5.out⟩
                    | true =>
                      have HG := Lib.hid hg
                      simp only [List.length_nil, decide_true, Bool.true_and]
                      clear hg
                      go_wp2_with fail
                      go_roundw
                      case rel =>
                        refine ⟨k + 1, by omega, by go_num, fun i hi hi' => ?_, HB5.out⟩
                        rcases (show i < k ∨ i = k from by omega) with h | rfl
                        · exact HGS.out i h hi'
                        · rw [HRK.out]; exact HG.out
                      case measure => simp [intOf]; omega
                  · obtain rfl : k = L.all.length := by omega
                    have HALL := Lib.hid (all_good (fun i hi => HGS.out i hi hi))
                    have HBX5 := Lib.hid (HBX4.out.later HBQ.out)
                    have HL5 := Lib.hid (HL4.out.below HBQ.out (Nat.le_refl _))
                    go_wp2_with fail
                    go_loopw [9] (fun iv wq => ∃ p : Nat, p ≤ 8 ∧ iv = .int .i64 p ∧ countsTo L p = true ∧ Below wr.heap.size wr wq) (fun iv _ => 8 - (intOf iv).toNat)
                    case atStart => exact ⟨0, by omega, rfl, countsTo_zero L, Below.refl _ _⟩
                    case round =>
                      obtain ⟨p, hp, rfl, hct, hbq⟩ := hrel
                      have HCT := Lib.hid hct
                      have HBP := Lib.hid hbq
                      clear hct
                      have hbx := HBX5.out.later hbq
                      have HL6 := Lib.hid (HL5.out.below hbq (Nat.le_refl _))
                      have HBZ := Lib.hid (below_go HBT.out hbq)
                      clear hbq
                      by_cases hp8 : p < 8
                      · have HC := Lib.hid (And.intro (hbx (1 + p) _ (cells_C L p hp8)) hbx.range)
                        have HSU := Lib.hid (countsTo_succ L p)
                        have HNC := Lib.hid (no_counts (L := L) p hp8)
                        have hx1 : decide ((8 : Int) ≤ (p : Int)) = false := decide_eq_false (by omega)
                        have hx2 : decide (8 ≤ p) = false := decide_eq_false (by omega)
                        clear hbx
                        go_wp2_with fail
                        refine region_m [(0, false), (1, false), (2, false), (3, false), (4, false), (5, false), (6, true), (7, false), (8, false)] 9 (fun V => V.cell? ⟨w.heap.size, 1 + p, none⟩ = some (.int .i64 (L.C p)) ∧ V.rangeAt w.heap.size 0 L.cells) (by kernel_rfl) (by kernel_rfl) HC.out ?_
                        iterate 4
                          first
                          | (refine m_take (v := ?_) rfl rfl ?_ ?_
                             rotate_left
                             · intro W hW
                               go_simp
                               with_reducible rfl
                             simp only [Act.put, List.setIfInBounds_toArray, List.set_cons_zero, List.set_cons_succ])
                          | (refine m_skip rfl rfl ?_
                             simp only [Act.put, List.setIfInBounds_toArray, List.set_cons_zero, List.set_cons_succ])
                        refine m_loadk rfl rfl rfl rfl (fun W hW => hW.2) Try.underlying30 rfl (by show _ = some 16; kernel_rfl) ?_
                        simp only [Act.put, List.setIfInBounds_toArray, List.set_cons_zero, List.set_cons_succ]
                        iterate 1
                          first
                          | (refine m_take (v := ?_) rfl rfl ?_ ?_
                             rotate_left
                             · intro W hW
                               go_simp
                               with_reducible rfl
                             simp only [Act.put, List.setIfInBounds_toArray, List.set_cons_zero, List.set_cons_succ])
                          | (refine m_skip rfl rfl ?_
                             simp only [Act.put, List.setIfInBounds_toArray, List.set_cons_zero, List.set_cons_succ])
                        refine m_loud rfl (fun K hK => ?_)
                        have HK := Lib.hid hK
                        clear hK
                        go_simp
                        refine (of_calls L p _ (HL6.out.below (Below.refl _ _).drew (Nat.le_refl _)) HSM.out).mono ?_
                        rintro e w6 ⟨v6, rfl, ho6, hb6⟩
                        obtain ⟨oa', oc', rfl⟩ := own_slice ho6
                        have hb6 := ((Below.refl _ _).drew).trans hb6
                        have hcx := HC.out
                        refine HK.out _ _ ⟨cell_later hb6 hcx.1, fun j v hj => cell_later hb6 (hcx.2 j v hj)⟩ ?_
                        clear HK
                        have HB6 := Lib.hid (below_go HBP.out hb6)
                        have HB7 := Lib.hid (below_go HBZ.out hb6)
                        have hlen : (ofPart L.all p).length = have_ L.all p := rfl
                        clear hcx hb6 ho6
                        generalize ofPart L.all p = O at *
                        have hmx : (O.length : Int) = (have_ L.all p : Int) := by rw [hlen]
                        by_cases hle : (have_ L.all p : Int) ≤ L.C p
                        · have d1 : decide (L.C p < (O.length : Int)) = false := decide_eq_false (by omega)
                          have HLE := Lib.hid hle
                          clear hle hlen hmx
                          iterate 2
                            first
                            | (refine m_take (v := ?_) rfl rfl ?_ ?_
                               rotate_left
                               · intro W hW
                                 go_simp
                                 with_reducible rfl
                               simp only [Act.put, List.setIfInBounds_toArray, List.set_cons_zero, List.set_cons_succ])
                            | (refine m_skip rfl rfl ?_
                               simp only [Act.put, List.setIfInBounds_toArray, List.set_cons_zero, List.set_cons_succ])
                          refine m_done ?_
                          simp only [List.drop_succ_cons, List.drop_zero]
                          go_wp2
                          simp only [NP]
                          go_wp2_with fail
                          go_roundw
                          case rel => exact ⟨p + 1, by omega, by go_num, by rw [HSU.out, HCT.out, decide_eq_true HLE.out]; rfl, HB6.out⟩
                          case measure => simp [intOf]; omega
                        · have d1 : decide (L.C p < (O.length : Int)) = true := decide_eq_true (by omega)
                          have HG := Lib.hid (HNC.out (by omega))
                          clear hle hlen hmx
                          iterate 2
                            first
                            | (refine m_take (v := ?_) rfl rfl ?_ ?_
                               rotate_left
                               · intro W hW
                                 go_simp
                                 with_reducible rfl
                               simp only [Act.put, List.setIfInBounds_toArray, List.set_cons_zero, List.set_cons_succ])
                            | (refine m_skip rfl rfl ?_
                               simp only [Act.put, List.setIfInBounds_toArray, List.set_cons_zero, List.set_cons_succ])
                          refine m_done ?_
                          simp only [List.drop_succ_cons, List.drop_zero]
                          go_wp2
                          simp only [NP]
                          go_wp2_with fail
                          go_ret
                          exact ⟨by rw [HG.out]; rfl, HB7.out⟩
                      · obtain rfl : p = 8 := by omega
                        have HGOOD := Lib.hid ((good_iff L).2 ⟨⟨HGR.out, HN.out, HTO.out, HCNT.out, HGR2.out⟩, HALL.out, HCT.out⟩)
                        clear hbx
                        go_wp2_with fail
                        go_ret
                        exact ⟨by rw [HGOOD.out]; rfl, HBZ.out⟩
            | false =>
              rw [hdep] at c13
              have HDEP := Lib.hid hdep
              by_cases hbare : L.ops.length = 0 ∧ L.sealed ≤ 0
              · have HGR2 := Lib.hid (show (if L.dep = true then checkOk L.ops = true else (L.ops.length = 0 ∧ L.sealed ≤ 0)) from by rw [if_neg (by rw [hdep]; decide)]; exact hbare)
                have d3 : decide (0 < L.ops.length) = false := decide_eq_false (by omega)
                have d3' : decide ((0 : Int) < L.ops.length) = false := decide_eq_false (by omega)
                have d4 : decide (0 < L.sealed) = false := decide_eq_false (by omega)
                clear hdep hbare hcb
                generalize graphCode L.ops = gco at *
                have HBA := Lib.hid (below_go HBR.out HB3.out)
                have hbx3 := HBOX1.out.later (below_go HB.out HB3.out)
                have HBX3 := Lib.hid hbx3
                have HRG := Lib.hid hbx3.range
                have HL3 := Lib.hid (HL1.out.below (below_go HB.out HB3.out) (Nat.le_refl _))
                have hall := HSM.out.all
                clear hbx3
                go_upto_region 16 with fail
                go_wp2_with (first | (refine wpList_load_mid rfl 30 _ rfl w.heap.size 0 rfl L.cells _ HRG.out Try.underlying30 rfl (by show _ = some 16; kernel_rfl) ?_) | (refine wp_load_mid 30 _ rfl w.heap.size 0 rfl L.cells _ HRG.out Try.underlying30 rfl (by show _ = some 16; kernel_rfl) ?_))
                refine (all_calls L _ HL3.out HSM.out).mono ?_
                rintro e w4 ⟨v4, rfl, ho4, hb4⟩
                obtain ⟨va, vc, rfl⟩ := own_slice ho4
                have HO4 := Lib.hid ho4
                have HB4 := Lib.hid (below_go HBA.out hb4)
                have HBX4 := Lib.hid (HBX3.out.later hb4)
                have HL4 := Lib.hid (HL3.out.below hb4 (Nat.le_refl _))
                clear ho4 hb4 HRG c11 c13 c14
                go_wp2_with fail
                go_loopw [8] (fun iv wq => ∃ k : Nat, k ≤ L.all.length ∧ iv = .int .i64 k ∧ (∀ i, i < k → ∀ hi : i < L.all.length, goodRec L.all[i] = true) ∧ Below w4.heap.size w4 wq) (fun iv _ => L.all.length - (intOf iv).toNat)
                case atStart => exact ⟨0, by omega, rfl, fun i hi => by omega, Below.refl _ _⟩
                case round =>
                  obtain ⟨k, hk, rfl, hgs, hbq⟩ := hrel
                  have HGS := Lib.hid hgs
                  have HBQ := Lib.hid hbq
                  clear hgs hbq
                  have HBT := Lib.hid (below_go HB4.out HBQ.out)
                  by_cases hlk : k < L.all.length
                  · have hrd : Recs wr (.slice va L.all.length vc) L.all := Rd.below (Rd.of_own HO4.out) HBQ.out (Nat.le_refl _)
                    obtain ⟨rb, ro, hva, b0, b1, b2, b3, b4⟩ := rec_at hrd k hlk
                    subst hva
                    have HNR := Lib.hid (no_rec (L := L) k hlk)
                    clear hrd
                    generalize hRk : L.all[k] = R at *
                    obtain ⟨rp, rs, rq, rkey, rval⟩ := R
                    have HRK := Lib.hid hRk
                    simp only at b0 b1 b2 b3 b4
                    clear hRk
                    go_wp2_with fail
                    refine (entRgood_calls 1 ⟨rp, rs, rq, rkey, rval⟩ (.slice none 0 0) [] 0 _ ⟨Rd.nil _ _, fun o h => by simp at h⟩).mono ?_
                    rintro e w5 ⟨rfl, hb5⟩
                    rw [ent1]
                    have HB5 := Lib.hid (below_go HBQ.out hb5)
                    clear hb5 b0 b1 b2 b3 b4
                    cases hg : goodRec ⟨rp, rs, rq, rkey, rval⟩ with
                    | false =>
                      have HG := Lib.hid (HNR.out hg)
                      simp only [List.length_nil, decide_true, Bool.true_and, Bool.and_false]
                      clear hg
                      go_wp2_with fail
                      go_ret
                      exact ⟨by rw [HG.out]; rfl, below_go HB4.out HB5.out⟩
                    | true =>
                      have HG := Lib.hid hg
                      simp only [List.length_nil, decide_true, Bool.true_and]
                      clear hg
                      go_wp2_with fail
                      go_roundw
                      case rel =>
                        refine ⟨k + 1, by omega, by go_num, fun i hi hi' => ?_, HB5.out⟩
                        rcases (show i < k ∨ i = k from by omega) with h | rfl
                        · exact HGS.out i h hi'
                        · rw [HRK.out]; exact HG.out
                      case measure => simp [intOf]; omega
                  · obtain rfl : k = L.all.length := by omega
                    have HALL := Lib.hid (all_good (fun i hi => HGS.out i hi hi))
                    have HBX5 := Lib.hid (HBX4.out.later HBQ.out)
                    have HL5 := Lib.hid (HL4.out.below HBQ.out (Nat.le_refl _))
                    go_wp2_with fail
                    go_loopw [9] (fun iv wq => ∃ p : Nat, p ≤ 8 ∧ iv = .int .i64 p ∧ countsTo L p = true ∧ Below wr.heap.size wr wq) (fun iv _ => 8 - (intOf iv).toNat)
                    case atStart => exact ⟨0, by omega, rfl, countsTo_zero L, Below.refl _ _⟩
                    case round =>
                      obtain ⟨p, hp, rfl, hct, hbq⟩ := hrel
                      have HCT := Lib.hid hct
                      have HBP := Lib.hid hbq
                      clear hct
                      have hbx := HBX5.out.later hbq
                      have HL6 := Lib.hid (HL5.out.below hbq (Nat.le_refl _))
                      have HBZ := Lib.hid (below_go HBT.out hbq)
                      clear hbq
                      by_cases hp8 : p < 8
                      · have HC := Lib.hid (And.intro (hbx (1 + p) _ (cells_C L p hp8)) hbx.range)
                        have HSU := Lib.hid (countsTo_succ L p)
                        have HNC := Lib.hid (no_counts (L := L) p hp8)
                        have hx1 : decide ((8 : Int) ≤ (p : Int)) = false := decide_eq_false (by omega)
                        have hx2 : decide (8 ≤ p) = false := decide_eq_false (by omega)
                        clear hbx
                        go_wp2_with fail
                        refine region_m [(0, false), (1, false), (2, false), (3, false), (4, false), (5, false), (6, true), (7, false), (8, false)] 9 (fun V => V.cell? ⟨w.heap.size, 1 + p, none⟩ = some (.int .i64 (L.C p)) ∧ V.rangeAt w.heap.size 0 L.cells) (by kernel_rfl) (by kernel_rfl) HC.out ?_
                        iterate 4
                          first
                          | (refine m_take (v := ?_) rfl rfl ?_ ?_
                             rotate_left
                             · intro W hW
                               go_simp
                               with_reducible rfl
                             simp only [Act.put, List.setIfInBounds_toArray, List.set_cons_zero, List.set_cons_succ])
                          | (refine m_skip rfl rfl ?_
                             simp only [Act.put, List.setIfInBounds_toArray, List.set_cons_zero, List.set_cons_succ])
                        refine m_loadk rfl rfl rfl rfl (fun W hW => hW.2) Try.underlying30 rfl (by show _ = some 16; kernel_rfl) ?_
                        simp only [Act.put, List.setIfInBounds_toArray, List.set_cons_zero, List.set_cons_succ]
                        iterate 1
                          first
                          | (refine m_take (v := ?_) rfl rfl ?_ ?_
                             rotate_left
                             · intro W hW
                               go_simp
                               with_reducible rfl
                             simp only [Act.put, List.setIfInBounds_toArray, List.set_cons_zero, List.set_cons_succ])
                          | (refine m_skip rfl rfl ?_
                             simp only [Act.put, List.setIfInBounds_toArray, List.set_cons_zero, List.set_cons_succ])
                        refine m_loud rfl (fun K hK => ?_)
                        have HK := Lib.hid hK
                        clear hK
                        go_simp
                        refine (of_calls L p _ (HL6.out.below (Below.refl _ _).drew (Nat.le_refl _)) HSM.out).mono ?_
                        rintro e w6 ⟨v6, rfl, ho6, hb6⟩
                        obtain ⟨oa', oc', rfl⟩ := own_slice ho6
                        have hb6 := ((Below.refl _ _).drew).trans hb6
                        have hcx := HC.out
                        refine HK.out _ _ ⟨cell_later hb6 hcx.1, fun j v hj => cell_later hb6 (hcx.2 j v hj)⟩ ?_
                        clear HK
                        have HB6 := Lib.hid (below_go HBP.out hb6)
                        have HB7 := Lib.hid (below_go HBZ.out hb6)
                        have hlen : (ofPart L.all p).length = have_ L.all p := rfl
                        clear hcx hb6 ho6
                        generalize ofPart L.all p = O at *
                        have hmx : (O.length : Int) = (have_ L.all p : Int) := by rw [hlen]
                        by_cases hle : (have_ L.all p : Int) ≤ L.C p
                        · have d1 : decide (L.C p < (O.length : Int)) = false := decide_eq_false (by omega)
                          have HLE := Lib.hid hle
                          clear hle hlen hmx
                          iterate 2
                            first
                            | (refine m_take (v := ?_) rfl rfl ?_ ?_
                               rotate_left
                               · intro W hW
                                 go_simp
                                 with_reducible rfl
                               simp only [Act.put, List.setIfInBounds_toArray, List.set_cons_zero, List.set_cons_succ])
                            | (refine m_skip rfl rfl ?_
                               simp only [Act.put, List.setIfInBounds_toArray, List.set_cons_zero, List.set_cons_succ])
                          refine m_done ?_
                          simp only [List.drop_succ_cons, List.drop_zero]
                          go_wp2
                          simp only [NP]
                          go_wp2_with fail
                          go_roundw
                          case rel => exact ⟨p + 1, by omega, by go_num, by rw [HSU.out, HCT.out, decide_eq_true HLE.out]; rfl, HB6.out⟩
                          case measure => simp [intOf]; omega
                        · have d1 : decide (L.C p < (O.length : Int)) = true := decide_eq_true (by omega)
                          have HG := Lib.hid (HNC.out (by omega))
                          clear hle hlen hmx
                          iterate 2
                            first
                            | (refine m_take (v := ?_) rfl rfl ?_ ?_
                               rotate_left
                               · intro W hW
                                 go_simp
                                 with_reducible rfl
                               simp only [Act.put, List.setIfInBounds_toArray, List.set_cons_zero, List.set_cons_succ])
                            | (refine m_skip rfl rfl ?_
                               simp only [Act.put, List.setIfInBounds_toArray, List.set_cons_zero, List.set_cons_succ])
                          refine m_done ?_
                          simp only [List.drop_succ_cons, List.drop_zero]
                          go_wp2
                          simp only [NP]
                          go_wp2_with fail
                          go_ret
                          exact ⟨by rw [HG.out]; rfl, HB7.out⟩
                      · obtain rfl : p = 8 := by omega
                        have HGOOD := Lib.hid ((good_iff L).2 ⟨⟨HGR.out, HN.out, HTO.out, HCNT.out, HGR2.out⟩, HALL.out, HCT.out⟩)
                        clear hbx
                        go_wp2_with fail
                        go_ret
                        exact ⟨by rw [HGOOD.out]; rfl, HBZ.out⟩
              · have HG := Lib.hid (no_bare hdep hbare)
                have hways : (decide (0 < L.ops.length) = true ∧ decide ((0 : Int) < L.ops.length) = true) ∨ ((decide (0 < L.ops.length) = false ∧ decide ((0 : Int) < L.ops.length) = false) ∧ decide (0 < L.sealed) = true) := by
                  simp only [decide_eq_true_eq, decide_eq_false_iff_not]
                  omega
                clear hdep hbare hcb
                rcases hways with ⟨d3, d3'⟩ | ⟨⟨d3, d3'⟩, d4⟩
                all_goals
                  go_wp2_with fail
                  go_ret
                  exact ⟨by rw [HG.out]; rfl, below_go HBR.out HB3.out⟩
      · have HG := Lib.hid (no_count hcnt)
        have hways : decide (L.sealed < (L.bats.length : Int)) = true ∨ (decide (L.sealed < (L.bats.length : Int)) = false ∧ decide ((L.bats.length : Int) < L.sealed - L.decided) = true) := by
          simp only [decide_eq_true_eq, decide_eq_false_iff_not]
          omega
        clear hcnt
        rcases hways with d1 | ⟨d1, d2⟩
        all_goals
          go_wp2_with fail
          go_ret
          exact ⟨by rw [HG.out]; rfl, HBW.out⟩
    · have HG := Lib.hid (no_nums hnum)
      have HNN := Lib.hid hnum
      by_cases hd : 0 ≤ L.decided ∧ L.decided ≤ L.sealed
      · have hwr : IntKind.i64.wrap (L.sealed - L.decided) = L.sealed - L.decided := by rw [IntKind.wrap_i64]; omega
        obtain ⟨hd1, hd2⟩ := hd
        have e1 : decide (L.decided < 0) = false := decide_eq_false (by omega)
        have e2 : decide (L.sealed < L.decided) = false := decide_eq_false (by omega)
        rcases (show ((L.opn.length ≤ 512 ∧ 0 ≤ L.keep ∧ L.keep ≤ 64) ∧ 64 < L.sealed - L.decided) ∨ ¬ (L.opn.length ≤ 512 ∧ 0 ≤ L.keep ∧ L.keep ≤ 64) from by omega) with ⟨⟨f1, f2, f3⟩, f4⟩ | hf
        · have e3 : decide ((512 : Int) < L.opn.length) = false := decide_eq_false (by omega)
          have e4 : decide (L.keep < 0) = false := decide_eq_false (by omega)
          have e5 : decide (64 < L.keep) = false := decide_eq_false (by omega)
          have e6 : decide (64 < L.sealed - L.decided) = true := decide_eq_true f4
          clear hnum f1 f2 f3 f4
          go_wp2_with fail
          go_ret
          exact ⟨by rw [HG.out]; rfl, HBW.out⟩
        · have hways : decide ((512 : Int) < L.opn.length) = true ∨ (decide ((512 : Int) < L.opn.length) = false ∧ decide (L.keep < 0) = true) ∨ (decide ((512 : Int) < L.opn.length) = false ∧ decide (L.keep < 0) = false ∧ decide (64 < L.keep) = true) := by
            simp only [decide_eq_true_eq, decide_eq_false_iff_not]
            omega
          clear hnum hf
          rcases hways with g1 | ⟨g1, g2⟩ | ⟨g1, g2, g3⟩
          all_goals
            go_wp2_with fail
            go_ret
            exact ⟨by rw [HG.out]; rfl, HBW.out⟩
      · have hways : decide ((512 : Int) < L.opn.length) = true ∨ (decide ((512 : Int) < L.opn.length) = false ∧ decide (L.keep < 0) = true) ∨ (decide ((512 : Int) < L.opn.length) = false ∧ decide (L.keep < 0) = false ∧ decide (64 < L.keep) = true) ∨
            (decide ((512 : Int) < L.opn.length) = false ∧ decide (L.keep < 0) = false ∧ decide (64 < L.keep) = false ∧ decide (L.decided < 0) = true) ∨ (decide ((512 : Int) < L.opn.length) = false ∧ decide (L.keep < 0) = false ∧ decide (64 < L.keep) = false ∧ decide (L.decided < 0) = false ∧ decide (L.sealed < L.decided) = true) := by
          simp only [decide_eq_true_eq, decide_eq_false_iff_not]
          omega
        clear hnum hd
        rcases hways with g1 | ⟨g1, g2⟩ | ⟨g1, g2, g3⟩ | ⟨g1, g2, g3, g4⟩ | ⟨g1, g2, g3, g4, g5⟩
        all_goals
          go_wp2_with fail
          go_ret
          exact ⟨by rw [HG.out]; rfl, HBW.out⟩
end Go.Proofs.Ytkabfjbmofpkdaa

/- Layer 14: slices.Clone of rows, records, batches, operators and numbers, walked. -/
namespace Go.Proofs.Ytkabfjbmofpkdaa
open Go.RowKit Go.Shelf
set_option maxRecDepth 100000

theorem tyBats : STy Try.prog 25 67 (.agg #[.int .i64 0, .slice none 0 0]) 2 32 := .of Try.underlying25 (by kernel_rfl) rfl (by omega)
theorem tyOps : STy Try.prog 26 90 (.agg #[.int .i64 0, .slice none 0 0, .int .i64 0, .int .u32 0, .int .i64 0, .int .i64 0, .int .u32 0]) 7 72 := .of Try.underlying26 (by kernel_rfl) rfl (by omega)
theorem tyInts : STy Try.prog 54 3 (.int .i64 0) 1 8 := .of Try.underlying54 (by kernel_rfl) rfl (by omega)

set_option maxHeartbeats 400000 in
theorem clRow_calls (v : Value) (n : Nat) (cs : List Value) (w : World) (hv : Rd w 3 v n cs) (h1 : ∀ u ∈ cs, u.oneCell' = true) (hl : n ≤ 2000000) :
    Calls Try.prog 56 #[v] w fun e w' => ∃ v', e = .returned v' ∧ w'.ownsRow w.heap.size 92 3 v' n cs ∧ Below w.heap.size w w' := by
  have HV := Lib.hid hv
  have H1 := Lib.hid h1
  obtain ⟨a, c, rfl, hn, hle, hc, h3⟩ := hv
  clear h1
  cases a with
  | none =>
    have h0 : n = 0 := by
      rcases h3 with h3 | ⟨b, o, h, -⟩
      · omega
      · cases h
    subst h0
    have hx : cs = [] := List.eq_nil_of_length_eq_zero (by omega)
    subst hx
    clear h3 hn
    have hnil := fun (w : World) => Lib.run_eql_slice_nil (P := Try.prog) w 22 92 none 0 c 0 0 Try.underlying22
    go_enter Try.func56, Try.ntmps56
    go_wp2
    go_ret
    exact ⟨_, rfl, World.ownsRow_nil _ _ _ _, Below.refl _ _⟩
  | some x =>
    clear h3 hn
    have hnil := fun (w : World) => Lib.run_eql_slice_nil (P := Try.prog) w 22 92 (some x) n c 0 0 Try.underlying22
    have hlit := World.ownsRow_lit (base := w.heap.size) (size := 3) (e := 92) w #[] 0 (Nat.le_refl _) (by unfold maxLen; omega) (by simp)
    have hal := (Below.refl w.heap.size w).alloc (Nat.le_refl _) (.cells #[] 92)
    have HR := Lib.hid (HV.out.below hal (Nat.le_refl _))
    have HLIT := Lib.hid hlit
    have HAL := Lib.hid hal
    clear hlit hal
    go_enter Try.func56, Try.ntmps56
    go_wp2_with (at_builtin; go_loud (refine app_list tyRows HLIT.out HR.out H1.out (by omega) (by omega) HAL.out.size rfl rfl rfl rfl ?_; intro v3 w3 hm3 hb3 hn3; obtain ⟨ga, gc, rfl⟩ := own_slice hm3))
    go_ret
    refine ⟨_, rfl, ?_, ?_⟩
    · simpa using hm3
    · exact HAL.out.grown hb3 HAL.out.size (fun j e => (World.ownsRow.lt HLIT.out j e).1)

set_option maxHeartbeats 400000 in
theorem clRec_calls (v : Value) (n : Nat) (cs : List Value) (w : World) (hv : Rd w 5 v n cs) (h1 : ∀ u ∈ cs, u.oneCell' = true) (hl : n ≤ 2000000) :
    Calls Try.prog 43 #[v] w fun e w' => ∃ v', e = .returned v' ∧ w'.ownsRow w.heap.size 33 5 v' n cs ∧ Below w.heap.size w w' := by
  have HV := Lib.hid hv
  have H1 := Lib.hid h1
  obtain ⟨a, c, rfl, hn, hle, hc, h3⟩ := hv
  clear h1
  cases a with
  | none =>
    have h0 : n = 0 := by
      rcases h3 with h3 | ⟨b, o, h, -⟩
      · omega
      · cases h
    subst h0
    have hx : cs = [] := List.eq_nil_of_length_eq_zero (by omega)
    subst hx
    clear h3 hn
    have hnil := fun (w : World) => Lib.run_eql_slice_nil (P := Try.prog) w 24 33 none 0 c 0 0 Try.underlying24
    go_enter Try.func43, Try.ntmps43
    go_wp2
    go_ret
    exact ⟨_, rfl, World.ownsRow_nil _ _ _ _, Below.refl _ _⟩
  | some x =>
    clear h3 hn
    have hnil := fun (w : World) => Lib.run_eql_slice_nil (P := Try.prog) w 24 33 (some x) n c 0 0 Try.underlying24
    have hlit := World.ownsRow_lit (base := w.heap.size) (size := 5) (e := 33) w #[] 0 (Nat.le_refl _) (by unfold maxLen; omega) (by simp)
    have hal := (Below.refl w.heap.size w).alloc (Nat.le_refl _) (.cells #[] 33)
    have HR := Lib.hid (HV.out.below hal (Nat.le_refl _))
    have HLIT := Lib.hid hlit
    have HAL := Lib.hid hal
    clear hlit hal
    go_enter Try.func43, Try.ntmps43
    go_wp2_with (at_builtin; go_loud (refine app_list tyRecs HLIT.out HR.out H1.out (by omega) (by omega) HAL.out.size rfl rfl rfl rfl ?_; intro v3 w3 hm3 hb3 hn3; obtain ⟨ga, gc, rfl⟩ := own_slice hm3))
    go_ret
    refine ⟨_, rfl, ?_, ?_⟩
    · simpa using hm3
    · exact HAL.out.grown hb3 HAL.out.size (fun j e => (World.ownsRow.lt HLIT.out j e).1)

set_option maxHeartbeats 400000 in
theorem clBat_calls (v : Value) (n : Nat) (cs : List Value) (w : World) (hv : Rd w 2 v n cs) (h1 : ∀ u ∈ cs, u.oneCell' = true) (hl : n ≤ 2000000) :
    Calls Try.prog 57 #[v] w fun e w' => ∃ v', e = .returned v' ∧ w'.ownsRow w.heap.size 67 2 v' n cs ∧ Below w.heap.size w w' := by
  have HV := Lib.hid hv
  have H1 := Lib.hid h1
  obtain ⟨a, c, rfl, hn, hle, hc, h3⟩ := hv
  clear h1
  cases a with
  | none =>
    have h0 : n = 0 := by
      rcases h3 with h3 | ⟨b, o, h, -⟩
      · omega
      · cases h
    subst h0
    have hx : cs = [] := List.eq_nil_of_length_eq_zero (by omega)
    subst hx
    clear h3 hn
    have hnil := fun (w : World) => Lib.run_eql_slice_nil (P := Try.prog) w 25 67 none 0 c 0 0 Try.underlying25
    go_enter Try.func57, Try.ntmps57
    go_wp2
    go_ret
    exact ⟨_, rfl, World.ownsRow_nil _ _ _ _, Below.refl _ _⟩
  | some x =>
    clear h3 hn
    have hnil := fun (w : World) => Lib.run_eql_slice_nil (P := Try.prog) w 25 67 (some x) n c 0 0 Try.underlying25
    have hlit := World.ownsRow_lit (base := w.heap.size) (size := 2) (e := 67) w #[] 0 (Nat.le_refl _) (by unfold maxLen; omega) (by simp)
    have hal := (Below.refl w.heap.size w).alloc (Nat.le_refl _) (.cells #[] 67)
    have HR := Lib.hid (HV.out.below hal (Nat.le_refl _))
    have HLIT := Lib.hid hlit
    have HAL := Lib.hid hal
    clear hlit hal
    go_enter Try.func57, Try.ntmps57
    go_wp2_with (at_builtin; go_loud (refine app_list tyBats HLIT.out HR.out H1.out (by omega) (by omega) HAL.out.size rfl rfl rfl rfl ?_; intro v3 w3 hm3 hb3 hn3; obtain ⟨ga, gc, rfl⟩ := own_slice hm3))
    go_ret
    refine ⟨_, rfl, ?_, ?_⟩
    · simpa using hm3
    · exact HAL.out.grown hb3 HAL.out.size (fun j e => (World.ownsRow.lt HLIT.out j e).1)

set_option maxHeartbeats 400000 in
theorem clOpr_calls (v : Value) (n : Nat) (cs : List Value) (w : World) (hv : Rd w 7 v n cs) (h1 : ∀ u ∈ cs, u.oneCell' = true) (hl : n ≤ 2000000) :
    Calls Try.prog 58 #[v] w fun e w' => ∃ v', e = .returned v' ∧ w'.ownsRow w.heap.size 90 7 v' n cs ∧ Below w.heap.size w w' := by
  have HV := Lib.hid hv
  have H1 := Lib.hid h1
  obtain ⟨a, c, rfl, hn, hle, hc, h3⟩ := hv
  clear h1
  cases a with
  | none =>
    have h0 : n = 0 := by
      rcases h3 with h3 | ⟨b, o, h, -⟩
      · omega
      · cases h
    subst h0
    have hx : cs = [] := List.eq_nil_of_length_eq_zero (by omega)
    subst hx
    clear h3 hn
    have hnil := fun (w : World) => Lib.run_eql_slice_nil (P := Try.prog) w 26 90 none 0 c 0 0 Try.underlying26
    go_enter Try.func58, Try.ntmps58
    go_wp2
    go_ret
    exact ⟨_, rfl, World.ownsRow_nil _ _ _ _, Below.refl _ _⟩
  | some x =>
    clear h3 hn
    have hnil := fun (w : World) => Lib.run_eql_slice_nil (P := Try.prog) w 26 90 (some x) n c 0 0 Try.underlying26
    have hlit := World.ownsRow_lit (base := w.heap.size) (size := 7) (e := 90) w #[] 0 (Nat.le_refl _) (by unfold maxLen; omega) (by simp)
    have hal := (Below.refl w.heap.size w).alloc (Nat.le_refl _) (.cells #[] 90)
    have HR := Lib.hid (HV.out.below hal (Nat.le_refl _))
    have HLIT := Lib.hid hlit
    have HAL := Lib.hid hal
    clear hlit hal
    go_enter Try.func58, Try.ntmps58
    go_wp2_with (at_builtin; go_loud (refine app_list tyOps HLIT.out HR.out H1.out (by omega) (by omega) HAL.out.size rfl rfl rfl rfl ?_; intro v3 w3 hm3 hb3 hn3; obtain ⟨ga, gc, rfl⟩ := own_slice hm3))
    go_ret
    refine ⟨_, rfl, ?_, ?_⟩
    · simpa using hm3
    · exact HAL.out.grown hb3 HAL.out.size (fun j e => (World.ownsRow.lt HLIT.out j e).1)

set_option maxHeartbeats 400000 in
theorem clInt_calls (v : Value) (n : Nat) (cs : List Value) (w : World) (hv : Rd w 1 v n cs) (h1 : ∀ u ∈ cs, u.oneCell' = true) (hl : n ≤ 2000000) :
    Calls Try.prog 59 #[v] w fun e w' => ∃ v', e = .returned v' ∧ w'.ownsRow w.heap.size 3 1 v' n cs ∧ Below w.heap.size w w' := by
  have HV := Lib.hid hv
  have H1 := Lib.hid h1
  obtain ⟨a, c, rfl, hn, hle, hc, h3⟩ := hv
  clear h1
  cases a with
  | none =>
    have h0 : n = 0 := by
      rcases h3 with h3 | ⟨b, o, h, -⟩
      · omega
      · cases h
    subst h0
    have hx : cs = [] := List.eq_nil_of_length_eq_zero (by omega)
    subst hx
    clear h3 hn
    have hnil := fun (w : World) => Lib.run_eql_slice_nil (P := Try.prog) w 54 3 none 0 c 0 0 Try.underlying54
    go_enter Try.func59, Try.ntmps59
    go_wp2
    go_ret
    exact ⟨_, rfl, World.ownsRow_nil _ _ _ _, Below.refl _ _⟩
  | some x =>
    clear h3 hn
    have hnil := fun (w : World) => Lib.run_eql_slice_nil (P := Try.prog) w 54 3 (some x) n c 0 0 Try.underlying54
    have hlit := World.ownsRow_lit (base := w.heap.size) (size := 1) (e := 3) w #[] 0 (Nat.le_refl _) (by unfold maxLen; omega) (by simp)
    have hal := (Below.refl w.heap.size w).alloc (Nat.le_refl _) (.cells #[] 3)
    have HR := Lib.hid (HV.out.below hal (Nat.le_refl _))
    have HLIT := Lib.hid hlit
    have HAL := Lib.hid hal
    clear hlit hal
    go_enter Try.func59, Try.ntmps59
    go_wp2_with (at_builtin; go_loud (refine app_list tyInts HLIT.out HR.out H1.out (by omega) (by omega) HAL.out.size rfl rfl rfl rfl ?_; intro v3 w3 hm3 hb3 hn3; obtain ⟨ga, gc, rfl⟩ := own_slice hm3))
    go_ret
    refine ⟨_, rfl, ?_, ?_⟩
    · simpa using hm3
    · exact HAL.out.grown hb3 HAL.out.size (fun j e => (World.ownsRow.lt HLIT.out j e).1)
end Go.Proofs.Ytkabfjbmofpkdaa
