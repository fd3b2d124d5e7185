/- Walks and plain laws of the chapter, laid together; each part says what it proves. -/
import Derived.Test.YtkabfjbmofpkdaaPkA
import Derived.Test.YtkabfjbmofpkdaaPkE
/- Layer 14: the document's dropped, walked. -/
namespace Go.Proofs.Ytkabfjbmofpkdaa
open Go.RowKit Go.Shelf
set_option maxRecDepth 100000

theorem boxC_two (w : World) (L : Led) : BoxC w.heap.size (w.heap.size + 1) ((w.alloc (.cells L.cells.toArray 30)).alloc (.cells zero16 30)) L :=
  have h := (boxAt_start w L).toB
  ⟨h.box, h.bf, h.res, by simp <;> omega, by rw [World.size_alloc, World.size_alloc]; omega, by omega⟩
/-- Batches that the call gathers. -/
structure OutB (X wr : World) (v : Value) (xs : List Bt) : Prop where
  own : wr.ownsRow X.heap.size 67 2 v xs.length (flatF Bt.cells xs)
  below : Below X.heap.size X wr
theorem OutB.start (X : World) : OutB X X (.slice none 0 0) [] := ⟨World.ownsRow_nil _ _ _ _, Below.refl _ _⟩
theorem OutB.more {X wr w2 : World} {v v2 : Value} {xs ys : List Bt} (h : OutB X wr v xs) (ho : w2.ownsRow X.heap.size 67 2 v2 (xs.length + ys.length) (flatF Bt.cells xs ++ flatF Bt.cells ys)) (hg : wr.grownBy w2 v.ownBlock) : OutB X w2 v2 (xs ++ ys) := by
  refine ⟨by rw [List.length_append, flatF_append]; exact ho, h.below.grown hg h.below.size (fun k e => (World.ownsRow.lt h.own k e).1)⟩
theorem lostTo_le (es : List Bt) (n : Int) (k : Nat) : (lostTo es n k).length ≤ k := Nat.le_trans (List.length_filter_le _ _) (by simp; omega)

set_option maxHeartbeats 4000000 in
theorem rdropped_calls (L : Led) (w : World) (hL : LedR w L) (hsm : L.Small) (hb0 : 0 ≤ L.decided ∧ L.decided ≤ 9223372036854775807 ∧ 0 ≤ L.keep ∧ L.keep ≤ 64) :
    Calls Try.prog 36 #[.agg L.cells.toArray] w fun e w' => ∃ bv', e = .returned (.agg (Led.cells { L with bv := bv' }).toArray) ∧ w'.ownsRow w.heap.size 67 2 bv' L.dropped.length (flatF Bt.cells L.dropped) ∧ Below w.heap.size w w' := by
  obtain ⟨X, hX⟩ : ∃ X, X = (w.alloc (.cells L.cells.toArray 30)).alloc (.cells zero16 30) := ⟨_, rfl⟩
  have hbX : Below w.heap.size w X := by rw [hX]; exact below_box (below_alloc _ _) _
  have hBC : BoxC w.heap.size (w.heap.size + 1) X L := by rw [hX]; exact boxC_two w L
  have hXs : X.heap.size = w.heap.size + 2 := by rw [hX]; simp
  obtain ⟨ba, bc, hbv, hbc, -⟩ := hL.bats.row.slice
  have HX := Lib.hid hX
  have HBC := Lib.hid hBC
  have HBX := Lib.hid hbX
  have HXS := Lib.hid hXs
  have HL := Lib.hid hL
  have HBV := Lib.hid hbv
  have hsb := hsm.bats
  have HWR := Lib.hid (show IntKind.i64.wrap (L.decided - L.keep) = L.decided - L.keep by rw [IntKind.wrap_i64]; omega)
  clear hb0
  clear hX hBC hbX hXs hL hsm hbv
  go_enter Try.func36, Try.ntmps36
  go_upto_region 1 with fail
  rw [show (w.alloc (.cells L.cells.toArray 30)).alloc (.cells #[.slice none 0 0, .int .i64 0, .int .i64 0, .int .i64 0, .int .i64 0, .int .i64 0, .int .i64 0, .int .i64 0, .int .i64 0, .slice none 0 0, .slice none 0 0, .int .i64 0, .int .i64 0, .bool false, .slice none 0 0, .int .i64 0] 30) = X from HX.out.symm]
  go_wp2_with fail
  go_loopw [3, 4] (fun lv iv wr => ∃ k : Nat, k ≤ L.bats.length ∧ iv = .int .i64 k ∧ OutB X wr lv (lostTo L.bats (L.decided - L.keep) k)) (fun _ iv _ => L.bats.length - (intOf iv).toNat)
  case atStart => exact ⟨0, by omega, rfl, OutB.start X⟩
  case round =>
    obtain ⟨k, hk, rfl, ho⟩ := hrel
    obtain ⟨ga, gc, rfl⟩ := own_slice ho.own
    have HO := Lib.hid ho
    have hB := HBC.out.later ho.below
    have hbs := ho.below.size
    have c10 := hB.box 10 _ rfl
    have c12 := hB.box 12 _ rfl
    have c15 := hB.box 15 _ rfl
    have bf10 := hB.bf 10
    rw [HBV.out] at c10
    have HB := Lib.hid hB
    have hlen := lostTo_le L.bats (L.decided - L.keep) k
    clear ho hB
    by_cases hlt : k < L.bats.length
    · have hbr := HL.out.bats.below (below_then HBX.out HO.out.below (by have := HXS.out; omega)) (Nat.le_refl _)
      rw [HBV.out] at hbr
      obtain ⟨b, o, rfl, e0, e1⟩ := bt_at hbr k hlt
      obtain ⟨xa, xc, hxv, -⟩ := Rd.slice (HL.out.bats.recs L.bats[k] (List.getElem_mem _))
      have hix1 : decide ((L.bats.length : Int) ≤ (k : Int)) = false := decide_eq_false (by omega)
      have hix2 : decide (L.bats.length ≤ k) = false := decide_eq_false (by omega)
      have hwr := HWR.out
      clear hbr bf10
      cases hst : stays (L.decided - L.keep) L.bats[k] with
      | true =>
        have HSU := Lib.hid (lostTo_miss L.bats (L.decided - L.keep) k hlt hst)
        have hs : decide (L.decided - L.keep ≤ L.bats[k].ep) = true := hst
        clear hst
        generalize L.bats[k] = R at *
        obtain ⟨ep, rv, recs⟩ := R
        simp only at e0 e1 hxv hs HSU
        subst hxv
        have HOD := Lib.hid (OutB.mk (X := X) (wr := wr.drew) (v := .slice ga (lostTo L.bats (L.decided - L.keep) k).length gc) (xs := lostTo L.bats (L.decided - L.keep) k) HO.out.own HO.out.below.drew)
        go_wp2_with fail
        refine region_m [(0, false), (1, false), (2, false), (3, false), (4, false), (5, false), (6, false), (7, false), (8, false), (9, false), (10, false), (11, false)] 12 (fun V => V.cell? ⟨w.heap.size, 10, none⟩ = some (.slice (some ⟨b, o, none⟩) L.bats.length bc) ∧ V.cell? ⟨w.heap.size, 12, none⟩ = some (.int .i64 L.decided) ∧ V.cell? ⟨w.heap.size, 15, none⟩ = some (.int .i64 L.keep) ∧ V.cell? ⟨b, o + k * 2, none⟩ = some (.int .i64 ep)) (by kernel_rfl) (by kernel_rfl) ⟨c10, c12, c15, e0⟩ ?_
        iterate 12
          first
          | (refine m_take (v := ?_) rfl rfl ?_ ?_
             rotate_left
             · intro W hW
               go_simp
               with_reducible rfl
             simp only [Act.put, List.setIfInBounds_toArray, List.set_cons_zero, List.set_cons_succ])
          | (refine m_skip rfl rfl ?_
             simp only [Act.put, List.setIfInBounds_toArray, List.set_cons_zero, List.set_cons_succ])
        refine m_done ?_
        simp only [List.drop_succ_cons, List.drop_zero]
        go_wp2
        simp only [NP]
        have c10 : wr.drew.cell? ⟨w.heap.size, 10, none⟩ = some (.slice (some ⟨b, o, none⟩) L.bats.length bc) := c10
        have e0 : wr.drew.cell? ⟨b, o + k * 2, none⟩ = some (.int .i64 ep) := e0
        have e1 : wr.drew.cell? ⟨b, o + k * 2 + 1, none⟩ = some (.slice xa recs.length xc) := e1
        clear HO HB c12 c15
        generalize wr.drew = wd at *
        have hbs := HOD.out.below.size
        have hal := below_alloc wd (.cells #[.int .i64 ep, .slice xa recs.length xc] 67)
        have HLIT := Lib.hid (Rd.lit (w := wd) (cs := #[.int .i64 ep, .slice xa recs.length xc]) (e := 67) (n := 1) (sz := 2) rfl (by omega))
        have HO2 := Lib.hid (OutB.mk (ownsRow_below HOD.out.own hal (Nat.le_refl _)) (below_then HOD.out.below hal hbs))
        have hbs2 := HO2.out.below.size
        clear hal
        go_wp2_with (at_builtin; go_loud (refine app_list tyBats HO2.out.own HLIT.out (by intro u hu; simp at hu; rcases hu with rfl | rfl <;> rfl) (by omega) (by omega) hbs2 rfl rfl rfl rfl ?_; intro v3 w3 hm3 hg3 hn3; have HO3 := Lib.hid (OutB.more (ys := [⟨ep, .slice xa recs.length xc, recs⟩]) HO2.out hm3 hg3); clear hm3 hg3 hn3))
        go_roundw
        case rel => exact ⟨k + 1, by omega, by go_num, by rw [HSU.out]; exact HO3.out⟩
        case measure => simp [intOf]; omega
      | false =>
        have HSU := Lib.hid (lostTo_hit L.bats (L.decided - L.keep) k hlt hst)
        have hs : decide (L.decided - L.keep ≤ L.bats[k].ep) = false := hst
        clear hst
        go_wp2_with fail
        refine region_m [(0, false), (1, false), (2, false), (3, false), (4, false), (5, false), (6, false), (7, false), (8, false), (9, false), (10, false), (11, false)] 12 (fun V => V.cell? ⟨w.heap.size, 10, none⟩ = some (.slice (some ⟨b, o, none⟩) L.bats.length bc) ∧ V.cell? ⟨w.heap.size, 12, none⟩ = some (.int .i64 L.decided) ∧ V.cell? ⟨w.heap.size, 15, none⟩ = some (.int .i64 L.keep) ∧ V.cell? ⟨b, o + k * 2, none⟩ = some (.int .i64 L.bats[k].ep)) (by kernel_rfl) (by kernel_rfl) ⟨c10, c12, c15, e0⟩ ?_
        iterate 12
          first
          | (refine m_take (v := ?_) rfl rfl ?_ ?_
             rotate_left
             · intro W hW
               go_simp
               with_reducible rfl
             simp only [Act.put, List.setIfInBounds_toArray, List.set_cons_zero, List.set_cons_succ])
          | (refine m_skip rfl rfl ?_
             simp only [Act.put, List.setIfInBounds_toArray, List.set_cons_zero, List.set_cons_succ])
        refine m_done ?_
        simp only [List.drop_succ_cons, List.drop_zero]
        go_wp2
        simp only [NP]
        go_wp2_with fail
        go_roundw
        case rel => exact ⟨k + 1, by omega, by go_num, by rw [HSU.out]; exact ⟨HO.out.own, HO.out.below.drew⟩⟩
        case measure => simp [intOf]; omega
    · obtain rfl : k = L.bats.length := by omega
      clear c12 c15
      have HLE := Lib.hid (lostTo_end L.bats (L.decided - L.keep))
      go_upto_region 8 with fail
      have hB4 := HB.out.set (cur' := { L with bv := .slice ga (lostTo L.bats (L.decided - L.keep) L.bats.length).length gc }) 10 (.slice ga (lostTo L.bats (L.decided - L.keep) L.bats.length).length gc) rfl (by omega)
      have HON4 := Lib.hid (only_box (w := w) (W := wr) (j := 10) (.slice ga (lostTo L.bats (L.decided - L.keep) L.bats.length).length gc))
      have HR4 := Lib.hid hB4.box.range
      have HT4 := Lib.hid hB4.res
      have H14 := Lib.hid (led_all { L with bv := .slice ga (lostTo L.bats (L.decided - L.keep) L.bats.length).length gc } (by obtain ⟨a, c, h, -⟩ := Rd.slice HL.out.rows; show L.rv.oneCell' = true; rw [h]; rfl) (by obtain ⟨a, c, h, -⟩ := Rd.slice HL.out.opn; show L.ov.oneCell' = true; rw [h]; rfl) rfl (by obtain ⟨a, c, h, -⟩ := Rd.slice HL.out.ops.row; show L.gv.oneCell' = true; rw [h]; rfl))
      clear hB4 c10 bf10
      generalize hW4 : wr.setCell _ _ = W4 at *
      clear hW4
      go_wp2_with (first | (refine wpList_load_mid rfl 30 _ rfl (w.heap.size) 0 rfl (Led.cells { L with bv := .slice ga (lostTo L.bats (L.decided - L.keep) L.bats.length).length gc }) _ HR4.out Try.underlying30 rfl (by show _ = some 16; kernel_rfl) ?_) | (refine wp_load_mid 30 _ rfl (w.heap.size) 0 rfl (Led.cells { L with bv := .slice ga (lostTo L.bats (L.decided - L.keep) L.bats.length).length gc }) _ HR4.out Try.underlying30 rfl (by show _ = some 16; kernel_rfl) ?_) | (refine wpList_store_mid rfl 30 _ _ rfl (w.heap.size + 1) 0 (Led.cells { L with bv := .slice ga (lostTo L.bats (L.decided - L.keep) L.bats.length).length gc }).toArray rfl rfl HT4.out (by show _ = some 16; kernel_rfl) H14.out ?_) | (refine wp_store_mid 30 _ _ rfl (w.heap.size + 1) 0 (Led.cells { L with bv := .slice ga (lostTo L.bats (L.decided - L.keep) L.bats.length).length gc }).toArray rfl rfl HT4.out (by show _ = some 16; kernel_rfl) H14.out ?_))
      refine bodyPost_ret (v := .agg (Led.cells { L with bv := .slice ga (lostTo L.bats (L.decided - L.keep) L.bats.length).length gc }).toArray) (results_cell Try.results36 rfl (resR_run HT4.out)) rfl ?_
      have hall : Only (fun k => k = w.heap.size ∨ k = w.heap.size + 1) wr (W4.setCells (w.heap.size + 1) 0 (Led.cells { L with bv := .slice ga (lostTo L.bats (L.decided - L.keep) L.bats.length).length gc })) := (HON4.out.weak (T := fun k => k = w.heap.size ∨ k = w.heap.size + 1) (fun _ _ h => .inl h)).trans (only_cells _ _ _ _) (fun j _ e => .inr e)
      have hXs := HXS.out
      have hown := ownsRow_mono (ownsRow_only HO.out.own hall (fun g hg e => by have := (World.ownsRow.lt HO.out.own g hg).1; omega)) (show w.heap.size ≤ X.heap.size by omega)
      refine ⟨_, rfl, ?_, (below_then HBX.out HO.out.below (by omega)).trans (hall.below (by omega) (fun j hj e => by omega))⟩
      show World.ownsRow _ _ _ _ _ (L.bats.filter _).length (flatF _ (L.bats.filter _))
      rw [← HLE.out]
      exact hown
end Go.Proofs.Ytkabfjbmofpkdaa

/- Layer 14: the document's record, walked. -/
namespace Go.Proofs.Ytkabfjbmofpkdaa
open Go.RowKit Go.Shelf
set_option maxRecDepth 100000

theorem Rd.only {w w' : World} {sz n : Nat} {v : Value} {cs : List Value} {T : Nat → Prop} (h : Rd w sz v n cs) (ho : Only T w w') (hT : ∀ a n c, v = .slice (some a) n c → ¬ T a.block) : Rd w' sz v n cs := by
  obtain ⟨a, cap, hv, h0, h1, h2, h3⟩ := h
  refine ⟨a, cap, hv, h0, h1, h2, ?_⟩
  rcases h3 with h3 | ⟨b, off, rfl, hc⟩
  · exact .inl h3
  · exact .inr ⟨b, off, rfl, fun j u hj => ho.cell (hT _ _ _ hv) (hc j u hj)⟩
theorem LedR.one {w : World} {L : Led} (h : LedR w L) : L.rv.oneCell' = true ∧ L.ov.oneCell' = true ∧ L.bv.oneCell' = true ∧ L.gv.oneCell' = true := by
  obtain ⟨a, c, h1, -⟩ := Rd.slice h.rows
  obtain ⟨a', c', h2, -⟩ := Rd.slice h.opn
  obtain ⟨a'', c'', h3, -⟩ := Rd.slice h.bats.row
  obtain ⟨a3, c3, h4, -⟩ := Rd.slice h.ops.row
  rw [h1, h2, h3, h4]
  exact ⟨rfl, rfl, rfl, rfl⟩
theorem led_allR {w : World} {L : Led} (h : LedR w L) : L.cells.toArray.all (·.oneCell') = true := led_all L h.one.1 h.one.2.1 h.one.2.2.1 h.one.2.2.2
/-- What the region makes of the open records. -/
structure AppAt (Y W : World) (v : Value) (rs : List Rec) : Prop where
  own : W.ownsRow Y.heap.size 33 5 v rs.length (flatF Rec.cells rs)
  below : Below Y.heap.size Y W

set_option maxHeartbeats 4000000 in
theorem rrecord_calls (L : Led) (r : Rec) (w : World) (hO : LedR w L) (hok : L.Ok) (hT : Table L.rows) (hl : L.opn.length ≤ 512) (hr : goodRec r = true) (hrk : r.ok) :
    Calls Try.prog 34 #[.agg L.cells.toArray, .agg #[.int .i64 r.p, .int .i64 r.s, .int .i64 r.q, .string r.key, .int .u32 r.val]] w fun e w' => ∃ rv ov, e = .returned (.tuple #[.agg (Led.cells { L.recL r with rv := rv, ov := ov }).toArray, .bool (L.recTook r), .int .i64 (L.recCode r)]) ∧ ((L.recL r = L ∧ rv = L.rv ∧ ov = L.ov) ∨ (w'.ownsRow w.heap.size 92 3 rv (L.recL r).rows.length (flatF Row.cells (L.recL r).rows) ∧ w'.ownsRow w.heap.size 33 5 ov (L.recL r).opn.length (flatF Rec.cells (L.recL r).opn))) ∧ Below w.heap.size w w' := by
  have hpq := goodRec_part hr
  have hcode := look_vals L.rows r.p r.q r.s
  have htc : takeCode L.rows r.p r.q r.s = lookOf L.rows r.p r.q r.s := if_pos (goodRec_right hr)
  have htr : lookOf L.rows r.p r.q r.s = 1 → takeRows L.rows r.p r.q r.s = putRowAt ⟨r.p, r.q, r.s⟩ L.rows := fun h => if_pos ⟨goodRec_right hr, h⟩
  obtain ⟨p, hp⟩ : ∃ p : Nat, r.q = p := ⟨r.q.toNat, by omega⟩
  have hp8 : p < 8 := by omega
  have hpn : r.q.toNat = p := by omega
  have HREC0 := Lib.hid (show L.recL r = if L.recTook r = true then { L with rows := putRowAt ⟨r.p, r.q, r.s⟩ L.rows, C := L.bump p, opn := L.opn ++ [r] } else L from by unfold Led.recL; rw [hpn])
  have HTOOK := Lib.hid (show L.recTook r = decide (lookOf L.rows r.p r.q r.s = 1 ∧ L.C p ≠ 9223372036854775807 ∧ L.opn.length < 512) from by unfold Led.recTook; rw [hpn])
  have HCODE := Lib.hid (show L.recCode r = if lookOf L.rows r.p r.q r.s = 2 then 0 else if lookOf L.rows r.p r.q r.s = 3 then 11 else if lookOf L.rows r.p r.q r.s ≠ 1 ∨ L.C p = 9223372036854775807 then 14 else if 512 ≤ L.opn.length then 10 else 0 from by unfold Led.recCode; rw [hpn])
  generalize L.recL r = RL at *
  generalize L.recTook r = RT at *
  generalize L.recCode r = RC at *
  obtain ⟨rp, rs, rq, rkey, rval⟩ := r
  simp only at hcode htc htr hp HREC0 HTOOK HCODE ⊢
  subst hp
  obtain ⟨X, hX⟩ : ∃ X, X = ((w.alloc (.cells L.cells.toArray 30)).alloc (.cells #[.int .i64 rp, .int .i64 rs, .int .i64 p, .string rkey, .int .u32 rval] 33)).alloc (.cells zero16 30) := ⟨_, rfl⟩
  have hbX : Below w.heap.size w X := by rw [hX]; exact below_box (below_box (below_alloc _ _) _) _
  have hXs : X.heap.size = w.heap.size + 3 := by rw [hX]; simp
  have hBC : BoxC w.heap.size (w.heap.size + 2) X L := by
    refine ⟨?_, fun j => ?_, fun j hj => ?_, by omega, by omega, by omega⟩
    · rw [hX]; exact ((boxL_self w L 30).later (below_alloc _ _)).later (below_alloc _ _)
    · rw [hX, World.frozen?_alloc_past _ _ _ (by simp <;> omega), World.frozen?_alloc_past _ _ _ (by simp <;> omega), World.frozen?_alloc_at _ _ _ _ rfl]
    · refine ⟨?_, by rw [hX, World.frozen?_alloc_at _ _ _ _ (by simp)]⟩
      rw [hX, World.cell?_alloc_at _ _ _ _ (by simp)]
      show (zero16[0 + j]?).isSome = true
      rw [Nat.zero_add]
      have : j < zero16.size := hj
      rw [Array.getElem?_eq_getElem this]; rfl
  have xr : ∀ o u, (#[.int .i64 rp, .int .i64 rs, .int .i64 p, .string rkey, .int .u32 rval] : Array Value)[o]? = some u → X.cell? ⟨w.heap.size + 1, o, none⟩ = some u := fun o u h => by
    rw [hX, World.cell?_alloc_past _ _ _ (by simp <;> omega), World.cell?_alloc_at _ _ _ _ (by simp)]; exact h
  obtain ⟨ra, rc, hrv, -⟩ := Rd.slice hO.rows
  obtain ⟨oa, oc, hov, -⟩ := Rd.slice hO.opn
  have c0 : X.cell? ⟨w.heap.size, 0, none⟩ = some (.slice ra L.rows.length rc) := by rw [hBC.box 0 _ rfl, hrv]
  rw [hX] at c0
  unfold zero16 at c0
  have HX := Lib.hid hX
  have HBC := Lib.hid hBC
  have HBX := Lib.hid hbX
  have HXR := Lib.hid xr
  have HO := Lib.hid hO
  have HV := Lib.hid (And.intro hrv hov)
  have HT := Lib.hid hT
  have HOK := Lib.hid hok
  have HTC := Lib.hid (And.intro htc htr)
  have HRS := Lib.hid hrk.2.1
  have HXS := Lib.hid (show w.heap.size + 3 ≤ X.heap.size by omega)
  have hCp := hok.C p hp8
  unfold I64 at hCp
  clear hX hBC hbX xr hO hrv hov hT hok htc htr hrk hr hXs
  go_enter Try.func34, Try.ntmps34
  go_wp2_with fail
  rw [show ((w.alloc (.cells L.cells.toArray 30)).alloc (.cells #[.int .i64 rp, .int .i64 rs, .int .i64 p, .string rkey, .int .u32 rval] 33)).alloc (.cells #[.slice none 0 0, .int .i64 0, .int .i64 0, .int .i64 0, .int .i64 0, .int .i64 0, .int .i64 0, .int .i64 0, .int .i64 0, .slice none 0 0, .slice none 0 0, .int .i64 0, .int .i64 0, .bool false, .slice none 0 0, .int .i64 0] 30) = X from HX.out.symm]
  clear c0
  refine (rtake_calls _ L.rows rp p rs _ (by have := (HO.out.below HBX.out (Nat.le_refl _)).rows; rwa [HV.out.1] at this) HT.out HOK.out.rows HRS.out).mono ?_
  rintro e w1 ⟨v1, rfl, ho1, hb1⟩
  rw [HTC.out.1]
  have hB1 := HBC.out.later hb1
  have HBX1 := Lib.hid (below_go HBX.out hb1)
  have HRNG := Lib.hid hB1.box.range
  have HRES := Lib.hid hB1.res
  have HB1 := Lib.hid hB1
  have HO1 := Lib.hid ho1
  have hcp := hB1.box (1 + p) _ (cells_C L p hp8)
  have c9 := hB1.box 9 _ rfl
  rw [HV.out.2] at c9
  have r2 := cell_later hb1 (HXR.out 2 _ rfl)
  have HXR1 := Lib.hid (fun o u (h : (#[.int .i64 rp, .int .i64 rs, .int .i64 p, .string rkey, .int .u32 rval] : Array Value)[o]? = some u) => cell_later hb1 (HXR.out o u h))
  have H1L := Lib.hid (led_allR HO.out)
  have h1one := own_one ho1
  have hxsz : w.heap.size + 3 ≤ w1.heap.size := by have := hB1.hR; omega
  have HLO1 := Lib.hid (HO.out.below HBX1.out (Nat.le_refl _))
  clear hB1 HBC HX hb1
  have hend : ∀ W', W' = w1.setCells (w.heap.size + 2) 0 L.cells → LedR W' L ∧ Below w.heap.size w W' := by
    rintro W' rfl
    have hbf : Below w.heap.size w (w1.setCells (w.heap.size + 2) 0 L.cells) := HBX1.out.trans ((only_cells w1 (w.heap.size + 2) L.cells 0).below (by omega) (fun j hj e => by omega))
    exact ⟨HO.out.below hbf (Nat.le_refl _), hbf⟩
  have HEND := Lib.hid hend
  clear hend
  rcases hcode with hk | hk | hk | hk
  · have HLK := Lib.hid hk
    rw [hk]
    clear hk
    by_cases hmax : L.C p = 9223372036854775807
    · have hm : (L.C p == 9223372036854775807) = true := beq_iff_eq.2 hmax
      have HMX := Lib.hid hmax
      clear hmax hCp
      have HE1 := Lib.hid (show RL = L from by rw [HREC0.out, if_neg (by rw [HTOOK.out]; simp [HMX.out])])
      have HE2 := Lib.hid (show RT = false from by rw [HTOOK.out]; simp [HMX.out])
      have HE3 := Lib.hid (show RC = 14 from by rw [HCODE.out, HLK.out]; simp [HMX.out])
      go_upto_region 7 with fail
      go_wp2_with (first | (refine wpList_load_mid rfl 30 _ rfl w.heap.size 0 rfl (Led.cells L) _ HRNG.out Try.underlying30 rfl (by show _ = some 16; kernel_rfl) ?_) | (refine wp_load_mid 30 _ rfl w.heap.size 0 rfl (Led.cells L) _ HRNG.out Try.underlying30 rfl (by show _ = some 16; kernel_rfl) ?_) | (refine wpList_store_mid rfl 30 _ _ rfl (w.heap.size + 2) 0 (Led.cells L).toArray rfl rfl HRES.out (by show _ = some 16; kernel_rfl) H1L.out ?_) | (refine wp_store_mid 30 _ _ rfl (w.heap.size + 2) 0 (Led.cells L).toArray rfl rfl HRES.out (by show _ = some 16; kernel_rfl) H1L.out ?_))
      refine bodyPost_ret (v := .tuple #[.agg L.cells.toArray, .bool false, .int .i64 14]) (results_cell3 Try.results34 rfl (resC_run HB1.out)) rfl ?_
      rw [HE1.out, HE2.out, HE3.out]
      exact ⟨L.rv, L.ov, rfl, .inl ⟨rfl, rfl, rfl⟩, (HEND.out _ rfl).2⟩
    · have hm : (L.C p == 9223372036854775807) = false := beq_eq_false_iff_ne.2 hmax
      by_cases hfull : 512 ≤ L.opn.length
      · have hf : ((L.opn.length : Int) == 512) = true := beq_iff_eq.2 (by omega)
        have HFL := Lib.hid hfull
        have HMX := Lib.hid hmax
        clear hmax hCp hfull
        have HE1 := Lib.hid (show RL = L from by rw [HREC0.out, if_neg (by rw [HTOOK.out]; simp only [decide_eq_true_eq]; have := HFL.out; omega)])
        have HE2 := Lib.hid (show RT = false from by rw [HTOOK.out]; exact decide_eq_false (by have := HFL.out; omega))
        have HE3 := Lib.hid (show RC = 10 from by rw [HCODE.out, HLK.out]; simp [HMX.out, HFL.out])
        go_upto_region 9 with fail
        go_wp2_with (first | (refine wpList_load_mid rfl 30 _ rfl w.heap.size 0 rfl (Led.cells L) _ HRNG.out Try.underlying30 rfl (by show _ = some 16; kernel_rfl) ?_) | (refine wp_load_mid 30 _ rfl w.heap.size 0 rfl (Led.cells L) _ HRNG.out Try.underlying30 rfl (by show _ = some 16; kernel_rfl) ?_) | (refine wpList_store_mid rfl 30 _ _ rfl (w.heap.size + 2) 0 (Led.cells L).toArray rfl rfl HRES.out (by show _ = some 16; kernel_rfl) H1L.out ?_) | (refine wp_store_mid 30 _ _ rfl (w.heap.size + 2) 0 (Led.cells L).toArray rfl rfl HRES.out (by show _ = some 16; kernel_rfl) H1L.out ?_))
        refine bodyPost_ret (v := .tuple #[.agg L.cells.toArray, .bool false, .int .i64 10]) (results_cell3 Try.results34 rfl (resC_run HB1.out)) rfl ?_
        rw [HE1.out, HE2.out, HE3.out]
        exact ⟨L.rv, L.ov, rfl, .inl ⟨rfl, rfl, rfl⟩, (HEND.out _ rfl).2⟩
      · have hf : ((L.opn.length : Int) == 512) = false := beq_eq_false_iff_ne.2 (by omega)
        have HNF := Lib.hid (show RT = true from by rw [HTOOK.out]; exact decide_eq_true ⟨HLK.out, hmax, by omega⟩)
        have HCD := Lib.hid (show RC = 0 from by rw [HCODE.out, HLK.out, if_neg (by omega), if_neg (by omega), if_neg (by rintro (h | h); exact h rfl; exact hmax h), if_neg hfull])
        have hCq : -9223372036854775808 ≤ L.C p ∧ L.C p < 9223372036854775807 := by omega
        have hrl : takeRows L.rows rp p rs = putRowAt ⟨rp, p, rs⟩ L.rows := HTC.out.2 HLK.out
        rw [hrl] at ho1 HO1
        have HE1 := Lib.hid HREC0.out
        rw [if_pos HNF.out] at HE1
        obtain ⟨va1, vc1, rfl⟩ := own_slice ho1
        generalize putRowAt ⟨rp, p, rs⟩ L.rows = rows2 at *
        clear hmax hfull hCp
        go_upto_region 10 with fail
        have c0 := HB1.out.box 0 _ rfl
        have bf0 := HB1.out.bf 0
        have HB2 := Lib.hid (HB1.out.set (cur' := { L with rv := .slice va1 rows2.length vc1 }) 0 (.slice va1 rows2.length vc1) rfl (by omega))
        have hS2 : Only (fun k => k = w.heap.size) w1 (w1.setCell ⟨w.heap.size, 0, none⟩ (.slice va1 rows2.length vc1)) := only_box (w := w) _
        have HS2 := Lib.hid hS2
        have hr : ∀ o u, (#[.int .i64 rp, .int .i64 rs, .int .i64 p, .string rkey, .int .u32 rval] : Array Value)[o]? = some u → (w1.setCell ⟨w.heap.size, 0, none⟩ (.slice va1 rows2.length vc1)).cell? ⟨w.heap.size + 1, o, none⟩ = some u := fun o u h => (cell_set_block _ (by omega)).trans (HXR1.out o u h)
        have r0 := hr 0 (.int .i64 rp) rfl
        have r1 := hr 1 (.int .i64 rs) rfl
        have r2 := hr 2 (.int .i64 p) rfl
        have r3 := hr 3 (.string rkey) rfl
        have r4 := hr 4 (.int .u32 rval) rfl
        clear hr hS2 ho1 c9 hcp hrl
        go_upto_region 11 with fail
        clear c0 bf0
        generalize hW1 : w1.setCell _ _ = W1 at *
        clear hW1
        have c9 := HB2.out.box 9 _ rfl
        simp only at c9
        rw [HV.out.2] at c9
        have hs2 := HS2.out.size
        have hfs : ∀ V, Below W1.heap.size W1 V → V.cell? ⟨w.heap.size, 9, none⟩ = some (.slice oa L.opn.length oc) ∧ V.cell? ⟨w.heap.size + 1, 0, none⟩ = some (.int .i64 rp) ∧ V.cell? ⟨w.heap.size + 1, 1, none⟩ = some (.int .i64 rs) ∧ V.cell? ⟨w.heap.size + 1, 2, none⟩ = some (.int .i64 p) ∧ V.cell? ⟨w.heap.size + 1, 3, none⟩ = some (.string rkey) ∧ V.cell? ⟨w.heap.size + 1, 4, none⟩ = some (.int .u32 rval) := fun V hb => ⟨cell_later hb c9, cell_later hb r0, cell_later hb r1, cell_later hb r2, cell_later hb r3, cell_later hb r4⟩
        have HFS := Lib.hid hfs
        have hb0 := (Below.refl W1.heap.size W1).drew
        have HRD := Lib.hid (fun V (hb : Below W1.heap.size W1 V) => show Recs V (.slice oa L.opn.length oc) L.opn by
          have hw1 : Below w.heap.size w W1 := HBX1.out.trans (HS2.out.below (by omega) (fun j hj e => by omega))
          have := (HO.out.below (below_then hw1 hb (by omega)) (Nat.le_refl _)).opn
          rwa [HV.out.2] at this)
        clear hfs
        refine region_t (.take 1 (.take 2 (.take 4 (.two 0 (.two 3 (.loud 5 (.loud 6 .done)) 5 (.loud 3 (.loud 6 .done))) 5 (.loud 0 (.loud 3 (.loud 6 .done))))))) 7 (fun V => V.cell? ⟨w.heap.size, 9, none⟩ = some (.slice oa L.opn.length oc) ∧ V.cell? ⟨w.heap.size + 1, 0, none⟩ = some (.int .i64 rp) ∧ V.cell? ⟨w.heap.size + 1, 1, none⟩ = some (.int .i64 rs) ∧ V.cell? ⟨w.heap.size + 1, 2, none⟩ = some (.int .i64 p) ∧ V.cell? ⟨w.heap.size + 1, 3, none⟩ = some (.string rkey) ∧ V.cell? ⟨w.heap.size + 1, 4, none⟩ = some (.int .u32 rval)) (by kernel_rfl) (by kernel_rfl) (HFS.out _ hb0) ?_
        iterate 3
          first
          | (refine t_take (v := ?_) rfl rfl ?_ ?_
             rotate_left
             · intro W hW
               go_simp
               with_reducible rfl
             simp only [Act.put, List.setIfInBounds_toArray, List.set_cons_zero, List.set_cons_succ])
          | (refine t_skip rfl rfl ?_
             simp only [Act.put, List.setIfInBounds_toArray, List.set_cons_zero, List.set_cons_succ])
        generalize W1.drew = Wd at *
        have hbc0 := hb0
        refine t_two ?_ ?_
        · skip
          refine t_loud rfl (fun K hK => ?_)
          have HK := Lib.hid hK
          clear hK
          go_simp
          have hbc1 := hbc0.alloc hbc0.size (.cells #[] 33)
          have HW1 := Lib.hid (World.ownsRow_lit (base := W1.heap.size) (size := 5) (e := 33) (Wd) #[] 0 hbc0.size (by unfold maxLen; omega) (by simp))
          refine HK.out _ _ (HFS.out _ hbc1) ?_
          clear HK
          have HSZ1 := Lib.hid (World.size_alloc (Wd) (.cells #[] 33))
          generalize hG : World.alloc (Wd) _ = V1 at *
          clear hG
          refine t_two ?_ ?_
          · skip
            refine t_app tyRecs HW1.out (HRD.out _ hbc1) (recs_one L.opn) (by omega) (by omega) hbc1.size rfl rfl rfl rfl rfl ?_
            intro v2 V2 hm2 hg2
            have hbc2 := hbc1.grown hg2 hbc1.size (fun k e => (World.ownsRow.lt HW1.out k e).1)
            have HW2 := Lib.hid hm2
            refine ⟨HFS.out _ hbc2, ?_⟩
            clear hm2 hg2
            refine t_loud rfl (fun K hK => ?_)
            have HK := Lib.hid hK
            clear hK
            go_simp
            have hbc3 := hbc2.alloc hbc2.size (.cells #[.int .i64 rp, .int .i64 rs, .int .i64 p, .string rkey, .int .u32 rval] 33)
            have HL3 := Lib.hid (Rd.lit (w := V2) (cs := #[.int .i64 rp, .int .i64 rs, .int .i64 p, .string rkey, .int .u32 rval]) (e := 33) (n := 1) (sz := 5) rfl (by omega))
            refine HK.out _ _ (HFS.out _ hbc3) ?_
            clear HK
            have HW3 := Lib.hid (ownsRow_below HW2.out (below_alloc _ (.cells #[.int .i64 rp, .int .i64 rs, .int .i64 p, .string rkey, .int .u32 rval] 33)) (Nat.le_refl _))
            have HSZ3 := Lib.hid (World.size_alloc (V2) (.cells #[.int .i64 rp, .int .i64 rs, .int .i64 p, .string rkey, .int .u32 rval] 33))
            generalize hG : World.alloc (V2) _ = V3 at *
            clear hG
            refine t_app tyRecs HW3.out HL3.out (recs_one [⟨rp, rs, p, rkey, rval⟩]) (by omega) (by omega) hbc3.size rfl rfl rfl rfl rfl ?_
            intro v4 V4 hm4 hg4
            have hbe := hbc3.grown hg4 hbc3.size (fun k e => (World.ownsRow.lt HW3.out k e).1)
            refine ⟨HFS.out _ hbe, ?_⟩
            obtain ⟨ga, gc, rfl⟩ := own_slice hm4
            have HM := Lib.hid (show V4.ownsRow W1.heap.size 33 5 (.slice ga (L.opn.length + 1) gc) (L.opn ++ [(⟨rp, rs, p, rkey, rval⟩ : Rec)]).length (flatF Rec.cells (L.opn ++ [(⟨rp, rs, p, rkey, rval⟩ : Rec)])) from by simpa [flatF_append, flatF_one, Rec.cells, Nat.zero_add] using hm4)
            have HBE := Lib.hid hbe
            have hfe := HFS.out _ hbe
            clear hm4 hg4 hbe
            have hvn : 0 + L.opn.length + 1 = L.opn.length + 1 := by omega
            rw [hvn]
            generalize V4 = we at *
            have hBe := HB2.out.later HBE.out
            have c9 := hfe.1
            have bf9 := hBe.bf 9
            have hB4 := hBe.set (cur' := { L with rv := .slice va1 rows2.length vc1, ov := .slice ga (L.opn.length + 1) gc }) 9 (.slice ga (L.opn.length + 1) gc) rfl (by omega)
            have HON4 := Lib.hid (only_box (w := w) (W := we) (j := 9) (.slice ga (L.opn.length + 1) gc))
            have hcp := hB4.box (1 + p) _ (cells_C _ p hp8)
            have bfp := hB4.bf (1 + p)
            have q2 := (cell_set_block (w := we) (b := w.heap.size) (c := w.heap.size + 1) (o := 9) (p := 2) (.slice ga (L.opn.length + 1) gc) (by omega)).trans hfe.2.2.2.1
            simp only at hcp
            have HB4 := Lib.hid hB4
            clear hBe hfe hB4
            refine t_done ?_
            simp only [List.drop_succ_cons, List.drop_zero]
            go_upto_region 12 with fail
            clear c9 bf9
            generalize hW4 : we.setCell _ _ = W4 at *
            clear hW4
            simp only [NP]
            go_upto_region 13 with fail
            have hB5 := HB4.out.set (cur' := { L with rv := .slice va1 rows2.length vc1, C := L.bump p, ov := .slice ga (L.opn.length + 1) gc }) (1 + p) (.int .i64 (L.C p + 1)) (cells_bump { L with rv := .slice va1 rows2.length vc1, ov := .slice ga (L.opn.length + 1) gc } p hp8) (by omega)
            have HON5 := Lib.hid (HON4.out.setCell ⟨w.heap.size, 1 + p, none⟩ (.int .i64 (L.C p + 1)) (.inl rfl))
            have HRNG5 := Lib.hid hB5.box.range
            have HRES5 := Lib.hid hB5.res
            have H5L := Lib.hid (led_all { L with rv := .slice va1 rows2.length vc1, C := L.bump p, ov := .slice ga (L.opn.length + 1) gc } rfl rfl HO.out.one.2.2.1 HO.out.one.2.2.2)
            clear hB5 hcp bfp q2
            generalize hW5 : W4.setCell _ _ = W5 at *
            clear hW5
            go_wp2_with (first | (refine wpList_load_mid rfl 30 _ rfl (w.heap.size) 0 rfl (Led.cells { L with rv := .slice va1 rows2.length vc1, C := L.bump p, ov := .slice ga (L.opn.length + 1) gc }) _ HRNG5.out Try.underlying30 rfl (by show _ = some 16; kernel_rfl) ?_) | (refine wp_load_mid 30 _ rfl (w.heap.size) 0 rfl (Led.cells { L with rv := .slice va1 rows2.length vc1, C := L.bump p, ov := .slice ga (L.opn.length + 1) gc }) _ HRNG5.out Try.underlying30 rfl (by show _ = some 16; kernel_rfl) ?_) | (refine wpList_store_mid rfl 30 _ _ rfl (w.heap.size + 2) 0 (Led.cells { L with rv := .slice va1 rows2.length vc1, C := L.bump p, ov := .slice ga (L.opn.length + 1) gc }).toArray rfl rfl HRES5.out (by show _ = some 16; kernel_rfl) H5L.out ?_) | (refine wp_store_mid 30 _ _ rfl (w.heap.size + 2) 0 (Led.cells { L with rv := .slice va1 rows2.length vc1, C := L.bump p, ov := .slice ga (L.opn.length + 1) gc }).toArray rfl rfl HRES5.out (by show _ = some 16; kernel_rfl) H5L.out ?_))
            refine bodyPost_ret (v := .tuple #[.agg (Led.cells { L with rv := .slice va1 rows2.length vc1, C := L.bump p, ov := .slice ga (L.opn.length + 1) gc }).toArray, .bool true, .int .i64 0]) (results_cell3 Try.results34 rfl (resR_run HRES5.out)) rfl ?_
            rw [HE1.out, HNF.out, HCD.out]
            have hall : Only (fun k => k = w.heap.size ∨ k = w.heap.size + 2) we (W5.setCells (w.heap.size + 2) 0 (Led.cells { L with rv := .slice va1 rows2.length vc1, C := L.bump p, ov := .slice ga (L.opn.length + 1) gc })) := (HON5.out.weak (T := fun k => k = w.heap.size ∨ k = w.heap.size + 2) (fun _ _ h => .inl h)).trans (only_cells _ _ _ _) (fun j _ e => .inr e)
            have hws := HBE.out.size
            have hbf : Below w.heap.size w (W5.setCells (w.heap.size + 2) 0 (Led.cells { L with rv := .slice va1 rows2.length vc1, C := L.bump p, ov := .slice ga (L.opn.length + 1) gc })) := (below_then (HBX1.out.trans (HS2.out.below (by omega) (fun j hj e => by omega))) HBE.out (by omega)).trans (hall.below (by omega) (fun j hj e => by omega))
            have hx := HXS.out
            have ho1 := ownsRow_below (ownsRow_only HO1.out HS2.out (fun g hg e => by have := (World.ownsRow.lt HO1.out g hg).1; omega)) HBE.out (Nat.le_refl _)
            have hrw := ownsRow_only ho1 hall (fun g hg e => by have := (World.ownsRow.lt ho1 g hg).1; omega)
            have hop := ownsRow_only HM.out hall (fun g hg e => by have := (World.ownsRow.lt HM.out g hg).1; omega)
            exact ⟨.slice va1 rows2.length vc1, .slice ga (L.opn.length + 1) gc, rfl, .inr ⟨ownsRow_mono hrw (by omega), ownsRow_mono hop (by omega)⟩, hbf⟩
          · skip
            refine t_loud rfl (fun K hK => ?_)
            have HK := Lib.hid hK
            clear hK
            go_simp
            have hbc2 := hbc1.alloc hbc1.size (.cells #[.int .i64 rp, .int .i64 rs, .int .i64 p, .string rkey, .int .u32 rval] 33)
            have HL2 := Lib.hid (Rd.lit (w := V1) (cs := #[.int .i64 rp, .int .i64 rs, .int .i64 p, .string rkey, .int .u32 rval]) (e := 33) (n := 1) (sz := 5) rfl (by omega))
            refine HK.out _ _ (HFS.out _ hbc2) ?_
            clear HK
            have HW2 := Lib.hid (ownsRow_below HW1.out (below_alloc _ (.cells #[.int .i64 rp, .int .i64 rs, .int .i64 p, .string rkey, .int .u32 rval] 33)) (Nat.le_refl _))
            have HSZ2 := Lib.hid (World.size_alloc (V1) (.cells #[.int .i64 rp, .int .i64 rs, .int .i64 p, .string rkey, .int .u32 rval] 33))
            generalize hG : World.alloc (V1) _ = V2 at *
            clear hG
            refine t_app tyRecs HW2.out (HRD.out _ hbc2) (recs_one L.opn) (by omega) (by omega) hbc2.size rfl rfl rfl rfl rfl ?_
            intro v3 V3 hm3 hg3
            have hbc3 := hbc2.grown hg3 hbc2.size (fun k e => (World.ownsRow.lt HW2.out k e).1)
            have HW3 := Lib.hid hm3
            have HL3 := Lib.hid (Rd.only HL2.out (Only.of_grown hg3) (fun a n c e h => by simp [Value.ownBlock] at h; simp only [Value.slice.injEq, Option.some.injEq] at e; rw [← e.1] at h; simp at h; have := HSZ1.out; omega))
            refine ⟨HFS.out _ hbc3, ?_⟩
            clear hm3 hg3
            refine t_app tyRecs HW3.out HL3.out (recs_one [⟨rp, rs, p, rkey, rval⟩]) (by omega) (by omega) hbc3.size rfl rfl rfl rfl rfl ?_
            intro v4 V4 hm4 hg4
            have hbe := hbc3.grown hg4 hbc3.size (fun k e => (World.ownsRow.lt HW3.out k e).1)
            refine ⟨HFS.out _ hbe, ?_⟩
            obtain ⟨ga, gc, rfl⟩ := own_slice hm4
            have HM := Lib.hid (show V4.ownsRow W1.heap.size 33 5 (.slice ga (L.opn.length + 1) gc) (L.opn ++ [(⟨rp, rs, p, rkey, rval⟩ : Rec)]).length (flatF Rec.cells (L.opn ++ [(⟨rp, rs, p, rkey, rval⟩ : Rec)])) from by simpa [flatF_append, flatF_one, Rec.cells, Nat.zero_add] using hm4)
            have HBE := Lib.hid hbe
            have hfe := HFS.out _ hbe
            clear hm4 hg4 hbe
            have hvn : 0 + L.opn.length + 1 = L.opn.length + 1 := by omega
            rw [hvn]
            generalize V4 = we at *
            have hBe := HB2.out.later HBE.out
            have c9 := hfe.1
            have bf9 := hBe.bf 9
            have hB4 := hBe.set (cur' := { L with rv := .slice va1 rows2.length vc1, ov := .slice ga (L.opn.length + 1) gc }) 9 (.slice ga (L.opn.length + 1) gc) rfl (by omega)
            have HON4 := Lib.hid (only_box (w := w) (W := we) (j := 9) (.slice ga (L.opn.length + 1) gc))
            have hcp := hB4.box (1 + p) _ (cells_C _ p hp8)
            have bfp := hB4.bf (1 + p)
            have q2 := (cell_set_block (w := we) (b := w.heap.size) (c := w.heap.size + 1) (o := 9) (p := 2) (.slice ga (L.opn.length + 1) gc) (by omega)).trans hfe.2.2.2.1
            simp only at hcp
            have HB4 := Lib.hid hB4
            clear hBe hfe hB4
            refine t_done ?_
            simp only [List.drop_succ_cons, List.drop_zero]
            go_upto_region 12 with fail
            clear c9 bf9
            generalize hW4 : we.setCell _ _ = W4 at *
            clear hW4
            simp only [NP]
            go_upto_region 13 with fail
            have hB5 := HB4.out.set (cur' := { L with rv := .slice va1 rows2.length vc1, C := L.bump p, ov := .slice ga (L.opn.length + 1) gc }) (1 + p) (.int .i64 (L.C p + 1)) (cells_bump { L with rv := .slice va1 rows2.length vc1, ov := .slice ga (L.opn.length + 1) gc } p hp8) (by omega)
            have HON5 := Lib.hid (HON4.out.setCell ⟨w.heap.size, 1 + p, none⟩ (.int .i64 (L.C p + 1)) (.inl rfl))
            have HRNG5 := Lib.hid hB5.box.range
            have HRES5 := Lib.hid hB5.res
            have H5L := Lib.hid (led_all { L with rv := .slice va1 rows2.length vc1, C := L.bump p, ov := .slice ga (L.opn.length + 1) gc } rfl rfl HO.out.one.2.2.1 HO.out.one.2.2.2)
            clear hB5 hcp bfp q2
            generalize hW5 : W4.setCell _ _ = W5 at *
            clear hW5
            go_wp2_with (first | (refine wpList_load_mid rfl 30 _ rfl (w.heap.size) 0 rfl (Led.cells { L with rv := .slice va1 rows2.length vc1, C := L.bump p, ov := .slice ga (L.opn.length + 1) gc }) _ HRNG5.out Try.underlying30 rfl (by show _ = some 16; kernel_rfl) ?_) | (refine wp_load_mid 30 _ rfl (w.heap.size) 0 rfl (Led.cells { L with rv := .slice va1 rows2.length vc1, C := L.bump p, ov := .slice ga (L.opn.length + 1) gc }) _ HRNG5.out Try.underlying30 rfl (by show _ = some 16; kernel_rfl) ?_) | (refine wpList_store_mid rfl 30 _ _ rfl (w.heap.size + 2) 0 (Led.cells { L with rv := .slice va1 rows2.length vc1, C := L.bump p, ov := .slice ga (L.opn.length + 1) gc }).toArray rfl rfl HRES5.out (by show _ = some 16; kernel_rfl) H5L.out ?_) | (refine wp_store_mid 30 _ _ rfl (w.heap.size + 2) 0 (Led.cells { L with rv := .slice va1 rows2.length vc1, C := L.bump p, ov := .slice ga (L.opn.length + 1) gc }).toArray rfl rfl HRES5.out (by show _ = some 16; kernel_rfl) H5L.out ?_))
            refine bodyPost_ret (v := .tuple #[.agg (Led.cells { L with rv := .slice va1 rows2.length vc1, C := L.bump p, ov := .slice ga (L.opn.length + 1) gc }).toArray, .bool true, .int .i64 0]) (results_cell3 Try.results34 rfl (resR_run HRES5.out)) rfl ?_
            rw [HE1.out, HNF.out, HCD.out]
            have hall : Only (fun k => k = w.heap.size ∨ k = w.heap.size + 2) we (W5.setCells (w.heap.size + 2) 0 (Led.cells { L with rv := .slice va1 rows2.length vc1, C := L.bump p, ov := .slice ga (L.opn.length + 1) gc })) := (HON5.out.weak (T := fun k => k = w.heap.size ∨ k = w.heap.size + 2) (fun _ _ h => .inl h)).trans (only_cells _ _ _ _) (fun j _ e => .inr e)
            have hws := HBE.out.size
            have hbf : Below w.heap.size w (W5.setCells (w.heap.size + 2) 0 (Led.cells { L with rv := .slice va1 rows2.length vc1, C := L.bump p, ov := .slice ga (L.opn.length + 1) gc })) := (below_then (HBX1.out.trans (HS2.out.below (by omega) (fun j hj e => by omega))) HBE.out (by omega)).trans (hall.below (by omega) (fun j hj e => by omega))
            have hx := HXS.out
            have ho1 := ownsRow_below (ownsRow_only HO1.out HS2.out (fun g hg e => by have := (World.ownsRow.lt HO1.out g hg).1; omega)) HBE.out (Nat.le_refl _)
            have hrw := ownsRow_only ho1 hall (fun g hg e => by have := (World.ownsRow.lt ho1 g hg).1; omega)
            have hop := ownsRow_only HM.out hall (fun g hg e => by have := (World.ownsRow.lt HM.out g hg).1; omega)
            exact ⟨.slice va1 rows2.length vc1, .slice ga (L.opn.length + 1) gc, rfl, .inr ⟨ownsRow_mono hrw (by omega), ownsRow_mono hop (by omega)⟩, hbf⟩
        · skip
          refine t_loud rfl (fun K hK => ?_)
          have HK := Lib.hid hK
          clear hK
          go_simp
          have hbc1 := hbc0.alloc hbc0.size (.cells #[.int .i64 rp, .int .i64 rs, .int .i64 p, .string rkey, .int .u32 rval] 33)
          have HL1 := Lib.hid (Rd.lit (w := Wd) (cs := #[.int .i64 rp, .int .i64 rs, .int .i64 p, .string rkey, .int .u32 rval]) (e := 33) (n := 1) (sz := 5) rfl (by omega))
          refine HK.out _ _ (HFS.out _ hbc1) ?_
          clear HK
          have HSZ1 := Lib.hid (World.size_alloc (Wd) (.cells #[.int .i64 rp, .int .i64 rs, .int .i64 p, .string rkey, .int .u32 rval] 33))
          generalize hG : World.alloc (Wd) _ = V1 at *
          clear hG
          refine t_loud rfl (fun K hK => ?_)
          have HK := Lib.hid hK
          clear hK
          go_simp
          have hbc2 := hbc1.alloc hbc1.size (.cells #[] 33)
          have HW2 := Lib.hid (World.ownsRow_lit (base := W1.heap.size) (size := 5) (e := 33) (V1) #[] 0 hbc1.size (by unfold maxLen; omega) (by simp))
          refine HK.out _ _ (HFS.out _ hbc2) ?_
          clear HK
          have HL2 := Lib.hid (Rd.below HL1.out (below_alloc _ (.cells #[] 33)) (Nat.le_refl _))
          have HSZ2 := Lib.hid (World.size_alloc (V1) (.cells #[] 33))
          generalize hG : World.alloc (V1) _ = V2 at *
          clear hG
          refine t_app tyRecs HW2.out (HRD.out _ hbc2) (recs_one L.opn) (by omega) (by omega) hbc2.size rfl rfl rfl rfl rfl ?_
          intro v3 V3 hm3 hg3
          have hbc3 := hbc2.grown hg3 hbc2.size (fun k e => (World.ownsRow.lt HW2.out k e).1)
          have HW3 := Lib.hid hm3
          have HL3 := Lib.hid (Rd.only HL2.out (Only.of_grown hg3) (fun a n c e h => by simp [Value.ownBlock] at h; simp only [Value.slice.injEq, Option.some.injEq] at e; rw [← e.1] at h; simp at h; have := HSZ1.out; omega))
          refine ⟨HFS.out _ hbc3, ?_⟩
          clear hm3 hg3
          refine t_app tyRecs HW3.out HL3.out (recs_one [⟨rp, rs, p, rkey, rval⟩]) (by omega) (by omega) hbc3.size rfl rfl rfl rfl rfl ?_
          intro v4 V4 hm4 hg4
          have hbe := hbc3.grown hg4 hbc3.size (fun k e => (World.ownsRow.lt HW3.out k e).1)
          refine ⟨HFS.out _ hbe, ?_⟩
          obtain ⟨ga, gc, rfl⟩ := own_slice hm4
          have HM := Lib.hid (show V4.ownsRow W1.heap.size 33 5 (.slice ga (L.opn.length + 1) gc) (L.opn ++ [(⟨rp, rs, p, rkey, rval⟩ : Rec)]).length (flatF Rec.cells (L.opn ++ [(⟨rp, rs, p, rkey, rval⟩ : Rec)])) from by simpa [flatF_append, flatF_one, Rec.cells, Nat.zero_add] using hm4)
          have HBE := Lib.hid hbe
          have hfe := HFS.out _ hbe
          clear hm4 hg4 hbe
          have hvn : 0 + L.opn.length + 1 = L.opn.length + 1 := by omega
          rw [hvn]
          generalize V4 = we at *
          have hBe := HB2.out.later HBE.out
          have c9 := hfe.1
          have bf9 := hBe.bf 9
          have hB4 := hBe.set (cur' := { L with rv := .slice va1 rows2.length vc1, ov := .slice ga (L.opn.length + 1) gc }) 9 (.slice ga (L.opn.length + 1) gc) rfl (by omega)
          have HON4 := Lib.hid (only_box (w := w) (W := we) (j := 9) (.slice ga (L.opn.length + 1) gc))
          have hcp := hB4.box (1 + p) _ (cells_C _ p hp8)
          have bfp := hB4.bf (1 + p)
          have q2 := (cell_set_block (w := we) (b := w.heap.size) (c := w.heap.size + 1) (o := 9) (p := 2) (.slice ga (L.opn.length + 1) gc) (by omega)).trans hfe.2.2.2.1
          simp only at hcp
          have HB4 := Lib.hid hB4
          clear hBe hfe hB4
          refine t_done ?_
          simp only [List.drop_succ_cons, List.drop_zero]
          go_upto_region 12 with fail
          clear c9 bf9
          generalize hW4 : we.setCell _ _ = W4 at *
          clear hW4
          simp only [NP]
          go_upto_region 13 with fail
          have hB5 := HB4.out.set (cur' := { L with rv := .slice va1 rows2.length vc1, C := L.bump p, ov := .slice ga (L.opn.length + 1) gc }) (1 + p) (.int .i64 (L.C p + 1)) (cells_bump { L with rv := .slice va1 rows2.length vc1, ov := .slice ga (L.opn.length + 1) gc } p hp8) (by omega)
          have HON5 := Lib.hid (HON4.out.setCell ⟨w.heap.size, 1 + p, none⟩ (.int .i64 (L.C p + 1)) (.inl rfl))
          have HRNG5 := Lib.hid hB5.box.range
          have HRES5 := Lib.hid hB5.res
          have H5L := Lib.hid (led_all { L with rv := .slice va1 rows2.length vc1, C := L.bump p, ov := .slice ga (L.opn.length + 1) gc } rfl rfl HO.out.one.2.2.1 HO.out.one.2.2.2)
          clear hB5 hcp bfp q2
          generalize hW5 : W4.setCell _ _ = W5 at *
          clear hW5
          go_wp2_with (first | (refine wpList_load_mid rfl 30 _ rfl (w.heap.size) 0 rfl (Led.cells { L with rv := .slice va1 rows2.length vc1, C := L.bump p, ov := .slice ga (L.opn.length + 1) gc }) _ HRNG5.out Try.underlying30 rfl (by show _ = some 16; kernel_rfl) ?_) | (refine wp_load_mid 30 _ rfl (w.heap.size) 0 rfl (Led.cells { L with rv := .slice va1 rows2.length vc1, C := L.bump p, ov := .slice ga (L.opn.length + 1) gc }) _ HRNG5.out Try.underlying30 rfl (by show _ = some 16; kernel_rfl) ?_) | (refine wpList_store_mid rfl 30 _ _ rfl (w.heap.size + 2) 0 (Led.cells { L with rv := .slice va1 rows2.length vc1, C := L.bump p, ov := .slice ga (L.opn.length + 1) gc }).toArray rfl rfl HRES5.out (by show _ = some 16; kernel_rfl) H5L.out ?_) | (refine wp_store_mid 30 _ _ rfl (w.heap.size + 2) 0 (Led.cells { L with rv := .slice va1 rows2.length vc1, C := L.bump p, ov := .slice ga (L.opn.length + 1) gc }).toArray rfl rfl HRES5.out (by show _ = some 16; kernel_rfl) H5L.out ?_))
          refine bodyPost_ret (v := .tuple #[.agg (Led.cells { L with rv := .slice va1 rows2.length vc1, C := L.bump p, ov := .slice ga (L.opn.length + 1) gc }).toArray, .bool true, .int .i64 0]) (results_cell3 Try.results34 rfl (resR_run HRES5.out)) rfl ?_
          rw [HE1.out, HNF.out, HCD.out]
          have hall : Only (fun k => k = w.heap.size ∨ k = w.heap.size + 2) we (W5.setCells (w.heap.size + 2) 0 (Led.cells { L with rv := .slice va1 rows2.length vc1, C := L.bump p, ov := .slice ga (L.opn.length + 1) gc })) := (HON5.out.weak (T := fun k => k = w.heap.size ∨ k = w.heap.size + 2) (fun _ _ h => .inl h)).trans (only_cells _ _ _ _) (fun j _ e => .inr e)
          have hws := HBE.out.size
          have hbf : Below w.heap.size w (W5.setCells (w.heap.size + 2) 0 (Led.cells { L with rv := .slice va1 rows2.length vc1, C := L.bump p, ov := .slice ga (L.opn.length + 1) gc })) := (below_then (HBX1.out.trans (HS2.out.below (by omega) (fun j hj e => by omega))) HBE.out (by omega)).trans (hall.below (by omega) (fun j hj e => by omega))
          have hx := HXS.out
          have ho1 := ownsRow_below (ownsRow_only HO1.out HS2.out (fun g hg e => by have := (World.ownsRow.lt HO1.out g hg).1; omega)) HBE.out (Nat.le_refl _)
          have hrw := ownsRow_only ho1 hall (fun g hg e => by have := (World.ownsRow.lt ho1 g hg).1; omega)
          have hop := ownsRow_only HM.out hall (fun g hg e => by have := (World.ownsRow.lt HM.out g hg).1; omega)
          exact ⟨.slice va1 rows2.length vc1, .slice ga (L.opn.length + 1) gc, rfl, .inr ⟨ownsRow_mono hrw (by omega), ownsRow_mono hop (by omega)⟩, hbf⟩
  · have HLK := Lib.hid hk
    rw [hk]
    clear hk
    have HE1 := Lib.hid (show RL = L from by rw [HREC0.out, if_neg (by rw [HTOOK.out, HLK.out]; simp)])
    have HE2 := Lib.hid (show RT = false from by rw [HTOOK.out, HLK.out]; simp)
    have HE3 := Lib.hid (show RC = 0 from by rw [HCODE.out, HLK.out]; simp)
    go_upto_region 3 with fail
    go_wp2_with (first | (refine wpList_load_mid rfl 30 _ rfl w.heap.size 0 rfl (Led.cells L) _ HRNG.out Try.underlying30 rfl (by show _ = some 16; kernel_rfl) ?_) | (refine wp_load_mid 30 _ rfl w.heap.size 0 rfl (Led.cells L) _ HRNG.out Try.underlying30 rfl (by show _ = some 16; kernel_rfl) ?_) | (refine wpList_store_mid rfl 30 _ _ rfl (w.heap.size + 2) 0 (Led.cells L).toArray rfl rfl HRES.out (by show _ = some 16; kernel_rfl) H1L.out ?_) | (refine wp_store_mid 30 _ _ rfl (w.heap.size + 2) 0 (Led.cells L).toArray rfl rfl HRES.out (by show _ = some 16; kernel_rfl) H1L.out ?_))
    refine bodyPost_ret (v := .tuple #[.agg L.cells.toArray, .bool false, .int .i64 0]) (results_cell3 Try.results34 rfl (resC_run HB1.out)) rfl ?_
    rw [HE1.out, HE2.out, HE3.out]
    exact ⟨L.rv, L.ov, rfl, .inl ⟨rfl, rfl, rfl⟩, (HEND.out _ rfl).2⟩
  · have HLK := Lib.hid hk
    rw [hk]
    clear hk
    have HE1 := Lib.hid (show RL = L from by rw [HREC0.out, if_neg (by rw [HTOOK.out, HLK.out]; simp)])
    have HE2 := Lib.hid (show RT = false from by rw [HTOOK.out, HLK.out]; simp)
    have HE3 := Lib.hid (show RC = 11 from by rw [HCODE.out, HLK.out]; simp)
    go_upto_region 5 with fail
    go_wp2_with (first | (refine wpList_load_mid rfl 30 _ rfl w.heap.size 0 rfl (Led.cells L) _ HRNG.out Try.underlying30 rfl (by show _ = some 16; kernel_rfl) ?_) | (refine wp_load_mid 30 _ rfl w.heap.size 0 rfl (Led.cells L) _ HRNG.out Try.underlying30 rfl (by show _ = some 16; kernel_rfl) ?_) | (refine wpList_store_mid rfl 30 _ _ rfl (w.heap.size + 2) 0 (Led.cells L).toArray rfl rfl HRES.out (by show _ = some 16; kernel_rfl) H1L.out ?_) | (refine wp_store_mid 30 _ _ rfl (w.heap.size + 2) 0 (Led.cells L).toArray rfl rfl HRES.out (by show _ = some 16; kernel_rfl) H1L.out ?_))
    refine bodyPost_ret (v := .tuple #[.agg L.cells.toArray, .bool false, .int .i64 11]) (results_cell3 Try.results34 rfl (resC_run HB1.out)) rfl ?_
    rw [HE1.out, HE2.out, HE3.out]
    exact ⟨L.rv, L.ov, rfl, .inl ⟨rfl, rfl, rfl⟩, (HEND.out _ rfl).2⟩
  · have HLK := Lib.hid hk
    rw [hk]
    clear hk
    have HE1 := Lib.hid (show RL = L from by rw [HREC0.out, if_neg (by rw [HTOOK.out, HLK.out]; simp)])
    have HE2 := Lib.hid (show RT = false from by rw [HTOOK.out, HLK.out]; simp)
    have HE3 := Lib.hid (show RC = 14 from by rw [HCODE.out, HLK.out]; simp)
    go_upto_region 7 with fail
    go_wp2_with (first | (refine wpList_load_mid rfl 30 _ rfl w.heap.size 0 rfl (Led.cells L) _ HRNG.out Try.underlying30 rfl (by show _ = some 16; kernel_rfl) ?_) | (refine wp_load_mid 30 _ rfl w.heap.size 0 rfl (Led.cells L) _ HRNG.out Try.underlying30 rfl (by show _ = some 16; kernel_rfl) ?_) | (refine wpList_store_mid rfl 30 _ _ rfl (w.heap.size + 2) 0 (Led.cells L).toArray rfl rfl HRES.out (by show _ = some 16; kernel_rfl) H1L.out ?_) | (refine wp_store_mid 30 _ _ rfl (w.heap.size + 2) 0 (Led.cells L).toArray rfl rfl HRES.out (by show _ = some 16; kernel_rfl) H1L.out ?_))
    refine bodyPost_ret (v := .tuple #[.agg L.cells.toArray, .bool false, .int .i64 14]) (results_cell3 Try.results34 rfl (resC_run HB1.out)) rfl ?_
    rw [HE1.out, HE2.out, HE3.out]
    exact ⟨L.rv, L.ov, rfl, .inl ⟨rfl, rfl, rfl⟩, (HEND.out _ rfl).2⟩
end Go.Proofs.Ytkabfjbmofpkdaa

/- Layer 14: what an entry does to a ledger, in the document's text, walked: what the walk asks. -/
namespace Go.Proofs.Ytkabfjbmofpkdaa
open Go.RowKit Go.Shelf
set_option maxRecDepth 100000

theorem ledR_zero (w : World) : LedR w zeroL := ⟨Rd.nil _ _, Rd.nil _ _, ⟨Rd.nil _ _, fun b hb => by simp [zeroL] at hb⟩, ⟨Rd.nil _ _, fun o ho => by simp [zeroL] at ho⟩⟩
end Go.Proofs.Ytkabfjbmofpkdaa

/- Layer 14: what an entry does to a ledger, in the document's text, walked: entries of kind 0. -/
namespace Go.Proofs.Ytkabfjbmofpkdaa
open Go.RowKit Go.Shelf
set_option maxRecDepth 100000

set_option maxHeartbeats 4000000 in
theorem rapply_k0 (L : Led) (E : Ent) (hk : E.k = 0) (w : World) (hL : LedR w L) (hok : L.Ok) (hsm : L.Small) (hG : OpsR w E.gv E.os) (hek : E.Ok) (hes : E.Small) :
    Calls Try.prog 11 #[.agg L.cells.toArray, .agg E.cells.toArray] w fun e w' => ∃ M, e = .returned (.tuple #[.agg M.cells.toArray, .bool (applyL L E).2.1, .int .i64 (applyL L E).2.2]) ∧ SameL (applyL L E).1 M ∧ LedR w' M ∧ Below w.heap.size w w' := by
  have HK := Lib.hid hk
  clear hk
  obtain ⟨X, hX⟩ : ∃ X, X = ((w.alloc (.cells L.cells.toArray 30)).alloc (.cells E.cells.toArray 35)).alloc (.cells zero16 30) := ⟨_, rfl⟩
  have hbX : Below w.heap.size w X := by rw [hX]; exact below_box (below_box (below_alloc _ _) _) _
  have hXs : X.heap.size = w.heap.size + 3 := by rw [hX]; simp
  have hBC : BoxC w.heap.size (w.heap.size + 2) X L := by
    refine ⟨?_, fun j => ?_, fun j hj => ?_, by omega, by omega, by omega⟩
    · rw [hX]; exact ((boxL_self w L 30).later (below_alloc _ _)).later (below_alloc _ _)
    · rw [hX, World.frozen?_alloc_past _ _ _ (by simp <;> omega), World.frozen?_alloc_past _ _ _ (by simp <;> omega), World.frozen?_alloc_at _ _ _ _ rfl]
    · refine ⟨?_, by rw [hX, World.frozen?_alloc_at _ _ _ _ (by simp)]⟩
      rw [hX, World.cell?_alloc_at _ _ _ _ (by simp)]
      show (zero16[0 + j]?).isSome = true
      rw [Nat.zero_add]
      have : j < zero16.size := hj
      rw [Array.getElem?_eq_getElem this]; rfl
  have hBE : BoxE X (w.heap.size + 1) E := by
    rw [hX]
    have := (boxE_self (w.alloc (.cells L.cells.toArray 30)) E 35).later (below_alloc _ (.cells zero16 30))
    rwa [World.size_alloc] at this
  have HX := Lib.hid hX
  have HBC := Lib.hid hBC
  have HBE := Lib.hid hBE
  have HBX := Lib.hid hbX
  have HXS := Lib.hid hXs
  have HL := Lib.hid hL
  have HOK := Lib.hid hok
  have HSM := Lib.hid hsm
  have HG := Lib.hid hG
  have HEK := Lib.hid hek
  have HES := Lib.hid hes
  have HRG := Lib.hid hBC.box.range
  have HRE := Lib.hid hBE.range
  clear hX hBC hBE hbX hXs hL hok hsm hG hek hes
  go_enter Try.func11, Try.ntmps11
  go_upto_region 1 with fail
  rw [show ((w.alloc (.cells L.cells.toArray 30)).alloc (.cells E.cells.toArray 35)).alloc (.cells #[.slice none 0 0, .int .i64 0, .int .i64 0, .int .i64 0, .int .i64 0, .int .i64 0, .int .i64 0, .int .i64 0, .int .i64 0, .slice none 0 0, .slice none 0 0, .int .i64 0, .int .i64 0, .bool false, .slice none 0 0, .int .i64 0] 30) = X from HX.out.symm]
  have HH := Lib.hid HBC.out.res
  have HZ := Lib.hid (led_all zeroL rfl rfl rfl rfl)
  cases hg : L.good with
  | false =>
    have HA := Lib.hid (show applyL L E = (zeroL, false, 3) by unfold applyL; rw [if_neg (by simp [hg])])
    have HGD := Lib.hid hg
    clear hg
    go_wp2_with (first | (refine wpList_load_mid rfl 30 _ rfl (w.heap.size) 0 rfl (Led.cells L) _ HRG.out Try.underlying30 rfl (by show _ = some 16; kernel_rfl) ?_) | (refine wp_load_mid 30 _ rfl (w.heap.size) 0 rfl (Led.cells L) _ HRG.out Try.underlying30 rfl (by show _ = some 16; kernel_rfl) ?_) | (refine wpList_store_mid rfl 30 _ _ rfl (w.heap.size + 2) 0 (Led.cells L).toArray rfl rfl HH.out (by show _ = some 16; kernel_rfl) HZ.out ?_) | (refine wp_store_mid 30 _ _ rfl (w.heap.size + 2) 0 (Led.cells L).toArray rfl rfl HH.out (by show _ = some 16; kernel_rfl) HZ.out ?_))
    refine (rGood_calls L X (HL.out.below HBX.out (Nat.le_refl _)) HOK.out HSM.out).mono ?_
    rintro e w1 ⟨rfl, hb1⟩
    rw [HGD.out]
    have HB1 := Lib.hid (HBC.out.later hb1)
    have HH1 := Lib.hid HB1.out.res
    have HX1 := Lib.hid (below_go HBX.out hb1)
    clear hb1
    go_upto_region 2 with fail
    go_wp2_with (first | (refine wpList_load_mid rfl 30 _ rfl (w.heap.size) 0 rfl (Led.cells zeroL) _ HRG.out Try.underlying30 rfl (by show _ = some 16; kernel_rfl) ?_) | (refine wp_load_mid 30 _ rfl (w.heap.size) 0 rfl (Led.cells zeroL) _ HRG.out Try.underlying30 rfl (by show _ = some 16; kernel_rfl) ?_) | (refine wpList_store_mid rfl 30 _ _ rfl (w.heap.size + 2) 0 (Led.cells zeroL).toArray rfl rfl HH1.out (by show _ = some 16; kernel_rfl) HZ.out ?_) | (refine wp_store_mid 30 _ _ rfl (w.heap.size + 2) 0 (Led.cells zeroL).toArray rfl rfl HH1.out (by show _ = some 16; kernel_rfl) HZ.out ?_))
    refine bodyPost_ret (v := .tuple #[.agg (Led.cells zeroL).toArray, .bool false, .int .i64 3]) (results_cell3 Try.results11 rfl (resR_run HH1.out)) rfl ?_
    rw [HA.out]
    exact ⟨zeroL, rfl, SameL.refl _, ledR_zero _, HX1.out.trans ((only_cells _ _ _ _).below (by have := HX1.out.size; have := HXS.out; have := HBX.out.size; omega) (fun j hj e => by omega))⟩
  | true =>
    have HGD := Lib.hid hg
    clear hg
    go_wp2_with (first | (refine wpList_load_mid rfl 30 _ rfl (w.heap.size) 0 rfl (Led.cells L) _ HRG.out Try.underlying30 rfl (by show _ = some 16; kernel_rfl) ?_) | (refine wp_load_mid 30 _ rfl (w.heap.size) 0 rfl (Led.cells L) _ HRG.out Try.underlying30 rfl (by show _ = some 16; kernel_rfl) ?_) | (refine wpList_store_mid rfl 30 _ _ rfl (w.heap.size + 2) 0 (Led.cells L).toArray rfl rfl HH.out (by show _ = some 16; kernel_rfl) HZ.out ?_) | (refine wp_store_mid 30 _ _ rfl (w.heap.size + 2) 0 (Led.cells L).toArray rfl rfl HH.out (by show _ = some 16; kernel_rfl) HZ.out ?_))
    refine (rGood_calls L X (HL.out.below HBX.out (Nat.le_refl _)) HOK.out HSM.out).mono ?_
    rintro e w1 ⟨rfl, hb1⟩
    rw [HGD.out]
    have HB1 := Lib.hid (HBC.out.later hb1)
    have HE1 := Lib.hid (HBE.out.later hb1)
    have HRE1 := Lib.hid HE1.out.range
    have HX1 := Lib.hid (below_go HBX.out hb1)
    clear hb1
    have e0 := HE1.out 0 _ rfl
    have e1 := HE1.out 1 _ rfl
    have e2 := HE1.out 2 _ rfl
    have e3 := HE1.out 3 _ rfl
    have e4 := HE1.out 4 _ rfl
    have e5 := HE1.out 5 _ rfl
    have e6 := HE1.out 6 _ rfl
    have e7 := HE1.out 7 _ rfl
    go_wp2_with fail
    clear e0 e1 e2 e3 e4 e5 e6 e7
    refine (entRgood_calls E.k E.r E.gv E.os E.n w1 (HG.out.below HX1.out (Nat.le_refl _))).mono ?_
    rintro e w2 ⟨rfl, hb2⟩
    have HB2 := Lib.hid (HB1.out.later hb2)
    have HE2 := Lib.hid (HE1.out.later hb2)
    have HX2 := Lib.hid (below_go HX1.out hb2)
    have HH2 := Lib.hid HB2.out.res
    clear hb2
    cases hge : goodEnt E.k E.r E.os E.n with
    | false =>
      have HA := Lib.hid (show applyL L E = (zeroL, false, 3) by unfold applyL; rw [if_neg (by unfold Ent.good; simp [hge])])
      clear hge
      go_upto_region 2 with fail
      go_wp2_with (first | (refine wpList_load_mid rfl 30 _ rfl (w.heap.size) 0 rfl (Led.cells zeroL) _ HRG.out Try.underlying30 rfl (by show _ = some 16; kernel_rfl) ?_) | (refine wp_load_mid 30 _ rfl (w.heap.size) 0 rfl (Led.cells zeroL) _ HRG.out Try.underlying30 rfl (by show _ = some 16; kernel_rfl) ?_) | (refine wpList_store_mid rfl 30 _ _ rfl (w.heap.size + 2) 0 (Led.cells zeroL).toArray rfl rfl HH2.out (by show _ = some 16; kernel_rfl) HZ.out ?_) | (refine wp_store_mid 30 _ _ rfl (w.heap.size + 2) 0 (Led.cells zeroL).toArray rfl rfl HH2.out (by show _ = some 16; kernel_rfl) HZ.out ?_))
      refine bodyPost_ret (v := .tuple #[.agg (Led.cells zeroL).toArray, .bool false, .int .i64 3]) (results_cell3 Try.results11 rfl (resR_run HH2.out)) rfl ?_
      rw [HA.out]
      exact ⟨zeroL, rfl, SameL.refl _, ledR_zero _, HX2.out.trans ((only_cells _ _ _ _).below (by have := HX2.out.size; have := HXS.out; have := HBX.out.size; omega) (fun j hj e => by omega))⟩
    | true =>
      have HA := Lib.hid (show applyL L E = stepL L E by unfold applyL; rw [if_pos ⟨HGD.out, hge⟩])
      have HGE := Lib.hid hge
      have HB := HB2
      have HE := HE2
      have HBW := HX2
      have HZW := Lib.hid (show w.heap.size + 3 ≤ w2.heap.size by have := HB2.out.hR; omega)
      have HFIN := Lib.hid (fun (M1 : Led) (b : Bool) (c : Int) (M2 : Led) (W' : World) (h1 : stepL L E = (M1, b, c)) (h2 : SameL M1 M2) (h3 : LedR W' M2) (h4 : Below w.heap.size w W') =>
        show ∃ M', Ending.returned (.tuple #[.agg M2.cells.toArray, .bool b, .int .i64 c]) = Ending.returned (.tuple #[.agg M'.cells.toArray, .bool (applyL L E).2.1, .int .i64 (applyL L E).2.2]) ∧ SameL (applyL L E).1 M' ∧ LedR W' M' ∧ Below w.heap.size w W' by
          rw [HA.out, h1]
          exact ⟨M2, rfl, h2, h3, h4⟩)
      go_upto_region 3 with fail
      generalize w2 = W at *
      clear HB1 HB2 HBC HBE HE1 HE2 HX HRG HRE HRE1 HX1 HX2
      have HRW := Lib.hid HB.out.box.range
      have HRT := Lib.hid HB.out.res
      have HM1 := Lib.hid (led_allR HL.out)
      have hgq := (goodEnt_iff E.k E.r E.os E.n).1 HGE.out
      have HGQ := Lib.hid hgq
      clear hgq
      obtain ⟨k, ⟨rp, rs, rq, rkey, rval⟩, gv, os, n⟩ := E
      have hk := HK.out
      simp only at hk
      clear HK
      subst hk
      have hz := HZW.out
      have e0 : W.cell? ⟨w.heap.size + 1, 0, none⟩ = some (.int .i64 0) := HE.out 0 _ rfl
      have hgm := ((good_iff L).1 HGD.out).1
      have hnums := HOK.out.nums
      unfold I64 at hnums
      have HFN := Lib.hid (show L.opn.length ≤ 512 ∧ 0 ≤ L.decided ∧ L.decided ≤ L.sealed ∧ L.sealed - L.decided ≤ 64 ∧ 0 ≤ L.keep ∧ L.keep ≤ 64 ∧ L.sealed ≤ 9223372036854775807 by omega)
      clear hgm hnums
      have HST := Lib.hid (show stepL L ⟨0, ⟨rp, rs, rq, rkey, rval⟩, gv, os, n⟩ = (L, false, 0) from rfl)
      go_upto_region 36 with fail
      go_wp2_with (first | (refine wpList_load_mid rfl 30 _ rfl (w.heap.size) 0 rfl (Led.cells L) _ HRW.out Try.underlying30 rfl (by show _ = some 16; kernel_rfl) ?_) | (refine wp_load_mid 30 _ rfl (w.heap.size) 0 rfl (Led.cells L) _ HRW.out Try.underlying30 rfl (by show _ = some 16; kernel_rfl) ?_) | (refine wpList_store_mid rfl 30 _ _ rfl (w.heap.size + 2) 0 (Led.cells L).toArray rfl rfl HRT.out (by show _ = some 16; kernel_rfl) HM1.out ?_) | (refine wp_store_mid 30 _ _ rfl (w.heap.size + 2) 0 (Led.cells L).toArray rfl rfl HRT.out (by show _ = some 16; kernel_rfl) HM1.out ?_))
      refine bodyPost_ret (v := .tuple #[.agg (Led.cells L).toArray, .bool false, .int .i64 0]) (results_cell3 Try.results11 rfl (resR_run HRT.out)) rfl ?_
      have hbf := HBW.out.trans ((only_cells W (w.heap.size + 2) L.cells 0).below (by omega) (fun j hj e => by omega))
      exact HFIN.out _ _ _ L _ HST.out (SameL.refl _) (HL.out.below hbf (Nat.le_refl _)) hbf
end Go.Proofs.Ytkabfjbmofpkdaa

/- Layer 14: what an entry does to a ledger, in the document's text, walked: entries of kind 1. -/
namespace Go.Proofs.Ytkabfjbmofpkdaa
open Go.RowKit Go.Shelf
set_option maxRecDepth 100000

set_option maxHeartbeats 4000000 in
theorem rapply_k1 (L : Led) (E : Ent) (hk : E.k = 1) (w : World) (hL : LedR w L) (hok : L.Ok) (hsm : L.Small) (hG : OpsR w E.gv E.os) (hek : E.Ok) (hes : E.Small) :
    Calls Try.prog 11 #[.agg L.cells.toArray, .agg E.cells.toArray] w fun e w' => ∃ M, e = .returned (.tuple #[.agg M.cells.toArray, .bool (applyL L E).2.1, .int .i64 (applyL L E).2.2]) ∧ SameL (applyL L E).1 M ∧ LedR w' M ∧ Below w.heap.size w w' := by
  have HK := Lib.hid hk
  clear hk
  obtain ⟨X, hX⟩ : ∃ X, X = ((w.alloc (.cells L.cells.toArray 30)).alloc (.cells E.cells.toArray 35)).alloc (.cells zero16 30) := ⟨_, rfl⟩
  have hbX : Below w.heap.size w X := by rw [hX]; exact below_box (below_box (below_alloc _ _) _) _
  have hXs : X.heap.size = w.heap.size + 3 := by rw [hX]; simp
  have hBC : BoxC w.heap.size (w.heap.size + 2) X L := by
    refine ⟨?_, fun j => ?_, fun j hj => ?_, by omega, by omega, by omega⟩
    · rw [hX]; exact ((boxL_self w L 30).later (below_alloc _ _)).later (below_alloc _ _)
    · rw [hX, World.frozen?_alloc_past _ _ _ (by simp <;> omega), World.frozen?_alloc_past _ _ _ (by simp <;> omega), World.frozen?_alloc_at _ _ _ _ rfl]
    · refine ⟨?_, by rw [hX, World.frozen?_alloc_at _ _ _ _ (by simp)]⟩
      rw [hX, World.cell?_alloc_at _ _ _ _ (by simp)]
      show (zero16[0 + j]?).isSome = true
      rw [Nat.zero_add]
      have : j < zero16.size := hj
      rw [Array.getElem?_eq_getElem this]; rfl
  have hBE : BoxE X (w.heap.size + 1) E := by
    rw [hX]
    have := (boxE_self (w.alloc (.cells L.cells.toArray 30)) E 35).later (below_alloc _ (.cells zero16 30))
    rwa [World.size_alloc] at this
  have HX := Lib.hid hX
  have HBC := Lib.hid hBC
  have HBE := Lib.hid hBE
  have HBX := Lib.hid hbX
  have HXS := Lib.hid hXs
  have HL := Lib.hid hL
  have HOK := Lib.hid hok
  have HSM := Lib.hid hsm
  have HG := Lib.hid hG
  have HEK := Lib.hid hek
  have HES := Lib.hid hes
  have HRG := Lib.hid hBC.box.range
  have HRE := Lib.hid hBE.range
  clear hX hBC hBE hbX hXs hL hok hsm hG hek hes
  go_enter Try.func11, Try.ntmps11
  go_upto_region 1 with fail
  rw [show ((w.alloc (.cells L.cells.toArray 30)).alloc (.cells E.cells.toArray 35)).alloc (.cells #[.slice none 0 0, .int .i64 0, .int .i64 0, .int .i64 0, .int .i64 0, .int .i64 0, .int .i64 0, .int .i64 0, .int .i64 0, .slice none 0 0, .slice none 0 0, .int .i64 0, .int .i64 0, .bool false, .slice none 0 0, .int .i64 0] 30) = X from HX.out.symm]
  have HH := Lib.hid HBC.out.res
  have HZ := Lib.hid (led_all zeroL rfl rfl rfl rfl)
  cases hg : L.good with
  | false =>
    have HA := Lib.hid (show applyL L E = (zeroL, false, 3) by unfold applyL; rw [if_neg (by simp [hg])])
    have HGD := Lib.hid hg
    clear hg
    go_wp2_with (first | (refine wpList_load_mid rfl 30 _ rfl (w.heap.size) 0 rfl (Led.cells L) _ HRG.out Try.underlying30 rfl (by show _ = some 16; kernel_rfl) ?_) | (refine wp_load_mid 30 _ rfl (w.heap.size) 0 rfl (Led.cells L) _ HRG.out Try.underlying30 rfl (by show _ = some 16; kernel_rfl) ?_) | (refine wpList_store_mid rfl 30 _ _ rfl (w.heap.size + 2) 0 (Led.cells L).toArray rfl rfl HH.out (by show _ = some 16; kernel_rfl) HZ.out ?_) | (refine wp_store_mid 30 _ _ rfl (w.heap.size + 2) 0 (Led.cells L).toArray rfl rfl HH.out (by show _ = some 16; kernel_rfl) HZ.out ?_))
    refine (rGood_calls L X (HL.out.below HBX.out (Nat.le_refl _)) HOK.out HSM.out).mono ?_
    rintro e w1 ⟨rfl, hb1⟩
    rw [HGD.out]
    have HB1 := Lib.hid (HBC.out.later hb1)
    have HH1 := Lib.hid HB1.out.res
    have HX1 := Lib.hid (below_go HBX.out hb1)
    clear hb1
    go_upto_region 2 with fail
    go_wp2_with (first | (refine wpList_load_mid rfl 30 _ rfl (w.heap.size) 0 rfl (Led.cells zeroL) _ HRG.out Try.underlying30 rfl (by show _ = some 16; kernel_rfl) ?_) | (refine wp_load_mid 30 _ rfl (w.heap.size) 0 rfl (Led.cells zeroL) _ HRG.out Try.underlying30 rfl (by show _ = some 16; kernel_rfl) ?_) | (refine wpList_store_mid rfl 30 _ _ rfl (w.heap.size + 2) 0 (Led.cells zeroL).toArray rfl rfl HH1.out (by show _ = some 16; kernel_rfl) HZ.out ?_) | (refine wp_store_mid 30 _ _ rfl (w.heap.size + 2) 0 (Led.cells zeroL).toArray rfl rfl HH1.out (by show _ = some 16; kernel_rfl) HZ.out ?_))
    refine bodyPost_ret (v := .tuple #[.agg (Led.cells zeroL).toArray, .bool false, .int .i64 3]) (results_cell3 Try.results11 rfl (resR_run HH1.out)) rfl ?_
    rw [HA.out]
    exact ⟨zeroL, rfl, SameL.refl _, ledR_zero _, HX1.out.trans ((only_cells _ _ _ _).below (by have := HX1.out.size; have := HXS.out; have := HBX.out.size; omega) (fun j hj e => by omega))⟩
  | true =>
    have HGD := Lib.hid hg
    clear hg
    go_wp2_with (first | (refine wpList_load_mid rfl 30 _ rfl (w.heap.size) 0 rfl (Led.cells L) _ HRG.out Try.underlying30 rfl (by show _ = some 16; kernel_rfl) ?_) | (refine wp_load_mid 30 _ rfl (w.heap.size) 0 rfl (Led.cells L) _ HRG.out Try.underlying30 rfl (by show _ = some 16; kernel_rfl) ?_) | (refine wpList_store_mid rfl 30 _ _ rfl (w.heap.size + 2) 0 (Led.cells L).toArray rfl rfl HH.out (by show _ = some 16; kernel_rfl) HZ.out ?_) | (refine wp_store_mid 30 _ _ rfl (w.heap.size + 2) 0 (Led.cells L).toArray rfl rfl HH.out (by show _ = some 16; kernel_rfl) HZ.out ?_))
    refine (rGood_calls L X (HL.out.below HBX.out (Nat.le_refl _)) HOK.out HSM.out).mono ?_
    rintro e w1 ⟨rfl, hb1⟩
    rw [HGD.out]
    have HB1 := Lib.hid (HBC.out.later hb1)
    have HE1 := Lib.hid (HBE.out.later hb1)
    have HRE1 := Lib.hid HE1.out.range
    have HX1 := Lib.hid (below_go HBX.out hb1)
    clear hb1
    have e0 := HE1.out 0 _ rfl
    have e1 := HE1.out 1 _ rfl
    have e2 := HE1.out 2 _ rfl
    have e3 := HE1.out 3 _ rfl
    have e4 := HE1.out 4 _ rfl
    have e5 := HE1.out 5 _ rfl
    have e6 := HE1.out 6 _ rfl
    have e7 := HE1.out 7 _ rfl
    go_wp2_with fail
    clear e0 e1 e2 e3 e4 e5 e6 e7
    refine (entRgood_calls E.k E.r E.gv E.os E.n w1 (HG.out.below HX1.out (Nat.le_refl _))).mono ?_
    rintro e w2 ⟨rfl, hb2⟩
    have HB2 := Lib.hid (HB1.out.later hb2)
    have HE2 := Lib.hid (HE1.out.later hb2)
    have HX2 := Lib.hid (below_go HX1.out hb2)
    have HH2 := Lib.hid HB2.out.res
    clear hb2
    cases hge : goodEnt E.k E.r E.os E.n with
    | false =>
      have HA := Lib.hid (show applyL L E = (zeroL, false, 3) by unfold applyL; rw [if_neg (by unfold Ent.good; simp [hge])])
      clear hge
      go_upto_region 2 with fail
      go_wp2_with (first | (refine wpList_load_mid rfl 30 _ rfl (w.heap.size) 0 rfl (Led.cells zeroL) _ HRG.out Try.underlying30 rfl (by show _ = some 16; kernel_rfl) ?_) | (refine wp_load_mid 30 _ rfl (w.heap.size) 0 rfl (Led.cells zeroL) _ HRG.out Try.underlying30 rfl (by show _ = some 16; kernel_rfl) ?_) | (refine wpList_store_mid rfl 30 _ _ rfl (w.heap.size + 2) 0 (Led.cells zeroL).toArray rfl rfl HH2.out (by show _ = some 16; kernel_rfl) HZ.out ?_) | (refine wp_store_mid 30 _ _ rfl (w.heap.size + 2) 0 (Led.cells zeroL).toArray rfl rfl HH2.out (by show _ = some 16; kernel_rfl) HZ.out ?_))
      refine bodyPost_ret (v := .tuple #[.agg (Led.cells zeroL).toArray, .bool false, .int .i64 3]) (results_cell3 Try.results11 rfl (resR_run HH2.out)) rfl ?_
      rw [HA.out]
      exact ⟨zeroL, rfl, SameL.refl _, ledR_zero _, HX2.out.trans ((only_cells _ _ _ _).below (by have := HX2.out.size; have := HXS.out; have := HBX.out.size; omega) (fun j hj e => by omega))⟩
    | true =>
      have HA := Lib.hid (show applyL L E = stepL L E by unfold applyL; rw [if_pos ⟨HGD.out, hge⟩])
      have HGE := Lib.hid hge
      have HB := HB2
      have HE := HE2
      have HBW := HX2
      have HZW := Lib.hid (show w.heap.size + 3 ≤ w2.heap.size by have := HB2.out.hR; omega)
      have HFIN := Lib.hid (fun (M1 : Led) (b : Bool) (c : Int) (M2 : Led) (W' : World) (h1 : stepL L E = (M1, b, c)) (h2 : SameL M1 M2) (h3 : LedR W' M2) (h4 : Below w.heap.size w W') =>
        show ∃ M', Ending.returned (.tuple #[.agg M2.cells.toArray, .bool b, .int .i64 c]) = Ending.returned (.tuple #[.agg M'.cells.toArray, .bool (applyL L E).2.1, .int .i64 (applyL L E).2.2]) ∧ SameL (applyL L E).1 M' ∧ LedR W' M' ∧ Below w.heap.size w W' by
          rw [HA.out, h1]
          exact ⟨M2, rfl, h2, h3, h4⟩)
      go_upto_region 3 with fail
      generalize w2 = W at *
      clear HB1 HB2 HBC HBE HE1 HE2 HX HRG HRE HRE1 HX1 HX2
      have HRW := Lib.hid HB.out.box.range
      have HRT := Lib.hid HB.out.res
      have HM1 := Lib.hid (led_allR HL.out)
      have hgq := (goodEnt_iff E.k E.r E.os E.n).1 HGE.out
      have HGQ := Lib.hid hgq
      clear hgq
      obtain ⟨k, ⟨rp, rs, rq, rkey, rval⟩, gv, os, n⟩ := E
      have hk := HK.out
      simp only at hk
      clear HK
      subst hk
      have hz := HZW.out
      have e0 : W.cell? ⟨w.heap.size + 1, 0, none⟩ = some (.int .i64 1) := HE.out 0 _ rfl
      have hgm := ((good_iff L).1 HGD.out).1
      have hnums := HOK.out.nums
      unfold I64 at hnums
      have HFN := Lib.hid (show L.opn.length ≤ 512 ∧ 0 ≤ L.decided ∧ L.decided ≤ L.sealed ∧ L.sealed - L.decided ≤ 64 ∧ 0 ≤ L.keep ∧ L.keep ≤ 64 ∧ L.sealed ≤ 9223372036854775807 by omega)
      clear hgm hnums
      have e1 : W.cell? ⟨w.heap.size + 1, 1, none⟩ = some (.int .i64 rp) := HE.out 1 _ rfl
      have e2 : W.cell? ⟨w.heap.size + 1, 2, none⟩ = some (.int .i64 rs) := HE.out 2 _ rfl
      have e3 : W.cell? ⟨w.heap.size + 1, 3, none⟩ = some (.int .i64 rq) := HE.out 3 _ rfl
      have e4 : W.cell? ⟨w.heap.size + 1, 4, none⟩ = some (.string rkey) := HE.out 4 _ rfl
      have e5 : W.cell? ⟨w.heap.size + 1, 5, none⟩ = some (.int .u32 rval) := HE.out 5 _ rfl
      go_upto_region 5 with fail
      go_wp2_with (first | (refine wpList_load_mid rfl 30 _ rfl (w.heap.size) 0 rfl (Led.cells L) _ HRW.out Try.underlying30 rfl (by show _ = some 16; kernel_rfl) ?_) | (refine wp_load_mid 30 _ rfl (w.heap.size) 0 rfl (Led.cells L) _ HRW.out Try.underlying30 rfl (by show _ = some 16; kernel_rfl) ?_) | (refine wpList_store_mid rfl 30 _ _ rfl (w.heap.size + 2) 0 (Led.cells L).toArray rfl rfl HRT.out (by show _ = some 16; kernel_rfl) HM1.out ?_) | (refine wp_store_mid 30 _ _ rfl (w.heap.size + 2) 0 (Led.cells L).toArray rfl rfl HRT.out (by show _ = some 16; kernel_rfl) HM1.out ?_))
      refine (rrecord_calls L ⟨rp, rs, rq, rkey, rval⟩ W (HL.out.below HBW.out (Nat.le_refl _)) HOK.out ((table_good _).1 ((good_iff L).1 HGD.out).1.1) HFN.out.1 HGQ.out.2.2.2.2.2 HEK.out.2.1).mono ?_
      rintro e w5 ⟨rv5, ov5, rfl, hal5, hb5⟩
      have hB5 := HB.out.later hb5
      have HT5 := Lib.hid hB5.res
      have hbats : (L.recL ⟨rp, rs, rq, rkey, rval⟩).bats = L.bats ∧ (L.recL ⟨rp, rs, rq, rkey, rval⟩).bv = L.bv ∧ (L.recL ⟨rp, rs, rq, rkey, rval⟩).ops = L.ops ∧ (L.recL ⟨rp, rs, rq, rkey, rval⟩).gv = L.gv := by unfold Led.recL; split <;> exact ⟨rfl, rfl, rfl, rfl⟩
      have hlr : ∀ W', Only (fun k => k = w.heap.size + 2) w5 W' → Below w.heap.size w W' → LedR W' { L.recL ⟨rp, rs, rq, rkey, rval⟩ with rv := rv5, ov := ov5 } := by
        intro W' ho hb
        have hl := HL.out.below hb (Nat.le_refl _)
        rcases hal5 with ⟨h1, h2, h3⟩ | ⟨h1, h2⟩
        · rw [h1, h2, h3]; exact hl
        · have g1 := ownsRow_only h1 ho (fun g hg e => by have := (World.ownsRow.lt h1 g hg).1; omega)
          have g2 := ownsRow_only h2 ho (fun g hg e => by have := (World.ownsRow.lt h2 g hg).1; omega)
          exact ⟨Rd.of_own g1, Rd.of_own g2, by show BtsR _ (Led.bv _) (Led.bats _); rw [hbats.1, hbats.2.1]; exact hl.bats, by show OpsR _ (Led.gv _) (Led.ops _); rw [hbats.2.2.1, hbats.2.2.2]; exact hl.ops⟩
      have HLR := Lib.hid hlr
      have H5L := Lib.hid (led_allR (hlr w5 (Only.refl _ _) (below_then HBW.out hb5 (by omega))))
      have HSL := Lib.hid (show SameL (L.recL ⟨rp, rs, rq, rkey, rval⟩) { L.recL ⟨rp, rs, rq, rkey, rval⟩ with rv := rv5, ov := ov5 } from ⟨rfl, rfl, rfl, rfl, rfl, rfl, rfl, rfl, rfl⟩)
      have HBF := Lib.hid hb5
      clear hB5 hal5 hlr hbats hb5 e0 e1 e2 e3 e4 e5
      generalize hC : ({ L.recL ⟨rp, rs, rq, rkey, rval⟩ with rv := rv5, ov := ov5 } : Led) = CUR at *
      clear hC
      go_wp2_with (first | (refine wpList_load_mid rfl 30 _ rfl (w.heap.size) 0 rfl (Led.cells CUR) _ HRW.out Try.underlying30 rfl (by show _ = some 16; kernel_rfl) ?_) | (refine wp_load_mid 30 _ rfl (w.heap.size) 0 rfl (Led.cells CUR) _ HRW.out Try.underlying30 rfl (by show _ = some 16; kernel_rfl) ?_) | (refine wpList_store_mid rfl 30 _ _ rfl (w.heap.size + 2) 0 (Led.cells CUR).toArray rfl rfl HT5.out (by show _ = some 16; kernel_rfl) H5L.out ?_) | (refine wp_store_mid 30 _ _ rfl (w.heap.size + 2) 0 (Led.cells CUR).toArray rfl rfl HT5.out (by show _ = some 16; kernel_rfl) H5L.out ?_))
      refine bodyPost_ret (v := .tuple #[.agg CUR.cells.toArray, .bool (L.recTook ⟨rp, rs, rq, rkey, rval⟩), .int .i64 (L.recCode ⟨rp, rs, rq, rkey, rval⟩)]) (results_cell3 Try.results11 rfl (resR_run HT5.out)) rfl ?_
      have hsz := HBF.out.size
      have ho := only_cells w5 (w.heap.size + 2) CUR.cells 0
      have hbf := (below_then HBW.out HBF.out (by omega)).trans (ho.below (by omega) (fun j hj e => by omega))
      exact HFIN.out (L.recL ⟨rp, rs, rq, rkey, rval⟩) _ _ CUR _ rfl HSL.out (HLR.out _ ho hbf) hbf
end Go.Proofs.Ytkabfjbmofpkdaa

/- Layer 14: what an entry does to a ledger, in the document's text, walked: entries of kind 2. -/
namespace Go.Proofs.Ytkabfjbmofpkdaa
open Go.RowKit Go.Shelf
set_option maxRecDepth 100000

set_option maxHeartbeats 4000000 in
theorem rapply_k2 (L : Led) (E : Ent) (hk : E.k = 2) (w : World) (hL : LedR w L) (hok : L.Ok) (hsm : L.Small) (hG : OpsR w E.gv E.os) (hek : E.Ok) (hes : E.Small) :
    Calls Try.prog 11 #[.agg L.cells.toArray, .agg E.cells.toArray] w fun e w' => ∃ M, e = .returned (.tuple #[.agg M.cells.toArray, .bool (applyL L E).2.1, .int .i64 (applyL L E).2.2]) ∧ SameL (applyL L E).1 M ∧ LedR w' M ∧ Below w.heap.size w w' := by
  have HK := Lib.hid hk
  clear hk
  obtain ⟨X, hX⟩ : ∃ X, X = ((w.alloc (.cells L.cells.toArray 30)).alloc (.cells E.cells.toArray 35)).alloc (.cells zero16 30) := ⟨_, rfl⟩
  have hbX : Below w.heap.size w X := by rw [hX]; exact below_box (below_box (below_alloc _ _) _) _
  have hXs : X.heap.size = w.heap.size + 3 := by rw [hX]; simp
  have hBC : BoxC w.heap.size (w.heap.size + 2) X L := by
    refine ⟨?_, fun j => ?_, fun j hj => ?_, by omega, by omega, by omega⟩
    · rw [hX]; exact ((boxL_self w L 30).later (below_alloc _ _)).later (below_alloc _ _)
    · rw [hX, World.frozen?_alloc_past _ _ _ (by simp <;> omega), World.frozen?_alloc_past _ _ _ (by simp <;> omega), World.frozen?_alloc_at _ _ _ _ rfl]
    · refine ⟨?_, by rw [hX, World.frozen?_alloc_at _ _ _ _ (by simp)]⟩
      rw [hX, World.cell?_alloc_at _ _ _ _ (by simp)]
      show (zero16[0 + j]?).isSome = true
      rw [Nat.zero_add]
      have : j < zero16.size := hj
      rw [Array.getElem?_eq_getElem this]; rfl
  have hBE : BoxE X (w.heap.size + 1) E := by
    rw [hX]
    have := (boxE_self (w.alloc (.cells L.cells.toArray 30)) E 35).later (below_alloc _ (.cells zero16 30))
    rwa [World.size_alloc] at this
  have HX := Lib.hid hX
  have HBC := Lib.hid hBC
  have HBE := Lib.hid hBE
  have HBX := Lib.hid hbX
  have HXS := Lib.hid hXs
  have HL := Lib.hid hL
  have HOK := Lib.hid hok
  have HSM := Lib.hid hsm
  have HG := Lib.hid hG
  have HEK := Lib.hid hek
  have HES := Lib.hid hes
  have HRG := Lib.hid hBC.box.range
  have HRE := Lib.hid hBE.range
  clear hX hBC hBE hbX hXs hL hok hsm hG hek hes
  go_enter Try.func11, Try.ntmps11
  go_upto_region 1 with fail
  rw [show ((w.alloc (.cells L.cells.toArray 30)).alloc (.cells E.cells.toArray 35)).alloc (.cells #[.slice none 0 0, .int .i64 0, .int .i64 0, .int .i64 0, .int .i64 0, .int .i64 0, .int .i64 0, .int .i64 0, .int .i64 0, .slice none 0 0, .slice none 0 0, .int .i64 0, .int .i64 0, .bool false, .slice none 0 0, .int .i64 0] 30) = X from HX.out.symm]
  have HH := Lib.hid HBC.out.res
  have HZ := Lib.hid (led_all zeroL rfl rfl rfl rfl)
  cases hg : L.good with
  | false =>
    have HA := Lib.hid (show applyL L E = (zeroL, false, 3) by unfold applyL; rw [if_neg (by simp [hg])])
    have HGD := Lib.hid hg
    clear hg
    go_wp2_with (first | (refine wpList_load_mid rfl 30 _ rfl (w.heap.size) 0 rfl (Led.cells L) _ HRG.out Try.underlying30 rfl (by show _ = some 16; kernel_rfl) ?_) | (refine wp_load_mid 30 _ rfl (w.heap.size) 0 rfl (Led.cells L) _ HRG.out Try.underlying30 rfl (by show _ = some 16; kernel_rfl) ?_) | (refine wpList_store_mid rfl 30 _ _ rfl (w.heap.size + 2) 0 (Led.cells L).toArray rfl rfl HH.out (by show _ = some 16; kernel_rfl) HZ.out ?_) | (refine wp_store_mid 30 _ _ rfl (w.heap.size + 2) 0 (Led.cells L).toArray rfl rfl HH.out (by show _ = some 16; kernel_rfl) HZ.out ?_))
    refine (rGood_calls L X (HL.out.below HBX.out (Nat.le_refl _)) HOK.out HSM.out).mono ?_
    rintro e w1 ⟨rfl, hb1⟩
    rw [HGD.out]
    have HB1 := Lib.hid (HBC.out.later hb1)
    have HH1 := Lib.hid HB1.out.res
    have HX1 := Lib.hid (below_go HBX.out hb1)
    clear hb1
    go_upto_region 2 with fail
    go_wp2_with (first | (refine wpList_load_mid rfl 30 _ rfl (w.heap.size) 0 rfl (Led.cells zeroL) _ HRG.out Try.underlying30 rfl (by show _ = some 16; kernel_rfl) ?_) | (refine wp_load_mid 30 _ rfl (w.heap.size) 0 rfl (Led.cells zeroL) _ HRG.out Try.underlying30 rfl (by show _ = some 16; kernel_rfl) ?_) | (refine wpList_store_mid rfl 30 _ _ rfl (w.heap.size + 2) 0 (Led.cells zeroL).toArray rfl rfl HH1.out (by show _ = some 16; kernel_rfl) HZ.out ?_) | (refine wp_store_mid 30 _ _ rfl (w.heap.size + 2) 0 (Led.cells zeroL).toArray rfl rfl HH1.out (by show _ = some 16; kernel_rfl) HZ.out ?_))
    refine bodyPost_ret (v := .tuple #[.agg (Led.cells zeroL).toArray, .bool false, .int .i64 3]) (results_cell3 Try.results11 rfl (resR_run HH1.out)) rfl ?_
    rw [HA.out]
    exact ⟨zeroL, rfl, SameL.refl _, ledR_zero _, HX1.out.trans ((only_cells _ _ _ _).below (by have := HX1.out.size; have := HXS.out; have := HBX.out.size; omega) (fun j hj e => by omega))⟩
  | true =>
    have HGD := Lib.hid hg
    clear hg
    go_wp2_with (first | (refine wpList_load_mid rfl 30 _ rfl (w.heap.size) 0 rfl (Led.cells L) _ HRG.out Try.underlying30 rfl (by show _ = some 16; kernel_rfl) ?_) | (refine wp_load_mid 30 _ rfl (w.heap.size) 0 rfl (Led.cells L) _ HRG.out Try.underlying30 rfl (by show _ = some 16; kernel_rfl) ?_) | (refine wpList_store_mid rfl 30 _ _ rfl (w.heap.size + 2) 0 (Led.cells L).toArray rfl rfl HH.out (by show _ = some 16; kernel_rfl) HZ.out ?_) | (refine wp_store_mid 30 _ _ rfl (w.heap.size + 2) 0 (Led.cells L).toArray rfl rfl HH.out (by show _ = some 16; kernel_rfl) HZ.out ?_))
    refine (rGood_calls L X (HL.out.below HBX.out (Nat.le_refl _)) HOK.out HSM.out).mono ?_
    rintro e w1 ⟨rfl, hb1⟩
    rw [HGD.out]
    have HB1 := Lib.hid (HBC.out.later hb1)
    have HE1 := Lib.hid (HBE.out.later hb1)
    have HRE1 := Lib.hid HE1.out.range
    have HX1 := Lib.hid (below_go HBX.out hb1)
    clear hb1
    have e0 := HE1.out 0 _ rfl
    have e1 := HE1.out 1 _ rfl
    have e2 := HE1.out 2 _ rfl
    have e3 := HE1.out 3 _ rfl
    have e4 := HE1.out 4 _ rfl
    have e5 := HE1.out 5 _ rfl
    have e6 := HE1.out 6 _ rfl
    have e7 := HE1.out 7 _ rfl
    go_wp2_with fail
    clear e0 e1 e2 e3 e4 e5 e6 e7
    refine (entRgood_calls E.k E.r E.gv E.os E.n w1 (HG.out.below HX1.out (Nat.le_refl _))).mono ?_
    rintro e w2 ⟨rfl, hb2⟩
    have HB2 := Lib.hid (HB1.out.later hb2)
    have HE2 := Lib.hid (HE1.out.later hb2)
    have HX2 := Lib.hid (below_go HX1.out hb2)
    have HH2 := Lib.hid HB2.out.res
    clear hb2
    cases hge : goodEnt E.k E.r E.os E.n with
    | false =>
      have HA := Lib.hid (show applyL L E = (zeroL, false, 3) by unfold applyL; rw [if_neg (by unfold Ent.good; simp [hge])])
      clear hge
      go_upto_region 2 with fail
      go_wp2_with (first | (refine wpList_load_mid rfl 30 _ rfl (w.heap.size) 0 rfl (Led.cells zeroL) _ HRG.out Try.underlying30 rfl (by show _ = some 16; kernel_rfl) ?_) | (refine wp_load_mid 30 _ rfl (w.heap.size) 0 rfl (Led.cells zeroL) _ HRG.out Try.underlying30 rfl (by show _ = some 16; kernel_rfl) ?_) | (refine wpList_store_mid rfl 30 _ _ rfl (w.heap.size + 2) 0 (Led.cells zeroL).toArray rfl rfl HH2.out (by show _ = some 16; kernel_rfl) HZ.out ?_) | (refine wp_store_mid 30 _ _ rfl (w.heap.size + 2) 0 (Led.cells zeroL).toArray rfl rfl HH2.out (by show _ = some 16; kernel_rfl) HZ.out ?_))
      refine bodyPost_ret (v := .tuple #[.agg (Led.cells zeroL).toArray, .bool false, .int .i64 3]) (results_cell3 Try.results11 rfl (resR_run HH2.out)) rfl ?_
      rw [HA.out]
      exact ⟨zeroL, rfl, SameL.refl _, ledR_zero _, HX2.out.trans ((only_cells _ _ _ _).below (by have := HX2.out.size; have := HXS.out; have := HBX.out.size; omega) (fun j hj e => by omega))⟩
    | true =>
      have HA := Lib.hid (show applyL L E = stepL L E by unfold applyL; rw [if_pos ⟨HGD.out, hge⟩])
      have HGE := Lib.hid hge
      have HB := HB2
      have HE := HE2
      have HBW := HX2
      have HZW := Lib.hid (show w.heap.size + 3 ≤ w2.heap.size by have := HB2.out.hR; omega)
      have HFIN := Lib.hid (fun (M1 : Led) (b : Bool) (c : Int) (M2 : Led) (W' : World) (h1 : stepL L E = (M1, b, c)) (h2 : SameL M1 M2) (h3 : LedR W' M2) (h4 : Below w.heap.size w W') =>
        show ∃ M', Ending.returned (.tuple #[.agg M2.cells.toArray, .bool b, .int .i64 c]) = Ending.returned (.tuple #[.agg M'.cells.toArray, .bool (applyL L E).2.1, .int .i64 (applyL L E).2.2]) ∧ SameL (applyL L E).1 M' ∧ LedR W' M' ∧ Below w.heap.size w W' by
          rw [HA.out, h1]
          exact ⟨M2, rfl, h2, h3, h4⟩)
      go_upto_region 3 with fail
      generalize w2 = W at *
      clear HB1 HB2 HBC HBE HE1 HE2 HX HRG HRE HRE1 HX1 HX2
      have HRW := Lib.hid HB.out.box.range
      have HRT := Lib.hid HB.out.res
      have HM1 := Lib.hid (led_allR HL.out)
      have hgq := (goodEnt_iff E.k E.r E.os E.n).1 HGE.out
      have HGQ := Lib.hid hgq
      clear hgq
      obtain ⟨k, ⟨rp, rs, rq, rkey, rval⟩, gv, os, n⟩ := E
      have hk := HK.out
      simp only at hk
      clear HK
      subst hk
      have hz := HZW.out
      have e0 : W.cell? ⟨w.heap.size + 1, 0, none⟩ = some (.int .i64 2) := HE.out 0 _ rfl
      have hgm := ((good_iff L).1 HGD.out).1
      have hnums := HOK.out.nums
      unfold I64 at hnums
      have HFN := Lib.hid (show L.opn.length ≤ 512 ∧ 0 ≤ L.decided ∧ L.decided ≤ L.sealed ∧ L.sealed - L.decided ≤ 64 ∧ 0 ≤ L.keep ∧ L.keep ≤ 64 ∧ L.sealed ≤ 9223372036854775807 by omega)
      clear hgm hnums
      have e7 : W.cell? ⟨w.heap.size + 1, 7, none⟩ = some (.int .i64 n) := HE.out 7 _ rfl
      have c13 := HB.out.box 13 _ rfl
      have c11 := HB.out.box 11 _ rfl
      have c12 := HB.out.box 12 _ rfl
      cases hd : L.dep with
      | false =>
        rw [hd] at c13
        have HST := Lib.hid (show stepL L ⟨2, ⟨rp, rs, rq, rkey, rval⟩, gv, os, n⟩ = (L, false, 9) by simp [stepL, hd])
        clear hd c11 c12 e7
        go_upto_region 8 with fail
        go_wp2_with (first | (refine wpList_load_mid rfl 30 _ rfl (w.heap.size) 0 rfl (Led.cells L) _ HRW.out Try.underlying30 rfl (by show _ = some 16; kernel_rfl) ?_) | (refine wp_load_mid 30 _ rfl (w.heap.size) 0 rfl (Led.cells L) _ HRW.out Try.underlying30 rfl (by show _ = some 16; kernel_rfl) ?_) | (refine wpList_store_mid rfl 30 _ _ rfl (w.heap.size + 2) 0 (Led.cells L).toArray rfl rfl HRT.out (by show _ = some 16; kernel_rfl) HM1.out ?_) | (refine wp_store_mid 30 _ _ rfl (w.heap.size + 2) 0 (Led.cells L).toArray rfl rfl HRT.out (by show _ = some 16; kernel_rfl) HM1.out ?_))
        refine bodyPost_ret (v := .tuple #[.agg (Led.cells L).toArray, .bool false, .int .i64 9]) (results_cell3 Try.results11 rfl (resR_run HRT.out)) rfl ?_
        have hbf := HBW.out.trans ((only_cells W (w.heap.size + 2) L.cells 0).below (by omega) (fun j hj e => by omega))
        exact HFIN.out _ _ _ L _ HST.out (SameL.refl _) (HL.out.below hbf (Nat.le_refl _)) hbf
      | true =>
        rw [hd] at c13
        have HD := Lib.hid hd
        clear hd
        by_cases hn : n = L.sealed
        · subst hn
          by_cases hmx : L.sealed = 9223372036854775807
          · have HST := Lib.hid (show stepL L ⟨2, ⟨rp, rs, rq, rkey, rval⟩, gv, os, L.sealed⟩ = (L, false, 14) by simp [stepL, HD.out, hmx])
            have hq : (L.sealed == 9223372036854775807) = true := beq_iff_eq.2 hmx
            clear hmx c12
            go_upto_region 10 with fail
            go_wp2_with (first | (refine wpList_load_mid rfl 30 _ rfl (w.heap.size) 0 rfl (Led.cells L) _ HRW.out Try.underlying30 rfl (by show _ = some 16; kernel_rfl) ?_) | (refine wp_load_mid 30 _ rfl (w.heap.size) 0 rfl (Led.cells L) _ HRW.out Try.underlying30 rfl (by show _ = some 16; kernel_rfl) ?_) | (refine wpList_store_mid rfl 30 _ _ rfl (w.heap.size + 2) 0 (Led.cells L).toArray rfl rfl HRT.out (by show _ = some 16; kernel_rfl) HM1.out ?_) | (refine wp_store_mid 30 _ _ rfl (w.heap.size + 2) 0 (Led.cells L).toArray rfl rfl HRT.out (by show _ = some 16; kernel_rfl) HM1.out ?_))
            refine bodyPost_ret (v := .tuple #[.agg (Led.cells L).toArray, .bool false, .int .i64 14]) (results_cell3 Try.results11 rfl (resR_run HRT.out)) rfl ?_
            have hbf := HBW.out.trans ((only_cells W (w.heap.size + 2) L.cells 0).below (by omega) (fun j hj e => by omega))
            exact HFIN.out _ _ _ L _ HST.out (SameL.refl _) (HL.out.below hbf (Nat.le_refl _)) hbf
          · have hq : (L.sealed == 9223372036854775807) = false := beq_eq_false_iff_ne.2 hmx
            have hfn := HFN.out.2
            by_cases h64 : 64 ≤ L.sealed - L.decided
            · have HST := Lib.hid (show stepL L ⟨2, ⟨rp, rs, rq, rkey, rval⟩, gv, os, L.sealed⟩ = (L, false, 10) by simp [stepL, HD.out, hmx, h64])
              have hb : (L.sealed - L.decided == 64) = true := beq_iff_eq.2 (by omega)
              clear hmx h64
              go_upto_region 12 with fail
              go_wp2_with (first | (refine wpList_load_mid rfl 30 _ rfl (w.heap.size) 0 rfl (Led.cells L) _ HRW.out Try.underlying30 rfl (by show _ = some 16; kernel_rfl) ?_) | (refine wp_load_mid 30 _ rfl (w.heap.size) 0 rfl (Led.cells L) _ HRW.out Try.underlying30 rfl (by show _ = some 16; kernel_rfl) ?_) | (refine wpList_store_mid rfl 30 _ _ rfl (w.heap.size + 2) 0 (Led.cells L).toArray rfl rfl HRT.out (by show _ = some 16; kernel_rfl) HM1.out ?_) | (refine wp_store_mid 30 _ _ rfl (w.heap.size + 2) 0 (Led.cells L).toArray rfl rfl HRT.out (by show _ = some 16; kernel_rfl) HM1.out ?_))
              refine bodyPost_ret (v := .tuple #[.agg (Led.cells L).toArray, .bool false, .int .i64 10]) (results_cell3 Try.results11 rfl (resR_run HRT.out)) rfl ?_
              have hbf := HBW.out.trans ((only_cells W (w.heap.size + 2) L.cells 0).below (by omega) (fun j hj e => by omega))
              exact HFIN.out _ _ _ L _ HST.out (SameL.refl _) (HL.out.below hbf (Nat.le_refl _)) hbf
            · have HST := Lib.hid (show stepL L ⟨2, ⟨rp, rs, rq, rkey, rval⟩, gv, os, L.sealed⟩ = (L.sealL, true, 0) by simp [stepL, HD.out, hmx, h64])
              have hb : (L.sealed - L.decided == 64) = false := beq_eq_false_iff_ne.2 (by omega)
              have hsq : -9223372036854775808 ≤ L.sealed ∧ L.sealed < 9223372036854775807 := by omega
              obtain ⟨oa, oc, hov, -⟩ := Rd.slice HL.out.opn
              obtain ⟨ba, bc, hbv, -⟩ := HL.out.bats.row.slice
              have HV := Lib.hid (And.intro hov hbv)
              have hol := HSM.out.bats
              clear hmx h64 hov hbv
              go_upto_region 13 with fail
              have c9 := HB.out.box 9 _ rfl
              have c10 := HB.out.box 10 _ rfl
              rw [HV.out.1] at c9
              rw [HV.out.2] at c10
              have hfs : ∀ V, Below W.heap.size W V → V.cell? ⟨w.heap.size, 10, none⟩ = some (.slice ba L.bats.length bc) ∧ V.cell? ⟨w.heap.size, 9, none⟩ = some (.slice oa L.opn.length oc) ∧ V.cell? ⟨w.heap.size, 11, none⟩ = some (.int .i64 L.sealed) := fun V hb => ⟨cell_later hb c10, cell_later hb c9, cell_later hb c11⟩
              have HFS := Lib.hid hfs
              have hb0 := (Below.refl W.heap.size W).drew
              have HONE := Lib.hid (bt_one HL.out.bats.recs)
              have HRD := Lib.hid (fun V (hb : Below W.heap.size W V) => show Rd V 2 (.slice ba L.bats.length bc) L.bats.length (flatF Bt.cells L.bats) by
                have := (HL.out.below (below_then HBW.out hb (by omega)) (Nat.le_refl _)).bats.row
                rwa [HV.out.2] at this)
              clear hfs c9 c10 c11 c12 c13 e0 e7
              refine region_t (.take 1 (.take 2 (.take 4 (.take 5 (.take 6 (.take 7 (.take 8 (.two 0 (.two 3 (.loud 9 (.loud 10 .done)) 9 (.loud 3 (.loud 10 .done))) 9 (.loud 0 (.loud 3 (.loud 10 .done))))))))))) 11 (fun V => V.cell? ⟨w.heap.size, 10, none⟩ = some (.slice ba L.bats.length bc) ∧ V.cell? ⟨w.heap.size, 9, none⟩ = some (.slice oa L.opn.length oc) ∧ V.cell? ⟨w.heap.size, 11, none⟩ = some (.int .i64 L.sealed)) (by kernel_rfl) (by kernel_rfl) (HFS.out _ hb0) ?_
              iterate 7
                first
                | (refine t_take (v := ?_) rfl rfl ?_ ?_
                   rotate_left
                   · intro W hW
                     go_simp
                     with_reducible rfl
                   simp only [Act.put, List.setIfInBounds_toArray, List.set_cons_zero, List.set_cons_succ])
                | (refine t_skip rfl rfl ?_
                   simp only [Act.put, List.setIfInBounds_toArray, List.set_cons_zero, List.set_cons_succ])
              generalize W.drew = Wd at *
              have hbc0 := hb0
              refine t_two ?_ ?_
              · skip
                refine t_loud rfl (fun K hK => ?_)
                have HK := Lib.hid hK
                clear hK
                go_simp
                have hbc1 := hbc0.alloc hbc0.size (.cells #[] 67)
                have HW1 := Lib.hid (World.ownsRow_lit (base := W.heap.size) (size := 2) (e := 67) (Wd) #[] 0 hbc0.size (by unfold maxLen; omega) (by simp))
                refine HK.out _ _ (HFS.out _ hbc1) ?_
                clear HK
                have HSZ1 := Lib.hid (World.size_alloc (Wd) (.cells #[] 67))
                generalize hG : World.alloc (Wd) _ = V1 at *
                clear hG
                refine t_two ?_ ?_
                · skip
                  refine t_app tyBats HW1.out (HRD.out _ hbc1) HONE.out (by omega) (by omega) hbc1.size rfl rfl rfl rfl rfl ?_
                  intro v2 V2 hm2 hg2
                  have hbc2 := hbc1.grown hg2 hbc1.size (fun k e => (World.ownsRow.lt HW1.out k e).1)
                  have HW2 := Lib.hid hm2
                  refine ⟨HFS.out _ hbc2, ?_⟩
                  clear hm2 hg2
                  refine t_loud rfl (fun K hK => ?_)
                  have HK := Lib.hid hK
                  clear hK
                  go_simp
                  have hbc3 := hbc2.alloc hbc2.size (.cells #[.int .i64 L.sealed, .slice oa L.opn.length oc] 67)
                  have HL3 := Lib.hid (Rd.lit (w := V2) (cs := #[.int .i64 L.sealed, .slice oa L.opn.length oc]) (e := 67) (n := 1) (sz := 2) rfl (by omega))
                  refine HK.out _ _ (HFS.out _ hbc3) ?_
                  clear HK
                  have HW3 := Lib.hid (ownsRow_below HW2.out (below_alloc _ (.cells #[.int .i64 L.sealed, .slice oa L.opn.length oc] 67)) (Nat.le_refl _))
                  have HSZ3 := Lib.hid (World.size_alloc (V2) (.cells #[.int .i64 L.sealed, .slice oa L.opn.length oc] 67))
                  generalize hG : World.alloc (V2) _ = V3 at *
                  clear hG
                  refine t_app tyBats HW3.out HL3.out (by intro u hu; simp at hu; rcases hu with rfl | rfl <;> rfl) (by omega) (by omega) hbc3.size rfl rfl rfl rfl rfl ?_
                  intro v4 V4 hm4 hg4
                  have hbe := hbc3.grown hg4 hbc3.size (fun k e => (World.ownsRow.lt HW3.out k e).1)
                  refine ⟨HFS.out _ hbe, ?_⟩
                  obtain ⟨ga, gc, rfl⟩ := own_slice hm4
                  have HM := Lib.hid (show V4.ownsRow W.heap.size 67 2 (.slice ga (L.bats.length + 1) gc) (L.bats ++ [(⟨L.sealed, .slice oa L.opn.length oc, L.opn⟩ : Bt)]).length (flatF Bt.cells (L.bats ++ [(⟨L.sealed, .slice oa L.opn.length oc, L.opn⟩ : Bt)])) from by simpa [flatF_append, flatF_one, Bt.cells, Nat.zero_add] using hm4)
                  have HBE := Lib.hid hbe
                  have hfe := HFS.out _ hbe
                  clear hm4 hg4 hbe
                  have hvn : 0 + L.bats.length + 1 = L.bats.length + 1 := by omega
                  rw [hvn]
                  generalize V4 = we at *
                  have hBe := HB.out.later HBE.out
                  have c10 := hfe.1
                  have bf10 := hBe.bf 10
                  have hB4 := hBe.set (cur' := { L with bv := .slice ga (L.bats.length + 1) gc }) 10 (.slice ga (L.bats.length + 1) gc) rfl (by omega)
                  have HON4 := Lib.hid (only_box (w := w) (W := we) (j := 10) (.slice ga (L.bats.length + 1) gc))
                  have c9 := hB4.box 9 _ rfl
                  have bf9 := hB4.bf 9
                  have HB4 := Lib.hid hB4
                  clear hBe hfe hB4
                  refine t_done ?_
                  simp only [List.drop_succ_cons, List.drop_zero]
                  go_upto_region 14 with fail
                  clear c10 bf10
                  generalize hW4 : we.setCell _ _ = W4 at *
                  clear hW4
                  simp only [NP]
                  go_upto_region 15 with fail
                  have hB5 := HB4.out.set (cur' := { L with bv := .slice ga (L.bats.length + 1) gc, ov := .slice none 0 0 }) 9 (.slice none 0 0) rfl (by omega)
                  have HB5 := Lib.hid hB5
                  have HON5 := Lib.hid (HON4.out.setCell ⟨w.heap.size, 9, none⟩ (.slice none 0 0) (.inl rfl))
                  have c11 := hB5.box 11 _ rfl
                  have bf11 := hB5.bf 11
                  simp only at c11
                  clear hB5 c9 bf9
                  generalize hW5 : W4.setCell _ _ = W5 at *
                  clear hW5
                  go_upto_region 16 with fail
                  have hB6 := HB5.out.set (cur' := { L with bv := .slice ga (L.bats.length + 1) gc, ov := .slice none 0 0, sealed := L.sealed + 1 }) 11 (.int .i64 (L.sealed + 1)) rfl (by omega)
                  have HON6 := Lib.hid (HON5.out.setCell ⟨w.heap.size, 11, none⟩ (.int .i64 (L.sealed + 1)) (.inl rfl))
                  have HR6 := Lib.hid hB6.box.range
                  have HT6 := Lib.hid hB6.res
                  have H16 := Lib.hid (led_all { L with bv := .slice ga (L.bats.length + 1) gc, ov := .slice none 0 0, sealed := L.sealed + 1 } HL.out.one.1 rfl rfl HL.out.one.2.2.2)
                  clear hB6 c11 bf11
                  generalize hW6 : W5.setCell _ _ = W6 at *
                  clear hW6
                  go_wp2_with (first | (refine wpList_load_mid rfl 30 _ rfl (w.heap.size) 0 rfl (Led.cells { L with bv := .slice ga (L.bats.length + 1) gc, ov := .slice none 0 0, sealed := L.sealed + 1 }) _ HR6.out Try.underlying30 rfl (by show _ = some 16; kernel_rfl) ?_) | (refine wp_load_mid 30 _ rfl (w.heap.size) 0 rfl (Led.cells { L with bv := .slice ga (L.bats.length + 1) gc, ov := .slice none 0 0, sealed := L.sealed + 1 }) _ HR6.out Try.underlying30 rfl (by show _ = some 16; kernel_rfl) ?_) | (refine wpList_store_mid rfl 30 _ _ rfl (w.heap.size + 2) 0 (Led.cells { L with bv := .slice ga (L.bats.length + 1) gc, ov := .slice none 0 0, sealed := L.sealed + 1 }).toArray rfl rfl HT6.out (by show _ = some 16; kernel_rfl) H16.out ?_) | (refine wp_store_mid 30 _ _ rfl (w.heap.size + 2) 0 (Led.cells { L with bv := .slice ga (L.bats.length + 1) gc, ov := .slice none 0 0, sealed := L.sealed + 1 }).toArray rfl rfl HT6.out (by show _ = some 16; kernel_rfl) H16.out ?_))
                  refine bodyPost_ret (v := .tuple #[.agg (Led.cells { L with bv := .slice ga (L.bats.length + 1) gc, ov := .slice none 0 0, sealed := L.sealed + 1 }).toArray, .bool true, .int .i64 0]) (results_cell3 Try.results11 rfl (resR_run HT6.out)) rfl ?_
                  have hall : Only (fun k => k = w.heap.size ∨ k = w.heap.size + 2) we (W6.setCells (w.heap.size + 2) 0 (Led.cells { L with bv := .slice ga (L.bats.length + 1) gc, ov := .slice none 0 0, sealed := L.sealed + 1 })) := (HON6.out.weak (T := fun k => k = w.heap.size ∨ k = w.heap.size + 2) (fun _ _ h => .inl h)).trans (only_cells _ _ _ _) (fun j _ e => .inr e)
                  have hws := HBE.out.size
                  have hbf : Below w.heap.size w (W6.setCells (w.heap.size + 2) 0 (Led.cells { L with bv := .slice ga (L.bats.length + 1) gc, ov := .slice none 0 0, sealed := L.sealed + 1 })) := (below_then HBW.out HBE.out (by omega)).trans (hall.below (by omega) (fun j hj e => by omega))
                  have hl0 := HL.out.below hbf (Nat.le_refl _)
                  have hop := ownsRow_only HM.out hall (fun g hg e => by have := (World.ownsRow.lt HM.out g hg).1; omega)
                  have hR : LedR (W6.setCells (w.heap.size + 2) 0 (Led.cells { L with bv := .slice ga (L.bats.length + 1) gc, ov := .slice none 0 0, sealed := L.sealed + 1 })) { L with bv := .slice ga (L.bats.length + 1) gc, ov := .slice none 0 0, sealed := L.sealed + 1, bats := L.bats ++ [(⟨L.sealed, .slice oa L.opn.length oc, L.opn⟩ : Bt)], opn := [] } := by
                    refine ⟨hl0.rows, Rd.nil _ _, ⟨Rd.of_own (v := .slice ga (L.bats.length + 1) gc) (by simpa using hop), fun b hb => ?_⟩, hl0.ops⟩
                    rcases List.mem_append.1 hb with hb | hb
                    · exact hl0.bats.recs b hb
                    · have e := List.mem_singleton.1 hb
                      subst e
                      have := hl0.opn
                      rw [HV.out.1] at this
                      exact this
                  refine HFIN.out _ _ _ { L with bv := .slice ga (L.bats.length + 1) gc, ov := .slice none 0 0, sealed := L.sealed + 1, bats := L.bats ++ [(⟨L.sealed, .slice oa L.opn.length oc, L.opn⟩ : Bt)], opn := [] } _ HST.out ⟨rfl, rfl, rfl, ?_, rfl, rfl, rfl, rfl, rfl⟩ hR hbf
                  show (L.bats ++ [_]).map Bt.con = (L.bats ++ [_]).map Bt.con
                  rw [List.map_append, List.map_append]
                  rfl
                · skip
                  refine t_loud rfl (fun K hK => ?_)
                  have HK := Lib.hid hK
                  clear hK
                  go_simp
                  have hbc2 := hbc1.alloc hbc1.size (.cells #[.int .i64 L.sealed, .slice oa L.opn.length oc] 67)
                  have HL2 := Lib.hid (Rd.lit (w := V1) (cs := #[.int .i64 L.sealed, .slice oa L.opn.length oc]) (e := 67) (n := 1) (sz := 2) rfl (by omega))
                  refine HK.out _ _ (HFS.out _ hbc2) ?_
                  clear HK
                  have HW2 := Lib.hid (ownsRow_below HW1.out (below_alloc _ (.cells #[.int .i64 L.sealed, .slice oa L.opn.length oc] 67)) (Nat.le_refl _))
                  have HSZ2 := Lib.hid (World.size_alloc (V1) (.cells #[.int .i64 L.sealed, .slice oa L.opn.length oc] 67))
                  generalize hG : World.alloc (V1) _ = V2 at *
                  clear hG
                  refine t_app tyBats HW2.out (HRD.out _ hbc2) HONE.out (by omega) (by omega) hbc2.size rfl rfl rfl rfl rfl ?_
                  intro v3 V3 hm3 hg3
                  have hbc3 := hbc2.grown hg3 hbc2.size (fun k e => (World.ownsRow.lt HW2.out k e).1)
                  have HW3 := Lib.hid hm3
                  have HL3 := Lib.hid (Rd.only HL2.out (Only.of_grown hg3) (fun a n c e h => by simp [Value.ownBlock] at h; simp only [Value.slice.injEq, Option.some.injEq] at e; rw [← e.1] at h; simp at h; have := HSZ1.out; omega))
                  refine ⟨HFS.out _ hbc3, ?_⟩
                  clear hm3 hg3
                  refine t_app tyBats HW3.out HL3.out (by intro u hu; simp at hu; rcases hu with rfl | rfl <;> rfl) (by omega) (by omega) hbc3.size rfl rfl rfl rfl rfl ?_
                  intro v4 V4 hm4 hg4
                  have hbe := hbc3.grown hg4 hbc3.size (fun k e => (World.ownsRow.lt HW3.out k e).1)
                  refine ⟨HFS.out _ hbe, ?_⟩
                  obtain ⟨ga, gc, rfl⟩ := own_slice hm4
                  have HM := Lib.hid (show V4.ownsRow W.heap.size 67 2 (.slice ga (L.bats.length + 1) gc) (L.bats ++ [(⟨L.sealed, .slice oa L.opn.length oc, L.opn⟩ : Bt)]).length (flatF Bt.cells (L.bats ++ [(⟨L.sealed, .slice oa L.opn.length oc, L.opn⟩ : Bt)])) from by simpa [flatF_append, flatF_one, Bt.cells, Nat.zero_add] using hm4)
                  have HBE := Lib.hid hbe
                  have hfe := HFS.out _ hbe
                  clear hm4 hg4 hbe
                  have hvn : 0 + L.bats.length + 1 = L.bats.length + 1 := by omega
                  rw [hvn]
                  generalize V4 = we at *
                  have hBe := HB.out.later HBE.out
                  have c10 := hfe.1
                  have bf10 := hBe.bf 10
                  have hB4 := hBe.set (cur' := { L with bv := .slice ga (L.bats.length + 1) gc }) 10 (.slice ga (L.bats.length + 1) gc) rfl (by omega)
                  have HON4 := Lib.hid (only_box (w := w) (W := we) (j := 10) (.slice ga (L.bats.length + 1) gc))
                  have c9 := hB4.box 9 _ rfl
                  have bf9 := hB4.bf 9
                  have HB4 := Lib.hid hB4
                  clear hBe hfe hB4
                  refine t_done ?_
                  simp only [List.drop_succ_cons, List.drop_zero]
                  go_upto_region 14 with fail
                  clear c10 bf10
                  generalize hW4 : we.setCell _ _ = W4 at *
                  clear hW4
                  simp only [NP]
                  go_upto_region 15 with fail
                  have hB5 := HB4.out.set (cur' := { L with bv := .slice ga (L.bats.length + 1) gc, ov := .slice none 0 0 }) 9 (.slice none 0 0) rfl (by omega)
                  have HB5 := Lib.hid hB5
                  have HON5 := Lib.hid (HON4.out.setCell ⟨w.heap.size, 9, none⟩ (.slice none 0 0) (.inl rfl))
                  have c11 := hB5.box 11 _ rfl
                  have bf11 := hB5.bf 11
                  simp only at c11
                  clear hB5 c9 bf9
                  generalize hW5 : W4.setCell _ _ = W5 at *
                  clear hW5
                  go_upto_region 16 with fail
                  have hB6 := HB5.out.set (cur' := { L with bv := .slice ga (L.bats.length + 1) gc, ov := .slice none 0 0, sealed := L.sealed + 1 }) 11 (.int .i64 (L.sealed + 1)) rfl (by omega)
                  have HON6 := Lib.hid (HON5.out.setCell ⟨w.heap.size, 11, none⟩ (.int .i64 (L.sealed + 1)) (.inl rfl))
                  have HR6 := Lib.hid hB6.box.range
                  have HT6 := Lib.hid hB6.res
                  have H16 := Lib.hid (led_all { L with bv := .slice ga (L.bats.length + 1) gc, ov := .slice none 0 0, sealed := L.sealed + 1 } HL.out.one.1 rfl rfl HL.out.one.2.2.2)
                  clear hB6 c11 bf11
                  generalize hW6 : W5.setCell _ _ = W6 at *
                  clear hW6
                  go_wp2_with (first | (refine wpList_load_mid rfl 30 _ rfl (w.heap.size) 0 rfl (Led.cells { L with bv := .slice ga (L.bats.length + 1) gc, ov := .slice none 0 0, sealed := L.sealed + 1 }) _ HR6.out Try.underlying30 rfl (by show _ = some 16; kernel_rfl) ?_) | (refine wp_load_mid 30 _ rfl (w.heap.size) 0 rfl (Led.cells { L with bv := .slice ga (L.bats.length + 1) gc, ov := .slice none 0 0, sealed := L.sealed + 1 }) _ HR6.out Try.underlying30 rfl (by show _ = some 16; kernel_rfl) ?_) | (refine wpList_store_mid rfl 30 _ _ rfl (w.heap.size + 2) 0 (Led.cells { L with bv := .slice ga (L.bats.length + 1) gc, ov := .slice none 0 0, sealed := L.sealed + 1 }).toArray rfl rfl HT6.out (by show _ = some 16; kernel_rfl) H16.out ?_) | (refine wp_store_mid 30 _ _ rfl (w.heap.size + 2) 0 (Led.cells { L with bv := .slice ga (L.bats.length + 1) gc, ov := .slice none 0 0, sealed := L.sealed + 1 }).toArray rfl rfl HT6.out (by show _ = some 16; kernel_rfl) H16.out ?_))
                  refine bodyPost_ret (v := .tuple #[.agg (Led.cells { L with bv := .slice ga (L.bats.length + 1) gc, ov := .slice none 0 0, sealed := L.sealed + 1 }).toArray, .bool true, .int .i64 0]) (results_cell3 Try.results11 rfl (resR_run HT6.out)) rfl ?_
                  have hall : Only (fun k => k = w.heap.size ∨ k = w.heap.size + 2) we (W6.setCells (w.heap.size + 2) 0 (Led.cells { L with bv := .slice ga (L.bats.length + 1) gc, ov := .slice none 0 0, sealed := L.sealed + 1 })) := (HON6.out.weak (T := fun k => k = w.heap.size ∨ k = w.heap.size + 2) (fun _ _ h => .inl h)).trans (only_cells _ _ _ _) (fun j _ e => .inr e)
                  have hws := HBE.out.size
                  have hbf : Below w.heap.size w (W6.setCells (w.heap.size + 2) 0 (Led.cells { L with bv := .slice ga (L.bats.length + 1) gc, ov := .slice none 0 0, sealed := L.sealed + 1 })) := (below_then HBW.out HBE.out (by omega)).trans (hall.below (by omega) (fun j hj e => by omega))
                  have hl0 := HL.out.below hbf (Nat.le_refl _)
                  have hop := ownsRow_only HM.out hall (fun g hg e => by have := (World.ownsRow.lt HM.out g hg).1; omega)
                  have hR : LedR (W6.setCells (w.heap.size + 2) 0 (Led.cells { L with bv := .slice ga (L.bats.length + 1) gc, ov := .slice none 0 0, sealed := L.sealed + 1 })) { L with bv := .slice ga (L.bats.length + 1) gc, ov := .slice none 0 0, sealed := L.sealed + 1, bats := L.bats ++ [(⟨L.sealed, .slice oa L.opn.length oc, L.opn⟩ : Bt)], opn := [] } := by
                    refine ⟨hl0.rows, Rd.nil _ _, ⟨Rd.of_own (v := .slice ga (L.bats.length + 1) gc) (by simpa using hop), fun b hb => ?_⟩, hl0.ops⟩
                    rcases List.mem_append.1 hb with hb | hb
                    · exact hl0.bats.recs b hb
                    · have e := List.mem_singleton.1 hb
                      subst e
                      have := hl0.opn
                      rw [HV.out.1] at this
                      exact this
                  refine HFIN.out _ _ _ { L with bv := .slice ga (L.bats.length + 1) gc, ov := .slice none 0 0, sealed := L.sealed + 1, bats := L.bats ++ [(⟨L.sealed, .slice oa L.opn.length oc, L.opn⟩ : Bt)], opn := [] } _ HST.out ⟨rfl, rfl, rfl, ?_, rfl, rfl, rfl, rfl, rfl⟩ hR hbf
                  show (L.bats ++ [_]).map Bt.con = (L.bats ++ [_]).map Bt.con
                  rw [List.map_append, List.map_append]
                  rfl
              · skip
                refine t_loud rfl (fun K hK => ?_)
                have HK := Lib.hid hK
                clear hK
                go_simp
                have hbc1 := hbc0.alloc hbc0.size (.cells #[.int .i64 L.sealed, .slice oa L.opn.length oc] 67)
                have HL1 := Lib.hid (Rd.lit (w := Wd) (cs := #[.int .i64 L.sealed, .slice oa L.opn.length oc]) (e := 67) (n := 1) (sz := 2) rfl (by omega))
                refine HK.out _ _ (HFS.out _ hbc1) ?_
                clear HK
                have HSZ1 := Lib.hid (World.size_alloc (Wd) (.cells #[.int .i64 L.sealed, .slice oa L.opn.length oc] 67))
                generalize hG : World.alloc (Wd) _ = V1 at *
                clear hG
                refine t_loud rfl (fun K hK => ?_)
                have HK := Lib.hid hK
                clear hK
                go_simp
                have hbc2 := hbc1.alloc hbc1.size (.cells #[] 67)
                have HW2 := Lib.hid (World.ownsRow_lit (base := W.heap.size) (size := 2) (e := 67) (V1) #[] 0 hbc1.size (by unfold maxLen; omega) (by simp))
                refine HK.out _ _ (HFS.out _ hbc2) ?_
                clear HK
                have HL2 := Lib.hid (Rd.below HL1.out (below_alloc _ (.cells #[] 67)) (Nat.le_refl _))
                have HSZ2 := Lib.hid (World.size_alloc (V1) (.cells #[] 67))
                generalize hG : World.alloc (V1) _ = V2 at *
                clear hG
                refine t_app tyBats HW2.out (HRD.out _ hbc2) HONE.out (by omega) (by omega) hbc2.size rfl rfl rfl rfl rfl ?_
                intro v3 V3 hm3 hg3
                have hbc3 := hbc2.grown hg3 hbc2.size (fun k e => (World.ownsRow.lt HW2.out k e).1)
                have HW3 := Lib.hid hm3
                have HL3 := Lib.hid (Rd.only HL2.out (Only.of_grown hg3) (fun a n c e h => by simp [Value.ownBlock] at h; simp only [Value.slice.injEq, Option.some.injEq] at e; rw [← e.1] at h; simp at h; have := HSZ1.out; omega))
                refine ⟨HFS.out _ hbc3, ?_⟩
                clear hm3 hg3
                refine t_app tyBats HW3.out HL3.out (by intro u hu; simp at hu; rcases hu with rfl | rfl <;> rfl) (by omega) (by omega) hbc3.size rfl rfl rfl rfl rfl ?_
                intro v4 V4 hm4 hg4
                have hbe := hbc3.grown hg4 hbc3.size (fun k e => (World.ownsRow.lt HW3.out k e).1)
                refine ⟨HFS.out _ hbe, ?_⟩
                obtain ⟨ga, gc, rfl⟩ := own_slice hm4
                have HM := Lib.hid (show V4.ownsRow W.heap.size 67 2 (.slice ga (L.bats.length + 1) gc) (L.bats ++ [(⟨L.sealed, .slice oa L.opn.length oc, L.opn⟩ : Bt)]).length (flatF Bt.cells (L.bats ++ [(⟨L.sealed, .slice oa L.opn.length oc, L.opn⟩ : Bt)])) from by simpa [flatF_append, flatF_one, Bt.cells, Nat.zero_add] using hm4)
                have HBE := Lib.hid hbe
                have hfe := HFS.out _ hbe
                clear hm4 hg4 hbe
                have hvn : 0 + L.bats.length + 1 = L.bats.length + 1 := by omega
                rw [hvn]
                generalize V4 = we at *
                have hBe := HB.out.later HBE.out
                have c10 := hfe.1
                have bf10 := hBe.bf 10
                have hB4 := hBe.set (cur' := { L with bv := .slice ga (L.bats.length + 1) gc }) 10 (.slice ga (L.bats.length + 1) gc) rfl (by omega)
                have HON4 := Lib.hid (only_box (w := w) (W := we) (j := 10) (.slice ga (L.bats.length + 1) gc))
                have c9 := hB4.box 9 _ rfl
                have bf9 := hB4.bf 9
                have HB4 := Lib.hid hB4
                clear hBe hfe hB4
                refine t_done ?_
                simp only [List.drop_succ_cons, List.drop_zero]
                go_upto_region 14 with fail
                clear c10 bf10
                generalize hW4 : we.setCell _ _ = W4 at *
                clear hW4
                simp only [NP]
                go_upto_region 15 with fail
                have hB5 := HB4.out.set (cur' := { L with bv := .slice ga (L.bats.length + 1) gc, ov := .slice none 0 0 }) 9 (.slice none 0 0) rfl (by omega)
                have HB5 := Lib.hid hB5
                have HON5 := Lib.hid (HON4.out.setCell ⟨w.heap.size, 9, none⟩ (.slice none 0 0) (.inl rfl))
                have c11 := hB5.box 11 _ rfl
                have bf11 := hB5.bf 11
                simp only at c11
                clear hB5 c9 bf9
                generalize hW5 : W4.setCell _ _ = W5 at *
                clear hW5
                go_upto_region 16 with fail
                have hB6 := HB5.out.set (cur' := { L with bv := .slice ga (L.bats.length + 1) gc, ov := .slice none 0 0, sealed := L.sealed + 1 }) 11 (.int .i64 (L.sealed + 1)) rfl (by omega)
                have HON6 := Lib.hid (HON5.out.setCell ⟨w.heap.size, 11, none⟩ (.int .i64 (L.sealed + 1)) (.inl rfl))
                have HR6 := Lib.hid hB6.box.range
                have HT6 := Lib.hid hB6.res
                have H16 := Lib.hid (led_all { L with bv := .slice ga (L.bats.length + 1) gc, ov := .slice none 0 0, sealed := L.sealed + 1 } HL.out.one.1 rfl rfl HL.out.one.2.2.2)
                clear hB6 c11 bf11
                generalize hW6 : W5.setCell _ _ = W6 at *
                clear hW6
                go_wp2_with (first | (refine wpList_load_mid rfl 30 _ rfl (w.heap.size) 0 rfl (Led.cells { L with bv := .slice ga (L.bats.length + 1) gc, ov := .slice none 0 0, sealed := L.sealed + 1 }) _ HR6.out Try.underlying30 rfl (by show _ = some 16; kernel_rfl) ?_) | (refine wp_load_mid 30 _ rfl (w.heap.size) 0 rfl (Led.cells { L with bv := .slice ga (L.bats.length + 1) gc, ov := .slice none 0 0, sealed := L.sealed + 1 }) _ HR6.out Try.underlying30 rfl (by show _ = some 16; kernel_rfl) ?_) | (refine wpList_store_mid rfl 30 _ _ rfl (w.heap.size + 2) 0 (Led.cells { L with bv := .slice ga (L.bats.length + 1) gc, ov := .slice none 0 0, sealed := L.sealed + 1 }).toArray rfl rfl HT6.out (by show _ = some 16; kernel_rfl) H16.out ?_) | (refine wp_store_mid 30 _ _ rfl (w.heap.size + 2) 0 (Led.cells { L with bv := .slice ga (L.bats.length + 1) gc, ov := .slice none 0 0, sealed := L.sealed + 1 }).toArray rfl rfl HT6.out (by show _ = some 16; kernel_rfl) H16.out ?_))
                refine bodyPost_ret (v := .tuple #[.agg (Led.cells { L with bv := .slice ga (L.bats.length + 1) gc, ov := .slice none 0 0, sealed := L.sealed + 1 }).toArray, .bool true, .int .i64 0]) (results_cell3 Try.results11 rfl (resR_run HT6.out)) rfl ?_
                have hall : Only (fun k => k = w.heap.size ∨ k = w.heap.size + 2) we (W6.setCells (w.heap.size + 2) 0 (Led.cells { L with bv := .slice ga (L.bats.length + 1) gc, ov := .slice none 0 0, sealed := L.sealed + 1 })) := (HON6.out.weak (T := fun k => k = w.heap.size ∨ k = w.heap.size + 2) (fun _ _ h => .inl h)).trans (only_cells _ _ _ _) (fun j _ e => .inr e)
                have hws := HBE.out.size
                have hbf : Below w.heap.size w (W6.setCells (w.heap.size + 2) 0 (Led.cells { L with bv := .slice ga (L.bats.length + 1) gc, ov := .slice none 0 0, sealed := L.sealed + 1 })) := (below_then HBW.out HBE.out (by omega)).trans (hall.below (by omega) (fun j hj e => by omega))
                have hl0 := HL.out.below hbf (Nat.le_refl _)
                have hop := ownsRow_only HM.out hall (fun g hg e => by have := (World.ownsRow.lt HM.out g hg).1; omega)
                have hR : LedR (W6.setCells (w.heap.size + 2) 0 (Led.cells { L with bv := .slice ga (L.bats.length + 1) gc, ov := .slice none 0 0, sealed := L.sealed + 1 })) { L with bv := .slice ga (L.bats.length + 1) gc, ov := .slice none 0 0, sealed := L.sealed + 1, bats := L.bats ++ [(⟨L.sealed, .slice oa L.opn.length oc, L.opn⟩ : Bt)], opn := [] } := by
                  refine ⟨hl0.rows, Rd.nil _ _, ⟨Rd.of_own (v := .slice ga (L.bats.length + 1) gc) (by simpa using hop), fun b hb => ?_⟩, hl0.ops⟩
                  rcases List.mem_append.1 hb with hb | hb
                  · exact hl0.bats.recs b hb
                  · have e := List.mem_singleton.1 hb
                    subst e
                    have := hl0.opn
                    rw [HV.out.1] at this
                    exact this
                refine HFIN.out _ _ _ { L with bv := .slice ga (L.bats.length + 1) gc, ov := .slice none 0 0, sealed := L.sealed + 1, bats := L.bats ++ [(⟨L.sealed, .slice oa L.opn.length oc, L.opn⟩ : Bt)], opn := [] } _ HST.out ⟨rfl, rfl, rfl, ?_, rfl, rfl, rfl, rfl, rfl⟩ hR hbf
                show (L.bats ++ [_]).map Bt.con = (L.bats ++ [_]).map Bt.con
                rw [List.map_append, List.map_append]
                rfl
        · have HST := Lib.hid (show stepL L ⟨2, ⟨rp, rs, rq, rkey, rval⟩, gv, os, n⟩ = (L, false, 9) by simp [stepL, HD.out, hn])
          have hq : (n == L.sealed) = false := beq_eq_false_iff_ne.2 hn
          have hq2 : (n != L.sealed) = true := bne_iff_ne.2 hn
          clear c12
          go_upto_region 8 with fail
          go_wp2_with (first | (refine wpList_load_mid rfl 30 _ rfl (w.heap.size) 0 rfl (Led.cells L) _ HRW.out Try.underlying30 rfl (by show _ = some 16; kernel_rfl) ?_) | (refine wp_load_mid 30 _ rfl (w.heap.size) 0 rfl (Led.cells L) _ HRW.out Try.underlying30 rfl (by show _ = some 16; kernel_rfl) ?_) | (refine wpList_store_mid rfl 30 _ _ rfl (w.heap.size + 2) 0 (Led.cells L).toArray rfl rfl HRT.out (by show _ = some 16; kernel_rfl) HM1.out ?_) | (refine wp_store_mid 30 _ _ rfl (w.heap.size + 2) 0 (Led.cells L).toArray rfl rfl HRT.out (by show _ = some 16; kernel_rfl) HM1.out ?_))
          refine bodyPost_ret (v := .tuple #[.agg (Led.cells L).toArray, .bool false, .int .i64 9]) (results_cell3 Try.results11 rfl (resR_run HRT.out)) rfl ?_
          have hbf := HBW.out.trans ((only_cells W (w.heap.size + 2) L.cells 0).below (by omega) (fun j hj e => by omega))
          exact HFIN.out _ _ _ L _ HST.out (SameL.refl _) (HL.out.below hbf (Nat.le_refl _)) hbf
end Go.Proofs.Ytkabfjbmofpkdaa

/- Layer 14: what an entry does to a ledger, in the document's text, walked: entries of kind 3. -/
namespace Go.Proofs.Ytkabfjbmofpkdaa
open Go.RowKit Go.Shelf
set_option maxRecDepth 100000

set_option maxHeartbeats 4000000 in
theorem rapply_k3 (L : Led) (E : Ent) (hk : E.k = 3) (w : World) (hL : LedR w L) (hok : L.Ok) (hsm : L.Small) (hG : OpsR w E.gv E.os) (hek : E.Ok) (hes : E.Small) :
    Calls Try.prog 11 #[.agg L.cells.toArray, .agg E.cells.toArray] w fun e w' => ∃ M, e = .returned (.tuple #[.agg M.cells.toArray, .bool (applyL L E).2.1, .int .i64 (applyL L E).2.2]) ∧ SameL (applyL L E).1 M ∧ LedR w' M ∧ Below w.heap.size w w' := by
  have HK := Lib.hid hk
  clear hk
  obtain ⟨X, hX⟩ : ∃ X, X = ((w.alloc (.cells L.cells.toArray 30)).alloc (.cells E.cells.toArray 35)).alloc (.cells zero16 30) := ⟨_, rfl⟩
  have hbX : Below w.heap.size w X := by rw [hX]; exact below_box (below_box (below_alloc _ _) _) _
  have hXs : X.heap.size = w.heap.size + 3 := by rw [hX]; simp
  have hBC : BoxC w.heap.size (w.heap.size + 2) X L := by
    refine ⟨?_, fun j => ?_, fun j hj => ?_, by omega, by omega, by omega⟩
    · rw [hX]; exact ((boxL_self w L 30).later (below_alloc _ _)).later (below_alloc _ _)
    · rw [hX, World.frozen?_alloc_past _ _ _ (by simp <;> omega), World.frozen?_alloc_past _ _ _ (by simp <;> omega), World.frozen?_alloc_at _ _ _ _ rfl]
    · refine ⟨?_, by rw [hX, World.frozen?_alloc_at _ _ _ _ (by simp)]⟩
      rw [hX, World.cell?_alloc_at _ _ _ _ (by simp)]
      show (zero16[0 + j]?).isSome = true
      rw [Nat.zero_add]
      have : j < zero16.size := hj
      rw [Array.getElem?_eq_getElem this]; rfl
  have hBE : BoxE X (w.heap.size + 1) E := by
    rw [hX]
    have := (boxE_self (w.alloc (.cells L.cells.toArray 30)) E 35).later (below_alloc _ (.cells zero16 30))
    rwa [World.size_alloc] at this
  have HX := Lib.hid hX
  have HBC := Lib.hid hBC
  have HBE := Lib.hid hBE
  have HBX := Lib.hid hbX
  have HXS := Lib.hid hXs
  have HL := Lib.hid hL
  have HOK := Lib.hid hok
  have HSM := Lib.hid hsm
  have HG := Lib.hid hG
  have HEK := Lib.hid hek
  have HES := Lib.hid hes
  have HRG := Lib.hid hBC.box.range
  have HRE := Lib.hid hBE.range
  clear hX hBC hBE hbX hXs hL hok hsm hG hek hes
  go_enter Try.func11, Try.ntmps11
  go_upto_region 1 with fail
  rw [show ((w.alloc (.cells L.cells.toArray 30)).alloc (.cells E.cells.toArray 35)).alloc (.cells #[.slice none 0 0, .int .i64 0, .int .i64 0, .int .i64 0, .int .i64 0, .int .i64 0, .int .i64 0, .int .i64 0, .int .i64 0, .slice none 0 0, .slice none 0 0, .int .i64 0, .int .i64 0, .bool false, .slice none 0 0, .int .i64 0] 30) = X from HX.out.symm]
  have HH := Lib.hid HBC.out.res
  have HZ := Lib.hid (led_all zeroL rfl rfl rfl rfl)
  cases hg : L.good with
  | false =>
    have HA := Lib.hid (show applyL L E = (zeroL, false, 3) by unfold applyL; rw [if_neg (by simp [hg])])
    have HGD := Lib.hid hg
    clear hg
    go_wp2_with (first | (refine wpList_load_mid rfl 30 _ rfl (w.heap.size) 0 rfl (Led.cells L) _ HRG.out Try.underlying30 rfl (by show _ = some 16; kernel_rfl) ?_) | (refine wp_load_mid 30 _ rfl (w.heap.size) 0 rfl (Led.cells L) _ HRG.out Try.underlying30 rfl (by show _ = some 16; kernel_rfl) ?_) | (refine wpList_store_mid rfl 30 _ _ rfl (w.heap.size + 2) 0 (Led.cells L).toArray rfl rfl HH.out (by show _ = some 16; kernel_rfl) HZ.out ?_) | (refine wp_store_mid 30 _ _ rfl (w.heap.size + 2) 0 (Led.cells L).toArray rfl rfl HH.out (by show _ = some 16; kernel_rfl) HZ.out ?_))
    refine (rGood_calls L X (HL.out.below HBX.out (Nat.le_refl _)) HOK.out HSM.out).mono ?_
    rintro e w1 ⟨rfl, hb1⟩
    rw [HGD.out]
    have HB1 := Lib.hid (HBC.out.later hb1)
    have HH1 := Lib.hid HB1.out.res
    have HX1 := Lib.hid (below_go HBX.out hb1)
    clear hb1
    go_upto_region 2 with fail
    go_wp2_with (first | (refine wpList_load_mid rfl 30 _ rfl (w.heap.size) 0 rfl (Led.cells zeroL) _ HRG.out Try.underlying30 rfl (by show _ = some 16; kernel_rfl) ?_) | (refine wp_load_mid 30 _ rfl (w.heap.size) 0 rfl (Led.cells zeroL) _ HRG.out Try.underlying30 rfl (by show _ = some 16; kernel_rfl) ?_) | (refine wpList_store_mid rfl 30 _ _ rfl (w.heap.size + 2) 0 (Led.cells zeroL).toArray rfl rfl HH1.out (by show _ = some 16; kernel_rfl) HZ.out ?_) | (refine wp_store_mid 30 _ _ rfl (w.heap.size + 2) 0 (Led.cells zeroL).toArray rfl rfl HH1.out (by show _ = some 16; kernel_rfl) HZ.out ?_))
    refine bodyPost_ret (v := .tuple #[.agg (Led.cells zeroL).toArray, .bool false, .int .i64 3]) (results_cell3 Try.results11 rfl (resR_run HH1.out)) rfl ?_
    rw [HA.out]
    exact ⟨zeroL, rfl, SameL.refl _, ledR_zero _, HX1.out.trans ((only_cells _ _ _ _).below (by have := HX1.out.size; have := HXS.out; have := HBX.out.size; omega) (fun j hj e => by omega))⟩
  | true =>
    have HGD := Lib.hid hg
    clear hg
    go_wp2_with (first | (refine wpList_load_mid rfl 30 _ rfl (w.heap.size) 0 rfl (Led.cells L) _ HRG.out Try.underlying30 rfl (by show _ = some 16; kernel_rfl) ?_) | (refine wp_load_mid 30 _ rfl (w.heap.size) 0 rfl (Led.cells L) _ HRG.out Try.underlying30 rfl (by show _ = some 16; kernel_rfl) ?_) | (refine wpList_store_mid rfl 30 _ _ rfl (w.heap.size + 2) 0 (Led.cells L).toArray rfl rfl HH.out (by show _ = some 16; kernel_rfl) HZ.out ?_) | (refine wp_store_mid 30 _ _ rfl (w.heap.size + 2) 0 (Led.cells L).toArray rfl rfl HH.out (by show _ = some 16; kernel_rfl) HZ.out ?_))
    refine (rGood_calls L X (HL.out.below HBX.out (Nat.le_refl _)) HOK.out HSM.out).mono ?_
    rintro e w1 ⟨rfl, hb1⟩
    rw [HGD.out]
    have HB1 := Lib.hid (HBC.out.later hb1)
    have HE1 := Lib.hid (HBE.out.later hb1)
    have HRE1 := Lib.hid HE1.out.range
    have HX1 := Lib.hid (below_go HBX.out hb1)
    clear hb1
    have e0 := HE1.out 0 _ rfl
    have e1 := HE1.out 1 _ rfl
    have e2 := HE1.out 2 _ rfl
    have e3 := HE1.out 3 _ rfl
    have e4 := HE1.out 4 _ rfl
    have e5 := HE1.out 5 _ rfl
    have e6 := HE1.out 6 _ rfl
    have e7 := HE1.out 7 _ rfl
    go_wp2_with fail
    clear e0 e1 e2 e3 e4 e5 e6 e7
    refine (entRgood_calls E.k E.r E.gv E.os E.n w1 (HG.out.below HX1.out (Nat.le_refl _))).mono ?_
    rintro e w2 ⟨rfl, hb2⟩
    have HB2 := Lib.hid (HB1.out.later hb2)
    have HE2 := Lib.hid (HE1.out.later hb2)
    have HX2 := Lib.hid (below_go HX1.out hb2)
    have HH2 := Lib.hid HB2.out.res
    clear hb2
    cases hge : goodEnt E.k E.r E.os E.n with
    | false =>
      have HA := Lib.hid (show applyL L E = (zeroL, false, 3) by unfold applyL; rw [if_neg (by unfold Ent.good; simp [hge])])
      clear hge
      go_upto_region 2 with fail
      go_wp2_with (first | (refine wpList_load_mid rfl 30 _ rfl (w.heap.size) 0 rfl (Led.cells zeroL) _ HRG.out Try.underlying30 rfl (by show _ = some 16; kernel_rfl) ?_) | (refine wp_load_mid 30 _ rfl (w.heap.size) 0 rfl (Led.cells zeroL) _ HRG.out Try.underlying30 rfl (by show _ = some 16; kernel_rfl) ?_) | (refine wpList_store_mid rfl 30 _ _ rfl (w.heap.size + 2) 0 (Led.cells zeroL).toArray rfl rfl HH2.out (by show _ = some 16; kernel_rfl) HZ.out ?_) | (refine wp_store_mid 30 _ _ rfl (w.heap.size + 2) 0 (Led.cells zeroL).toArray rfl rfl HH2.out (by show _ = some 16; kernel_rfl) HZ.out ?_))
      refine bodyPost_ret (v := .tuple #[.agg (Led.cells zeroL).toArray, .bool false, .int .i64 3]) (results_cell3 Try.results11 rfl (resR_run HH2.out)) rfl ?_
      rw [HA.out]
      exact ⟨zeroL, rfl, SameL.refl _, ledR_zero _, HX2.out.trans ((only_cells _ _ _ _).below (by have := HX2.out.size; have := HXS.out; have := HBX.out.size; omega) (fun j hj e => by omega))⟩
    | true =>
      have HA := Lib.hid (show applyL L E = stepL L E by unfold applyL; rw [if_pos ⟨HGD.out, hge⟩])
      have HGE := Lib.hid hge
      have HB := HB2
      have HE := HE2
      have HBW := HX2
      have HZW := Lib.hid (show w.heap.size + 3 ≤ w2.heap.size by have := HB2.out.hR; omega)
      have HFIN := Lib.hid (fun (M1 : Led) (b : Bool) (c : Int) (M2 : Led) (W' : World) (h1 : stepL L E = (M1, b, c)) (h2 : SameL M1 M2) (h3 : LedR W' M2) (h4 : Below w.heap.size w W') =>
        show ∃ M', Ending.returned (.tuple #[.agg M2.cells.toArray, .bool b, .int .i64 c]) = Ending.returned (.tuple #[.agg M'.cells.toArray, .bool (applyL L E).2.1, .int .i64 (applyL L E).2.2]) ∧ SameL (applyL L E).1 M' ∧ LedR W' M' ∧ Below w.heap.size w W' by
          rw [HA.out, h1]
          exact ⟨M2, rfl, h2, h3, h4⟩)
      go_upto_region 3 with fail
      generalize w2 = W at *
      clear HB1 HB2 HBC HBE HE1 HE2 HX HRG HRE HRE1 HX1 HX2
      have HRW := Lib.hid HB.out.box.range
      have HRT := Lib.hid HB.out.res
      have HM1 := Lib.hid (led_allR HL.out)
      have hgq := (goodEnt_iff E.k E.r E.os E.n).1 HGE.out
      have HGQ := Lib.hid hgq
      clear hgq
      obtain ⟨k, ⟨rp, rs, rq, rkey, rval⟩, gv, os, n⟩ := E
      have hk := HK.out
      simp only at hk
      clear HK
      subst hk
      have hz := HZW.out
      have e0 : W.cell? ⟨w.heap.size + 1, 0, none⟩ = some (.int .i64 3) := HE.out 0 _ rfl
      have hgm := ((good_iff L).1 HGD.out).1
      have hnums := HOK.out.nums
      unfold I64 at hnums
      have HFN := Lib.hid (show L.opn.length ≤ 512 ∧ 0 ≤ L.decided ∧ L.decided ≤ L.sealed ∧ L.sealed - L.decided ≤ 64 ∧ 0 ≤ L.keep ∧ L.keep ≤ 64 ∧ L.sealed ≤ 9223372036854775807 by omega)
      clear hgm hnums
      have c13 := HB.out.box 13 _ rfl
      obtain ⟨ga, gc, hgv, -, -⟩ := HG.out.row.slice
      simp only at hgv
      subst hgv
      have e6 : W.cell? ⟨w.heap.size + 1, 6, none⟩ = some (.slice ga os.length gc) := HE.out 6 _ rfl
      cases hd : L.dep with
      | true =>
        rw [hd] at c13
        have HST := Lib.hid (show stepL L ⟨3, ⟨rp, rs, rq, rkey, rval⟩, .slice ga os.length gc, os, n⟩ = (L, false, 9) by simp [stepL, hd])
        clear hd e6
        go_upto_region 19 with fail
        go_wp2_with (first | (refine wpList_load_mid rfl 30 _ rfl (w.heap.size) 0 rfl (Led.cells L) _ HRW.out Try.underlying30 rfl (by show _ = some 16; kernel_rfl) ?_) | (refine wp_load_mid 30 _ rfl (w.heap.size) 0 rfl (Led.cells L) _ HRW.out Try.underlying30 rfl (by show _ = some 16; kernel_rfl) ?_) | (refine wpList_store_mid rfl 30 _ _ rfl (w.heap.size + 2) 0 (Led.cells L).toArray rfl rfl HRT.out (by show _ = some 16; kernel_rfl) HM1.out ?_) | (refine wp_store_mid 30 _ _ rfl (w.heap.size + 2) 0 (Led.cells L).toArray rfl rfl HRT.out (by show _ = some 16; kernel_rfl) HM1.out ?_))
        refine bodyPost_ret (v := .tuple #[.agg (Led.cells L).toArray, .bool false, .int .i64 9]) (results_cell3 Try.results11 rfl (resR_run HRT.out)) rfl ?_
        have hbf := HBW.out.trans ((only_cells W (w.heap.size + 2) L.cells 0).below (by omega) (fun j hj e => by omega))
        exact HFIN.out _ _ _ L _ HST.out (SameL.refl _) (HL.out.below hbf (Nat.le_refl _)) hbf
      | false =>
        rw [hd] at c13
        have HD := Lib.hid hd
        clear hd
        have hos := HES.out.os
        simp only at hos
        go_upto_region 20 with fail
        go_wp2_with fail
        refine (rcheck_calls (.slice ga os.length gc) os W (HG.out.below HBW.out (Nat.le_refl _)) (by omega)).mono ?_
        rintro e w5 ⟨⟨kk, rfl⟩, hb5⟩
        have HB5 := Lib.hid (HB.out.later hb5)
        have HBW5 := Lib.hid (below_go HBW.out hb5)
        have HRW5 := Lib.hid HB5.out.box.range
        have HRT5 := Lib.hid HB5.out.res
        have hz5 := hb5.size
        have e6' := cell_later hb5 e6
        clear hb5 e6 e0 c13
        by_cases hc : graphCode os = 0
        · have HST := Lib.hid (show stepL L ⟨3, ⟨rp, rs, rq, rkey, rval⟩, .slice ga os.length gc, os, n⟩ = (L.graphL (.slice ga os.length gc) os, true, 0) by simp [stepL, HD.out, hc])
          rw [hc]
          clear hc
          have c13 := HB5.out.box 13 _ rfl
          have bf13 := HB5.out.bf 13
          go_upto_region 24 with fail
          have hB6 := HB5.out.set (cur' := { L with dep := true }) 13 (.bool true) rfl (by omega)
          have HB6 := Lib.hid hB6
          have HON6 := Lib.hid (only_box (w := w) (W := w5) (j := 13) (.bool true))
          have c14 := hB6.box 14 _ rfl
          have bf14 := hB6.bf 14
          obtain ⟨ya, yc, hyg, -⟩ := HL.out.ops.row.slice
          simp only at c14
          rw [hyg] at c14
          have e6 := (cell_set_block (w := w5) (b := w.heap.size) (c := w.heap.size + 1) (o := 13) (p := 6) (.bool true) (by omega)).trans e6'
          clear hB6 hyg e6' c13 bf13
          generalize hW6 : w5.setCell _ _ = W6 at *
          clear hW6
          go_upto_region 25 with fail
          have hB7 := HB6.out.set (cur' := { L with dep := true, gv := .slice ga os.length gc, ops := os }) 14 (.slice ga os.length gc) rfl (by omega)
          have HON7 := Lib.hid (HON6.out.setCell ⟨w.heap.size, 14, none⟩ (.slice ga os.length gc) (.inl rfl))
          have HR7 := Lib.hid hB7.box.range
          have HT7 := Lib.hid hB7.res
          have H17 := Lib.hid (led_all { L with dep := true, gv := .slice ga os.length gc, ops := os } HL.out.one.1 HL.out.one.2.1 HL.out.one.2.2.1 rfl)
          clear hB7 c14 bf14 e6
          generalize hW7 : W6.setCell _ _ = W7 at *
          clear hW7
          go_wp2_with (first | (refine wpList_load_mid rfl 30 _ rfl (w.heap.size) 0 rfl (Led.cells { L with dep := true, gv := .slice ga os.length gc, ops := os }) _ HR7.out Try.underlying30 rfl (by show _ = some 16; kernel_rfl) ?_) | (refine wp_load_mid 30 _ rfl (w.heap.size) 0 rfl (Led.cells { L with dep := true, gv := .slice ga os.length gc, ops := os }) _ HR7.out Try.underlying30 rfl (by show _ = some 16; kernel_rfl) ?_) | (refine wpList_store_mid rfl 30 _ _ rfl (w.heap.size + 2) 0 (Led.cells { L with dep := true, gv := .slice ga os.length gc, ops := os }).toArray rfl rfl HT7.out (by show _ = some 16; kernel_rfl) H17.out ?_) | (refine wp_store_mid 30 _ _ rfl (w.heap.size + 2) 0 (Led.cells { L with dep := true, gv := .slice ga os.length gc, ops := os }).toArray rfl rfl HT7.out (by show _ = some 16; kernel_rfl) H17.out ?_))
          refine bodyPost_ret (v := .tuple #[.agg (Led.cells { L with dep := true, gv := .slice ga os.length gc, ops := os }).toArray, .bool true, .int .i64 0]) (results_cell3 Try.results11 rfl (resR_run HT7.out)) rfl ?_
          have hall : Only (fun k => k = w.heap.size ∨ k = w.heap.size + 2) w5 (W7.setCells (w.heap.size + 2) 0 (Led.cells { L with dep := true, gv := .slice ga os.length gc, ops := os })) := (HON7.out.weak (T := fun k => k = w.heap.size ∨ k = w.heap.size + 2) (fun _ _ h => .inl h)).trans (only_cells _ _ _ _) (fun j _ e => .inr e)
          have hbf := HBW5.out.trans (hall.below (by omega) (fun j hj e => by omega))
          have hl0 := HL.out.below hbf (Nat.le_refl _)
          exact HFIN.out _ _ _ { L with dep := true, gv := .slice ga os.length gc, ops := os } _ HST.out ⟨rfl, rfl, rfl, rfl, rfl, rfl, rfl, rfl, rfl⟩ ⟨hl0.rows, hl0.opn, hl0.bats, HG.out.below hbf (Nat.le_refl _)⟩ hbf
        · have HST := Lib.hid (show stepL L ⟨3, ⟨rp, rs, rq, rkey, rval⟩, .slice ga os.length gc, os, n⟩ = (L, false, 13) by simp [stepL, HD.out, hc])
          have hq : (graphCode os == 0) = false := beq_eq_false_iff_ne.2 hc
          clear hc e6'
          go_upto_region 22 with fail
          go_wp2_with (first | (refine wpList_load_mid rfl 30 _ rfl (w.heap.size) 0 rfl (Led.cells L) _ HRW5.out Try.underlying30 rfl (by show _ = some 16; kernel_rfl) ?_) | (refine wp_load_mid 30 _ rfl (w.heap.size) 0 rfl (Led.cells L) _ HRW5.out Try.underlying30 rfl (by show _ = some 16; kernel_rfl) ?_) | (refine wpList_store_mid rfl 30 _ _ rfl (w.heap.size + 2) 0 (Led.cells L).toArray rfl rfl HRT5.out (by show _ = some 16; kernel_rfl) HM1.out ?_) | (refine wp_store_mid 30 _ _ rfl (w.heap.size + 2) 0 (Led.cells L).toArray rfl rfl HRT5.out (by show _ = some 16; kernel_rfl) HM1.out ?_))
          refine bodyPost_ret (v := .tuple #[.agg (Led.cells L).toArray, .bool false, .int .i64 13]) (results_cell3 Try.results11 rfl (resR_run HRT5.out)) rfl ?_
          have hbf := HBW5.out.trans ((only_cells w5 (w.heap.size + 2) L.cells 0).below (by omega) (fun j hj e => by omega))
          exact HFIN.out _ _ _ L _ HST.out (SameL.refl _) (HL.out.below hbf (Nat.le_refl _)) hbf
end Go.Proofs.Ytkabfjbmofpkdaa

/- Layer 14: what an entry does to a ledger, in the document's text, walked: entries of kind 4. -/
namespace Go.Proofs.Ytkabfjbmofpkdaa
open Go.RowKit Go.Shelf
set_option maxRecDepth 100000

set_option maxHeartbeats 4000000 in
theorem rapply_k4 (L : Led) (E : Ent) (hk : E.k = 4) (w : World) (hL : LedR w L) (hok : L.Ok) (hsm : L.Small) (hG : OpsR w E.gv E.os) (hek : E.Ok) (hes : E.Small) :
    Calls Try.prog 11 #[.agg L.cells.toArray, .agg E.cells.toArray] w fun e w' => ∃ M, e = .returned (.tuple #[.agg M.cells.toArray, .bool (applyL L E).2.1, .int .i64 (applyL L E).2.2]) ∧ SameL (applyL L E).1 M ∧ LedR w' M ∧ Below w.heap.size w w' := by
  have HK := Lib.hid hk
  clear hk
  obtain ⟨X, hX⟩ : ∃ X, X = ((w.alloc (.cells L.cells.toArray 30)).alloc (.cells E.cells.toArray 35)).alloc (.cells zero16 30) := ⟨_, rfl⟩
  have hbX : Below w.heap.size w X := by rw [hX]; exact below_box (below_box (below_alloc _ _) _) _
  have hXs : X.heap.size = w.heap.size + 3 := by rw [hX]; simp
  have hBC : BoxC w.heap.size (w.heap.size + 2) X L := by
    refine ⟨?_, fun j => ?_, fun j hj => ?_, by omega, by omega, by omega⟩
    · rw [hX]; exact ((boxL_self w L 30).later (below_alloc _ _)).later (below_alloc _ _)
    · rw [hX, World.frozen?_alloc_past _ _ _ (by simp <;> omega), World.frozen?_alloc_past _ _ _ (by simp <;> omega), World.frozen?_alloc_at _ _ _ _ rfl]
    · refine ⟨?_, by rw [hX, World.frozen?_alloc_at _ _ _ _ (by simp)]⟩
      rw [hX, World.cell?_alloc_at _ _ _ _ (by simp)]
      show (zero16[0 + j]?).isSome = true
      rw [Nat.zero_add]
      have : j < zero16.size := hj
      rw [Array.getElem?_eq_getElem this]; rfl
  have hBE : BoxE X (w.heap.size + 1) E := by
    rw [hX]
    have := (boxE_self (w.alloc (.cells L.cells.toArray 30)) E 35).later (below_alloc _ (.cells zero16 30))
    rwa [World.size_alloc] at this
  have HX := Lib.hid hX
  have HBC := Lib.hid hBC
  have HBE := Lib.hid hBE
  have HBX := Lib.hid hbX
  have HXS := Lib.hid hXs
  have HL := Lib.hid hL
  have HOK := Lib.hid hok
  have HSM := Lib.hid hsm
  have HG := Lib.hid hG
  have HEK := Lib.hid hek
  have HES := Lib.hid hes
  have HRG := Lib.hid hBC.box.range
  have HRE := Lib.hid hBE.range
  clear hX hBC hBE hbX hXs hL hok hsm hG hek hes
  go_enter Try.func11, Try.ntmps11
  go_upto_region 1 with fail
  rw [show ((w.alloc (.cells L.cells.toArray 30)).alloc (.cells E.cells.toArray 35)).alloc (.cells #[.slice none 0 0, .int .i64 0, .int .i64 0, .int .i64 0, .int .i64 0, .int .i64 0, .int .i64 0, .int .i64 0, .int .i64 0, .slice none 0 0, .slice none 0 0, .int .i64 0, .int .i64 0, .bool false, .slice none 0 0, .int .i64 0] 30) = X from HX.out.symm]
  have HH := Lib.hid HBC.out.res
  have HZ := Lib.hid (led_all zeroL rfl rfl rfl rfl)
  cases hg : L.good with
  | false =>
    have HA := Lib.hid (show applyL L E = (zeroL, false, 3) by unfold applyL; rw [if_neg (by simp [hg])])
    have HGD := Lib.hid hg
    clear hg
    go_wp2_with (first | (refine wpList_load_mid rfl 30 _ rfl (w.heap.size) 0 rfl (Led.cells L) _ HRG.out Try.underlying30 rfl (by show _ = some 16; kernel_rfl) ?_) | (refine wp_load_mid 30 _ rfl (w.heap.size) 0 rfl (Led.cells L) _ HRG.out Try.underlying30 rfl (by show _ = some 16; kernel_rfl) ?_) | (refine wpList_store_mid rfl 30 _ _ rfl (w.heap.size + 2) 0 (Led.cells L).toArray rfl rfl HH.out (by show _ = some 16; kernel_rfl) HZ.out ?_) | (refine wp_store_mid 30 _ _ rfl (w.heap.size + 2) 0 (Led.cells L).toArray rfl rfl HH.out (by show _ = some 16; kernel_rfl) HZ.out ?_))
    refine (rGood_calls L X (HL.out.below HBX.out (Nat.le_refl _)) HOK.out HSM.out).mono ?_
    rintro e w1 ⟨rfl, hb1⟩
    rw [HGD.out]
    have HB1 := Lib.hid (HBC.out.later hb1)
    have HH1 := Lib.hid HB1.out.res
    have HX1 := Lib.hid (below_go HBX.out hb1)
    clear hb1
    go_upto_region 2 with fail
    go_wp2_with (first | (refine wpList_load_mid rfl 30 _ rfl (w.heap.size) 0 rfl (Led.cells zeroL) _ HRG.out Try.underlying30 rfl (by show _ = some 16; kernel_rfl) ?_) | (refine wp_load_mid 30 _ rfl (w.heap.size) 0 rfl (Led.cells zeroL) _ HRG.out Try.underlying30 rfl (by show _ = some 16; kernel_rfl) ?_) | (refine wpList_store_mid rfl 30 _ _ rfl (w.heap.size + 2) 0 (Led.cells zeroL).toArray rfl rfl HH1.out (by show _ = some 16; kernel_rfl) HZ.out ?_) | (refine wp_store_mid 30 _ _ rfl (w.heap.size + 2) 0 (Led.cells zeroL).toArray rfl rfl HH1.out (by show _ = some 16; kernel_rfl) HZ.out ?_))
    refine bodyPost_ret (v := .tuple #[.agg (Led.cells zeroL).toArray, .bool false, .int .i64 3]) (results_cell3 Try.results11 rfl (resR_run HH1.out)) rfl ?_
    rw [HA.out]
    exact ⟨zeroL, rfl, SameL.refl _, ledR_zero _, HX1.out.trans ((only_cells _ _ _ _).below (by have := HX1.out.size; have := HXS.out; have := HBX.out.size; omega) (fun j hj e => by omega))⟩
  | true =>
    have HGD := Lib.hid hg
    clear hg
    go_wp2_with (first | (refine wpList_load_mid rfl 30 _ rfl (w.heap.size) 0 rfl (Led.cells L) _ HRG.out Try.underlying30 rfl (by show _ = some 16; kernel_rfl) ?_) | (refine wp_load_mid 30 _ rfl (w.heap.size) 0 rfl (Led.cells L) _ HRG.out Try.underlying30 rfl (by show _ = some 16; kernel_rfl) ?_) | (refine wpList_store_mid rfl 30 _ _ rfl (w.heap.size + 2) 0 (Led.cells L).toArray rfl rfl HH.out (by show _ = some 16; kernel_rfl) HZ.out ?_) | (refine wp_store_mid 30 _ _ rfl (w.heap.size + 2) 0 (Led.cells L).toArray rfl rfl HH.out (by show _ = some 16; kernel_rfl) HZ.out ?_))
    refine (rGood_calls L X (HL.out.below HBX.out (Nat.le_refl _)) HOK.out HSM.out).mono ?_
    rintro e w1 ⟨rfl, hb1⟩
    rw [HGD.out]
    have HB1 := Lib.hid (HBC.out.later hb1)
    have HE1 := Lib.hid (HBE.out.later hb1)
    have HRE1 := Lib.hid HE1.out.range
    have HX1 := Lib.hid (below_go HBX.out hb1)
    clear hb1
    have e0 := HE1.out 0 _ rfl
    have e1 := HE1.out 1 _ rfl
    have e2 := HE1.out 2 _ rfl
    have e3 := HE1.out 3 _ rfl
    have e4 := HE1.out 4 _ rfl
    have e5 := HE1.out 5 _ rfl
    have e6 := HE1.out 6 _ rfl
    have e7 := HE1.out 7 _ rfl
    go_wp2_with fail
    clear e0 e1 e2 e3 e4 e5 e6 e7
    refine (entRgood_calls E.k E.r E.gv E.os E.n w1 (HG.out.below HX1.out (Nat.le_refl _))).mono ?_
    rintro e w2 ⟨rfl, hb2⟩
    have HB2 := Lib.hid (HB1.out.later hb2)
    have HE2 := Lib.hid (HE1.out.later hb2)
    have HX2 := Lib.hid (below_go HX1.out hb2)
    have HH2 := Lib.hid HB2.out.res
    clear hb2
    cases hge : goodEnt E.k E.r E.os E.n with
    | false =>
      have HA := Lib.hid (show applyL L E = (zeroL, false, 3) by unfold applyL; rw [if_neg (by unfold Ent.good; simp [hge])])
      clear hge
      go_upto_region 2 with fail
      go_wp2_with (first | (refine wpList_load_mid rfl 30 _ rfl (w.heap.size) 0 rfl (Led.cells zeroL) _ HRG.out Try.underlying30 rfl (by show _ = some 16; kernel_rfl) ?_) | (refine wp_load_mid 30 _ rfl (w.heap.size) 0 rfl (Led.cells zeroL) _ HRG.out Try.underlying30 rfl (by show _ = some 16; kernel_rfl) ?_) | (refine wpList_store_mid rfl 30 _ _ rfl (w.heap.size + 2) 0 (Led.cells zeroL).toArray rfl rfl HH2.out (by show _ = some 16; kernel_rfl) HZ.out ?_) | (refine wp_store_mid 30 _ _ rfl (w.heap.size + 2) 0 (Led.cells zeroL).toArray rfl rfl HH2.out (by show _ = some 16; kernel_rfl) HZ.out ?_))
      refine bodyPost_ret (v := .tuple #[.agg (Led.cells zeroL).toArray, .bool false, .int .i64 3]) (results_cell3 Try.results11 rfl (resR_run HH2.out)) rfl ?_
      rw [HA.out]
      exact ⟨zeroL, rfl, SameL.refl _, ledR_zero _, HX2.out.trans ((only_cells _ _ _ _).below (by have := HX2.out.size; have := HXS.out; have := HBX.out.size; omega) (fun j hj e => by omega))⟩
    | true =>
      have HA := Lib.hid (show applyL L E = stepL L E by unfold applyL; rw [if_pos ⟨HGD.out, hge⟩])
      have HGE := Lib.hid hge
      have HB := HB2
      have HE := HE2
      have HBW := HX2
      have HZW := Lib.hid (show w.heap.size + 3 ≤ w2.heap.size by have := HB2.out.hR; omega)
      have HFIN := Lib.hid (fun (M1 : Led) (b : Bool) (c : Int) (M2 : Led) (W' : World) (h1 : stepL L E = (M1, b, c)) (h2 : SameL M1 M2) (h3 : LedR W' M2) (h4 : Below w.heap.size w W') =>
        show ∃ M', Ending.returned (.tuple #[.agg M2.cells.toArray, .bool b, .int .i64 c]) = Ending.returned (.tuple #[.agg M'.cells.toArray, .bool (applyL L E).2.1, .int .i64 (applyL L E).2.2]) ∧ SameL (applyL L E).1 M' ∧ LedR W' M' ∧ Below w.heap.size w W' by
          rw [HA.out, h1]
          exact ⟨M2, rfl, h2, h3, h4⟩)
      go_upto_region 3 with fail
      generalize w2 = W at *
      clear HB1 HB2 HBC HBE HE1 HE2 HX HRG HRE HRE1 HX1 HX2
      have HRW := Lib.hid HB.out.box.range
      have HRT := Lib.hid HB.out.res
      have HM1 := Lib.hid (led_allR HL.out)
      have hgq := (goodEnt_iff E.k E.r E.os E.n).1 HGE.out
      have HGQ := Lib.hid hgq
      clear hgq
      obtain ⟨k, ⟨rp, rs, rq, rkey, rval⟩, gv, os, n⟩ := E
      have hk := HK.out
      simp only at hk
      clear HK
      subst hk
      have hz := HZW.out
      have e0 : W.cell? ⟨w.heap.size + 1, 0, none⟩ = some (.int .i64 4) := HE.out 0 _ rfl
      have hgm := ((good_iff L).1 HGD.out).1
      have hnums := HOK.out.nums
      unfold I64 at hnums
      have HFN := Lib.hid (show L.opn.length ≤ 512 ∧ 0 ≤ L.decided ∧ L.decided ≤ L.sealed ∧ L.sealed - L.decided ≤ 64 ∧ 0 ≤ L.keep ∧ L.keep ≤ 64 ∧ L.sealed ≤ 9223372036854775807 by omega)
      clear hgm hnums
      have e7 : W.cell? ⟨w.heap.size + 1, 7, none⟩ = some (.int .i64 n) := HE.out 7 _ rfl
      have c11 := HB.out.box 11 _ rfl
      have c12 := HB.out.box 12 _ rfl
      have bf12 := HB.out.bf 12
      by_cases hn : n = L.decided
      · subst hn
        by_cases hs : L.sealed ≤ L.decided
        · have HST := Lib.hid (show stepL L ⟨4, ⟨rp, rs, rq, rkey, rval⟩, gv, os, L.decided⟩ = (L, false, 9) by simp [stepL, hs])
          have hq : (L.decided == L.sealed) = true := beq_iff_eq.2 (by have := HFN.out; omega)
          clear hs bf12
          go_upto_region 28 with fail
          go_wp2_with (first | (refine wpList_load_mid rfl 30 _ rfl (w.heap.size) 0 rfl (Led.cells L) _ HRW.out Try.underlying30 rfl (by show _ = some 16; kernel_rfl) ?_) | (refine wp_load_mid 30 _ rfl (w.heap.size) 0 rfl (Led.cells L) _ HRW.out Try.underlying30 rfl (by show _ = some 16; kernel_rfl) ?_) | (refine wpList_store_mid rfl 30 _ _ rfl (w.heap.size + 2) 0 (Led.cells L).toArray rfl rfl HRT.out (by show _ = some 16; kernel_rfl) HM1.out ?_) | (refine wp_store_mid 30 _ _ rfl (w.heap.size + 2) 0 (Led.cells L).toArray rfl rfl HRT.out (by show _ = some 16; kernel_rfl) HM1.out ?_))
          refine bodyPost_ret (v := .tuple #[.agg (Led.cells L).toArray, .bool false, .int .i64 9]) (results_cell3 Try.results11 rfl (resR_run HRT.out)) rfl ?_
          have hbf := HBW.out.trans ((only_cells W (w.heap.size + 2) L.cells 0).below (by omega) (fun j hj e => by omega))
          exact HFIN.out _ _ _ L _ HST.out (SameL.refl _) (HL.out.below hbf (Nat.le_refl _)) hbf
        · have HST := Lib.hid (show stepL L ⟨4, ⟨rp, rs, rq, rkey, rval⟩, gv, os, L.decided⟩ = (L.decL.dropL, true, 0) by simp [stepL, hs])
          have hq : (L.decided == L.sealed) = false := beq_eq_false_iff_ne.2 (by omega)
          have hsq : -9223372036854775808 ≤ L.decided ∧ L.decided < 9223372036854775807 := by have := HFN.out; omega
          have HSQ := Lib.hid hsq
          clear hs
          go_upto_region 30 with fail
          have hB4 := HB.out.set (cur' := (L.decL)) 12 (.int .i64 (L.decided + 1)) rfl (by omega)
          have HON4 := Lib.hid (only_box (w := w) (W := W) (j := 12) (.int .i64 (L.decided + 1)))
          have HB4 := Lib.hid hB4
          have HR4 := Lib.hid hB4.box.range
          have HT4 := Lib.hid hB4.res
          have HBW4 := Lib.hid (HBW.out.trans (HON4.out.below (by omega) (fun j hj e => by omega)))
          have hl4 := HL.out.below HBW4.out (Nat.le_refl _)
          have HO4 := Lib.hid (show LedR _ (L.decL) from ⟨hl4.rows, hl4.opn, hl4.bats, hl4.ops⟩)
          have hsm4 := HSM.out
          have HS4 := Lib.hid (show (L.decL).Small from ⟨hsm4.rows, hsm4.opn, hsm4.bats, hsm4.recs, hsm4.all, hsm4.ops, hsm4.ins⟩)
          have HZ4 := Lib.hid HON4.out.size
          have H14 := Lib.hid (led_allR HO4.out)
          clear hB4 hl4 hsm4 e7 c11 c12 bf12
          generalize hW4 : W.setCell _ _ = W4 at *
          clear hW4
          have hz4 := HZ4.out
          go_wp2_with (first | (refine wpList_load_mid rfl 30 _ rfl (w.heap.size) 0 rfl (Led.cells (L.decL)) _ HR4.out Try.underlying30 rfl (by show _ = some 16; kernel_rfl) ?_) | (refine wp_load_mid 30 _ rfl (w.heap.size) 0 rfl (Led.cells (L.decL)) _ HR4.out Try.underlying30 rfl (by show _ = some 16; kernel_rfl) ?_) | (refine wpList_store_mid rfl 30 _ _ rfl (w.heap.size + 2) 0 (Led.cells (L.decL)).toArray rfl rfl HT4.out (by show _ = some 16; kernel_rfl) H14.out ?_) | (refine wp_store_mid 30 _ _ rfl (w.heap.size + 2) 0 (Led.cells (L.decL)).toArray rfl rfl HT4.out (by show _ = some 16; kernel_rfl) H14.out ?_))
          refine (rdropped_calls (L.decL) W4 HO4.out HS4.out (by have := HFN.out; have := HSQ.out; show 0 ≤ L.decided + 1 ∧ L.decided + 1 ≤ _ ∧ 0 ≤ L.keep ∧ L.keep ≤ 64; omega)).mono ?_
          rintro e w5 ⟨bv5, rfl, ho5, hb5⟩
          have hB5 := HB4.out.later hb5
          have HT5 := Lib.hid hB5.res
          have hl5 := HO4.out.below hb5 (Nat.le_refl _)
          have hO5 : LedR w5 { (L.decL) with bv := bv5, bats := (L.decL).dropped } := ⟨hl5.rows, hl5.opn, ⟨Rd.of_own ho5, fun b hb => hl5.bats.recs b (List.mem_filter.1 hb).1⟩, hl5.ops⟩
          have H5L := Lib.hid (led_allR hO5)
          have HSL := Lib.hid (show SameL ((L.decL).dropL) { (L.decL) with bv := bv5, bats := (L.decL).dropped } from ⟨rfl, rfl, rfl, rfl, rfl, rfl, rfl, rfl, rfl⟩)
          have HLR := Lib.hid (fun W' (ho : Only (fun k => k = w.heap.size + 2) w5 W') (hb : Below w.heap.size w W') => show LedR W' { (L.decL) with bv := bv5, bats := (L.decL).dropped } from
            ⟨(HL.out.below hb (Nat.le_refl _)).rows, (HL.out.below hb (Nat.le_refl _)).opn, ⟨Rd.of_own (ownsRow_only ho5 ho (fun g hg e => by have := (World.ownsRow.lt ho5 g hg).1; omega)), fun b hb' => (HL.out.below hb (Nat.le_refl _)).bats.recs b (List.mem_filter.1 hb').1⟩, (HL.out.below hb (Nat.le_refl _)).ops⟩)
          have HBF := Lib.hid hb5
          have hcc : Led.cells { (L.decL) with bv := bv5 } = Led.cells { (L.decL) with bv := bv5, bats := (L.decL).dropped } := rfl
          rw [hcc]
          clear hB5 hO5 hb5 hl5 ho5 hcc
          generalize hC : ({ (L.decL) with bv := bv5, bats := (L.decL).dropped } : Led) = CUR at *
          clear hC
          go_wp2_with (first | (refine wpList_load_mid rfl 30 _ rfl (w.heap.size) 0 rfl (Led.cells CUR) _ HR4.out Try.underlying30 rfl (by show _ = some 16; kernel_rfl) ?_) | (refine wp_load_mid 30 _ rfl (w.heap.size) 0 rfl (Led.cells CUR) _ HR4.out Try.underlying30 rfl (by show _ = some 16; kernel_rfl) ?_) | (refine wpList_store_mid rfl 30 _ _ rfl (w.heap.size + 2) 0 (Led.cells CUR).toArray rfl rfl HT5.out (by show _ = some 16; kernel_rfl) H5L.out ?_) | (refine wp_store_mid 30 _ _ rfl (w.heap.size + 2) 0 (Led.cells CUR).toArray rfl rfl HT5.out (by show _ = some 16; kernel_rfl) H5L.out ?_))
          refine bodyPost_ret (v := .tuple #[.agg CUR.cells.toArray, .bool true, .int .i64 0]) (results_cell3 Try.results11 rfl (resR_run HT5.out)) rfl ?_
          have hsz := HBF.out.size
          have hon := only_cells w5 (w.heap.size + 2) CUR.cells 0
          have hbf := (below_then HBW4.out HBF.out (by omega)).trans (hon.below (by omega) (fun j hj e => by omega))
          exact HFIN.out (L.decL).dropL _ _ CUR _ HST.out HSL.out (HLR.out _ hon hbf) hbf
      · have HST := Lib.hid (show stepL L ⟨4, ⟨rp, rs, rq, rkey, rval⟩, gv, os, n⟩ = (L, false, 9) by simp [stepL, hn])
        have hq : (n == L.decided) = false := beq_eq_false_iff_ne.2 hn
        have hq2 : (n != L.decided) = true := bne_iff_ne.2 hn
        clear bf12
        go_upto_region 28 with fail
        go_wp2_with (first | (refine wpList_load_mid rfl 30 _ rfl (w.heap.size) 0 rfl (Led.cells L) _ HRW.out Try.underlying30 rfl (by show _ = some 16; kernel_rfl) ?_) | (refine wp_load_mid 30 _ rfl (w.heap.size) 0 rfl (Led.cells L) _ HRW.out Try.underlying30 rfl (by show _ = some 16; kernel_rfl) ?_) | (refine wpList_store_mid rfl 30 _ _ rfl (w.heap.size + 2) 0 (Led.cells L).toArray rfl rfl HRT.out (by show _ = some 16; kernel_rfl) HM1.out ?_) | (refine wp_store_mid 30 _ _ rfl (w.heap.size + 2) 0 (Led.cells L).toArray rfl rfl HRT.out (by show _ = some 16; kernel_rfl) HM1.out ?_))
        refine bodyPost_ret (v := .tuple #[.agg (Led.cells L).toArray, .bool false, .int .i64 9]) (results_cell3 Try.results11 rfl (resR_run HRT.out)) rfl ?_
        have hbf := HBW.out.trans ((only_cells W (w.heap.size + 2) L.cells 0).below (by omega) (fun j hj e => by omega))
        exact HFIN.out _ _ _ L _ HST.out (SameL.refl _) (HL.out.below hbf (Nat.le_refl _)) hbf
end Go.Proofs.Ytkabfjbmofpkdaa

/- Layer 14: what an entry does to a ledger, in the document's text, walked: entries of kind 5. -/
namespace Go.Proofs.Ytkabfjbmofpkdaa
open Go.RowKit Go.Shelf
set_option maxRecDepth 100000

set_option maxHeartbeats 4000000 in
theorem rapply_k5 (L : Led) (E : Ent) (hk : E.k = 5) (w : World) (hL : LedR w L) (hok : L.Ok) (hsm : L.Small) (hG : OpsR w E.gv E.os) (hek : E.Ok) (hes : E.Small) :
    Calls Try.prog 11 #[.agg L.cells.toArray, .agg E.cells.toArray] w fun e w' => ∃ M, e = .returned (.tuple #[.agg M.cells.toArray, .bool (applyL L E).2.1, .int .i64 (applyL L E).2.2]) ∧ SameL (applyL L E).1 M ∧ LedR w' M ∧ Below w.heap.size w w' := by
  have HK := Lib.hid hk
  clear hk
  obtain ⟨X, hX⟩ : ∃ X, X = ((w.alloc (.cells L.cells.toArray 30)).alloc (.cells E.cells.toArray 35)).alloc (.cells zero16 30) := ⟨_, rfl⟩
  have hbX : Below w.heap.size w X := by rw [hX]; exact below_box (below_box (below_alloc _ _) _) _
  have hXs : X.heap.size = w.heap.size + 3 := by rw [hX]; simp
  have hBC : BoxC w.heap.size (w.heap.size + 2) X L := by
    refine ⟨?_, fun j => ?_, fun j hj => ?_, by omega, by omega, by omega⟩
    · rw [hX]; exact ((boxL_self w L 30).later (below_alloc _ _)).later (below_alloc _ _)
    · rw [hX, World.frozen?_alloc_past _ _ _ (by simp <;> omega), World.frozen?_alloc_past _ _ _ (by simp <;> omega), World.frozen?_alloc_at _ _ _ _ rfl]
    · refine ⟨?_, by rw [hX, World.frozen?_alloc_at _ _ _ _ (by simp)]⟩
      rw [hX, World.cell?_alloc_at _ _ _ _ (by simp)]
      show (zero16[0 + j]?).isSome = true
      rw [Nat.zero_add]
      have : j < zero16.size := hj
      rw [Array.getElem?_eq_getElem this]; rfl
  have hBE : BoxE X (w.heap.size + 1) E := by
    rw [hX]
    have := (boxE_self (w.alloc (.cells L.cells.toArray 30)) E 35).later (below_alloc _ (.cells zero16 30))
    rwa [World.size_alloc] at this
  have HX := Lib.hid hX
  have HBC := Lib.hid hBC
  have HBE := Lib.hid hBE
  have HBX := Lib.hid hbX
  have HXS := Lib.hid hXs
  have HL := Lib.hid hL
  have HOK := Lib.hid hok
  have HSM := Lib.hid hsm
  have HG := Lib.hid hG
  have HEK := Lib.hid hek
  have HES := Lib.hid hes
  have HRG := Lib.hid hBC.box.range
  have HRE := Lib.hid hBE.range
  clear hX hBC hBE hbX hXs hL hok hsm hG hek hes
  go_enter Try.func11, Try.ntmps11
  go_upto_region 1 with fail
  rw [show ((w.alloc (.cells L.cells.toArray 30)).alloc (.cells E.cells.toArray 35)).alloc (.cells #[.slice none 0 0, .int .i64 0, .int .i64 0, .int .i64 0, .int .i64 0, .int .i64 0, .int .i64 0, .int .i64 0, .int .i64 0, .slice none 0 0, .slice none 0 0, .int .i64 0, .int .i64 0, .bool false, .slice none 0 0, .int .i64 0] 30) = X from HX.out.symm]
  have HH := Lib.hid HBC.out.res
  have HZ := Lib.hid (led_all zeroL rfl rfl rfl rfl)
  cases hg : L.good with
  | false =>
    have HA := Lib.hid (show applyL L E = (zeroL, false, 3) by unfold applyL; rw [if_neg (by simp [hg])])
    have HGD := Lib.hid hg
    clear hg
    go_wp2_with (first | (refine wpList_load_mid rfl 30 _ rfl (w.heap.size) 0 rfl (Led.cells L) _ HRG.out Try.underlying30 rfl (by show _ = some 16; kernel_rfl) ?_) | (refine wp_load_mid 30 _ rfl (w.heap.size) 0 rfl (Led.cells L) _ HRG.out Try.underlying30 rfl (by show _ = some 16; kernel_rfl) ?_) | (refine wpList_store_mid rfl 30 _ _ rfl (w.heap.size + 2) 0 (Led.cells L).toArray rfl rfl HH.out (by show _ = some 16; kernel_rfl) HZ.out ?_) | (refine wp_store_mid 30 _ _ rfl (w.heap.size + 2) 0 (Led.cells L).toArray rfl rfl HH.out (by show _ = some 16; kernel_rfl) HZ.out ?_))
    refine (rGood_calls L X (HL.out.below HBX.out (Nat.le_refl _)) HOK.out HSM.out).mono ?_
    rintro e w1 ⟨rfl, hb1⟩
    rw [HGD.out]
    have HB1 := Lib.hid (HBC.out.later hb1)
    have HH1 := Lib.hid HB1.out.res
    have HX1 := Lib.hid (below_go HBX.out hb1)
    clear hb1
    go_upto_region 2 with fail
    go_wp2_with (first | (refine wpList_load_mid rfl 30 _ rfl (w.heap.size) 0 rfl (Led.cells zeroL) _ HRG.out Try.underlying30 rfl (by show _ = some 16; kernel_rfl) ?_) | (refine wp_load_mid 30 _ rfl (w.heap.size) 0 rfl (Led.cells zeroL) _ HRG.out Try.underlying30 rfl (by show _ = some 16; kernel_rfl) ?_) | (refine wpList_store_mid rfl 30 _ _ rfl (w.heap.size + 2) 0 (Led.cells zeroL).toArray rfl rfl HH1.out (by show _ = some 16; kernel_rfl) HZ.out ?_) | (refine wp_store_mid 30 _ _ rfl (w.heap.size + 2) 0 (Led.cells zeroL).toArray rfl rfl HH1.out (by show _ = some 16; kernel_rfl) HZ.out ?_))
    refine bodyPost_ret (v := .tuple #[.agg (Led.cells zeroL).toArray, .bool false, .int .i64 3]) (results_cell3 Try.results11 rfl (resR_run HH1.out)) rfl ?_
    rw [HA.out]
    exact ⟨zeroL, rfl, SameL.refl _, ledR_zero _, HX1.out.trans ((only_cells _ _ _ _).below (by have := HX1.out.size; have := HXS.out; have := HBX.out.size; omega) (fun j hj e => by omega))⟩
  | true =>
    have HGD := Lib.hid hg
    clear hg
    go_wp2_with (first | (refine wpList_load_mid rfl 30 _ rfl (w.heap.size) 0 rfl (Led.cells L) _ HRG.out Try.underlying30 rfl (by show _ = some 16; kernel_rfl) ?_) | (refine wp_load_mid 30 _ rfl (w.heap.size) 0 rfl (Led.cells L) _ HRG.out Try.underlying30 rfl (by show _ = some 16; kernel_rfl) ?_) | (refine wpList_store_mid rfl 30 _ _ rfl (w.heap.size + 2) 0 (Led.cells L).toArray rfl rfl HH.out (by show _ = some 16; kernel_rfl) HZ.out ?_) | (refine wp_store_mid 30 _ _ rfl (w.heap.size + 2) 0 (Led.cells L).toArray rfl rfl HH.out (by show _ = some 16; kernel_rfl) HZ.out ?_))
    refine (rGood_calls L X (HL.out.below HBX.out (Nat.le_refl _)) HOK.out HSM.out).mono ?_
    rintro e w1 ⟨rfl, hb1⟩
    rw [HGD.out]
    have HB1 := Lib.hid (HBC.out.later hb1)
    have HE1 := Lib.hid (HBE.out.later hb1)
    have HRE1 := Lib.hid HE1.out.range
    have HX1 := Lib.hid (below_go HBX.out hb1)
    clear hb1
    have e0 := HE1.out 0 _ rfl
    have e1 := HE1.out 1 _ rfl
    have e2 := HE1.out 2 _ rfl
    have e3 := HE1.out 3 _ rfl
    have e4 := HE1.out 4 _ rfl
    have e5 := HE1.out 5 _ rfl
    have e6 := HE1.out 6 _ rfl
    have e7 := HE1.out 7 _ rfl
    go_wp2_with fail
    clear e0 e1 e2 e3 e4 e5 e6 e7
    refine (entRgood_calls E.k E.r E.gv E.os E.n w1 (HG.out.below HX1.out (Nat.le_refl _))).mono ?_
    rintro e w2 ⟨rfl, hb2⟩
    have HB2 := Lib.hid (HB1.out.later hb2)
    have HE2 := Lib.hid (HE1.out.later hb2)
    have HX2 := Lib.hid (below_go HX1.out hb2)
    have HH2 := Lib.hid HB2.out.res
    clear hb2
    cases hge : goodEnt E.k E.r E.os E.n with
    | false =>
      have HA := Lib.hid (show applyL L E = (zeroL, false, 3) by unfold applyL; rw [if_neg (by unfold Ent.good; simp [hge])])
      clear hge
      go_upto_region 2 with fail
      go_wp2_with (first | (refine wpList_load_mid rfl 30 _ rfl (w.heap.size) 0 rfl (Led.cells zeroL) _ HRG.out Try.underlying30 rfl (by show _ = some 16; kernel_rfl) ?_) | (refine wp_load_mid 30 _ rfl (w.heap.size) 0 rfl (Led.cells zeroL) _ HRG.out Try.underlying30 rfl (by show _ = some 16; kernel_rfl) ?_) | (refine wpList_store_mid rfl 30 _ _ rfl (w.heap.size + 2) 0 (Led.cells zeroL).toArray rfl rfl HH2.out (by show _ = some 16; kernel_rfl) HZ.out ?_) | (refine wp_store_mid 30 _ _ rfl (w.heap.size + 2) 0 (Led.cells zeroL).toArray rfl rfl HH2.out (by show _ = some 16; kernel_rfl) HZ.out ?_))
      refine bodyPost_ret (v := .tuple #[.agg (Led.cells zeroL).toArray, .bool false, .int .i64 3]) (results_cell3 Try.results11 rfl (resR_run HH2.out)) rfl ?_
      rw [HA.out]
      exact ⟨zeroL, rfl, SameL.refl _, ledR_zero _, HX2.out.trans ((only_cells _ _ _ _).below (by have := HX2.out.size; have := HXS.out; have := HBX.out.size; omega) (fun j hj e => by omega))⟩
    | true =>
      have HA := Lib.hid (show applyL L E = stepL L E by unfold applyL; rw [if_pos ⟨HGD.out, hge⟩])
      have HGE := Lib.hid hge
      have HB := HB2
      have HE := HE2
      have HBW := HX2
      have HZW := Lib.hid (show w.heap.size + 3 ≤ w2.heap.size by have := HB2.out.hR; omega)
      have HFIN := Lib.hid (fun (M1 : Led) (b : Bool) (c : Int) (M2 : Led) (W' : World) (h1 : stepL L E = (M1, b, c)) (h2 : SameL M1 M2) (h3 : LedR W' M2) (h4 : Below w.heap.size w W') =>
        show ∃ M', Ending.returned (.tuple #[.agg M2.cells.toArray, .bool b, .int .i64 c]) = Ending.returned (.tuple #[.agg M'.cells.toArray, .bool (applyL L E).2.1, .int .i64 (applyL L E).2.2]) ∧ SameL (applyL L E).1 M' ∧ LedR W' M' ∧ Below w.heap.size w W' by
          rw [HA.out, h1]
          exact ⟨M2, rfl, h2, h3, h4⟩)
      go_upto_region 3 with fail
      generalize w2 = W at *
      clear HB1 HB2 HBC HBE HE1 HE2 HX HRG HRE HRE1 HX1 HX2
      have HRW := Lib.hid HB.out.box.range
      have HRT := Lib.hid HB.out.res
      have HM1 := Lib.hid (led_allR HL.out)
      have hgq := (goodEnt_iff E.k E.r E.os E.n).1 HGE.out
      have HGQ := Lib.hid hgq
      clear hgq
      obtain ⟨k, ⟨rp, rs, rq, rkey, rval⟩, gv, os, n⟩ := E
      have hk := HK.out
      simp only at hk
      clear HK
      subst hk
      have hz := HZW.out
      have e0 : W.cell? ⟨w.heap.size + 1, 0, none⟩ = some (.int .i64 5) := HE.out 0 _ rfl
      have hgm := ((good_iff L).1 HGD.out).1
      have hnums := HOK.out.nums
      unfold I64 at hnums
      have HFN := Lib.hid (show L.opn.length ≤ 512 ∧ 0 ≤ L.decided ∧ L.decided ≤ L.sealed ∧ L.sealed - L.decided ≤ 64 ∧ 0 ≤ L.keep ∧ L.keep ≤ 64 ∧ L.sealed ≤ 9223372036854775807 by omega)
      clear hgm hnums
      have e7 : W.cell? ⟨w.heap.size + 1, 7, none⟩ = some (.int .i64 n) := HE.out 7 _ rfl
      have c15 := HB.out.box 15 _ rfl
      have bf15 := HB.out.bf 15
      by_cases hn : 64 < n
      · have HST := Lib.hid (show stepL L ⟨5, ⟨rp, rs, rq, rkey, rval⟩, gv, os, n⟩ = (L, false, 1) by simp [stepL, hn])
        have hq : decide (64 < n) = true := decide_eq_true hn
        clear hn bf15
        go_upto_region 33 with fail
        go_wp2_with (first | (refine wpList_load_mid rfl 30 _ rfl (w.heap.size) 0 rfl (Led.cells L) _ HRW.out Try.underlying30 rfl (by show _ = some 16; kernel_rfl) ?_) | (refine wp_load_mid 30 _ rfl (w.heap.size) 0 rfl (Led.cells L) _ HRW.out Try.underlying30 rfl (by show _ = some 16; kernel_rfl) ?_) | (refine wpList_store_mid rfl 30 _ _ rfl (w.heap.size + 2) 0 (Led.cells L).toArray rfl rfl HRT.out (by show _ = some 16; kernel_rfl) HM1.out ?_) | (refine wp_store_mid 30 _ _ rfl (w.heap.size + 2) 0 (Led.cells L).toArray rfl rfl HRT.out (by show _ = some 16; kernel_rfl) HM1.out ?_))
        refine bodyPost_ret (v := .tuple #[.agg (Led.cells L).toArray, .bool false, .int .i64 1]) (results_cell3 Try.results11 rfl (resR_run HRT.out)) rfl ?_
        have hbf := HBW.out.trans ((only_cells W (w.heap.size + 2) L.cells 0).below (by omega) (fun j hj e => by omega))
        exact HFIN.out _ _ _ L _ HST.out (SameL.refl _) (HL.out.below hbf (Nat.le_refl _)) hbf
      · have HST := Lib.hid (show stepL L ⟨5, ⟨rp, rs, rq, rkey, rval⟩, gv, os, n⟩ = ((L.keepL n).dropL, true, 0) by simp [stepL, hn])
        have hq : decide (64 < n) = false := decide_eq_false hn
        have HN0 := Lib.hid (show 0 ≤ n ∧ n ≤ 64 from ⟨HGQ.out.1.2.2.1, by omega⟩)
        clear hn
        go_upto_region 35 with fail
        have hB4 := HB.out.set (cur' := (L.keepL n)) 15 (.int .i64 n) rfl (by omega)
        have HON4 := Lib.hid (only_box (w := w) (W := W) (j := 15) (.int .i64 n))
        have HB4 := Lib.hid hB4
        have HR4 := Lib.hid hB4.box.range
        have HT4 := Lib.hid hB4.res
        have HBW4 := Lib.hid (HBW.out.trans (HON4.out.below (by omega) (fun j hj e => by omega)))
        have hl4 := HL.out.below HBW4.out (Nat.le_refl _)
        have HO4 := Lib.hid (show LedR _ (L.keepL n) from ⟨hl4.rows, hl4.opn, hl4.bats, hl4.ops⟩)
        have hsm4 := HSM.out
        have HS4 := Lib.hid (show (L.keepL n).Small from ⟨hsm4.rows, hsm4.opn, hsm4.bats, hsm4.recs, hsm4.all, hsm4.ops, hsm4.ins⟩)
        have HZ4 := Lib.hid HON4.out.size
        have H14 := Lib.hid (led_allR HO4.out)
        clear hB4 hl4 hsm4 e7 c15 bf15
        generalize hW4 : W.setCell _ _ = W4 at *
        clear hW4
        have hz4 := HZ4.out
        go_wp2_with (first | (refine wpList_load_mid rfl 30 _ rfl (w.heap.size) 0 rfl (Led.cells (L.keepL n)) _ HR4.out Try.underlying30 rfl (by show _ = some 16; kernel_rfl) ?_) | (refine wp_load_mid 30 _ rfl (w.heap.size) 0 rfl (Led.cells (L.keepL n)) _ HR4.out Try.underlying30 rfl (by show _ = some 16; kernel_rfl) ?_) | (refine wpList_store_mid rfl 30 _ _ rfl (w.heap.size + 2) 0 (Led.cells (L.keepL n)).toArray rfl rfl HT4.out (by show _ = some 16; kernel_rfl) H14.out ?_) | (refine wp_store_mid 30 _ _ rfl (w.heap.size + 2) 0 (Led.cells (L.keepL n)).toArray rfl rfl HT4.out (by show _ = some 16; kernel_rfl) H14.out ?_))
        refine (rdropped_calls (L.keepL n) W4 HO4.out HS4.out (by have := HFN.out; have := HN0.out; show 0 ≤ L.decided ∧ L.decided ≤ _ ∧ 0 ≤ n ∧ n ≤ 64; omega)).mono ?_
        rintro e w5 ⟨bv5, rfl, ho5, hb5⟩
        have hB5 := HB4.out.later hb5
        have HT5 := Lib.hid hB5.res
        have hl5 := HO4.out.below hb5 (Nat.le_refl _)
        have hO5 : LedR w5 { (L.keepL n) with bv := bv5, bats := (L.keepL n).dropped } := ⟨hl5.rows, hl5.opn, ⟨Rd.of_own ho5, fun b hb => hl5.bats.recs b (List.mem_filter.1 hb).1⟩, hl5.ops⟩
        have H5L := Lib.hid (led_allR hO5)
        have HSL := Lib.hid (show SameL ((L.keepL n).dropL) { (L.keepL n) with bv := bv5, bats := (L.keepL n).dropped } from ⟨rfl, rfl, rfl, rfl, rfl, rfl, rfl, rfl, rfl⟩)
        have HLR := Lib.hid (fun W' (ho : Only (fun k => k = w.heap.size + 2) w5 W') (hb : Below w.heap.size w W') => show LedR W' { (L.keepL n) with bv := bv5, bats := (L.keepL n).dropped } from
          ⟨(HL.out.below hb (Nat.le_refl _)).rows, (HL.out.below hb (Nat.le_refl _)).opn, ⟨Rd.of_own (ownsRow_only ho5 ho (fun g hg e => by have := (World.ownsRow.lt ho5 g hg).1; omega)), fun b hb' => (HL.out.below hb (Nat.le_refl _)).bats.recs b (List.mem_filter.1 hb').1⟩, (HL.out.below hb (Nat.le_refl _)).ops⟩)
        have HBF := Lib.hid hb5
        have hcc : Led.cells { (L.keepL n) with bv := bv5 } = Led.cells { (L.keepL n) with bv := bv5, bats := (L.keepL n).dropped } := rfl
        rw [hcc]
        clear hB5 hO5 hb5 hl5 ho5 hcc
        generalize hC : ({ (L.keepL n) with bv := bv5, bats := (L.keepL n).dropped } : Led) = CUR at *
        clear hC
        go_wp2_with (first | (refine wpList_load_mid rfl 30 _ rfl (w.heap.size) 0 rfl (Led.cells CUR) _ HR4.out Try.underlying30 rfl (by show _ = some 16; kernel_rfl) ?_) | (refine wp_load_mid 30 _ rfl (w.heap.size) 0 rfl (Led.cells CUR) _ HR4.out Try.underlying30 rfl (by show _ = some 16; kernel_rfl) ?_) | (refine wpList_store_mid rfl 30 _ _ rfl (w.heap.size + 2) 0 (Led.cells CUR).toArray rfl rfl HT5.out (by show _ = some 16; kernel_rfl) H5L.out ?_) | (refine wp_store_mid 30 _ _ rfl (w.heap.size + 2) 0 (Led.cells CUR).toArray rfl rfl HT5.out (by show _ = some 16; kernel_rfl) H5L.out ?_))
        refine bodyPost_ret (v := .tuple #[.agg CUR.cells.toArray, .bool true, .int .i64 0]) (results_cell3 Try.results11 rfl (resR_run HT5.out)) rfl ?_
        have hsz := HBF.out.size
        have hon := only_cells w5 (w.heap.size + 2) CUR.cells 0
        have hbf := (below_then HBW4.out HBF.out (by omega)).trans (hon.below (by omega) (fun j hj e => by omega))
        exact HFIN.out (L.keepL n).dropL _ _ CUR _ HST.out HSL.out (HLR.out _ hon hbf) hbf
end Go.Proofs.Ytkabfjbmofpkdaa

/- Layer 14: what an entry does to a ledger, in the document's text, walked: the whole. -/
namespace Go.Proofs.Ytkabfjbmofpkdaa
open Go.RowKit Go.Shelf
set_option maxRecDepth 100000

set_option maxHeartbeats 4000000 in
theorem rapply_bad (L : Led) (E : Ent) (hk : ¬ (L.good = true ∧ E.good = true)) (w : World) (hL : LedR w L) (hok : L.Ok) (hsm : L.Small) (hG : OpsR w E.gv E.os) (hek : E.Ok) (hes : E.Small) :
    Calls Try.prog 11 #[.agg L.cells.toArray, .agg E.cells.toArray] w fun e w' => ∃ M, e = .returned (.tuple #[.agg M.cells.toArray, .bool (applyL L E).2.1, .int .i64 (applyL L E).2.2]) ∧ SameL (applyL L E).1 M ∧ LedR w' M ∧ Below w.heap.size w w' := by
  have HK := Lib.hid hk
  clear hk
  obtain ⟨X, hX⟩ : ∃ X, X = ((w.alloc (.cells L.cells.toArray 30)).alloc (.cells E.cells.toArray 35)).alloc (.cells zero16 30) := ⟨_, rfl⟩
  have hbX : Below w.heap.size w X := by rw [hX]; exact below_box (below_box (below_alloc _ _) _) _
  have hXs : X.heap.size = w.heap.size + 3 := by rw [hX]; simp
  have hBC : BoxC w.heap.size (w.heap.size + 2) X L := by
    refine ⟨?_, fun j => ?_, fun j hj => ?_, by omega, by omega, by omega⟩
    · rw [hX]; exact ((boxL_self w L 30).later (below_alloc _ _)).later (below_alloc _ _)
    · rw [hX, World.frozen?_alloc_past _ _ _ (by simp <;> omega), World.frozen?_alloc_past _ _ _ (by simp <;> omega), World.frozen?_alloc_at _ _ _ _ rfl]
    · refine ⟨?_, by rw [hX, World.frozen?_alloc_at _ _ _ _ (by simp)]⟩
      rw [hX, World.cell?_alloc_at _ _ _ _ (by simp)]
      show (zero16[0 + j]?).isSome = true
      rw [Nat.zero_add]
      have : j < zero16.size := hj
      rw [Array.getElem?_eq_getElem this]; rfl
  have hBE : BoxE X (w.heap.size + 1) E := by
    rw [hX]
    have := (boxE_self (w.alloc (.cells L.cells.toArray 30)) E 35).later (below_alloc _ (.cells zero16 30))
    rwa [World.size_alloc] at this
  have HX := Lib.hid hX
  have HBC := Lib.hid hBC
  have HBE := Lib.hid hBE
  have HBX := Lib.hid hbX
  have HXS := Lib.hid hXs
  have HL := Lib.hid hL
  have HOK := Lib.hid hok
  have HSM := Lib.hid hsm
  have HG := Lib.hid hG
  have HEK := Lib.hid hek
  have HES := Lib.hid hes
  have HRG := Lib.hid hBC.box.range
  have HRE := Lib.hid hBE.range
  clear hX hBC hBE hbX hXs hL hok hsm hG hek hes
  go_enter Try.func11, Try.ntmps11
  go_upto_region 1 with fail
  rw [show ((w.alloc (.cells L.cells.toArray 30)).alloc (.cells E.cells.toArray 35)).alloc (.cells #[.slice none 0 0, .int .i64 0, .int .i64 0, .int .i64 0, .int .i64 0, .int .i64 0, .int .i64 0, .int .i64 0, .int .i64 0, .slice none 0 0, .slice none 0 0, .int .i64 0, .int .i64 0, .bool false, .slice none 0 0, .int .i64 0] 30) = X from HX.out.symm]
  have HH := Lib.hid HBC.out.res
  have HZ := Lib.hid (led_all zeroL rfl rfl rfl rfl)
  cases hg : L.good with
  | false =>
    have HA := Lib.hid (show applyL L E = (zeroL, false, 3) by unfold applyL; rw [if_neg (by simp [hg])])
    have HGD := Lib.hid hg
    clear hg
    go_wp2_with (first | (refine wpList_load_mid rfl 30 _ rfl (w.heap.size) 0 rfl (Led.cells L) _ HRG.out Try.underlying30 rfl (by show _ = some 16; kernel_rfl) ?_) | (refine wp_load_mid 30 _ rfl (w.heap.size) 0 rfl (Led.cells L) _ HRG.out Try.underlying30 rfl (by show _ = some 16; kernel_rfl) ?_) | (refine wpList_store_mid rfl 30 _ _ rfl (w.heap.size + 2) 0 (Led.cells L).toArray rfl rfl HH.out (by show _ = some 16; kernel_rfl) HZ.out ?_) | (refine wp_store_mid 30 _ _ rfl (w.heap.size + 2) 0 (Led.cells L).toArray rfl rfl HH.out (by show _ = some 16; kernel_rfl) HZ.out ?_))
    refine (rGood_calls L X (HL.out.below HBX.out (Nat.le_refl _)) HOK.out HSM.out).mono ?_
    rintro e w1 ⟨rfl, hb1⟩
    rw [HGD.out]
    have HB1 := Lib.hid (HBC.out.later hb1)
    have HH1 := Lib.hid HB1.out.res
    have HX1 := Lib.hid (below_go HBX.out hb1)
    clear hb1
    go_upto_region 2 with fail
    go_wp2_with (first | (refine wpList_load_mid rfl 30 _ rfl (w.heap.size) 0 rfl (Led.cells zeroL) _ HRG.out Try.underlying30 rfl (by show _ = some 16; kernel_rfl) ?_) | (refine wp_load_mid 30 _ rfl (w.heap.size) 0 rfl (Led.cells zeroL) _ HRG.out Try.underlying30 rfl (by show _ = some 16; kernel_rfl) ?_) | (refine wpList_store_mid rfl 30 _ _ rfl (w.heap.size + 2) 0 (Led.cells zeroL).toArray rfl rfl HH1.out (by show _ = some 16; kernel_rfl) HZ.out ?_) | (refine wp_store_mid 30 _ _ rfl (w.heap.size + 2) 0 (Led.cells zeroL).toArray rfl rfl HH1.out (by show _ = some 16; kernel_rfl) HZ.out ?_))
    refine bodyPost_ret (v := .tuple #[.agg (Led.cells zeroL).toArray, .bool false, .int .i64 3]) (results_cell3 Try.results11 rfl (resR_run HH1.out)) rfl ?_
    rw [HA.out]
    exact ⟨zeroL, rfl, SameL.refl _, ledR_zero _, HX1.out.trans ((only_cells _ _ _ _).below (by have := HX1.out.size; have := HXS.out; have := HBX.out.size; omega) (fun j hj e => by omega))⟩
  | true =>
    have HGD := Lib.hid hg
    clear hg
    go_wp2_with (first | (refine wpList_load_mid rfl 30 _ rfl (w.heap.size) 0 rfl (Led.cells L) _ HRG.out Try.underlying30 rfl (by show _ = some 16; kernel_rfl) ?_) | (refine wp_load_mid 30 _ rfl (w.heap.size) 0 rfl (Led.cells L) _ HRG.out Try.underlying30 rfl (by show _ = some 16; kernel_rfl) ?_) | (refine wpList_store_mid rfl 30 _ _ rfl (w.heap.size + 2) 0 (Led.cells L).toArray rfl rfl HH.out (by show _ = some 16; kernel_rfl) HZ.out ?_) | (refine wp_store_mid 30 _ _ rfl (w.heap.size + 2) 0 (Led.cells L).toArray rfl rfl HH.out (by show _ = some 16; kernel_rfl) HZ.out ?_))
    refine (rGood_calls L X (HL.out.below HBX.out (Nat.le_refl _)) HOK.out HSM.out).mono ?_
    rintro e w1 ⟨rfl, hb1⟩
    rw [HGD.out]
    have HB1 := Lib.hid (HBC.out.later hb1)
    have HE1 := Lib.hid (HBE.out.later hb1)
    have HRE1 := Lib.hid HE1.out.range
    have HX1 := Lib.hid (below_go HBX.out hb1)
    clear hb1
    have e0 := HE1.out 0 _ rfl
    have e1 := HE1.out 1 _ rfl
    have e2 := HE1.out 2 _ rfl
    have e3 := HE1.out 3 _ rfl
    have e4 := HE1.out 4 _ rfl
    have e5 := HE1.out 5 _ rfl
    have e6 := HE1.out 6 _ rfl
    have e7 := HE1.out 7 _ rfl
    go_wp2_with fail
    clear e0 e1 e2 e3 e4 e5 e6 e7
    refine (entRgood_calls E.k E.r E.gv E.os E.n w1 (HG.out.below HX1.out (Nat.le_refl _))).mono ?_
    rintro e w2 ⟨rfl, hb2⟩
    have HB2 := Lib.hid (HB1.out.later hb2)
    have HE2 := Lib.hid (HE1.out.later hb2)
    have HX2 := Lib.hid (below_go HX1.out hb2)
    have HH2 := Lib.hid HB2.out.res
    clear hb2
    cases hge : goodEnt E.k E.r E.os E.n with
    | false =>
      have HA := Lib.hid (show applyL L E = (zeroL, false, 3) by unfold applyL; rw [if_neg (by unfold Ent.good; simp [hge])])
      clear hge
      go_upto_region 2 with fail
      go_wp2_with (first | (refine wpList_load_mid rfl 30 _ rfl (w.heap.size) 0 rfl (Led.cells zeroL) _ HRG.out Try.underlying30 rfl (by show _ = some 16; kernel_rfl) ?_) | (refine wp_load_mid 30 _ rfl (w.heap.size) 0 rfl (Led.cells zeroL) _ HRG.out Try.underlying30 rfl (by show _ = some 16; kernel_rfl) ?_) | (refine wpList_store_mid rfl 30 _ _ rfl (w.heap.size + 2) 0 (Led.cells zeroL).toArray rfl rfl HH2.out (by show _ = some 16; kernel_rfl) HZ.out ?_) | (refine wp_store_mid 30 _ _ rfl (w.heap.size + 2) 0 (Led.cells zeroL).toArray rfl rfl HH2.out (by show _ = some 16; kernel_rfl) HZ.out ?_))
      refine bodyPost_ret (v := .tuple #[.agg (Led.cells zeroL).toArray, .bool false, .int .i64 3]) (results_cell3 Try.results11 rfl (resR_run HH2.out)) rfl ?_
      rw [HA.out]
      exact ⟨zeroL, rfl, SameL.refl _, ledR_zero _, HX2.out.trans ((only_cells _ _ _ _).below (by have := HX2.out.size; have := HXS.out; have := HBX.out.size; omega) (fun j hj e => by omega))⟩
    | true => exact absurd ⟨HGD.out, hge⟩ HK.out

theorem rapply_calls (L : Led) (E : Ent) (w : World) (hL : LedR w L) (hok : L.Ok) (hsm : L.Small) (hG : OpsR w E.gv E.os) (hek : E.Ok) (hes : E.Small) :
    Calls Try.prog 11 #[.agg L.cells.toArray, .agg E.cells.toArray] w fun e w' => ∃ M, e = .returned (.tuple #[.agg M.cells.toArray, .bool (applyL L E).2.1, .int .i64 (applyL L E).2.2]) ∧ SameL (applyL L E).1 M ∧ LedR w' M ∧ Below w.heap.size w w' := by
  by_cases h : L.good = true ∧ E.good = true
  · have hg := ((goodEnt_iff E.k E.r E.os E.n).1 h.2).1
    rcases (show E.k = 0 ∨ E.k = 1 ∨ E.k = 2 ∨ E.k = 3 ∨ E.k = 4 ∨ E.k = 5 by omega) with hk | hk | hk | hk | hk | hk
    · exact rapply_k0 L E hk w hL hok hsm hG hek hes
    · exact rapply_k1 L E hk w hL hok hsm hG hek hes
    · exact rapply_k2 L E hk w hL hok hsm hG hek hes
    · exact rapply_k3 L E hk w hL hok hsm hG hek hes
    · exact rapply_k4 L E hk w hL hok hsm hG hek hes
    · exact rapply_k5 L E hk w hL hok hsm hG hek hes
  · exact rapply_bad L E h w hL hok hsm hG hek hes
end Go.Proofs.Ytkabfjbmofpkdaa
