/- Walks and plain laws of the chapter, laid together; each part says what it proves. -/
import Derived.Test.YtkabfjbmofpkdaaPkC
import Derived.Test.YtkabfjbmofpkdaaPkF
import Derived.Test.YtkabfjbmofpkdaaPkG
/- Layer 14: the first offset of a partition, walked. -/
namespace Go.Proofs.Ytkabfjbmofpkdaa
open Go.RowKit Go.Shelf
set_option maxRecDepth 100000
attribute [local go_sem] Oper.semAt_some

/-- The first offset of a partition that is there. -/
def Led.firstOf (L : Led) (q : Int) : Int := if 0 ≤ q ∧ q < 8 ∧ L.good = true then L.C q.toNat - have_ L.all q else 0
theorem firstOf_good {L : Led} (hg : L.good = true) (p : Nat) (hp : p < 8) : L.firstOf p = L.C p - have_ L.all p := by
  unfold Led.firstOf
  rw [if_pos ⟨by omega, by omega, hg⟩]
  rfl
theorem have_take_le (rs : List Rec) (k : Nat) (q : Int) : have_ (rs.take k) q ≤ have_ rs q := have_sub (List.take_sublist _ _) q
theorem good_C {L : Led} (hg : L.good = true) (hok : L.Ok) (p : Nat) (hp : p < 8) : (have_ L.all p : Int) ≤ L.C p ∧ L.C p ≤ 9223372036854775807 :=
  ⟨counts_at ((good_iff L).1 hg).2.2 p hp, (hok.C p hp).2⟩
theorem cells_led_all (L : Led) : L.cells.toArray = #[L.rv, .int .i64 (L.C 0), .int .i64 (L.C 1), .int .i64 (L.C 2), .int .i64 (L.C 3), .int .i64 (L.C 4), .int .i64 (L.C 5), .int .i64 (L.C 6), .int .i64 (L.C 7), L.ov, L.bv, .int .i64 L.sealed, .int .i64 L.decided, .bool L.dep, L.gv, .int .i64 L.keep] := rfl

set_option maxHeartbeats 4000000 in
theorem first_calls (L : Led) (q : Int) (w : World) (hL : LedR w L) (hok : L.Ok) (hsm : L.Small) :
    Calls Try.prog 22 #[.agg L.cells.toArray, .int .i64 q] w fun e w' => e = .returned (.int .i64 (L.firstOf q)) ∧ Below w.heap.size w w' := by
  obtain ⟨X, hX⟩ : ∃ X, X = (w.alloc (.cells L.cells.toArray 30)).alloc (.cells #[.int .i64 q] 3) := ⟨_, rfl⟩
  have hbX : Below w.heap.size w X := by rw [hX]; exact below_box (below_alloc _ _) _
  have hXs : X.heap.size = w.heap.size + 2 := by rw [hX]; simp
  have hbox : BoxL X w.heap.size L := by rw [hX]; exact (boxL_self w L 30).later (below_alloc _ _)
  have hq : X.cell? ⟨w.heap.size + 1, 0, none⟩ = some (.int .i64 q) := by rw [hX, World.cell?_alloc_at _ _ _ _ (by simp)]; rfl
  have HL := Lib.hid hL
  have HBX := Lib.hid hbX
  have HOK := Lib.hid hok
  have HSM := Lib.hid hsm
  have HBOX := Lib.hid hbox
  have HX := Lib.hid hX
  have HXS := Lib.hid hXs
  have c0 := hbox 0 _ rfl
  have c1 := hbox 1 _ rfl
  have c2 := hbox 2 _ rfl
  have c3 := hbox 3 _ rfl
  have c4 := hbox 4 _ rfl
  have c5 := hbox 5 _ rfl
  have c6 := hbox 6 _ rfl
  have c7 := hbox 7 _ rfl
  have c8 := hbox 8 _ rfl
  have c9 := hbox 9 _ rfl
  have c10 := hbox 10 _ rfl
  have c11 := hbox 11 _ rfl
  have c12 := hbox 12 _ rfl
  have c13 := hbox 13 _ rfl
  have c14 := hbox 14 _ rfl
  have c15 := hbox 15 _ rfl
  clear hX hbX hL hok hsm hbox hXs
  refine (callsIn_wide (n := 0)).1 ?_
  refine callsIn_of_wp_marks Try.func22 rfl trivial ?_
  simp only [Try.ntmps22, List.size_toArray, List.length_cons, List.length_nil, Nat.reduceAdd, Nat.reduceSub, Array.replicate_succ, Array.replicate_zero, List.push_toArray, List.append_toArray, List.nil_append, List.cons_append]
  have HHX := Lib.hid (show (w.alloc (.cells #[L.rv, .int .i64 (L.C 0), .int .i64 (L.C 1), .int .i64 (L.C 2), .int .i64 (L.C 3), .int .i64 (L.C 4), .int .i64 (L.C 5), .int .i64 (L.C 6), .int .i64 (L.C 7), L.ov, L.bv, .int .i64 L.sealed, .int .i64 L.decided, .bool L.dep, L.gv, .int .i64 L.keep] 30)).alloc (.cells #[.int .i64 q] 3) = X from HX.out.symm)
  rw [cells_led_all]
  by_cases hb : q < 0 ∨ 8 ≤ q
  · have HF := Lib.hid (show L.firstOf q = 0 by unfold Led.firstOf; rw [if_neg (by omega)])
    rcases hb with hb | hb
    · have d1 : decide (q < 0) = true := decide_eq_true hb
      clear hb
      gi_wp2_with fail
      refine ⟨.int .i64 0, ?_, by rw [HF.out], by rw [HHX.out]; exact HBX.out⟩
      simp [results, Try.results22, go_sem]
    · have d1 : decide (q < 0) = false := decide_eq_false (by omega)
      have d2 : decide (8 ≤ q) = true := decide_eq_true hb
      clear hb
      gi_wp2_with fail
      refine ⟨.int .i64 0, ?_, by rw [HF.out], by rw [HHX.out]; exact HBX.out⟩
      simp [results, Try.results22, go_sem]
  · obtain ⟨p, hp⟩ : ∃ p : Nat, q = p := ⟨q.toNat, by omega⟩
    have hp8 : p < 8 := by omega
    subst hp
    have d1 : decide ((p : Int) < 0) = false := decide_eq_false (by omega)
    have d2 : decide (8 ≤ (p : Int)) = false := decide_eq_false (by omega)
    have d3 : decide (8 ≤ p) = false := decide_eq_false (by omega)
    clear hb
    gi_wp2_with fail
    rw [HHX.out]
    refine (callsIn_wide.2 (pGood_calls L X (HL.out.below HBX.out (Nat.le_refl _)) HOK.out HSM.out)).mono ?_
    rintro e w1 ⟨rfl, hb1⟩
    have HB1 := Lib.hid (below_go HBX.out hb1)
    have HBOX1 := Lib.hid (HBOX.out.later hb1)
    have hq := cell_later hb1 hq
    clear hb1 c0 c1 c2 c3 c4 c5 c6 c7 c8 c9 c10 c11 c12 c13 c14 c15
    cases hg : L.good with
    | false =>
      have HF := Lib.hid (show L.firstOf p = 0 by unfold Led.firstOf; rw [if_neg (by rw [hg]; simp)])
      clear hg
      gi_wp2_with fail
      refine ⟨.int .i64 0, ?_, by rw [HF.out], HB1.out⟩
      simp [results, Try.results22, go_sem]
    | true =>
      have HF := Lib.hid (firstOf_good hg p hp8)
      have hgc := good_C hg HOK.out p hp8
      have HG := Lib.hid hg
      have cp := HBOX1.out (1 + p) _ (cells_C L p hp8)
      have c0 := HBOX1.out 0 _ rfl
      have c1 := HBOX1.out 1 _ rfl
      have c2 := HBOX1.out 2 _ rfl
      have c3 := HBOX1.out 3 _ rfl
      have c4 := HBOX1.out 4 _ rfl
      have c5 := HBOX1.out 5 _ rfl
      have c6 := HBOX1.out 6 _ rfl
      have c7 := HBOX1.out 7 _ rfl
      have c8 := HBOX1.out 8 _ rfl
      have c9 := HBOX1.out 9 _ rfl
      have c10 := HBOX1.out 10 _ rfl
      have c11 := HBOX1.out 11 _ rfl
      have c12 := HBOX1.out 12 _ rfl
      have c13 := HBOX1.out 13 _ rfl
      have c14 := HBOX1.out 14 _ rfl
      have c15 := HBOX1.out 15 _ rfl
      obtain ⟨Z, hZ⟩ : ∃ Z, Z = w1.alloc (.cells #[.int .i64 (L.C p)] 3) := ⟨_, rfl⟩
      have hbZ : Below w1.heap.size w1 Z := by rw [hZ]; exact below_alloc _ _
      have hZs : Z.heap.size = w1.heap.size + 1 := by rw [hZ]; simp
      have hn0 : Z.cell? ⟨w1.heap.size, 0, none⟩ = some (.int .i64 (L.C p)) := by rw [hZ]; exact box_self 0 _ rfl
      have hnf : Z.frozen? ⟨w1.heap.size, 0, none⟩ = false := by rw [hZ, World.frozen?_alloc_at _ _ _ _ rfl]
      have hlt1 : w.heap.size < w1.heap.size := HBOX1.out.lt
      have HQL := Lib.hid (World.block_lt_of_cell? _ _ hq)
      have HRECS := Lib.hid (records_calls L Z)
      have HBYX := Lib.hid (boxL_self Z L 30)
      have HZ := Lib.hid hZ
      have HBZ := Lib.hid hbZ
      have HZS := Lib.hid hZs
      have HN := Lib.hid (And.intro hn0 hnf)
      clear hg hZ hbZ hZs hn0 hnf
      gi_wp2_with fail
      rw [← HZ.out]
      refine HRECS.out.mono ?_
      rintro e w4 ⟨rfl, rfl⟩
      obtain ⟨Y, hY⟩ : ∃ Y, Y = Z.alloc (.cells L.cells.toArray 30) := ⟨_, rfl⟩
      rw [← hY] at HBYX ⊢
      have HBY := Lib.hid (show Below Z.heap.size Z Y from by rw [hY]; exact below_alloc _ _)
      have HB3Y := Lib.hid (below_go HBZ.out HBY.out)
      have HYQ := Lib.hid (cell_later HB3Y.out hq)
      have HYN := Lib.hid (And.intro (cell_later HBY.out HN.out.1) (frozen_later HBY.out HN.out.1 HN.out.2))
      have HYS := Lib.hid (show Y.heap.size = w1.heap.size + 2 by rw [hY]; simp; have := HZS.out; omega)
      clear hY c0 c1 c2 c3 c4 c5 c6 c7 c8 c9 c10 c11 c12 c13 c14 c15 cp hq
      gi_wp2_with fail
      refine range_w (gf := 71) (lb := #[.pointer (some ⟨Z.heap.size, 0, none⟩)]) rfl (fun args w => enter_of Try.func71 (by kernel_rfl) rfl args w)
        (fun k W => Only (fun j => j = w1.heap.size) Y W ∧ k ≤ L.all.length ∧ W.cell? ⟨w1.heap.size, 0, none⟩ = some (.int .i64 (L.C p - have_ (L.all.take k) p)) ∧ W.frozen? ⟨w1.heap.size, 0, none⟩ = false)
        (fun c W => False) (RStep L) (fun k => k = L.all.length) 0
        (fun s W W' hc h => ⟨h.1.calm (Nat.le_refl _) hc, h.2.1, hc.cell h.2.2.1, (hc.frozen h.2.2.1).trans h.2.2.2⟩) (fun c W W' hc h => h) ⟨Only.refl _ _, Nat.zero_le _, by simpa [have_zero] using HYN.out.1, HYN.out.2⟩ ?iter ?body ?done ?stop
      case iter =>
        intro l J' Jx' W hm _ hJJ hc hJ0 hy
        refine records1_iter L Z.heap.size l J' Jx' W HSM.out hm (fun s W h => ?_) hy hJ0
        have ho := (hJJ s W h).1
        have h3 := ho.below (B := w1.heap.size) (by have := HB3Y.out.size; omega) (fun j hj e => by omega)
        exact ⟨HL.out.below (below_go HB1.out (HB3Y.out.trans h3)) (Nat.le_refl _), fun j v hj => ho.cell (by have := HZS.out; omega) (HBYX.out j v hj)⟩
      case body =>
        intro l k args s' W hr hst hsz
        obtain ⟨hlt, rfl, rfl⟩ := hst
        have HR := Lib.hid hr
        have HSU := Lib.hid (have_succ L.all k hlt p)
        have hle := have_take_le L.all k p
        have hls := have_take_le L.all (k + 1) p
        clear hr
        generalize L.all[k] = R at *
        obtain ⟨rp, rs, rq, rkey, rval⟩ := R
        refine ⟨rfl, ?_⟩
        gi_wp2_with fail
        refine ⟨KeepsOthers.alloc _ _, fun W₂ hc => ?_⟩
        have hc0 : Calm Y.heap.size W W₂ := (Calm.of_below hsz (below_alloc _ _)).trans hc
        have b2 : W₂.cell? ⟨W.heap.size, 2, none⟩ = some (.int .i64 rq) := hc.cell (box_self 2 _ rfl)
        have HO2 := Lib.hid (HR.out.1.calm (Nat.le_refl _) hc0)
        have hn := hc0.cell HR.out.2.2.1
        have hf := (hc0.frozen HR.out.2.2.1).trans HR.out.2.2.2
        have hq2 := HO2.out.cell (by have h := HQL.out; show ¬ w.heap.size + 1 = w1.heap.size; exact Nat.ne_of_lt h) HYQ.out
        clear hc hc0
        by_cases he : rq = p
        · have e1 : (rq == (p : Int)) = true := beq_iff_eq.2 he
          rw [if_pos he] at HSU
          rw [HSU.out] at hls
          have HN2 := Lib.hid (And.intro hn hf)
          clear he
          gi_wp2_with fail
          refine ⟨KeepsOthers.setCell _ _ _, HO2.out.setCell ⟨w1.heap.size, 0, none⟩ _ (.inl rfl), hlt, ?_, by rw [World.frozen?_setCell]; exact HN2.out.2⟩
          rw [cell_set_same _ HN2.out.1, HSU.out]
          simp only [Option.some.injEq, Value.int.injEq, true_and]
          omega
        · have e1 : (rq == (p : Int)) = false := beq_eq_false_iff_ne.2 he
          rw [if_neg he] at HSU
          have HN2 := Lib.hid (And.intro hn hf)
          clear he
          gi_wp2_with fail
          exact ⟨KeepsOthers.refl _, HO2.out, hlt, by rw [HSU.out]; exact HN2.out.1, HN2.out.2⟩
      case done =>
        intro D s W hD hs hr hK
        subst hs
        have HO := Lib.hid (hr.1.below (B := w1.heap.size) (by have := HYS.out; omega) (fun j hj e => by omega))
        have hn := hr.2.2.1
        rw [List.take_length] at hn
        have HKD := Lib.hid hK
        clear hr hK
        gi_wp2_with fail
        refine ⟨by simp, .inl ⟨_, _, rfl, run_takeDeferred HKD.out, ?_⟩⟩
        have hcal := Calm.putObj (B := w.heap.size) (.deferred none) (by have := HYS.out; have h : w.heap.size + 1 < w1.heap.size := HQL.out; omega) HKD.out rfl
        refine ⟨.int .i64 (L.C p - have_ L.all p), ?_, by rw [HF.out], ?_⟩
        · simp [results, Try.results22, go_sem]
        exact (below_go HB1.out (HB3Y.out.trans HO.out)).trans hcal.below
      case stop =>
        intro D c W hD hr hK
        exact hr.elim
end Go.Proofs.Ytkabfjbmofpkdaa

/- Layer 14: what is fetched of a partition, as data; how the loop's world stands. -/
namespace Go.Proofs.Ytkabfjbmofpkdaa
open Go.RowKit Go.Shelf
set_option maxRecDepth 100000

/-- What is fetched. -/
def Led.fetchOf (L : Led) (q frm most : Int) : List Rec × Int × Int :=
  if L.good = false then ([], 0, 3) else if q < 0 ∨ 8 ≤ q ∨ most < 0 then ([], 0, 1) else if frm < L.firstOf q ∨ L.C q.toNat < frm then ([], 0, 8)
  else (((ofPart L.all q).drop (frm - L.firstOf q).toNat).take most.toNat, frm + (((ofPart L.all q).drop (frm - L.firstOf q).toNat).take most.toNat).length, 0)
def outAt (rs : List Rec) (q : Int) (d k : Nat) : List Rec := (ofPart (rs.take k) q).drop d
theorem outAt_zero (rs : List Rec) (q : Int) (d : Nat) : outAt rs q d 0 = [] := by simp [outAt, ofPart]
theorem outAt_miss (rs : List Rec) (q : Int) (d k : Nat) (hk : k < rs.length) (h : rs[k].q ≠ q) : outAt rs q d (k + 1) = outAt rs q d k := by
  unfold outAt
  rw [ofPart_succ rs k hk, if_neg h, List.append_nil]
theorem outAt_skip (rs : List Rec) (q : Int) (d k : Nat) (hk : k < rs.length) (h : rs[k].q = q) (hd : have_ (rs.take k) q < d) : outAt rs q d (k + 1) = outAt rs q d k := by
  unfold outAt
  rw [ofPart_succ rs k hk, if_pos h]
  unfold have_ at hd
  rw [List.drop_eq_nil_of_le (by simp; omega), List.drop_eq_nil_of_le (by omega)]
theorem outAt_push (rs : List Rec) (q : Int) (d k : Nat) (hk : k < rs.length) (h : rs[k].q = q) (hd : d ≤ have_ (rs.take k) q) : outAt rs q d (k + 1) = outAt rs q d k ++ [rs[k]] := by
  unfold outAt
  rw [ofPart_succ rs k hk, if_pos h, List.drop_append_of_le_length hd]
theorem outAt_le (rs : List Rec) (q : Int) (d k : Nat) : (outAt rs q d k).length ≤ rs.length := by
  unfold outAt
  have := ofPart_le rs k q
  have h2 := have_take_le rs k q
  unfold have_ at h2
  have h3 : (ofPart rs q).length ≤ rs.length := List.length_filter_le _ _
  rw [List.length_drop]
  omega
theorem outAt_pre (rs : List Rec) (q : Int) (d k : Nat) : ∃ t, (ofPart rs q).drop d = outAt rs q d k ++ t := by
  have e : ofPart rs q = ofPart (rs.take k) q ++ ofPart (rs.drop k) q := by unfold ofPart; rw [← List.filter_append, List.take_append_drop]
  unfold outAt
  rw [e, List.drop_append]
  exact ⟨_, rfl⟩
theorem outAt_full (rs : List Rec) (q : Int) (d k m : Nat) (h : (outAt rs q d k).length = m) : ((ofPart rs q).drop d).take m = outAt rs q d k := by
  obtain ⟨t, ht⟩ := outAt_pre rs q d k
  rw [ht, ← h, List.take_left]
theorem outAt_end (rs : List Rec) (q : Int) (d m : Nat) (h : (outAt rs q d rs.length).length ≤ m) : ((ofPart rs q).drop d).take m = outAt rs q d rs.length := by
  unfold outAt at h ⊢
  rw [List.take_length] at h ⊢
  exact List.take_of_length_le h

/-- The loop of Fetch, behind k records. -/
structure FRel (Y W : World) (bo ba : Nat) (q F : Int) (d m : Nat) (rs : List Rec) (k : Nat) (v : Value) : Prop where
  only : Only (fun j => j = bo ∨ j = ba) Y W
  le : k ≤ rs.length
  co : W.cell? ⟨bo, 0, none⟩ = some v
  fo : W.frozen? ⟨bo, 0, none⟩ = false
  ca : W.cell? ⟨ba, 0, none⟩ = some (.int .i64 (F + have_ (rs.take k) q))
  fa : W.frozen? ⟨ba, 0, none⟩ = false
  own : W.ownsRow Y.heap.size 33 5 v (outAt rs q d k).length (flatF Rec.cells (outAt rs q d k))
  len : (outAt rs q d k).length ≤ m
variable {Y W W' w8 : World} {bo ba : Nat} {q F : Int} {d m : Nat} {rs : List Rec} {k : Nat} {v v' : Value}
theorem FRel.calm (h : FRel Y W bo ba q F d m rs k v) (hc : Calm Y.heap.size W W') : FRel Y W' bo ba q F d m rs k v :=
  ⟨h.only.calm (Nat.le_refl _) hc, h.le, hc.cell h.co, (hc.frozen h.co).trans h.fo, hc.cell h.ca, (hc.frozen h.ca).trans h.fa, ownsRow_calm h.own hc, h.len⟩
theorem FRel.miss (h : FRel Y W bo ba q F d m rs k v) (hk : k < rs.length) (hq : rs[k].q ≠ q) : FRel Y W bo ba q F d m rs (k + 1) v := by
  have e : have_ (rs.take (k + 1)) q = have_ (rs.take k) q := by rw [have_succ rs k hk, if_neg hq]; rfl
  exact ⟨h.only, hk, h.co, h.fo, by rw [e]; exact h.ca, h.fa, by rw [outAt_miss rs q d k hk hq]; exact h.own, by rw [outAt_miss rs q d k hk hq]; exact h.len⟩
theorem own_ne {w : World} {base : Nat} {e : TypeId} {sz n : Nat} {v : Value} {xs : List Value} (h : w.ownsRow base e sz v n xs) {b : Nat} (hb : b < base) : v.ownBlock ≠ some b := fun he => by
  have := (World.ownsRow.lt h b he).1
  omega
theorem FRel.skip (h : FRel Y W bo ba q F d m rs k v) (hk : k < rs.length) (hq : rs[k].q = q) (hd : have_ (rs.take k) q < d) (hba : ba < Y.heap.size) (hne : bo ≠ ba) :
    FRel Y (W.setCell ⟨ba, 0, none⟩ (.int .i64 (F + have_ (rs.take k) q + 1))) bo ba q F d m rs (k + 1) v := by
  have e : have_ (rs.take (k + 1)) q = have_ (rs.take k) q + 1 := by rw [have_succ rs k hk, if_pos hq]
  have eo := outAt_skip rs q d k hk hq hd
  refine ⟨h.only.setCell ⟨ba, 0, none⟩ _ (.inl (.inr rfl)), hk, by rw [cell_set_block _ hne]; exact h.co, by rw [World.frozen?_setCell]; exact h.fo, ?_, by rw [World.frozen?_setCell]; exact h.fa, ?_, by rw [eo]; exact h.len⟩
  · rw [cell_set_same _ h.ca, e]
    simp only [Option.some.injEq, Value.int.injEq, true_and]
    omega
  · rw [eo]
    exact ownsRow_set h.own ⟨ba, 0, none⟩ _ hba
theorem FRel.push (h : FRel Y W bo ba q F d m rs k v) (hk : k < rs.length) (hq : rs[k].q = q) (hd : d ≤ have_ (rs.take k) q) (hm : (outAt rs q d k).length < m) (o : Obj)
    (ho : w8.ownsRow Y.heap.size 33 5 v' ((outAt rs q d k).length + 1) (flatF Rec.cells (outAt rs q d k) ++ flatF Rec.cells [rs[k]])) (hg : (W.alloc o).grownBy w8 v.ownBlock) (hbo : bo < Y.heap.size) (hba : ba < Y.heap.size) (hne : bo ≠ ba) :
    (w8.cell? ⟨bo, 0, none⟩ = some v ∧ w8.frozen? ⟨bo, 0, none⟩ = false ∧ w8.cell? ⟨ba, 0, none⟩ = some (.int .i64 (F + have_ (rs.take k) q)) ∧ w8.frozen? ⟨ba, 0, none⟩ = false) ∧
    FRel Y ((w8.setCell ⟨bo, 0, none⟩ v').setCell ⟨ba, 0, none⟩ (.int .i64 (F + have_ (rs.take k) q + 1))) bo ba q F d m rs (k + 1) v' ∧
    KeepsOthers W ((w8.setCell ⟨bo, 0, none⟩ v').setCell ⟨ba, 0, none⟩ (.int .i64 (F + have_ (rs.take k) q + 1))) := by
  have e : have_ (rs.take (k + 1)) q = have_ (rs.take k) q + 1 := by rw [have_succ rs k hk, if_pos hq]
  have eo := outAt_push rs q d k hk hq hd
  have h8 : Only (fun j => v.ownBlock = some j) W w8 := ((Only.refl _ W).alloc o).trans (Only.of_grown hg) (fun j _ h => h)
  have hbl : bo < W.heap.size := Nat.lt_of_lt_of_le hbo h.only.size
  have hal : ba < W.heap.size := Nat.lt_of_lt_of_le hba h.only.size
  have c1 := h8.cell (own_ne h.own hbo) h.co
  have c2 := (h8.frozen (o := 0) hbl (own_ne h.own hbo)).trans h.fo
  have c3 := h8.cell (own_ne h.own hba) h.ca
  have c4 := (h8.frozen (o := 0) hal (own_ne h.own hba)).trans h.fa
  refine ⟨⟨c1, c2, c3, c4⟩, ⟨?_, hk, ?_, ?_, ?_, ?_, ?_, ?_⟩, ?_⟩
  · refine Only.setCell (Only.setCell (h.only.trans h8 (fun j hj hs => ?_)) ⟨bo, 0, none⟩ _ (.inl (.inl rfl))) ⟨ba, 0, none⟩ _ (.inl (.inr rfl))
    have := (World.ownsRow.lt h.own j hs).1
    omega
  · rw [cell_set_block _ hne, cell_set_same _ c1]
  · rw [World.frozen?_setCell, World.frozen?_setCell]; exact c2
  · rw [cell_set_same _ (by rw [cell_set_block _ (Ne.symm hne)]; exact c3), e]
    simp only [Option.some.injEq, Value.int.injEq, true_and]
    omega
  · rw [World.frozen?_setCell, World.frozen?_setCell]; exact c4
  · rw [eo, List.length_append, flatF_append]
    exact ownsRow_set (ownsRow_set ho ⟨bo, 0, none⟩ _ hbo) ⟨ba, 0, none⟩ _ hba
  · rw [eo, List.length_append]
    simp only [List.length_cons, List.length_nil]
    omega
  · exact ((KeepsOthers.alloc W o).trans (KeepsOthers.of_grownBy hg (own_cells (h.own.alloc o)))).trans ((KeepsOthers.setCell _ _ _).trans (KeepsOthers.setCell _ _ _))
/-- The same, with names for what is read. -/
theorem FRel.push' (h : FRel Y W bo ba q F d m rs k v) (hk : k < rs.length) {R : Rec} (hR : rs[k] = R) (hq : R.q = q) {H n : Nat} (hH : H = have_ (rs.take k) q) (hn : n = (outAt rs q d k).length) (hd : d ≤ H) (hm : n < m) (o : Obj)
    (ho : w8.ownsRow Y.heap.size 33 5 v' (n + 1) (flatF Rec.cells (outAt rs q d k) ++ flatF Rec.cells [R])) (hg : (W.alloc o).grownBy w8 v.ownBlock) (hbo : bo < Y.heap.size) (hba : ba < Y.heap.size) (hne : bo ≠ ba) :
    (w8.cell? ⟨bo, 0, none⟩ = some v ∧ w8.frozen? ⟨bo, 0, none⟩ = false ∧ w8.cell? ⟨ba, 0, none⟩ = some (.int .i64 (F + H)) ∧ w8.frozen? ⟨ba, 0, none⟩ = false) ∧
    FRel Y ((w8.setCell ⟨bo, 0, none⟩ v').setCell ⟨ba, 0, none⟩ (.int .i64 (F + H + 1))) bo ba q F d m rs (k + 1) v' ∧
    KeepsOthers W ((w8.setCell ⟨bo, 0, none⟩ v').setCell ⟨ba, 0, none⟩ (.int .i64 (F + H + 1))) := by
  subst hR hH hn
  exact h.push hk hq hd hm o ho hg hbo hba hne
end Go.Proofs.Ytkabfjbmofpkdaa

/- Layer 14: Fetch, walked. -/
namespace Go.Proofs.Ytkabfjbmofpkdaa
open Go.RowKit Go.Shelf
set_option maxRecDepth 100000
attribute [local go_sem] Oper.semAt_some

set_option maxHeartbeats 8000000 in
theorem fetch_calls (L : Led) (q frm most : Int) (w : World) (hL : LedR w L) (hok : L.Ok) (hsm : L.Small) (hfr : I64 frm) (hms : I64 most) :
    Calls Try.prog 23 #[.agg L.cells.toArray, .int .i64 q, .int .i64 frm, .int .i64 most] w fun e w' => ∃ v, e = .returned (.tuple #[v, .int .i64 (L.fetchOf q frm most).2.1, .int .i64 (L.fetchOf q frm most).2.2]) ∧
      w'.ownsRow w.heap.size 33 5 v (L.fetchOf q frm most).1.length (flatF Rec.cells (L.fetchOf q frm most).1) ∧ Below w.heap.size w w' := by
  obtain ⟨X, hX⟩ : ∃ X, X = (((w.alloc (.cells L.cells.toArray 30)).alloc (.cells #[.int .i64 q] 3)).alloc (.cells #[.int .i64 frm] 3)).alloc (.cells #[.int .i64 most] 3) := ⟨_, rfl⟩
  have hbX : Below w.heap.size w X := by rw [hX]; exact below_box (below_box (below_box (below_alloc _ _) _) _) _
  have hXs : X.heap.size = w.heap.size + 4 := by rw [hX]; simp
  have hbox : BoxL X w.heap.size L := by rw [hX]; exact (((boxL_self w L 30).later (below_alloc _ _)).later (below_alloc _ _)).later (below_alloc _ _)
  have hq : X.cell? ⟨w.heap.size + 1, 0, none⟩ = some (.int .i64 q) := by
    rw [hX, World.cell?_alloc_past _ _ _ (by simp <;> omega), World.cell?_alloc_past _ _ _ (by simp <;> omega), World.cell?_alloc_at _ _ _ _ (by simp)]; rfl
  have hf : X.cell? ⟨w.heap.size + 2, 0, none⟩ = some (.int .i64 frm) := by
    rw [hX, World.cell?_alloc_past _ _ _ (by simp <;> omega), World.cell?_alloc_at _ _ _ _ (by simp)]; rfl
  have hm : X.cell? ⟨w.heap.size + 3, 0, none⟩ = some (.int .i64 most) := by
    rw [hX, World.cell?_alloc_at _ _ _ _ (by simp)]; rfl
  have HL := Lib.hid hL
  have HBX := Lib.hid hbX
  have HOK := Lib.hid hok
  have HSM := Lib.hid hsm
  have HBOX := Lib.hid hbox
  have HX := Lib.hid hX
  have HXS := Lib.hid hXs
  have HFR := Lib.hid hfr
  have HMS := Lib.hid hms
  have HIN := Lib.hid (And.intro hq (And.intro hf hm))
  have c0 := hbox 0 _ rfl
  have c1 := hbox 1 _ rfl
  have c2 := hbox 2 _ rfl
  have c3 := hbox 3 _ rfl
  have c4 := hbox 4 _ rfl
  have c5 := hbox 5 _ rfl
  have c6 := hbox 6 _ rfl
  have c7 := hbox 7 _ rfl
  have c8 := hbox 8 _ rfl
  have c9 := hbox 9 _ rfl
  have c10 := hbox 10 _ rfl
  have c11 := hbox 11 _ rfl
  have c12 := hbox 12 _ rfl
  have c13 := hbox 13 _ rfl
  have c14 := hbox 14 _ rfl
  have c15 := hbox 15 _ rfl
  clear hX hbX hL hok hsm hbox hXs hfr hms hq hf hm
  refine (callsIn_wide (n := 0)).1 ?_
  refine callsIn_of_wp_marks Try.func23 rfl trivial ?_
  simp only [Try.ntmps23, List.size_toArray, List.length_cons, List.length_nil, Nat.reduceAdd, Nat.reduceSub, Array.replicate_succ, Array.replicate_zero, List.push_toArray, List.append_toArray, List.nil_append, List.cons_append]
  have HHX := Lib.hid (show (((w.alloc (.cells #[L.rv, .int .i64 (L.C 0), .int .i64 (L.C 1), .int .i64 (L.C 2), .int .i64 (L.C 3), .int .i64 (L.C 4), .int .i64 (L.C 5), .int .i64 (L.C 6), .int .i64 (L.C 7), L.ov, L.bv, .int .i64 L.sealed, .int .i64 L.decided, .bool L.dep, L.gv, .int .i64 L.keep] 30)).alloc (.cells #[.int .i64 q] 3)).alloc (.cells #[.int .i64 frm] 3)).alloc (.cells #[.int .i64 most] 3) = X from HX.out.symm)
  rw [cells_led_all]
  gi_wp2_with fail
  rw [HHX.out]
  refine (callsIn_wide.2 (pGood_calls L X (HL.out.below HBX.out (Nat.le_refl _)) HOK.out HSM.out)).mono ?_
  rintro e w1 ⟨rfl, hb1⟩
  have HB1 := Lib.hid (below_go HBX.out hb1)
  have HBOX1 := Lib.hid (HBOX.out.later hb1)
  have h1q := cell_later hb1 HIN.out.1
  have h1f := cell_later hb1 HIN.out.2.1
  have h1m := cell_later hb1 HIN.out.2.2
  have HIN1 := Lib.hid (And.intro h1q (And.intro h1f h1m))
  clear hb1 c0 c1 c2 c3 c4 c5 c6 c7 c8 c9 c10 c11 c12 c13 c14 c15
  cases hg : L.good with
  | false =>
    have HF := Lib.hid (show L.fetchOf q frm most = ([], 0, 3) by unfold Led.fetchOf; rw [if_pos hg])
    clear hg
    gi_wp2_with fail
    refine ⟨.tuple #[.slice none 0 0, .int .i64 0, .int .i64 3], ?_, .slice none 0 0, by rw [HF.out], by rw [HF.out]; exact World.ownsRow_nil _ _ _ _, HB1.out⟩
    simp [results, Try.results23, go_sem]
  | true =>
    have HG := Lib.hid hg
    clear hg
    by_cases hbad : q < 0 ∨ 8 ≤ q ∨ most < 0
    · have HF := Lib.hid (show L.fetchOf q frm most = ([], 0, 1) by unfold Led.fetchOf; rw [if_neg (by simp [HG.out]), if_pos hbad])
      have hways : decide (q < 0) = true ∨ (decide (q < 0) = false ∧ decide (8 ≤ q) = true) ∨ (decide (q < 0) = false ∧ decide (8 ≤ q) = false ∧ decide (most < 0) = true) := by
        simp only [decide_eq_true_eq, decide_eq_false_iff_not]
        omega
      clear hbad
      rcases hways with d1 | ⟨d1, d2⟩ | ⟨d1, d2, d3⟩
      all_goals
        gi_wp2_with fail
        refine ⟨.tuple #[.slice none 0 0, .int .i64 0, .int .i64 1], ?_, .slice none 0 0, by rw [HF.out], by rw [HF.out]; exact World.ownsRow_nil _ _ _ _, HB1.out⟩
        simp [results, Try.results23, go_sem]
    · obtain ⟨p, hp⟩ : ∃ p : Nat, q = p := ⟨q.toNat, by omega⟩
      obtain ⟨m, hm⟩ : ∃ m : Nat, most = m := ⟨most.toNat, by omega⟩
      have hp8 : p < 8 := by omega
      subst hp
      subst hm
      have hp8i : (p : Int) < 8 := by omega
      have d1 : decide ((p : Int) < 0) = false := decide_eq_false (by omega)
      have d2 : decide (8 ≤ (p : Int)) = false := decide_eq_false (by omega)
      have d2' : decide (8 ≤ p) = false := decide_eq_false (by omega)
      have d3 : decide ((m : Int) < 0) = false := decide_eq_false (by omega)
      have HF1 := Lib.hid (firstOf_good HG.out p hp8)
      have HGC := Lib.hid (good_C HG.out HOK.out p hp8)
      have HFE := Lib.hid (show L.fetchOf p frm m = if frm < L.firstOf p ∨ L.C p < frm then ([], 0, 8) else (((ofPart L.all p).drop (frm - L.firstOf p).toNat).take m, frm + (((ofPart L.all p).drop (frm - L.firstOf p).toNat).take m).length, 0) by
        unfold Led.fetchOf; rw [if_neg (by simp [HG.out]), if_neg hbad]; rfl)
      clear hbad
      have hcp := HBOX1.out (1 + p) _ (cells_C L p hp8)
      have HCP := Lib.hid hcp
      obtain ⟨F, hF⟩ : ∃ F, F = L.firstOf p := ⟨_, rfl⟩
      rw [← hF] at HF1 HFE
      have HFF := Lib.hid hF
      clear hF
      have hnf0 : 0 ≤ F := by have := HF1.out; have := HGC.out.1; omega
      by_cases hr : frm < F ∨ L.C p < frm
      · have HF := Lib.hid (show L.fetchOf p frm m = ([], 0, 8) by rw [HFE.out, if_pos hr])
        have hways : decide (frm < F) = true ∨ (decide (frm < F) = false ∧ decide (L.C p < frm) = true) := by
          simp only [decide_eq_true_eq, decide_eq_false_iff_not]
          omega
        clear hr
        rcases hways with d4 | ⟨d4, d5⟩
        all_goals
          gi_wp2_with fail
          refine region_mi [(0, false), (1, false), (2, false), (3, true), (4, false), (5, false), (6, false), (7, false), (8, false), (9, false), (10, false), (11, false), (12, false)] 13 (fun V => V.cell? ⟨w.heap.size + 1, 0, none⟩ = some (.int .i64 p) ∧ V.cell? ⟨w.heap.size + 2, 0, none⟩ = some (.int .i64 frm) ∧ V.rangeAt w.heap.size 0 L.cells ∧ V.cell? ⟨w.heap.size, 1 + p, none⟩ = some (.int .i64 (L.C p))) (by kernel_rfl) (by kernel_rfl) ⟨HIN1.out.1, HIN1.out.2.1, HBOX1.out.range, HCP.out⟩ ?_
          iterate 1
            first
            | (refine m_take (v := ?_) rfl rfl ?_ ?_
               rotate_left
               · intro W hW
                 go_simp
                 with_reducible rfl
               simp only [Act.put, List.setIfInBounds_toArray, List.set_cons_zero, List.set_cons_succ])
            | (refine m_skip rfl rfl ?_
               simp only [Act.put, List.setIfInBounds_toArray, List.set_cons_zero, List.set_cons_succ])
          refine m_loadk rfl rfl rfl rfl (fun W hW => hW.2.2.1) Try.underlying30 rfl (by show _ = some 16; kernel_rfl) ?_
          simp only [Act.put, List.setIfInBounds_toArray, List.set_cons_zero, List.set_cons_succ]
          iterate 1
            first
            | (refine m_take (v := ?_) rfl rfl ?_ ?_
               rotate_left
               · intro W hW
                 go_simp
                 with_reducible rfl
               simp only [Act.put, List.setIfInBounds_toArray, List.set_cons_zero, List.set_cons_succ])
            | (refine m_skip rfl rfl ?_
               simp only [Act.put, List.setIfInBounds_toArray, List.set_cons_zero, List.set_cons_succ])
          refine m_loud rfl (fun K hK => ?_)
          have HK := Lib.hid hK
          clear hK
          go_simp
          have hdr := (Below.refl w1.heap.size w1).drew
          refine (first_calls L p _ (HL.out.below (below_go HB1.out hdr) (Nat.le_refl _)) HOK.out HSM.out).mono ?_
          rintro e w2 ⟨rfl, hb2⟩
          have hb2 := hdr.trans hb2
          rw [← HFF.out]
          have HB2 := Lib.hid (below_go HB1.out hb2)
          have HD2 := Lib.hid hb2
          refine HK.out _ _ ⟨cell_later HD2.out HIN1.out.1, cell_later HD2.out HIN1.out.2.1, (HBOX1.out.later HD2.out).range, cell_later HD2.out HCP.out⟩ ?_
          clear HK
          clear hb2
          iterate 9
            first
            | (refine m_take (v := ?_) rfl rfl ?_ ?_
               rotate_left
               · intro W hW
                 go_simp
                 with_reducible rfl
               simp only [Act.put, List.setIfInBounds_toArray, List.set_cons_zero, List.set_cons_succ])
            | (refine m_skip rfl rfl ?_
               simp only [Act.put, List.setIfInBounds_toArray, List.set_cons_zero, List.set_cons_succ])
          refine m_done ?_
          simp only [List.drop_succ_cons, List.drop_zero]
          go_wp2_with fail
          simp only [NP]
          gi_wp2_with fail
          refine ⟨.tuple #[.slice none 0 0, .int .i64 0, .int .i64 8], ?_, .slice none 0 0, by rw [HF.out], by rw [HF.out]; exact World.ownsRow_nil _ _ _ _, HB2.out⟩
          simp [results, Try.results23, go_sem]
      · have d4 : decide (frm < F) = false := decide_eq_false (by omega)
        have d5 : decide (L.C p < frm) = false := decide_eq_false (by omega)
        obtain ⟨d, hd⟩ : ∃ d, d = (frm - F).toNat := ⟨_, rfl⟩
        have hfd : frm = F + d := by omega
        rw [if_neg hr, ← hd] at HFE
        have HFD := Lib.hid hfd
        clear hr hd hfd
        gi_wp2_with fail
        refine region_mi [(0, false), (1, false), (2, false), (3, true), (4, false), (5, false), (6, false), (7, false), (8, false), (9, false), (10, false), (11, false), (12, false)] 13 (fun V => V.cell? ⟨w.heap.size + 1, 0, none⟩ = some (.int .i64 p) ∧ V.cell? ⟨w.heap.size + 2, 0, none⟩ = some (.int .i64 frm) ∧ V.rangeAt w.heap.size 0 L.cells ∧ V.cell? ⟨w.heap.size, 1 + p, none⟩ = some (.int .i64 (L.C p))) (by kernel_rfl) (by kernel_rfl) ⟨HIN1.out.1, HIN1.out.2.1, HBOX1.out.range, HCP.out⟩ ?_
        iterate 1
          first
          | (refine m_take (v := ?_) rfl rfl ?_ ?_
             rotate_left
             · intro W hW
               go_simp
               with_reducible rfl
             simp only [Act.put, List.setIfInBounds_toArray, List.set_cons_zero, List.set_cons_succ])
          | (refine m_skip rfl rfl ?_
             simp only [Act.put, List.setIfInBounds_toArray, List.set_cons_zero, List.set_cons_succ])
        refine m_loadk rfl rfl rfl rfl (fun W hW => hW.2.2.1) Try.underlying30 rfl (by show _ = some 16; kernel_rfl) ?_
        simp only [Act.put, List.setIfInBounds_toArray, List.set_cons_zero, List.set_cons_succ]
        iterate 1
          first
          | (refine m_take (v := ?_) rfl rfl ?_ ?_
             rotate_left
             · intro W hW
               go_simp
               with_reducible rfl
             simp only [Act.put, List.setIfInBounds_toArray, List.set_cons_zero, List.set_cons_succ])
          | (refine m_skip rfl rfl ?_
             simp only [Act.put, List.setIfInBounds_toArray, List.set_cons_zero, List.set_cons_succ])
        refine m_loud rfl (fun K hK => ?_)
        have HK := Lib.hid hK
        clear hK
        go_simp
        have hdr := (Below.refl w1.heap.size w1).drew
        refine (first_calls L p _ (HL.out.below (below_go HB1.out hdr) (Nat.le_refl _)) HOK.out HSM.out).mono ?_
        rintro e w2 ⟨rfl, hb2⟩
        have hb2 := hdr.trans hb2
        rw [← HFF.out]
        have HB2 := Lib.hid (below_go HB1.out hb2)
        have HD2 := Lib.hid hb2
        refine HK.out _ _ ⟨cell_later HD2.out HIN1.out.1, cell_later HD2.out HIN1.out.2.1, (HBOX1.out.later HD2.out).range, cell_later HD2.out HCP.out⟩ ?_
        clear HK
        clear hb2 hdr
        iterate 9
          first
          | (refine m_take (v := ?_) rfl rfl ?_ ?_
             rotate_left
             · intro W hW
               go_simp
               with_reducible rfl
             simp only [Act.put, List.setIfInBounds_toArray, List.set_cons_zero, List.set_cons_succ])
          | (refine m_skip rfl rfl ?_
             simp only [Act.put, List.setIfInBounds_toArray, List.set_cons_zero, List.set_cons_succ])
        refine m_done ?_
        simp only [List.drop_succ_cons, List.drop_zero]
        go_wp2_with fail
        simp only [NP]
        obtain ⟨V1, hV1⟩ : ∃ V1, V1 = w2.alloc (.cells #[.slice none 0 0] 24) := ⟨_, rfl⟩
        have hbV : Below w2.heap.size w2 V1 := by rw [hV1]; exact below_alloc _ _
        have hVs : V1.heap.size = w2.heap.size + 1 := by rw [hV1]; simp
        have hv0 : V1.cell? ⟨w2.heap.size, 0, none⟩ = some (.slice none 0 0) := by rw [hV1]; exact box_self 0 _ rfl
        have hvf : V1.frozen? ⟨w2.heap.size, 0, none⟩ = false := by rw [hV1, World.frozen?_alloc_at _ _ _ _ rfl]
        have HBOX2 := Lib.hid (HBOX1.out.later HD2.out)
        have hlt1 : w.heap.size + 3 < w2.heap.size := by have h : w.heap.size + 3 < w1.heap.size := World.block_lt_of_cell? _ _ HIN1.out.2.2; have := HD2.out.size; omega
        have hlt10 : w.heap.size < w2.heap.size := by omega
        have hlt11 : w.heap.size + 1 < w2.heap.size := by omega
        have c0 := HBOX2.out 0 _ rfl
        have c1 := HBOX2.out 1 _ rfl
        have c2 := HBOX2.out 2 _ rfl
        have c3 := HBOX2.out 3 _ rfl
        have c4 := HBOX2.out 4 _ rfl
        have c5 := HBOX2.out 5 _ rfl
        have c6 := HBOX2.out 6 _ rfl
        have c7 := HBOX2.out 7 _ rfl
        have c8 := HBOX2.out 8 _ rfl
        have c9 := HBOX2.out 9 _ rfl
        have c10 := HBOX2.out 10 _ rfl
        have c11 := HBOX2.out 11 _ rfl
        have c12 := HBOX2.out 12 _ rfl
        have c13 := HBOX2.out 13 _ rfl
        have c14 := HBOX2.out 14 _ rfl
        have c15 := HBOX2.out 15 _ rfl
        have h2q := cell_later HD2.out HIN1.out.1
        have HV1 := Lib.hid hV1
        have HBV := Lib.hid hbV
        have HVS := Lib.hid hVs
        have HV0 := Lib.hid (And.intro hv0 hvf)
        clear hV1 hbV hVs hv0 hvf h1q h1f h1m hcp
        gi_wp2_with fail
        rw [← HV1.out]
        refine (callsIn_wide.2 (first_calls L p V1 (HL.out.below (below_go HB2.out HBV.out) (Nat.le_refl _)) HOK.out HSM.out)).mono ?_
        rintro e w3 ⟨rfl, hb3⟩
        rw [← HFF.out]
        have HD3 := Lib.hid (below_go HBV.out hb3)
        have HB3 := Lib.hid (below_go HB2.out HD3.out)
        have HV3 := Lib.hid (And.intro (cell_later hb3 HV0.out.1) (frozen_later hb3 HV0.out.1 HV0.out.2))
        have HW3 := Lib.hid hb3.size
        clear hb3 c0 c1 c2 c3 c4 c5 c6 c7 c8 c9 c10 c11 c12 c13 c14 c15 h2q hlt10 hlt11
        obtain ⟨Z, hZ⟩ : ∃ Z, Z = w3.alloc (.cells #[.int .i64 F] 3) := ⟨_, rfl⟩
        have hbZ : Below w3.heap.size w3 Z := by rw [hZ]; exact below_alloc _ _
        have hZs : Z.heap.size = w3.heap.size + 1 := by rw [hZ]; simp
        have hz0 : Z.cell? ⟨w3.heap.size, 0, none⟩ = some (.int .i64 F) := by rw [hZ]; exact box_self 0 _ rfl
        have hzf : Z.frozen? ⟨w3.heap.size, 0, none⟩ = false := by rw [hZ, World.frozen?_alloc_at _ _ _ _ rfl]
        have HRECS := Lib.hid (records_calls L Z)
        have HBYX := Lib.hid (boxL_self Z L 30)
        have HBOX3 := Lib.hid (HBOX2.out.later HD3.out)
        have hlt3 : w.heap.size + 3 < w3.heap.size := by have := HD3.out.size; omega
        have hlt30 : w.heap.size < w3.heap.size := by omega
        have c0 := HBOX3.out 0 _ rfl
        have c1 := HBOX3.out 1 _ rfl
        have c2 := HBOX3.out 2 _ rfl
        have c3 := HBOX3.out 3 _ rfl
        have c4 := HBOX3.out 4 _ rfl
        have c5 := HBOX3.out 5 _ rfl
        have c6 := HBOX3.out 6 _ rfl
        have c7 := HBOX3.out 7 _ rfl
        have c8 := HBOX3.out 8 _ rfl
        have c9 := HBOX3.out 9 _ rfl
        have c10 := HBOX3.out 10 _ rfl
        have c11 := HBOX3.out 11 _ rfl
        have c12 := HBOX3.out 12 _ rfl
        have c13 := HBOX3.out 13 _ rfl
        have c14 := HBOX3.out 14 _ rfl
        have c15 := HBOX3.out 15 _ rfl
        have HZ := Lib.hid hZ
        have HBZ := Lib.hid hbZ
        have HZS := Lib.hid hZs
        have HZ0 := Lib.hid (And.intro hz0 hzf)
        clear hZ hbZ hZs hz0 hzf
        gi_wp2_with fail
        rw [← HZ.out]
        refine HRECS.out.mono ?_
        rintro e w4 ⟨rfl, rfl⟩
        obtain ⟨Y, hY⟩ : ∃ Y, Y = Z.alloc (.cells L.cells.toArray 30) := ⟨_, rfl⟩
        rw [← hY] at HBYX ⊢
        have HBY := Lib.hid (show Below Z.heap.size Z Y from by rw [hY]; exact below_alloc _ _)
        have HD4 := Lib.hid (below_go HBZ.out HBY.out)
        have HB4 := Lib.hid (below_go HB3.out HD4.out)
        have HYS := Lib.hid (show Y.heap.size = w3.heap.size + 2 by rw [hY]; simp; have := HZS.out; omega)
        have HIN4 := Lib.hid (And.intro (cell_later (below_go HD3.out HD4.out) (cell_later HD2.out HIN1.out.1)) (And.intro (cell_later (below_go HD3.out HD4.out) (cell_later HD2.out HIN1.out.2.1)) (cell_later (below_go HD3.out HD4.out) (cell_later HD2.out HIN1.out.2.2))))
        have HR0 := Lib.hid (show FRel Y Y w2.heap.size w3.heap.size p F d m L.all 0 (.slice none 0 0) from
          ⟨Only.refl _ _, Nat.zero_le _, cell_later HD4.out HV3.out.1, frozen_later HD4.out HV3.out.1 HV3.out.2, by rw [List.take_zero, have_zero]; simpa using cell_later HBY.out HZ0.out.1, frozen_later HBY.out HZ0.out.1 HZ0.out.2, by rw [outAt_zero]; exact World.ownsRow_nil _ _ _ _, by rw [outAt_zero]; exact Nat.zero_le _⟩)
        have HLT := Lib.hid hlt1
        have HLT3 := Lib.hid (show w2.heap.size < w3.heap.size by have := HW3.out; have := HVS.out; omega)
        clear hY c0 c1 c2 c3 c4 c5 c6 c7 c8 c9 c10 c11 c12 c13 c14 c15 hlt1 hlt3 hlt30
        gi_wp2_with fail
        refine range_w (gf := 71) (lb := #[.pointer (some ⟨Z.heap.size, 0, none⟩)]) rfl (fun args w => enter_of Try.func71 (by kernel_rfl) rfl args w)
          (fun k W => ∃ v, FRel Y W w2.heap.size w3.heap.size p F d m L.all k v)
          (fun c W => c = .exit 1 ∧ ∃ k v, FRel Y W w2.heap.size w3.heap.size p F d m L.all k v ∧ (outAt L.all p d k).length = m) (RStep L) (fun k => k = L.all.length) 0
          (fun s W W' hc h => by obtain ⟨v, h⟩ := h; exact ⟨v, h.calm hc⟩) (fun c W W' hc h => by obtain ⟨h0, k, v, h, h1⟩ := h; exact ⟨h0, k, v, h.calm hc, h1⟩) ⟨_, HR0.out⟩ ?iter ?body ?done ?stop
        case iter =>
          intro l J' Jx' W hm _ hJJ hc hJ0 hy
          refine records1_iter L Z.heap.size l J' Jx' W HSM.out hm (fun s W h => ?_) hy hJ0
          obtain ⟨v, h⟩ := hJJ s W h
          have ho := h.only
          have h3 := ho.below (B := w2.heap.size) (by have := HYS.out; have := HLT3.out; omega) (fun j hj e => by have := HLT3.out; omega)
          exact ⟨HL.out.below (HB4.out.trans (h3.mono (by have := HLT.out; have := HB2.out.size; omega))) (Nat.le_refl _), fun j v hj => ho.cell (by have := HZS.out; have := HLT3.out; omega) (HBYX.out j v hj)⟩
        case body =>
          intro l k args s' W hr hst hsz
          obtain ⟨hlt, rfl, rfl⟩ := hst
          obtain ⟨v, hr⟩ := hr
          have HLTK := Lib.hid hlt
          have hle := have_take_le L.all k p
          have hls := have_take_le L.all (k + 1) p
          rw [have_succ L.all k hlt] at hls
          have hall := HSM.out.all
          have hol := outAt_le L.all p d k
          obtain ⟨n, hn⟩ : ∃ n, n = (outAt L.all p d k).length := ⟨_, rfl⟩
          obtain ⟨va, vc, rfl⟩ := own_slice hr.own
          have HR := Lib.hid hr
          have HNN := Lib.hid hn
          rw [← hn] at hol
          clear hr hn
          generalize hRk : L.all[k] = R at *
          obtain ⟨rp, rs, rq, rkey, rval⟩ := R
          have HRR := Lib.hid hRk
          clear hRk
          refine ⟨rfl, ?_⟩
          gi_wp2_with fail
          refine ⟨KeepsOthers.alloc _ _, fun W₂ hc => ?_⟩
          have hc0 : Calm Y.heap.size W W₂ := (Calm.of_below hsz (below_alloc _ _)).trans hc
          have b0 : W₂.cell? ⟨W.heap.size, 0, none⟩ = some (.int .i64 rp) := hc.cell (box_self 0 _ rfl)
          have b1 : W₂.cell? ⟨W.heap.size, 1, none⟩ = some (.int .i64 rs) := hc.cell (box_self 1 _ rfl)
          have b2 : W₂.cell? ⟨W.heap.size, 2, none⟩ = some (.int .i64 rq) := hc.cell (box_self 2 _ rfl)
          have b3 : W₂.cell? ⟨W.heap.size, 3, none⟩ = some (.string rkey) := hc.cell (box_self 3 _ rfl)
          have b4 : W₂.cell? ⟨W.heap.size, 4, none⟩ = some (.int .u32 rval) := hc.cell (box_self 4 _ rfl)
          have hr2 := HR.out.calm hc0
          rw [← HNN.out] at hr2
          have HR2 := Lib.hid hr2
          clear hc hc0 hr2
          have ho2 := HR2.out.only
          have hbo : w2.heap.size < Y.heap.size := by have := HYS.out; have := HLT3.out; omega
          have hba : w3.heap.size < Y.heap.size := by have := HYS.out; omega
          have hne : w2.heap.size ≠ w3.heap.size := by have := HLT3.out; omega
          have e1 := ho2.cell (by have := HLT.out; have := HLT3.out; omega) HIN4.out.1
          have e2 := ho2.cell (by have := HLT.out; have := HLT3.out; omega) HIN4.out.2.1
          have e3 := ho2.cell (by have := HLT.out; have := HLT3.out; omega) HIN4.out.2.2
          have co := HR2.out.co
          have fo := HR2.out.fo
          have ca := HR2.out.ca
          have fa := HR2.out.fa
          have HNE := Lib.hid (And.intro hbo (And.intro hba hne))
          clear ho2 hbo hba hne
          by_cases hnm : n = m
          · have x1 : ((n : Int) == (m : Int)) = true := beq_iff_eq.2 (by omega)
            have x2 : (n == m) = true := beq_iff_eq.2 hnm
            have HNM := Lib.hid hnm
            clear hnm
            gi_wp2_with fail
            exact ⟨KeepsOthers.refl _, rfl, k, ⟨_, HR2.out⟩, by rw [← HNN.out]; exact HNM.out⟩
          · have x1 : ((n : Int) == (m : Int)) = false := beq_eq_false_iff_ne.2 (by omega)
            have x2 : (n == m) = false := beq_eq_false_iff_ne.2 hnm
            have HNM := Lib.hid hnm
            clear hnm
            by_cases hqq : rq = p
            · have y1 : (rq == (p : Int)) = true := beq_iff_eq.2 hqq
              have HYQ := Lib.hid (show Rec.q ⟨rp, rs, rq, rkey, rval⟩ = p from hqq)
              have HQ := Lib.hid (show L.all[k].q = p from by rw [HRR.out]; exact hqq)
              rw [if_pos hqq] at hls
              clear hqq
              obtain ⟨h, hh⟩ : ∃ h, h = have_ (L.all.take k) p := ⟨_, rfl⟩
              have HH := Lib.hid hh
              rw [← hh] at ca hls
              have hwr : IntKind.i64.wrap (F + (h : Int) + 1) = F + (h : Int) + 1 := by rw [IntKind.wrap_i64]; have := HF1.out; have := HGC.out; omega
              by_cases hge : d ≤ h
              · have z1 : decide (frm ≤ F + (h : Int)) = true := decide_eq_true (by have := HFD.out; omega)
                have HGE := Lib.hid hge
                have hlit := Rd.lit (w := W₂) (cs := #[.int .i64 rp, .int .i64 rs, .int .i64 rq, .string rkey, .int .u32 rval]) (e := 33) (n := 1) (sz := 5) rfl (by omega)
                have HLIT := Lib.hid hlit
                have HOA := Lib.hid (HR2.out.own.alloc (.cells #[.int .i64 rp, .int .i64 rs, .int .i64 rq, .string rkey, .int .u32 rval] 33))
                rw [← HNN.out] at HOA
                have hbs := HR2.out.only.size
                have hn2 : n + 1 ≤ 2000000 := by have := HNN.out; omega
                have HPUSH := Lib.hid (fun (w8 : World) (v' : Value) => FRel.push' (w8 := w8) (v' := v') HR2.out HLTK.out HRR.out HYQ.out HH.out HNN.out HGE.out (by have := HNM.out; have h2 := HR2.out.len; have := HNN.out; omega))
                have hne1 : ¬ (w3.heap.size = w2.heap.size) := fun e => HNE.out.2.2 e.symm
                have hne2 : ¬ (w2.heap.size = w3.heap.size) := HNE.out.2.2
                clear hge hh hlit
                gi_wp2_with (gi_at_builtin; go_loud (refine app_listIn tyRecs HOA.out HLIT.out (recs_one [⟨rp, rs, rq, rkey, rval⟩]) (by omega) (by omega) (by simp; omega) rfl rfl rfl rfl ?_; intro v5 w8 hm5 hb5 hn5; obtain ⟨va5, vc5, rfl⟩ := own_slice hm5; have HEND := Lib.hid (HPUSH.out w8 (.slice va5 (n + 1) vc5) _ hm5 hb5 HNE.out.1 HNE.out.2.1 HNE.out.2.2); clear hm5 hb5 hn5 co fo ca fa; have co := HEND.out.1.1; have fo := HEND.out.1.2.1; have ca := HEND.out.1.2.2.1; have fa := HEND.out.1.2.2.2))
                exact ⟨HEND.out.2.2, _, HEND.out.2.1⟩
              · have z1 : decide (frm ≤ F + (h : Int)) = false := decide_eq_false (by have := HFD.out; omega)
                have HGE := Lib.hid hge
                clear hge hh
                gi_wp2_with fail
                have hsk := HR2.out.skip HLTK.out HQ.out (by have h1 := HGE.out; rw [HH.out] at h1; omega) HNE.out.2.1 HNE.out.2.2
                rw [← HH.out] at hsk
                exact ⟨KeepsOthers.setCell _ _ _, _, hsk⟩
            · have y1 : (rq == (p : Int)) = false := beq_eq_false_iff_ne.2 hqq
              have HQ := Lib.hid (show L.all[k].q ≠ p from by rw [HRR.out]; exact hqq)
              clear hqq
              gi_wp2_with fail
              exact ⟨KeepsOthers.refl _, _, HR2.out.miss HLTK.out HQ.out⟩
        case done =>
          intro D k W hD hs hr hK
          subst hs
          obtain ⟨v, hr⟩ := hr
          have HOUT := Lib.hid (outAt_end L.all p d m hr.len)
          have HR := Lib.hid hr
          have hol := outAt_le L.all p d L.all.length
          have hall := HSM.out.all
          obtain ⟨n, hn⟩ : ∃ n, n = (outAt L.all p d L.all.length).length := ⟨_, rfl⟩
          obtain ⟨va, vc, rfl⟩ := own_slice hr.own
          have HNN := Lib.hid hn
          rw [← hn] at hol
          have ho := hr.only
          have hbB := Lib.hid (ho.below (B := w2.heap.size) (by have := HYS.out; have := HLT3.out; omega) (fun j hj e => by have := HLT3.out; omega))
          have e2 := ho.cell (by have := HLT.out; have := HLT3.out; omega) HIN4.out.2.1
          have co := hr.co
          rw [← hn] at co
          have HKD := Lib.hid hK
          have hfrB := HFR.out
          unfold I64 at hfrB
          have hcb := HGC.out.2
          have hlenb : (n : Int) ≤ have_ L.all p := by
            have h1 : ((ofPart L.all p).drop d).length ≤ (ofPart L.all p).length := by rw [List.length_drop]; omega
            have h2 : (outAt L.all p d L.all.length).length = ((ofPart L.all p).drop d).length := by unfold outAt; rw [List.take_length]
            unfold have_
            omega
          have hsum : frm + (n : Int) ≤ L.C p := by
            have h2 : (outAt L.all p d L.all.length).length = (ofPart L.all p).length - d := by unfold outAt; rw [List.take_length, List.length_drop]
            have h3 : d ≤ (ofPart L.all p).length := by have := HF1.out; have := HFD.out; unfold have_ at *; have := of_decide_eq_false d5; omega
            have := HF1.out
            have := HFD.out
            unfold have_ at *
            omega
          have hwr : IntKind.i64.wrap (frm + (n : Int)) = frm + n := by rw [IntKind.wrap_i64]; omega
          clear ho hr hK hn hsum hcb hfrB hlenb
          gi_wp2_with fail
          refine region_mi [(0, false), (1, false), (2, false), (3, false), (4, false), (5, false)] 6 (fun V => V.cell? ⟨w2.heap.size, 0, none⟩ = some (.slice va n vc) ∧ V.cell? ⟨w.heap.size + 2, 0, none⟩ = some (.int .i64 frm)) (by kernel_rfl) (by kernel_rfl) ⟨co, e2⟩ ?_
          iterate 6
            first
            | (refine m_take (v := ?_) rfl rfl ?_ ?_
               rotate_left
               · intro W hW
                 go_simp
                 with_reducible rfl
               simp only [Act.put, List.setIfInBounds_toArray, List.set_cons_zero, List.set_cons_succ])
            | (refine m_skip rfl rfl ?_
               simp only [Act.put, List.setIfInBounds_toArray, List.set_cons_zero, List.set_cons_succ])
          refine m_done ?_
          simp only [List.drop_succ_cons, List.drop_zero]
          go_wp2_with fail
          simp only [NP]
          gi_wp2_with fail
          refine ⟨by simp, .inl ⟨_, _, rfl, run_takeDeferred HKD.out, ?_⟩⟩
          have hcal := Calm.putObj (W := W.drew) (B := w.heap.size) (.deferred none) (by have := HYS.out; have := HLT3.out; have := HLT.out; omega) HKD.out rfl
          refine ⟨.tuple #[.slice va n vc, .int .i64 (frm + n), .int .i64 0], ?_, .slice va n vc, ?_, ?_, ?_⟩
          · simp [results, Try.results23, go_sem]
          · rw [HFE.out, HOUT.out, ← HNN.out]
          · rw [HFE.out, HOUT.out]
            have ho := ownsRow_calm (w := W.drew) HR.out.own hcal
            rw [← HNN.out] at ho ⊢
            exact ownsRow_mono ho (by have := HYS.out; have := HLT3.out; have := HLT.out; omega)
          · exact (HB4.out.trans (hbB.out.mono (by have := HLT.out; omega))).drew.trans hcal.below
        case stop =>
          intro D c W hD hr hK
          obtain ⟨rfl, k, v, hr, hkm⟩ := hr
          have HOUT := Lib.hid (outAt_full L.all p d k m hkm)
          have HR := Lib.hid hr
          have hol := outAt_le L.all p d k
          have hall := HSM.out.all
          obtain ⟨n, hn⟩ : ∃ n, n = (outAt L.all p d k).length := ⟨_, rfl⟩
          obtain ⟨va, vc, rfl⟩ := own_slice hr.own
          have HNN := Lib.hid hn
          rw [← hn] at hol
          have ho := hr.only
          have hbB := Lib.hid (ho.below (B := w2.heap.size) (by have := HYS.out; have := HLT3.out; omega) (fun j hj e => by have := HLT3.out; omega))
          have e2 := ho.cell (by have := HLT.out; have := HLT3.out; omega) HIN4.out.2.1
          have co := hr.co
          rw [← hn] at co
          have HKD := Lib.hid hK
          have hfrB := HFR.out
          unfold I64 at hfrB
          have hcb := HGC.out.2
          have hlenb : (n : Int) ≤ have_ L.all p := by
            have h1 : ((ofPart L.all p).drop d).length ≤ (ofPart L.all p).length := by rw [List.length_drop]; omega
            obtain ⟨t, ht⟩ := outAt_pre L.all p d k
            have h2 := congrArg List.length ht
            rw [List.length_append] at h2
            unfold have_
            omega
          have hsum : frm + (n : Int) ≤ L.C p := by
            obtain ⟨t, ht⟩ := outAt_pre L.all p d k
            have h2 := congrArg List.length ht
            rw [List.length_append, List.length_drop] at h2
            have h3 : d ≤ (ofPart L.all p).length := by have := HF1.out; have := HFD.out; unfold have_ at *; have := of_decide_eq_false d5; omega
            have := HF1.out
            have := HFD.out
            unfold have_ at *
            omega
          have hwr : IntKind.i64.wrap (frm + (n : Int)) = frm + n := by rw [IntKind.wrap_i64]; omega
          clear ho hr hK hn hsum hcb hfrB hlenb
          gi_wp2_with fail
          refine region_mi [(0, false), (1, false), (2, false), (3, false), (4, false), (5, false)] 6 (fun V => V.cell? ⟨w2.heap.size, 0, none⟩ = some (.slice va n vc) ∧ V.cell? ⟨w.heap.size + 2, 0, none⟩ = some (.int .i64 frm)) (by kernel_rfl) (by kernel_rfl) ⟨co, e2⟩ ?_
          iterate 6
            first
            | (refine m_take (v := ?_) rfl rfl ?_ ?_
               rotate_left
               · intro W hW
                 go_simp
                 with_reducible rfl
               simp only [Act.put, List.setIfInBounds_toArray, List.set_cons_zero, List.set_cons_succ])
            | (refine m_skip rfl rfl ?_
               simp only [Act.put, List.setIfInBounds_toArray, List.set_cons_zero, List.set_cons_succ])
          refine m_done ?_
          simp only [List.drop_succ_cons, List.drop_zero]
          go_wp2_with fail
          simp only [NP]
          gi_wp2_with fail
          refine ⟨by simp, .inl ⟨_, _, rfl, run_takeDeferred HKD.out, ?_⟩⟩
          have hcal := Calm.putObj (W := W.drew) (B := w.heap.size) (.deferred none) (by have := HYS.out; have := HLT3.out; have := HLT.out; omega) HKD.out rfl
          refine ⟨.tuple #[.slice va n vc, .int .i64 (frm + n), .int .i64 0], ?_, .slice va n vc, ?_, ?_, ?_⟩
          · simp [results, Try.results23, go_sem]
          · rw [HFE.out, HOUT.out, ← HNN.out]
          · rw [HFE.out, HOUT.out]
            have ho := ownsRow_calm (w := W.drew) HR.out.own hcal
            rw [← HNN.out] at ho ⊢
            exact ownsRow_mono ho (by have := HYS.out; have := HLT3.out; have := HLT.out; omega)
          · exact (HB4.out.trans (hbB.out.mono (by have := HLT.out; omega))).drew.trans hcal.below
end Go.Proofs.Ytkabfjbmofpkdaa

/- Layer 14: PartsApplies walked. -/
namespace Go.Proofs.Ytkabfjbmofpkdaa
open Go.RowKit Go.Shelf
set_option maxRecDepth 100000

theorem range_later {w w' : World} {b : Nat} {cs : List Value} (hb : Below w.heap.size w w') (h : w.rangeAt b 0 cs) : w'.rangeAt b 0 cs := fun j v hj => cell_later hb (h j v hj)
theorem rd_one {w : World} {sz n : Nat} {v : Value} {cs : List Value} (h : Rd w sz v n cs) : v.oneCell' = true := by
  obtain ⟨a, c, rfl, -⟩ := Rd.slice h
  rfl

set_option maxHeartbeats 4000000 in
theorem applies_core (L : Led) (E : Ent) (w : World) (hL : LedR w L) (hok : L.Ok) (hsz : L.Sz 1048576) (hG : OpsR w E.gv E.os) (hek : E.Ok) (hes : E.Small) :
    Calls Try.prog 3 #[.agg L.cells.toArray, .agg E.cells.toArray] w fun e w' => e = .returned (.bool true) ∧ Below w.heap.size w w' := by
  obtain ⟨X, hX⟩ : ∃ X, X = (w.alloc (.cells L.cells.toArray 30)).alloc (.cells E.cells.toArray 35) := ⟨_, rfl⟩
  have hbX : Below w.heap.size w X := by rw [hX]; exact below_box (below_alloc _ _) _
  have hBL : BoxL X w.heap.size L := by rw [hX]; exact (boxL_self w L 30).later (below_alloc _ _)
  have hBE : BoxE X (w.heap.size + 1) E := by
    rw [hX]
    have := boxE_self (w.alloc (.cells L.cells.toArray 30)) E 35
    rwa [World.size_alloc] at this
  have HX := Lib.hid hX
  have HBL := Lib.hid hBL
  have HBE := Lib.hid hBE
  have HBX := Lib.hid hbX
  have HL := Lib.hid hL
  have HOK := Lib.hid hok
  have HSM := Lib.hid (hsz.small (by omega))
  have HAOK := Lib.hid (apply_ok L E hok hek)
  have HASM := Lib.hid ((apply_sz L E hsz).small (by omega))
  have HG := Lib.hid hG
  have HEK := Lib.hid hek
  have HES := Lib.hid hes
  have HRL := Lib.hid hBL.range
  have HGA := Lib.hid (good_apply L E)
  clear hX hBL hBE hbX hL hok hsz hG hek hes
  go_enter Try.func3, Try.ntmps3
  go_upto_region 1 with fail
  rw [show (w.alloc (.cells L.cells.toArray 30)).alloc (.cells E.cells.toArray 35) = X from HX.out.symm]
  have e0 := HBE.out 0 _ rfl
  have e1 := HBE.out 1 _ rfl
  have e2 := HBE.out 2 _ rfl
  have e3 := HBE.out 3 _ rfl
  have e4 := HBE.out 4 _ rfl
  have e5 := HBE.out 5 _ rfl
  have e6 := HBE.out 6 _ rfl
  have e7 := HBE.out 7 _ rfl
  go_wp2_with (first | (refine wpList_load_mid rfl 30 _ rfl (w.heap.size) 0 rfl (Led.cells L) _ (by exact HRL.out) Try.underlying30 rfl (by show _ = some 16; kernel_rfl) ?_) | (refine wp_load_mid 30 _ rfl (w.heap.size) 0 rfl (Led.cells L) _ (by exact HRL.out) Try.underlying30 rfl (by show _ = some 16; kernel_rfl) ?_) | (refine list_loadk rfl rfl (b := w.heap.size) (off := 0) rfl (cs := Led.cells L) Try.underlying30 rfl (by show _ = some 16; kernel_rfl) (by exact HRL.out) ?_))
  clear e0 e1 e2 e3 e4 e5 e6 e7
  refine (apply_calls L E X (HL.out.below HBX.out (Nat.le_refl _)) HOK.out HSM.out (HG.out.below HBX.out (Nat.le_refl _)) HEK.out HES.out).mono ?_
  rintro e w1 ⟨M, rfl, hS, hO, hb1⟩
  have HS := Lib.hid hS
  have HO := Lib.hid hO
  have HB1 := Lib.hid (below_go HBX.out hb1)
  have HE1 := Lib.hid (HBE.out.later hb1)
  have HR1 := Lib.hid (range_later hb1 HRL.out)
  have hT := there_new w1
  unfold zero16 at hT
  have HT := Lib.hid hT
  clear hT
  have H1 := Lib.hid (led_all M (own_one hO.rows) (own_one hO.opn) (own_one hO.bats) (own_one hO.ops))
  clear hS hO hb1
  have hbn := box_new w1 M
  unfold zero16 at hbn
  have HBN := Lib.hid hbn
  clear hbn
  go_upto_region 2 with (first | (refine wpList_store_mid rfl 30 _ _ rfl (w1.heap.size) 0 (Led.cells M).toArray rfl rfl (by exact HT.out) (by show _ = some 16; kernel_rfl) H1.out ?_; generalize hWgen : World.setCells _ _ _ _ = W2 at *; clear hWgen) | (refine wp_store_mid 30 _ _ rfl (w1.heap.size) 0 (Led.cells M).toArray rfl rfl (by exact HT.out) (by show _ = some 16; kernel_rfl) H1.out ?_; generalize hWgen : World.setCells _ _ _ _ = W2 at *; clear hWgen))
  have HB2 := Lib.hid (below_go HB1.out HBN.out.2)
  have HE2 := Lib.hid (HE1.out.later HBN.out.2)
  have HR2 := Lib.hid (range_later HBN.out.2 HR1.out)
  have HRM := Lib.hid HBN.out.1.range
  have HM2 := Lib.hid (HO.out.below HBN.out.2).reads
  clear HO HT H1 HB1 HE1 HR1
  have e0 := HE2.out 0 _ rfl
  have e1 := HE2.out 1 _ rfl
  have e2 := HE2.out 2 _ rfl
  have e3 := HE2.out 3 _ rfl
  have e4 := HE2.out 4 _ rfl
  have e5 := HE2.out 5 _ rfl
  have e6 := HE2.out 6 _ rfl
  have e7 := HE2.out 7 _ rfl
  go_wp2_with (first | (refine wpList_load_mid rfl 30 _ rfl (w.heap.size) 0 rfl (Led.cells L) _ (by exact HR2.out) Try.underlying30 rfl (by show _ = some 16; kernel_rfl) ?_) | (refine wp_load_mid 30 _ rfl (w.heap.size) 0 rfl (Led.cells L) _ (by exact HR2.out) Try.underlying30 rfl (by show _ = some 16; kernel_rfl) ?_) | (refine list_loadk rfl rfl (b := w.heap.size) (off := 0) rfl (cs := Led.cells L) Try.underlying30 rfl (by show _ = some 16; kernel_rfl) (by exact HR2.out) ?_))
  clear e0 e1 e2 e3 e4 e5 e6 e7
  refine (rapply_calls L E W2 (HL.out.below HB2.out (Nat.le_refl _)) HOK.out HSM.out (HG.out.below HB2.out (Nat.le_refl _)) HEK.out HES.out).mono ?_
  rintro e w3 ⟨N, rfl, hS3, hR3, hb3⟩
  have HS3 := Lib.hid hS3
  have HN3 := Lib.hid hR3
  have HB3 := Lib.hid (below_go HB2.out hb3)
  have HR3 := Lib.hid (range_later hb3 HR2.out)
  have HRM3 := Lib.hid (range_later hb3 HRM.out)
  have HM3 := Lib.hid (HM2.out.below hb3 (Nat.le_refl _))
  have hT := there_new w3
  unfold zero16 at hT
  have HT := Lib.hid hT
  clear hT
  have H1 := Lib.hid (led_allR hR3)
  clear hS3 hR3 hb3
  have hbn := box_new w3 N
  unfold zero16 at hbn
  have HBN3 := Lib.hid hbn
  clear hbn
  go_upto_region 3 with (first | (refine wpList_store_mid rfl 30 _ _ rfl (w3.heap.size) 0 (Led.cells N).toArray rfl rfl (by exact HT.out) (by show _ = some 16; kernel_rfl) H1.out ?_; generalize hWgen : World.setCells _ _ _ _ = W4 at *; clear hWgen) | (refine wp_store_mid 30 _ _ rfl (w3.heap.size) 0 (Led.cells N).toArray rfl rfl (by exact HT.out) (by show _ = some 16; kernel_rfl) H1.out ?_; generalize hWgen : World.setCells _ _ _ _ = W4 at *; clear hWgen))
  have HB4 := Lib.hid (below_go HB3.out HBN3.out.2)
  have HR4 := Lib.hid (range_later HBN3.out.2 HR3.out)
  have HRM4 := Lib.hid (range_later HBN3.out.2 HRM3.out)
  have HRN4 := Lib.hid HBN3.out.1.range
  have HM4 := Lib.hid (HM3.out.below HBN3.out.2 (Nat.le_refl _))
  have HN4 := Lib.hid (HN3.out.below HBN3.out.2 (Nat.le_refl _))
  have HGM := Lib.hid HS.out.good
  generalize hga : (applyL L E).2.1 = GA at *
  generalize hgc : (applyL L E).2.2 = GC at *
  clear hga hgc HT H1 HN3 HM3 HRM3 HR3 HB3 HE2 HR2 HRM HM2
  by_cases hc : GC = 3
  · have hc1 : (GC == 3) = true := beq_iff_eq.2 hc
    clear hc HGA
    refine region_m [(0, true), (1, false), (2, false), (4, false), (3, true), (5, true), (6, false), (7, false), (8, false), (9, false), (10, false), (11, true), (12, false), (13, false), (14, false), (15, false), (16, false), (17, false), (18, false), (19, false), (20, false), (21, false), (22, false), (23, false), (24, false), (25, false), (26, false), (27, false), (28, true), (29, false), (30, false)] 31 (fun V => V.rangeAt w.heap.size 0 L.cells ∧ V.rangeAt w1.heap.size 0 M.cells ∧ V.rangeAt w3.heap.size 0 N.cells) (by kernel_rfl) (by kernel_rfl) ⟨HR4.out, HRM4.out, HRN4.out⟩ ?_
    refine m_loud rfl (fun K hK => ?_)
    have HK := Lib.hid hK
    clear hK
    go_simp
    refine (known14_calls _).mono ?_
    rintro e w5 ⟨rfl, hb5⟩
    have hb5 : Below W4.heap.size W4 w5 := ((Below.refl W4.heap.size W4).drew).trans hb5
    have HB5 := Lib.hid hb5
    clear hb5
    refine HK.out _ _ ⟨range_later HB5.out HR4.out, range_later HB5.out HRM4.out, range_later HB5.out HRN4.out⟩ ?_
    clear HK
    iterate 1
      first
      | (refine m_take (v := ?_) rfl rfl ?_ ?_
         rotate_left
         · intro W hW
           go_simp
           with_reducible rfl
         simp only [Act.put, List.setIfInBounds_toArray, List.set_cons_zero, List.set_cons_succ])
      | (refine m_skip rfl rfl ?_
         simp only [Act.put, List.setIfInBounds_toArray, List.set_cons_zero, List.set_cons_succ])
    refine m_loadk rfl rfl rfl rfl (fun W hW => hW.1) Try.underlying30 rfl (by show _ = some 16; kernel_rfl) ?_
    refine m_loadk rfl rfl rfl rfl (fun W hW => hW.1) Try.underlying30 rfl (by show _ = some 16; kernel_rfl) ?_
    simp only [Act.put, List.setIfInBounds_toArray, List.set_cons_zero, List.set_cons_succ]
    refine m_loud rfl (fun K hK => ?_)
    have HK := Lib.hid hK
    clear hK
    go_simp
    refine (pGood_calls L w5 (HL.out.below (below_go HB4.out HB5.out) (Nat.le_refl _)) HOK.out HSM.out).mono ?_
    rintro e w6 ⟨rfl, hb6⟩
    have HB6 := Lib.hid (below_go HB5.out hb6)
    clear hb6
    refine HK.out _ _ ⟨range_later HB6.out HR4.out, range_later HB6.out HRM4.out, range_later HB6.out HRN4.out⟩ ?_
    clear HK
    refine m_loud rfl (fun K hK => ?_)
    have HK := Lib.hid hK
    clear hK
    go_simp
    refine (rGood_calls L w6 (HL.out.below (below_go HB4.out HB6.out) (Nat.le_refl _)) HOK.out HSM.out).mono ?_
    rintro e w7 ⟨rfl, hb7⟩
    have HB7 := Lib.hid (below_go HB6.out hb7)
    clear hb7
    refine HK.out _ _ ⟨range_later HB7.out HR4.out, range_later HB7.out HRM4.out, range_later HB7.out HRN4.out⟩ ?_
    clear HK
    generalize L.good = G
    iterate 3
      first
      | (refine m_take (v := ?_) rfl rfl ?_ ?_
         rotate_left
         · intro W hW
           go_simp
           with_reducible rfl
         simp only [Act.put, List.setIfInBounds_toArray, List.set_cons_zero, List.set_cons_succ])
      | (refine m_skip rfl rfl ?_
         simp only [Act.put, List.setIfInBounds_toArray, List.set_cons_zero, List.set_cons_succ])
    refine m_loadk rfl rfl rfl rfl (fun W hW => hW.2.1) Try.underlying30 rfl (by show _ = some 16; kernel_rfl) ?_
    refine m_loadk rfl rfl rfl rfl (fun W hW => hW.2.2) Try.underlying30 rfl (by show _ = some 16; kernel_rfl) ?_
    simp only [Act.put, List.setIfInBounds_toArray, List.set_cons_zero, List.set_cons_succ]
    refine m_loud rfl (fun K hK => ?_)
    have HK := Lib.hid hK
    clear hK
    go_simp
    refine (same14_calls M N w7 (HM4.out.below HB7.out (Nat.le_refl _)) (HN4.out.below HB7.out (Nat.le_refl _)) (HS.out.symm.trans HS3.out)).mono ?_
    rintro e w8 ⟨rfl, hb8⟩
    have HB8 := Lib.hid (below_go HB7.out hb8)
    clear hb8
    refine HK.out _ _ ⟨range_later HB8.out HR4.out, range_later HB8.out HRM4.out, range_later HB8.out HRN4.out⟩ ?_
    clear HK
    iterate 16
      first
      | (refine m_take (v := ?_) rfl rfl ?_ ?_
         rotate_left
         · intro W hW
           go_simp
           with_reducible rfl
         simp only [Act.put, List.setIfInBounds_toArray, List.set_cons_zero, List.set_cons_succ])
      | (refine m_skip rfl rfl ?_
         simp only [Act.put, List.setIfInBounds_toArray, List.set_cons_zero, List.set_cons_succ])
    refine m_loud rfl (fun K hK => ?_)
    have HK := Lib.hid hK
    clear hK
    go_simp
    refine HK.out _ _ ⟨range_later HB8.out HR4.out, range_later HB8.out HRM4.out, range_later HB8.out HRN4.out⟩ ?_
    clear HK
    iterate 2
      first
      | (refine m_take (v := ?_) rfl rfl ?_ ?_
         rotate_left
         · intro W hW
           go_simp
           with_reducible rfl
         simp only [Act.put, List.setIfInBounds_toArray, List.set_cons_zero, List.set_cons_succ])
      | (refine m_skip rfl rfl ?_
         simp only [Act.put, List.setIfInBounds_toArray, List.set_cons_zero, List.set_cons_succ])
    refine m_done ?_
    simp only [List.drop_succ_cons, List.drop_zero]
    go_wp2_with fail
    simp only [NP]
    go_wp2_with fail
    go_ret
    exact ⟨rfl, below_go HB4.out HB8.out⟩
  · have hc1 : (GC == 3) = false := beq_eq_false_iff_ne.2 hc
    have hgm : M.good = true := by rw [HGM.out]; exact HGA.out.resolve_left hc
    have HGM := Lib.hid hgm
    clear hc HGA hgm
    refine region_m [(0, true), (1, false), (2, false), (4, false), (3, true), (5, true), (6, false), (7, false), (8, false), (9, false), (10, false), (11, true), (12, false), (13, false), (14, false), (15, false), (16, false), (17, false), (18, false), (19, false), (20, false), (21, false), (22, false), (23, false), (24, false), (25, false), (26, false), (27, false), (28, true), (29, false), (30, false)] 31 (fun V => V.rangeAt w.heap.size 0 L.cells ∧ V.rangeAt w1.heap.size 0 M.cells ∧ V.rangeAt w3.heap.size 0 N.cells) (by kernel_rfl) (by kernel_rfl) ⟨HR4.out, HRM4.out, HRN4.out⟩ ?_
    refine m_loud rfl (fun K hK => ?_)
    have HK := Lib.hid hK
    clear hK
    go_simp
    refine (known14_calls _).mono ?_
    rintro e w5 ⟨rfl, hb5⟩
    have hb5 : Below W4.heap.size W4 w5 := ((Below.refl W4.heap.size W4).drew).trans hb5
    have HB5 := Lib.hid hb5
    clear hb5
    refine HK.out _ _ ⟨range_later HB5.out HR4.out, range_later HB5.out HRM4.out, range_later HB5.out HRN4.out⟩ ?_
    clear HK
    iterate 1
      first
      | (refine m_take (v := ?_) rfl rfl ?_ ?_
         rotate_left
         · intro W hW
           go_simp
           with_reducible rfl
         simp only [Act.put, List.setIfInBounds_toArray, List.set_cons_zero, List.set_cons_succ])
      | (refine m_skip rfl rfl ?_
         simp only [Act.put, List.setIfInBounds_toArray, List.set_cons_zero, List.set_cons_succ])
    refine m_loadk rfl rfl rfl rfl (fun W hW => hW.1) Try.underlying30 rfl (by show _ = some 16; kernel_rfl) ?_
    refine m_loadk rfl rfl rfl rfl (fun W hW => hW.1) Try.underlying30 rfl (by show _ = some 16; kernel_rfl) ?_
    simp only [Act.put, List.setIfInBounds_toArray, List.set_cons_zero, List.set_cons_succ]
    refine m_loud rfl (fun K hK => ?_)
    have HK := Lib.hid hK
    clear hK
    go_simp
    refine (pGood_calls L w5 (HL.out.below (below_go HB4.out HB5.out) (Nat.le_refl _)) HOK.out HSM.out).mono ?_
    rintro e w6 ⟨rfl, hb6⟩
    have HB6 := Lib.hid (below_go HB5.out hb6)
    clear hb6
    refine HK.out _ _ ⟨range_later HB6.out HR4.out, range_later HB6.out HRM4.out, range_later HB6.out HRN4.out⟩ ?_
    clear HK
    refine m_loud rfl (fun K hK => ?_)
    have HK := Lib.hid hK
    clear hK
    go_simp
    refine (rGood_calls L w6 (HL.out.below (below_go HB4.out HB6.out) (Nat.le_refl _)) HOK.out HSM.out).mono ?_
    rintro e w7 ⟨rfl, hb7⟩
    have HB7 := Lib.hid (below_go HB6.out hb7)
    clear hb7
    refine HK.out _ _ ⟨range_later HB7.out HR4.out, range_later HB7.out HRM4.out, range_later HB7.out HRN4.out⟩ ?_
    clear HK
    generalize L.good = G
    iterate 3
      first
      | (refine m_take (v := ?_) rfl rfl ?_ ?_
         rotate_left
         · intro W hW
           go_simp
           with_reducible rfl
         simp only [Act.put, List.setIfInBounds_toArray, List.set_cons_zero, List.set_cons_succ])
      | (refine m_skip rfl rfl ?_
         simp only [Act.put, List.setIfInBounds_toArray, List.set_cons_zero, List.set_cons_succ])
    refine m_loadk rfl rfl rfl rfl (fun W hW => hW.2.1) Try.underlying30 rfl (by show _ = some 16; kernel_rfl) ?_
    refine m_loadk rfl rfl rfl rfl (fun W hW => hW.2.2) Try.underlying30 rfl (by show _ = some 16; kernel_rfl) ?_
    simp only [Act.put, List.setIfInBounds_toArray, List.set_cons_zero, List.set_cons_succ]
    refine m_loud rfl (fun K hK => ?_)
    have HK := Lib.hid hK
    clear hK
    go_simp
    refine (same14_calls M N w7 (HM4.out.below HB7.out (Nat.le_refl _)) (HN4.out.below HB7.out (Nat.le_refl _)) (HS.out.symm.trans HS3.out)).mono ?_
    rintro e w8 ⟨rfl, hb8⟩
    have HB8 := Lib.hid (below_go HB7.out hb8)
    clear hb8
    refine HK.out _ _ ⟨range_later HB8.out HR4.out, range_later HB8.out HRM4.out, range_later HB8.out HRN4.out⟩ ?_
    clear HK
    iterate 15
      first
      | (refine m_take (v := ?_) rfl rfl ?_ ?_
         rotate_left
         · intro W hW
           go_simp
           with_reducible rfl
         simp only [Act.put, List.setIfInBounds_toArray, List.set_cons_zero, List.set_cons_succ])
      | (refine m_skip rfl rfl ?_
         simp only [Act.put, List.setIfInBounds_toArray, List.set_cons_zero, List.set_cons_succ])
    refine m_loadk rfl rfl rfl rfl (fun W hW => hW.2.1) Try.underlying30 rfl (by show _ = some 16; kernel_rfl) ?_
    simp only [Act.put, List.setIfInBounds_toArray, List.set_cons_zero, List.set_cons_succ]
    refine m_loud rfl (fun K hK => ?_)
    have HK := Lib.hid hK
    clear hK
    go_simp
    refine (pGood_calls M w8 (HM4.out.below HB8.out (Nat.le_refl _)) (HS.out.ok HAOK.out) (HS.out.small HASM.out)).mono ?_
    rintro e w9 ⟨rfl, hb9⟩
    have HB9 := Lib.hid (below_go HB8.out hb9)
    clear hb9
    rw [HGM.out]
    refine HK.out _ _ ⟨range_later HB9.out HR4.out, range_later HB9.out HRM4.out, range_later HB9.out HRN4.out⟩ ?_
    clear HK
    iterate 2
      first
      | (refine m_take (v := ?_) rfl rfl ?_ ?_
         rotate_left
         · intro W hW
           go_simp
           with_reducible rfl
         simp only [Act.put, List.setIfInBounds_toArray, List.set_cons_zero, List.set_cons_succ])
      | (refine m_skip rfl rfl ?_
         simp only [Act.put, List.setIfInBounds_toArray, List.set_cons_zero, List.set_cons_succ])
    refine m_done ?_
    simp only [List.drop_succ_cons, List.drop_zero]
    go_wp2_with fail
    simp only [NP]
    go_wp2_with fail
    go_ret
    exact ⟨rfl, below_go HB4.out HB9.out⟩
end Go.Proofs.Ytkabfjbmofpkdaa

/- Layer 14: a whole partition that is fetched; a record that is taken, as data. -/
namespace Go.Proofs.Ytkabfjbmofpkdaa
open Go.RowKit Go.Shelf

theorem mod8_nat (n : Int) : ∃ k : Nat, wrap64 ((IntKind.u64.wrap n).tmod 8) = k ∧ k < 8 := by
  have e : IntKind.u64.wrap n = n % 18446744073709551616 := by simp [IntKind.wrap, IntKind.bits, IntKind.signed]
  rw [e, Int.tmod_eq_emod_of_nonneg (by omega)]
  refine ⟨((n % 18446744073709551616) % 8).toNat, ?_, by omega⟩
  unfold wrap64
  omega

def recE (r : Rec) : Ent := ⟨1, r, .slice none 0 0, [], 0⟩
theorem recE_ok {r : Rec} (h : r.ok) : (recE r).Ok ∧ (recE r).Small := ⟨⟨by unfold I64 recE; simp, h, by unfold I64 recE; simp, fun o ho => by cases ho⟩, ⟨by unfold recE; simp, fun o ho => by cases ho⟩⟩
theorem took_of {L : Led} {r : Rec} (h : (applyL L (recE r)).2.1 = true) : L.good = true ∧ goodRec r = true ∧ L.recTook r = true ∧ (applyL L (recE r)).1 = { L with rows := putRowAt ⟨r.p, r.q, r.s⟩ L.rows, C := L.bump r.q.toNat, opn := L.opn ++ [r] } := by
  unfold applyL at h ⊢
  split at h
  · rename_i hg
    rw [if_pos hg]
    have hE := (goodEnt_iff _ _ _ _).1 hg.2
    unfold stepL at h ⊢
    rw [if_pos (show (recE r).k = 1 from rfl)] at h ⊢
    have ht : L.recTook r = true := h
    refine ⟨hg.1, hE.2.2.2.2.2, ht, ?_⟩
    show L.recL r = _
    unfold Led.recL
    rw [if_pos ht]
  · cases h
theorem fetchOf_same {L M : Led} (h : SameL L M) (q frm most : Int) : M.fetchOf q frm most = L.fetchOf q frm most ∧ M.firstOf q = L.firstOf q := by
  have hf : M.firstOf q = L.firstOf q := by unfold Led.firstOf; rw [h.good, h.C, h.all]
  refine ⟨?_, hf⟩
  unfold Led.fetchOf
  rw [hf, h.good, h.C, h.all]
theorem ofPart_len (rs : List Rec) (q : Int) : (ofPart rs q).length ≤ rs.length := List.length_filter_le _ _
theorem fetch_whole {L : Led} (hg : L.good = true) {p : Nat} (hp : p < 8) (hsm : L.Small) : L.fetchOf p (L.firstOf p) 1073741824 = (ofPart L.all p, L.C p, 0) := by
  have hl := ofPart_len L.all p
  have ha := hsm.all
  have hc := counts_at ((good_iff L).1 hg).2.2 p hp
  have ht : ((ofPart L.all p).drop (L.firstOf p - L.firstOf p).toNat).take (1073741824 : Int).toNat = ofPart L.all p := by
    rw [Int.sub_self]
    show ((ofPart L.all p).drop 0).take 1073741824 = _
    rw [List.drop_zero, List.take_of_length_le (by omega)]
  unfold Led.fetchOf
  rw [if_neg (by simp [hg]), if_neg (by omega), if_neg (by rw [firstOf_good hg p hp, show (p : Int).toNat = p from rfl]; omega), ht, firstOf_good hg p hp]
  show (_, L.C p - have_ L.all p + ((have_ L.all p : Nat) : Int), _) = _
  rw [Int.sub_add_cancel]
theorem firstOf_I64 {L : Led} (hg : L.good = true) (hok : L.Ok) {p : Nat} (hp : p < 8) : I64 (L.firstOf p) := by
  have := good_C hg hok p hp
  rw [firstOf_good hg p hp]
  unfold I64
  omega
theorem ofPart_snoc (rs : List Rec) (r : Rec) (q : Int) : ofPart (rs ++ [r]) q = if r.q = q then ofPart rs q ++ [r] else ofPart rs q := by
  unfold ofPart
  rw [List.filter_append]
  by_cases h : r.q = q
  · rw [if_pos h]
    simp [h]
  · rw [if_neg h]
    simp [h]
/-- What is there of a partition behind a record that was taken. -/
theorem took_whole {L M : Led} {r : Rec} (h : (applyL L (recE r)).2.1 = true) (hS : SameL (applyL L (recE r)).1 M) (hgm : M.good = true) {p : Nat} (hp : p < 8) (hsm : M.Small) :
    M.fetchOf p (M.firstOf p) 1073741824 = (if r.q = p then ofPart L.all p ++ [r] else ofPart L.all p, if r.q = p then L.C p + 1 else L.C p, 0) := by
  obtain ⟨hg, hr, ht, hE⟩ := took_of h
  have hpq := goodRec_part hr
  have hall : M.all = L.all ++ [r] := by
    rw [hS.all, hE]
    show L.bats.flatMap (·.recs) ++ (L.opn ++ [r]) = _
    rw [← List.append_assoc]; rfl
  have hC : M.C p = if r.q = p then L.C p + 1 else L.C p := by
    rw [hS.C, hE]
    show L.bump r.q.toNat p = _
    unfold Led.bump
    by_cases e : r.q = p
    · rw [if_pos e, if_pos (by omega)]
    · rw [if_neg e, if_neg (by omega)]
  rw [fetch_whole hgm hp hsm, hall, hC, ofPart_snoc]
theorem rd_front {w : World} {sz n m : Nat} {v : Value} {xs ys : List Value} (h : Rd w sz v n (xs ++ ys)) (hm : m ≤ n) (hx : xs.length = m * sz) : ∃ a c, v = .slice a n c ∧ Rd w sz (.slice a m c) m xs := by
  obtain ⟨a, c, hv, h0, h1, h2, h3⟩ := h
  refine ⟨a, c, hv, a, c, rfl, hx, by omega, h2, ?_⟩
  rcases h3 with h3 | ⟨b, o, ha, hc⟩
  · exact .inl h3
  · exact .inr ⟨b, o, ha, fun j u hj => hc j u (by rw [List.getElem?_append_left (List.getElem?_eq_some_iff.1 hj).1]; exact hj)⟩
end Go.Proofs.Ytkabfjbmofpkdaa

/- Layer 14: PartsPieces walked. -/
namespace Go.Proofs.Ytkabfjbmofpkdaa
open Go.RowKit Go.Shelf
set_option maxRecDepth 100000

theorem mod9_nat (n : Int) : ∃ k : Nat, wrap64 ((IntKind.u64.wrap n).tmod 9) = k ∧ k < 9 := by
  have e : IntKind.u64.wrap n = n % 18446744073709551616 := by simp [IntKind.wrap, IntKind.bits, IntKind.signed]
  rw [e, Int.tmod_eq_emod_of_nonneg (by omega)]
  refine ⟨((n % 18446744073709551616) % 9).toNat, ?_, by omega⟩
  unfold wrap64
  omega
theorem fetch_piece {L : Led} (hg : L.good = true) {p : Nat} (hp : p < 8) (j m : Nat) (hj : j ≤ have_ L.all p) :
    L.fetchOf p (L.firstOf p + j) (1 + (m : Int)) = (((ofPart L.all p).drop j).take (m + 1), L.firstOf p + j + (((ofPart L.all p).drop j).take (m + 1)).length, 0) := by
  have hc := counts_at ((good_iff L).1 hg).2.2 p hp
  have hf := firstOf_good hg p hp
  have hd : (L.firstOf p + j - L.firstOf p).toNat = j := by omega
  unfold Led.fetchOf
  rw [if_neg (by simp [hg]), if_neg (by omega), if_neg (by rw [show (p : Int).toNat = p from rfl]; omega), hd, show (1 + (m : Int)).toNat = m + 1 by omega]

set_option maxHeartbeats 8000000 in
theorem pieces_core (L : Led) (part piece : Int) (w : World) (hL : LedR w L) (hok : L.Ok) (hsm : L.Small) :
    Calls Try.prog 6 #[.agg L.cells.toArray, .int .i64 part, .int .i64 piece] w fun e w' => e = .returned (.bool true) ∧ Below w.heap.size w w' := by
  obtain ⟨p, hp, hp8⟩ := mod8_nat part
  obtain ⟨m, hm, hm9⟩ := mod9_nat piece
  have hp8i : (p : Int) < 8 := by omega
  obtain ⟨X, hX⟩ : ∃ X, X = w.alloc (.cells L.cells.toArray 30) := ⟨_, rfl⟩
  have hbX : Below w.heap.size w X := by rw [hX]; exact below_alloc _ _
  have hBL : BoxL X w.heap.size L := by rw [hX]; exact boxL_self w L 30
  have HX := Lib.hid hX
  have HBL := Lib.hid hBL
  have HBX := Lib.hid hbX
  have HL := Lib.hid hL
  have HOK := Lib.hid hok
  have HSM := Lib.hid hsm
  clear hX hBL hbX hL hok hsm
  go_enter Try.func6, Try.ntmps6
  go_upto_region 1 with fail
  rw [show w.alloc (.cells L.cells.toArray 30) = X from HX.out.symm]
  go_wp2_with fail
  refine (known14_calls _).mono ?_
  rintro e w0 ⟨rfl, hb0⟩
  have HB0 := Lib.hid (below_go HBX.out hb0)
  have HBL0 := Lib.hid (HBL.out.later hb0)
  have HRL := Lib.hid (HBL.out.later hb0).range
  clear hb0
  go_wp2_with (first | (refine wpList_load_mid rfl 30 _ rfl (w.heap.size) 0 rfl (Led.cells L) _ (by exact HRL.out) Try.underlying30 rfl (by show _ = some 16; kernel_rfl) ?_) | (refine wp_load_mid 30 _ rfl (w.heap.size) 0 rfl (Led.cells L) _ (by exact HRL.out) Try.underlying30 rfl (by show _ = some 16; kernel_rfl) ?_) | (refine list_loadk rfl rfl (b := w.heap.size) (off := 0) rfl (cs := Led.cells L) Try.underlying30 rfl (by show _ = some 16; kernel_rfl) (by exact HRL.out) ?_))
  refine (rGood_calls L w0 (HL.out.below HB0.out (Nat.le_refl _)) HOK.out HSM.out).mono ?_
  rintro e w1 ⟨rfl, hb1⟩
  have HB1 := Lib.hid (below_go HB0.out hb1)
  have HBL1 := Lib.hid (HBL0.out.later hb1)
  have HRL1 := Lib.hid (HBL0.out.later hb1).range
  clear hb1
  cases hg : L.good with
  | false =>
    clear hg
    go_wp2_with fail
    refine (known14_calls _).mono ?_
    rintro e w2 ⟨rfl, hb2⟩
    have HB2 := Lib.hid (below_go HB1.out hb2)
    clear hb2
    go_wp2_with fail
    go_ret
    exact ⟨rfl, HB2.out⟩
  | true =>
    have HFW := Lib.hid (fetch_whole hg hp8 HSM.out)
    have HFP := Lib.hid (fun j hj => fetch_piece hg hp8 j m hj)
    have HF1 := Lib.hid (firstOf_good hg p hp8)
    have hgc := good_C hg HOK.out p hp8
    have HFI := Lib.hid (firstOf_I64 hg HOK.out hp8)
    have hlen := ofPart_len L.all p
    have hall := HSM.out.all
    clear hg
    go_wp2_with (first | (refine wpList_load_mid rfl 30 _ rfl (w.heap.size) 0 rfl (Led.cells L) _ (by exact HRL1.out) Try.underlying30 rfl (by show _ = some 16; kernel_rfl) ?_) | (refine wp_load_mid 30 _ rfl (w.heap.size) 0 rfl (Led.cells L) _ (by exact HRL1.out) Try.underlying30 rfl (by show _ = some 16; kernel_rfl) ?_) | (refine list_loadk rfl rfl (b := w.heap.size) (off := 0) rfl (cs := Led.cells L) Try.underlying30 rfl (by show _ = some 16; kernel_rfl) (by exact HRL1.out) ?_))
    refine (first_calls L p w1 (HL.out.below HB1.out (Nat.le_refl _)) HOK.out HSM.out).mono ?_
    rintro e w2 ⟨rfl, hb2⟩
    have HB2 := Lib.hid (below_go HB1.out hb2)
    have HBL2 := Lib.hid (HBL1.out.later hb2)
    have HRL2 := Lib.hid (HBL1.out.later hb2).range
    clear hb2
    go_wp2_with (first | (refine wpList_load_mid rfl 30 _ rfl (w.heap.size) 0 rfl (Led.cells L) _ (by exact HRL2.out) Try.underlying30 rfl (by show _ = some 16; kernel_rfl) ?_) | (refine wp_load_mid 30 _ rfl (w.heap.size) 0 rfl (Led.cells L) _ (by exact HRL2.out) Try.underlying30 rfl (by show _ = some 16; kernel_rfl) ?_) | (refine list_loadk rfl rfl (b := w.heap.size) (off := 0) rfl (cs := Led.cells L) Try.underlying30 rfl (by show _ = some 16; kernel_rfl) (by exact HRL2.out) ?_))
    have hF := fetch_calls L p (L.firstOf p) 1073741824 w2 (HL.out.below HB2.out (Nat.le_refl _)) HOK.out HSM.out HFI.out (by unfold I64; omega)
    rw [HFW.out] at hF
    refine hF.mono ?_
    clear hF
    rintro e w3 ⟨va, rfl, hoa, hb3⟩
    have HB3 := Lib.hid (below_go HB2.out hb3)
    have HBL3 := Lib.hid (HBL2.out.later hb3)
    have HA := Lib.hid (show Recs w3 va (ofPart L.all p) from Rd.of_own hoa)
    obtain ⟨aa, ac, rfl⟩ := own_slice hoa
    clear hoa hb3
    simp only
    have HF1 := HF1
    generalize hFF : L.firstOf p = F at *
    obtain ⟨n, hn⟩ : ∃ n, n = (ofPart L.all p).length := ⟨_, rfl⟩
    have HNN := Lib.hid hn
    have hCF : L.C p - F = n := by have := HF1.out; rw [this, hn]; unfold have_; omega
    have hwr : IntKind.i64.wrap (L.C p - F) = n := by rw [hCF, IntKind.wrap_i64]; omega
    have cp := HBL3.out (1 + p) _ (cells_C L p hp8)
    have HCF := Lib.hid hCF
    have HFF := Lib.hid hFF
    rw [← hn] at hlen
    rw [← hn] at HA ⊢
    clear hn hCF hFF
    go_wp2_with fail
    have HCB := Lib.hid hgc
    clear hgc cp hwr
    go_loopw [11, 12, 13, 14, 15] (fun av tv _ _ _ wr => ∃ (j : Nat) (t : Int), j ≤ n ∧ t = F + j ∧ tv = .int .i64 t ∧ wr.ownsRow w3.heap.size 33 5 av j (flatF Rec.cells ((ofPart L.all p).take j)) ∧ Below w3.heap.size w3 wr) (fun _ tv _ _ _ _ => (L.C p - intOf tv).toNat)
    case atStart => exact ⟨0, F, by omega, by omega, rfl, World.ownsRow_nil _ _ _ _, Below.refl _ _⟩
    case round =>
      obtain ⟨j, t, hj, ht, rfl, ho, hb⟩ := hrel
      have HT := Lib.hid ht
      have HO := Lib.hid ho
      have HB := Lib.hid hb
      have HRLr := Lib.hid (HBL3.out.later hb).range
      obtain ⟨ga, gc, rfl⟩ := own_slice ho
      clear ht ho hb
      by_cases hlt : j < n
      · have d1 : decide (t < L.C p) = true := decide_eq_true (by have := HT.out; have := HCF.out; omega)
        go_wp2_with (first | (refine wpList_load_mid rfl 30 _ rfl (w.heap.size) 0 rfl (Led.cells L) _ (by exact HRLr.out) Try.underlying30 rfl (by show _ = some 16; kernel_rfl) ?_) | (refine wp_load_mid 30 _ rfl (w.heap.size) 0 rfl (Led.cells L) _ (by exact HRLr.out) Try.underlying30 rfl (by show _ = some 16; kernel_rfl) ?_) | (refine list_loadk rfl rfl (b := w.heap.size) (off := 0) rfl (cs := Led.cells L) Try.underlying30 rfl (by show _ = some 16; kernel_rfl) (by exact HRLr.out) ?_))
        have hcall := HFP.out j (by have := HNN.out; unfold have_; omega)
        rw [← HT.out] at hcall
        have hF := fetch_calls L p t (1 + (m : Int)) wr (HL.out.below (below_go HB3.out HB.out) (Nat.le_refl _)) HOK.out HSM.out (by have := HT.out; have := HCF.out; have := HCB.out; have := HFI.out; unfold I64 at *; omega) (by unfold I64; omega)
        rw [hcall] at hF
        refine hF.mono ?_
        clear hF hcall
        rintro e w4 ⟨vs, rfl, hos, hb4⟩
        obtain ⟨ys, hys⟩ : ∃ ys, ys = ((ofPart L.all p).drop j).take (m + 1) := ⟨_, rfl⟩
        simp only
        rw [← hys] at hos ⊢
        obtain ⟨s, hs⟩ : ∃ s, s = ys.length := ⟨_, rfl⟩
        have hsl : s = min (m + 1) (n - j) := by rw [hs, hys, List.length_take, List.length_drop, ← HNN.out]
        obtain ⟨u, hu⟩ : ∃ u, u = t + (s : Int) := ⟨_, rfl⟩
        have HS := Lib.hid (show Rd w4 5 vs s (flatF Rec.cells ys) by rw [hs]; exact Rd.of_own hos)
        have HO4 := Lib.hid (ownsRow_below HO.out hb4 (Nat.le_refl _))
        have HB4 := Lib.hid (below_go HB.out hb4)
        obtain ⟨sa, sc, rfl⟩ := own_slice hos
        rw [← hs] at HS
        rw [← hs, ← hu]
        have HU := Lib.hid hu
        have HYS := Lib.hid (And.intro hys hs)
        have d2 : decide (u ≤ t) = false := decide_eq_false (by omega)
        have hwu : IntKind.i64.wrap (u - t) = s := by rw [IntKind.wrap_i64]; omega
        have hbs := HB4.out.size
        have HTK := Lib.hid (show (ofPart L.all p).take j ++ ys = (ofPart L.all p).take (j + s) by
          rw [hys, ← List.take_add]
          have hnn := HNN.out
          by_cases h : m + 1 ≤ n - j
          · rw [hsl, Nat.min_eq_left h]
          · rw [List.take_of_length_le (by omega), List.take_of_length_le (by omega)])
        have hjs : j + s ≤ n := by omega
        have hs1 : 0 < s := by omega
        clear hos hb4 hys hs hsl hu
        go_wp2_with (at_builtin; go_loud (refine app_list tyRecs HO4.out HS.out (recs_one _) (by omega) (by omega) hbs rfl rfl rfl rfl ?_; intro v5 w5 hm5 hg5 hn5; have HO5 := Lib.hid hm5; have HB5 := Lib.hid (HB4.out.grown hg5 hbs (fun k e => (World.ownsRow.lt HO4.out k e).1)); clear hm5 hg5 hn5))
        go_roundw
        case rel =>
          refine ⟨j + s, u, hjs, by have := HT.out; have := HU.out; omega, rfl, ?_, HB5.out⟩
          rw [← HTK.out, flatF_append]
          exact HO5.out
        case measure => simp only [intOf]; have := HT.out; have := HU.out; have := HCF.out; omega
      · obtain rfl : j = n := by omega
        have d1 : decide (t < L.C p) = false := decide_eq_false (by have := HT.out; have := HCF.out; omega)
        go_wp2_with fail
        have hall2 : Recs wr (.slice ga j gc) (ofPart L.all p) := by
          have := Rd.of_own HO.out
          rw [List.take_of_length_le (by have := HNN.out; omega)] at this
          unfold Recs
          rw [← HNN.out]
          exact this
        refine (sameRecs_calls _ _ (ofPart L.all p) wr hall2 (Rd.below HA.out HB.out (Nat.le_refl _))).mono ?_
        rintro e w5 ⟨rfl, hb5⟩
        have HB5 := Lib.hid (below_go HB.out hb5)
        clear hb5 hall2
        go_wp2_with fail
        go_ret
        exact ⟨rfl, below_go HB3.out HB5.out⟩
end Go.Proofs.Ytkabfjbmofpkdaa
