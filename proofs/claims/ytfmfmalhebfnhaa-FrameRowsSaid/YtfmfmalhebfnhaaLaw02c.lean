/- Layer 2: the row of frames, FrameBack walked. -/
import Derived.Test.YtfmfmalhebfnhaaFrame07
import Derived.Test.YtfmfmalhebfnhaaLaw02
import Derived.Test.YtfmfmalhebfnhaaFrameMath2
namespace Go.Proofs.Ytfmfmalhebfnhaa
open Go.RowKit Go.Shelf CrcM FrM

theorem tyInts : STy Try.prog 44 3 (.int .i64 0) 1 8 := .of Try.underlying44 (by kernel_rfl) rfl (by omega)

/-- A row that another append leaves: its elements are of another type. -/
theorem own_other {w w' : World} {base base' : Nat} {e e' : TypeId} {sz sz' n n' : Nat} {v v' : Value} {xs xs' : List Value} (h : w.ownsRow base e sz v n xs) (h' : w.ownsRow base' e' sz' v' n' xs') (hne : e ≠ e') (g : w.grownBy w' v.ownBlock) : w'.ownsRow base' e' sz' v' n' xs' := by
  refine ⟨h'.1, ?_⟩
  rcases h'.2 with h2 | ⟨b, cap, cur, hv, hb, hh, r⟩
  · exact .inl h2
  · refine .inr ⟨b, cap, cur, hv, hb, ?_, r⟩
    rw [g.block b (Array.getElem?_eq_some_iff.1 hh).1 ?_]
    · exact hh
    · intro ee
      rcases h.2 with ⟨rfl, -⟩ | ⟨g', cap', cur', rfl, -, hh', -⟩
      · simp [Value.ownBlock] at ee
      · simp [Value.ownBlock] at ee
        subst ee
        rw [hh] at hh'
        simp at hh'
        exact hne hh'.2.symm

/-- Whole numbers as values. -/
def ivs (ns : List Nat) : List Value := ns.map fun (n : Nat) => Value.int .i64 (n : Int)
def ends (ps : List (List UInt8)) (k : Nat) : List Nat := (List.range k).map fun i => endAt ps (i + 1)
theorem ends_succ (ps : List (List UInt8)) (k : Nat) : ends ps (k + 1) = ends ps k ++ [endAt ps (k + 1)] := by simp [ends, List.range_succ]

/-- What row hands back. -/
def RowOut (ps : List (List UInt8)) (base : Nat) (w' : World) (b es ok : Value) : Prop :=
  if ∀ p ∈ ps, p.length ≤ 65536 then Mine w' base b (rowOf ps) ∧ w'.ownsRow base 3 1 es ps.length (ivs (ends ps ps.length)) ∧ ok = .bool true else ok = .bool false

theorem endAt_small (ps : List (List UInt8)) (k : Nat) (hk : k ≤ ps.length) (hp : ∀ j (hj : j < k), (ps[j]'(by omega)).length ≤ 65536) : endAt ps k ≤ 65548 * k := by
  induction k with
  | zero => rw [endAt_zero]; omega
  | succ k ih =>
    have := ih (by omega) (fun j hj => hp j (by omega))
    have h2 := hp k (by omega)
    rw [endAt_succ ps k (by omega)]
    omega

set_option maxHeartbeats 1000000 in
set_option maxRecDepth 100000 in
theorem row_calls (v : Value) (pss : List (List UInt8)) (w : World) (hv : SliceOf Bytes w v pss) :
    Calls Try.prog 20 #[v] w fun e w' => ∃ b es ok, e = .returned (.tuple #[b, es, ok]) ∧ RowOut (pss.take 40) w.heap.size w' b es ok ∧ Below w.heap.size w w' := by
  have HV := Lib.hid hv
  obtain ⟨vs, hrd, -⟩ := hv
  obtain ⟨a, cap, rfl, hvl, hle, hcap, -⟩ := hrd
  clear hvl
  obtain ⟨ps, hps⟩ : ∃ ps, ps = pss.take 40 := ⟨_, rfl⟩
  rw [← hps]
  have hl : ps.length = min 40 pss.length := by rw [hps]; simp
  have hl1 : ps.length ≤ 40 := by omega
  have hl2 : ps.length ≤ pss.length := by omega
  have hl3 : 40 ≤ ps.length ∨ pss.length ≤ ps.length := by omega
  clear hl
  have HPS := Lib.hid hps
  clear hps
  go_enter Try.func20, Try.ntmps20
  go_wp2_with fail
  go_loopw [5, 6, 7, 8, 9] (fun b es i _ _ wr => ∃ k : Nat, k ≤ ps.length ∧ i = .int .i64 k ∧ (∀ j (hj : j < k) (hj2 : j < ps.length), (ps[j]'hj2).length ≤ 65536) ∧ Mine wr w.heap.size b (rowOf (ps.take k)) ∧ wr.ownsRow w.heap.size 3 1 es k (ivs (ends ps k)) ∧ Below w.heap.size w wr) (fun _ _ i _ _ _ => 40 - (intOf i).toNat)
  case atStart => exact ⟨0, by omega, rfl, fun j hj => by omega, Mine.nil _ _, World.ownsRow_nil _ _ _ _, Below.refl _ _⟩
  case round =>
    obtain ⟨k, hk, rfl, hsm, hm, ho, hb⟩ := hrel
    have HSM := Lib.hid hsm
    have HM := Lib.hid hm
    have HO := Lib.hid ho
    have HB := Lib.hid hb
    clear hsm hm ho hb
    by_cases hlt : k < ps.length
    · have hlt2 : k < pss.length := by omega
      have hlt40 : k < 40 := by omega
      obtain ⟨b1, o1, u1, rfl, hc1, hb1⟩ := HV.out.at k hlt2
      have hpk : ps[k] = pss[k] := by have := HPS.out; subst this; simp
      rw [← hpk] at hb1
      have c1 := cell_later HB.out hc1
      have D1 := Lib.hid (hb1.below HB.out (Nat.le_refl _))
      clear hc1 hb1 hpk
      go_wp2_with fail
      refine (put_calls _ _ _ D1.out).mono ?_
      rintro e w1 ⟨r1, cc1, rfl, hp1, hb1⟩
      by_cases hbig : ps[k].length ≤ 65536
      · unfold PutOut at hp1
        rw [if_pos hbig] at hp1
        obtain ⟨hm1, rfl⟩ := hp1
        have hsmall := endAt_small ps (k + 1) (by omega) (fun j hj => by
          by_cases hjk : j = k
          · subst hjk; exact hbig
          · exact HSM.out j (by omega) (by omega))
        have hend : endAt ps (k + 1) = endAt ps k + 12 + ps[k].length := endAt_succ ps k hlt
        have hrow : rowOf (ps.take (k + 1)) = rowOf (ps.take k) ++ frameOf ps[k] := by rw [List.take_succ_eq_append_getElem hlt, rowOf_append, rowOf_one]
        have hrl : (rowOf (ps.take k)).length = endAt ps k := rfl
        have hfl := frameOf_length ps[k]
        have HROW := Lib.hid hrow
        have HEND := Lib.hid hend
        have HX1 := Lib.hid hm1
        have HM1 := Lib.hid (HM.out.below hb1 (Nat.le_refl _))
        have HO1 := Lib.hid (ownsRow_below HO.out hb1 (Nat.le_refl _))
        have HB1 := Lib.hid (HB.out.trans (hb1.mono HB.out.size))
        have hbd : (rowOf (ps.take k)).length + (frameOf ps[k]).length ≤ 3000000 := by omega
        clear hm1 hb1 hrow hend hrl hfl hsmall
        go_wp2_with (first
          | (at_builtin; have _t := HM1; refine app_list tyBytes HM1.out HX1.out.bytes.rd (bvs_one _) (by omega) (by omega) HB1.out.size rfl rfl rfl rfl ?_; intro v3 w3 ho3 hg3 hn3; have HO3 := Lib.hid (own_other HM1.out HO1.out (by decide) hg3); have HB3 := Lib.hid (HB1.out.grown hg3 HB1.out.size (fun j e => (World.ownsRow.lt HM1.out j e).1)); have hm3 : Mine w3 w.heap.size v3 (rowOf (ps.take (k + 1))) := (by unfold Mine; rw [HROW.out, List.length_append, bvs_append]; exact ho3); obtain ⟨ga, gc, rfl⟩ := hm3.slice; have HM3 := Lib.hid hm3; have HO4 := Lib.hid (ownsRow_below HO3.out ((Below.refl w3.heap.size w3).alloc (Nat.le_refl _) (.cells #[.int .i64 ((rowOf (ps.take (k + 1))).length : Int)] 3)) (Nat.le_refl _)); have HM4 := Lib.hid (HM3.out.below ((Below.refl w3.heap.size w3).alloc (Nat.le_refl _) (.cells #[.int .i64 ((rowOf (ps.take (k + 1))).length : Int)] 3)) (Nat.le_refl _)); have HB4 := Lib.hid (HB3.out.alloc HB3.out.size (.cells #[.int .i64 ((rowOf (ps.take (k + 1))).length : Int)] 3)); clear HM1 ho3 hg3 hn3 hm3)
          | (at_builtin; have _t := HO4; refine app_list tyInts HO4.out (Rd.lit (n := 1) rfl (by omega)) (by simp [Value.oneCell']) (by omega) (by omega) HB4.out.size rfl rfl rfl rfl ?_; intro v5 w5 ho5 hg5 hn5; have HM5 := Lib.hid (own_other HO4.out HM4.out (by decide) hg5); have HB5 := Lib.hid (HB4.out.grown hg5 HB4.out.size (fun j e => (World.ownsRow.lt HO4.out j e).1)); have HO5 := Lib.hid ho5; clear HO4 ho5 hg5 hn5)
          | fail)
        go_roundw
        case rel =>
          refine ⟨k + 1, by omega, by go_num, fun j hj hj2 => ?_, HM5.out, ?_, HB5.out⟩
          · by_cases hjk : j = k
            · subst hjk; exact hbig
            · exact HSM.out j (by omega) hj2
          · rw [ends_succ]
            have := HO5.out
            simp only [ivs, List.map_append, List.map_cons, List.map_nil] at this ⊢
            exact this
        case measure => simp [intOf]; omega
      · unfold PutOut at hp1
        rw [if_neg hbig] at hp1
        obtain ⟨rfl, rfl⟩ := hp1
        have hno : ¬ ∀ p ∈ ps, p.length ≤ 65536 := fun h => hbig (h _ (List.getElem_mem _))
        have HNO := Lib.hid hno
        have HB1 := Lib.hid (HB.out.trans (hb1.mono HB.out.size))
        clear hb1 hno
        go_wp2_with fail
        go_ret3
        refine ⟨_, _, _, rfl, ?_, HB1.out⟩
        unfold RowOut
        rw [if_neg HNO.out]
        rfl
    · obtain rfl : k = ps.length := by omega
      have hall : ∀ p ∈ ps, p.length ≤ 65536 := by
        intro p hp
        obtain ⟨j, hj, rfl⟩ := List.getElem_of_mem hp
        exact HSM.out j hj hj
      have HALL := Lib.hid hall
      clear hall
      rcases Nat.lt_or_ge ps.length pss.length with hq | hq
      · have hq2 : ¬ ((ps.length : Int) < 40) := by omega
        go_wp2_with fail
        go_ret3
        refine ⟨_, _, _, rfl, ?_, HB.out⟩
        unfold RowOut
        rw [if_pos HALL.out]
        exact ⟨by have := HM.out; rwa [List.take_length] at this, HO.out, rfl⟩
      · have hq2 : ¬ ((ps.length : Int) < pss.length) := by omega
        go_wp2_with fail
        go_ret3
        refine ⟨_, _, _, rfl, ?_, HB.out⟩
        unfold RowOut
        rw [if_pos HALL.out]
        exact ⟨by have := HM.out; rwa [List.take_length] at this, HO.out, rfl⟩

theorem Bytes.take' {w : World} {a : Option Addr} {n cap : Nat} {xs : List UInt8} (h : Bytes w (.slice a n cap) xs) (m : Nat) (hm : m ≤ n) : Bytes w (.slice a m cap) (xs.take m) := by
  obtain ⟨a', cap', hv, h1, h2, h3⟩ := h
  simp only [Value.slice.injEq] at hv
  obtain ⟨rfl, rfl, rfl⟩ := hv
  have hl : (xs.take m).length = m := by simp; omega
  refine ⟨a, cap, by rw [hl], by omega, h2, ?_⟩
  rcases h3 with h3 | ⟨b, o, rfl, hc⟩
  · exact .inl h3
  · refine .inr ⟨b, o, rfl, fun j hj => ?_⟩
    rw [hl] at hj
    rw [hc j (by omega)]
    congr 2
    unfold bt
    simp [List.getD, hj]
theorem tmod_len (n : Int) (L : Nat) : ∃ s : Nat, (IntKind.u64.wrap n).tmod ((L : Int) + 1) = s ∧ s ≤ L := by
  have h : 0 ≤ IntKind.u64.wrap n := by
    simp [IntKind.wrap, IntKind.bits, IntKind.signed]
    omega
  rw [Int.tmod_eq_emod_of_nonneg h]
  have h1 := Int.emod_nonneg (IntKind.u64.wrap n) (show ((L : Int) + 1) ≠ 0 by omega)
  have h2 := Int.emod_lt_of_pos (IntKind.u64.wrap n) (show 0 < ((L : Int) + 1) by omega)
  exact ⟨((IntKind.u64.wrap n) % ((L : Int) + 1)).toNat, by omega, by omega⟩
theorem own_ends {w : World} {base : Nat} {v : Value} {ps : List (List UInt8)} {n : Nat} (h : w.ownsRow base 3 1 v n (ivs (ends ps n))) (i : Nat) (hi : i < n) :
    ∃ b o, (∃ c, v = .slice (some ⟨b, o, none⟩) n c) ∧ w.cell? ⟨b, o + i, none⟩ = some (.int .i64 (endAt ps (i + 1))) := by
  obtain ⟨a, cap, hv, hl, h1, h2, h3⟩ := Rd.of_own h
  rcases h3 with h3 | ⟨b, o, rfl, hc⟩
  · omega
  · exact ⟨b, o, ⟨cap, hv⟩, hc i _ (by simp [ivs, ends, hi])⟩

set_option maxHeartbeats 1000000 in
set_option maxRecDepth 100000 in
theorem back_core (v : Value) (pss : List (List UInt8)) (short : Int) (w : World) (hv : SliceOf Bytes w v pss) (hm : -9223372036854775808 ≤ short ∧ short ≤ 9223372036854775807) :
    Calls Try.prog 6 #[v, .int .i64 short] w fun e w' => e = .returned (.bool true) ∧ Below w.heap.size w w' := by
  have HV := Lib.hid hv
  obtain ⟨vs, hrd, -⟩ := hv
  obtain ⟨a, cap, rfl, hvl, hle, hcap, -⟩ := hrd
  clear hvl
  obtain ⟨hm1, hm2⟩ := hm
  obtain ⟨ps, hps⟩ : ∃ ps, ps = pss.take 40 := ⟨_, rfl⟩
  have hl : ps.length = min 40 pss.length := by rw [hps]; simp
  have hl1 : ps.length ≤ 40 := by omega
  have hl2 : ps.length ≤ pss.length := by omega
  clear hl
  have HPS := Lib.hid hps
  clear hps
  go_enter Try.func6, Try.ntmps6
  go_wp2_with fail
  refine (known_calls _).mono ?_
  rintro e w1 ⟨rfl, hb1⟩
  have HB1 := Lib.hid hb1
  clear hb1
  go_wp2_with fail
  refine (row_calls _ pss _ (sliceOf_below HV.out HB1.out (Nat.le_refl _))).mono ?_
  rintro e w2 ⟨b, es, ok, rfl, hr, hb2⟩
  rw [← HPS.out] at hr
  have HB2 := Lib.hid (HB1.out.trans (hb2.mono HB1.out.size))
  clear hb2
  unfold RowOut at hr
  by_cases hall : ∀ p ∈ ps, p.length ≤ 65536
  · rw [if_pos hall] at hr
    obtain ⟨hmb, hes, rfl⟩ := hr
    have HALL := Lib.hid hall
    obtain ⟨ba, bc, rfl⟩ := hmb.slice
    have hsm := endAt_small ps ps.length (Nat.le_refl _) (fun j hj => hall _ (List.getElem_mem _))
    rw [endAt_all] at hsm
    clear hall
    have HMB := Lib.hid hmb
    have HES := Lib.hid hes
    have HRS := Lib.hid (Rd.of_own hes)
    clear hes hmb
    obtain ⟨ea, ec, rfl, -⟩ := HRS.out
    clear HRS
    obtain ⟨s, hs1, hs2⟩ := tmod_len short (rowOf ps).length
    have hlb : (rowOf ps).length ≤ 3000000 := by omega
    clear hsm
    obtain ⟨n0, hn0⟩ := count_exists ((rowOf ps).take s)
    have HN0 := Lib.hid hn0
    clear hn0
    obtain ⟨L, hL⟩ : ∃ L, L = (rowOf ps).length := ⟨_, rfl⟩
    rw [← hL] at hs1 hs2 hlb
    rw [← hL]
    have HL := Lib.hid hL
    clear hL
    have hbc : s ≤ bc := by
      obtain ⟨a', c', e', h1, -⟩ := HMB.out.bytes
      simp only [Value.slice.injEq] at e'
      have := HL.out
      omega
    go_wp2_with fail
    have hxl : ((rowOf ps).take s).length ≤ 1099511627776 := by simp; omega
    have hbs := HMB.out.bytes.take' s (by have := HL.out; omega)
    refine (cut_calls _ ((rowOf ps).take s) n0 _ hbs hxl HN0.out).mono ?_
    clear hbs hxl
    rintro e w3 ⟨l3, rfl, hl3, hb3⟩
    obtain ⟨la, lc, hls⟩ := hl3.slice'
    rw [pays_length] at hls
    subst hls
    have HL3 := Lib.hid hl3
    have HB3 := Lib.hid (HB2.out.trans (hb3.mono HB2.out.size))
    have HE3 := Lib.hid (ownsRow_below HES.out hb3 (Nat.le_refl _))
    clear hl3 hb3
    go_wp2_with fail
    go_loopw [10] (fun i wr => ∃ k : Nat, k ≤ ps.length ∧ i = .int .i64 k ∧ endAt ps k ≤ s ∧ wr = w3) (fun i _ => ps.length - (intOf i).toNat)
    case atStart => exact ⟨0, by omega, rfl, by rw [endAt_zero]; omega, rfl⟩
    case round =>
      obtain ⟨k, hk, rfl, hes, rfl⟩ := hrel
      by_cases hc : k < ps.length ∧ endAt ps (k + 1) ≤ s
      · obtain ⟨hc1, hc2⟩ := hc
        obtain ⟨eb, eo, ⟨ec', hse⟩, hce⟩ := own_ends HE3.out k hc1
        simp only [Value.slice.injEq] at hse
        obtain ⟨rfl, -, -⟩ := hse
        generalize hE : endAt ps (k + 1) = E at *
        have HEE := Lib.hid hE
        clear hE
        go_wp2_with fail
        go_roundw
        case rel => exact ⟨k + 1, by omega, by go_num, by rw [HEE.out]; exact hc2, trivial⟩
        case measure => simp [intOf]; omega
      · have hend : k = ps.length ∨ s < endAt ps (k + 1) := by omega
        obtain ⟨hcnt, hpos, hpays⟩ := row_count ps s k _ rfl (by have := HL.out; omega) HALL.out hk hes hend
        have hnk := HN0.out.unique hcnt
        subst hnk
        have hpk := hpos n0 (Nat.le_refl _)
        rw [hpk]
        have HPY := Lib.hid hpays
        have hcell : ∀ j, j + 1 = n0 → ∃ eb eo, ea = some ⟨eb, eo, none⟩ ∧ wr.cell? ⟨eb, eo + j, none⟩ = some (.int .i64 (endAt ps n0)) := by
          intro j hj
          obtain ⟨eb, eo, ⟨ec', hse⟩, hce⟩ := own_ends HE3.out j (by omega)
          simp only [Value.slice.injEq] at hse
          exact ⟨eb, eo, hse.1, by rw [← hj]; exact hce⟩
        have hz : n0 = 0 → endAt ps n0 = 0 := by rintro rfl; exact endAt_zero ps
        generalize hE0 : endAt ps n0 = E0 at *
        have HE0 := Lib.hid hE0
        clear hE0 hpos hpk hcnt hpays
        have hnext : n0 = ps.length ∨ ∃ eb eo E1, ea = some ⟨eb, eo, none⟩ ∧ n0 < ps.length ∧ s < E1 ∧ wr.cell? ⟨eb, eo + n0, none⟩ = some (.int .i64 (E1 : Nat)) := by
          rcases Nat.lt_or_ge n0 ps.length with h | h
          · right
            obtain ⟨eb, eo, ⟨ec', hse⟩, hce⟩ := own_ends HE3.out n0 h
            simp only [Value.slice.injEq] at hse
            exact ⟨eb, eo, _, hse.1, h, by omega, hce⟩
          · left; omega
        clear hc hend
        have hn0b : n0 ≤ 40 := by omega
        have hway : (∃ eb eo E1, ea = some ⟨eb, eo, none⟩ ∧ n0 < ps.length ∧ s < E1 ∧ wr.cell? ⟨eb, eo + n0, none⟩ = some (.int .i64 (E1 : Nat))) ∨ ps.length ≤ n0 := by
          rcases hnext with h | h
          · exact .inr (by omega)
          · exact .inl h
        clear hnext
        have hway2 : (n0 = 0 ∧ E0 = 0) ∨ ∃ j eb eo, j + 1 = n0 ∧ ea = some ⟨eb, eo, none⟩ ∧ wr.cell? ⟨eb, eo + j, none⟩ = some (.int .i64 E0) := by
          rcases Nat.eq_zero_or_pos n0 with h0 | h0
          · exact .inl ⟨h0, hz h0⟩
          · obtain ⟨eb, eo, h1, h2⟩ := hcell (n0 - 1) (by omega)
            exact .inr ⟨n0 - 1, eb, eo, by omega, h1, h2⟩
        clear hcell hz
        have HELEM : Hid (∀ q (hq : q < n0), (pays ((rowOf ps).take s) n0)[q]'(by rw [pays_length]; exact hq) = pss[q]'(by omega)) := Lib.hid (by
          intro q hq
          have h1 := HPY.out
          have h2 := HPS.out
          have : (pays ((rowOf ps).take s) n0)[q]? = pss[q]? := by rw [h1, h2, List.getElem?_take, if_pos hq, List.getElem?_take, if_pos (by omega)]
          rw [List.getElem?_eq_getElem (by rw [pays_length]; exact hq), List.getElem?_eq_getElem (by omega)] at this
          exact Option.some.inj this)
        have hn0p : n0 ≤ pss.length := by omega
        rcases hway with ⟨eb, eo, E1, rfl, hB1, hB2, hB3⟩ | hA3
        · rcases hway2 with ⟨h0, rfl⟩ | ⟨j, eb', eo', hj, heq, hcj⟩
          · have q1 : ¬ (0 : Int) < n0 := by omega
            have q2 : ((n0 : Int) == 0) = true := by rw [beq_iff_eq]; omega
            clear h0
            go_wp2_with fail
            go_loopw [11] (fun i wq => ∃ q : Nat, q ≤ n0 ∧ i = .int .i64 q ∧ Below wr.heap.size wr wq) (fun i _ => n0 - (intOf i).toNat)
            case atStart => exact ⟨0, by omega, rfl, Below.refl _ _⟩
            case round =>
              obtain ⟨q, hq, rfl, hbq⟩ := hrel
              have HBQ := Lib.hid hbq
              clear hbq
              have HBW := Lib.hid (HB3.out.trans (HBQ.out.mono HB3.out.size))
              by_cases hlt : q < n0
              · have hlt2 : q < pss.length := by omega
                obtain ⟨b1, o1, u1, rfl, hc1, hb1⟩ := HL3.out.sliceOf.at q (by rw [pays_length]; exact hlt)
                obtain ⟨b2, o2, u2, rfl, hc2, hb2⟩ := HV.out.at q hlt2
                rw [HELEM.out q hlt] at hb1
                have c1 := cell_later HBQ.out hc1
                have c2 := cell_later HBW.out hc2
                have D1 := Lib.hid (hb1.below (HBQ.out.drew) (Nat.le_refl _))
                have D2 := Lib.hid (hb2.below (HBW.out.drew) (Nat.le_refl _))
                clear hc1 hc2 hb1 hb2
                go_wp2_with fail
                refine region_m [(0, false), (1, false), (2, false), (3, false), (4, false), (5, false), (6, false), (7, false), (8, true)] 9
                  (fun W => W.cell? ⟨b1, o1 + q, none⟩ = some u1 ∧ W.cell? ⟨b2, o2 + q, none⟩ = some u2) (by kernel_rfl) (by kernel_rfl) ⟨c1, c2⟩ ?_
                iterate 8
                  refine m_take (v := ?_) rfl rfl ?_ ?_
                  rotate_left
                  · intro W hW
                    go_simp
                    with_reducible rfl
                  simp only [Act.put, List.setIfInBounds_toArray, List.set_cons_zero, List.set_cons_succ]
                refine m_loud rfl (fun K hK => ?_)
                have HK := Lib.hid hK
                clear hK
                go_simp
                refine (same_calls _ _ _ _ _ D1.out D2.out).mono ?_
                rintro e y1 ⟨he, rfl⟩
                rw [beq_self_eq_true] at he
                subst he
                refine HK.out _ _ ⟨c1, c2⟩ ?_
                clear HK
                refine m_done ?_
                simp only [List.drop_succ_cons, List.drop_zero]
                go_wp2
                simp only [NP]
                go_wp2
                go_roundw
                case rel => exact ⟨q + 1, by omega, by go_num, HBQ.out.drew⟩
                case measure => simp [intOf]; omega
              · obtain rfl : q = n0 := by omega
                go_wp2_with fail
                go_ret
                exact ⟨rfl, HBW.out⟩
          · simp only [Option.some.injEq, Addr.mk.injEq, and_true] at heq
            obtain ⟨rfl, rfl⟩ := heq
            have q1 : (0 : Int) < n0 := by omega
            have q2 : ((n0 : Int) == 0) = false := by rw [beq_eq_false_iff_ne]; omega
            have q3 : (n0 : Int) - 1 = j := by omega
            have q4 : j < ps.length := by omega
            clear hj
            go_wp2_with fail
            go_loopw [11] (fun i wq => ∃ q : Nat, q ≤ n0 ∧ i = .int .i64 q ∧ Below wr.heap.size wr wq) (fun i _ => n0 - (intOf i).toNat)
            case atStart => exact ⟨0, by omega, rfl, Below.refl _ _⟩
            case round =>
              obtain ⟨q, hq, rfl, hbq⟩ := hrel
              have HBQ := Lib.hid hbq
              clear hbq
              have HBW := Lib.hid (HB3.out.trans (HBQ.out.mono HB3.out.size))
              by_cases hlt : q < n0
              · have hlt2 : q < pss.length := by omega
                obtain ⟨b1, o1, u1, rfl, hc1, hb1⟩ := HL3.out.sliceOf.at q (by rw [pays_length]; exact hlt)
                obtain ⟨b2, o2, u2, rfl, hc2, hb2⟩ := HV.out.at q hlt2
                rw [HELEM.out q hlt] at hb1
                have c1 := cell_later HBQ.out hc1
                have c2 := cell_later HBW.out hc2
                have D1 := Lib.hid (hb1.below (HBQ.out.drew) (Nat.le_refl _))
                have D2 := Lib.hid (hb2.below (HBW.out.drew) (Nat.le_refl _))
                clear hc1 hc2 hb1 hb2
                go_wp2_with fail
                refine region_m [(0, false), (1, false), (2, false), (3, false), (4, false), (5, false), (6, false), (7, false), (8, true)] 9
                  (fun W => W.cell? ⟨b1, o1 + q, none⟩ = some u1 ∧ W.cell? ⟨b2, o2 + q, none⟩ = some u2) (by kernel_rfl) (by kernel_rfl) ⟨c1, c2⟩ ?_
                iterate 8
                  refine m_take (v := ?_) rfl rfl ?_ ?_
                  rotate_left
                  · intro W hW
                    go_simp
                    with_reducible rfl
                  simp only [Act.put, List.setIfInBounds_toArray, List.set_cons_zero, List.set_cons_succ]
                refine m_loud rfl (fun K hK => ?_)
                have HK := Lib.hid hK
                clear hK
                go_simp
                refine (same_calls _ _ _ _ _ D1.out D2.out).mono ?_
                rintro e y1 ⟨he, rfl⟩
                rw [beq_self_eq_true] at he
                subst he
                refine HK.out _ _ ⟨c1, c2⟩ ?_
                clear HK
                refine m_done ?_
                simp only [List.drop_succ_cons, List.drop_zero]
                go_wp2
                simp only [NP]
                go_wp2
                go_roundw
                case rel => exact ⟨q + 1, by omega, by go_num, HBQ.out.drew⟩
                case measure => simp [intOf]; omega
              · obtain rfl : q = n0 := by omega
                go_wp2_with fail
                go_ret
                exact ⟨rfl, HBW.out⟩
        · rcases hway2 with ⟨h0, rfl⟩ | ⟨j, eb', eo', hj, rfl, hcj⟩
          · have q1 : ¬ (0 : Int) < n0 := by omega
            have q2 : ((n0 : Int) == 0) = true := by rw [beq_iff_eq]; omega
            clear h0
            go_wp2_with fail
            go_loopw [11] (fun i wq => ∃ q : Nat, q ≤ n0 ∧ i = .int .i64 q ∧ Below wr.heap.size wr wq) (fun i _ => n0 - (intOf i).toNat)
            case atStart => exact ⟨0, by omega, rfl, Below.refl _ _⟩
            case round =>
              obtain ⟨q, hq, rfl, hbq⟩ := hrel
              have HBQ := Lib.hid hbq
              clear hbq
              have HBW := Lib.hid (HB3.out.trans (HBQ.out.mono HB3.out.size))
              by_cases hlt : q < n0
              · have hlt2 : q < pss.length := by omega
                obtain ⟨b1, o1, u1, rfl, hc1, hb1⟩ := HL3.out.sliceOf.at q (by rw [pays_length]; exact hlt)
                obtain ⟨b2, o2, u2, rfl, hc2, hb2⟩ := HV.out.at q hlt2
                rw [HELEM.out q hlt] at hb1
                have c1 := cell_later HBQ.out hc1
                have c2 := cell_later HBW.out hc2
                have D1 := Lib.hid (hb1.below (HBQ.out.drew) (Nat.le_refl _))
                have D2 := Lib.hid (hb2.below (HBW.out.drew) (Nat.le_refl _))
                clear hc1 hc2 hb1 hb2
                go_wp2_with fail
                refine region_m [(0, false), (1, false), (2, false), (3, false), (4, false), (5, false), (6, false), (7, false), (8, true)] 9
                  (fun W => W.cell? ⟨b1, o1 + q, none⟩ = some u1 ∧ W.cell? ⟨b2, o2 + q, none⟩ = some u2) (by kernel_rfl) (by kernel_rfl) ⟨c1, c2⟩ ?_
                iterate 8
                  refine m_take (v := ?_) rfl rfl ?_ ?_
                  rotate_left
                  · intro W hW
                    go_simp
                    with_reducible rfl
                  simp only [Act.put, List.setIfInBounds_toArray, List.set_cons_zero, List.set_cons_succ]
                refine m_loud rfl (fun K hK => ?_)
                have HK := Lib.hid hK
                clear hK
                go_simp
                refine (same_calls _ _ _ _ _ D1.out D2.out).mono ?_
                rintro e y1 ⟨he, rfl⟩
                rw [beq_self_eq_true] at he
                subst he
                refine HK.out _ _ ⟨c1, c2⟩ ?_
                clear HK
                refine m_done ?_
                simp only [List.drop_succ_cons, List.drop_zero]
                go_wp2
                simp only [NP]
                go_wp2
                go_roundw
                case rel => exact ⟨q + 1, by omega, by go_num, HBQ.out.drew⟩
                case measure => simp [intOf]; omega
              · obtain rfl : q = n0 := by omega
                go_wp2_with fail
                go_ret
                exact ⟨rfl, HBW.out⟩
          · have q1 : (0 : Int) < n0 := by omega
            have q2 : ((n0 : Int) == 0) = false := by rw [beq_eq_false_iff_ne]; omega
            have q3 : (n0 : Int) - 1 = j := by omega
            have q4 : j < ps.length := by omega
            clear hj
            go_wp2_with fail
            go_loopw [11] (fun i wq => ∃ q : Nat, q ≤ n0 ∧ i = .int .i64 q ∧ Below wr.heap.size wr wq) (fun i _ => n0 - (intOf i).toNat)
            case atStart => exact ⟨0, by omega, rfl, Below.refl _ _⟩
            case round =>
              obtain ⟨q, hq, rfl, hbq⟩ := hrel
              have HBQ := Lib.hid hbq
              clear hbq
              have HBW := Lib.hid (HB3.out.trans (HBQ.out.mono HB3.out.size))
              by_cases hlt : q < n0
              · have hlt2 : q < pss.length := by omega
                obtain ⟨b1, o1, u1, rfl, hc1, hb1⟩ := HL3.out.sliceOf.at q (by rw [pays_length]; exact hlt)
                obtain ⟨b2, o2, u2, rfl, hc2, hb2⟩ := HV.out.at q hlt2
                rw [HELEM.out q hlt] at hb1
                have c1 := cell_later HBQ.out hc1
                have c2 := cell_later HBW.out hc2
                have D1 := Lib.hid (hb1.below (HBQ.out.drew) (Nat.le_refl _))
                have D2 := Lib.hid (hb2.below (HBW.out.drew) (Nat.le_refl _))
                clear hc1 hc2 hb1 hb2
                go_wp2_with fail
                refine region_m [(0, false), (1, false), (2, false), (3, false), (4, false), (5, false), (6, false), (7, false), (8, true)] 9
                  (fun W => W.cell? ⟨b1, o1 + q, none⟩ = some u1 ∧ W.cell? ⟨b2, o2 + q, none⟩ = some u2) (by kernel_rfl) (by kernel_rfl) ⟨c1, c2⟩ ?_
                iterate 8
                  refine m_take (v := ?_) rfl rfl ?_ ?_
                  rotate_left
                  · intro W hW
                    go_simp
                    with_reducible rfl
                  simp only [Act.put, List.setIfInBounds_toArray, List.set_cons_zero, List.set_cons_succ]
                refine m_loud rfl (fun K hK => ?_)
                have HK := Lib.hid hK
                clear hK
                go_simp
                refine (same_calls _ _ _ _ _ D1.out D2.out).mono ?_
                rintro e y1 ⟨he, rfl⟩
                rw [beq_self_eq_true] at he
                subst he
                refine HK.out _ _ ⟨c1, c2⟩ ?_
                clear HK
                refine m_done ?_
                simp only [List.drop_succ_cons, List.drop_zero]
                go_wp2
                simp only [NP]
                go_wp2
                go_roundw
                case rel => exact ⟨q + 1, by omega, by go_num, HBQ.out.drew⟩
                case measure => simp [intOf]; omega
              · obtain rfl : q = n0 := by omega
                go_wp2_with fail
                go_ret
                exact ⟨rfl, HBW.out⟩
  · rw [if_neg hall] at hr
    subst hr
    clear hall
    go_wp2_with fail
    go_ret
    exact ⟨rfl, HB2.out⟩
end Go.Proofs.Ytfmfmalhebfnhaa
