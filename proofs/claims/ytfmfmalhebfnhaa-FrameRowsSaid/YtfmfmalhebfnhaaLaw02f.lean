/- Layer 2: FrameRows walked. -/
import Derived.Test.YtfmfmalhebfnhaaFrame07
import Derived.Test.YtfmfmalhebfnhaaLaw02
import Derived.Test.YtfmfmalhebfnhaaLaw02c
import Derived.Test.YtfmfmalhebfnhaaFrameMath4
import Derived.Lib.SlBytesConst
namespace Go.Proofs.Ytfmfmalhebfnhaa
open Go.RowKit Go.Shelf CrcM FrM
attribute [local go_sem] Oper.semAt_some

theorem mod15 (n : Int) : ∃ M : Nat, (IntKind.u64.wrap n).tmod 15 = M ∧ M < 15 := by
  have h : 0 ≤ IntKind.u64.wrap n := by
    simp [IntKind.wrap, IntKind.bits, IntKind.signed]
    omega
  rw [Int.tmod_eq_emod_of_nonneg h]
  exact ⟨((IntKind.u64.wrap n) % 15).toNat, by omega, by omega⟩

/-- What FrameRows' second loop keeps. -/
structure RowsRel (w W0 : World) (pss : List (List UInt8)) (v bv : Value) (S U j : Nat) (W : World) : Prop where
  pc : W.cell? ⟨S, 0, none⟩ = some v
  rc : W.cell? ⟨S + 1, 0, none⟩ = some (.bool false)
  rf : W.frozen? ⟨S + 1, 0, none⟩ = false
  kp : ∀ i, S + 2 ≤ i → i < U → W.heap[i]? = W0.heap[i]?
  kc : ∃ k : Nat, W.cell? ⟨U, 0, none⟩ = some (.int .i64 k) ∧ Scanned pss k j
  kf : W.frozen? ⟨U, 0, none⟩ = false
  bc : W.cell? ⟨U + 1, 0, none⟩ = some bv
  b : Below w.heap.size w W
  sz : U + 2 ≤ W.heap.size
theorem RowsRel.calm {w W0 : World} {pss : List (List UInt8)} {v bv : Value} {S U j B : Nat} {W W' : World} (hB : w.heap.size ≤ B) (hU : U ≤ B) (hc : Calm B W W') (h : RowsRel w W0 pss v bv S U j W) : RowsRel w W0 pss v bv S U j W' := by
  obtain ⟨h1, h2, h3, h4, ⟨k, h5, h6⟩, h7, h8, h9, h10⟩ := h
  exact ⟨hc.cell h1, hc.cell h2, (hc.frozen h2).trans h3, fun j hj hj2 => (hc.block j (by omega)).trans (h4 j hj hj2), ⟨k, hc.cell h5, h6⟩, (hc.frozen h5).trans h7, hc.cell h8, h9.trans (hc.below.mono hB), Nat.le_trans h10 hc.size⟩

theorem RowsRel.step {w W0 : World} {pss : List (List UInt8)} {v bv : Value} {S U j : Nat} {W : World} (h : RowsRel w W0 pss v bv S U j W) (hS : S = w.heap.size) (hU : S + 2 ≤ U) (k j' : Nat) (hk : Scanned pss k j') : RowsRel w W0 pss v bv S U j' (W.setCell ⟨U, 0, none⟩ (.int .i64 k)) := by
  obtain ⟨h1, h2, h3, h4, ⟨k0, h5, h6⟩, h7, h8, h9, h10⟩ := h
  refine ⟨?_, ?_, ?_, ?_, ⟨k, ?_, hk⟩, ?_, ?_, h9.setCell (by simp; omega) _, by simp only [World.size_setCell]; exact h10⟩
  · rw [cell_set_block _ (by omega), h1]
  · rw [cell_set_block _ (by omega), h2]
  · rw [frozen_set, h3]
  · intro i hi hi2
    rw [heap_setCell_other W ⟨U, 0, none⟩ i _ (by simp; omega)]
    exact h4 i hi hi2
  · rw [cell_set_same _ h5]
  · rw [frozen_set, h7]
  · rw [cell_set_block _ (by omega), h8]
theorem RowsRel.drew {w W0 : World} {pss : List (List UInt8)} {v bv : Value} {S U j : Nat} {W : World} (h : RowsRel w W0 pss v bv S U j W) : RowsRel w W0 pss v bv S U j W.drew :=
  ⟨h.pc, h.rc, h.rf, h.kp, h.kc, h.kf, h.bc, h.b.drew, h.sz⟩
def kval (W : World) (U : Nat) : Nat := match W.cell? ⟨U, 0, none⟩ with
  | some v => (intOf v).toNat
  | none => 0
theorem kval_of {W : World} {U : Nat} {k : Nat} (h : W.cell? ⟨U, 0, none⟩ = some (.int .i64 k)) : kval W U = k := by unfold kval; rw [h]; simp [intOf]

theorem bytes_marked (W : World) (cs : Array Value) (e : TypeId) (mk : Nat × Nat) (n : Nat) (xs : List UInt8) (he : bvs xs = cs.toList) (hn : xs.length = n) (hm : n ≤ 9223372036854775807) : Bytes (W.alloc (.cells cs e mk)) (.slice (some ⟨W.heap.size, 0, none⟩) n n) xs := by
  subst hn
  refine ⟨_, xs.length, rfl, Nat.le_refl _, hm, .inr ⟨_, _, rfl, fun i hi => ?_⟩⟩
  have h := bvs_get xs i hi
  rw [he] at h
  simp only [World.cell?, World.alloc, Array.getElem?_push_size, Nat.zero_add]
  simpa using h

theorem bvs_torn : bvs [116, 111, 114, 110] = [.int .u8 116, .int .u8 111, .int .u8 114, .int .u8 110] := rfl

set_option maxHeartbeats 2000000 in
set_option maxRecDepth 100000 in
theorem rows_core (v : Value) (pss : List (List UInt8)) (torn : Int) (w : World) (hv : SliceOf Bytes w v pss) (hm : -9223372036854775808 ≤ torn ∧ torn ≤ 9223372036854775807) :
    Calls Try.prog 9 #[v, .int .i64 torn] w fun e w' => e = .returned (.bool true) ∧ Below w.heap.size w w' := by
  have HV := Lib.hid hv
  obtain ⟨vs, hrd, -⟩ := hv
  obtain ⟨a, cap, rfl, hvl, hle, hcap, -⟩ := hrd
  clear hvl
  obtain ⟨hm1, hm2⟩ := hm
  obtain ⟨M, hM, hM15⟩ := mod15 torn
  refine (callsIn_wide (n := 0)).1 ?_
  refine callsIn_of_wp_marks Try.func9 rfl trivial ?_
  simp only [Try.ntmps9, List.size_toArray, List.length_cons, List.length_nil, Nat.reduceAdd, Nat.reduceSub, Array.replicate_succ, Array.replicate_zero, List.push_toArray, List.append_toArray, List.nil_append, List.cons_append]
  have ba := ((Below.refl _ w).alloc (Nat.le_refl _) (.cells #[.slice a pss.length cap] 36)).alloc (by simp) (.cells #[.bool false] 4)
  have xs0 : ((w.alloc (.cells #[.slice a pss.length cap] 36)).alloc (.cells #[.bool false] 4)).heap.size = w.heap.size + 2 := by simp
  have c3 : ((w.alloc (.cells #[.slice a pss.length cap] 36)).alloc (.cells #[.bool false] 4)).cell? ⟨w.heap.size, 0, none⟩ = some (.slice a pss.length cap) := by
    rw [World.cell?_alloc_past _ _ _ (by simp), World.cell?_alloc_at _ _ _ _ rfl]; rfl
  have c4 : ((w.alloc (.cells #[.slice a pss.length cap] 36)).alloc (.cells #[.bool false] 4)).cell? ⟨w.heap.size + 1, 0, none⟩ = some (.bool false) := by
    rw [World.cell?_alloc_at _ _ _ _ (by simp)]; rfl
  have f4 : ((w.alloc (.cells #[.slice a pss.length cap] 36)).alloc (.cells #[.bool false] 4)).frozen? ⟨w.heap.size + 1, 0, none⟩ = false := by
    rw [World.frozen?_alloc_at _ _ _ _ (by simp)]
  have BA := Lib.hid ba
  have F := Lib.hid (And.intro xs0 (And.intro c3 (And.intro c4 f4)))
  clear ba xs0 c3 c4 f4
  gi_wp2_with fail
  generalize (w.alloc (.cells #[.slice a pss.length cap] 36)).alloc (.cells #[.bool false] 4) = X at *
  obtain ⟨S, hS⟩ : ∃ S, S = w.heap.size := ⟨_, rfl⟩
  rw [← hS] at F ⊢
  have HSZ := Lib.hid hS
  clear hS
  refine (callsIn_wide.2 (known_calls _)).mono ?_
  rintro e w1 ⟨rfl, hb1⟩
  obtain ⟨xs0, c3, c4, f4⟩ := F.out
  have hX : X.heap.size = S + 2 := xs0
  have HX := Lib.hid hX
  have HF := Lib.hid (And.intro c3 (And.intro c4 f4))
  have HB1 := Lib.hid hb1
  clear hb1 F xs0 hX c3 c4 f4
  gi_wp2_with fail
  gi_loopw [5, 6, 7, 8, 9] (fun b n i _ _ wr => ∃ k : Nat, k ≤ 30 ∧ k ≤ pss.length ∧ i = .int .i64 k ∧ n = .int .i64 ((heads pss k).length : Nat) ∧ Mine wr (S + 2) b (rowOf (heads pss k)) ∧ (rowOf (heads pss k)).length ≤ 65548 * k ∧ Below X.heap.size X wr) (fun _ _ i _ _ _ => 30 - (intOf i).toNat)
  case atStart => exact ⟨0, by omega, by omega, rfl, by rw [heads_zero]; rfl, by rw [heads_zero]; exact Mine.nil _ _, by rw [heads_zero]; simp [rowOf], HB1.out⟩
  case round =>
    obtain ⟨k, hk30, hk, rfl, rfl, hm, hrl, hb⟩ := hrel
    have hal := heads_length pss k
    have c3 := cell_later hb HF.out.1
    have HM := Lib.hid hm
    have HB := Lib.hid hb
    clear hm hb
    by_cases hlt : k < 30 ∧ k < pss.length
    · obtain ⟨hl1, hl2⟩ := hlt
      obtain ⟨b1, o1, u1, rfl, hc1, hb1⟩ := HV.out.at k hl2
      have HBW := Lib.hid (BA.out.trans (HB.out.mono BA.out.size))
      have c1 := cell_later HBW.out hc1
      have D1 := Lib.hid (hb1.below HBW.out (Nat.le_refl _))
      clear hc1 hb1
      gi_wp2_with fail
      refine (callsIn_wide.2 (put_calls _ _ _ D1.out)).mono ?_
      rintro e w2 ⟨r1, cc1, rfl, hp1, hb1⟩
      by_cases hbig : pss[k].length ≤ 65536
      · unfold PutOut at hp1
        rw [if_pos hbig] at hp1
        obtain ⟨hm1, rfl⟩ := hp1
        have hrow : rowOf (heads pss (k + 1)) = rowOf (heads pss k) ++ frameOf pss[k] := by rw [heads_yes pss k hl2 hbig, rowOf_append, rowOf_one]
        have hn1 : (heads pss (k + 1)).length = (heads pss k).length + 1 := by rw [heads_yes pss k hl2 hbig]; simp
        have hfl := frameOf_length pss[k]
        have HROW := Lib.hid hrow
        have HN1 := Lib.hid hn1
        have HX1 := Lib.hid hm1
        have HM1 := Lib.hid (HM.out.below hb1 (Nat.le_refl _))
        have HB1' := Lib.hid (HB.out.trans (hb1.mono HB.out.size))
        have hbs : S + 2 ≤ w2.heap.size := by have h1 := HB.out.size; have h2 := hb1.size; have h3 := HX.out; omega
        have hbd : (rowOf (heads pss k)).length + (frameOf pss[k]).length ≤ 65548 * (k + 1) := by omega
        have HBD := Lib.hid hbd
        obtain ⟨ra, rc, rfl⟩ := hm1.slice
        have HBX := Lib.hid (by have h := HB1'.out; rw [HX.out] at h; exact h)
        clear hm1 hb1 hrow hn1 hfl hbd
        gi_wp2_with (gi_at_builtin; go_loud (refine app_mineIn HM1.out HX1.out.bytes HBX.out hbs (by have := HBD.out; omega) rfl rfl rfl rfl ?_; intro v3 w3 hm3 hb3; have HM3 := Lib.hid hm3; have HB3 := Lib.hid hb3; clear hm3 hb3))
        go_roundw
        case rel =>
          refine ⟨k + 1, by omega, by omega, by go_num, ?_, ?_, ?_, ?_⟩
          · rw [HN1.out]; go_num
          · rw [HROW.out]; exact HM3.out
          · rw [HROW.out, List.length_append]; exact HBD.out
          · rw [HX.out]; exact HB3.out
        case measure => simp [intOf]; omega
      · unfold PutOut at hp1
        rw [if_neg hbig] at hp1
        obtain ⟨rfl, rfl⟩ := hp1
        have hno : heads pss (k + 1) = heads pss k := heads_no pss k hl2 (by omega)
        have HNO := Lib.hid hno
        have HM1 := Lib.hid (HM.out.below hb1 (Nat.le_refl _))
        have HB1' := Lib.hid (HB.out.trans (hb1.mono HB.out.size))
        clear hb1 hno
        gi_wp2_with fail
        go_roundw
        case rel =>
          exact ⟨k + 1, by omega, by omega, by go_num, by rw [HNO.out], by rw [HNO.out]; exact HM1.out, by rw [HNO.out]; omega, HB1'.out⟩
        case measure => simp [intOf]; omega
    · have hkm : k = min 30 pss.length := by omega
      have hgo := heads_all pss k hkm
      rw [hgo] at hal hrl HM
      rw [hgo]
      have HGO := Lib.hid hgo
      have hk3 : 30 ≤ k ∨ pss.length ≤ k := by omega
      clear hgo hkm
      obtain ⟨ba, bc, rfl⟩ := HM.out.slice
      clear hlt
      have hbw : S + 2 ≤ wr.heap.size := by have h1 := HB.out.size; have h3 := HX.out; omega
      have hlit := bytes_marked wr #[.int .u8 116, .int .u8 111, .int .u8 114, .int .u8 110] 5 (4, 5) 4 [116, 111, 114, 110] rfl rfl (by omega)
      have hal0 := (Below.refl wr.heap.size wr).alloc (Nat.le_refl _) (.cells #[.int .u8 116, .int .u8 111, .int .u8 114, .int .u8 110] 5 (4, 5))
      have HLIT := Lib.hid hlit
      have HM1 := Lib.hid (HM.out.below hal0 (Nat.le_refl _))
      have HB1' := Lib.hid (HB.out.trans (hal0.mono HB.out.size))
      have hw1s : (wr.alloc (.cells #[.int .u8 116, .int .u8 111, .int .u8 114, .int .u8 110] 5 (4, 5))).heap.size = wr.heap.size + 1 := by simp
      have kc := fun (w : World) (C : Array Value) (n c : Nat) => Lib.run_convert_bytes_const (P := Try.prog) w 22 5 C n c Try.underlying22 Try.underlying5
      clear hlit hal0
      rcases (show (k < pss.length ∧ ¬ ((k : Int) < 30)) ∨ (pss.length ≤ k ∧ ¬ ((k : Int) < pss.length)) from by omega) with ⟨hq, hq2⟩ | ⟨hq, hq2⟩
      all_goals
        gi_wp2_with fail
        refine (callsIn_wide.2 (put_calls _ [116, 111, 114, 110] _ HLIT.out)).mono ?_
        rintro e w2 ⟨r2, cc2, rfl, hp2, hb2⟩
        unfold PutOut at hp2
        rw [if_pos (by decide)] at hp2
        obtain ⟨hm2, rfl⟩ := hp2
        have hF : (frameOf [116, 111, 114, 110]).length = 16 := frameOf_length _
        obtain ⟨F, hFe⟩ : ∃ F, F = frameOf [116, 111, 114, 110] := ⟨_, rfl⟩
        rw [← hFe] at hm2 hF
        obtain ⟨fa, fc, rfl⟩ := hm2.slice
        have HM2 := Lib.hid (HM1.out.below hb2 (Nat.le_refl _))
        have HB2 := Lib.hid (by have h := HB1'.out.trans (hb2.mono HB1'.out.size); rw [HX.out] at h; exact h)
        have hbs2 : S + 2 ≤ w2.heap.size := by have := hb2.size; omega
        have HT2 := Lib.hid (hm2.bytes.take' (1 + M) (by omega))
        have hfc : 16 ≤ fc := by
          obtain ⟨a', c', e', h1, -⟩ := hm2.bytes
          simp only [Value.slice.injEq] at e'
          omega
        obtain ⟨xs, hxs⟩ : ∃ xs, xs = rowOf (goods pss) ++ F.take (1 + M) := ⟨_, rfl⟩
        have htl : (F.take (1 + M)).length = 1 + M := by rw [List.length_take]; omega
        have hxl : xs.length ≤ 2000000 := by rw [hxs, List.length_append, htl]; omega
        have htc := torn_count (goods pss) (goods_fit pss) [116, 111, 114, 110] (1 + M) (by simp) (by simp; omega) xs (by rw [hxs, hFe])
        rw [hF]
        have HTC := Lib.hid htc
        have HXS := Lib.hid hxs
        have HTL := Lib.hid htl
        clear hm2 hb2 hF hFe htc hxs htl HM1 HB1' HLIT
        have hgl := goods_length pss
        have hM16 : (1 : Int) + M ≤ fc := by omega
        have hMt : ((1 : Int) + M).toNat = 1 + M := by omega
        gi_wp2_with (gi_at_builtin; go_loud (refine app_mineIn HM2.out HT2.out HB2.out hbs2 (by have := HTL.out; omega) rfl rfl rfl rfl ?_; rw [← HXS.out]; intro v3 w3 hm3 hb3; have HM3 := Lib.hid hm3; have HB3 := Lib.hid hb3; obtain ⟨xa, xc, rfl⟩ := hm3.slice; clear hm3 hb3))
        have hbs3 : S + 2 ≤ w3.heap.size := by have := HB3.out.size; have := HX.out; omega
        refine (callsIn_wide.2 (cut_calls _ xs (goods pss).length _ HM3.out.bytes (by omega) HTC.out.1)).mono ?_
        rintro e w4 ⟨l4, rfl, hl4, hb4⟩
        rw [HTC.out.2.1]
        obtain ⟨la, lc, hls⟩ := hl4.slice'
        rw [pays_length] at hls
        subst hls
        have HM4 := Lib.hid (HM3.out.below hb4 (Nat.le_refl _))
        have HB4 := Lib.hid (HB3.out.trans (hb4.mono hbs3))
        have hbs4 : S + 2 ≤ w4.heap.size := by have := hb4.size; omega
        clear hl4 hb4
        gi_wp2_with (gi_at_call 19; refine (all_calls _ _ _ _).mono ?_; rintro e w5 ⟨rfl, rfl⟩)
        have hrel0 : RowsRel w w4 pss (.slice a pss.length cap) (.slice xa xs.length xc) S w4.heap.size 0 ((w4.alloc (.cells #[.int .i64 0] 3)).alloc (.cells #[.slice xa xs.length xc] 22)) := by
          have hw := HSZ.out
          obtain ⟨p1, p2, p3⟩ := HF.out
          have hB4 := HB4.out
          have hXs := HX.out
          have q1 := (World.cell?_of_block (a := ⟨S, 0, none⟩) (hB4.block S (by omega))).trans p1
          have q2 := (World.cell?_of_block (a := ⟨S + 1, 0, none⟩) (hB4.block (S + 1) (by omega))).trans p2
          have q3 := (World.frozen?_of_block (a := ⟨S + 1, 0, none⟩) (hB4.block (S + 1) (by omega))).trans p3
          have hbl : Below w.heap.size w w4 := BA.out.trans (hB4.mono (by omega))
          refine ⟨?_, ?_, ?_, ?_, ⟨0, ?_, Scanned.start pss⟩, ?_, ?_, (hbl.alloc hbl.size _).alloc (by simp; have := hbl.size; omega) _, by simp⟩
          · rw [World.cell?_alloc_past _ _ _ (by simp; omega), World.cell?_alloc_past _ _ _ (by omega), q1]
          · rw [World.cell?_alloc_past _ _ _ (by simp; omega), World.cell?_alloc_past _ _ _ (by omega), q2]
          · rw [World.frozen?_alloc_past _ _ _ (by simp; omega), World.frozen?_alloc_past _ _ _ (by omega), q3]
          · intro j hj hj2
            rw [Below.heap_alloc _ _ j (by simp; omega), Below.heap_alloc _ _ j (by omega)]
          · rw [World.cell?_alloc_past _ _ _ (by simp), World.cell?_alloc_at _ _ _ _ (by simp)]; rfl
          · rw [World.frozen?_alloc_past _ _ _ (by simp), World.frozen?_alloc_at _ _ _ _ (by simp)]
          · rw [World.cell?_alloc_at _ _ _ _ (by simp)]; rfl
        have hYs : ((w4.alloc (.cells #[.int .i64 0] 3)).alloc (.cells #[.slice xa xs.length xc] 22)).heap.size = w4.heap.size + 2 := by simp
        generalize (w4.alloc (.cells #[.int .i64 0] 3)).alloc (.cells #[.slice xa xs.length xc] 22) = Y at *
        obtain ⟨U, hU⟩ : ∃ U, U = w4.heap.size := ⟨_, rfl⟩
        rw [← hU] at hrel0 hYs hbs4 ⊢
        have HU := Lib.hid hU
        clear hU
        refine range_w (gf := 30) (lb := #[.pointer (some ⟨U + 1, 0, none⟩)]) rfl (enters_of Try.func30 (by kernel_rfl) rfl)
          (fun j W => RowsRel w w4 pss (.slice a pss.length cap) (.slice xa xs.length xc) S U j W) (fun _ _ => False) (AStep xs (goods pss).length (U + 2)) (fun j => j = (goods pss).length) 0
          (fun st W W' hc h => h.calm (by have := HSZ.out; omega) (by omega) hc) (fun _ _ _ _ h => h) hrel0 ?iter ?body ?done (fun _ _ _ _ h => h.elim)
        case iter =>
          intro l J' Jx' W hm _ hJJ hc hJ0 hy
          exact all1_iter xs (.slice xa xs.length xc) (goods pss).length (U + 2) (U + 1) l J' Jx' W HTC.out.1 (by omega) hm
            (fun s' W' h => ⟨Mine.bytes (base := S + 2) (ownsRow_blocks (w' := W') HM4.out (fun j h1 h2 => (hJJ _ _ h).kp j h1 (by have := HU.out; omega))), (hJJ _ _ h).bc, (hJJ _ _ h).sz⟩) hy hJ0
        case body =>
          intro l j args j' W hr hst hsz
          obtain ⟨hjn, rfl, p, rfl, hp⟩ := hst
          refine ⟨rfl, ?_⟩
          gi_wp2
          refine ⟨KeepsOthers.refl _, fun W₂ hc => ?_⟩
          have hr2 := hr.calm (by have := HSZ.out; omega) (by omega) hc
          have hp2 := hp.calm hc
          clear hr hrel0 hp hc
          have hpj : pay xs j = (goods pss)[j] := by
            have h := HTC.out.2.2
            have h1 : (pays xs (goods pss).length)[j]? = some (pay xs j) := by simp [pays, hjn]
            rw [h, List.getElem?_eq_getElem hjn] at h1
            exact (Option.some.inj h1).symm
          rw [hpj] at hp2
          obtain ⟨pa, pc, rfl⟩ := hp2.slice
          have HR2 := Lib.hid hr2
          have HP2 := Lib.hid hp2
          clear hr2 hp2 hpj
          gi_wp2_with fail
          gi_loopw [] (fun wq => RowsRel w w4 pss (.slice a pss.length cap) (.slice xa xs.length xc) S U j wq ∧ Mine wq (U + 2) (.slice pa (goods pss)[j].length pc) (goods pss)[j] ∧ KeepsOthers W₂ wq) (fun wq => 30 - kval wq U)
          case atStart => exact ⟨HR2.out, HP2.out, KeepsOthers.refl _⟩
          case round =>
            obtain ⟨hrr, hpp, hkk⟩ := hrel
            obtain ⟨kq, hkc, hsc⟩ := hrr.kc
            have hlt := hsc.lt hjn
            obtain ⟨hlt1, hlt2⟩ := hlt
            have hkf := hrr.kf
            have hpc := hrr.pc
            obtain ⟨b1, o1, u1, rfl, hc1, hb1⟩ := HV.out.at kq hlt2
            have c1 := cell_later hrr.b hc1
            have hb1' := hb1.below hrr.b (Nat.le_refl _)
            have D1 := Lib.hid hb1'
            obtain ⟨ua, uc, rfl, -⟩ := hb1'
            have HRR := Lib.hid hrr
            have HPP := Lib.hid hpp
            have HKK := Lib.hid hkk
            have hkv := kval_of hkc
            have HKV := Lib.hid hkv
            have HSC := Lib.hid hsc
            clear hrr hpp hkk hc1 hb1 hkv
            by_cases hbig : 65536 < (pss[kq]'hlt2).length
            · have hsk := hsc.skip hjn hbig
              have HSK := Lib.hid hsk
              clear hsk hsc
              gi_wp2_with fail
              go_roundw
              case rel => exact ⟨HRR.out.step (HSZ.out) hbs4 (kq + 1) j HSK.out, HPP.out.set _ _ (by simp), HKK.out.trans (KeepsOthers.setCell _ _ _)⟩
              case measure => 
                have h2 : kval (wr.setCell ⟨U, 0, none⟩ (.int .i64 ((kq + 1 : Nat) : Int))) U = kq + 1 := kval_of (cell_set_same _ hkc)
                have h1 := HKV.out
                simp only [Int.natCast_add, Int.cast_ofNat_Int] at h2 ⊢
                rw [h1, h2]; omega
            · have hsm : (pss[kq]'hlt2).length ≤ 65536 := by omega
              have heq : pss[kq]'hlt2 = (goods pss)[j] := (hsc.hit hjn hsm).1
              have hnx : Scanned pss (kq + 1) (j + 1) := (hsc.hit hjn hsm).2
              have HNX := Lib.hid hnx
              have d1 := D1.out
              rw [heq] at d1 c1 hsm
              have D2 := Lib.hid d1
              clear heq hnx hsc d1 D1 hbig
              gi_wp2_with fail
              have hd1 : decide ((pss.length : Int) ≤ (kq : Int)) = false := decide_eq_false (by omega)
              have hd2 : decide (pss.length ≤ kq) = false := decide_eq_false (by omega)
              refine region_mi [(0, false), (1, false), (2, false), (3, false), (4, false), (5, false), (6, false), (7, false), (8, false), (9, false), (10, false), (11, false), (12, false), (13, false)] 14
                (fun W => (W.cell? ⟨U, 0, none⟩ = some (.int .i64 kq) ∧ W.cell? ⟨S, 0, none⟩ = some (.slice (some ⟨b1, o1, none⟩) pss.length cap) ∧ W.cell? ⟨b1, o1 + kq, none⟩ = some (.slice ua (goods pss)[j].length uc)) ∧ Bytes W (.slice pa (goods pss)[j].length pc) (goods pss)[j] ∧ Bytes W (.slice ua (goods pss)[j].length uc) (goods pss)[j]) (by kernel_rfl) (by kernel_rfl) ⟨⟨hkc, hpc, c1⟩, HPP.out.bytes, D2.out⟩ ?_
              iterate 14
                refine m_take (v := ?_) rfl rfl ?_ ?_
                rotate_left
                · rintro W ⟨⟨x1, x2, x3⟩, y1, y2⟩
                  have z1 := run_bytes_str (P := Try.prog) (src := 22) (e := 5) (dst := 9) Try.underlying22 Try.underlying5 Try.underlying9 y1
                  have z2 := run_bytes_str (P := Try.prog) (src := 22) (e := 5) (dst := 9) Try.underlying22 Try.underlying5 Try.underlying9 y2
                  clear y1 y2
                  go_simp
                  with_reducible rfl
                simp only [Act.put, List.setIfInBounds_toArray, List.set_cons_zero, List.set_cons_succ]
              refine m_done ?_
              simp only [List.drop_succ_cons, List.drop_zero]
              go_wp2
              simp only [NP]
              gi_wp2_with fail
              exact ⟨(HKK.out.trans (KeepsOthers.setCell _ _ _)).trans (KeepsOthers.drew _), (HRR.out.step HSZ.out hbs4 (kq + 1) (j + 1) HNX.out).drew⟩
        case done =>
          rintro D j W hD rfl hr hK
          have m1 := hr.rc
          have m2 := hr.rf
          have HB := Lib.hid hr.b
          clear hr hrel0
          gi_wp2_with fail
          have hw := HSZ.out
          have hK2 : (W.setCell ⟨S + 1, 0, none⟩ (.bool true)).heap[D]? = some (.deferred (some [])) := (heap_setCell_other W ⟨S + 1, 0, none⟩ D _ (by simp; omega)).trans hK
          refine ⟨by simp, .inl ⟨_, _, rfl, run_takeDeferred hK2, ?_⟩⟩
          have hcal := Calm.putObj (B := w.heap.size) (.deferred none) (by omega) hK2 rfl
          have hcc := hcal.cell (cell_set_same (.bool true) m1)
          refine ⟨.bool true, ?_, rfl, (HB.out.setCell (by simp; omega) _).trans hcal.below⟩
          simp [results, Try.results9, go_sem, hcc]
end Go.Proofs.Ytfmfmalhebfnhaa
