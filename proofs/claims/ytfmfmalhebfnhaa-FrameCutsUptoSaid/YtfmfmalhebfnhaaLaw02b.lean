/- Layer 2: FrameCuts walked. -/
import Derived.Test.YtfmfmalhebfnhaaFrame07
import Derived.Test.YtfmfmalhebfnhaaLaw02
namespace Go.Proofs.Ytfmfmalhebfnhaa
open Go.RowKit Go.Shelf CrcM FrM
attribute [local go_sem] Oper.semAt_some

theorem mod8 (n : Int) : ∃ M : Nat, (IntKind.u64.wrap n).tmod 8 = M ∧ M < 8 := by
  have h : 0 ≤ IntKind.u64.wrap n := by
    simp [IntKind.wrap, IntKind.bits, IntKind.signed]
    omega
  rw [Int.tmod_eq_emod_of_nonneg h]
  exact ⟨((IntKind.u64.wrap n) % 8).toNat, by omega, by omega⟩

/-- What FrameCuts' loop keeps. -/
structure CutsRel (w W0 : World) (xs : List UInt8) (v lv : Value) (ab am ai : Nat) (M : Nat) (n : Nat) (k : Nat) (W : World) : Prop where
  mc : W.cell? ⟨ab, 0, none⟩ = some (.int .i64 (1 + (M : Int)))
  rc : W.cell? ⟨ab + 1, 0, none⟩ = some (.bool false)
  rf : W.frozen? ⟨ab + 1, 0, none⟩ = false
  lc : W.cell? ⟨am, 0, none⟩ = some lv
  kp : ∀ j, ab + 2 ≤ j → j < ai → W.heap[j]? = W0.heap[j]?
  ic : W.cell? ⟨ai, 0, none⟩ = some (.int .i64 k)
  jf : W.frozen? ⟨ai, 0, none⟩ = false
  bc : W.cell? ⟨ai + 1, 0, none⟩ = some v
  b : Below w.heap.size w W
  sz : ai + 2 ≤ W.heap.size
theorem CutsRel.calm {w W0 : World} {xs : List UInt8} {v lv : Value} {ab am ai M n k B : Nat} {W W' : World} (hB : w.heap.size ≤ B) (hU : ai ≤ B) (hc : Calm B W W') (h : CutsRel w W0 xs v lv ab am ai M n k W) : CutsRel w W0 xs v lv ab am ai M n k W' := by
  obtain ⟨h1, h2, h3, h4, h5, h6, h7, h8, h9, h10⟩ := h
  exact ⟨hc.cell h1, hc.cell h2, (hc.frozen h2).trans h3, hc.cell h4, fun j hj hj2 => (hc.block j (by omega)).trans (h5 j hj hj2), hc.cell h6, (hc.frozen h6).trans h7, hc.cell h8, h9.trans (hc.below.mono hB), Nat.le_trans h10 hc.size⟩

set_option maxHeartbeats 1000000 in
set_option maxRecDepth 100000 in
theorem cuts_core (v : Value) (xs : List UInt8) (most : Int) (w : World) (hv : Bytes w v xs) (hm : -9223372036854775808 ≤ most ∧ most ≤ 9223372036854775807) (hlen : xs.length ≤ 1048576) :
    Calls Try.prog 5 #[v, .int .i64 most] w fun e w' => e = .returned (.bool true) ∧ Below w.heap.size w w' := by
  obtain ⟨n, hn⟩ := count_exists xs
  have HV := Lib.hid hv
  have HN := Lib.hid hn
  clear hn
  obtain ⟨a, cap, rfl, hl, hcap, -⟩ := hv
  obtain ⟨hm1, hm2⟩ := hm
  obtain ⟨M, hM, hM8⟩ := mod8 most
  refine (callsIn_wide (n := 0)).1 ?_
  refine callsIn_of_wp_marks Try.func5 rfl trivial ?_
  simp only [Try.ntmps5, List.size_toArray, List.length_cons, List.length_nil, Nat.reduceAdd, Nat.reduceSub, Array.replicate_succ, Array.replicate_zero, List.push_toArray, List.append_toArray, List.nil_append, List.cons_append]
  have ba := ((Below.refl _ w).alloc (Nat.le_refl _) (.cells #[.int .i64 most] 3)).alloc (by simp) (.cells #[.bool false] 4)
  have xs0 : ((w.alloc (.cells #[.int .i64 most] 3)).alloc (.cells #[.bool false] 4)).heap.size = w.heap.size + 2 := by simp
  have c3 : ((w.alloc (.cells #[.int .i64 most] 3)).alloc (.cells #[.bool false] 4)).cell? ⟨w.heap.size, 0, none⟩ = some (.int .i64 most) := by
    rw [World.cell?_alloc_past _ _ _ (by simp), World.cell?_alloc_at _ _ _ _ rfl]; rfl
  have f3 : ((w.alloc (.cells #[.int .i64 most] 3)).alloc (.cells #[.bool false] 4)).frozen? ⟨w.heap.size, 0, none⟩ = false := by
    rw [World.frozen?_alloc_past _ _ _ (by simp), World.frozen?_alloc_at _ _ _ _ rfl]
  have c4 : ((w.alloc (.cells #[.int .i64 most] 3)).alloc (.cells #[.bool false] 4)).cell? ⟨w.heap.size + 1, 0, none⟩ = some (.bool false) := by
    rw [World.cell?_alloc_at _ _ _ _ (by simp)]; rfl
  have f4 : ((w.alloc (.cells #[.int .i64 most] 3)).alloc (.cells #[.bool false] 4)).frozen? ⟨w.heap.size + 1, 0, none⟩ = false := by
    rw [World.frozen?_alloc_at _ _ _ _ (by simp)]
  have BA := Lib.hid ba
  have F := Lib.hid (And.intro xs0 (And.intro c3 (And.intro f3 (And.intro c4 f4))))
  clear ba xs0 c3 f3 c4 f4
  gi_wp2_with (gi_at_call 16; refine (callsIn_wide.2 (cut_calls _ xs n _ (HV.out.below BA.out (Nat.le_refl _)) (by omega) HN.out)).mono ?_; rintro e w1 ⟨l1, rfl, hl1, hb1⟩; have HL1 := Lib.hid hl1; have HB1 := Lib.hid hb1; have BB1 := Lib.hid (BA.out.trans (hb1.mono BA.out.size)); clear hl1 hb1)
  generalize (w.alloc (.cells #[.int .i64 most] 3)).alloc (.cells #[.bool false] 4) = X at *
  obtain ⟨S, hS⟩ : ∃ S, S = w.heap.size := ⟨_, rfl⟩
  rw [← hS] at F ⊢
  have HSZ := Lib.hid hS
  clear hS
  refine (callsIn_wide.2 (rcut_calls _ xs n _ (HV.out.below BB1.out (Nat.le_refl _)) (by omega) HN.out)).mono ?_
  rintro e w2 ⟨l2, rfl, hl2, hb2⟩
  obtain ⟨xs0, c3, f3, c4, f4⟩ := F.out
  have BB2 := Lib.hid (BB1.out.trans (hb2.mono BB1.out.size))
  have hx2 := HB1.out.trans (hb2.mono HB1.out.size)
  have c3 := (World.cell?_of_block (a := ⟨S, 0, none⟩) (hx2.block S (by omega))).trans c3
  have f3 := (World.frozen?_of_block (a := ⟨S, 0, none⟩) (hx2.block S (by omega))).trans f3
  have c4 := (World.cell?_of_block (a := ⟨S + 1, 0, none⟩) (hx2.block (S + 1) (by omega))).trans c4
  have f4 := (World.frozen?_of_block (a := ⟨S + 1, 0, none⟩) (hx2.block (S + 1) (by omega))).trans f4
  have hsz2 : S + 2 ≤ w2.heap.size := by have := hx2.size; omega
  have HL12 := Lib.hid (HL1.out.below hb2 (Nat.le_refl _))
  obtain ⟨ga, gc, hls⟩ := hl2.slice'
  rw [pays_length] at hls
  subst hls
  have hs1 : S + 2 ≤ w1.heap.size := by have := HB1.out.size; omega
  have HL2 := Lib.hid (hl2.mono hs1)
  clear hl2 hb2 hx2 F xs0 HB1 BA HL1
  generalize hT : w2.heap.size = T at *
  have HT := Lib.hid hT
  clear hT
  gi_wp2_with fail
  have y2 := (Below.refl w2.heap.size w2).alloc (Nat.le_refl _) (.cells #[.slice ga n gc] 36)
  have y2s : (w2.alloc (.cells #[.slice ga n gc] 36)).heap.size = T + 1 := by rw [← HT.out]; simp
  have c7 : (w2.alloc (.cells #[.slice ga n gc] 36)).cell? ⟨T, 0, none⟩ = some (.slice ga n gc) := by
    rw [World.cell?_alloc_at _ _ _ _ HT.out.symm]; rfl
  refine (callsIn_wide.2 (known_calls _)).mono ?_
  rintro e w3 ⟨rfl, hb3⟩
  have hb3' := y2.trans (hb3.mono (by simp))
  have d3 := cell_later hb3' c3
  have d4 := cell_later hb3' c4
  have d7 := cell_later hb3 c7
  have e3 := (World.frozen?_of_block (a := ⟨S, 0, none⟩) (hb3'.block S (by have := HT.out; omega))).trans f3
  have e4 := (World.frozen?_of_block (a := ⟨S + 1, 0, none⟩) (hb3'.block (S + 1) (by have := HT.out; omega))).trans f4
  have ML1 := Lib.hid (HL12.out.below hb3' (Nat.le_refl _))
  have ML2 := Lib.hid (HL2.out.below hb3' (Nat.le_refl _))
  have BB3 := Lib.hid (BB2.out.trans (hb3'.mono BB2.out.size))
  have hs3 : T + 1 ≤ w3.heap.size := by have := hb3.size; omega
  clear hb3 hb3' c3 c4 c7 f3 f4 y2 y2s HL12 HL2 BB2 BB1
  rw [HT.out]
  gi_wp2_with fail
  refine (callsIn_wide.2 (samel_calls _ _ (pays xs n) (pays xs n) _ ML1.out.sliceOf ML2.out.sliceOf)).mono ?_
  rintro e w4 ⟨he, hb4⟩
  rw [beq_self_eq_true] at he
  subst he
  have c3 := cell_later hb4 d3
  have c4 := cell_later hb4 d4
  have c7 := cell_later hb4 d7
  have f3 := (World.frozen?_of_block (a := ⟨S, 0, none⟩) (hb4.block S (by omega))).trans e3
  have f4 := (World.frozen?_of_block (a := ⟨S + 1, 0, none⟩) (hb4.block (S + 1) (by omega))).trans e4
  have NL2 := Lib.hid (ML2.out.below hb4 (Nat.le_refl _))
  have BB4 := Lib.hid (BB3.out.trans (hb4.mono BB3.out.size))
  have hs4 : T + 1 ≤ w4.heap.size := by have := hb4.size; omega
  clear hb4 d3 d4 d7 e3 e4 ML1 ML2 BB3 hs3
  gi_wp2_with (gi_at_call 19; refine (all_calls _ _ _ _).mono ?_; rintro e w5 ⟨rfl, rfl⟩)
  have hrel0 : CutsRel w w4 xs (.slice a xs.length cap) (.slice ga n gc) S T w4.heap.size M n 0 (((w4.setCell ⟨S, 0, none⟩ (.int .i64 (1 + (M : Int)))).alloc (.cells #[.int .i64 0] 3)).alloc (.cells #[.slice a xs.length cap] 22)) := by
    have hw := HSZ.out
    refine ⟨?_, ?_, ?_, ?_, ?_, ?_, ?_, ?_, ((BB4.out.setCell (by simp; omega) _).alloc (by simp; have := BB4.out.size; omega) _).alloc (by simp; have := BB4.out.size; omega) _, by simp⟩
    · rw [World.cell?_alloc_past _ _ _ (by simp; omega), World.cell?_alloc_past _ _ _ (by simp; omega), cell_set_same _ c3]
    · rw [World.cell?_alloc_past _ _ _ (by simp; omega), World.cell?_alloc_past _ _ _ (by simp; omega), cell_set_block _ (by omega), c4]
    · rw [World.frozen?_alloc_past _ _ _ (by simp; omega), World.frozen?_alloc_past _ _ _ (by simp; omega), frozen_set, f4]
    · rw [World.cell?_alloc_past _ _ _ (by simp; omega), World.cell?_alloc_past _ _ _ (by simp; omega), cell_set_block _ (by omega), c7]
    · intro j hj hj2
      rw [Below.heap_alloc _ _ j (by simp; omega), Below.heap_alloc _ _ j (by simp; omega), heap_setCell_other w4 ⟨S, 0, none⟩ j _ (by simp; omega)]
    · rw [World.cell?_alloc_past _ _ _ (by simp), World.cell?_alloc_at _ _ _ _ (by simp)]; rfl
    · rw [World.frozen?_alloc_past _ _ _ (by simp), World.frozen?_alloc_at _ _ _ _ (by simp)]
    · rw [World.cell?_alloc_at _ _ _ _ (by simp)]; rfl
  have hYs : (((w4.setCell ⟨S, 0, none⟩ (.int .i64 (1 + (M : Int)))).alloc (.cells #[.int .i64 0] 3)).alloc (.cells #[.slice a xs.length cap] 22)).heap.size = w4.heap.size + 2 := by simp
  generalize ((w4.setCell ⟨S, 0, none⟩ (.int .i64 (1 + (M : Int)))).alloc (.cells #[.int .i64 0] 3)).alloc (.cells #[.slice a xs.length cap] 22) = Y at *
  have hUS : S + 2 ≤ w4.heap.size := by omega
  have hUT : T + 1 ≤ w4.heap.size := hs4
  clear c3 c4 c7 f3 f4 BB4 hs4
  generalize hU4 : w4.heap.size = U at *
  have HU4 := Lib.hid hU4
  clear hU4
  refine range_w (gf := 30) (lb := #[.pointer (some ⟨U + 1, 0, none⟩)]) rfl (enters_of Try.func30 (by kernel_rfl) rfl)
    (fun k W => k ≤ M ∧ CutsRel w w4 xs (.slice a xs.length cap) (.slice ga n gc) S T U M n k W) (fun c W => c = .exit 0 ∧ M + 1 ≤ n ∧ CutsRel w w4 xs (.slice a xs.length cap) (.slice ga n gc) S T U M n (M + 1) W) (AStep xs n (U + 2)) (fun k => k = n) 0
    (fun st W W' hc h => ⟨h.1, h.2.calm (by have := HSZ.out; omega) (by omega) hc⟩) (fun _ _ _ hc h => ⟨h.1, h.2.1, h.2.2.calm (by have := HSZ.out; omega) (by omega) hc⟩) ⟨Nat.zero_le _, hrel0⟩ ?iter ?body ?done ?stop
  case iter =>
    intro l J' Jx' W hm _ hJJ hc hJ0 hy
    exact all1_iter xs (.slice a xs.length cap) n (U + 2) (U + 1) l J' Jx' W HN.out (by omega) hm (fun s' W' h => ⟨HV.out.below (hJJ _ _ h).2.b (Nat.le_refl _), (hJJ _ _ h).2.bc, (hJJ _ _ h).2.sz⟩) hy hJ0
  case body =>
    intro l k args k' W hr hst hsz
    obtain ⟨hkn, rfl, p, rfl, hp⟩ := hst
    obtain ⟨hkM, hr⟩ := hr
    refine ⟨rfl, ?_⟩
    gi_wp2
    refine ⟨KeepsOthers.refl _, fun W₂ hc => ?_⟩
    have hr2 := hr.calm (by have := HSZ.out; omega) (by omega) hc
    have hp2 := hp.calm hc
    clear hr hrel0 hp hc
    obtain ⟨pa, pc, rfl⟩ := hp2.slice
    obtain ⟨b1, o1, u1, hga, ce, hbe⟩ := (NL2.out.blocks (w' := W₂) (fun j hj hj2 => hr2.kp j hj (by have := HU4.out; omega))).sliceOf.at k (by rw [pays_length]; exact hkn)
    subst hga
    have hpk : (pays xs n)[k]'(by rw [pays_length]; exact hkn) = pay xs k := by simp [pays]
    rw [hpk] at hbe
    have HR := Lib.hid hr2
    have HP := Lib.hid hp2.bytes
    have HE := Lib.hid hbe
    have m1 := hr2.mc
    have m2 := hr2.lc
    have m3 := hr2.ic
    have m4 := hr2.jf
    clear hr2 hp2 hbe hpk
    gi_wp2_with fail
    refine (CallsIn.inRound l (callsIn_wide.2 (same_calls _ _ _ _ _ HP.out HE.out))).mono ?_
    rintro e y1 ⟨he, rfl⟩
    rw [beq_self_eq_true] at he
    subst he
    have hfin : CutsRel w w4 xs (.slice a xs.length cap) (.slice (some ⟨b1, o1, none⟩) n gc) S T U M n (k + 1) (y1.setCell ⟨U, 0, none⟩ (.int .i64 ((k : Int) + 1))) := by
      have hr := HR.out
      have hw := HSZ.out
      refine ⟨?_, ?_, ?_, ?_, ?_, ?_, ?_, ?_, hr.b.setCell (by simp; omega) _, by simp only [World.size_setCell]; exact hr.sz⟩
      · rw [cell_set_block _ (by omega), hr.mc]
      · rw [cell_set_block _ (by omega), hr.rc]
      · rw [frozen_set, hr.rf]
      · rw [cell_set_block _ (by omega), hr.lc]
      · intro j hj hj2
        rw [heap_setCell_other y1 ⟨U, 0, none⟩ j _ (by simp; omega)]
        exact hr.kp j hj hj2
      · rw [cell_set_same _ hr.ic]; simp
      · rw [frozen_set, hr.jf]
      · rw [cell_set_block _ (by omega), hr.bc]
    have HF := Lib.hid hfin
    clear hfin
    by_cases hkm : k = M
    · subst hkm
      have hq : ((k : Int) + 1 == 1 + (k : Int)) = true := by rw [beq_iff_eq]; omega
      gi_wp2_with fail
      exact ⟨KeepsOthers.setCell _ _ _, rfl, by omega, HF.out⟩
    · have hq : ((k : Int) + 1 == 1 + (M : Int)) = false := by rw [beq_eq_false_iff_ne]; omega
      gi_wp2_with fail
      exact ⟨KeepsOthers.setCell _ _ _, by omega, HF.out⟩
  case done =>
    rintro D k W hD rfl ⟨hkM, hr⟩ hK
    have m1 := hr.mc
    have m2 := hr.lc
    have m3 := hr.ic
    have m4 := hr.rc
    have m5 := hr.rf
    have HB := Lib.hid hr.b
    clear hr hrel0
    gi_wp2_with fail
    have hw := HSZ.out
    have hK2 : (W.setCell ⟨S + 1, 0, none⟩ (.bool true)).heap[D]? = some (.deferred (some [])) := (heap_setCell_other W ⟨S + 1, 0, none⟩ D _ (by simp; omega)).trans hK
    refine ⟨by simp, .inl ⟨_, _, rfl, run_takeDeferred hK2, ?_⟩⟩
    have hcal := Calm.putObj (B := w.heap.size) (.deferred none) (by omega) hK2 rfl
    have hcc := hcal.cell (cell_set_same (.bool true) m4)
    refine ⟨.bool true, ?_, rfl, (HB.out.setCell (by simp; omega) _).trans hcal.below⟩
    simp [results, Try.results5, go_sem, hcc]
  case stop =>
    rintro D c W hD ⟨rfl, hMn, hr⟩ hK
    have m1 := hr.mc
    have m2 := hr.lc
    have m3 := hr.ic
    have m4 := hr.rc
    have m5 := hr.rf
    have HB := Lib.hid hr.b
    clear hr hrel0
    gi_wp2_with fail
    have hw := HSZ.out
    have hK2 : (W.setCell ⟨S + 1, 0, none⟩ (.bool true)).heap[D]? = some (.deferred (some [])) := (heap_setCell_other W ⟨S + 1, 0, none⟩ D _ (by simp; omega)).trans hK
    have hq : ((M : Int) + 1 == 1 + (M : Int)) = true := by rw [beq_iff_eq]; omega
    rw [hq]
    refine ⟨by simp, .inl ⟨_, _, rfl, run_takeDeferred hK2, ?_⟩⟩
    have hcal := Calm.putObj (B := w.heap.size) (.deferred none) (by omega) hK2 rfl
    have hcc := hcal.cell (cell_set_same (.bool true) m4)
    refine ⟨.bool true, ?_, rfl, (HB.out.setCell (by simp; omega) _).trans hcal.below⟩
    simp [results, Try.results5, go_sem, hcc]
end Go.Proofs.Ytfmfmalhebfnhaa
