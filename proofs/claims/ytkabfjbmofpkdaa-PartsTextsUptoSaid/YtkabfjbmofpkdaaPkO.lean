/- Walks and plain laws of the chapter, laid together; each part says what it proves. -/
import Derived.Test.YtkabfjbmofpkdaaPkC
import Derived.Test.YtkabfjbmofpkdaaPkG
import Derived.Test.YtkabfjbmofpkdaaPkN
/- Layer 14: Decode of a ledger's texts, walked. -/
namespace Go.Proofs.Ytkabfjbmofpkdaa
open Go.RowKit Go.Shelf
set_option linter.unusedVariables false
set_option linter.unusedSimpArgs false
set_option maxRecDepth 100000

theorem run_led {w : World} {b o : Nat} {L : Led} (h : w.rangeAt b o L.cells) : (loadVar 30 ⟨b, o, none⟩).run Try.prog w = .ok (.agg L.cells.toArray) w :=
  run_loadVar_mid (P := Try.prog) w b o 30 L.cells _ h Try.underlying30 rfl (by show _ = some 16; kernel_rfl)
theorem led_allT (L : Led) (h1 : L.rv.oneCell' = true) (h2 : L.ov.oneCell' = true) (h3 : L.bv.oneCell' = true) (h4 : L.gv.oneCell' = true) : L.cells.toArray.all (·.oneCell') = true := by
  refine all_oneCell_toArray (fun u hu => ?_)
  simp only [Led.cells, List.mem_cons, List.not_mem_nil, or_false] at hu
  rcases hu with rfl | rfl | rfl | rfl | rfl | rfl | rfl | rfl | rfl | rfl | rfl | rfl | rfl | rfl | rfl | rfl
  all_goals first | rfl | assumption
theorem own_oneT {w : World} {base sz n : Nat} {e : TypeId} {v : Value} {xs : List Value} (h : w.ownsRow base e sz v n xs) : v.oneCell' = true := by
  obtain ⟨a, c, rfl⟩ := own_slice h
  rfl
theorem LO.all {w : World} {base : Nat} {L : Led} (h : LO w base L) : L.cells.toArray.all (·.oneCell') = true := led_allT L (own_oneT h.rows) (own_oneT h.opn) (own_oneT h.bats) (own_oneT h.ops)
theorem decB_wf6 {s : ByteArray} {l : List Itc} (h : decB s = some l) : ∀ i ∈ l, wfI 65536 8 i := by
  have h1 := decB_wf h
  have h2 : s.size ≤ 65536 := by
    unfold decB dec at h
    split at h
    · cases h
    · rename_i hn
      rw [Array.length_toList] at hn
      have : s.size = s.data.size := rfl
      omega
  exact fun i hi => wfI_mono h2 (h1 i hi)
theorem decB_len65 {s : ByteArray} {l : List Itc} (h : decB s = some l) : l.length ≤ 65536 := by
  have h1 := decB_len h
  have h2 : s.size ≤ 65536 := by
    unfold decB dec at h
    split at h
    · cases h
    · rename_i hn
      rw [Array.length_toList] at hn
      have : s.size = s.data.size := rfl
      omega
  omega
theorem str_at {w : World} {a : Option Addr} {n cap : Nat} {ss : List ByteArray} (h : Rd w 1 (.slice a n cap) ss.length (strs ss)) (i : Nat) (hi : i < ss.length) : ∃ b o, a = some ⟨b, o, none⟩ ∧ w.cell? ⟨b, o + i, none⟩ = some (.string ss[i]) := by
  obtain ⟨a', cap', hv, h0, h1, h2, h3⟩ := h
  simp only [Value.slice.injEq] at hv
  obtain ⟨rfl, rfl, rfl⟩ := hv
  rcases h3 with h3 | ⟨b, o, rfl, hc⟩
  · omega
  · exact ⟨b, o, rfl, hc _ _ (by unfold strs; rw [List.getElem?_map, List.getElem?_eq_getElem hi]; rfl)⟩
theorem LI.none {ss : List ByteArray} {L : Led} (h : LI ss ss.length false L) : ledD ss = none := by
  have h1 := h.wh
  cases hf : foldTo ss ss.length with
  | none => exact ledD_none hf (Nat.le_refl _)
  | some M =>
    rw [hf] at h1
    have h2 : ¬ 0 < ss.length := by simpa using h1.symm
    unfold ledD
    rw [if_pos (by omega)]
theorem LI.some {ss : List ByteArray} {L : Led} (h : LI ss ss.length true L) : ∃ M, foldTo ss ss.length = Option.some M ∧ SameL M L ∧ 0 < ss.length := by
  have h1 := h.wh
  cases hf : foldTo ss ss.length with
  | none => rw [hf] at h1; simp at h1
  | some M =>
    rw [hf] at h1
    exact ⟨M, rfl, h.same M hf, by simpa using h1.symm⟩
theorem LO.same {w : World} {base : Nat} {L L' : Led} (h : LO w base L) (h1 : L'.rv = L.rv) (h2 : L'.rows = L.rows) (h3 : L'.ov = L.ov) (h4 : L'.opn = L.opn) (h5 : L'.bv = L.bv) (h6 : L'.bats = L.bats) (h7 : L'.gv = L.gv) (h8 : L'.ops = L.ops) : LO w base L' :=
  ⟨by rw [h1, h2]; exact h.rows, by rw [h3, h4]; exact h.opn, by rw [h5, h6]; exact h.bats, by rw [h6]; exact h.recs, by rw [h7, h8]; exact h.ops, by rw [h8]; exact h.ins⟩
theorem LS.fresh {w V V' : World} {L : Led} (h : LS w V L) (ho : Only (fun j => V.heap.size ≤ j) V V') : LS w V' L := by
  have h1 := h.lt
  exact ⟨there_only h.res ho (by omega) (by omega), ownsRow_only h.box ho (fun g hg e => by simp only [Value.ownBlock, Option.some.injEq] at hg; omega), h.own.only ho (fun j h1 h2 e => by omega), h.b.trans (ho.below h.b.size (fun j hj e => by have := h.b.size; omega))⟩
theorem ent_allT (E : Ent) (h : ∃ a n c, E.gv = .slice a n c) : E.cells.toArray.all (·.oneCell') = true := by
  refine all_oneCell_toArray (fun u hu => ?_)
  simp only [Ent.cells, List.mem_cons, List.not_mem_nil, or_false] at hu
  obtain ⟨a, n, c, h⟩ := h
  rcases hu with rfl | rfl | rfl | rfl | rfl | rfl | rfl | rfl
  all_goals first | rfl | (rw [h]; rfl)
theorem step_bad {t : ByteArray} {k : Nat} (h : decB t = none ∨ ∃ l, decB t = some l ∧ okD (k == 0) l = false) : ∀ M, stepT M (k == 0) t = none := by
  intro M
  unfold stepT
  rcases h with h | ⟨l, h, h2⟩
  · rw [h]
  · rw [h]
    exact if_neg (by rw [h2]; simp)
set_option maxHeartbeats 60000000 in
theorem pdec_calls (hE : EDec) : PDec := by
  intro sv ss w hrd hsz hlen hsm
  obtain ⟨sa, sc, rfl, hs1, hs2⟩ := Rd.slice hrd
  have HRD := Lib.hid hrd
  have HSZ := Lib.hid hsz
  have HSM := Lib.hid hsm
  obtain ⟨X, hX⟩ : ∃ X, X = (w.alloc (.cells zeroL.cells.toArray 30)).alloc (.cells zeroL.cells.toArray 30) := ⟨_, rfl⟩
  have hbX : Below w.heap.size w X := by rw [hX]; exact below_box (below_alloc _ _) _
  have HLS := Lib.hid (show LS w X zeroL from by
    refine ⟨?_, ?_, LO.zero _ _, hbX⟩
    · rw [hX]
      exact there_only (there_box (w := w) (cs := zeroL.cells.toArray) (e := 30) (Below.refl _ _)) (Only.of_below (S := fun _ => False) (below_alloc _ _)) (by simp) (fun h => h)
    · rw [hX]
      have := World.ownsRow_lit (base := w.heap.size + 1) (size := 16) (e := 30) (w.alloc (.cells zeroL.cells.toArray 30)) zeroL.cells.toArray 1 (by simp) (by unfold maxLen; omega) (by show 16 = 16; rfl)
      rwa [World.size_alloc] at this)
  have hXS : X.heap.size = w.heap.size + 2 := by rw [hX]; simp
  have HLI := Lib.hid (LI.zero ss)
  have HX := Lib.hid (show X = (w.alloc (.cells #[.slice none 0 0, .int .i64 0, .int .i64 0, .int .i64 0, .int .i64 0, .int .i64 0, .int .i64 0, .int .i64 0, .int .i64 0, .slice none 0 0, .slice none 0 0, .int .i64 0, .int .i64 0, .bool false, .slice none 0 0, .int .i64 0] 30)).alloc (.cells #[.slice none 0 0, .int .i64 0, .int .i64 0, .int .i64 0, .int .i64 0, .int .i64 0, .int .i64 0, .int .i64 0, .int .i64 0, .slice none 0 0, .slice none 0 0, .int .i64 0, .int .i64 0, .bool false, .slice none 0 0, .int .i64 0] 30) from hX)
  clear hrd hsz hsm hX hbX
  go_enter Try.func27, Try.ntmps27
  go_upto_region 2 with fail
  rw [← HX.out]
  go_wp2_with fail
  go_loopw [3, 5, 6, 7, 8, 9, 10, 11, 12, 13, 14, 20] (fun _ wv _ _ _ _ _ _ _ _ _ iv wr => ∃ (k : Nat) (wh : Bool) (L : Led), k ≤ ss.length ∧ iv = .int .i64 k ∧ wv = .bool wh ∧ LI ss k wh L ∧ LS w wr L) (fun _ _ _ _ _ _ _ _ _ _ _ iv _ => ss.length - (intOf iv).toNat)
  case atStart => exact ⟨0, _, zeroL, by omega, rfl, rfl, HLI.out, HLS.out⟩
  case round =>
    clear HLI HLS
    obtain ⟨k, wh, L, hk, rfl, rfl, hli, hls⟩ := hrel
    have HLI := Lib.hid hli
    have HLS := Lib.hid hls
    have hkl := hli.len
    have hlt0 := hls.lt
    have HRES := Lib.hid hls.res
    have HBB := Lib.hid hls.b
    clear hli hls
    by_cases hlt : k < ss.length
    · have htx : ss[k]? = some ss[k] := List.getElem?_eq_getElem hlt
      obtain ⟨b, o, rfl, d0⟩ := str_at (Rd.below HRD.out HBB.out (Nat.le_refl _)) k hlt
      have hts := HSZ.out ss[k] (List.getElem_mem _)
      generalize ss[k] = t at *
      have HTX := Lib.hid htx
      obtain ⟨w1, cap, hcv, hb1, hby⟩ := conv_str t wr hts
      have HLS1 := Lib.hid (HLS.out.later hb1)
      have HBY := Lib.hid hby
      have HTL := Lib.hid (show t.data.toList.length ≤ 9223372036854775807 by rw [Array.length_toList]; exact hts)
      clear htx hb1 hby
      go_wp2_with fail
      refine (wdecode_calls _ _ w1 HBY.out HTL.out).mono ?_
      rintro e w2 ⟨lv, cd, rfl, hb2, ⟨la, ln, lc, rfl⟩, hres⟩
      have HLS2 := Lib.hid (HLS1.out.later hb2)
      have HRES := Lib.hid HLS2.out.res
      have HBB := Lib.hid HLS2.out.b
      unfold DecRes at hres
      clear hcv HBY hb2 d0 HLS HLS1
      cases hd : dec t.data.toList with
      | none =>
        rw [hd] at hres
        have hcd : (cd != 0) = true := by simpa using hres.1
        have HNONE := Lib.hid (show ledD ss = none from HLI.out.bad HTX.out (step_bad (.inl hd)))
        clear hres hd
        go_wp2_with (first | (refine wpList_store_mid rfl 30 _ _ rfl (w.heap.size) 0 (Led.cells zeroL).toArray rfl rfl HRES.out (by show _ = some 16; kernel_rfl) (LO.zero w 0).all ?_) | (refine wp_store_mid 30 _ _ rfl (w.heap.size) 0 (Led.cells zeroL).toArray rfl rfl HRES.out (by show _ = some 16; kernel_rfl) (LO.zero w 0).all ?_))
        refine bodyPost_ret (v := .tuple #[.agg (Led.cells zeroL).toArray, .int .i64 3]) (res_cell2 Try.results27 rfl (run_led (L := zeroL) (World.rangeAt_setCells_same w2 w.heap.size 0 _ HRES.out))) rfl ⟨zeroL, 3, rfl, LO.zero _ _, HBB.out.trans ((onlyC w2 w.heap.size (Led.cells zeroL) 0).below HBB.out.size (fun j hj e => by omega)), .inr ⟨rfl, HNONE.out, rfl⟩⟩
      | some l =>
        rw [hd] at hres
        obtain ⟨rfl, hits⟩ := hres
        obtain ⟨a', c', hv', hlc, -⟩ := hits.slice
        simp only [Value.slice.injEq] at hv'
        obtain ⟨rfl, rfl, rfl⟩ := hv'
        have HITS := Lib.hid hits
        have HDB := Lib.hid (show decB t = some l from hd)
        have HWF := Lib.hid (show ∀ i ∈ l, wfI 65536 8 i from decB_wf6 hd)
        have hl65 : l.length ≤ 65536 := decB_len65 hd
        clear hd hits
        cases l with
        | nil =>
          have HNONE := Lib.hid (show ledD ss = none from HLI.out.bad HTX.out (step_bad (.inr ⟨_, HDB.out, rfl⟩)))
          go_wp2_with (first | (refine wpList_store_mid rfl 30 _ _ rfl (w.heap.size) 0 (Led.cells zeroL).toArray rfl rfl HRES.out (by show _ = some 16; kernel_rfl) (LO.zero w 0).all ?_) | (refine wp_store_mid 30 _ _ rfl (w.heap.size) 0 (Led.cells zeroL).toArray rfl rfl HRES.out (by show _ = some 16; kernel_rfl) (LO.zero w 0).all ?_))
          refine bodyPost_ret (v := .tuple #[.agg (Led.cells zeroL).toArray, .int .i64 3]) (res_cell2 Try.results27 rfl (run_led (L := zeroL) (World.rangeAt_setCells_same w2 w.heap.size 0 _ HRES.out))) rfl ⟨zeroL, 3, rfl, LO.zero _ _, HBB.out.trans ((onlyC w2 w.heap.size (Led.cells zeroL) 0).below HBB.out.size (fun j hj e => by omega)), .inr ⟨rfl, HNONE.out, rfl⟩⟩
        | cons hx rest =>
          rw [List.length_cons] at hlc hl65 ⊢
          obtain ⟨ib, io, hlv, rfl, m0, m1, m2, m3, -, hib⟩ := iv_at HITS.out 0 (by simp)
          rw [show io + 0 * 4 = io by omega] at m0 m1 m2 m3
          obtain ⟨hk0, hn0, hs0, hl0⟩ := hx
          simp only [Itc.k, Itc.n, Itc.s, Itc.l] at m0 m1 m2 m3
          have hcap : 0 < lc := by omega
          by_cases hk1 : hk0 = 0
          · have e1 : (hk0 != 0) = false := by simp [hk1]
            by_cases hnz : hn0 = 0
            · by_cases hkz : k = 0
              · have HN0 := Lib.hid hnz
                have f1 : ((k : Int) == 0) = true := by simp [hkz]
                have f2 : (k == 0) = true := by simp [hkz]
                have f3 : decide (k = 0) = true := by simp [hkz]
                have g1 : (hn0 == 0) = true := by simp [hnz]
                have HOK := Lib.hid (show okD (k == 0) (Itc.mk hk0 hn0 hs0 hl0 :: rest) = true by rw [f2]; show (decide (hk0 = 0) && (decide (hn0 = 0) == true)) = true; simp [hk1, hnz])
                as_aux_lemma =>
                  have htl : rest.length ≤ 65536 := by omega
                  obtain ⟨P, hPI⟩ : ∃ P, ItR P 9 w2 (.slice (some ⟨ib, io, none⟩) (rest.length + 1) lc) (Itc.mk hk0 hn0 hs0 hl0 :: rest) := ⟨_, HITS.out⟩
                  have HPI := Lib.hid (pints_calls P 8 _ _ rest 12 w2 hPI (by omega) htl)
                  clear hPI
                  clear hkz hnz hk1
                  go_upto_region 14 with fail
                  go_wp2_with fail
                  refine HPI.out.mono ?_
                  rintro e w3 ⟨ov, ns, rfl, hno, hns, hb3⟩
                  have HLS3 := Lib.hid (HLS2.out.later hb3)
                  obtain ⟨va, vc, rfl⟩ := own_slice hno
                  have HNO := Lib.hid hno
                  have HB3 := Lib.hid hb3
                  by_cases hB : intsB rest 12 = true
                  · have hlen12 : rest.length = 12 := by
                      unfold intsB at hB
                      simp only [Bool.and_eq_true, decide_eq_true_eq] at hB
                      exact hB.2
                    have hnr := hns hB
                    have HBT := Lib.hid hB
                    clear hns hno hb3
                    rw [hB]
                    obtain ⟨a1, a2, a3, a4, a5, a6, a7, a8, a9, a10, a11, a12, rfl⟩ : ∃ a1 a2 a3 a4 a5 a6 a7 a8 a9 a10 a11 a12, rest = [a1, a2, a3, a4, a5, a6, a7, a8, a9, a10, a11, a12] := by
                      match rest, hlen12 with
                      | [a1, a2, a3, a4, a5, a6, a7, a8, a9, a10, a11, a12], _ => exact ⟨_, _, _, _, _, _, _, _, _, _, _, _, rfl⟩
                    have hnr' : ns = [a1.n, a2.n, a3.n, a4.n, a5.n, a6.n, a7.n, a8.n, a9.n, a10.n, a11.n, a12.n] := hnr
                    subst hnr'
                    clear hnr hlen12 hB htl
                    have hno12 : w3.ownsRow w2.heap.size 3 1 (.slice va 12 vc) (11 + 1) (ints [a1.n, a2.n, a3.n, a4.n, a5.n, a6.n, a7.n, a8.n, a9.n, a10.n, a11.n, a12.n]) := HNO.out
                    obtain ⟨g, gcap, hgv, -⟩ := own_succ hno12
                    simp only [Value.slice.injEq] at hgv
                    obtain ⟨rfl, -, rfl⟩ := hgv
                    obtain ⟨_, _, hgv2, hg12, hgmax⟩ := Rd.slice (Rd.of_own hno12)
                    simp only [Value.slice.injEq] at hgv2
                    obtain ⟨rfl, -, rfl⟩ := hgv2
                    have hvc : ∀ j u, (ints [a1.n, a2.n, a3.n, a4.n, a5.n, a6.n, a7.n, a8.n, a9.n, a10.n, a11.n, a12.n])[j]? = some u → w3.cell? ⟨g, j, none⟩ = some u := fun j u hj => by
                      have := World.ownsRow.cells hno12 (g := g) rfl j u hj
                      rwa [add_off, Nat.zero_add] at this
                    have x0 : w3.cell? ⟨g, 0, none⟩ = some (.int .i64 a1.n) := hvc 0 _ rfl
                    have x1 : w3.cell? ⟨g, 1, none⟩ = some (.int .i64 a2.n) := hvc 1 _ rfl
                    have x2 : w3.cell? ⟨g, 2, none⟩ = some (.int .i64 a3.n) := hvc 2 _ rfl
                    have x3 : w3.cell? ⟨g, 3, none⟩ = some (.int .i64 a4.n) := hvc 3 _ rfl
                    have x4 : w3.cell? ⟨g, 4, none⟩ = some (.int .i64 a5.n) := hvc 4 _ rfl
                    have x5 : w3.cell? ⟨g, 5, none⟩ = some (.int .i64 a6.n) := hvc 5 _ rfl
                    have x6 : w3.cell? ⟨g, 6, none⟩ = some (.int .i64 a7.n) := hvc 6 _ rfl
                    have x7 : w3.cell? ⟨g, 7, none⟩ = some (.int .i64 a8.n) := hvc 7 _ rfl
                    have x8 : w3.cell? ⟨g, 8, none⟩ = some (.int .i64 a9.n) := hvc 8 _ rfl
                    have x9 : w3.cell? ⟨g, 9, none⟩ = some (.int .i64 a10.n) := hvc 9 _ rfl
                    have x10 : w3.cell? ⟨g, 10, none⟩ = some (.int .i64 a11.n) := hvc 10 _ rfl
                    have x11 : w3.cell? ⟨g, 11, none⟩ = some (.int .i64 a12.n) := hvc 11 _ rfl
                    have hgl : w2.heap.size ≤ g ∧ g < w3.heap.size := World.ownsRow.lt hno12 g rfl
                    have hlb := HLS2.out.lt
                    have hls := HLS3.out
                    clear hno12 HNO hvc
                    have l11 := hls.cell 11 _ rfl
                    have l12 := hls.cell 12 _ rfl
                    have l13 := hls.cell 13 _ rfl
                    have l15 := hls.cell 15 _ rfl
                    have z11 := hls.frz 11
                    have z12 := hls.frz 12
                    have z13 := hls.frz 13
                    have z15 := hls.frz 15
                    go_upto_region 16 with fail
                    refine region_m [(0, false), (1, false), (2, false), (3, false), (4, false), (5, false), (6, false), (7, false), (8, false), (9, false), (10, false), (11, false), (12, false), (13, false), (14, true), (15, false), (16, true), (17, false), (18, true), (19, false), (20, true)] 21 (fun V => V.cell? ⟨g, 0, none⟩ = some (.int .i64 a1.n) ∧ V.cell? ⟨g, 1, none⟩ = some (.int .i64 a2.n) ∧ V.cell? ⟨g, 2, none⟩ = some (.int .i64 a3.n) ∧ V.cell? ⟨g, 3, none⟩ = some (.int .i64 a4.n)) (by kernel_rfl) (by kernel_rfl) ⟨x0, x1, x2, x3⟩ ?_
                    obtain ⟨db, hdb⟩ : ∃ db, (a4.n == 1) = db := ⟨_, rfl⟩
                    have hdb2 : decide (a4.n = 1) = db := by rw [← hdb, Bool.eq_iff_iff]; simp
                    iterate 14
                      first
                      | (refine m_take (v := ?_) rfl rfl ?_ ?_
                         rotate_left
                         · intro W hW
                           go_simp
                           with_reducible rfl
                         simp only [Act.put, List.setIfInBounds_toArray, List.set_cons_zero, List.set_cons_succ])
                      | (refine m_skip rfl rfl ?_
                         simp only [Act.put, List.setIfInBounds_toArray, List.set_cons_zero, List.set_cons_succ])
                    refine m_loud rfl (fun K hK => ?_)
                    have HK := Lib.hid hK
                    clear hK
                    go_simp
                    have ho := (Only.refl (fun j => j = w.heap.size + 1) w3).setCell ⟨w.heap.size + 1, 11, none⟩ (.int .i64 a1.n) (.inl rfl)
                    have hls := (hls.set (L' := { L with sealed := a1.n }) 11 (.int .i64 a1.n) rfl (LO.same hls.own rfl rfl rfl rfl rfl rfl rfl rfl))
                    have x0 := ho.cell (b := g) (by omega) x0
                    have x1 := ho.cell (b := g) (by omega) x1
                    have x2 := ho.cell (b := g) (by omega) x2
                    have x3 := ho.cell (b := g) (by omega) x3
                    have x4 := ho.cell (b := g) (by omega) x4
                    have x5 := ho.cell (b := g) (by omega) x5
                    have x6 := ho.cell (b := g) (by omega) x6
                    have x7 := ho.cell (b := g) (by omega) x7
                    have x8 := ho.cell (b := g) (by omega) x8
                    have x9 := ho.cell (b := g) (by omega) x9
                    have x10 := ho.cell (b := g) (by omega) x10
                    have x11 := ho.cell (b := g) (by omega) x11
                    have hdr := (Below.refl (w3.setCell ⟨w.heap.size + 1, 11, none⟩ (.int .i64 a1.n)).heap.size (w3.setCell ⟨w.heap.size + 1, 11, none⟩ (.int .i64 a1.n))).drew
                    have hls := hls.later hdr
                    have x0 := cell_later hdr x0
                    have x1 := cell_later hdr x1
                    have x2 := cell_later hdr x2
                    have x3 := cell_later hdr x3
                    have x4 := cell_later hdr x4
                    have x5 := cell_later hdr x5
                    have x6 := cell_later hdr x6
                    have x7 := cell_later hdr x7
                    have x8 := cell_later hdr x8
                    have x9 := cell_later hdr x9
                    have x10 := cell_later hdr x10
                    have x11 := cell_later hdr x11
                    refine HK.out _ _ ⟨x0, x1, x2, x3⟩ ?_
                    clear HK
                    clear ho hdr
                    generalize (w3.setCell ⟨w.heap.size + 1, 11, none⟩ (.int .i64 a1.n)).drew = V1 at *
                    obtain ⟨L1, hL1⟩ : ∃ L1 : Led, L1 = { L with sealed := a1.n } := ⟨_, rfl⟩
                    rw [← hL1] at hls
                    have l12 := hls.cell 12 (.int .i64 L.decided) (by rw [hL1]; rfl)
                    have z12 := hls.frz 12
                    iterate 1
                      first
                      | (refine m_take (v := ?_) rfl rfl ?_ ?_
                         rotate_left
                         · intro W hW
                           go_simp
                           with_reducible rfl
                         simp only [Act.put, List.setIfInBounds_toArray, List.set_cons_zero, List.set_cons_succ])
                      | (refine m_skip rfl rfl ?_
                         simp only [Act.put, List.setIfInBounds_toArray, List.set_cons_zero, List.set_cons_succ])
                    refine m_loud rfl (fun K hK => ?_)
                    have HK := Lib.hid hK
                    clear hK
                    go_simp
                    have ho := (Only.refl (fun j => j = w.heap.size + 1) V1).setCell ⟨w.heap.size + 1, 12, none⟩ (.int .i64 a2.n) (.inl rfl)
                    have hls := (hls.set (L' := { L1 with decided := a2.n }) 12 (.int .i64 a2.n) rfl (LO.same hls.own rfl rfl rfl rfl rfl rfl rfl rfl))
                    have x0 := ho.cell (b := g) (by omega) x0
                    have x1 := ho.cell (b := g) (by omega) x1
                    have x2 := ho.cell (b := g) (by omega) x2
                    have x3 := ho.cell (b := g) (by omega) x3
                    have x4 := ho.cell (b := g) (by omega) x4
                    have x5 := ho.cell (b := g) (by omega) x5
                    have x6 := ho.cell (b := g) (by omega) x6
                    have x7 := ho.cell (b := g) (by omega) x7
                    have x8 := ho.cell (b := g) (by omega) x8
                    have x9 := ho.cell (b := g) (by omega) x9
                    have x10 := ho.cell (b := g) (by omega) x10
                    have x11 := ho.cell (b := g) (by omega) x11
                    refine HK.out _ _ ⟨x0, x1, x2, x3⟩ ?_
                    clear HK
                    clear ho
                    generalize (V1.setCell ⟨w.heap.size + 1, 12, none⟩ (.int .i64 a2.n)) = V2 at *
                    obtain ⟨L2, hL2⟩ : ∃ L2 : Led, L2 = { L1 with decided := a2.n } := ⟨_, rfl⟩
                    rw [← hL2] at hls
                    have l15 := hls.cell 15 (.int .i64 L.keep) (by rw [hL2, hL1]; rfl)
                    have z15 := hls.frz 15
                    iterate 1
                      first
                      | (refine m_take (v := ?_) rfl rfl ?_ ?_
                         rotate_left
                         · intro W hW
                           go_simp
                           with_reducible rfl
                         simp only [Act.put, List.setIfInBounds_toArray, List.set_cons_zero, List.set_cons_succ])
                      | (refine m_skip rfl rfl ?_
                         simp only [Act.put, List.setIfInBounds_toArray, List.set_cons_zero, List.set_cons_succ])
                    refine m_loud rfl (fun K hK => ?_)
                    have HK := Lib.hid hK
                    clear hK
                    go_simp
                    have ho := (Only.refl (fun j => j = w.heap.size + 1) V2).setCell ⟨w.heap.size + 1, 15, none⟩ (.int .i64 a3.n) (.inl rfl)
                    have hls := (hls.set (L' := { L2 with keep := a3.n }) 15 (.int .i64 a3.n) rfl (LO.same hls.own rfl rfl rfl rfl rfl rfl rfl rfl))
                    have x0 := ho.cell (b := g) (by omega) x0
                    have x1 := ho.cell (b := g) (by omega) x1
                    have x2 := ho.cell (b := g) (by omega) x2
                    have x3 := ho.cell (b := g) (by omega) x3
                    have x4 := ho.cell (b := g) (by omega) x4
                    have x5 := ho.cell (b := g) (by omega) x5
                    have x6 := ho.cell (b := g) (by omega) x6
                    have x7 := ho.cell (b := g) (by omega) x7
                    have x8 := ho.cell (b := g) (by omega) x8
                    have x9 := ho.cell (b := g) (by omega) x9
                    have x10 := ho.cell (b := g) (by omega) x10
                    have x11 := ho.cell (b := g) (by omega) x11
                    refine HK.out _ _ ⟨x0, x1, x2, x3⟩ ?_
                    clear HK
                    clear ho
                    generalize (V2.setCell ⟨w.heap.size + 1, 15, none⟩ (.int .i64 a3.n)) = V3 at *
                    obtain ⟨L3, hL3⟩ : ∃ L3 : Led, L3 = { L2 with keep := a3.n } := ⟨_, rfl⟩
                    rw [← hL3] at hls
                    have l13 := hls.cell 13 (.bool L.dep) (by rw [hL3, hL2, hL1]; rfl)
                    have z13 := hls.frz 13
                    iterate 1
                      first
                      | (refine m_take (v := ?_) rfl rfl ?_ ?_
                         rotate_left
                         · intro W hW
                           go_simp
                           with_reducible rfl
                         simp only [Act.put, List.setIfInBounds_toArray, List.set_cons_zero, List.set_cons_succ])
                      | (refine m_skip rfl rfl ?_
                         simp only [Act.put, List.setIfInBounds_toArray, List.set_cons_zero, List.set_cons_succ])
                    refine m_loud rfl (fun K hK => ?_)
                    have HK := Lib.hid hK
                    clear hK
                    go_simp
                    have ho := (Only.refl (fun j => j = w.heap.size + 1) V3).setCell ⟨w.heap.size + 1, 13, none⟩ (.bool db) (.inl rfl)
                    have hls := (hls.set (L' := { L3 with dep := db }) 13 (.bool db) rfl (LO.same hls.own rfl rfl rfl rfl rfl rfl rfl rfl))
                    have x0 := ho.cell (b := g) (by omega) x0
                    have x1 := ho.cell (b := g) (by omega) x1
                    have x2 := ho.cell (b := g) (by omega) x2
                    have x3 := ho.cell (b := g) (by omega) x3
                    have x4 := ho.cell (b := g) (by omega) x4
                    have x5 := ho.cell (b := g) (by omega) x5
                    have x6 := ho.cell (b := g) (by omega) x6
                    have x7 := ho.cell (b := g) (by omega) x7
                    have x8 := ho.cell (b := g) (by omega) x8
                    have x9 := ho.cell (b := g) (by omega) x9
                    have x10 := ho.cell (b := g) (by omega) x10
                    have x11 := ho.cell (b := g) (by omega) x11
                    refine HK.out _ _ ⟨x0, x1, x2, x3⟩ ?_
                    clear HK
                    clear ho
                    generalize (V3.setCell ⟨w.heap.size + 1, 13, none⟩ (.bool db)) = V4 at *
                    obtain ⟨L4, hL4⟩ : ∃ L4 : Led, L4 = { L3 with dep := db } := ⟨_, rfl⟩
                    rw [← hL4] at hls
                    clear l11 l12 l13 l15 z11 z12 z13 z15
                    refine m_done ?_
                    simp only [List.drop_succ_cons, List.drop_zero]
                    go_wp2_with fail
                    simp only [NP]
                    go_upto_region 17 with fail
                    have hdr := (Below.refl V4.heap.size V4).drew
                    have hls := hls.later hdr
                    have x4 := cell_later hdr x4
                    have x5 := cell_later hdr x5
                    have x6 := cell_later hdr x6
                    have x7 := cell_later hdr x7
                    have x8 := cell_later hdr x8
                    have x9 := cell_later hdr x9
                    have x10 := cell_later hdr x10
                    have x11 := cell_later hdr x11
                    refine region_m [(0, false), (1, false), (2, false), (3, false), (4, true)] 5 (fun V => True) (by kernel_rfl) (by kernel_rfl) trivial ?_
                    clear hdr x0 x1 x2 x3
                    generalize V4.drew = V5 at *
                    have HCP := Lib.hid (show ∀ ty sc, (Builtin.copy_ #[54, 54] ty #[.slice (some ⟨w.heap.size + 1, 1, none⟩) 8 8, .slice (some ⟨g, 4, none⟩) 8 sc]).run Try.prog V5 = .ok (goInt ((8 : Nat) : Int)) (V5.setCells (w.heap.size + 1) 1 [.int .i64 a5.n, .int .i64 a6.n, .int .i64 a7.n, .int .i64 a8.n, .int .i64 a9.n, .int .i64 a10.n, .int .i64 a11.n, .int .i64 a12.n]) from fun ty sc =>
                      run_copy_k (b := w.heap.size + 1) (o := 1) (dLen := 8) (dCap := 8) (a := ⟨g, 4, none⟩) (sLen := 8) (sCap := sc) (n := 8) V5 tyIntsT rfl rfl (fun j u hj => by
                        have hj8 : j < 8 := (List.getElem?_eq_some_iff.1 hj).1
                        rcases (show j = 0 ∨ j = 1 ∨ j = 2 ∨ j = 3 ∨ j = 4 ∨ j = 5 ∨ j = 6 ∨ j = 7 by omega) with rfl | rfl | rfl | rfl | rfl | rfl | rfl | rfl
                        · rw [← hj]; exact x4
                        · rw [← hj]; exact x5
                        · rw [← hj]; exact x6
                        · rw [← hj]; exact x7
                        · rw [← hj]; exact x8
                        · rw [← hj]; exact x9
                        · rw [← hj]; exact x10
                        · rw [← hj]; exact x11) (fun j hj => (hls.there 1 8 (by omega) j hj).1) (fun j hj => (hls.there 1 8 (by omega) j hj).2) (by simp [Value.oneCell']))
                    have hlc := hls.setC (fun i => if i < 8 then nth (Itc.mk hk0 hn0 hs0 hl0 :: [a1, a2, a3, a4, a5, a6, a7, a8, a9, a10, a11, a12]) (5 + i) else 0)
                    have HS := Lib.hid (show LS w (V5.setCells (w.heap.size + 1) 1 [.int .i64 a5.n, .int .i64 a6.n, .int .i64 a7.n, .int .i64 a8.n, .int .i64 a9.n, .int .i64 a10.n, .int .i64 a11.n, .int .i64 a12.n]) (L.headD (Itc.mk hk0 hn0 hs0 hl0 :: [a1, a2, a3, a4, a5, a6, a7, a8, a9, a10, a11, a12])) from by
                      have e : ({ L4 with C := fun i => if i < 8 then nth (Itc.mk hk0 hn0 hs0 hl0 :: [a1, a2, a3, a4, a5, a6, a7, a8, a9, a10, a11, a12]) (5 + i) else 0 } : Led) = L.headD (Itc.mk hk0 hn0 hs0 hl0 :: [a1, a2, a3, a4, a5, a6, a7, a8, a9, a10, a11, a12]) := by
                        rw [hL4, hL3, hL2, hL1, ← hdb2]
                        rfl
                      rw [← e]
                      exact hlc)
                    have HN := Lib.hid (show LI ss (k + 1) (wh && true) (L.headD (Itc.mk hk0 hn0 hs0 hl0 :: [a1, a2, a3, a4, a5, a6, a7, a8, a9, a10, a11, a12])) from HLI.out.next HTX.out HDB.out HOK.out ⟨by have := hkl.1; show L.rows.length ≤ _; omega, by have := hkl.2; show L.bats.length ≤ _; omega⟩ (fun h => by cases h) (fun _ M hM => ⟨M.headD (Itc.mk hk0 hn0 hs0 hl0 :: [a1, a2, a3, a4, a5, a6, a7, a8, a9, a10, a11, a12]), by
                      unfold actD
                      rw [if_pos (show nth (Itc.mk hk0 hn0 hs0 hl0 :: [a1, a2, a3, a4, a5, a6, a7, a8, a9, a10, a11, a12]) 0 = 0 from HN0.out), if_pos (show intsB ((Itc.mk hk0 hn0 hs0 hl0 :: [a1, a2, a3, a4, a5, a6, a7, a8, a9, a10, a11, a12])).tail 12 = true from HBT.out)], ⟨hM.rows, rfl, hM.opn, hM.bats, rfl, rfl, rfl, hM.ops, rfl⟩⟩))
                    have hv4 : ¬ vc = 4 := by omega
                    clear hls hlc x4 x5 x6 x7 x8 x9 x10 x11
                    iterate 4
                      first
                      | (refine m_take (v := ?_) rfl rfl ?_ ?_
                         rotate_left
                         · intro W hW
                           go_simp
                           with_reducible rfl
                         simp only [Act.put, List.setIfInBounds_toArray, List.set_cons_zero, List.set_cons_succ])
                      | (refine m_skip rfl rfl ?_
                         simp only [Act.put, List.setIfInBounds_toArray, List.set_cons_zero, List.set_cons_succ])
                    refine m_value (v' := goInt ((8 : Nat) : Int)) (w' := V5.setCells (w.heap.size + 1) 1 [.int .i64 a5.n, .int .i64 a6.n, .int .i64 a7.n, .int .i64 a8.n, .int .i64 a9.n, .int .i64 a10.n, .int .i64 a11.n, .int .i64 a12.n]) rfl rfl (exec_copy rfl rfl rfl ?_) trivial ?_
                    · exact HCP.out _ _
                    refine m_done ?_
                    simp only [List.drop_succ_cons, List.drop_zero]
                    clear HCP
                    generalize V5.setCells (w.heap.size + 1) 1 [.int .i64 a5.n, .int .i64 a6.n, .int .i64 a7.n, .int .i64 a8.n, .int .i64 a9.n, .int .i64 a10.n, .int .i64 a11.n, .int .i64 a12.n] = V6 at *
                    go_wp2_with fail
                    simp only [NP]
                    cases wh
                    all_goals
                      go_wp2_with fail
                      go_roundw
                      case rel => exact ⟨k + 1, _, (L.headD (Itc.mk hk0 hn0 hs0 hl0 :: [a1, a2, a3, a4, a5, a6, a7, a8, a9, a10, a11, a12])), by omega, by go_num, rfl, HN.out, HS.out⟩
                      case measure => simp [intOf]; omega
                  · have hB' : intsB rest 12 = false := by simpa using hB
                    have HBF := Lib.hid hB'
                    have HS := HLS3
                    have HN := Lib.hid (show LI ss (k + 1) (wh && false) L from HLI.out.next HTX.out HDB.out HOK.out ⟨by omega, by omega⟩ (fun _ M => by
                      unfold actD
                      rw [if_pos (show nth (Itc.mk hk0 hn0 hs0 hl0 :: rest) 0 = 0 from HN0.out), if_neg (show ¬ intsB (Itc.mk hk0 hn0 hs0 hl0 :: rest).tail 12 = true from by rw [show (Itc.mk hk0 hn0 hs0 hl0 :: rest).tail = rest from rfl, HBF.out]; simp)]) (fun h => by cases h))
                    rw [hB']
                    clear hB hB' hno hns hb3
                    cases wh
                    all_goals
                      go_wp2_with fail
                      go_roundw
                      case rel => exact ⟨k + 1, _, L, by omega, by go_num, rfl, HN.out, HS.out⟩
                      case measure => simp [intOf]; omega
              · skip
                have f1 : ((k : Int) == 0) = false := by simp [hkz]
                have f2 : (k == 0) = false := by simp [hkz]
                have f3 : decide (k = 0) = false := by simp [hkz]
                have g1 : (hn0 == 0) = true := by simp [hnz]
                have HNONE := Lib.hid (show ledD ss = none from HLI.out.bad HTX.out (step_bad (.inr ⟨_, HDB.out, by rw [f2]; show (decide (hk0 = 0) && (decide (hn0 = 0) == false)) = false; simp [hk1, hnz]⟩)))
                clear hkz hnz hk1
                go_wp2_with (first | (refine wpList_store_mid rfl 30 _ _ rfl (w.heap.size) 0 (Led.cells zeroL).toArray rfl rfl HRES.out (by show _ = some 16; kernel_rfl) (LO.zero w 0).all ?_) | (refine wp_store_mid 30 _ _ rfl (w.heap.size) 0 (Led.cells zeroL).toArray rfl rfl HRES.out (by show _ = some 16; kernel_rfl) (LO.zero w 0).all ?_))
                refine bodyPost_ret (v := .tuple #[.agg (Led.cells zeroL).toArray, .int .i64 3]) (res_cell2 Try.results27 rfl (run_led (L := zeroL) (World.rangeAt_setCells_same w2 w.heap.size 0 _ HRES.out))) rfl ⟨zeroL, 3, rfl, LO.zero _ _, HBB.out.trans ((onlyC w2 w.heap.size (Led.cells zeroL) 0).below HBB.out.size (fun j hj e => by omega)), .inr ⟨rfl, HNONE.out, rfl⟩⟩
            · by_cases hkz : k = 0
              · skip
                have f1 : ((k : Int) == 0) = true := by simp [hkz]
                have f2 : (k == 0) = true := by simp [hkz]
                have f3 : decide (k = 0) = true := by simp [hkz]
                have g1 : (hn0 == 0) = false := by simp [hnz]
                have HNONE := Lib.hid (show ledD ss = none from HLI.out.bad HTX.out (step_bad (.inr ⟨_, HDB.out, by rw [f2]; show (decide (hk0 = 0) && (decide (hn0 = 0) == true)) = false; simp [hk1, hnz]⟩)))
                clear hkz hnz hk1
                go_wp2_with (first | (refine wpList_store_mid rfl 30 _ _ rfl (w.heap.size) 0 (Led.cells zeroL).toArray rfl rfl HRES.out (by show _ = some 16; kernel_rfl) (LO.zero w 0).all ?_) | (refine wp_store_mid 30 _ _ rfl (w.heap.size) 0 (Led.cells zeroL).toArray rfl rfl HRES.out (by show _ = some 16; kernel_rfl) (LO.zero w 0).all ?_))
                refine bodyPost_ret (v := .tuple #[.agg (Led.cells zeroL).toArray, .int .i64 3]) (res_cell2 Try.results27 rfl (run_led (L := zeroL) (World.rangeAt_setCells_same w2 w.heap.size 0 _ HRES.out))) rfl ⟨zeroL, 3, rfl, LO.zero _ _, HBB.out.trans ((onlyC w2 w.heap.size (Led.cells zeroL) 0).below HBB.out.size (fun j hj e => by omega)), .inr ⟨rfl, HNONE.out, rfl⟩⟩
              · skip
                have f1 : ((k : Int) == 0) = false := by simp [hkz]
                have f2 : (k == 0) = false := by simp [hkz]
                have f3 : decide (k = 0) = false := by simp [hkz]
                have g1 : (hn0 == 0) = false := by simp [hnz]
                have HOK := Lib.hid (show okD (k == 0) (Itc.mk hk0 hn0 hs0 hl0 :: rest) = true by rw [f2]; show (decide (hk0 = 0) && (decide (hn0 = 0) == false)) = true; simp [hk1, hnz])
                obtain ⟨P, hPI, hPP⟩ : ∃ P, ItR P 9 w2 (.slice (some ⟨ib, io, none⟩) (rest.length + 1) lc) (Itc.mk hk0 hn0 hs0 hl0 :: rest) ∧ ∀ j, P j → j < w2.heap.size := ⟨fun j => j < w2.heap.size, HITS.out, fun j h => h⟩
                have HPI := Lib.hid hPI
                have HPP := Lib.hid hPP
                have HNZ := Lib.hid hnz
                have htl : rest.length ≤ 65536 := by omega
                clear hPI hPP hkz hnz hk1
                have g0 := g1
                by_cases h4 : hn0 = 4
                · have g4 : (hn0 == 4) = true := beq_iff_eq.2 h4
                  have H4 := Lib.hid h4
                  clear h4
                  as_aux_lemma =>
                    have hal0 := below_alloc w2 (.cells #[.int .i64 0, .int .i64 0, .int .i64 0, .int .i64 0, .string nos, .int .u32 0, .slice none 0 0, .int .i64 0] 35)
                    obtain ⟨bb, hbb⟩ : ∃ bb, bb = w2.heap.size := ⟨_, rfl⟩
                    obtain ⟨U2, hU2⟩ : ∃ U2, U2 = w2.alloc (.cells #[.int .i64 0, .int .i64 0, .int .i64 0, .int .i64 0, .string nos, .int .u32 0, .slice none 0 0, .int .i64 0] 35) := ⟨_, rfl⟩
                    have HLSU := Lib.hid (show LS w U2 L by rw [hU2]; exact HLS2.out.later hal0)
                    have HIU := Lib.hid (show ItR P 9 U2 (.slice (some ⟨ib, io, none⟩) (rest.length + 1) lc) (Itc.mk hk0 hn0 hs0 hl0 :: rest) by rw [hU2]; exact ItR.below hal0 HPP.out HPI.out)
                    have v0 : U2.cell? ⟨bb, 0, none⟩ = some (.int .i64 0) := by rw [hU2, hbb]; exact box_self 0 _ rfl
                    have v1 : U2.cell? ⟨bb, 1, none⟩ = some (.int .i64 0) := by rw [hU2, hbb]; exact box_self 1 _ rfl
                    have v2 : U2.cell? ⟨bb, 2, none⟩ = some (.int .i64 0) := by rw [hU2, hbb]; exact box_self 2 _ rfl
                    have v3 : U2.cell? ⟨bb, 3, none⟩ = some (.int .i64 0) := by rw [hU2, hbb]; exact box_self 3 _ rfl
                    have v4 : U2.cell? ⟨bb, 4, none⟩ = some (.string nos) := by rw [hU2, hbb]; exact box_self 4 _ rfl
                    have v5 : U2.cell? ⟨bb, 5, none⟩ = some (.int .u32 0) := by rw [hU2, hbb]; exact box_self 5 _ rfl
                    have v6 : U2.cell? ⟨bb, 6, none⟩ = some (.slice none 0 0) := by rw [hU2, hbb]; exact box_self 6 _ rfl
                    have v7 : U2.cell? ⟨bb, 7, none⟩ = some (.int .i64 0) := by rw [hU2, hbb]; exact box_self 7 _ rfl
                    have HTH := Lib.hid (show U2.there bb 0 8 by rw [hU2, hbb]; exact there_box (w := w2) (cs := #[.int .i64 0, .int .i64 0, .int .i64 0, .int .i64 0, .string nos, .int .u32 0, .slice none 0 0, .int .i64 0]) (e := 35) (Below.refl _ _))
                    have hlb := HLS2.out.lt
                    have hbz : bb < U2.heap.size := by rw [hU2, hbb]; simp
                    have hbe : w2.heap.size ≤ bb := by omega
                    have HOU0 := Lib.hid (show Only (fun j => w2.heap.size ≤ j) w2 U2 by rw [hU2]; exact Only.of_below hal0)
                    go_upto_region 20 with fail
                    rw [← hU2, ← hbb]
                    clear hU2 hal0 hbb
                    by_cases hl2 : rest.length = 1
                    · obtain ⟨x1, rfl⟩ : ∃ x1, rest = [x1] := by
                        match rest, hl2 with
                        | [x1], _ => exact ⟨x1, rfl⟩
                      clear hl2
                      obtain ⟨jb, jo, jv, hjo, j0, j1, j2, j3, -, -⟩ := iv_at HIU.out 1 (by simp)
                      simp only [Option.some.injEq, Addr.mk.injEq, and_true] at hjo
                      obtain ⟨rfl, rfl⟩ := hjo
                      rw [show io + 1 * 4 = io + 4 by omega] at j0 j1 j2 j3
                      have hcl : 1 < lc := by simp at hlc; omega
                      have hxs : x1.s.size ≤ 65536 := wfI_s (HWF.out x1 (by simp))
                      have j2 : U2.cell? ⟨ib, io + 4 + 2, none⟩ = some (.string x1.s) := j2
                      clear j0 j1 j3
                      go_wp2_with fail
                      refine (hE x1.s U2 (by omega)).mono ?_
                      rintro e w3 ⟨E, cd, rfl, hres, hb3⟩
                      have hz3 := hb3.size
                      have HTH3 := Lib.hid (there_only HTH.out (Only.of_below (S := fun _ => False) hb3) hbz (fun h => h))
                      have HOU := Lib.hid (show Only (fun j => w2.heap.size ≤ j) w2 w3 from HOU0.out.trans (Only.of_below (S := fun _ => False) hb3) (fun _ _ h => h.elim))
                      obtain ⟨ga, gc, hgv⟩ := own_slice hres.1.ops
                      have HEO3 := Lib.hid hres.1
                      have HR2 := Lib.hid hres.2
                      have HALL := Lib.hid (ent_allT E ⟨_, _, _, hgv⟩)
                      have HGV := Lib.hid hgv
                      clear hres hb3 j2 v0 v1 v2 v3 v4 v5 v6 v7 hgv
                      obtain ⟨W3, hW3⟩ : ∃ W3, W3 = w3.setCells bb 0 (Ent.cells E).toArray.toList := ⟨_, rfl⟩
                      have hoc : Only (fun j => j = bb) w3 W3 := by rw [hW3]; exact onlyC w3 bb (Ent.cells E) 0
                      have hrg : W3.rangeAt bb 0 (Ent.cells E) := by rw [hW3]; exact World.rangeAt_setCells_same w3 bb 0 (Ent.cells E) HTH3.out
                      have k0 : W3.cell? ⟨bb, 0, none⟩ = some (.int .i64 E.k) := hrg 0 _ rfl
                      have k6 : W3.cell? ⟨bb, 6, none⟩ = some (.slice ga E.os.length gc) := by rw [← HGV.out]; exact hrg 6 _ rfl
                      have HLSX := Lib.hid (HLS2.out.fresh (HOU.out.trans hoc (fun j _ e => by omega)))
                      have HEO := Lib.hid ((HEO3.out.only hoc (fun j h1 h2 e => by omega)).mono (base' := w.heap.size + 2) (by omega))
                      have HW3 := Lib.hid hW3
                      clear hW3 hoc hrg
                      go_upto_region 23 with (first | (refine wpList_store_mid rfl 35 _ _ rfl bb 0 (Ent.cells E).toArray rfl rfl HTH3.out (by show _ = some 8; kernel_rfl) HALL.out ?_; rw [← HW3.out]) | (refine wp_store_mid rfl 35 _ _ rfl bb 0 (Ent.cells E).toArray rfl rfl HTH3.out (by show _ = some 8; kernel_rfl) HALL.out ?_; rw [← HW3.out]))
                      have l14 := HLSX.out.cell 14 _ rfl
                      have z14 := HLSX.out.frz 14
                      have HS := Lib.hid (show LS w (W3.setCell ⟨w.heap.size + 1, 14, none⟩ (.slice ga E.os.length gc)) { L with gv := .slice ga E.os.length gc, ops := E.os } from HLSX.out.set (L' := { L with gv := .slice ga E.os.length gc, ops := E.os }) 14 (.slice ga E.os.length gc) rfl ⟨HLSX.out.own.rows, HLSX.out.own.opn, HLSX.out.own.bats, HLSX.out.own.recs, (by have := HEO.out.ops; rwa [HGV.out] at this), HEO.out.ins⟩)
                      obtain ⟨r1, hr1⟩ : ∃ r1, (cd == 0) = r1 := ⟨_, rfl⟩
                      obtain ⟨r2, hr2⟩ : ∃ r2, (E.k == 3) = r2 := ⟨_, rfl⟩
                      have HN := Lib.hid (show LI ss (k + 1) (wh && (r1 && r2)) { L with gv := .slice ga E.os.length gc, ops := E.os } from by
                        have h2 := HR2.out
                        refine HLI.out.next HTX.out HDB.out HOK.out ⟨by show L.rows.length ≤ _; omega, by show L.bats.length ≤ _; omega⟩ (fun h M => ?_) (fun h M hM => ?_)
                        · unfold actD
                          rw [if_neg (show ¬ nth (Itc.mk hk0 hn0 hs0 hl0 :: [x1]) 0 = 0 from HNZ.out), if_pos (show nth (Itc.mk hk0 hn0 hs0 hl0 :: [x1]) 0 = 4 from H4.out), if_pos (show ((Itc.mk hk0 hn0 hs0 hl0 :: [x1])).length = 2 from rfl)]
                          show (match entD x1.s with | some Z => if Z.k = 3 then some { M with ops := Z.os } else none | none => none) = none
                          cases hx : entD x1.s with
                          | none => rfl
                          | some Y =>
                            rw [hx] at h2
                            obtain ⟨rfl, hs⟩ := h2
                            have hk3 : ¬ Y.k = 3 := fun e => by
                              have : E.k = 3 := hs.k.trans e
                              rw [← hr1, ← hr2, this] at h
                              simp at h
                            exact if_neg hk3
                        · have hk3 : cd = 0 ∧ E.k = 3 := by rw [← hr1, ← hr2] at h; simpa using h
                          cases hx : entD x1.s with
                          | none =>
                            rw [hx] at h2
                            have := h2.1
                            omega
                          | some Y =>
                            rw [hx] at h2
                            obtain ⟨-, hs⟩ := h2
                            refine ⟨{ M with ops := Y.os }, ?_, ⟨hM.rows, hM.C, hM.opn, hM.bats, hM.sealed, hM.decided, hM.dep, hs.os, hM.keep⟩⟩
                            unfold actD
                            rw [if_neg (show ¬ nth (Itc.mk hk0 hn0 hs0 hl0 :: [x1]) 0 = 0 from HNZ.out), if_pos (show nth (Itc.mk hk0 hn0 hs0 hl0 :: [x1]) 0 = 4 from H4.out), if_pos (show ((Itc.mk hk0 hn0 hs0 hl0 :: [x1])).length = 2 from rfl)]
                            show (match entD x1.s with | some Z => if Z.k = 3 then some { M with ops := Z.os } else none | none => none) = _
                            rw [hx]
                            exact if_pos (hs.k.symm.trans hk3.2))
                      cases r1 <;> cases r2
                      all_goals
                        cases wh
                        all_goals
                          go_wp2_with fail
                          go_roundw
                          case rel => exact ⟨k + 1, _, _, by omega, by go_num, rfl, HN.out, HS.out⟩
                          case measure => simp [intOf]; omega
                    · have HE0 := Lib.hid hl2
                      have q2 : (((rest.length : Int) + 1) == 2) = false := by simp; omega
                      have HEO := Lib.hid (EntOwn.nil U2 (w.heap.size + 2) zE rfl rfl)
                      obtain ⟨E, hE0⟩ : ∃ E : Ent, E = zE := ⟨_, rfl⟩
                      rw [← hE0] at HEO
                      have HEE := Lib.hid hE0
                      have HLSX := HLSU
                      have l14 := HLSX.out.cell 14 _ rfl
                      have z14 := HLSX.out.frz 14
                      have HN := Lib.hid (show LI ss (k + 1) (wh && false) { L with gv := E.gv, ops := E.os } from HLI.out.next HTX.out HDB.out HOK.out ⟨by show L.rows.length ≤ _; omega, by show L.bats.length ≤ _; omega⟩ (fun _ M => by
                        unfold actD
                        rw [if_neg (show ¬ nth (Itc.mk hk0 hn0 hs0 hl0 :: rest) 0 = 0 from HNZ.out), if_pos (show nth (Itc.mk hk0 hn0 hs0 hl0 :: rest) 0 = 4 from H4.out), if_neg (show ¬ (Itc.mk hk0 hn0 hs0 hl0 :: rest).length = 2 from by rw [List.length_cons]; have := HE0.out; omega)]) (fun h => by cases h))
                      clear hl2
                      have HS := Lib.hid (show LS w (U2.setCell ⟨w.heap.size + 1, 14, none⟩ (.slice none 0 0)) { L with gv := E.gv, ops := E.os } from HLSX.out.set (L' := { L with gv := E.gv, ops := E.os }) 14 (.slice none 0 0) (by rw [HEE.out]; rfl) ⟨HLSX.out.own.rows, HLSX.out.own.opn, HLSX.out.own.bats, HLSX.out.own.recs, HEO.out.ops, HEO.out.ins⟩)
                      clear hE0
                      cases wh
                      all_goals
                        go_wp2_with fail
                        go_roundw
                        case rel => exact ⟨k + 1, _, _, by omega, by go_num, rfl, HN.out, HS.out⟩
                        case measure => simp [intOf]; omega
                · have g4 : (hn0 == 4) = false := beq_eq_false_iff_ne.2 h4
                  have N4 := Lib.hid h4
                  clear h4
                  by_cases h1 : hn0 = 1
                  · have g1 : (hn0 == 1) = true := beq_iff_eq.2 h1
                    have H1 := Lib.hid h1
                    clear h1
                    as_aux_lemma =>
                      have HIN := Lib.hid (pints_calls P 8 _ _ rest 3 w2 HPI.out (by omega) htl)
                      go_upto_region 27 with fail
                      go_wp2_with fail
                      refine HIN.out.mono ?_
                      rintro e w3 ⟨ov, ns, rfl, hno, hns, hb3⟩
                      have HLS3 := Lib.hid (HLS2.out.later hb3)
                      obtain ⟨va, vc, rfl⟩ := own_slice hno
                      have HNO := Lib.hid hno
                      by_cases hB : intsB rest 3 = true
                      · have hlen3 : rest.length = 3 := by
                          unfold intsB at hB
                          simp only [Bool.and_eq_true, decide_eq_true_eq] at hB
                          exact hB.2
                        have hnr := hns hB
                        have HBT := Lib.hid hB
                        clear hns hno hb3
                        rw [hB]
                        obtain ⟨a1, a2, a3, rfl⟩ : ∃ a1 a2 a3, rest = [a1, a2, a3] := by
                          match rest, hlen3 with
                          | [a1, a2, a3], _ => exact ⟨_, _, _, rfl⟩
                        have hnr' : ns = [a1.n, a2.n, a3.n] := hnr
                        subst hnr'
                        clear hnr hlen3 hB htl
                        have hno3 : w3.ownsRow w2.heap.size 3 1 (.slice va 3 vc) (2 + 1) (ints [a1.n, a2.n, a3.n]) := HNO.out
                        obtain ⟨g, gcap, hgv, -⟩ := own_succ hno3
                        simp only [Value.slice.injEq] at hgv
                        obtain ⟨rfl, -, rfl⟩ := hgv
                        obtain ⟨_, _, hgv2, hg3, hgmax⟩ := Rd.slice (Rd.of_own hno3)
                        simp only [Value.slice.injEq] at hgv2
                        obtain ⟨rfl, -, rfl⟩ := hgv2
                        have hvc : ∀ j u, (ints [a1.n, a2.n, a3.n])[j]? = some u → w3.cell? ⟨g, j, none⟩ = some u := fun j u hj => by
                          have := World.ownsRow.cells hno3 (g := g) rfl j u hj
                          rwa [add_off, Nat.zero_add] at this
                        have x0 : w3.cell? ⟨g, 0, none⟩ = some (.int .i64 a1.n) := hvc 0 _ rfl
                        have x1 : w3.cell? ⟨g, 1, none⟩ = some (.int .i64 a2.n) := hvc 1 _ rfl
                        have x2 : w3.cell? ⟨g, 2, none⟩ = some (.int .i64 a3.n) := hvc 2 _ rfl
                        have hgl : w2.heap.size ≤ g ∧ g < w3.heap.size := World.ownsRow.lt hno3 g rfl
                        have hlb := HLS2.out.lt
                        clear hno3 HNO hvc
                        obtain ⟨ra, rc, hrv⟩ := own_slice HLS3.out.own.rows
                        have l0 : w3.cell? ⟨w.heap.size + 1, 0, none⟩ = some (.slice ra L.rows.length rc) := by rw [← hrv]; exact HLS3.out.cell 0 _ rfl
                        have HRV := Lib.hid hrv
                        clear hrv
                        go_upto_region 29 with fail
                        refine region_m [(0, false), (1, false), (2, false), (3, false), (4, false), (5, false), (6, false), (7, false), (8, false), (9, false), (10, false), (11, false), (12, true), (13, true)] 14 (fun V => V.cell? ⟨w.heap.size + 1, 0, none⟩ = some (.slice ra L.rows.length rc) ∧ V.cell? ⟨g, 0, none⟩ = some (.int .i64 a1.n) ∧ V.cell? ⟨g, 1, none⟩ = some (.int .i64 a2.n) ∧ V.cell? ⟨g, 2, none⟩ = some (.int .i64 a3.n)) (by kernel_rfl) (by kernel_rfl) ⟨l0, x0, x1, x2⟩ ?_
                        have hdr := (Below.refl w3.heap.size w3).drew
                        have hls := HLS3.out.later hdr
                        have l0 := cell_later hdr l0
                        have x0 := cell_later hdr x0
                        have x1 := cell_later hdr x1
                        have x2 := cell_later hdr x2
                        have hgl2 : g < w3.drew.heap.size := Nat.lt_of_lt_of_le hgl.2 hdr.size
                        clear hdr
                        generalize w3.drew = V1 at *
                        iterate 12
                          first
                          | (refine m_take (v := ?_) rfl rfl ?_ ?_
                             rotate_left
                             · intro W hW
                               go_simp
                               with_reducible rfl
                             simp only [Act.put, List.setIfInBounds_toArray, List.set_cons_zero, List.set_cons_succ])
                          | (refine m_skip rfl rfl ?_
                             simp only [Act.put, List.setIfInBounds_toArray, List.set_cons_zero, List.set_cons_succ])
                        have hal := below_alloc V1 (.cells #[.int .i64 a1.n, .int .i64 a2.n, .int .i64 a3.n] 92)
                        have hls := hls.later hal
                        have l0 := cell_later hal l0
                        have x0 := cell_later hal x0
                        have x1 := cell_later hal x1
                        have x2 := cell_later hal x2
                        have HLIT := Lib.hid (Rd.lit (w := V1) (cs := #[.int .i64 a1.n, .int .i64 a2.n, .int .i64 a3.n]) (e := 92) (n := 1) (sz := 3) rfl (by omega))
                        clear hal
                        refine m_loud rfl (fun K hK => ?_)
                        have HK := Lib.hid hK
                        clear hK
                        go_simp
                        refine HK.out _ _ ⟨l0, x0, x1, x2⟩ ?_
                        clear HK
                        generalize (V1.alloc (.cells #[.int .i64 a1.n, .int .i64 a2.n, .int .i64 a3.n] 92)) = V2 at *
                        have HOW := Lib.hid (show V2.ownsRow (w.heap.size + 2) 92 3 (.slice ra L.rows.length rc) L.rows.length (flatF Row.cells L.rows) from by have := hls.own.rows; rwa [HRV.out] at this)
                        have HZZ := Lib.hid (show w.heap.size + 2 ≤ V2.heap.size from hls.lt)
                        have hrl := hkl.1
                        have HRB := Lib.hid (show ∀ j, L.rv.ownBlock = some j → w.heap.size + 2 ≤ j ∧ j < w2.heap.size from fun j e => World.ownsRow.lt HLS2.out.own.rows j e)
                        refine m_app tyRows HOW.out HLIT.out (by simp [Value.oneCell']) (by omega) (by omega) (by omega) HZZ.out rfl rfl rfl rfl rfl ?_
                        intro g' gcap' w6 h2 h3 h4 h5
                        have hne : ∀ j, (j < w.heap.size + 2 ∨ w2.heap.size ≤ j) → some j ≠ (Value.slice ra L.rows.length rc).ownBlock := fun j hj e => by
                          have := HRB.out j (by rw [HRV.out]; exact e.symm)
                          omega
                        have l0 := h4.cell l0 (hne (w.heap.size + 1) (.inl (by omega)))
                        have x0 := h4.cell x0 (hne g (.inr hgl.1))
                        have x1 := h4.cell x1 (hne g (.inr hgl.1))
                        have x2 := h4.cell x2 (hne g (.inr hgl.1))
                        have hbx := own_otherT HOW.out hls.box (by decide) h4
                        have z0 : w6.frozen? ⟨w.heap.size + 1, 0, none⟩ = false := World.ownsRow.frozenAt hbx 0
                        refine ⟨⟨l0, x0, x1, x2⟩, ?_⟩
                        have HS := Lib.hid (hls.pushRow ⟨a1.n, a2.n, a3.n⟩ h2 (by rw [HRV.out]; exact h4) rfl)
                        have HN := Lib.hid (show LI ss (k + 1) (wh && true) { L with rv := .slice (some ⟨g', 0, none⟩) (L.rows.length + 1) gcap', rows := L.rows ++ [⟨a1.n, a2.n, a3.n⟩] } from HLI.out.next HTX.out HDB.out HOK.out ⟨by show (L.rows ++ [_]).length ≤ _; rw [List.length_append]; show _ + 1 ≤ _; omega, by show L.bats.length ≤ _; omega⟩ (fun h => by cases h) (fun _ M hM => ⟨{ M with rows := M.rows ++ [⟨nth (Itc.mk hk0 hn0 hs0 hl0 :: [a1, a2, a3]) 1, nth (Itc.mk hk0 hn0 hs0 hl0 :: [a1, a2, a3]) 2, nth (Itc.mk hk0 hn0 hs0 hl0 :: [a1, a2, a3]) 3⟩] }, by
                          unfold actD
                          rw [if_neg (show ¬ nth (Itc.mk hk0 hn0 hs0 hl0 :: [a1, a2, a3]) 0 = 0 from HNZ.out), if_neg (show ¬ nth (Itc.mk hk0 hn0 hs0 hl0 :: [a1, a2, a3]) 0 = 4 from N4.out), if_pos (show nth (Itc.mk hk0 hn0 hs0 hl0 :: [a1, a2, a3]) 0 = 1 from H1.out), if_pos (show intsB ((Itc.mk hk0 hn0 hs0 hl0 :: [a1, a2, a3])).tail 3 = true from HBT.out)], ⟨by show L.rows ++ [_] = M.rows ++ [_]; rw [hM.rows]; rfl, hM.C, hM.opn, hM.bats, hM.sealed, hM.decided, hM.dep, hM.ops, hM.keep⟩⟩))
                        clear h2 h3 h4 h5 hls hbx x0 x1 x2 hne
                        refine m_done ?_
                        simp only [List.drop_succ_cons, List.drop_zero]
                        go_wp2_with fail
                        simp only [NP]
                        cases wh
                        all_goals
                          go_wp2_with fail
                          go_roundw
                          case rel => exact ⟨k + 1, _, _, by omega, by go_num, rfl, HN.out, HS.out⟩
                          case measure => simp [intOf]; omega
                      · have hB' : intsB rest 3 = false := by simpa using hB
                        have HBF := Lib.hid hB'
                        have HS := HLS3
                        have HN := Lib.hid (show LI ss (k + 1) (wh && false) L from HLI.out.next HTX.out HDB.out HOK.out ⟨by omega, by omega⟩ (fun _ M => by
                          unfold actD
                          rw [if_neg (show ¬ nth (Itc.mk hk0 hn0 hs0 hl0 :: rest) 0 = 0 from HNZ.out), if_neg (show ¬ nth (Itc.mk hk0 hn0 hs0 hl0 :: rest) 0 = 4 from N4.out), if_pos (show nth (Itc.mk hk0 hn0 hs0 hl0 :: rest) 0 = 1 from H1.out), if_neg (show ¬ intsB (Itc.mk hk0 hn0 hs0 hl0 :: rest).tail 3 = true from by rw [show (Itc.mk hk0 hn0 hs0 hl0 :: rest).tail = rest from rfl, HBF.out]; simp)]) (fun h => by cases h))
                        rw [hB']
                        clear hB hB' hno hns hb3
                        cases wh
                        all_goals
                          go_wp2_with fail
                          go_roundw
                          case rel => exact ⟨k + 1, _, L, by omega, by go_num, rfl, HN.out, HS.out⟩
                          case measure => simp [intOf]; omega
                  · have g1 : (hn0 == 1) = false := beq_eq_false_iff_ne.2 h1
                    have N1 := Lib.hid h1
                    clear h1
                    by_cases h2 : hn0 = 2
                    · have g2 : (hn0 == 2) = true := beq_iff_eq.2 h2
                      have H2 := Lib.hid h2
                      clear h2
                      as_aux_lemma =>
                        have hal0 := below_alloc w2 (.cells #[.int .i64 0, .slice none 0 0] 67)
                        obtain ⟨bb, hbb⟩ : ∃ bb, bb = w2.heap.size := ⟨_, rfl⟩
                        obtain ⟨U2, hU2⟩ : ∃ U2, U2 = w2.alloc (.cells #[.int .i64 0, .slice none 0 0] 67) := ⟨_, rfl⟩
                        have HRD5 := Lib.hid (plread_calls hE P _ (Itc.mk hk0 hn0 hs0 hl0 :: rest) U2 (by rw [hU2]; exact ItR.below hal0 HPP.out HPI.out) (fun j hj => by have := HPP.out j hj; rw [hU2, World.size_alloc]; omega) HWF.out)
                        have HLSU := Lib.hid (show LS w U2 L by rw [hU2]; exact HLS2.out.later hal0)
                        have b0 : U2.cell? ⟨bb, 0, none⟩ = some (.int .i64 0) := by rw [hU2, hbb]; exact box_self 0 _ rfl
                        have b1 : U2.cell? ⟨bb, 1, none⟩ = some (.slice none 0 0) := by rw [hU2, hbb]; exact box_self 1 _ rfl
                        have hth : U2.there bb 0 2 := by rw [hU2, hbb]; exact there_box (w := w2) (cs := #[.int .i64 0, .slice none 0 0]) (e := 67) (Below.refl _ _)
                        have hlb := HLS2.out.lt
                        have hbz : bb < U2.heap.size := by rw [hU2, hbb]; simp
                        have hbl : w.heap.size + 2 ≤ bb := by rw [hbb]; omega
                        have hbe : w2.heap.size ≤ bb := by omega
                        have HOU0 := Lib.hid (show Only (fun j => w2.heap.size ≤ j) w2 U2 by rw [hU2]; exact Only.of_below hal0)
                        go_upto_region 32 with fail
                        rw [← hU2, ← hbb]
                        have HBBE := Lib.hid hbb
                        clear hU2 hal0 hbb
                        go_wp2_with fail
                        refine HRD5.out.mono ?_
                        rintro e w3 ⟨rv, rs, ep, rfl, hro, hrs, hb3⟩
                        have b0 := cell_later hb3 b0
                        have b1 := cell_later hb3 b1
                        have hth := there_only hth (Only.of_below (S := fun _ => False) hb3) hbz (fun h => h)
                        have z0 := (hth 0 (by omega)).2
                        have z1 := (hth 1 (by omega)).2
                        rw [Nat.zero_add] at z0 z1
                        obtain ⟨va, vc, rfl⟩ := own_slice hro
                        have HRO := Lib.hid hro
                        have HRS := Lib.hid hrs
                        have HOU := Lib.hid (show Only (fun j => w2.heap.size ≤ j) w2 w3 from HOU0.out.trans (Only.of_below (S := fun _ => False) hb3) (fun _ _ h => h.elim))
                        have hz3 := hb3.size
                        clear hro hrs hb3 hth
                        go_upto_region 33 with fail
                        have ho1 := ((Only.refl (fun j => j = bb) w3).setCell ⟨bb, 1, none⟩ (.slice va rs.length vc) (.inl rfl)).setCell ⟨bb, 0, none⟩ (.int .i64 ep) (.inl rfl)
                        have HRW := Lib.hid (ownsRow_only HRO.out ho1 (fun g hg e => by have := (World.ownsRow.lt HRO.out g hg).1; omega))
                        have HOV := Lib.hid (HOU.out.trans ho1 (fun j _ e => by omega))
                        have k1 : ((w3.setCell ⟨bb, 1, none⟩ (.slice va rs.length vc)).setCell ⟨bb, 0, none⟩ (.int .i64 ep)).cell? ⟨bb, 1, none⟩ = some (.slice va rs.length vc) := by
                          rw [World.cell?_setCell_other _ _ _ _ (by simp)]; exact cell_set_same _ b1
                        have k0 : ((w3.setCell ⟨bb, 1, none⟩ (.slice va rs.length vc)).setCell ⟨bb, 0, none⟩ (.int .i64 ep)).cell? ⟨bb, 0, none⟩ = some (.int .i64 ep) := cell_set_same (u := .int .i64 0) _ (by rw [World.cell?_setCell_other _ _ _ _ (by simp)]; exact b0)
                        have hzv := ho1.size
                        clear ho1 b0 b1 z0 z1
                        generalize (w3.setCell ⟨bb, 1, none⟩ (.slice va rs.length vc)).setCell ⟨bb, 0, none⟩ (.int .i64 ep) = W3 at *
                        have HLS3 := Lib.hid (HLS2.out.fresh HOV.out)
                        obtain ⟨qa, qc, hqv⟩ := own_slice HLS3.out.own.bats
                        have l10 : W3.cell? ⟨w.heap.size + 1, 10, none⟩ = some (.slice qa L.bats.length qc) := by rw [← hqv]; exact HLS3.out.cell 10 _ rfl
                        have HQV := Lib.hid hqv
                        have hal := below_alloc W3 (.cells #[.int .i64 ep, .slice va rs.length vc] 67)
                        have HLS4 := Lib.hid (HLS3.out.later hal)
                        have HRW4 := Lib.hid (ownsRow_mono (base' := w.heap.size + 2) (ownsRow_below HRW.out hal (Nat.le_refl _)) (by omega))
                        have HLIT := Lib.hid (Rd.lit (w := W3) (cs := #[.int .i64 ep, .slice va rs.length vc]) (e := 67) (n := 1) (sz := 2) rfl (by omega))
                        have HOW := Lib.hid (show (W3.alloc (.cells #[.int .i64 ep, .slice va rs.length vc] 67)).ownsRow (w.heap.size + 2) 67 2 (.slice qa L.bats.length qc) L.bats.length (flatF Bt.cells L.bats) from by have := HLS4.out.own.bats; rwa [HQV.out] at this)
                        have HZZ := Lib.hid (show w.heap.size + 2 ≤ (W3.alloc (.cells #[.int .i64 ep, .slice va rs.length vc] 67)).heap.size from HLS4.out.lt)
                        have hbl2 := hkl.2
                        clear hqv hal
                        obtain ⟨okb, hokb⟩ : ∃ okb, listB (Itc.mk hk0 hn0 hs0 hl0 :: rest) = okb := ⟨_, rfl⟩
                        have HOB := Lib.hid hokb
                        rw [hokb]
                        clear hokb
                        go_upto_region 36 with (at_builtin; go_loud (refine app_keep tyBats HOW.out HLIT.out (by simp [Value.oneCell']) (by omega) (by omega) (by omega) HZZ.out rfl rfl rfl rfl ?_; intro g gcap w6 h2 h3 h4 h5; have hbx := own_otherT HOW.out HLS4.out.box (by decide) h4; have l10 : w6.cell? ⟨w.heap.size + 1, 10, none⟩ = some (.slice qa L.bats.length qc) := (by rw [← HQV.out]; have e := World.ownsRow.cells hbx (g := w.heap.size + 1) rfl 10 _ rfl; rwa [add_off, Nat.zero_add] at e); have z10 : w6.frozen? ⟨w.heap.size + 1, 10, none⟩ = false := World.ownsRow.frozenAt hbx 10; have Q2 := Lib.hid h2; have Q4 := Lib.hid h4; clear h2 h3 h4 h5 hbx))
                        have HS := Lib.hid (HLS4.out.pushBt ⟨ep, .slice va rs.length vc, rs⟩ HRW4.out Q2.out (by rw [HQV.out]; exact Q4.out) rfl)
                        have HN := Lib.hid (show LI ss (k + 1) (wh && okb) { L with bv := .slice (some ⟨g, 0, none⟩) (L.bats.length + 1) gcap, bats := L.bats ++ [⟨ep, .slice va rs.length vc, rs⟩] } from HLI.out.next HTX.out HDB.out HOK.out ⟨by show L.rows.length ≤ _; omega, by show (L.bats ++ [_]).length ≤ _; rw [List.length_append]; show _ + 1 ≤ _; omega⟩ (fun h M => by
                          unfold actD
                          rw [if_neg (show ¬ nth (Itc.mk hk0 hn0 hs0 hl0 :: rest) 0 = 0 from HNZ.out), if_neg (show ¬ nth (Itc.mk hk0 hn0 hs0 hl0 :: rest) 0 = 4 from N4.out), if_neg (show ¬ nth (Itc.mk hk0 hn0 hs0 hl0 :: rest) 0 = 1 from N1.out), if_pos (show nth (Itc.mk hk0 hn0 hs0 hl0 :: rest) 0 = 2 from H2.out), if_neg (by rw [HOB.out, h]; simp)]) (fun h M hM => by
                          have h2 := HRS.out (by rw [HOB.out, h])
                          refine ⟨{ M with bats := M.bats ++ [⟨nth (Itc.mk hk0 hn0 hs0 hl0 :: rest) 1, nv, ((Itc.mk hk0 hn0 hs0 hl0 :: rest).getD 2 zI).l.map recV⟩] }, ?_, ⟨hM.rows, hM.C, hM.opn, ?_, hM.sealed, hM.decided, hM.dep, hM.ops, hM.keep⟩⟩
                          · unfold actD
                            rw [if_neg (show ¬ nth (Itc.mk hk0 hn0 hs0 hl0 :: rest) 0 = 0 from HNZ.out), if_neg (show ¬ nth (Itc.mk hk0 hn0 hs0 hl0 :: rest) 0 = 4 from N4.out), if_neg (show ¬ nth (Itc.mk hk0 hn0 hs0 hl0 :: rest) 0 = 1 from N1.out), if_pos (show nth (Itc.mk hk0 hn0 hs0 hl0 :: rest) 0 = 2 from H2.out), if_pos (by rw [HOB.out, h])]
                          · show (L.bats ++ [_]).map Bt.con = (M.bats ++ [_]).map Bt.con
                            rw [List.map_append, List.map_append, hM.bats, h2.1, h2.2]
                            rfl))
                        clear Q2 Q4 l10 z10
                        cases okb
                        all_goals
                          cases wh
                          all_goals
                            go_wp2_with fail
                            go_roundw
                            case rel => exact ⟨k + 1, _, _, by omega, by go_num, rfl, HN.out, HS.out⟩
                            case measure => simp [intOf]; omega
                    · have g2 : (hn0 == 2) = false := beq_eq_false_iff_ne.2 h2
                      have N2 := Lib.hid h2
                      clear h2
                      by_cases h3 : hn0 = 3
                      · have g3 : (hn0 == 3) = true := beq_iff_eq.2 h3
                        have H3 := Lib.hid h3
                        clear h3
                        as_aux_lemma =>
                          have hwfx := HWF.out
                          go_upto_region 35 with fail
                          have HRD5 := Lib.hid (plread_calls hE P _ (Itc.mk hk0 hn0 hs0 hl0 :: rest) w2 HPI.out HPP.out HWF.out)
                          go_wp2_with fail
                          refine HRD5.out.mono ?_
                          rintro e w3 ⟨rv, rs, ep, rfl, hro, hrs, hb3⟩
                          have HLS3 := Lib.hid (HLS2.out.later hb3)
                          obtain ⟨va, vc, rfl⟩ := own_slice hro
                          have HRO := Lib.hid hro
                          have HRS := Lib.hid hrs
                          have l9 := HLS3.out.cell 9 _ rfl
                          have z9 := HLS3.out.frz 9
                          have hlb := HLS2.out.lt
                          have HS := Lib.hid (HLS3.out.set (L' := { L with ov := .slice va rs.length vc, opn := rs }) 9 (.slice va rs.length vc) rfl ⟨HLS3.out.own.rows, ownsRow_mono hro (by omega), HLS3.out.own.bats, HLS3.out.own.recs, HLS3.out.own.ops, HLS3.out.own.ins⟩)
                          obtain ⟨okb, hokb⟩ : ∃ okb, listB (Itc.mk hk0 hn0 hs0 hl0 :: rest) = okb := ⟨_, rfl⟩
                          have HOB := Lib.hid hokb
                          have HN := Lib.hid (show LI ss (k + 1) (wh && okb) { L with ov := .slice va rs.length vc, opn := rs } from HLI.out.next HTX.out HDB.out HOK.out ⟨by show L.rows.length ≤ _; omega, by show L.bats.length ≤ _; omega⟩ (fun h M => by
                            unfold actD
                            rw [if_neg (show ¬ nth (Itc.mk hk0 hn0 hs0 hl0 :: rest) 0 = 0 from HNZ.out), if_neg (show ¬ nth (Itc.mk hk0 hn0 hs0 hl0 :: rest) 0 = 4 from N4.out), if_neg (show ¬ nth (Itc.mk hk0 hn0 hs0 hl0 :: rest) 0 = 1 from N1.out), if_neg (show ¬ nth (Itc.mk hk0 hn0 hs0 hl0 :: rest) 0 = 2 from N2.out), if_pos (show nth (Itc.mk hk0 hn0 hs0 hl0 :: rest) 0 = 3 from H3.out), if_neg (by rw [HOB.out, h]; simp)]) (fun h M hM => by
                            have h2 := HRS.out (by rw [HOB.out, h])
                            refine ⟨{ M with opn := ((Itc.mk hk0 hn0 hs0 hl0 :: rest).getD 2 zI).l.map recV }, ?_, ⟨hM.rows, hM.C, ?_, hM.bats, hM.sealed, hM.decided, hM.dep, hM.ops, hM.keep⟩⟩
                            · unfold actD
                              rw [if_neg (show ¬ nth (Itc.mk hk0 hn0 hs0 hl0 :: rest) 0 = 0 from HNZ.out), if_neg (show ¬ nth (Itc.mk hk0 hn0 hs0 hl0 :: rest) 0 = 4 from N4.out), if_neg (show ¬ nth (Itc.mk hk0 hn0 hs0 hl0 :: rest) 0 = 1 from N1.out), if_neg (show ¬ nth (Itc.mk hk0 hn0 hs0 hl0 :: rest) 0 = 2 from N2.out), if_pos (show nth (Itc.mk hk0 hn0 hs0 hl0 :: rest) 0 = 3 from H3.out), if_pos (by rw [HOB.out, h])]
                            · exact h2.1))
                          rw [hokb]
                          clear hokb hro hrs hb3
                          cases okb
                          all_goals
                            cases wh
                            all_goals
                              go_wp2_with fail
                              go_roundw
                              case rel => exact ⟨k + 1, _, _, by omega, by go_num, rfl, HN.out, HS.out⟩
                              case measure => simp [intOf]; omega
                      · have g3 : (hn0 == 3) = false := beq_eq_false_iff_ne.2 h3
                        have HS := HLS2
                        have HN := Lib.hid (show LI ss (k + 1) (wh && false) L from HLI.out.next HTX.out HDB.out HOK.out ⟨by omega, by omega⟩ (fun _ M => by
                          unfold actD
                          rw [if_neg (show ¬ nth (Itc.mk hk0 hn0 hs0 hl0 :: rest) 0 = 0 from HNZ.out), if_neg (show ¬ nth (Itc.mk hk0 hn0 hs0 hl0 :: rest) 0 = 4 from N4.out), if_neg (show ¬ nth (Itc.mk hk0 hn0 hs0 hl0 :: rest) 0 = 1 from N1.out), if_neg (show ¬ nth (Itc.mk hk0 hn0 hs0 hl0 :: rest) 0 = 2 from N2.out), if_neg (show ¬ nth (Itc.mk hk0 hn0 hs0 hl0 :: rest) 0 = 3 from h3)]) (fun h => by cases h))
                        clear h3
                        cases wh
                        all_goals
                          go_wp2_with fail
                          go_roundw
                          case rel => exact ⟨k + 1, _, L, by omega, by go_num, rfl, HN.out, HS.out⟩
                          case measure => simp [intOf]; omega
          · have e1 : (hk0 != 0) = true := by simp [hk1]
            have HNONE := Lib.hid (show ledD ss = none from HLI.out.bad HTX.out (step_bad (.inr ⟨_, HDB.out, by show (decide (hk0 = 0) && _) = false; simp [hk1]⟩)))
            clear hk1
            go_wp2_with (first | (refine wpList_store_mid rfl 30 _ _ rfl (w.heap.size) 0 (Led.cells zeroL).toArray rfl rfl HRES.out (by show _ = some 16; kernel_rfl) (LO.zero w 0).all ?_) | (refine wp_store_mid 30 _ _ rfl (w.heap.size) 0 (Led.cells zeroL).toArray rfl rfl HRES.out (by show _ = some 16; kernel_rfl) (LO.zero w 0).all ?_))
            refine bodyPost_ret (v := .tuple #[.agg (Led.cells zeroL).toArray, .int .i64 3]) (res_cell2 Try.results27 rfl (run_led (L := zeroL) (World.rangeAt_setCells_same w2 w.heap.size 0 _ HRES.out))) rfl ⟨zeroL, 3, rfl, LO.zero _ _, HBB.out.trans ((onlyC w2 w.heap.size (Led.cells zeroL) 0).below HBB.out.size (fun j hj e => by omega)), .inr ⟨rfl, HNONE.out, rfl⟩⟩
    · obtain rfl : k = ss.length := by omega
      cases wh with
      | false =>
        have HNONE := Lib.hid HLI.out.none
        clear hlt
        go_wp2_with (first | (refine wpList_store_mid rfl 30 _ _ rfl (w.heap.size) 0 (Led.cells zeroL).toArray rfl rfl HRES.out (by show _ = some 16; kernel_rfl) (LO.zero w 0).all ?_) | (refine wp_store_mid 30 _ _ rfl (w.heap.size) 0 (Led.cells zeroL).toArray rfl rfl HRES.out (by show _ = some 16; kernel_rfl) (LO.zero w 0).all ?_))
        refine bodyPost_ret (v := .tuple #[.agg (Led.cells zeroL).toArray, .int .i64 3]) (res_cell2 Try.results27 rfl (run_led (L := zeroL) (World.rangeAt_setCells_same wr w.heap.size 0 _ HRES.out))) rfl ⟨zeroL, 3, rfl, LO.zero _ _, HBB.out.trans ((onlyC wr w.heap.size (Led.cells zeroL) 0).below HBB.out.size (fun j hj e => by omega)), .inr ⟨rfl, HNONE.out, rfl⟩⟩
      | true =>
        obtain ⟨M, hM, hsm, hpos⟩ := HLI.out.some
        have hfit := foldTo_fits _ _ hM
        have HOK := Lib.hid (hsm.ok hfit.1)
        have HSMALL := Lib.hid (hsm.small (HSM.out M hM))
        have HSAME := Lib.hid hsm
        have HGOOD := Lib.hid hsm.good
        have HRG := Lib.hid HLS.out.range
        have HLD := Lib.hid (fun h : L.good = true => (show ledD ss = some M by
          unfold ledD
          rw [if_neg (by omega), hM]
          exact if_pos (by rw [← hsm.good]; exact h)))
        have HLDN := Lib.hid (fun h : L.good = false => (show ledD ss = none by
          unfold ledD
          rw [if_neg (by omega), hM]
          exact if_neg (by rw [← hsm.good, h]; simp)))
        clear hM hsm hfit hlt
        obtain ⟨rv, rows, C, ov, opn, bv, bats, sealed, decided, dep, gv, ops, keep⟩ := L
        obtain ⟨ra, rc, hrv⟩ := own_slice (show wr.ownsRow (w.heap.size + 2) 92 3 rv rows.length (flatF Row.cells rows) from HLS.out.own.rows)
        obtain ⟨oa, oc, hov⟩ := own_slice (show wr.ownsRow (w.heap.size + 2) 33 5 ov opn.length (flatF Rec.cells opn) from HLS.out.own.opn)
        obtain ⟨ba, bc, hbv⟩ := own_slice (show wr.ownsRow (w.heap.size + 2) 67 2 bv bats.length (flatF Bt.cells bats) from HLS.out.own.bats)
        obtain ⟨ga, gc, hgv⟩ := own_slice (show wr.ownsRow (w.heap.size + 2) 90 7 gv ops.length (flatF Opr.cells ops) from HLS.out.own.ops)
        subst hrv hov hbv hgv
        have c0 : wr.cell? ⟨w.heap.size + 1, 0, none⟩ = some (.slice ra rows.length rc) := HLS.out.cell 0 _ rfl
        have c1 : wr.cell? ⟨w.heap.size + 1, 1, none⟩ = some (.int .i64 (C 0)) := HLS.out.cell 1 _ rfl
        have c2 : wr.cell? ⟨w.heap.size + 1, 2, none⟩ = some (.int .i64 (C 1)) := HLS.out.cell 2 _ rfl
        have c3 : wr.cell? ⟨w.heap.size + 1, 3, none⟩ = some (.int .i64 (C 2)) := HLS.out.cell 3 _ rfl
        have c4 : wr.cell? ⟨w.heap.size + 1, 4, none⟩ = some (.int .i64 (C 3)) := HLS.out.cell 4 _ rfl
        have c5 : wr.cell? ⟨w.heap.size + 1, 5, none⟩ = some (.int .i64 (C 4)) := HLS.out.cell 5 _ rfl
        have c6 : wr.cell? ⟨w.heap.size + 1, 6, none⟩ = some (.int .i64 (C 5)) := HLS.out.cell 6 _ rfl
        have c7 : wr.cell? ⟨w.heap.size + 1, 7, none⟩ = some (.int .i64 (C 6)) := HLS.out.cell 7 _ rfl
        have c8 : wr.cell? ⟨w.heap.size + 1, 8, none⟩ = some (.int .i64 (C 7)) := HLS.out.cell 8 _ rfl
        have c9 : wr.cell? ⟨w.heap.size + 1, 9, none⟩ = some (.slice oa opn.length oc) := HLS.out.cell 9 _ rfl
        have c10 : wr.cell? ⟨w.heap.size + 1, 10, none⟩ = some (.slice ba bats.length bc) := HLS.out.cell 10 _ rfl
        have c11 : wr.cell? ⟨w.heap.size + 1, 11, none⟩ = some (.int .i64 sealed) := HLS.out.cell 11 _ rfl
        have c12 : wr.cell? ⟨w.heap.size + 1, 12, none⟩ = some (.int .i64 decided) := HLS.out.cell 12 _ rfl
        have c13 : wr.cell? ⟨w.heap.size + 1, 13, none⟩ = some (.bool dep) := HLS.out.cell 13 _ rfl
        have c14 : wr.cell? ⟨w.heap.size + 1, 14, none⟩ = some (.slice ga ops.length gc) := HLS.out.cell 14 _ rfl
        have c15 : wr.cell? ⟨w.heap.size + 1, 15, none⟩ = some (.int .i64 keep) := HLS.out.cell 15 _ rfl
        go_wp2_with fail
        refine (pGood_calls ⟨_, rows, C, _, opn, _, bats, sealed, decided, dep, _, ops, keep⟩ wr HLS.out.own.reads HOK.out HSMALL.out).mono ?_
        rintro e w9 ⟨rfl, hb9⟩
        have HLS9 := Lib.hid (HLS.out.later hb9)
        have HRES := Lib.hid HLS9.out.res
        have HBB := Lib.hid HLS9.out.b
        have HRG := Lib.hid HLS9.out.range
        generalize hLL : (⟨.slice ra rows.length rc, rows, C, .slice oa opn.length oc, opn, .slice ba bats.length bc, bats, sealed, decided, dep, .slice ga ops.length gc, ops, keep⟩ : Led) = L at *
        clear hb9 HLS c0 c1 c2 c3 c4 c5 c6 c7 c8 c9 c10 c11 c12 c13 c14 c15 hLL
        cases hg : L.good with
        | false =>
          have HNONE := Lib.hid (HLDN.out hg)
          clear hg
          go_wp2_with (first | (refine wpList_store_mid rfl 30 _ _ rfl (w.heap.size) 0 (Led.cells zeroL).toArray rfl rfl HRES.out (by show _ = some 16; kernel_rfl) (LO.zero w 0).all ?_) | (refine wp_store_mid 30 _ _ rfl (w.heap.size) 0 (Led.cells zeroL).toArray rfl rfl HRES.out (by show _ = some 16; kernel_rfl) (LO.zero w 0).all ?_))
          refine bodyPost_ret (v := .tuple #[.agg (Led.cells zeroL).toArray, .int .i64 3]) (res_cell2 Try.results27 rfl (run_led (L := zeroL) (World.rangeAt_setCells_same w9 w.heap.size 0 _ HRES.out))) rfl ⟨zeroL, 3, rfl, LO.zero _ _, HBB.out.trans ((onlyC w9 w.heap.size (Led.cells zeroL) 0).below HBB.out.size (fun j hj e => by omega)), .inr ⟨rfl, HNONE.out, rfl⟩⟩
        | true =>
          have HYES := Lib.hid (HLD.out hg)
          have HALL := Lib.hid HLS9.out.own.all
          clear hg
          go_wp2_with (first | (refine wpList_load_mid rfl 30 _ rfl ((w.heap.size + 1)) 0 rfl (Led.cells L) _ HRG.out Try.underlying30 rfl (by show _ = some 16; kernel_rfl) ?_) | (refine wp_load_mid 30 _ rfl ((w.heap.size + 1)) 0 rfl (Led.cells L) _ HRG.out Try.underlying30 rfl (by show _ = some 16; kernel_rfl) ?_) | (refine wpList_store_mid rfl 30 _ _ rfl ((w.heap.size)) 0 (Led.cells L).toArray rfl rfl HRES.out (by show _ = some 16; kernel_rfl) HALL.out ?_) | (refine wp_store_mid 30 _ _ rfl ((w.heap.size)) 0 (Led.cells L).toArray rfl rfl HRES.out (by show _ = some 16; kernel_rfl) HALL.out ?_))
          have hon := onlyC w9 w.heap.size (Led.cells L) 0
          refine bodyPost_ret (v := .tuple #[.agg (Led.cells L).toArray, .int .i64 0]) (res_cell2 Try.results27 rfl (run_led (L := L) (World.rangeAt_setCells_same w9 w.heap.size 0 _ HRES.out))) rfl ⟨L, 0, rfl, ?_, HBB.out.trans (hon.below HBB.out.size (fun j hj e => by omega)), .inl ⟨rfl, M, HYES.out, HSAME.out⟩⟩
          have h2 := HLS9.out.own.only hon (fun j h1 h2 e => by omega)
          exact ⟨ownsRow_mono h2.rows (by omega), ownsRow_mono h2.opn (by omega), ownsRow_mono h2.bats (by omega), fun b hb => ownsRow_mono (h2.recs b hb) (by omega), ownsRow_mono h2.ops (by omega), fun o ho => ownsRow_mono (h2.ins o ho) (by omega)⟩
end Go.Proofs.Ytkabfjbmofpkdaa
