/- Walks and plain laws of the chapter, laid together; each part says what it proves. -/
import Derived.Laws.EntriesVeiled
import Derived.Lib.ConvBytes
import Derived.Laws.AppendOwn
import Derived.Test.YtkabfjbmofpkdaaPkA
import Derived.Test.YtkabfjbmofpkdaaPkK
/- Layer 9: Decode of an entry's text, walked. -/
namespace Go.Proofs.Ytkabfjbmofpkdaa
open Go.RowKit Go.Shelf
set_option linter.unusedVariables false
set_option linter.unusedSimpArgs false
set_option maxRecDepth 100000

theorem run_ent {w : World} {b o : Nat} {E : Ent} (h : w.rangeAt b o E.cells) : (loadVar 35 ⟨b, o, none⟩).run Try.prog w = .ok (.agg E.cells.toArray) w :=
  run_loadVar_mid (P := Try.prog) w b o 35 E.cells _ h Try.underlying35 rfl (by show _ = some 8; kernel_rfl)
theorem ent_all (E : Ent) (h : ∃ a n c, E.gv = .slice a n c) : E.cells.toArray.all (·.oneCell') = true := by
  refine all_oneCell_toArray (fun u hu => ?_)
  simp only [Ent.cells, List.mem_cons, List.not_mem_nil, or_false] at hu
  obtain ⟨a, n, c, h⟩ := h
  rcases hu with rfl | rfl | rfl | rfl | rfl | rfl | rfl | rfl
  all_goals first | rfl | (rw [h]; rfl)

theorem m_storek {P : Program} {l : List Oper} {Q : Exit → Act → World → Prop} {S : World → Prop} {T : Act → World → Prop} {i : Nat} {o : Oper} {π : List (Nat × Bool)} {a : Act} {w : World} {t : TypeId} {x y : Operand} {b off : Nat} {cs : List Value}
    (ho : l[i]? = some o) (hw : Region.wanted o (yielded l.toArray a.tmps) = true) (hop : o.op = .store t x y) (hx : a.eval x = .pointer (some ⟨b, off, none⟩)) (hy : a.eval y = .agg cs.toArray) (ht : w.there b off cs.length)
    (hi : (P.info? t).map (·.size) = some cs.length) (h1 : cs.toArray.all (·.oneCell') = true) (hS : S (w.setCells b off cs)) (h : wpM P l.toArray Q S T π (a.put o.dst undef) (w.setCells b off cs)) : wpM P l.toArray Q S T ((i, true) :: π) a w := by
  refine m_loud ho fun K hK => ?_
  rw [if_pos hw]
  exact wp_store_mid t x y hop b off cs.toArray hx hy (by simpa using ht) (by simpa using hi) h1 (by simpa using hK _ _ hS h)
theorem rec_all (r : Rec) : r.cells.toArray.all (·.oneCell') = true := by
  refine all_oneCell_toArray (fun u hu => ?_)
  simp only [Rec.cells, List.mem_cons, List.not_mem_nil, or_false] at hu
  rcases hu with rfl | rfl | rfl | rfl | rfl <;> rfl
theorem decB_wf65 {s : ByteArray} {l : List Itc} (h : decB s = some l) : ∀ i ∈ l, wfI 65536 8 i := by
  have h1 := decB_wf h
  have h2 : s.size ≤ 65536 := by
    unfold decB dec at h
    split at h
    · cases h
    · rename_i hn
      rw [Array.length_toList] at hn
      have : s.size = s.data.size := rfl
      omega
  exact fun i hi => wfI_mono h2 (h1 i hi)
theorem tkX_len {m d : Nat} {l : List Itc} (h : ∀ i ∈ l, wfI m d i) (i : Nat) (k : Int) : (tkX l i k).l.length ≤ m := by
  rcases tkX_mem l i k with e | e
  · rw [e]; exact Nat.zero_le _
  · exact wfI_len (h _ e)
theorem opr_all (o : Opr) (h : o.iv.oneCell' = true) : o.cells.toArray.all (·.oneCell') = true := by
  refine all_oneCell_toArray (fun u hu => ?_)
  simp only [Opr.cells, List.mem_cons, List.not_mem_nil, or_false] at hu
  rcases hu with rfl | rfl | rfl | rfl | rfl | rfl | rfl
  all_goals first | rfl | exact h
theorem t_storeE {P : Program} {l : List Oper} {Q : Exit → Act → World → Prop} {S : World → Prop} {T : Act → World → Prop} {i : Nat} {o : Oper} {r : Ord} {a : Act} {w : World} {t : TypeId} {x y : Operand} {b off : Nat} {cs : List Value}
    (ho : l[i]? = some o) (hw : Region.wanted o (yielded l.toArray a.tmps) = true) (hop : o.op = .store t x y) (hx : a.eval x = .pointer (some ⟨b, off, none⟩)) (hy : a.eval y = .agg cs.toArray) (ht : w.there b off cs.length)
    (hi : (P.info? t).map (·.size) = some cs.length) (h1 : cs.toArray.all (·.oneCell') = true) (hS : S (w.setCells b off cs)) (h : wpT P l.toArray Q S T r (a.put o.dst undef) (w.setCells b off cs)) : wpT P l.toArray Q S T (.loud i r) a w := by
  refine t_loud ho fun K hK => ?_
  rw [if_pos hw]
  exact wp_store_mid t x y hop b off cs.toArray hx hy (by simpa using ht) (by simpa using hi) h1 (by simpa using hK _ _ hS h)
theorem own_thereE {w : World} {base g n cap k sz : Nat} {e : TypeId} {xs : List Value} (h : w.ownsRow base e sz (.slice (some ⟨g, 0, none⟩) n cap) n xs) (hk : k ≤ xs.length) : w.there g 0 k := fun j hj => by
  have hx : xs[j]? = some xs[j] := List.getElem?_eq_getElem (by omega)
  have := World.ownsRow.cells h (g := g) rfl j _ hx
  rw [add_off] at this
  exact ⟨by rw [this]; rfl, World.ownsRow.frozenAt h (0 + j)⟩
theorem any_take {l : List Itc} {j : Nat} (h : j < l.length) : (l.take (j + 1)).any opW = ((l.take j).any opW || opW l[j]) := by
  rw [List.take_succ_eq_append_getElem h, List.any_append]; simp
theorem insW_take {l : List Itc} {j : Nat} (h : j < l.length) : insW (l.take (j + 1)) = (insW (l.take j) || decide (l[j].k ≠ 0)) := by
  unfold insW
  rw [List.take_succ_eq_append_getElem h, List.any_append]; simp
theorem goodEnt_con {k n : Int} {r : Rec} {xs ys : List Opr} (h : ys.map Opr.con = xs.map Opr.con) : goodEnt k r ys n = goodEnt k r xs n := by
  have hl : ys.length = xs.length := by have := congrArg List.length h; simpa using this
  have hi : insOk ys = insOk xs := by
    unfold insOk
    have e : ∀ zs : List Opr, (zs.all fun o => decide (o.ins.length ≤ 2)) = ((zs.map Opr.con).all fun c => decide (c.2.1.length ≤ 2)) := fun zs => by rw [List.all_map]; rfl
    rw [e, e, h]
  unfold goodEnt
  rw [hl, hi]
theorem EntSame.good {X E : Ent} (h : EntSame X E) : goodEnt E.k E.r E.os E.n = X.good := by
  unfold Ent.good
  rw [h.k, h.r, h.n]
  exact goodEnt_con h.os
theorem entD_none {s : ByteArray} (h : ¬ s.size = 0) (hd : decB s = none) : entD s = none := by unfold entD; rw [if_neg h, hd]
theorem entD_items {s : ByteArray} {l : List Itc} (h : ¬ s.size = 0) (hd : decB s = some l) : entD s = entG l := by unfold entD; rw [if_neg h, hd]
theorem entG_no {l : List Itc} (h : ¬ (entW l = false ∧ l.length = entC l ∧ (entX l).good = true)) : entG l = none := by
  unfold entG; rw [if_neg h]
theorem entG_yes {l : List Itc} (h1 : entW l = false) (h2 : l.length = entC l) (h3 : (entX l).good = true) : entG l = some (entX l) := by
  unfold entG; rw [if_pos ⟨h1, h2, h3⟩]
set_option maxHeartbeats 16000000 in
theorem edec_calls (s : ByteArray) (w : World) (hs : s.size ≤ 9223372036854775807) :
    Calls Try.prog 54 #[.string s] w fun e w' => ∃ E cd, e = .returned (.tuple #[.agg E.cells.toArray, .int .i64 cd]) ∧ EntRes s w' w.heap.size E cd ∧ Below w.heap.size w w' := by
  obtain ⟨X, hX⟩ : ∃ X, X = w.alloc (.cells #[.int .i64 0, .int .i64 0, .int .i64 0, .int .i64 0, .string nos, .int .u32 0, .slice none 0 0, .int .i64 0] 35) := ⟨_, rfl⟩
  have hbX : Below w.heap.size w X := by rw [hX]; exact below_alloc _ _
  have hXS : X.heap.size = w.heap.size + 1 := by rw [hX]; simp
  have HT := Lib.hid (show X.there w.heap.size 0 8 from by
    rw [hX]
    exact there_box (w := w) (cs := #[.int .i64 0, .int .i64 0, .int .i64 0, .int .i64 0, .string nos, .int .u32 0, .slice none 0 0, .int .i64 0]) (e := 35) (Below.refl _ _))
  have HBX := Lib.hid hbX
  have HX := Lib.hid hX
  have eg := fun args w => enter_of Try.func76 (by kernel_rfl) rfl args w
  have eg2 := fun args w => enter_of Try.func77 (by kernel_rfl) rfl args w
  have HST := Lib.hid (show s.toList = s.data.toList by rw [ByteArray.toList_eq])
  have HSL := Lib.hid (show s.data.toList.length = s.size by rw [Array.length_toList]; rfl)
  have HBB := Lib.hid hbX
  have HBAD := HT
  clear hX hbX
  go_enter Try.func54, Try.ntmps54
  go_upto_region 1 with fail
  rw [← HX.out]
  by_cases hz : s.size = 0
  · have he : s.toList.isEmpty = true := by rw [HST.out, List.isEmpty_iff, ← List.length_eq_zero_iff, HSL.out]; exact hz
    have HSOME := Lib.hid (show entD s = some zE by unfold entD; rw [if_pos hz])
    clear hz
    go_wp2_with (first | (refine wpList_store_mid rfl 35 _ _ rfl (w.heap.size) 0 (Ent.cells zE).toArray rfl rfl HBAD.out (by show _ = some 8; kernel_rfl) (ent_all zE ⟨_, _, _, rfl⟩) ?_) | (refine wp_store_mid 35 _ _ rfl (w.heap.size) 0 (Ent.cells zE).toArray rfl rfl HBAD.out (by show _ = some 8; kernel_rfl) (ent_all zE ⟨_, _, _, rfl⟩) ?_))
    refine bodyPost_ret (v := .tuple #[.agg (Ent.cells zE).toArray, .int .i64 0]) (res_cell2 Try.results54 rfl (run_ent (E := zE) (World.rangeAt_setCells_same X w.heap.size 0 _ HBAD.out))) rfl ⟨zE, 0, rfl, ⟨EntOwn.nil _ _ _ rfl rfl, by rw [HSOME.out]; exact ⟨rfl, rfl, rfl, rfl, rfl⟩⟩, HBB.out.trans ((onlyC X w.heap.size (Ent.cells zE) 0).below HBB.out.size (fun j hj e => by omega))⟩
  · have he : s.toList.isEmpty = false := by
      rw [HST.out]
      cases h : s.data.toList with
      | nil => have hsl := HSL.out; rw [h] at hsl; exact absurd hsl.symm hz
      | cons x y => rfl
    have HZ := Lib.hid hz
    obtain ⟨w1, cap, hcv, hb1, hby⟩ := conv_str s X hs
    rw [hXS] at hcv hby
    have HBY := Lib.hid hby
    have HBB := Lib.hid (HBB.out.trans (hb1.mono (by omega)))
    have HT1 := Lib.hid (there_only HBAD.out (Only.of_below (S := fun _ => False) hb1) (by omega) (fun h => h))
    have hs1 := hb1.size
    clear hz hb1 hby HBAD HT
    go_wp2_with fail
    refine (wdecode_calls _ _ w1 HBY.out (by rw [HSL.out]; exact hs)).mono ?_
    rintro e w2 ⟨lv, cd, rfl, hb2, ⟨la, ln, lc, rfl⟩, hres⟩
    have HBB := Lib.hid (HBB.out.trans (hb2.mono (by omega)))
    have HBAD := Lib.hid (there_only HT1.out (Only.of_below (S := fun _ => False) hb2) (by omega) (fun h => h))
    have hs2 := hb2.size
    unfold DecRes at hres
    clear hcv HBY he hb2 HT1
    cases hd : dec s.data.toList with
    | none =>
      rw [hd] at hres
      have hcd : (cd != 0) = true := by simpa using hres.1
      have HNONE := Lib.hid (show entD s = none from entD_none HZ.out hd)
      clear hres hd
      go_wp2_with (first | (refine wpList_store_mid rfl 35 _ _ rfl (w.heap.size) 0 (Ent.cells zE).toArray rfl rfl HBAD.out (by show _ = some 8; kernel_rfl) (ent_all zE ⟨_, _, _, rfl⟩) ?_) | (refine wp_store_mid 35 _ _ rfl (w.heap.size) 0 (Ent.cells zE).toArray rfl rfl HBAD.out (by show _ = some 8; kernel_rfl) (ent_all zE ⟨_, _, _, rfl⟩) ?_))
      refine bodyPost_ret (v := .tuple #[.agg (Ent.cells zE).toArray, .int .i64 3]) (res_cell2 Try.results54 rfl (run_ent (E := zE) (World.rangeAt_setCells_same w2 w.heap.size 0 _ HBAD.out))) rfl ⟨zE, 3, rfl, ⟨EntOwn.nil _ _ _ rfl rfl, by rw [HNONE.out]; exact ⟨rfl, rfl⟩⟩, HBB.out.trans ((onlyC w2 w.heap.size (Ent.cells zE) 0).below HBB.out.size (fun j hj e => by omega))⟩
    | some l =>
      rw [hd] at hres
      obtain ⟨rfl, hits⟩ := hres
      have HED := Lib.hid (show entD s = entG l from entD_items HZ.out hd)
      have HWF := Lib.hid (show ∀ i ∈ l, wfI 65536 8 i from decB_wf65 hd)
      obtain ⟨a', c', hv', -⟩ := hits.slice
      simp only [Value.slice.injEq] at hv'
      obtain ⟨rfl, rfl, rfl⟩ := hv'
      have HITS := Lib.hid hits
      clear hd hits
      go_upto_region 9 with fail
      obtain ⟨wb, hwb⟩ : ∃ wb, wb = w2.heap.size := ⟨_, rfl⟩
      obtain ⟨V, hV⟩ : ∃ V, V = (w2.alloc (.cells #[.bool false] 4)).alloc (.cells #[.func (.func 76) #[] #[.pointer (some ⟨w2.heap.size, 0, none⟩)]] 140) := ⟨_, rfl⟩
      rw [← hV]
      have hbV : Below w2.heap.size w2 V := by rw [hV]; exact below_box (below_alloc _ _) _
      have hzV : V.heap.size = wb + 2 := by rw [hV, hwb]; simp
      have f0 : V.cell? ⟨wb + 1, 0, none⟩ = some (.func (.func 76) #[] #[.pointer (some ⟨wb, 0, none⟩)]) := by
        rw [hV, hwb]
        have := box_self (w := w2.alloc (.cells #[.bool false] 4)) (cs := #[.func (.func 76) #[] #[.pointer (some ⟨w2.heap.size, 0, none⟩)]]) (e := 140) 0 _ rfl
        rwa [World.size_alloc] at this
      have HF := Lib.hid (show Flag V wb wb false from by
        rw [hV, hwb]
        exact ownsRow_below (World.ownsRow_lit (base := w2.heap.size) (size := 1) (e := 4) w2 #[.bool false] 1 (Nat.le_refl _) (by unfold maxLen; omega) (by simp)) (below_alloc _ _) (Nat.le_refl _))
      have HIV := Lib.hid (show ItR (fun j => j < wb) 9 V (.slice la l.length lc) l from by rw [hwb]; exact ItR.below hbV (fun j hj => hj) HITS.out)
      have HBAD := Lib.hid (there_only HBAD.out (Only.of_below (S := fun _ => False) hbV) (by omega) (fun h => h))
      have HBB := Lib.hid (HBB.out.trans (hbV.mono (by omega)))
      have hwb0 : w.heap.size < wb := by omega
      rw [← hwb]
      clear hV hbV hwb HITS
      go_wp2_with fail
      refine (etake_calls _ 8 _ l 0 0 wb wb false V HIV.out (fun j hj => by omega) (by omega) HF.out).mono ?_
      rintro e w3 ⟨kv, rfl, -, hf, ho⟩
      have hfd := fld1 (tkX l 0 0).k (tkX l 0 0).n (tkX l 0 0).s kv
      have HF3 := Lib.hid hf
      have HO3 := Lib.hid ho
      have hz3 := ho.size
      have HFN := Lib.hid f0
      clear hf ho f0
      go_upto_region 11 with fail
      obtain ⟨V4, hV4⟩ : ∃ V4, V4 = w3.alloc (.cells #[.int .i64 (tkX l 0 0).n, .int .i64 0, .int .i64 0, .int .i64 0, .string nos, .int .u32 0, .slice none 0 0, .int .i64 0] 35) := ⟨_, rfl⟩
      have hal : Below w3.heap.size w3 V4 := by rw [hV4]; exact below_alloc _ _
      have hon4 : Only (fun j => j = wb) V V4 := HO3.out.trans (Only.of_below (S := fun _ => False) hal) (fun _ _ h => h.elim)
      have HDS := Lib.hid (show DS V4 w.heap.size wb w3.heap.size (.slice la l.length lc) l (tkW l 0 0) ⟨entK l, zR, nv, [], 0⟩ from by
        refine ⟨hwb0, by omega, HF3.out.below hal, hon4.cell (by omega) HFN.out, ItR.only hon4 (fun j hj e => by omega) HIV.out, there_only HBAD.out hon4 (by omega) (by omega), ?_, EntOwn.nil _ _ _ rfl rfl⟩
        rw [hV4]
        exact World.ownsRow_lit (base := w3.heap.size) (size := 8) (e := 35) w3 #[.int .i64 (tkX l 0 0).n, .int .i64 0, .int .i64 0, .int .i64 0, .string nos, .int .u32 0, .slice none 0 0, .int .i64 0] 1 (Nat.le_refl _) (by unfold maxLen; omega) (by simp))
      have HBB := Lib.hid (HBB.out.trans (hon4.below (by omega) (fun j hj e => by omega)))
      rw [← hV4]
      obtain ⟨eb, heb⟩ : ∃ eb, eb = w3.heap.size := ⟨_, rfl⟩
      rw [← heb] at HDS ⊢
      have HK := Lib.hid (show entK l = (tkX l 0 0).n from rfl)
      clear hV4 hal hon4 heb hfd HF3 HO3 HIV HF HBAD
      generalize hkk : entK l = kk at *
      have HKK := Lib.hid hkk
      clear hkk
      have c0 := HDS.out.cell 0 _ rfl
      by_cases h0 : kk = 0
      · have e0 : (kk == 0) = true := beq_iff_eq.2 h0
        have HWW := Lib.hid (show entW l = true by unfold entW; rw [HKK.out, if_pos h0, Bool.or_true])
        have y0 := HDS.out.flag.at
        have f0 := HDS.out.flag.frz 0
        clear h0
        go_upto_region 32 with fail
        have hset := HDS.out.flag.set true
        have hoo : Only (fun j => j = wb) V4 (V4.setCell ⟨wb, 0, none⟩ (.bool true)) := (Only.of_grown hset.2).weak (fun j _ e => (Option.some.inj e).symm)
        have hds := HDS.out.took hoo hset.1
        have HBB := Lib.hid (HBB.out.trans (hoo.below HBB.out.size (fun j hj e => by omega)))
        have HBAD := Lib.hid hds.res
        have y0 := hds.flag.at
        have HNONE := Lib.hid (show entD s = none by rw [HED.out]; exact entG_no (fun h => by rw [HWW.out] at h; cases h.1))
        clear hset hoo hds c0 f0
        generalize V4.setCell ⟨wb, 0, none⟩ (.bool true) = V5 at *
        go_wp2_with (first | (refine wpList_store_mid rfl 35 _ _ rfl (w.heap.size) 0 (Ent.cells zE).toArray rfl rfl HBAD.out (by show _ = some 8; kernel_rfl) (ent_all zE ⟨_, _, _, rfl⟩) ?_) | (refine wp_store_mid 35 _ _ rfl (w.heap.size) 0 (Ent.cells zE).toArray rfl rfl HBAD.out (by show _ = some 8; kernel_rfl) (ent_all zE ⟨_, _, _, rfl⟩) ?_))
        refine bodyPost_ret (v := .tuple #[.agg (Ent.cells zE).toArray, .int .i64 3]) (res_cell2 Try.results54 rfl (run_ent (E := zE) (World.rangeAt_setCells_same V5 w.heap.size 0 _ HBAD.out))) rfl ⟨zE, 3, rfl, ⟨EntOwn.nil _ _ _ rfl rfl, by rw [HNONE.out]; exact ⟨rfl, rfl⟩⟩, HBB.out.trans ((onlyC V5 w.heap.size (Ent.cells zE) 0).below HBB.out.size (fun j hj e => by omega))⟩
      · have e0 : (kk == 0) = false := beq_eq_false_iff_ne.2 h0
        by_cases h1 : kk = 1
        · have e1 : (kk == 1) = true := beq_iff_eq.2 h1
          have HSM := Lib.hid (show EntSame (entX l) ⟨kk, recX l, nv, [], 0⟩ by unfold entX; rw [HKK.out, if_pos h1]; exact ⟨h1, rfl, rfl, rfl⟩)
          have HCN := Lib.hid (show entC l = 6 by unfold entC; rw [HKK.out, if_pos h1])
          have HWW := Lib.hid (show entW l = (((((tkW l 0 0 || tkW l 1 0) || tkW l 2 0) || tkW l 3 0) || tkW l 4 1) || nmW l 5) by unfold entW recW; rw [HKK.out, if_neg h0, if_pos h1]; simp only [Bool.or_assoc])
          clear h0 h1
          go_upto_region 17 with fail
          have hds := HDS.out.later (Below.refl V4.heap.size V4).drew
          refine region_m [(0, false), (1, false), (4, false), (5, false), (8, false), (9, false), (12, false), (13, false), (16, false), (17, false), (2, true), (3, false), (6, true), (7, false), (10, true), (11, false), (14, true), (15, false), (18, true), (19, false), (20, false), (21, true)] 22 (fun V => V.cell? ⟨wb + 1, 0, none⟩ = some (.func (.func 76) #[] #[.pointer (some ⟨wb, 0, none⟩)])) (by kernel_rfl) (by kernel_rfl) HDS.out.fn ?_
          have HBB := Lib.hid HBB.out.drew
          clear HDS c0
          generalize V4.drew = V5 at *
          iterate 10
            first
            | (refine m_take (v := ?_) rfl rfl ?_ ?_
               rotate_left
               · intro W hW
                 go_simp
                 with_reducible rfl
               simp only [Act.put, List.setIfInBounds_toArray, List.set_cons_zero, List.set_cons_succ])
            | (refine m_skip rfl rfl ?_
               simp only [Act.put, List.setIfInBounds_toArray, List.set_cons_zero, List.set_cons_succ])
          refine m_loud rfl (fun K hK => ?_)
          have HK := Lib.hid hK
          clear hK
          go_simp
          refine (etake_calls _ 8 _ l 1 0 wb wb _ _ hds.its (fun j hj => by have := hds.flag.lt; omega) (by omega) hds.flag).mono ?_
          rintro e w5 ⟨k5, rfl, -, hf, ho⟩
          have hds := hds.took ho hf
          have HBB := Lib.hid (HBB.out.trans (ho.below HBB.out.size (fun j hj e => by omega)))
          have hfd5 := fld1 (tkX l 1 0).k (tkX l 1 0).n (tkX l 1 0).s k5
          clear hf ho
          refine HK.out _ _ hds.fn ?_
          clear HK
          iterate 1
            first
            | (refine m_take (v := ?_) rfl rfl ?_ ?_
               rotate_left
               · intro W hW
                 go_simp
                 with_reducible rfl
               simp only [Act.put, List.setIfInBounds_toArray, List.set_cons_zero, List.set_cons_succ])
            | (refine m_skip rfl rfl ?_
               simp only [Act.put, List.setIfInBounds_toArray, List.set_cons_zero, List.set_cons_succ])
          clear hfd5
          refine m_loud rfl (fun K hK => ?_)
          have HK := Lib.hid hK
          clear hK
          go_simp
          refine (etake_calls _ 8 _ l 2 0 wb wb _ _ hds.its (fun j hj => by have := hds.flag.lt; omega) (by omega) hds.flag).mono ?_
          rintro e w6 ⟨k6, rfl, -, hf, ho⟩
          have hds := hds.took ho hf
          have HBB := Lib.hid (HBB.out.trans (ho.below HBB.out.size (fun j hj e => by omega)))
          have hfd6 := fld1 (tkX l 2 0).k (tkX l 2 0).n (tkX l 2 0).s k6
          clear hf ho
          refine HK.out _ _ hds.fn ?_
          clear HK
          iterate 1
            first
            | (refine m_take (v := ?_) rfl rfl ?_ ?_
               rotate_left
               · intro W hW
                 go_simp
                 with_reducible rfl
               simp only [Act.put, List.setIfInBounds_toArray, List.set_cons_zero, List.set_cons_succ])
            | (refine m_skip rfl rfl ?_
               simp only [Act.put, List.setIfInBounds_toArray, List.set_cons_zero, List.set_cons_succ])
          clear hfd6
          refine m_loud rfl (fun K hK => ?_)
          have HK := Lib.hid hK
          clear hK
          go_simp
          refine (etake_calls _ 8 _ l 3 0 wb wb _ _ hds.its (fun j hj => by have := hds.flag.lt; omega) (by omega) hds.flag).mono ?_
          rintro e w7 ⟨k7, rfl, -, hf, ho⟩
          have hds := hds.took ho hf
          have HBB := Lib.hid (HBB.out.trans (ho.below HBB.out.size (fun j hj e => by omega)))
          have hfd7 := fld1 (tkX l 3 0).k (tkX l 3 0).n (tkX l 3 0).s k7
          clear hf ho
          refine HK.out _ _ hds.fn ?_
          clear HK
          iterate 1
            first
            | (refine m_take (v := ?_) rfl rfl ?_ ?_
               rotate_left
               · intro W hW
                 go_simp
                 with_reducible rfl
               simp only [Act.put, List.setIfInBounds_toArray, List.set_cons_zero, List.set_cons_succ])
            | (refine m_skip rfl rfl ?_
               simp only [Act.put, List.setIfInBounds_toArray, List.set_cons_zero, List.set_cons_succ])
          clear hfd7
          refine m_loud rfl (fun K hK => ?_)
          have HK := Lib.hid hK
          clear hK
          go_simp
          refine (etake_calls _ 8 _ l 4 1 wb wb _ _ hds.its (fun j hj => by have := hds.flag.lt; omega) (by omega) hds.flag).mono ?_
          rintro e w8 ⟨k8, rfl, -, hf, ho⟩
          have hds := hds.took ho hf
          have HBB := Lib.hid (HBB.out.trans (ho.below HBB.out.size (fun j hj e => by omega)))
          have hfd8 := fld2 (tkX l 4 1).k (tkX l 4 1).n (tkX l 4 1).s k8
          clear hf ho
          refine HK.out _ _ hds.fn ?_
          clear HK
          iterate 1
            first
            | (refine m_take (v := ?_) rfl rfl ?_ ?_
               rotate_left
               · intro W hW
                 go_simp
                 with_reducible rfl
               simp only [Act.put, List.setIfInBounds_toArray, List.set_cons_zero, List.set_cons_succ])
            | (refine m_skip rfl rfl ?_
               simp only [Act.put, List.setIfInBounds_toArray, List.set_cons_zero, List.set_cons_succ])
          clear hfd8
          refine m_loud rfl (fun K hK => ?_)
          have HK := Lib.hid hK
          clear hK
          go_simp
          refine (enum_calls _ 8 _ l 5 wb wb (wb + 1) _ _ hds.its (fun j hj => by have := hds.flag.lt; omega) (by omega) hds.flag hds.fn eg).mono ?_
          rintro e w9 ⟨rfl, hf, ho⟩
          have hds := hds.took ho hf
          have HBB := Lib.hid (HBB.out.trans (ho.below HBB.out.size (fun j hj e => by omega)))
          clear hf ho
          refine HK.out _ _ hds.fn ?_
          clear HK
          iterate 2
            first
            | (refine m_take (v := ?_) rfl rfl ?_ ?_
               rotate_left
               · intro W hW
                 go_simp
                 with_reducible rfl
               simp only [Act.put, List.setIfInBounds_toArray, List.set_cons_zero, List.set_cons_succ])
            | (refine m_skip rfl rfl ?_
               simp only [Act.put, List.setIfInBounds_toArray, List.set_cons_zero, List.set_cons_succ])
          have HDS := Lib.hid (hds.putRec (recX l))
          have HBB := Lib.hid (HBB.out.trans ((onlyC w9 eb (Rec.cells (recX l)) 1).below HBB.out.size (fun j hj e => by have := hds.lt2; omega)))
          refine m_storek (b := eb) (off := 1) (cs := Rec.cells (recX l)) rfl rfl rfl rfl rfl (hds.there 1 5 (by omega)) (by show _ = some 5; kernel_rfl) (rec_all _) HDS.out.fn ?_
          refine m_done ?_
          simp only [List.drop_succ_cons, List.drop_zero]
          clear hds
          generalize w9.setCells eb 1 (Rec.cells (recX l)) = V6 at *
          generalize (((((tkW l 0 0 || tkW l 1 0) || tkW l 2 0) || tkW l 3 0) || tkW l 4 1) || nmW l 5) = c at *
          go_wp2_with fail
          simp only [NP]
          go_upto_region 32 with fail
          have y0 := HDS.out.flag.at
          have HBAD := Lib.hid HDS.out.res
          have hrb1 := HDS.out.lt
          have hrb2 := HDS.out.lt2
          cases c with
          | true =>
            have HNONE := Lib.hid (show entD s = none by rw [HED.out]; exact entG_no (fun h => by rw [HWW.out] at h; cases h.1))
            go_wp2_with (first | (refine wpList_store_mid rfl 35 _ _ rfl (w.heap.size) 0 (Ent.cells zE).toArray rfl rfl HBAD.out (by show _ = some 8; kernel_rfl) (ent_all zE ⟨_, _, _, rfl⟩) ?_) | (refine wp_store_mid 35 _ _ rfl (w.heap.size) 0 (Ent.cells zE).toArray rfl rfl HBAD.out (by show _ = some 8; kernel_rfl) (ent_all zE ⟨_, _, _, rfl⟩) ?_))
            refine bodyPost_ret (v := .tuple #[.agg (Ent.cells zE).toArray, .int .i64 3]) (res_cell2 Try.results54 rfl (run_ent (E := zE) (World.rangeAt_setCells_same V6 w.heap.size 0 _ HBAD.out))) rfl ⟨zE, 3, rfl, ⟨EntOwn.nil _ _ _ rfl rfl, by rw [HNONE.out]; exact ⟨rfl, rfl⟩⟩, HBB.out.trans ((onlyC V6 w.heap.size (Ent.cells zE) 0).below HBB.out.size (fun j hj e => by omega))⟩
          | false =>
            by_cases hlc : l.length = 6
            · have e1 : ((l.length : Int) != (6 : Int)) = false := by simp [hlc]
              have HLC := Lib.hid hlc
              have c0 := HDS.out.cell 0 _ rfl
              have c1 := HDS.out.cell 1 _ rfl
              have c2 := HDS.out.cell 2 _ rfl
              have c3 := HDS.out.cell 3 _ rfl
              have c4 := HDS.out.cell 4 _ rfl
              have c5 := HDS.out.cell 5 _ rfl
              have c6 := HDS.out.cell 6 _ rfl
              have c7 := HDS.out.cell 7 _ rfl
              clear hlc
              go_wp2_with fail
              refine (entGood_calls _ (Ent.r (⟨kk, recX l, nv, [], 0⟩)) _ _ _ V6 HDS.out.own.reads).mono ?_
              rintro e w15 ⟨rfl, hb15⟩
              have HD15 := Lib.hid (HDS.out.later hb15)
              have HBB := Lib.hid (HBB.out.trans (hb15.mono HBB.out.size))
              have HBAD := Lib.hid HD15.out.res
              have HGD := Lib.hid (HSM.out.good)
              have c0 := cell_later hb15 c0
              have c1 := cell_later hb15 c1
              have c2 := cell_later hb15 c2
              have c3 := cell_later hb15 c3
              have c4 := cell_later hb15 c4
              have c5 := cell_later hb15 c5
              have c6 := cell_later hb15 c6
              have c7 := cell_later hb15 c7
              clear hb15 y0 HDS
              generalize hgg : goodEnt _ _ _ _ = gd at *
              have HG2 := Lib.hid (show gd = (entX l).good from HGD.out)
              clear hgg HGD
              cases gd with
              | false =>
                have HNONE := Lib.hid (show entD s = none by rw [HED.out]; exact entG_no (fun h => by have := HG2.out; rw [h.2.2] at this; cases this))
                go_wp2_with (first | (refine wpList_store_mid rfl 35 _ _ rfl (w.heap.size) 0 (Ent.cells zE).toArray rfl rfl HBAD.out (by show _ = some 8; kernel_rfl) (ent_all zE ⟨_, _, _, rfl⟩) ?_) | (refine wp_store_mid 35 _ _ rfl (w.heap.size) 0 (Ent.cells zE).toArray rfl rfl HBAD.out (by show _ = some 8; kernel_rfl) (ent_all zE ⟨_, _, _, rfl⟩) ?_))
                refine bodyPost_ret (v := .tuple #[.agg (Ent.cells zE).toArray, .int .i64 3]) (res_cell2 Try.results54 rfl (run_ent (E := zE) (World.rangeAt_setCells_same w15 w.heap.size 0 _ HBAD.out))) rfl ⟨zE, 3, rfl, ⟨EntOwn.nil _ _ _ rfl rfl, by rw [HNONE.out]; exact ⟨rfl, rfl⟩⟩, HBB.out.trans ((onlyC w15 w.heap.size (Ent.cells zE) 0).below HBB.out.size (fun j hj e => by omega))⟩
              | true =>
                have HSOME := Lib.hid (show entD s = some (entX l) by rw [HED.out]; exact entG_yes HWW.out (by rw [HLC.out]; exact HCN.out.symm) HG2.out.symm)
                go_wp2_with (first | (refine wpList_store_mid rfl 35 _ _ rfl (w.heap.size) 0 (Ent.cells (⟨kk, recX l, nv, [], 0⟩)).toArray rfl rfl HBAD.out (by show _ = some 8; kernel_rfl) (ent_all (⟨kk, recX l, nv, [], 0⟩) ⟨_, _, _, rfl⟩) ?_) | (refine wp_store_mid 35 _ _ rfl (w.heap.size) 0 (Ent.cells (⟨kk, recX l, nv, [], 0⟩)).toArray rfl rfl HBAD.out (by show _ = some 8; kernel_rfl) (ent_all (⟨kk, recX l, nv, [], 0⟩) ⟨_, _, _, rfl⟩) ?_))
                have hon := onlyC w15 w.heap.size (Ent.cells (⟨kk, recX l, nv, [], 0⟩)) 0
                refine bodyPost_ret (v := .tuple #[.agg (Ent.cells (⟨kk, recX l, nv, [], 0⟩)).toArray, .int .i64 0]) (res_cell2 Try.results54 rfl (run_ent (E := ⟨kk, recX l, nv, [], 0⟩) (World.rangeAt_setCells_same w15 w.heap.size 0 _ HBAD.out))) rfl ⟨⟨kk, recX l, nv, [], 0⟩, 0, rfl, ⟨(HD15.out.own.only hon (fun j h1 h2 e => by omega)).mono (by omega), by rw [HSOME.out]; exact ⟨rfl, HSM.out⟩⟩, HBB.out.trans (hon.below HBB.out.size (fun j hj e => by omega))⟩
            · have e1 : ((l.length : Int) != (6 : Int)) = true := by simp; omega
              have HNONE := Lib.hid (show entD s = none by rw [HED.out]; exact entG_no (fun h => hlc (by rw [h.2.1]; exact HCN.out)))
              clear hlc
              go_wp2_with (first | (refine wpList_store_mid rfl 35 _ _ rfl (w.heap.size) 0 (Ent.cells zE).toArray rfl rfl HBAD.out (by show _ = some 8; kernel_rfl) (ent_all zE ⟨_, _, _, rfl⟩) ?_) | (refine wp_store_mid 35 _ _ rfl (w.heap.size) 0 (Ent.cells zE).toArray rfl rfl HBAD.out (by show _ = some 8; kernel_rfl) (ent_all zE ⟨_, _, _, rfl⟩) ?_))
              refine bodyPost_ret (v := .tuple #[.agg (Ent.cells zE).toArray, .int .i64 3]) (res_cell2 Try.results54 rfl (run_ent (E := zE) (World.rangeAt_setCells_same V6 w.heap.size 0 _ HBAD.out))) rfl ⟨zE, 3, rfl, ⟨EntOwn.nil _ _ _ rfl rfl, by rw [HNONE.out]; exact ⟨rfl, rfl⟩⟩, HBB.out.trans ((onlyC V6 w.heap.size (Ent.cells zE) 0).below HBB.out.size (fun j hj e => by omega))⟩
        · have e1 : (kk == 1) = false := beq_eq_false_iff_ne.2 h1
          by_cases h3 : kk = 3
          · have e3 : (kk == 3) = true := beq_iff_eq.2 h3
            have HEX := Lib.hid (show entX l = ⟨3, zR, nv, (tkX l 1 2).l.map opX, 0⟩ by unfold entX; rw [HKK.out, if_neg h1, if_pos h3])
            have HCN := Lib.hid (show entC l = 2 by unfold entC; rw [HKK.out, if_neg h1])
            have HW0 := Lib.hid (show entW l = ((tkW l 0 0 || tkW l 1 2) || (tkX l 1 2).l.any opW) by unfold entW; rw [HKK.out, if_neg h0, if_neg h1, if_pos h3, Bool.or_assoc])
            have HK3 := Lib.hid h3
            have f0 := HDS.out.fn
            clear h0 h1 h3
            go_wp2_with fail
            refine (etake_calls _ 8 _ l 1 2 wb wb _ V4 HDS.out.its (fun j hj => by have := HDS.out.flag.lt; omega) (by omega) HDS.out.flag).mono ?_
            rintro e w5 ⟨k5, rfl, hl2, hf, ho⟩
            obtain ⟨xa, xc, rfl, hxc1, hxc2⟩ := hl2.slice
            have hds := HDS.out.took ho hf
            have HBB := Lib.hid (HBB.out.trans (ho.below HBB.out.size (fun j hj e => by omega)))
            have hfd := fld3 (tkX l 1 2).k (tkX l 1 2).n (tkX l 1 2).s xa (tkX l 1 2).l.length xc
            have HD5 := Lib.hid hds
            have HL2 := Lib.hid hl2
            have hl65 : (tkX l 1 2).l.length ≤ 65536 := tkX_len HWF.out 1 2
            have HWF2 := Lib.hid (show ∀ x ∈ (tkX l 1 2).l, wfI 65536 7 x from tkX_l HWF.out 1 2)
            clear hf ho f0 HDS c0 hds hl2
            generalize (tkX l 1 2).l = L2 at *
            generalize (tkW l 0 0 || tkW l 1 2) = bb at *
            go_wp2_with fail
            clear hfd
            go_loopw [12, 13, 15, 74] (fun _ _ _ iv wr => ∃ (j : Nat) (b : Bool) (gv : Value) (os : List Opr), j ≤ L2.length ∧ iv = .int .i64 j ∧ b = (bb || (L2.take j).any opW) ∧ os.map Opr.con = (L2.take j).map (fun x => Opr.con (opX x)) ∧ DS wr w.heap.size wb eb (.slice la l.length lc) l b ⟨kk, zR, gv, os, 0⟩ ∧ ItR (fun j => j < wb) 8 wr (.slice xa L2.length xc) L2 ∧ Below w.heap.size w wr) (fun _ _ _ iv _ => L2.length - (intOf iv).toNat)
            case atStart => exact ⟨0, bb, nv, [], by omega, rfl, by simp, rfl, HD5.out, HL2.out, HBB.out⟩
            case round =>
              clear HD5 HL2 HBB
              obtain ⟨j, b, gv, os, hj, rfl, hbb, hoc, hds, hits, hbw⟩ := hrel
              have HB := Lib.hid hbb
              have HOC := Lib.hid hoc
              have HDS := Lib.hid hds
              have HITS := Lib.hid hits
              have HBB := Lib.hid hbw
              have hos : os.length ≤ 65536 := by have := congrArg List.length hoc; simp at this; omega
              obtain ⟨ga, gc, hgv⟩ := own_slice (show wr.ownsRow (eb + 1) 90 7 gv os.length (flatF Opr.cells os) from hds.own.ops)
              subst hgv
              clear hbb hoc hds hits hbw
              by_cases hlt : j < L2.length
              · obtain ⟨ib, io, ov, rfl, d0, d1, d2, d3, hch, hpb⟩ := iv_at HITS.out j hlt
                have HAT := Lib.hid (any_take hlt)
                have HTK := Lib.hid (List.take_succ_eq_append_getElem hlt)
                have hxw := HWF2.out L2[j] (List.getElem_mem _)
                generalize L2[j] = x at *
                obtain ⟨oa, oc, rfl, -, -⟩ := hch.slice
                obtain ⟨xk, xn, xs, xl⟩ := x
                simp only [Itc.k, Itc.n, Itc.s, Itc.l] at d0 d1 d2 d3 hch
                have HCH := Lib.hid hch
                have h365 : (tkX xl 1 2).l.length ≤ 65536 := tkX_len (d := 6) (wfI_l hxw) 1 2
                clear hch hxw
                go_upto_region 22 with fail
                obtain ⟨tb, htb⟩ : ∃ tb, tb = wr.heap.size := ⟨_, rfl⟩
                obtain ⟨W1, hW1⟩ : ∃ W1, W1 = wr.alloc (.cells #[.int .i64 xk, .int .i64 xn, .string xs, .slice oa xl.length oc] 100) := ⟨_, rfl⟩
                have hal : Below wr.heap.size wr W1 := by rw [hW1]; exact below_alloc _ _
                have HDW := Lib.hid (HDS.out.later hal)
                have m0 : W1.cell? ⟨tb, 0, none⟩ = some (.int .i64 xk) := by rw [hW1, htb]; exact box_self 0 _ rfl
                have m3 : W1.cell? ⟨tb, 3, none⟩ = some (.slice oa xl.length oc) := by rw [hW1, htb]; exact box_self 3 _ rfl
                have y0 := HDW.out.flag.at
                have f0 := HDW.out.flag.frz 0
                have hrb2 := HDS.out.lt2
                have hrb3 := HDS.out.ebLt
                have HIX := Lib.hid (ItR.below hal (fun j hj => by omega) HCH.out)
                have hon1 : Only (fun j => j = wb ∨ wr.heap.size ≤ j) wr W1 := Only.of_below hal
                rw [← hW1, ← htb]
                have HON1 := Lib.hid hon1
                have HZ1 := Lib.hid (show tb < W1.heap.size by rw [htb, hW1]; simp)
                have htb' : wb < tb := by omega
                have HTB := Lib.hid htb
                clear hW1 hal d0 d1 d2 d3 hon1 htb
                go_cut [] from 78 to 89 (fun wx => Flag wx wb wb (b || opW1 (.mk xk xn xs xl)) ∧ Only (fun j => j = wb) W1 wx)
                case first =>
                  have HSET := Lib.hid HDW.out.flag.set
                  obtain ⟨k1, hk1⟩ : ∃ k1, (xk != 2) = k1 := ⟨_, rfl⟩
                  obtain ⟨k2, hk2⟩ : ∃ k2, ((xl.length : Int) != 7) = k2 := ⟨_, rfl⟩
                  have HW1 := Lib.hid (show opW1 (.mk xk xn xs xl) = (k1 || k2) by
                    unfold opW1
                    have a1 : decide ((Itc.mk xk xn xs xl).k ≠ 2) = k1 := by rw [← hk1]; show decide (xk ≠ 2) = _; rw [Bool.eq_iff_iff]; simp
                    have a2 : decide ((Itc.mk xk xn xs xl).l.length ≠ 7) = k2 := by rw [← hk2]; show decide (xl.length ≠ 7) = _; rw [Bool.eq_iff_iff]; simp; omega
                    rw [a1, a2])
                  cases b <;> cases k1 <;> cases k2
                  all_goals
                    go_wp2_with fail
                    go_meet
                    case rel => exact ⟨by rw [HW1.out]; exact (HSET.out _).1, (Only.of_grown (HSET.out _).2).weak (fun j _ e => (Option.some.inj e).symm)⟩
                case rest =>
                  obtain ⟨hfl, ho1⟩ := hcut
                  have fn := ho1.cell (b := wb + 1) (by omega) HDW.out.fn
                  have k3 := ho1.cell (b := tb) (by omega) m3
                  have hon := HON1.out.trans ho1 (fun j _ e => .inl e)
                  have HIX := Lib.hid (ItR.only ho1 (fun j hj e => by omega) HIX.out)
                  clear ho1 m0 m3 y0 f0 HDW
                  obtain ⟨O, hO⟩ : ∃ O : Opr, O = ⟨(tkX xl 0 0).n, nv, [], (tkX xl 2 0).n, nmX xl 3, (tkX xl 4 0).n, (tkX xl 5 0).n, nmX xl 6⟩ := ⟨_, rfl⟩
                  obtain ⟨c6, hcc⟩ : ∃ c6, (((((((b || opW1 (.mk xk xn xs xl)) || tkW xl 0 0) || tkW xl 2 0) || nmW xl 3) || tkW xl 4 0) || tkW xl 5 0) || nmW xl 6) = c6 := ⟨_, rfl⟩
                  have HC6 := Lib.hid hcc
                  have HOO := Lib.hid hO
                  clear hO hcc
                  go_upto_region 23 with fail
                  go_cut [13] from 90 to 118 (fun pv wx => ∃ pb : Nat, pv = .pointer (some ⟨pb, 0, none⟩) ∧ RS2 wr wx wb pb eb c6 O ∧ wx.cell? ⟨wb + 1, 0, none⟩ = some (.func (.func 76) #[] #[.pointer (some ⟨wb, 0, none⟩)]) ∧ wx.cell? ⟨tb, 3, none⟩ = some (.slice oa xl.length oc) ∧ ItR (fun j => j < wb) 7 wx (.slice oa xl.length oc) xl)
                  case first =>
                    refine region_t (.take 0 (.take 1 (.take 2 (.take 5 (.take 6 (.take 7 (.take 10 (.take 11 (.take 12 (.take 14 (.take 15 (.take 16 (.take 19 (.take 20 (.take 21 (.take 24 (.take 25 (.take 26 (.two 3 (.take 4 (.two 8 (.take 9 (.two 13 (.two 17 (.take 18 (.two 22 (.take 23 (.two 27 (.take 28 (.loud 29 (.loud 30 .done))) 29 (.loud 27 (.take 28 (.loud 30 .done))))) 29 (.loud 22 (.take 23 (.loud 27 (.take 28 (.loud 30 .done))))))) 29 (.loud 17 (.take 18 (.loud 22 (.take 23 (.loud 27 (.take 28 (.loud 30 .done)))))))) 29 (.loud 13 (.loud 17 (.take 18 (.loud 22 (.take 23 (.loud 27 (.take 28 (.loud 30 .done)))))))))) 29 (.loud 8 (.take 9 (.loud 13 (.loud 17 (.take 18 (.loud 22 (.take 23 (.loud 27 (.take 28 (.loud 30 .done)))))))))))) 29 (.loud 3 (.take 4 (.loud 8 (.take 9 (.loud 13 (.loud 17 (.take 18 (.loud 22 (.take 23 (.loud 27 (.take 28 (.loud 30 .done))))))))))))))))))))))))))))))) 31 (fun V => V.cell? ⟨wb + 1, 0, none⟩ = some (.func (.func 76) #[] #[.pointer (some ⟨wb, 0, none⟩)]) ∧ V.cell? ⟨tb, 3, none⟩ = some (.slice oa xl.length oc)) (by kernel_rfl) (by kernel_rfl) ⟨fn, k3⟩ ?_
                    have hdr := (Below.refl wc.heap.size wc).drew
                    have fn := cell_later hdr fn
                    have k3 := cell_later hdr k3
                    have hon := hon.trans (Only.of_below (S := fun _ => False) hdr) (fun _ _ h => h.elim)
                    have HIX := Lib.hid (ItR.below hdr (fun j hj => by have := hfl.lt; omega) HIX.out)
                    have hfl := hfl.below hdr
                    clear hdr
                    generalize wc.drew = vt at *
                    iterate 18
                      first
                      | (refine t_take (v := ?_) rfl rfl ?_ ?_
                         rotate_left
                         · intro W hW
                           go_simp
                           with_reducible rfl
                         simp only [Act.put, List.setIfInBounds_toArray, List.set_cons_zero, List.set_cons_succ])
                      | (refine t_skip rfl rfl ?_
                         simp only [Act.put, List.setIfInBounds_toArray, List.set_cons_zero, List.set_cons_succ])
                    refine t_two ?_ ?_
                    · skip
                      refine t_loud rfl (fun K hK => ?_)
                      have HK := Lib.hid hK
                      clear hK
                      go_simp
                      refine (etake_calls (fun j => j < wb) 6 _ xl 0 0 wb wb _ _ HIX.out (fun j hj => by have := hfl.lt; omega) (by omega) hfl).mono ?_
                      rintro e vt ⟨qt, rfl, -, hf, ho⟩
                      have fn := ho.cell (b := wb + 1) (by omega) fn
                      have k3 := ho.cell (b := tb) (by omega) k3
                      have hon := hon.trans ho (fun j _ e => .inl e)
                      have HIX := Lib.hid (ItR.only ho (fun j hj e => by omega) HIX.out)
                      have hfl := hf
                      have hfd := fld1 (tkX xl 0 0).k (tkX xl 0 0).n (tkX xl 0 0).s qt
                      clear hf ho
                      refine HK.out _ _ ⟨fn, k3⟩ ?_
                      clear HK
                      iterate 1
                        first
                        | (refine t_take (v := ?_) rfl rfl ?_ ?_
                           rotate_left
                           · intro W hW
                             go_simp
                             with_reducible rfl
                           simp only [Act.put, List.setIfInBounds_toArray, List.set_cons_zero, List.set_cons_succ])
                        | (refine t_skip rfl rfl ?_
                           simp only [Act.put, List.setIfInBounds_toArray, List.set_cons_zero, List.set_cons_succ])
                      refine t_two ?_ ?_
                      · skip
                        refine t_loud rfl (fun K hK => ?_)
                        have HK := Lib.hid hK
                        clear hK
                        go_simp
                        refine (etake_calls (fun j => j < wb) 6 _ xl 2 0 wb wb _ _ HIX.out (fun j hj => by have := hfl.lt; omega) (by omega) hfl).mono ?_
                        rintro e vt ⟨qt, rfl, -, hf, ho⟩
                        have fn := ho.cell (b := wb + 1) (by omega) fn
                        have k3 := ho.cell (b := tb) (by omega) k3
                        have hon := hon.trans ho (fun j _ e => .inl e)
                        have HIX := Lib.hid (ItR.only ho (fun j hj e => by omega) HIX.out)
                        have hfl := hf
                        have hfd := fld1 (tkX xl 2 0).k (tkX xl 2 0).n (tkX xl 2 0).s qt
                        clear hf ho
                        refine HK.out _ _ ⟨fn, k3⟩ ?_
                        clear HK
                        iterate 1
                          first
                          | (refine t_take (v := ?_) rfl rfl ?_ ?_
                             rotate_left
                             · intro W hW
                               go_simp
                               with_reducible rfl
                             simp only [Act.put, List.setIfInBounds_toArray, List.set_cons_zero, List.set_cons_succ])
                          | (refine t_skip rfl rfl ?_
                             simp only [Act.put, List.setIfInBounds_toArray, List.set_cons_zero, List.set_cons_succ])
                        refine t_two ?_ ?_
                        · skip
                          refine t_loud rfl (fun K hK => ?_)
                          have HK := Lib.hid hK
                          clear hK
                          go_simp
                          refine (enum_calls (fun j => j < wb) 6 _ xl 3 wb wb (wb + 1) _ _ HIX.out (fun j hj => by have := hfl.lt; omega) (by omega) hfl fn eg).mono ?_
                          rintro e vt ⟨rfl, hf, ho⟩
                          have fn := ho.cell (b := wb + 1) (by omega) fn
                          have k3 := ho.cell (b := tb) (by omega) k3
                          have hon := hon.trans ho (fun j _ e => .inl e)
                          have HIX := Lib.hid (ItR.only ho (fun j hj e => by omega) HIX.out)
                          have hfl := hf
                          clear hf ho
                          refine HK.out _ _ ⟨fn, k3⟩ ?_
                          clear HK
                          refine t_two ?_ ?_
                          · skip
                            refine t_loud rfl (fun K hK => ?_)
                            have HK := Lib.hid hK
                            clear hK
                            go_simp
                            refine (etake_calls (fun j => j < wb) 6 _ xl 4 0 wb wb _ _ HIX.out (fun j hj => by have := hfl.lt; omega) (by omega) hfl).mono ?_
                            rintro e vt ⟨qt, rfl, -, hf, ho⟩
                            have fn := ho.cell (b := wb + 1) (by omega) fn
                            have k3 := ho.cell (b := tb) (by omega) k3
                            have hon := hon.trans ho (fun j _ e => .inl e)
                            have HIX := Lib.hid (ItR.only ho (fun j hj e => by omega) HIX.out)
                            have hfl := hf
                            have hfd := fld1 (tkX xl 4 0).k (tkX xl 4 0).n (tkX xl 4 0).s qt
                            clear hf ho
                            refine HK.out _ _ ⟨fn, k3⟩ ?_
                            clear HK
                            iterate 1
                              first
                              | (refine t_take (v := ?_) rfl rfl ?_ ?_
                                 rotate_left
                                 · intro W hW
                                   go_simp
                                   with_reducible rfl
                                 simp only [Act.put, List.setIfInBounds_toArray, List.set_cons_zero, List.set_cons_succ])
                              | (refine t_skip rfl rfl ?_
                                 simp only [Act.put, List.setIfInBounds_toArray, List.set_cons_zero, List.set_cons_succ])
                            refine t_two ?_ ?_
                            · skip
                              refine t_loud rfl (fun K hK => ?_)
                              have HK := Lib.hid hK
                              clear hK
                              go_simp
                              refine (etake_calls (fun j => j < wb) 6 _ xl 5 0 wb wb _ _ HIX.out (fun j hj => by have := hfl.lt; omega) (by omega) hfl).mono ?_
                              rintro e vt ⟨qt, rfl, -, hf, ho⟩
                              have fn := ho.cell (b := wb + 1) (by omega) fn
                              have k3 := ho.cell (b := tb) (by omega) k3
                              have hon := hon.trans ho (fun j _ e => .inl e)
                              have HIX := Lib.hid (ItR.only ho (fun j hj e => by omega) HIX.out)
                              have hfl := hf
                              have hfd := fld1 (tkX xl 5 0).k (tkX xl 5 0).n (tkX xl 5 0).s qt
                              clear hf ho
                              refine HK.out _ _ ⟨fn, k3⟩ ?_
                              clear HK
                              iterate 1
                                first
                                | (refine t_take (v := ?_) rfl rfl ?_ ?_
                                   rotate_left
                                   · intro W hW
                                     go_simp
                                     with_reducible rfl
                                   simp only [Act.put, List.setIfInBounds_toArray, List.set_cons_zero, List.set_cons_succ])
                                | (refine t_skip rfl rfl ?_
                                   simp only [Act.put, List.setIfInBounds_toArray, List.set_cons_zero, List.set_cons_succ])
                              refine t_two ?_ ?_
                              · skip
                                refine t_loud rfl (fun K hK => ?_)
                                have HK := Lib.hid hK
                                clear hK
                                go_simp
                                refine (enum_calls (fun j => j < wb) 6 _ xl 6 wb wb (wb + 1) _ _ HIX.out (fun j hj => by have := hfl.lt; omega) (by omega) hfl fn eg).mono ?_
                                rintro e vt ⟨rfl, hf, ho⟩
                                have fn := ho.cell (b := wb + 1) (by omega) fn
                                have k3 := ho.cell (b := tb) (by omega) k3
                                have hon := hon.trans ho (fun j _ e => .inl e)
                                have HIX := Lib.hid (ItR.only ho (fun j hj e => by omega) HIX.out)
                                have hfl := hf
                                clear hf ho
                                refine HK.out _ _ ⟨fn, k3⟩ ?_
                                clear HK
                                iterate 1
                                  first
                                  | (refine t_take (v := ?_) rfl rfl ?_ ?_
                                     rotate_left
                                     · intro W hW
                                       go_simp
                                       with_reducible rfl
                                     simp only [Act.put, List.setIfInBounds_toArray, List.set_cons_zero, List.set_cons_succ])
                                  | (refine t_skip rfl rfl ?_
                                     simp only [Act.put, List.setIfInBounds_toArray, List.set_cons_zero, List.set_cons_succ])
                                have hwz := hfl.lt
                                have hpt : tb < vt.heap.size := World.block_lt_of_cell? vt _ k3
                                have hzz := hon.size
                                have hal := below_alloc vt (.cells #[.int .i64 0, .slice none 0 0, .int .i64 0, .int .u32 0, .int .i64 0, .int .i64 0, .int .u32 0] 90)
                                have fn := cell_later hal fn
                                have k3 := cell_later hal k3
                                have hon := hon.trans (Only.of_below (S := fun _ => False) hal) (fun _ _ h => h.elim)
                                have HIX := Lib.hid (ItR.below hal (fun j hj => by omega) HIX.out)
                                have hbx := World.ownsRow_lit (base := eb + 1) (size := 7) (e := 90) vt #[.int .i64 0, .slice none 0 0, .int .i64 0, .int .u32 0, .int .i64 0, .int .i64 0, .int .u32 0] 1 (by omega) (by unfold maxLen; omega) (by simp)
                                have hfl := hfl.below hal
                                refine t_loud rfl (fun K hK => ?_)
                                have HK := Lib.hid hK
                                clear hK
                                go_simp
                                refine HK.out _ _ ⟨fn, k3⟩ ?_
                                clear HK
                                clear hal
                                obtain ⟨pb, hpb⟩ : ∃ pb : Nat, pb = vt.heap.size := ⟨_, rfl⟩
                                rw [← hpb] at hbx hpt hzz hwz ⊢
                                clear hpb
                                generalize vt.alloc (.cells #[.int .i64 0, .slice none 0 0, .int .i64 0, .int .u32 0, .int .i64 0, .int .i64 0, .int .u32 0] 90) = vn at *
                                obtain ⟨vt, rfl⟩ : ∃ V, V = vn := ⟨_, rfl⟩
                                have hoc := onlyC vt pb (Opr.cells O) 0
                                have fn := hoc.cell (b := wb + 1) (by omega) fn
                                have k3 := hoc.cell (b := tb) (by omega) k3
                                have HIX := Lib.hid (ItR.only hoc (fun j hj e => by omega) HIX.out)
                                have HRS := Lib.hid (show RS2 wr (vt.setCells pb 0 (Opr.cells O)) wb pb eb _ O from ⟨hon.trans hoc (fun j _ e => .inr (by omega)), hfl.only hoc (by omega), ⟨hrb2, hrb3⟩, by omega, own_over hbx rfl, by rw [HOO.out]; exact World.ownsRow_nil _ _ _ _, fun g hg => by rw [HOO.out] at hg; cases hg⟩)
                                refine t_storeE (b := pb) (off := 0) (cs := Opr.cells O) rfl rfl rfl rfl (by rw [HOO.out]; rfl) (own_thereE hbx (by simp [Opr.cells])) (by show _ = some 7; kernel_rfl) (opr_all _ (by rw [HOO.out]; rfl)) ⟨fn, k3⟩ ?_
                                refine t_done ?_
                                simp only [List.drop_succ_cons, List.drop_zero]
                                go_wp2_with fail
                                simp only [NP]
                                go_wp2_with fail
                                go_meet
                                case rel => exact ⟨pb, rfl, by have := HRS.out; rwa [HC6.out] at this, fn, k3, HIX.out⟩
                              · skip
                                have hwz := hfl.lt
                                have hpt : tb < vt.heap.size := World.block_lt_of_cell? vt _ k3
                                have hzz := hon.size
                                have hal := below_alloc vt (.cells #[.int .i64 0, .slice none 0 0, .int .i64 0, .int .u32 0, .int .i64 0, .int .i64 0, .int .u32 0] 90)
                                have fn := cell_later hal fn
                                have k3 := cell_later hal k3
                                have hon := hon.trans (Only.of_below (S := fun _ => False) hal) (fun _ _ h => h.elim)
                                have HIX := Lib.hid (ItR.below hal (fun j hj => by omega) HIX.out)
                                have hbx := World.ownsRow_lit (base := eb + 1) (size := 7) (e := 90) vt #[.int .i64 0, .slice none 0 0, .int .i64 0, .int .u32 0, .int .i64 0, .int .i64 0, .int .u32 0] 1 (by omega) (by unfold maxLen; omega) (by simp)
                                have hfl := hfl.below hal
                                refine t_loud rfl (fun K hK => ?_)
                                have HK := Lib.hid hK
                                clear hK
                                go_simp
                                refine HK.out _ _ ⟨fn, k3⟩ ?_
                                clear HK
                                clear hal
                                obtain ⟨pb, hpb⟩ : ∃ pb : Nat, pb = vt.heap.size := ⟨_, rfl⟩
                                rw [← hpb] at hbx hpt hzz hwz ⊢
                                clear hpb
                                generalize vt.alloc (.cells #[.int .i64 0, .slice none 0 0, .int .i64 0, .int .u32 0, .int .i64 0, .int .i64 0, .int .u32 0] 90) = vn at *
                                obtain ⟨vt, rfl⟩ : ∃ V, V = vn := ⟨_, rfl⟩
                                refine t_loud rfl (fun K hK => ?_)
                                have HK := Lib.hid hK
                                clear hK
                                go_simp
                                refine (enum_calls (fun j => j < wb) 6 _ xl 6 wb wb (wb + 1) _ _ HIX.out (fun j hj => by have := hfl.lt; omega) (by omega) hfl fn eg).mono ?_
                                rintro e vt ⟨rfl, hf, ho⟩
                                have fn := ho.cell (b := wb + 1) (by omega) fn
                                have k3 := ho.cell (b := tb) (by omega) k3
                                have hon := hon.trans ho (fun j _ e => .inl e)
                                have HIX := Lib.hid (ItR.only ho (fun j hj e => by omega) HIX.out)
                                have hbx := ownsRow_only hbx ho (fun g hg e => by simp only [Value.ownBlock, Option.some.injEq] at hg; omega)
                                have hfl := hf
                                clear hf ho
                                refine HK.out _ _ ⟨fn, k3⟩ ?_
                                clear HK
                                iterate 1
                                  first
                                  | (refine t_take (v := ?_) rfl rfl ?_ ?_
                                     rotate_left
                                     · intro W hW
                                       go_simp
                                       with_reducible rfl
                                     simp only [Act.put, List.setIfInBounds_toArray, List.set_cons_zero, List.set_cons_succ])
                                  | (refine t_skip rfl rfl ?_
                                     simp only [Act.put, List.setIfInBounds_toArray, List.set_cons_zero, List.set_cons_succ])
                                have hoc := onlyC vt pb (Opr.cells O) 0
                                have fn := hoc.cell (b := wb + 1) (by omega) fn
                                have k3 := hoc.cell (b := tb) (by omega) k3
                                have HIX := Lib.hid (ItR.only hoc (fun j hj e => by omega) HIX.out)
                                have HRS := Lib.hid (show RS2 wr (vt.setCells pb 0 (Opr.cells O)) wb pb eb _ O from ⟨hon.trans hoc (fun j _ e => .inr (by omega)), hfl.only hoc (by omega), ⟨hrb2, hrb3⟩, by omega, own_over hbx rfl, by rw [HOO.out]; exact World.ownsRow_nil _ _ _ _, fun g hg => by rw [HOO.out] at hg; cases hg⟩)
                                refine t_storeE (b := pb) (off := 0) (cs := Opr.cells O) rfl rfl rfl rfl (by rw [HOO.out]; rfl) (own_thereE hbx (by simp [Opr.cells])) (by show _ = some 7; kernel_rfl) (opr_all _ (by rw [HOO.out]; rfl)) ⟨fn, k3⟩ ?_
                                refine t_done ?_
                                simp only [List.drop_succ_cons, List.drop_zero]
                                go_wp2_with fail
                                simp only [NP]
                                go_wp2_with fail
                                go_meet
                                case rel => exact ⟨pb, rfl, by have := HRS.out; rwa [HC6.out] at this, fn, k3, HIX.out⟩
                            · skip
                              have hwz := hfl.lt
                              have hpt : tb < vt.heap.size := World.block_lt_of_cell? vt _ k3
                              have hzz := hon.size
                              have hal := below_alloc vt (.cells #[.int .i64 0, .slice none 0 0, .int .i64 0, .int .u32 0, .int .i64 0, .int .i64 0, .int .u32 0] 90)
                              have fn := cell_later hal fn
                              have k3 := cell_later hal k3
                              have hon := hon.trans (Only.of_below (S := fun _ => False) hal) (fun _ _ h => h.elim)
                              have HIX := Lib.hid (ItR.below hal (fun j hj => by omega) HIX.out)
                              have hbx := World.ownsRow_lit (base := eb + 1) (size := 7) (e := 90) vt #[.int .i64 0, .slice none 0 0, .int .i64 0, .int .u32 0, .int .i64 0, .int .i64 0, .int .u32 0] 1 (by omega) (by unfold maxLen; omega) (by simp)
                              have hfl := hfl.below hal
                              refine t_loud rfl (fun K hK => ?_)
                              have HK := Lib.hid hK
                              clear hK
                              go_simp
                              refine HK.out _ _ ⟨fn, k3⟩ ?_
                              clear HK
                              clear hal
                              obtain ⟨pb, hpb⟩ : ∃ pb : Nat, pb = vt.heap.size := ⟨_, rfl⟩
                              rw [← hpb] at hbx hpt hzz hwz ⊢
                              clear hpb
                              generalize vt.alloc (.cells #[.int .i64 0, .slice none 0 0, .int .i64 0, .int .u32 0, .int .i64 0, .int .i64 0, .int .u32 0] 90) = vn at *
                              obtain ⟨vt, rfl⟩ : ∃ V, V = vn := ⟨_, rfl⟩
                              refine t_loud rfl (fun K hK => ?_)
                              have HK := Lib.hid hK
                              clear hK
                              go_simp
                              refine (etake_calls (fun j => j < wb) 6 _ xl 5 0 wb wb _ _ HIX.out (fun j hj => by have := hfl.lt; omega) (by omega) hfl).mono ?_
                              rintro e vt ⟨qt, rfl, -, hf, ho⟩
                              have fn := ho.cell (b := wb + 1) (by omega) fn
                              have k3 := ho.cell (b := tb) (by omega) k3
                              have hon := hon.trans ho (fun j _ e => .inl e)
                              have HIX := Lib.hid (ItR.only ho (fun j hj e => by omega) HIX.out)
                              have hbx := ownsRow_only hbx ho (fun g hg e => by simp only [Value.ownBlock, Option.some.injEq] at hg; omega)
                              have hfl := hf
                              have hfd := fld1 (tkX xl 5 0).k (tkX xl 5 0).n (tkX xl 5 0).s qt
                              clear hf ho
                              refine HK.out _ _ ⟨fn, k3⟩ ?_
                              clear HK
                              iterate 1
                                first
                                | (refine t_take (v := ?_) rfl rfl ?_ ?_
                                   rotate_left
                                   · intro W hW
                                     go_simp
                                     with_reducible rfl
                                   simp only [Act.put, List.setIfInBounds_toArray, List.set_cons_zero, List.set_cons_succ])
                                | (refine t_skip rfl rfl ?_
                                   simp only [Act.put, List.setIfInBounds_toArray, List.set_cons_zero, List.set_cons_succ])
                              refine t_loud rfl (fun K hK => ?_)
                              have HK := Lib.hid hK
                              clear hK
                              go_simp
                              refine (enum_calls (fun j => j < wb) 6 _ xl 6 wb wb (wb + 1) _ _ HIX.out (fun j hj => by have := hfl.lt; omega) (by omega) hfl fn eg).mono ?_
                              rintro e vt ⟨rfl, hf, ho⟩
                              have fn := ho.cell (b := wb + 1) (by omega) fn
                              have k3 := ho.cell (b := tb) (by omega) k3
                              have hon := hon.trans ho (fun j _ e => .inl e)
                              have HIX := Lib.hid (ItR.only ho (fun j hj e => by omega) HIX.out)
                              have hbx := ownsRow_only hbx ho (fun g hg e => by simp only [Value.ownBlock, Option.some.injEq] at hg; omega)
                              have hfl := hf
                              clear hf ho
                              refine HK.out _ _ ⟨fn, k3⟩ ?_
                              clear HK
                              iterate 1
                                first
                                | (refine t_take (v := ?_) rfl rfl ?_ ?_
                                   rotate_left
                                   · intro W hW
                                     go_simp
                                     with_reducible rfl
                                   simp only [Act.put, List.setIfInBounds_toArray, List.set_cons_zero, List.set_cons_succ])
                                | (refine t_skip rfl rfl ?_
                                   simp only [Act.put, List.setIfInBounds_toArray, List.set_cons_zero, List.set_cons_succ])
                              have hoc := onlyC vt pb (Opr.cells O) 0
                              have fn := hoc.cell (b := wb + 1) (by omega) fn
                              have k3 := hoc.cell (b := tb) (by omega) k3
                              have HIX := Lib.hid (ItR.only hoc (fun j hj e => by omega) HIX.out)
                              have HRS := Lib.hid (show RS2 wr (vt.setCells pb 0 (Opr.cells O)) wb pb eb _ O from ⟨hon.trans hoc (fun j _ e => .inr (by omega)), hfl.only hoc (by omega), ⟨hrb2, hrb3⟩, by omega, own_over hbx rfl, by rw [HOO.out]; exact World.ownsRow_nil _ _ _ _, fun g hg => by rw [HOO.out] at hg; cases hg⟩)
                              refine t_storeE (b := pb) (off := 0) (cs := Opr.cells O) rfl rfl rfl rfl (by rw [HOO.out]; rfl) (own_thereE hbx (by simp [Opr.cells])) (by show _ = some 7; kernel_rfl) (opr_all _ (by rw [HOO.out]; rfl)) ⟨fn, k3⟩ ?_
                              refine t_done ?_
                              simp only [List.drop_succ_cons, List.drop_zero]
                              go_wp2_with fail
                              simp only [NP]
                              go_wp2_with fail
                              go_meet
                              case rel => exact ⟨pb, rfl, by have := HRS.out; rwa [HC6.out] at this, fn, k3, HIX.out⟩
                          · skip
                            have hwz := hfl.lt
                            have hpt : tb < vt.heap.size := World.block_lt_of_cell? vt _ k3
                            have hzz := hon.size
                            have hal := below_alloc vt (.cells #[.int .i64 0, .slice none 0 0, .int .i64 0, .int .u32 0, .int .i64 0, .int .i64 0, .int .u32 0] 90)
                            have fn := cell_later hal fn
                            have k3 := cell_later hal k3
                            have hon := hon.trans (Only.of_below (S := fun _ => False) hal) (fun _ _ h => h.elim)
                            have HIX := Lib.hid (ItR.below hal (fun j hj => by omega) HIX.out)
                            have hbx := World.ownsRow_lit (base := eb + 1) (size := 7) (e := 90) vt #[.int .i64 0, .slice none 0 0, .int .i64 0, .int .u32 0, .int .i64 0, .int .i64 0, .int .u32 0] 1 (by omega) (by unfold maxLen; omega) (by simp)
                            have hfl := hfl.below hal
                            refine t_loud rfl (fun K hK => ?_)
                            have HK := Lib.hid hK
                            clear hK
                            go_simp
                            refine HK.out _ _ ⟨fn, k3⟩ ?_
                            clear HK
                            clear hal
                            obtain ⟨pb, hpb⟩ : ∃ pb : Nat, pb = vt.heap.size := ⟨_, rfl⟩
                            rw [← hpb] at hbx hpt hzz hwz ⊢
                            clear hpb
                            generalize vt.alloc (.cells #[.int .i64 0, .slice none 0 0, .int .i64 0, .int .u32 0, .int .i64 0, .int .i64 0, .int .u32 0] 90) = vn at *
                            obtain ⟨vt, rfl⟩ : ∃ V, V = vn := ⟨_, rfl⟩
                            refine t_loud rfl (fun K hK => ?_)
                            have HK := Lib.hid hK
                            clear hK
                            go_simp
                            refine (etake_calls (fun j => j < wb) 6 _ xl 4 0 wb wb _ _ HIX.out (fun j hj => by have := hfl.lt; omega) (by omega) hfl).mono ?_
                            rintro e vt ⟨qt, rfl, -, hf, ho⟩
                            have fn := ho.cell (b := wb + 1) (by omega) fn
                            have k3 := ho.cell (b := tb) (by omega) k3
                            have hon := hon.trans ho (fun j _ e => .inl e)
                            have HIX := Lib.hid (ItR.only ho (fun j hj e => by omega) HIX.out)
                            have hbx := ownsRow_only hbx ho (fun g hg e => by simp only [Value.ownBlock, Option.some.injEq] at hg; omega)
                            have hfl := hf
                            have hfd := fld1 (tkX xl 4 0).k (tkX xl 4 0).n (tkX xl 4 0).s qt
                            clear hf ho
                            refine HK.out _ _ ⟨fn, k3⟩ ?_
                            clear HK
                            iterate 1
                              first
                              | (refine t_take (v := ?_) rfl rfl ?_ ?_
                                 rotate_left
                                 · intro W hW
                                   go_simp
                                   with_reducible rfl
                                 simp only [Act.put, List.setIfInBounds_toArray, List.set_cons_zero, List.set_cons_succ])
                              | (refine t_skip rfl rfl ?_
                                 simp only [Act.put, List.setIfInBounds_toArray, List.set_cons_zero, List.set_cons_succ])
                            refine t_loud rfl (fun K hK => ?_)
                            have HK := Lib.hid hK
                            clear hK
                            go_simp
                            refine (etake_calls (fun j => j < wb) 6 _ xl 5 0 wb wb _ _ HIX.out (fun j hj => by have := hfl.lt; omega) (by omega) hfl).mono ?_
                            rintro e vt ⟨qt, rfl, -, hf, ho⟩
                            have fn := ho.cell (b := wb + 1) (by omega) fn
                            have k3 := ho.cell (b := tb) (by omega) k3
                            have hon := hon.trans ho (fun j _ e => .inl e)
                            have HIX := Lib.hid (ItR.only ho (fun j hj e => by omega) HIX.out)
                            have hbx := ownsRow_only hbx ho (fun g hg e => by simp only [Value.ownBlock, Option.some.injEq] at hg; omega)
                            have hfl := hf
                            have hfd := fld1 (tkX xl 5 0).k (tkX xl 5 0).n (tkX xl 5 0).s qt
                            clear hf ho
                            refine HK.out _ _ ⟨fn, k3⟩ ?_
                            clear HK
                            iterate 1
                              first
                              | (refine t_take (v := ?_) rfl rfl ?_ ?_
                                 rotate_left
                                 · intro W hW
                                   go_simp
                                   with_reducible rfl
                                 simp only [Act.put, List.setIfInBounds_toArray, List.set_cons_zero, List.set_cons_succ])
                              | (refine t_skip rfl rfl ?_
                                 simp only [Act.put, List.setIfInBounds_toArray, List.set_cons_zero, List.set_cons_succ])
                            refine t_loud rfl (fun K hK => ?_)
                            have HK := Lib.hid hK
                            clear hK
                            go_simp
                            refine (enum_calls (fun j => j < wb) 6 _ xl 6 wb wb (wb + 1) _ _ HIX.out (fun j hj => by have := hfl.lt; omega) (by omega) hfl fn eg).mono ?_
                            rintro e vt ⟨rfl, hf, ho⟩
                            have fn := ho.cell (b := wb + 1) (by omega) fn
                            have k3 := ho.cell (b := tb) (by omega) k3
                            have hon := hon.trans ho (fun j _ e => .inl e)
                            have HIX := Lib.hid (ItR.only ho (fun j hj e => by omega) HIX.out)
                            have hbx := ownsRow_only hbx ho (fun g hg e => by simp only [Value.ownBlock, Option.some.injEq] at hg; omega)
                            have hfl := hf
                            clear hf ho
                            refine HK.out _ _ ⟨fn, k3⟩ ?_
                            clear HK
                            iterate 1
                              first
                              | (refine t_take (v := ?_) rfl rfl ?_ ?_
                                 rotate_left
                                 · intro W hW
                                   go_simp
                                   with_reducible rfl
                                 simp only [Act.put, List.setIfInBounds_toArray, List.set_cons_zero, List.set_cons_succ])
                              | (refine t_skip rfl rfl ?_
                                 simp only [Act.put, List.setIfInBounds_toArray, List.set_cons_zero, List.set_cons_succ])
                            have hoc := onlyC vt pb (Opr.cells O) 0
                            have fn := hoc.cell (b := wb + 1) (by omega) fn
                            have k3 := hoc.cell (b := tb) (by omega) k3
                            have HIX := Lib.hid (ItR.only hoc (fun j hj e => by omega) HIX.out)
                            have HRS := Lib.hid (show RS2 wr (vt.setCells pb 0 (Opr.cells O)) wb pb eb _ O from ⟨hon.trans hoc (fun j _ e => .inr (by omega)), hfl.only hoc (by omega), ⟨hrb2, hrb3⟩, by omega, own_over hbx rfl, by rw [HOO.out]; exact World.ownsRow_nil _ _ _ _, fun g hg => by rw [HOO.out] at hg; cases hg⟩)
                            refine t_storeE (b := pb) (off := 0) (cs := Opr.cells O) rfl rfl rfl rfl (by rw [HOO.out]; rfl) (own_thereE hbx (by simp [Opr.cells])) (by show _ = some 7; kernel_rfl) (opr_all _ (by rw [HOO.out]; rfl)) ⟨fn, k3⟩ ?_
                            refine t_done ?_
                            simp only [List.drop_succ_cons, List.drop_zero]
                            go_wp2_with fail
                            simp only [NP]
                            go_wp2_with fail
                            go_meet
                            case rel => exact ⟨pb, rfl, by have := HRS.out; rwa [HC6.out] at this, fn, k3, HIX.out⟩
                        · skip
                          have hwz := hfl.lt
                          have hpt : tb < vt.heap.size := World.block_lt_of_cell? vt _ k3
                          have hzz := hon.size
                          have hal := below_alloc vt (.cells #[.int .i64 0, .slice none 0 0, .int .i64 0, .int .u32 0, .int .i64 0, .int .i64 0, .int .u32 0] 90)
                          have fn := cell_later hal fn
                          have k3 := cell_later hal k3
                          have hon := hon.trans (Only.of_below (S := fun _ => False) hal) (fun _ _ h => h.elim)
                          have HIX := Lib.hid (ItR.below hal (fun j hj => by omega) HIX.out)
                          have hbx := World.ownsRow_lit (base := eb + 1) (size := 7) (e := 90) vt #[.int .i64 0, .slice none 0 0, .int .i64 0, .int .u32 0, .int .i64 0, .int .i64 0, .int .u32 0] 1 (by omega) (by unfold maxLen; omega) (by simp)
                          have hfl := hfl.below hal
                          refine t_loud rfl (fun K hK => ?_)
                          have HK := Lib.hid hK
                          clear hK
                          go_simp
                          refine HK.out _ _ ⟨fn, k3⟩ ?_
                          clear HK
                          clear hal
                          obtain ⟨pb, hpb⟩ : ∃ pb : Nat, pb = vt.heap.size := ⟨_, rfl⟩
                          rw [← hpb] at hbx hpt hzz hwz ⊢
                          clear hpb
                          generalize vt.alloc (.cells #[.int .i64 0, .slice none 0 0, .int .i64 0, .int .u32 0, .int .i64 0, .int .i64 0, .int .u32 0] 90) = vn at *
                          obtain ⟨vt, rfl⟩ : ∃ V, V = vn := ⟨_, rfl⟩
                          refine t_loud rfl (fun K hK => ?_)
                          have HK := Lib.hid hK
                          clear hK
                          go_simp
                          refine (enum_calls (fun j => j < wb) 6 _ xl 3 wb wb (wb + 1) _ _ HIX.out (fun j hj => by have := hfl.lt; omega) (by omega) hfl fn eg).mono ?_
                          rintro e vt ⟨rfl, hf, ho⟩
                          have fn := ho.cell (b := wb + 1) (by omega) fn
                          have k3 := ho.cell (b := tb) (by omega) k3
                          have hon := hon.trans ho (fun j _ e => .inl e)
                          have HIX := Lib.hid (ItR.only ho (fun j hj e => by omega) HIX.out)
                          have hbx := ownsRow_only hbx ho (fun g hg e => by simp only [Value.ownBlock, Option.some.injEq] at hg; omega)
                          have hfl := hf
                          clear hf ho
                          refine HK.out _ _ ⟨fn, k3⟩ ?_
                          clear HK
                          refine t_loud rfl (fun K hK => ?_)
                          have HK := Lib.hid hK
                          clear hK
                          go_simp
                          refine (etake_calls (fun j => j < wb) 6 _ xl 4 0 wb wb _ _ HIX.out (fun j hj => by have := hfl.lt; omega) (by omega) hfl).mono ?_
                          rintro e vt ⟨qt, rfl, -, hf, ho⟩
                          have fn := ho.cell (b := wb + 1) (by omega) fn
                          have k3 := ho.cell (b := tb) (by omega) k3
                          have hon := hon.trans ho (fun j _ e => .inl e)
                          have HIX := Lib.hid (ItR.only ho (fun j hj e => by omega) HIX.out)
                          have hbx := ownsRow_only hbx ho (fun g hg e => by simp only [Value.ownBlock, Option.some.injEq] at hg; omega)
                          have hfl := hf
                          have hfd := fld1 (tkX xl 4 0).k (tkX xl 4 0).n (tkX xl 4 0).s qt
                          clear hf ho
                          refine HK.out _ _ ⟨fn, k3⟩ ?_
                          clear HK
                          iterate 1
                            first
                            | (refine t_take (v := ?_) rfl rfl ?_ ?_
                               rotate_left
                               · intro W hW
                                 go_simp
                                 with_reducible rfl
                               simp only [Act.put, List.setIfInBounds_toArray, List.set_cons_zero, List.set_cons_succ])
                            | (refine t_skip rfl rfl ?_
                               simp only [Act.put, List.setIfInBounds_toArray, List.set_cons_zero, List.set_cons_succ])
                          refine t_loud rfl (fun K hK => ?_)
                          have HK := Lib.hid hK
                          clear hK
                          go_simp
                          refine (etake_calls (fun j => j < wb) 6 _ xl 5 0 wb wb _ _ HIX.out (fun j hj => by have := hfl.lt; omega) (by omega) hfl).mono ?_
                          rintro e vt ⟨qt, rfl, -, hf, ho⟩
                          have fn := ho.cell (b := wb + 1) (by omega) fn
                          have k3 := ho.cell (b := tb) (by omega) k3
                          have hon := hon.trans ho (fun j _ e => .inl e)
                          have HIX := Lib.hid (ItR.only ho (fun j hj e => by omega) HIX.out)
                          have hbx := ownsRow_only hbx ho (fun g hg e => by simp only [Value.ownBlock, Option.some.injEq] at hg; omega)
                          have hfl := hf
                          have hfd := fld1 (tkX xl 5 0).k (tkX xl 5 0).n (tkX xl 5 0).s qt
                          clear hf ho
                          refine HK.out _ _ ⟨fn, k3⟩ ?_
                          clear HK
                          iterate 1
                            first
                            | (refine t_take (v := ?_) rfl rfl ?_ ?_
                               rotate_left
                               · intro W hW
                                 go_simp
                                 with_reducible rfl
                               simp only [Act.put, List.setIfInBounds_toArray, List.set_cons_zero, List.set_cons_succ])
                            | (refine t_skip rfl rfl ?_
                               simp only [Act.put, List.setIfInBounds_toArray, List.set_cons_zero, List.set_cons_succ])
                          refine t_loud rfl (fun K hK => ?_)
                          have HK := Lib.hid hK
                          clear hK
                          go_simp
                          refine (enum_calls (fun j => j < wb) 6 _ xl 6 wb wb (wb + 1) _ _ HIX.out (fun j hj => by have := hfl.lt; omega) (by omega) hfl fn eg).mono ?_
                          rintro e vt ⟨rfl, hf, ho⟩
                          have fn := ho.cell (b := wb + 1) (by omega) fn
                          have k3 := ho.cell (b := tb) (by omega) k3
                          have hon := hon.trans ho (fun j _ e => .inl e)
                          have HIX := Lib.hid (ItR.only ho (fun j hj e => by omega) HIX.out)
                          have hbx := ownsRow_only hbx ho (fun g hg e => by simp only [Value.ownBlock, Option.some.injEq] at hg; omega)
                          have hfl := hf
                          clear hf ho
                          refine HK.out _ _ ⟨fn, k3⟩ ?_
                          clear HK
                          iterate 1
                            first
                            | (refine t_take (v := ?_) rfl rfl ?_ ?_
                               rotate_left
                               · intro W hW
                                 go_simp
                                 with_reducible rfl
                               simp only [Act.put, List.setIfInBounds_toArray, List.set_cons_zero, List.set_cons_succ])
                            | (refine t_skip rfl rfl ?_
                               simp only [Act.put, List.setIfInBounds_toArray, List.set_cons_zero, List.set_cons_succ])
                          have hoc := onlyC vt pb (Opr.cells O) 0
                          have fn := hoc.cell (b := wb + 1) (by omega) fn
                          have k3 := hoc.cell (b := tb) (by omega) k3
                          have HIX := Lib.hid (ItR.only hoc (fun j hj e => by omega) HIX.out)
                          have HRS := Lib.hid (show RS2 wr (vt.setCells pb 0 (Opr.cells O)) wb pb eb _ O from ⟨hon.trans hoc (fun j _ e => .inr (by omega)), hfl.only hoc (by omega), ⟨hrb2, hrb3⟩, by omega, own_over hbx rfl, by rw [HOO.out]; exact World.ownsRow_nil _ _ _ _, fun g hg => by rw [HOO.out] at hg; cases hg⟩)
                          refine t_storeE (b := pb) (off := 0) (cs := Opr.cells O) rfl rfl rfl rfl (by rw [HOO.out]; rfl) (own_thereE hbx (by simp [Opr.cells])) (by show _ = some 7; kernel_rfl) (opr_all _ (by rw [HOO.out]; rfl)) ⟨fn, k3⟩ ?_
                          refine t_done ?_
                          simp only [List.drop_succ_cons, List.drop_zero]
                          go_wp2_with fail
                          simp only [NP]
                          go_wp2_with fail
                          go_meet
                          case rel => exact ⟨pb, rfl, by have := HRS.out; rwa [HC6.out] at this, fn, k3, HIX.out⟩
                      · skip
                        have hwz := hfl.lt
                        have hpt : tb < vt.heap.size := World.block_lt_of_cell? vt _ k3
                        have hzz := hon.size
                        have hal := below_alloc vt (.cells #[.int .i64 0, .slice none 0 0, .int .i64 0, .int .u32 0, .int .i64 0, .int .i64 0, .int .u32 0] 90)
                        have fn := cell_later hal fn
                        have k3 := cell_later hal k3
                        have hon := hon.trans (Only.of_below (S := fun _ => False) hal) (fun _ _ h => h.elim)
                        have HIX := Lib.hid (ItR.below hal (fun j hj => by omega) HIX.out)
                        have hbx := World.ownsRow_lit (base := eb + 1) (size := 7) (e := 90) vt #[.int .i64 0, .slice none 0 0, .int .i64 0, .int .u32 0, .int .i64 0, .int .i64 0, .int .u32 0] 1 (by omega) (by unfold maxLen; omega) (by simp)
                        have hfl := hfl.below hal
                        refine t_loud rfl (fun K hK => ?_)
                        have HK := Lib.hid hK
                        clear hK
                        go_simp
                        refine HK.out _ _ ⟨fn, k3⟩ ?_
                        clear HK
                        clear hal
                        obtain ⟨pb, hpb⟩ : ∃ pb : Nat, pb = vt.heap.size := ⟨_, rfl⟩
                        rw [← hpb] at hbx hpt hzz hwz ⊢
                        clear hpb
                        generalize vt.alloc (.cells #[.int .i64 0, .slice none 0 0, .int .i64 0, .int .u32 0, .int .i64 0, .int .i64 0, .int .u32 0] 90) = vn at *
                        obtain ⟨vt, rfl⟩ : ∃ V, V = vn := ⟨_, rfl⟩
                        refine t_loud rfl (fun K hK => ?_)
                        have HK := Lib.hid hK
                        clear hK
                        go_simp
                        refine (etake_calls (fun j => j < wb) 6 _ xl 2 0 wb wb _ _ HIX.out (fun j hj => by have := hfl.lt; omega) (by omega) hfl).mono ?_
                        rintro e vt ⟨qt, rfl, -, hf, ho⟩
                        have fn := ho.cell (b := wb + 1) (by omega) fn
                        have k3 := ho.cell (b := tb) (by omega) k3
                        have hon := hon.trans ho (fun j _ e => .inl e)
                        have HIX := Lib.hid (ItR.only ho (fun j hj e => by omega) HIX.out)
                        have hbx := ownsRow_only hbx ho (fun g hg e => by simp only [Value.ownBlock, Option.some.injEq] at hg; omega)
                        have hfl := hf
                        have hfd := fld1 (tkX xl 2 0).k (tkX xl 2 0).n (tkX xl 2 0).s qt
                        clear hf ho
                        refine HK.out _ _ ⟨fn, k3⟩ ?_
                        clear HK
                        iterate 1
                          first
                          | (refine t_take (v := ?_) rfl rfl ?_ ?_
                             rotate_left
                             · intro W hW
                               go_simp
                               with_reducible rfl
                             simp only [Act.put, List.setIfInBounds_toArray, List.set_cons_zero, List.set_cons_succ])
                          | (refine t_skip rfl rfl ?_
                             simp only [Act.put, List.setIfInBounds_toArray, List.set_cons_zero, List.set_cons_succ])
                        refine t_loud rfl (fun K hK => ?_)
                        have HK := Lib.hid hK
                        clear hK
                        go_simp
                        refine (enum_calls (fun j => j < wb) 6 _ xl 3 wb wb (wb + 1) _ _ HIX.out (fun j hj => by have := hfl.lt; omega) (by omega) hfl fn eg).mono ?_
                        rintro e vt ⟨rfl, hf, ho⟩
                        have fn := ho.cell (b := wb + 1) (by omega) fn
                        have k3 := ho.cell (b := tb) (by omega) k3
                        have hon := hon.trans ho (fun j _ e => .inl e)
                        have HIX := Lib.hid (ItR.only ho (fun j hj e => by omega) HIX.out)
                        have hbx := ownsRow_only hbx ho (fun g hg e => by simp only [Value.ownBlock, Option.some.injEq] at hg; omega)
                        have hfl := hf
                        clear hf ho
                        refine HK.out _ _ ⟨fn, k3⟩ ?_
                        clear HK
                        refine t_loud rfl (fun K hK => ?_)
                        have HK := Lib.hid hK
                        clear hK
                        go_simp
                        refine (etake_calls (fun j => j < wb) 6 _ xl 4 0 wb wb _ _ HIX.out (fun j hj => by have := hfl.lt; omega) (by omega) hfl).mono ?_
                        rintro e vt ⟨qt, rfl, -, hf, ho⟩
                        have fn := ho.cell (b := wb + 1) (by omega) fn
                        have k3 := ho.cell (b := tb) (by omega) k3
                        have hon := hon.trans ho (fun j _ e => .inl e)
                        have HIX := Lib.hid (ItR.only ho (fun j hj e => by omega) HIX.out)
                        have hbx := ownsRow_only hbx ho (fun g hg e => by simp only [Value.ownBlock, Option.some.injEq] at hg; omega)
                        have hfl := hf
                        have hfd := fld1 (tkX xl 4 0).k (tkX xl 4 0).n (tkX xl 4 0).s qt
                        clear hf ho
                        refine HK.out _ _ ⟨fn, k3⟩ ?_
                        clear HK
                        iterate 1
                          first
                          | (refine t_take (v := ?_) rfl rfl ?_ ?_
                             rotate_left
                             · intro W hW
                               go_simp
                               with_reducible rfl
                             simp only [Act.put, List.setIfInBounds_toArray, List.set_cons_zero, List.set_cons_succ])
                          | (refine t_skip rfl rfl ?_
                             simp only [Act.put, List.setIfInBounds_toArray, List.set_cons_zero, List.set_cons_succ])
                        refine t_loud rfl (fun K hK => ?_)
                        have HK := Lib.hid hK
                        clear hK
                        go_simp
                        refine (etake_calls (fun j => j < wb) 6 _ xl 5 0 wb wb _ _ HIX.out (fun j hj => by have := hfl.lt; omega) (by omega) hfl).mono ?_
                        rintro e vt ⟨qt, rfl, -, hf, ho⟩
                        have fn := ho.cell (b := wb + 1) (by omega) fn
                        have k3 := ho.cell (b := tb) (by omega) k3
                        have hon := hon.trans ho (fun j _ e => .inl e)
                        have HIX := Lib.hid (ItR.only ho (fun j hj e => by omega) HIX.out)
                        have hbx := ownsRow_only hbx ho (fun g hg e => by simp only [Value.ownBlock, Option.some.injEq] at hg; omega)
                        have hfl := hf
                        have hfd := fld1 (tkX xl 5 0).k (tkX xl 5 0).n (tkX xl 5 0).s qt
                        clear hf ho
                        refine HK.out _ _ ⟨fn, k3⟩ ?_
                        clear HK
                        iterate 1
                          first
                          | (refine t_take (v := ?_) rfl rfl ?_ ?_
                             rotate_left
                             · intro W hW
                               go_simp
                               with_reducible rfl
                             simp only [Act.put, List.setIfInBounds_toArray, List.set_cons_zero, List.set_cons_succ])
                          | (refine t_skip rfl rfl ?_
                             simp only [Act.put, List.setIfInBounds_toArray, List.set_cons_zero, List.set_cons_succ])
                        refine t_loud rfl (fun K hK => ?_)
                        have HK := Lib.hid hK
                        clear hK
                        go_simp
                        refine (enum_calls (fun j => j < wb) 6 _ xl 6 wb wb (wb + 1) _ _ HIX.out (fun j hj => by have := hfl.lt; omega) (by omega) hfl fn eg).mono ?_
                        rintro e vt ⟨rfl, hf, ho⟩
                        have fn := ho.cell (b := wb + 1) (by omega) fn
                        have k3 := ho.cell (b := tb) (by omega) k3
                        have hon := hon.trans ho (fun j _ e => .inl e)
                        have HIX := Lib.hid (ItR.only ho (fun j hj e => by omega) HIX.out)
                        have hbx := ownsRow_only hbx ho (fun g hg e => by simp only [Value.ownBlock, Option.some.injEq] at hg; omega)
                        have hfl := hf
                        clear hf ho
                        refine HK.out _ _ ⟨fn, k3⟩ ?_
                        clear HK
                        iterate 1
                          first
                          | (refine t_take (v := ?_) rfl rfl ?_ ?_
                             rotate_left
                             · intro W hW
                               go_simp
                               with_reducible rfl
                             simp only [Act.put, List.setIfInBounds_toArray, List.set_cons_zero, List.set_cons_succ])
                          | (refine t_skip rfl rfl ?_
                             simp only [Act.put, List.setIfInBounds_toArray, List.set_cons_zero, List.set_cons_succ])
                        have hoc := onlyC vt pb (Opr.cells O) 0
                        have fn := hoc.cell (b := wb + 1) (by omega) fn
                        have k3 := hoc.cell (b := tb) (by omega) k3
                        have HIX := Lib.hid (ItR.only hoc (fun j hj e => by omega) HIX.out)
                        have HRS := Lib.hid (show RS2 wr (vt.setCells pb 0 (Opr.cells O)) wb pb eb _ O from ⟨hon.trans hoc (fun j _ e => .inr (by omega)), hfl.only hoc (by omega), ⟨hrb2, hrb3⟩, by omega, own_over hbx rfl, by rw [HOO.out]; exact World.ownsRow_nil _ _ _ _, fun g hg => by rw [HOO.out] at hg; cases hg⟩)
                        refine t_storeE (b := pb) (off := 0) (cs := Opr.cells O) rfl rfl rfl rfl (by rw [HOO.out]; rfl) (own_thereE hbx (by simp [Opr.cells])) (by show _ = some 7; kernel_rfl) (opr_all _ (by rw [HOO.out]; rfl)) ⟨fn, k3⟩ ?_
                        refine t_done ?_
                        simp only [List.drop_succ_cons, List.drop_zero]
                        go_wp2_with fail
                        simp only [NP]
                        go_wp2_with fail
                        go_meet
                        case rel => exact ⟨pb, rfl, by have := HRS.out; rwa [HC6.out] at this, fn, k3, HIX.out⟩
                    · skip
                      have hwz := hfl.lt
                      have hpt : tb < vt.heap.size := World.block_lt_of_cell? vt _ k3
                      have hzz := hon.size
                      have hal := below_alloc vt (.cells #[.int .i64 0, .slice none 0 0, .int .i64 0, .int .u32 0, .int .i64 0, .int .i64 0, .int .u32 0] 90)
                      have fn := cell_later hal fn
                      have k3 := cell_later hal k3
                      have hon := hon.trans (Only.of_below (S := fun _ => False) hal) (fun _ _ h => h.elim)
                      have HIX := Lib.hid (ItR.below hal (fun j hj => by omega) HIX.out)
                      have hbx := World.ownsRow_lit (base := eb + 1) (size := 7) (e := 90) vt #[.int .i64 0, .slice none 0 0, .int .i64 0, .int .u32 0, .int .i64 0, .int .i64 0, .int .u32 0] 1 (by omega) (by unfold maxLen; omega) (by simp)
                      have hfl := hfl.below hal
                      refine t_loud rfl (fun K hK => ?_)
                      have HK := Lib.hid hK
                      clear hK
                      go_simp
                      refine HK.out _ _ ⟨fn, k3⟩ ?_
                      clear HK
                      clear hal
                      obtain ⟨pb, hpb⟩ : ∃ pb : Nat, pb = vt.heap.size := ⟨_, rfl⟩
                      rw [← hpb] at hbx hpt hzz hwz ⊢
                      clear hpb
                      generalize vt.alloc (.cells #[.int .i64 0, .slice none 0 0, .int .i64 0, .int .u32 0, .int .i64 0, .int .i64 0, .int .u32 0] 90) = vn at *
                      obtain ⟨vt, rfl⟩ : ∃ V, V = vn := ⟨_, rfl⟩
                      refine t_loud rfl (fun K hK => ?_)
                      have HK := Lib.hid hK
                      clear hK
                      go_simp
                      refine (etake_calls (fun j => j < wb) 6 _ xl 0 0 wb wb _ _ HIX.out (fun j hj => by have := hfl.lt; omega) (by omega) hfl).mono ?_
                      rintro e vt ⟨qt, rfl, -, hf, ho⟩
                      have fn := ho.cell (b := wb + 1) (by omega) fn
                      have k3 := ho.cell (b := tb) (by omega) k3
                      have hon := hon.trans ho (fun j _ e => .inl e)
                      have HIX := Lib.hid (ItR.only ho (fun j hj e => by omega) HIX.out)
                      have hbx := ownsRow_only hbx ho (fun g hg e => by simp only [Value.ownBlock, Option.some.injEq] at hg; omega)
                      have hfl := hf
                      have hfd := fld1 (tkX xl 0 0).k (tkX xl 0 0).n (tkX xl 0 0).s qt
                      clear hf ho
                      refine HK.out _ _ ⟨fn, k3⟩ ?_
                      clear HK
                      iterate 1
                        first
                        | (refine t_take (v := ?_) rfl rfl ?_ ?_
                           rotate_left
                           · intro W hW
                             go_simp
                             with_reducible rfl
                           simp only [Act.put, List.setIfInBounds_toArray, List.set_cons_zero, List.set_cons_succ])
                        | (refine t_skip rfl rfl ?_
                           simp only [Act.put, List.setIfInBounds_toArray, List.set_cons_zero, List.set_cons_succ])
                      refine t_loud rfl (fun K hK => ?_)
                      have HK := Lib.hid hK
                      clear hK
                      go_simp
                      refine (etake_calls (fun j => j < wb) 6 _ xl 2 0 wb wb _ _ HIX.out (fun j hj => by have := hfl.lt; omega) (by omega) hfl).mono ?_
                      rintro e vt ⟨qt, rfl, -, hf, ho⟩
                      have fn := ho.cell (b := wb + 1) (by omega) fn
                      have k3 := ho.cell (b := tb) (by omega) k3
                      have hon := hon.trans ho (fun j _ e => .inl e)
                      have HIX := Lib.hid (ItR.only ho (fun j hj e => by omega) HIX.out)
                      have hbx := ownsRow_only hbx ho (fun g hg e => by simp only [Value.ownBlock, Option.some.injEq] at hg; omega)
                      have hfl := hf
                      have hfd := fld1 (tkX xl 2 0).k (tkX xl 2 0).n (tkX xl 2 0).s qt
                      clear hf ho
                      refine HK.out _ _ ⟨fn, k3⟩ ?_
                      clear HK
                      iterate 1
                        first
                        | (refine t_take (v := ?_) rfl rfl ?_ ?_
                           rotate_left
                           · intro W hW
                             go_simp
                             with_reducible rfl
                           simp only [Act.put, List.setIfInBounds_toArray, List.set_cons_zero, List.set_cons_succ])
                        | (refine t_skip rfl rfl ?_
                           simp only [Act.put, List.setIfInBounds_toArray, List.set_cons_zero, List.set_cons_succ])
                      refine t_loud rfl (fun K hK => ?_)
                      have HK := Lib.hid hK
                      clear hK
                      go_simp
                      refine (enum_calls (fun j => j < wb) 6 _ xl 3 wb wb (wb + 1) _ _ HIX.out (fun j hj => by have := hfl.lt; omega) (by omega) hfl fn eg).mono ?_
                      rintro e vt ⟨rfl, hf, ho⟩
                      have fn := ho.cell (b := wb + 1) (by omega) fn
                      have k3 := ho.cell (b := tb) (by omega) k3
                      have hon := hon.trans ho (fun j _ e => .inl e)
                      have HIX := Lib.hid (ItR.only ho (fun j hj e => by omega) HIX.out)
                      have hbx := ownsRow_only hbx ho (fun g hg e => by simp only [Value.ownBlock, Option.some.injEq] at hg; omega)
                      have hfl := hf
                      clear hf ho
                      refine HK.out _ _ ⟨fn, k3⟩ ?_
                      clear HK
                      refine t_loud rfl (fun K hK => ?_)
                      have HK := Lib.hid hK
                      clear hK
                      go_simp
                      refine (etake_calls (fun j => j < wb) 6 _ xl 4 0 wb wb _ _ HIX.out (fun j hj => by have := hfl.lt; omega) (by omega) hfl).mono ?_
                      rintro e vt ⟨qt, rfl, -, hf, ho⟩
                      have fn := ho.cell (b := wb + 1) (by omega) fn
                      have k3 := ho.cell (b := tb) (by omega) k3
                      have hon := hon.trans ho (fun j _ e => .inl e)
                      have HIX := Lib.hid (ItR.only ho (fun j hj e => by omega) HIX.out)
                      have hbx := ownsRow_only hbx ho (fun g hg e => by simp only [Value.ownBlock, Option.some.injEq] at hg; omega)
                      have hfl := hf
                      have hfd := fld1 (tkX xl 4 0).k (tkX xl 4 0).n (tkX xl 4 0).s qt
                      clear hf ho
                      refine HK.out _ _ ⟨fn, k3⟩ ?_
                      clear HK
                      iterate 1
                        first
                        | (refine t_take (v := ?_) rfl rfl ?_ ?_
                           rotate_left
                           · intro W hW
                             go_simp
                             with_reducible rfl
                           simp only [Act.put, List.setIfInBounds_toArray, List.set_cons_zero, List.set_cons_succ])
                        | (refine t_skip rfl rfl ?_
                           simp only [Act.put, List.setIfInBounds_toArray, List.set_cons_zero, List.set_cons_succ])
                      refine t_loud rfl (fun K hK => ?_)
                      have HK := Lib.hid hK
                      clear hK
                      go_simp
                      refine (etake_calls (fun j => j < wb) 6 _ xl 5 0 wb wb _ _ HIX.out (fun j hj => by have := hfl.lt; omega) (by omega) hfl).mono ?_
                      rintro e vt ⟨qt, rfl, -, hf, ho⟩
                      have fn := ho.cell (b := wb + 1) (by omega) fn
                      have k3 := ho.cell (b := tb) (by omega) k3
                      have hon := hon.trans ho (fun j _ e => .inl e)
                      have HIX := Lib.hid (ItR.only ho (fun j hj e => by omega) HIX.out)
                      have hbx := ownsRow_only hbx ho (fun g hg e => by simp only [Value.ownBlock, Option.some.injEq] at hg; omega)
                      have hfl := hf
                      have hfd := fld1 (tkX xl 5 0).k (tkX xl 5 0).n (tkX xl 5 0).s qt
                      clear hf ho
                      refine HK.out _ _ ⟨fn, k3⟩ ?_
                      clear HK
                      iterate 1
                        first
                        | (refine t_take (v := ?_) rfl rfl ?_ ?_
                           rotate_left
                           · intro W hW
                             go_simp
                             with_reducible rfl
                           simp only [Act.put, List.setIfInBounds_toArray, List.set_cons_zero, List.set_cons_succ])
                        | (refine t_skip rfl rfl ?_
                           simp only [Act.put, List.setIfInBounds_toArray, List.set_cons_zero, List.set_cons_succ])
                      refine t_loud rfl (fun K hK => ?_)
                      have HK := Lib.hid hK
                      clear hK
                      go_simp
                      refine (enum_calls (fun j => j < wb) 6 _ xl 6 wb wb (wb + 1) _ _ HIX.out (fun j hj => by have := hfl.lt; omega) (by omega) hfl fn eg).mono ?_
                      rintro e vt ⟨rfl, hf, ho⟩
                      have fn := ho.cell (b := wb + 1) (by omega) fn
                      have k3 := ho.cell (b := tb) (by omega) k3
                      have hon := hon.trans ho (fun j _ e => .inl e)
                      have HIX := Lib.hid (ItR.only ho (fun j hj e => by omega) HIX.out)
                      have hbx := ownsRow_only hbx ho (fun g hg e => by simp only [Value.ownBlock, Option.some.injEq] at hg; omega)
                      have hfl := hf
                      clear hf ho
                      refine HK.out _ _ ⟨fn, k3⟩ ?_
                      clear HK
                      iterate 1
                        first
                        | (refine t_take (v := ?_) rfl rfl ?_ ?_
                           rotate_left
                           · intro W hW
                             go_simp
                             with_reducible rfl
                           simp only [Act.put, List.setIfInBounds_toArray, List.set_cons_zero, List.set_cons_succ])
                        | (refine t_skip rfl rfl ?_
                           simp only [Act.put, List.setIfInBounds_toArray, List.set_cons_zero, List.set_cons_succ])
                      have hoc := onlyC vt pb (Opr.cells O) 0
                      have fn := hoc.cell (b := wb + 1) (by omega) fn
                      have k3 := hoc.cell (b := tb) (by omega) k3
                      have HIX := Lib.hid (ItR.only hoc (fun j hj e => by omega) HIX.out)
                      have HRS := Lib.hid (show RS2 wr (vt.setCells pb 0 (Opr.cells O)) wb pb eb _ O from ⟨hon.trans hoc (fun j _ e => .inr (by omega)), hfl.only hoc (by omega), ⟨hrb2, hrb3⟩, by omega, own_over hbx rfl, by rw [HOO.out]; exact World.ownsRow_nil _ _ _ _, fun g hg => by rw [HOO.out] at hg; cases hg⟩)
                      refine t_storeE (b := pb) (off := 0) (cs := Opr.cells O) rfl rfl rfl rfl (by rw [HOO.out]; rfl) (own_thereE hbx (by simp [Opr.cells])) (by show _ = some 7; kernel_rfl) (opr_all _ (by rw [HOO.out]; rfl)) ⟨fn, k3⟩ ?_
                      refine t_done ?_
                      simp only [List.drop_succ_cons, List.drop_zero]
                      go_wp2_with fail
                      simp only [NP]
                      go_wp2_with fail
                      go_meet
                      case rel => exact ⟨pb, rfl, by have := HRS.out; rwa [HC6.out] at this, fn, k3, HIX.out⟩
                  obtain ⟨pb, rfl, hrs0, fn, k3, hix⟩ := hcut
                  have HRS := Lib.hid hrs0
                  have HIX := Lib.hid hix
                  clear hrs0 hix hon hfl
                  go_wp2_with fail
                  refine (etake_calls (fun j => j < wb) 6 _ xl 1 2 wb wb _ _ HIX.out (fun j hj => by have := HRS.out.flag.lt; omega) (by omega) HRS.out.flag).mono ?_
                  rintro e w24 ⟨k24, rfl, hl3, hf, ho⟩
                  obtain ⟨ya, yc, rfl, hyc1, hyc2⟩ := hl3.slice
                  have hfd := fld3 (tkX xl 1 2).k (tkX xl 1 2).n (tkX xl 1 2).s ya (tkX xl 1 2).l.length yc
                  have HR0 := Lib.hid (HRS.out.took ho hf)
                  have HL3 := Lib.hid hl3
                  have HOX := Lib.hid (show Opr.con (opX (.mk xk xn xs xl)) = (O.kind, (tkX xl 1 2).l.map Itc.n, O.arg, O.num, O.rounds, O.test, O.lim) by rw [HOO.out]; rfl)
                  have HOI := Lib.hid (show O.iv = nv ∧ O.ins = [] by rw [HOO.out]; exact ⟨rfl, rfl⟩)
                  have HBW := Lib.hid (show ((b || opW (.mk xk xn xs xl)) = ((c6 || tkW xl 1 2) || insW (tkX xl 1 2).l)) by
                    rw [← HC6.out]
                    show (b || ((opW1 (.mk xk xn xs xl) || opW2 (.mk xk xn xs xl)) || insW (tkX xl 1 2).l)) = _
                    show (b || ((opW1 (.mk xk xn xs xl) || ((((((tkW xl 0 0 || tkW xl 2 0) || nmW xl 3) || tkW xl 4 0) || tkW xl 5 0) || nmW xl 6) || tkW xl 1 2)) || insW (tkX xl 1 2).l)) = _
                    simp only [Bool.or_assoc])
                  clear hf ho hl3 HRS HIX fn k3 HOO HC6
                  generalize (tkX xl 1 2).l = L3 at *
                  generalize (c6 || tkW xl 1 2) = c7 at *
                  obtain ⟨okind, oiv, oins, oarg, onum, orounds, otest, olim⟩ := O
                  obtain ⟨rfl, rfl⟩ := HOI.out
                  simp only at HOX
                  go_wp2_with fail
                  clear hfd
                  go_loopw [15, 125] (fun _ iv wq => ∃ (k : Nat) (b3 : Bool) (niv : Value) (ns : List Int), k ≤ L3.length ∧ iv = .int .i64 k ∧ b3 = (c7 || insW (L3.take k)) ∧ ns = (L3.take k).map Itc.n ∧ RS2 wr wq wb pb eb b3 ⟨okind, niv, ns, oarg, onum, orounds, otest, olim⟩ ∧ ItR (fun j => j < wb) 6 wq (.slice ya L3.length yc) L3) (fun _ iv _ => L3.length - (intOf iv).toNat)
                  case atStart => exact ⟨0, c7, nv, [], by omega, rfl, by simp [insW], rfl, HR0.out, HL3.out⟩
                  case round =>
                    clear HR0 HL3
                    obtain ⟨k, b3, niv, ns, hk, rfl, hb3, hns, hrs, hits3⟩ := hrel
                    have HR := Lib.hid hrs
                    have HI3 := Lib.hid hits3
                    have HB3 := Lib.hid hb3
                    have HNS := Lib.hid hns
                    have hnl : ns.length ≤ 65536 := by rw [hns]; simp; omega
                    obtain ⟨na, nc, hniv⟩ := own_slice (show wr.ownsRow (eb + 1) 3 1 niv ns.length (ints ns) from hrs.row)
                    subst hniv
                    clear hb3 hns hrs hits3
                    have hrz := HR.out.on.size
                    have hwl := HR.out.wlt
                    have hpl := HR.out.plt
                    have hfz := HR.out.flag.lt
                    by_cases hlk : k < L3.length
                    · obtain ⟨jb, jo, jv, rfl, g0, g1, g2, g3, hch3, hpb3⟩ := iv_at HI3.out k hlk
                      have HIT := Lib.hid (insW_take hlk)
                      have HT3 := Lib.hid (List.take_succ_eq_append_getElem hlk)
                      generalize L3[k] = z at *
                      obtain ⟨za, zc, rfl, -, -⟩ := hch3.slice
                      obtain ⟨zk, zn, zs, zl⟩ := z
                      simp only [Itc.k, Itc.n, Itc.s, Itc.l] at g0 g1 g2 g3
                      clear hch3
                      go_upto_region 27 with fail
                      obtain ⟨ub, hub⟩ : ∃ ub, ub = wr.heap.size := ⟨_, rfl⟩
                      obtain ⟨U1, hU1⟩ : ∃ U1, U1 = wr.alloc (.cells #[.int .i64 zk, .int .i64 zn, .string zs, .slice za zl.length zc] 100) := ⟨_, rfl⟩
                      have hal : Below wr.heap.size wr U1 := by rw [hU1]; exact below_alloc _ _
                      have HR1 := Lib.hid (HR.out.later hal)
                      have m0 : U1.cell? ⟨ub, 0, none⟩ = some (.int .i64 zk) := by rw [hU1, hub]; exact box_self 0 _ rfl
                      have m1 : U1.cell? ⟨ub, 1, none⟩ = some (.int .i64 zn) := by rw [hU1, hub]; exact box_self 1 _ rfl
                      have y0 := HR1.out.flag.at
                      have f0 := HR1.out.flag.frz 0
                      have HI31 := Lib.hid (ItR.below hal (fun j hj => by omega) HI3.out)
                      have hub' : wb < ub := by omega
                      rw [← hU1, ← hub]
                      clear hU1 hal hub g0 g1 g2 g3 HR HI3
                      go_cut [] from 129 to 134 (fun wx => Flag wx wb wb (b3 || decide (zk ≠ 0)) ∧ Only (fun j => j = wb) U1 wx)
                      case first =>
                        have HSET := Lib.hid HR1.out.flag.set
                        obtain ⟨k1, hk1⟩ : ∃ k1, (zk != 0) = k1 := ⟨_, rfl⟩
                        have HW1 := Lib.hid (show decide (zk ≠ 0) = k1 by rw [← hk1, Bool.eq_iff_iff]; simp)
                        cases b3 <;> cases k1
                        all_goals
                          go_wp2_with fail
                          go_meet
                          case rel => exact ⟨by rw [HW1.out]; exact (HSET.out _).1, (Only.of_grown (HSET.out _).2).weak (fun j _ e => (Option.some.inj e).symm)⟩
                      case rest =>
                        obtain ⟨hfl, ho1⟩ := hcut
                        have m1 := ho1.cell (b := ub) (by omega) m1
                        have HR2 := Lib.hid (HR1.out.took ho1 hfl)
                        have HI32 := Lib.hid (ItR.only ho1 (fun j hj e => by omega) HI31.out)
                        have p1 : wc.cell? ⟨pb, 1, none⟩ = some (.slice na ns.length nc) := HR2.out.cell 1 _ rfl
                        have HR3 := Lib.hid (HR2.out.later (below_alloc wc (.cells #[.int .i64 zn] 3)))
                        have HLIT := Lib.hid (Rd.lit (w := wc) (cs := #[.int .i64 zn]) (e := 3) (n := 1) (sz := 1) rfl (by omega))
                        have HZZ := Lib.hid (show eb + 1 ≤ (wc.alloc (.cells #[.int .i64 zn] 3)).heap.size by have := HR3.out.on.size; omega)
                        have HI33 := Lib.hid (ItR.below (below_alloc wc (.cells #[.int .i64 zn] 3)) (fun j hj => by have := HR2.out.flag.lt; omega) HI32.out)
                        have HRW := Lib.hid (show World.ownsRow (wc.alloc (.cells #[.int .i64 zn] 3)) (eb + 1) 3 1 (.slice na ns.length nc) ns.length (ints ns) from HR3.out.row)
                        clear m0 y0 f0 ho1 hfl
                        go_upto_region 29 with (at_builtin; go_loud (refine app_keep tyIntsD HRW.out HLIT.out (by simp [Value.oneCell']) (by omega) (by omega) (by omega) HZZ.out rfl rfl rfl rfl ?_; intro g gcap w5 h2 h3 h4 h5; have hbx := own_otherT HRW.out HR3.out.box (by decide) h4; have p5 : w5.cell? ⟨pb, 1, none⟩ = some (.slice na ns.length nc) := (by have e := World.ownsRow.cells hbx (g := pb) rfl 1 _ rfl; rwa [add_off, Nat.zero_add] at e); have z5 : w5.frozen? ⟨pb, 1, none⟩ = false := World.ownsRow.frozenAt hbx 1; have H2 := Lib.hid h2; have H4 := Lib.hid h4; have H5 := Lib.hid h5; clear h2 h3 h4 h5 hbx))
                        have HR5 := Lib.hid (HR3.out.pushIn zn H2.out H4.out H5.out rfl)
                        have HI5 := Lib.hid (ItR.only ((Only.refl (fun j => j = pb) w5).setCell ⟨pb, 1, none⟩ (.slice (some ⟨g, 0, none⟩) (ns.length + 1) gcap) (.inl rfl)) (fun j hj e => by omega) (ItR.only (Only.of_grown H4.out) (fun j hj e => by have := HR3.out.rlt j e; omega) HI33.out))
                        clear H2 H4 H5 p5 z5 p1 m1
                        go_wp2_with fail
                        go_roundw
                        case rel => exact ⟨k + 1, _, _, _, by omega, by go_num, by rw [HIT.out, HB3.out, Bool.or_assoc]; rfl, by rw [HT3.out, List.map_append, ← HNS.out]; rfl, HR5.out, HI5.out⟩
                        case measure => simp [intOf]; omega
                    · obtain rfl : k = L3.length := by omega
                      rw [List.take_length] at HB3 HNS
                      have HD := Lib.hid (HDS.out.fresh HR.out.on HR.out.flag)
                      have p0 : wr.cell? ⟨pb, 0, none⟩ = some (.int .i64 okind) := HR.out.cell 0 _ rfl
                      have p1 : wr.cell? ⟨pb, 1, none⟩ = some (.slice na ns.length nc) := HR.out.cell 1 _ rfl
                      have p2 : wr.cell? ⟨pb, 2, none⟩ = some (.int .i64 oarg) := HR.out.cell 2 _ rfl
                      have p3 : wr.cell? ⟨pb, 3, none⟩ = some (.int .u32 onum) := HR.out.cell 3 _ rfl
                      have p4 : wr.cell? ⟨pb, 4, none⟩ = some (.int .i64 orounds) := HR.out.cell 4 _ rfl
                      have p5 : wr.cell? ⟨pb, 5, none⟩ = some (.int .i64 otest) := HR.out.cell 5 _ rfl
                      have p6 : wr.cell? ⟨pb, 6, none⟩ = some (.int .u32 olim) := HR.out.cell 6 _ rfl
                      have g6 : wr.cell? ⟨eb, 6, none⟩ = some (.slice ga os.length gc) := HD.out.cell 6 _ rfl
                      have hal := below_alloc wr (.cells #[.int .i64 okind, .slice na ns.length nc, .int .i64 oarg, .int .u32 onum, .int .i64 orounds, .int .i64 otest, .int .u32 olim] 90)
                      have HD2 := Lib.hid (HD.out.later hal)
                      have HR2 := Lib.hid (HR.out.later hal)
                      have HI2 := Lib.hid (ItR.below hal (fun j hj => by omega) (ItR.only HR.out.on (fun j hj e => by omega) HITS.out))
                      have HB2 := Lib.hid ((HBB.out.trans (HR.out.on.below HBB.out.size (fun j hj e => by have := HBB.out.size; omega))).trans (hal.mono (by have := HBB.out.size; omega)))
                      have HLIT := Lib.hid (Rd.lit (w := wr) (cs := #[.int .i64 okind, .slice na ns.length nc, .int .i64 oarg, .int .u32 onum, .int .i64 orounds, .int .i64 otest, .int .u32 olim]) (e := 90) (n := 1) (sz := 7) rfl (by omega))
                      have HZZ := Lib.hid (show eb + 1 ≤ (wr.alloc (.cells #[.int .i64 okind, .slice na ns.length nc, .int .i64 oarg, .int .u32 onum, .int .i64 orounds, .int .i64 otest, .int .u32 olim] 90)).heap.size by simp; omega)
                      have HOW := Lib.hid (show World.ownsRow (wr.alloc (.cells #[.int .i64 okind, .slice na ns.length nc, .int .i64 oarg, .int .u32 onum, .int .i64 orounds, .int .i64 otest, .int .u32 olim] 90)) (eb + 1) 90 7 (.slice ga os.length gc) os.length (flatF Opr.cells os) from HD2.out.own.ops)
                      clear hal HR HI3 HDS HD HITS HBB
                      go_upto_region 31 with (at_builtin; go_loud (refine app_keep tyOps HOW.out HLIT.out (by simp [Value.oneCell']) (by omega) (by omega) (by omega) HZZ.out rfl rfl rfl rfl ?_; intro g gcap w5 h2 h3 h4 h5; have hbx := own_otherT HOW.out HD2.out.box (by decide) h4; have e5 : w5.cell? ⟨eb, 6, none⟩ = some (.slice ga os.length gc) := (by have e := World.ownsRow.cells hbx (g := eb) rfl 6 _ rfl; rwa [add_off, Nat.zero_add] at e); have z5 : w5.frozen? ⟨eb, 6, none⟩ = false := World.ownsRow.frozenAt hbx 6; have H2 := Lib.hid h2; have H4 := Lib.hid h4; clear h2 h3 h4 h5 hbx))
                      have HDN := Lib.hid (HD2.out.pushOp (E := ⟨kk, zR, .slice ga os.length gc, os, 0⟩) ⟨okind, .slice na ns.length nc, ns, oarg, onum, orounds, otest, olim⟩ HR2.out.row H2.out H4.out rfl)
                      have hgl : ∀ j, (Value.slice ga os.length gc).ownBlock = some j → eb + 1 ≤ j := fun j e => (World.ownsRow.lt HOW.out j e).1
                      have ho6 : Only (fun j => j = eb) w5 (w5.setCell ⟨eb, 6, none⟩ (.slice (some ⟨g, 0, none⟩) (os.length + 1) gcap)) := (Only.refl _ _).setCell _ _ (.inl rfl)
                      have HIN := Lib.hid (ItR.only ho6 (fun j hj e => by omega) (ItR.only (Only.of_grown H4.out) (fun j hj e => by have := hgl j e; omega) HI2.out))
                      have HBN := Lib.hid ((HB2.out.trans ((Only.of_grown H4.out).below HB2.out.size (fun j hj e => by have := hgl j e; omega))).trans (ho6.below (by have := HB2.out.size; have := H4.out.size; omega) (fun j hj e => by omega)))
                      clear H2 H4 e5 z5 p0 p1 p2 p3 p4 p5 p6 g6 hgl ho6
                      go_wp2_with fail
                      go_roundw
                      case rel => exact ⟨j + 1, _, _, _, by omega, by go_num, by rw [HAT.out, ← Bool.or_assoc, ← HB.out, HBW.out, HB3.out], by rw [HTK.out, List.map_append, List.map_append, ← HOC.out]; show _ ++ [_] = _ ++ [Opr.con (opX (.mk xk xn xs xl))]; rw [HOX.out, ← HNS.out]; rfl, HDN.out, HIN.out, HBN.out⟩
                      case measure => simp [intOf]; omega
              · obtain rfl : j = L2.length := by omega
                rw [List.take_length] at HB HOC
                have HWW := Lib.hid (show entW l = b by rw [HW0.out, HB.out])
                have HSM := Lib.hid (show EntSame (entX l) ⟨kk, zR, .slice ga os.length gc, os, 0⟩ by
                  rw [HEX.out]
                  refine ⟨HK3.out, rfl, rfl, ?_⟩
                  show os.map Opr.con = (L2.map opX).map Opr.con
                  rw [HOC.out, List.map_map]
                  rfl)
                clear HB HOC HITS hlt
                generalize hbc : b = c at *
                clear hbc
                go_upto_region 32 with fail
                have y0 := HDS.out.flag.at
                have HBAD := Lib.hid HDS.out.res
                have hrb1 := HDS.out.lt
                have hrb2 := HDS.out.lt2
                cases c with
                | true =>
                  have HNONE := Lib.hid (show entD s = none by rw [HED.out]; exact entG_no (fun h => by rw [HWW.out] at h; cases h.1))
                  go_wp2_with (first | (refine wpList_store_mid rfl 35 _ _ rfl (w.heap.size) 0 (Ent.cells zE).toArray rfl rfl HBAD.out (by show _ = some 8; kernel_rfl) (ent_all zE ⟨_, _, _, rfl⟩) ?_) | (refine wp_store_mid 35 _ _ rfl (w.heap.size) 0 (Ent.cells zE).toArray rfl rfl HBAD.out (by show _ = some 8; kernel_rfl) (ent_all zE ⟨_, _, _, rfl⟩) ?_))
                  refine bodyPost_ret (v := .tuple #[.agg (Ent.cells zE).toArray, .int .i64 3]) (res_cell2 Try.results54 rfl (run_ent (E := zE) (World.rangeAt_setCells_same wr w.heap.size 0 _ HBAD.out))) rfl ⟨zE, 3, rfl, ⟨EntOwn.nil _ _ _ rfl rfl, by rw [HNONE.out]; exact ⟨rfl, rfl⟩⟩, HBB.out.trans ((onlyC wr w.heap.size (Ent.cells zE) 0).below HBB.out.size (fun j hj e => by omega))⟩
                | false =>
                  by_cases hlc : l.length = 2
                  · have e1 : ((l.length : Int) != (2 : Int)) = false := by simp [hlc]
                    have HLC := Lib.hid hlc
                    have c0 := HDS.out.cell 0 _ rfl
                    have c1 := HDS.out.cell 1 _ rfl
                    have c2 := HDS.out.cell 2 _ rfl
                    have c3 := HDS.out.cell 3 _ rfl
                    have c4 := HDS.out.cell 4 _ rfl
                    have c5 := HDS.out.cell 5 _ rfl
                    have c6 := HDS.out.cell 6 _ rfl
                    have c7 := HDS.out.cell 7 _ rfl
                    clear hlc
                    go_wp2_with fail
                    refine (entGood_calls _ (Ent.r (⟨kk, zR, .slice ga os.length gc, os, 0⟩)) _ _ _ wr HDS.out.own.reads).mono ?_
                    rintro e w15 ⟨rfl, hb15⟩
                    have HD15 := Lib.hid (HDS.out.later hb15)
                    have HBB := Lib.hid (HBB.out.trans (hb15.mono HBB.out.size))
                    have HBAD := Lib.hid HD15.out.res
                    have HGD := Lib.hid (HSM.out.good)
                    have c0 := cell_later hb15 c0
                    have c1 := cell_later hb15 c1
                    have c2 := cell_later hb15 c2
                    have c3 := cell_later hb15 c3
                    have c4 := cell_later hb15 c4
                    have c5 := cell_later hb15 c5
                    have c6 := cell_later hb15 c6
                    have c7 := cell_later hb15 c7
                    clear hb15 y0 HDS
                    generalize hgg : goodEnt _ _ _ _ = gd at *
                    have HG2 := Lib.hid (show gd = (entX l).good from HGD.out)
                    clear hgg HGD
                    cases gd with
                    | false =>
                      have HNONE := Lib.hid (show entD s = none by rw [HED.out]; exact entG_no (fun h => by have := HG2.out; rw [h.2.2] at this; cases this))
                      go_wp2_with (first | (refine wpList_store_mid rfl 35 _ _ rfl (w.heap.size) 0 (Ent.cells zE).toArray rfl rfl HBAD.out (by show _ = some 8; kernel_rfl) (ent_all zE ⟨_, _, _, rfl⟩) ?_) | (refine wp_store_mid 35 _ _ rfl (w.heap.size) 0 (Ent.cells zE).toArray rfl rfl HBAD.out (by show _ = some 8; kernel_rfl) (ent_all zE ⟨_, _, _, rfl⟩) ?_))
                      refine bodyPost_ret (v := .tuple #[.agg (Ent.cells zE).toArray, .int .i64 3]) (res_cell2 Try.results54 rfl (run_ent (E := zE) (World.rangeAt_setCells_same w15 w.heap.size 0 _ HBAD.out))) rfl ⟨zE, 3, rfl, ⟨EntOwn.nil _ _ _ rfl rfl, by rw [HNONE.out]; exact ⟨rfl, rfl⟩⟩, HBB.out.trans ((onlyC w15 w.heap.size (Ent.cells zE) 0).below HBB.out.size (fun j hj e => by omega))⟩
                    | true =>
                      have HSOME := Lib.hid (show entD s = some (entX l) by rw [HED.out]; exact entG_yes HWW.out (by rw [HLC.out]; exact HCN.out.symm) HG2.out.symm)
                      go_wp2_with (first | (refine wpList_store_mid rfl 35 _ _ rfl (w.heap.size) 0 (Ent.cells (⟨kk, zR, .slice ga os.length gc, os, 0⟩)).toArray rfl rfl HBAD.out (by show _ = some 8; kernel_rfl) (ent_all (⟨kk, zR, .slice ga os.length gc, os, 0⟩) ⟨_, _, _, rfl⟩) ?_) | (refine wp_store_mid 35 _ _ rfl (w.heap.size) 0 (Ent.cells (⟨kk, zR, .slice ga os.length gc, os, 0⟩)).toArray rfl rfl HBAD.out (by show _ = some 8; kernel_rfl) (ent_all (⟨kk, zR, .slice ga os.length gc, os, 0⟩) ⟨_, _, _, rfl⟩) ?_))
                      have hon := onlyC w15 w.heap.size (Ent.cells (⟨kk, zR, .slice ga os.length gc, os, 0⟩)) 0
                      refine bodyPost_ret (v := .tuple #[.agg (Ent.cells (⟨kk, zR, .slice ga os.length gc, os, 0⟩)).toArray, .int .i64 0]) (res_cell2 Try.results54 rfl (run_ent (E := ⟨kk, zR, .slice ga os.length gc, os, 0⟩) (World.rangeAt_setCells_same w15 w.heap.size 0 _ HBAD.out))) rfl ⟨⟨kk, zR, .slice ga os.length gc, os, 0⟩, 0, rfl, ⟨(HD15.out.own.only hon (fun j h1 h2 e => by omega)).mono (by omega), by rw [HSOME.out]; exact ⟨rfl, HSM.out⟩⟩, HBB.out.trans (hon.below HBB.out.size (fun j hj e => by omega))⟩
                  · have e1 : ((l.length : Int) != (2 : Int)) = true := by simp; omega
                    have HNONE := Lib.hid (show entD s = none by rw [HED.out]; exact entG_no (fun h => hlc (by rw [h.2.1]; exact HCN.out)))
                    clear hlc
                    go_wp2_with (first | (refine wpList_store_mid rfl 35 _ _ rfl (w.heap.size) 0 (Ent.cells zE).toArray rfl rfl HBAD.out (by show _ = some 8; kernel_rfl) (ent_all zE ⟨_, _, _, rfl⟩) ?_) | (refine wp_store_mid 35 _ _ rfl (w.heap.size) 0 (Ent.cells zE).toArray rfl rfl HBAD.out (by show _ = some 8; kernel_rfl) (ent_all zE ⟨_, _, _, rfl⟩) ?_))
                    refine bodyPost_ret (v := .tuple #[.agg (Ent.cells zE).toArray, .int .i64 3]) (res_cell2 Try.results54 rfl (run_ent (E := zE) (World.rangeAt_setCells_same wr w.heap.size 0 _ HBAD.out))) rfl ⟨zE, 3, rfl, ⟨EntOwn.nil _ _ _ rfl rfl, by rw [HNONE.out]; exact ⟨rfl, rfl⟩⟩, HBB.out.trans ((onlyC wr w.heap.size (Ent.cells zE) 0).below HBB.out.size (fun j hj e => by omega))⟩
          · have e3 : (kk == 3) = false := beq_eq_false_iff_ne.2 h3
            have HSM := Lib.hid (show EntSame (entX l) ⟨kk, zR, nv, [], (tkX l 1 0).n⟩ by unfold entX; rw [HKK.out, if_neg h1, if_neg h3]; exact ⟨rfl, rfl, rfl, rfl⟩)
            have HCN := Lib.hid (show entC l = 2 by unfold entC; rw [HKK.out, if_neg h1])
            have HWW := Lib.hid (show entW l = (tkW l 0 0 || tkW l 1 0) by unfold entW; rw [HKK.out, if_neg h0, if_neg h1, if_neg h3])
            have f0 := HDS.out.fn
            clear h0 h1 h3
            go_wp2_with fail
            refine (etake_calls _ 8 _ l 1 0 wb wb _ V4 HDS.out.its (fun j hj => by have := HDS.out.flag.lt; omega) (by omega) HDS.out.flag).mono ?_
            rintro e w5 ⟨k5, rfl, -, hf, ho⟩
            have hds := HDS.out.took ho hf
            have HBB := Lib.hid (HBB.out.trans (ho.below HBB.out.size (fun j hj e => by omega)))
            have hfd := fld1 (tkX l 1 0).k (tkX l 1 0).n (tkX l 1 0).s k5
            have c7 := hds.cell 7 _ rfl
            have f7 : w5.frozen? ⟨eb, 7, none⟩ = false := World.ownsRow.frozenAt hds.box 7
            have HD5 := Lib.hid hds
            clear hf ho f0 HDS c0 hds
            go_upto_region 32 with fail
            have HDS := Lib.hid (HD5.out.putN (tkX l 1 0).n)
            have ho7 : Only (fun j => j = eb) w5 (w5.setCell ⟨eb, 7, none⟩ (.int .i64 (tkX l 1 0).n)) := (Only.refl _ _).setCell _ _ (.inl rfl)
            have HBB := Lib.hid (HBB.out.trans (ho7.below HBB.out.size (fun j hj e => by have := HD5.out.lt2; omega)))
            clear c7 f7 hfd ho7 HD5
            generalize w5.setCell ⟨eb, 7, none⟩ (.int .i64 (tkX l 1 0).n) = V6 at *
            generalize (tkW l 0 0 || tkW l 1 0) = c at *
            have y0 := HDS.out.flag.at
            have HBAD := Lib.hid HDS.out.res
            have hrb1 := HDS.out.lt
            have hrb2 := HDS.out.lt2
            cases c with
            | true =>
              have HNONE := Lib.hid (show entD s = none by rw [HED.out]; exact entG_no (fun h => by rw [HWW.out] at h; cases h.1))
              go_wp2_with (first | (refine wpList_store_mid rfl 35 _ _ rfl (w.heap.size) 0 (Ent.cells zE).toArray rfl rfl HBAD.out (by show _ = some 8; kernel_rfl) (ent_all zE ⟨_, _, _, rfl⟩) ?_) | (refine wp_store_mid 35 _ _ rfl (w.heap.size) 0 (Ent.cells zE).toArray rfl rfl HBAD.out (by show _ = some 8; kernel_rfl) (ent_all zE ⟨_, _, _, rfl⟩) ?_))
              refine bodyPost_ret (v := .tuple #[.agg (Ent.cells zE).toArray, .int .i64 3]) (res_cell2 Try.results54 rfl (run_ent (E := zE) (World.rangeAt_setCells_same V6 w.heap.size 0 _ HBAD.out))) rfl ⟨zE, 3, rfl, ⟨EntOwn.nil _ _ _ rfl rfl, by rw [HNONE.out]; exact ⟨rfl, rfl⟩⟩, HBB.out.trans ((onlyC V6 w.heap.size (Ent.cells zE) 0).below HBB.out.size (fun j hj e => by omega))⟩
            | false =>
              by_cases hlc : l.length = 2
              · have e1 : ((l.length : Int) != (2 : Int)) = false := by simp [hlc]
                have HLC := Lib.hid hlc
                have c0 := HDS.out.cell 0 _ rfl
                have c1 := HDS.out.cell 1 _ rfl
                have c2 := HDS.out.cell 2 _ rfl
                have c3 := HDS.out.cell 3 _ rfl
                have c4 := HDS.out.cell 4 _ rfl
                have c5 := HDS.out.cell 5 _ rfl
                have c6 := HDS.out.cell 6 _ rfl
                have c7 := HDS.out.cell 7 _ rfl
                clear hlc
                go_wp2_with fail
                refine (entGood_calls _ (Ent.r (⟨kk, zR, nv, [], (tkX l 1 0).n⟩)) _ _ _ V6 HDS.out.own.reads).mono ?_
                rintro e w15 ⟨rfl, hb15⟩
                have HD15 := Lib.hid (HDS.out.later hb15)
                have HBB := Lib.hid (HBB.out.trans (hb15.mono HBB.out.size))
                have HBAD := Lib.hid HD15.out.res
                have HGD := Lib.hid (HSM.out.good)
                have c0 := cell_later hb15 c0
                have c1 := cell_later hb15 c1
                have c2 := cell_later hb15 c2
                have c3 := cell_later hb15 c3
                have c4 := cell_later hb15 c4
                have c5 := cell_later hb15 c5
                have c6 := cell_later hb15 c6
                have c7 := cell_later hb15 c7
                clear hb15 y0 HDS
                generalize hgg : goodEnt _ _ _ _ = gd at *
                have HG2 := Lib.hid (show gd = (entX l).good from HGD.out)
                clear hgg HGD
                cases gd with
                | false =>
                  have HNONE := Lib.hid (show entD s = none by rw [HED.out]; exact entG_no (fun h => by have := HG2.out; rw [h.2.2] at this; cases this))
                  go_wp2_with (first | (refine wpList_store_mid rfl 35 _ _ rfl (w.heap.size) 0 (Ent.cells zE).toArray rfl rfl HBAD.out (by show _ = some 8; kernel_rfl) (ent_all zE ⟨_, _, _, rfl⟩) ?_) | (refine wp_store_mid 35 _ _ rfl (w.heap.size) 0 (Ent.cells zE).toArray rfl rfl HBAD.out (by show _ = some 8; kernel_rfl) (ent_all zE ⟨_, _, _, rfl⟩) ?_))
                  refine bodyPost_ret (v := .tuple #[.agg (Ent.cells zE).toArray, .int .i64 3]) (res_cell2 Try.results54 rfl (run_ent (E := zE) (World.rangeAt_setCells_same w15 w.heap.size 0 _ HBAD.out))) rfl ⟨zE, 3, rfl, ⟨EntOwn.nil _ _ _ rfl rfl, by rw [HNONE.out]; exact ⟨rfl, rfl⟩⟩, HBB.out.trans ((onlyC w15 w.heap.size (Ent.cells zE) 0).below HBB.out.size (fun j hj e => by omega))⟩
                | true =>
                  have HSOME := Lib.hid (show entD s = some (entX l) by rw [HED.out]; exact entG_yes HWW.out (by rw [HLC.out]; exact HCN.out.symm) HG2.out.symm)
                  go_wp2_with (first | (refine wpList_store_mid rfl 35 _ _ rfl (w.heap.size) 0 (Ent.cells (⟨kk, zR, nv, [], (tkX l 1 0).n⟩)).toArray rfl rfl HBAD.out (by show _ = some 8; kernel_rfl) (ent_all (⟨kk, zR, nv, [], (tkX l 1 0).n⟩) ⟨_, _, _, rfl⟩) ?_) | (refine wp_store_mid 35 _ _ rfl (w.heap.size) 0 (Ent.cells (⟨kk, zR, nv, [], (tkX l 1 0).n⟩)).toArray rfl rfl HBAD.out (by show _ = some 8; kernel_rfl) (ent_all (⟨kk, zR, nv, [], (tkX l 1 0).n⟩) ⟨_, _, _, rfl⟩) ?_))
                  have hon := onlyC w15 w.heap.size (Ent.cells (⟨kk, zR, nv, [], (tkX l 1 0).n⟩)) 0
                  refine bodyPost_ret (v := .tuple #[.agg (Ent.cells (⟨kk, zR, nv, [], (tkX l 1 0).n⟩)).toArray, .int .i64 0]) (res_cell2 Try.results54 rfl (run_ent (E := ⟨kk, zR, nv, [], (tkX l 1 0).n⟩) (World.rangeAt_setCells_same w15 w.heap.size 0 _ HBAD.out))) rfl ⟨⟨kk, zR, nv, [], (tkX l 1 0).n⟩, 0, rfl, ⟨(HD15.out.own.only hon (fun j h1 h2 e => by omega)).mono (by omega), by rw [HSOME.out]; exact ⟨rfl, HSM.out⟩⟩, HBB.out.trans (hon.below HBB.out.size (fun j hj e => by omega))⟩
              · have e1 : ((l.length : Int) != (2 : Int)) = true := by simp; omega
                have HNONE := Lib.hid (show entD s = none by rw [HED.out]; exact entG_no (fun h => hlc (by rw [h.2.1]; exact HCN.out)))
                clear hlc
                go_wp2_with (first | (refine wpList_store_mid rfl 35 _ _ rfl (w.heap.size) 0 (Ent.cells zE).toArray rfl rfl HBAD.out (by show _ = some 8; kernel_rfl) (ent_all zE ⟨_, _, _, rfl⟩) ?_) | (refine wp_store_mid 35 _ _ rfl (w.heap.size) 0 (Ent.cells zE).toArray rfl rfl HBAD.out (by show _ = some 8; kernel_rfl) (ent_all zE ⟨_, _, _, rfl⟩) ?_))
                refine bodyPost_ret (v := .tuple #[.agg (Ent.cells zE).toArray, .int .i64 3]) (res_cell2 Try.results54 rfl (run_ent (E := zE) (World.rangeAt_setCells_same V6 w.heap.size 0 _ HBAD.out))) rfl ⟨zE, 3, rfl, ⟨EntOwn.nil _ _ _ rfl rfl, by rw [HNONE.out]; exact ⟨rfl, rfl⟩⟩, HBB.out.trans ((onlyC V6 w.heap.size (Ent.cells zE) 0).below HBB.out.size (fun j hj e => by omega))⟩
end Go.Proofs.Ytkabfjbmofpkdaa
