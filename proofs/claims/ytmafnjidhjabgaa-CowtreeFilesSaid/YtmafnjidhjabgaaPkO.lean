/- Walks and plain laws of the chapter, laid together; each part says what it proves. -/
import Derived.WalkSpells
import Derived.Laws.IdiomRangeMap
import Derived.Test.YtmafnjidhjabgaaPkK
import Derived.Test.YtmafnjidhjabgaaPkL
import Derived.Test.YtmafnjidhjabgaaPkM
import Derived.Test.YtmafnjidhjabgaaPkN
namespace Go.Proofs.Ytmafnjidhjabgaa
open Go.RowKit Go.Shelf
set_option linter.unusedVariables false
set_option linter.unusedSectionVars false
set_option linter.unusedSimpArgs false
set_option maxRecDepth 100000
variable [Inhabited Pgs]
def iI (n : Int) : Itc := .mk 0 n nos []
def iT (s : ByteArray) : Itc := .mk 1 0 s []
theorem its_lit {w W1 : World} (xs : List Iv) (hn : xs.length ≤ 1000) (hx : ∀ x ∈ xs, x.v = .slice none 0 0 ∧ x.c.l = []) (hW : W1 = w.alloc (.cells (flatF Iv.cells xs).toArray 72)) :
  Its W1 8 (.slice (some ⟨w.heap.size, 0, none⟩) xs.length xs.length) (xs.map Iv.c) := by
 have hr := Rd.lit (w := w) (cs := (flatF Iv.cells xs).toArray) (e := 72) (n := xs.length) (sz := 4) (by simp only [List.size_toArray]; rw [flatF_length iv4]) (by omega)
 rw [← hW] at hr
 refine ⟨xs, rfl, by simpa using hr, fun a n c e _ => ?_, fun x h => ?_⟩
 ·
  simp only [Value.slice.injEq, Option.some.injEq] at e
  obtain ⟨rfl, -, -⟩ := e
  show w.heap.size < W1.heap.size
  rw [hW]; simp
 ·
  obtain ⟨h1, h2⟩ := hx x h
  rw [h1, h2]
  exact ItR.nil _ _ _
def slotE (s : Sl) (v : ByteArray) : List Itc := [iI ((s.ver : Int) + 1), iT v]
def toOf (s : Sl) : Nat := if s.inn = 0 then 1 else 0
def putSl (s : Sl) (v : ByteArray) : Sl := { s with val := v, ver := s.ver + 1, inn := toOf s }
structure SPut (w w' : World) (B p d Bd : Nat) (s : Sl) (D : Dk) (v : ByteArray) (D' : Dk) : Prop where
 slot : SlotAt w' B p d (putSl s v)
 disk : DiskAt w' Bd d D'
 only : Only (fun j => D.foot d j ∨ j = p) w w'
 foot : ∀ j, D'.foot d j → D.foot d j ∨ w.heap.size ≤ j
set_option maxHeartbeats 4000000 in
theorem sput_calls (B p d Bd : Nat) (s : Sl) (D : Dk) (v : ByteArray) (w : World) (h : SlotAt w B p d s) (hd : DiskAt w Bd d D) (hpd : ¬ D.foot d p) (hb : s.broken = false) (hv : v.size ≤ 60000) (hver : s.ver ≤ 1000000000) (hnm : s.nm.size ≤ 1000) (hlen : (enc (slotE s v)).length ≤ 65536)
   (hf : (fileOf D.now (sfn s.nm (toOf s))).length ≤ 1099511627776) (hus : usedOf D.now ≤ 1152921504606846976) (hn : D.chg.length ≤ 1000000) (hr0 : 0 ≤ D.room) (hr1 : D.room ≤ 1152921504606846976) (hw : wrE D (sfn s.nm (toOf s)) 0 (Fr.FrM.frameOf (enc (slotE s v))) = 0)
   (hsy : ∀ nv dv cv, syE (wrD D (sfn s.nm (toOf s)) 0 (Fr.FrM.frameOf (enc (slotE s v))) nv dv cv) (sfn s.nm (toOf s)) = 0 ∧ (fileOf (wrD D (sfn s.nm (toOf s)) 0 (Fr.FrM.frameOf (enc (slotE s v))) nv dv cv).now (sfn s.nm (toOf s))).length ≤ 1099511627776 ∧ (wrD D (sfn s.nm (toOf s)) 0 (Fr.FrM.frameOf (enc (slotE s v))) nv dv cv).chg.length ≤ 1000000) :
   Calls Try.prog 67 #[.pointer (some ⟨p, 0, none⟩), .string v] w fun e w' => e = .returned (.int .i64 0) ∧ ∃ nv dv cv cv2 v2, SPut w w' B p d Bd s D v (syD (wrD D (sfn s.nm (toOf s)) 0 (Fr.FrM.frameOf (enc (slotE s v))) nv dv cv) (sfn s.nm (toOf s)) cv2 v2) := by
 have hok : ∀ i ∈ slotE s v, okI 8 i := by
   intro i hi
   simp only [slotE, List.mem_cons, List.not_mem_nil, or_false] at hi
   rcases hi with rfl | rfl
   · exact .inl ⟨rfl, ⟨by omega, by omega⟩, rfl, rfl⟩
   · exact .inr (.inl ⟨rfl, rfl, by show v.size ≤ 65536; omega, rfl⟩)
 have hsum : ((slotE s v).map (szI 8)).sum ≤ 4096 := by
   simp [slotE, iI, iT, szI]
 obtain ⟨c0, c1, c2, c3, c4, c5, fz⟩ := h.at
 rw [hb] at c5
 have c4w := c4
 have d1 : decide ((60000 : Int) < (v.size : Int)) = false := decide_eq_false (by omega)
 have d2 : (((s.ver : Nat) : Int) == 9223372036854775807) = false := by rw [beq_eq_false_iff_ne]; omega
 have HS := Lib.hid h
 have HD := Lib.hid hd
 have HEN := Lib.hid (fun iv W (hi : Its W 8 iv (slotE s v)) => wencode_calls iv (slotE s v) W hi hok hsum hlen)
 have HLEN := Lib.hid hlen
 clear h hd hok hsum hb fz
 go_enter Try.func67, Try.ntmps67
 go_upto_region 10 with (first
  | (go_at_call 64; refine (wint_calls _ _).mono ?_; rintro e w1 ⟨rfl, hb1⟩; have c4 := cell_later hb1 c4; have HB1 := Lib.hid hb1; clear hb1)
  | (go_at_call 89; refine (wtext_calls _ _).mono ?_; rintro e w2 ⟨rfl, hb2⟩; have c4 := cell_later hb2 c4; have HB2 := Lib.hid (below_go HB1.out hb2); clear hb2)
  | (go_at_call 66; refine (HEN.out _ _ (its_lit [⟨iI ((s.ver : Int) + 1), .slice none 0 0⟩, ⟨iT v, .slice none 0 0⟩] (by simp) (by intro x hx; simp only [List.mem_cons, List.not_mem_nil, or_false] at hx; rcases hx with rfl | rfl <;> exact ⟨rfl, rfl⟩) rfl)).mono ?_; rintro e w3 ⟨ev, rfl, ho3, hb3⟩; have hb3 := below_go (below_box HB2.out _) hb3; have c4 := cell_later hb3 (show w.cell? ⟨p, 4, none⟩ = _ from c4w); have HB3 := Lib.hid hb3; have HE3 := Lib.hid (show Bytes w3 ev (enc (slotE s v)) from Bytes.of_own ho3); clear hb3 ho3)
  | (go_at_call 91; refine (Fr.put_calls _ (enc (slotE s v)) _ HE3.out).mono ?_; rintro e w4 ⟨fv, fc, rfl, hpo, hb4⟩; unfold Fr.PutOut at hpo; rw [if_pos HLEN.out] at hpo; obtain ⟨hfm, rfl⟩ := hpo; have hb4 := below_go HB3.out hb4; have c4 := cell_later hb4 (show w.cell? ⟨p, 4, none⟩ = _ from c4w); have HB4 := Lib.hid hb4; have HFM := Lib.hid (Txt.of_mine hfm); clear hb4 hfm))
 have HSY := Lib.hid hsy
 have HW := Lib.hid hw
 have ht2 : toOf s < 2 ∧ ((s.inn = 0 ∧ toOf s = 1) ∨ (s.inn ≠ 0 ∧ toOf s = 0)) := by
   unfold toOf
   by_cases hi : s.inn = 0
   · rw [if_pos hi]; exact ⟨by omega, .inl ⟨hi, rfl⟩⟩
   · rw [if_neg hi]; exact ⟨by omega, .inr ⟨hi, rfl⟩⟩
 have HNS := Lib.hid (show (sfn s.nm (toOf s)).size = s.nm.size + 2 by
   unfold sfn
   rw [ByteArray.size_append]
   split <;> rfl)
 have HPS := Lib.hid (show putSl s v = { s with val := v, ver := s.ver + 1, inn := (toOf s : Nat) } from rfl)
 clear hsy hw
 generalize hTT : toOf s = t at *
 have HTT := Lib.hid hTT
 clear hTT
 obtain ⟨htl, hway⟩ := ht2
 have HTL := Lib.hid htl
 have HF := Lib.hid hf
 have hz4 := c4
 have c0' := cell_later HB4.out c0
 clear hf c1 c2 c3 c5 htl
 rcases hway with ⟨hi, rfl⟩ | ⟨hi, rfl⟩
 ·
   have e1 : (s.inn == 0) = true := beq_iff_eq.2 hi
   go_upto_region 12 with fail
   have HD4 := Lib.hid (HD.out.below HB4.out)
   have HS4 := Lib.hid (HS.out.below HB4.out)
   refine region_m [(0, false), (1, false), (2, false), (3, false), (4, false), (5, false), (7, false), (6, true), (8, true), (9, false)] 10 (fun V => V.cell? ⟨p, 0, none⟩ = some (.pointer (some ⟨d, 0, none⟩))) (by kernel_rfl) (by kernel_rfl) c0' ?_
   iterate 7
    first
    | (
     refine m_take (v := ?_) rfl rfl ?_ ?_
     rotate_left
     ·
      intro W hW
      go_simp
      with_reducible rfl
     simp only [Act.put, List.setIfInBounds_toArray, List.set_cons_zero, List.set_cons_succ])
    | (
     refine m_skip rfl rfl ?_
     simp only [Act.put, List.setIfInBounds_toArray, List.set_cons_zero, List.set_cons_succ])
   refine m_loud rfl (fun K hK => ?_)
   have HK := Lib.hid hK
   clear hK
   go_simp
   refine (sfile_calls B p d s 1 HTL.out _ (HS4.out.below (Below.refl _ _).drew) hnm).mono ?_
   rintro e w5 ⟨rfl, hb5⟩
   have hb5 : Below w4.heap.size w4 w5 := ((Below.refl w4.heap.size w4).drew).trans hb5
   have HB5 := Lib.hid hb5
   refine HK.out _ _ (cell_later hb5 c0') ?_
   clear HK
   refine m_loud rfl (fun K hK => ?_)
   have HK := Lib.hid hK
   clear hK
   go_simp
   refine (dwrite_calls d Bd D (sfn s.nm 1) 0 fv (Fr.FrM.frameOf (enc (slotE s v))) w5 (HD4.out.below HB5.out) (HFM.out.below HB5.out).1 (fun a n c e hf => (HD4.out.below HB5.out).foot_u8 hf ((HFM.out.below HB5.out).2 a n c e)) (by rw [HNS.out]; omega) (by omega) (by rw [Fr.FrM.frameOf_length]; have := HLEN.out; omega) HF.out hus hn hr0 hr1).mono ?_
   rintro e w6 ⟨er, rfl, her, hpost⟩
   rw [HW.out] at her
   subst her
   obtain ⟨hne, -⟩ | ⟨-, nv, dvv, dcv, ht6⟩ := hpost
   · exact absurd rfl hne
   have HSY2 := Lib.hid (HSY.out nv dvv dcv)
   obtain ⟨D1, hD1⟩ : ∃ D1, D1 = wrD D (sfn s.nm 1) 0 (Fr.FrM.frameOf (enc (slotE s v))) nv dvv dcv := ⟨_, rfl⟩
   rw [← hD1] at ht6 HSY2
   have HD1 := Lib.hid hD1
   clear hD1
   have HT6 := Lib.hid ((Turned.of_below HD.out (below_go HB4.out HB5.out)).trans ht6)
   have c06 := HT6.out.only.cell hpd c0
   have HS6 := Lib.hid (HS.out.only HT6.out.only hpd)
   clear ht6
   refine HK.out _ _ c06 ?_
   clear HK
   iterate 1
    first
    | (
     refine m_take (v := ?_) rfl rfl ?_ ?_
     rotate_left
     ·
      intro W hW
      go_simp
      with_reducible rfl
     simp only [Act.put, List.setIfInBounds_toArray, List.set_cons_zero, List.set_cons_succ])
    | (
     refine m_skip rfl rfl ?_
     simp only [Act.put, List.setIfInBounds_toArray, List.set_cons_zero, List.set_cons_succ])
   refine m_done ?_
   simp only [List.drop_succ_cons, List.drop_zero]
   go_upto_region 14 with fail
   simp only [NP]
   go_upto_region 14 with fail
   refine region_m [(0, false), (1, false), (2, false), (3, false), (4, false), (5, false), (6, true), (7, true), (8, false)] 9 (fun V => V.cell? ⟨p, 0, none⟩ = some (.pointer (some ⟨d, 0, none⟩))) (by kernel_rfl) (by kernel_rfl) c06 ?_
   iterate 6
    first
    | (
     refine m_take (v := ?_) rfl rfl ?_ ?_
     rotate_left
     ·
      intro W hW
      go_simp
      with_reducible rfl
     simp only [Act.put, List.setIfInBounds_toArray, List.set_cons_zero, List.set_cons_succ])
    | (
     refine m_skip rfl rfl ?_
     simp only [Act.put, List.setIfInBounds_toArray, List.set_cons_zero, List.set_cons_succ])
   refine m_loud rfl (fun K hK => ?_)
   have HK := Lib.hid hK
   clear hK
   go_simp
   refine (sfile_calls B p d s 1 HTL.out _ (HS6.out.below (Below.refl _ _).drew) hnm).mono ?_
   rintro e w7 ⟨rfl, hb7⟩
   have hb7 : Below w6.heap.size w6 w7 := ((Below.refl w6.heap.size w6).drew).trans hb7
   have HT7 := Lib.hid (HT6.out.below hb7)
   refine HK.out _ _ (cell_later hb7 c06) ?_
   clear HK
   refine m_loud rfl (fun K hK => ?_)
   have HK := Lib.hid hK
   clear hK
   go_simp
   refine (dsync_calls d Bd D1 (sfn s.nm 1) w7 HT7.out.is (by rw [HNS.out]; omega) HSY2.out.2.1 HSY2.out.2.2).mono ?_
   rintro e w8 ⟨er, rfl, her, hpost⟩
   rw [HSY2.out.1] at her
   subst her
   obtain ⟨hne, -⟩ | ⟨-, cv2, v2, ht8⟩ := hpost
   · exact absurd rfl hne
   have HT8 := Lib.hid (HT7.out.trans ht8)
   have HS8 := Lib.hid (HS.out.only HT8.out.only hpd)
   obtain ⟨c08, c18, c28, c38, c48, c58, fz⟩ := HS8.out.at
   have f2 := fz 2
   have f3 := fz 3
   have f4 := fz 4
   clear fz ht8 hb7 c06 c0' hb5
   refine HK.out _ _ c08 ?_
   clear HK
   iterate 1
    first
    | (
     refine m_take (v := ?_) rfl rfl ?_ ?_
     rotate_left
     ·
      intro W hW
      go_simp
      with_reducible rfl
     simp only [Act.put, List.setIfInBounds_toArray, List.set_cons_zero, List.set_cons_succ])
    | (
     refine m_skip rfl rfl ?_
     simp only [Act.put, List.setIfInBounds_toArray, List.set_cons_zero, List.set_cons_succ])
   refine m_done ?_
   simp only [List.drop_succ_cons, List.drop_zero]
   go_wp2_with fail
   simp only [NP]
   go_wp2_with fail
   go_ret
   refine ⟨rfl, nv, dvv, dcv, cv2, v2, ?_⟩
   rw [HTT.out, ← HD1.out]
   have st2 := World.ownsRow.stored HS8.out 2 (.string v)
   have st3 := World.ownsRow.stored st2.1 3 (.int .i64 ((s.ver : Int) + 1))
   have st4 := World.ownsRow.stored st3.1 4 (.int .i64 (1 : Nat))
   have hon := ((HT8.out.only.weak (T := fun j => D.foot d j ∨ j = p) (fun j _ h => .inl h)).setCell ⟨p, 2, none⟩ (.string v) (.inl (.inr rfl))).setCell ⟨p, 3, none⟩ (.int .i64 ((s.ver : Int) + 1)) (.inl (.inr rfl)) |>.setCell ⟨p, 4, none⟩ (.int .i64 (1 : Nat)) (.inl (.inr rfl))
   have hpl := HS.out.lt.2
   have hst : Only (fun j => j = p) w8 (((w8.setCell ⟨p, 2, none⟩ (.string v)).setCell ⟨p, 3, none⟩ (.int .i64 ((s.ver : Int) + 1))).setCell ⟨p, 4, none⟩ (.int .i64 (1 : Nat))) := (((Only.refl (fun j => j = p) w8).setCell ⟨p, 2, none⟩ _ (.inl rfl)).setCell ⟨p, 3, none⟩ _ (.inl rfl)).setCell ⟨p, 4, none⟩ _ (.inl rfl)
   have hnf : ∀ j, j = p → ¬ (syD D1 (sfn s.nm 1) cv2 v2).foot d j := fun j e hf => (HT8.out.foot j hf).elim (fun h => hpd (e ▸ h)) (fun h => by omega)
   refine ⟨?_, HT8.out.is.only hst hnf (fun j e hu => absurd (IsT.eq (IsT.of_own HS8.out (j := p) rfl) (show IsT 5 w8 p from e ▸ hu)) (by decide)), hon, HT8.out.foot⟩
   rw [HPS.out]
   exact st4.1
 ·
   have e1 : (s.inn == 0) = false := beq_eq_false_iff_ne.2 hi
   go_upto_region 12 with fail
   have HD4 := Lib.hid (HD.out.below HB4.out)
   have HS4 := Lib.hid (HS.out.below HB4.out)
   refine region_m [(0, false), (1, false), (2, false), (3, false), (4, false), (5, false), (7, false), (6, true), (8, true), (9, false)] 10 (fun V => V.cell? ⟨p, 0, none⟩ = some (.pointer (some ⟨d, 0, none⟩))) (by kernel_rfl) (by kernel_rfl) c0' ?_
   iterate 7
    first
    | (
     refine m_take (v := ?_) rfl rfl ?_ ?_
     rotate_left
     ·
      intro W hW
      go_simp
      with_reducible rfl
     simp only [Act.put, List.setIfInBounds_toArray, List.set_cons_zero, List.set_cons_succ])
    | (
     refine m_skip rfl rfl ?_
     simp only [Act.put, List.setIfInBounds_toArray, List.set_cons_zero, List.set_cons_succ])
   refine m_loud rfl (fun K hK => ?_)
   have HK := Lib.hid hK
   clear hK
   go_simp
   refine (sfile_calls B p d s 0 HTL.out _ (HS4.out.below (Below.refl _ _).drew) hnm).mono ?_
   rintro e w5 ⟨rfl, hb5⟩
   have hb5 : Below w4.heap.size w4 w5 := ((Below.refl w4.heap.size w4).drew).trans hb5
   have HB5 := Lib.hid hb5
   refine HK.out _ _ (cell_later hb5 c0') ?_
   clear HK
   refine m_loud rfl (fun K hK => ?_)
   have HK := Lib.hid hK
   clear hK
   go_simp
   refine (dwrite_calls d Bd D (sfn s.nm 0) 0 fv (Fr.FrM.frameOf (enc (slotE s v))) w5 (HD4.out.below HB5.out) (HFM.out.below HB5.out).1 (fun a n c e hf => (HD4.out.below HB5.out).foot_u8 hf ((HFM.out.below HB5.out).2 a n c e)) (by rw [HNS.out]; omega) (by omega) (by rw [Fr.FrM.frameOf_length]; have := HLEN.out; omega) HF.out hus hn hr0 hr1).mono ?_
   rintro e w6 ⟨er, rfl, her, hpost⟩
   rw [HW.out] at her
   subst her
   obtain ⟨hne, -⟩ | ⟨-, nv, dvv, dcv, ht6⟩ := hpost
   · exact absurd rfl hne
   have HSY2 := Lib.hid (HSY.out nv dvv dcv)
   obtain ⟨D1, hD1⟩ : ∃ D1, D1 = wrD D (sfn s.nm 0) 0 (Fr.FrM.frameOf (enc (slotE s v))) nv dvv dcv := ⟨_, rfl⟩
   rw [← hD1] at ht6 HSY2
   have HD1 := Lib.hid hD1
   clear hD1
   have HT6 := Lib.hid ((Turned.of_below HD.out (below_go HB4.out HB5.out)).trans ht6)
   have c06 := HT6.out.only.cell hpd c0
   have HS6 := Lib.hid (HS.out.only HT6.out.only hpd)
   clear ht6
   refine HK.out _ _ c06 ?_
   clear HK
   iterate 1
    first
    | (
     refine m_take (v := ?_) rfl rfl ?_ ?_
     rotate_left
     ·
      intro W hW
      go_simp
      with_reducible rfl
     simp only [Act.put, List.setIfInBounds_toArray, List.set_cons_zero, List.set_cons_succ])
    | (
     refine m_skip rfl rfl ?_
     simp only [Act.put, List.setIfInBounds_toArray, List.set_cons_zero, List.set_cons_succ])
   refine m_done ?_
   simp only [List.drop_succ_cons, List.drop_zero]
   go_upto_region 14 with fail
   simp only [NP]
   go_upto_region 14 with fail
   refine region_m [(0, false), (1, false), (2, false), (3, false), (4, false), (5, false), (6, true), (7, true), (8, false)] 9 (fun V => V.cell? ⟨p, 0, none⟩ = some (.pointer (some ⟨d, 0, none⟩))) (by kernel_rfl) (by kernel_rfl) c06 ?_
   iterate 6
    first
    | (
     refine m_take (v := ?_) rfl rfl ?_ ?_
     rotate_left
     ·
      intro W hW
      go_simp
      with_reducible rfl
     simp only [Act.put, List.setIfInBounds_toArray, List.set_cons_zero, List.set_cons_succ])
    | (
     refine m_skip rfl rfl ?_
     simp only [Act.put, List.setIfInBounds_toArray, List.set_cons_zero, List.set_cons_succ])
   refine m_loud rfl (fun K hK => ?_)
   have HK := Lib.hid hK
   clear hK
   go_simp
   refine (sfile_calls B p d s 0 HTL.out _ (HS6.out.below (Below.refl _ _).drew) hnm).mono ?_
   rintro e w7 ⟨rfl, hb7⟩
   have hb7 : Below w6.heap.size w6 w7 := ((Below.refl w6.heap.size w6).drew).trans hb7
   have HT7 := Lib.hid (HT6.out.below hb7)
   refine HK.out _ _ (cell_later hb7 c06) ?_
   clear HK
   refine m_loud rfl (fun K hK => ?_)
   have HK := Lib.hid hK
   clear hK
   go_simp
   refine (dsync_calls d Bd D1 (sfn s.nm 0) w7 HT7.out.is (by rw [HNS.out]; omega) HSY2.out.2.1 HSY2.out.2.2).mono ?_
   rintro e w8 ⟨er, rfl, her, hpost⟩
   rw [HSY2.out.1] at her
   subst her
   obtain ⟨hne, -⟩ | ⟨-, cv2, v2, ht8⟩ := hpost
   · exact absurd rfl hne
   have HT8 := Lib.hid (HT7.out.trans ht8)
   have HS8 := Lib.hid (HS.out.only HT8.out.only hpd)
   obtain ⟨c08, c18, c28, c38, c48, c58, fz⟩ := HS8.out.at
   have f2 := fz 2
   have f3 := fz 3
   have f4 := fz 4
   clear fz ht8 hb7 c06 c0' hb5
   refine HK.out _ _ c08 ?_
   clear HK
   iterate 1
    first
    | (
     refine m_take (v := ?_) rfl rfl ?_ ?_
     rotate_left
     ·
      intro W hW
      go_simp
      with_reducible rfl
     simp only [Act.put, List.setIfInBounds_toArray, List.set_cons_zero, List.set_cons_succ])
    | (
     refine m_skip rfl rfl ?_
     simp only [Act.put, List.setIfInBounds_toArray, List.set_cons_zero, List.set_cons_succ])
   refine m_done ?_
   simp only [List.drop_succ_cons, List.drop_zero]
   go_wp2_with fail
   simp only [NP]
   go_wp2_with fail
   go_ret
   refine ⟨rfl, nv, dvv, dcv, cv2, v2, ?_⟩
   rw [HTT.out, ← HD1.out]
   have st2 := World.ownsRow.stored HS8.out 2 (.string v)
   have st3 := World.ownsRow.stored st2.1 3 (.int .i64 ((s.ver : Int) + 1))
   have st4 := World.ownsRow.stored st3.1 4 (.int .i64 (0 : Nat))
   have hon := ((HT8.out.only.weak (T := fun j => D.foot d j ∨ j = p) (fun j _ h => .inl h)).setCell ⟨p, 2, none⟩ (.string v) (.inl (.inr rfl))).setCell ⟨p, 3, none⟩ (.int .i64 ((s.ver : Int) + 1)) (.inl (.inr rfl)) |>.setCell ⟨p, 4, none⟩ (.int .i64 (0 : Nat)) (.inl (.inr rfl))
   have hpl := HS.out.lt.2
   have hst : Only (fun j => j = p) w8 (((w8.setCell ⟨p, 2, none⟩ (.string v)).setCell ⟨p, 3, none⟩ (.int .i64 ((s.ver : Int) + 1))).setCell ⟨p, 4, none⟩ (.int .i64 (0 : Nat))) := (((Only.refl (fun j => j = p) w8).setCell ⟨p, 2, none⟩ _ (.inl rfl)).setCell ⟨p, 3, none⟩ _ (.inl rfl)).setCell ⟨p, 4, none⟩ _ (.inl rfl)
   have hnf : ∀ j, j = p → ¬ (syD D1 (sfn s.nm 0) cv2 v2).foot d j := fun j e hf => (HT8.out.foot j hf).elim (fun h => hpd (e ▸ h)) (fun h => by omega)
   refine ⟨?_, HT8.out.is.only hst hnf (fun j e hu => absurd (IsT.eq (IsT.of_own HS8.out (j := p) rfl) (show IsT 5 w8 p from e ▸ hu)) (by decide)), hon, HT8.out.foot⟩
   rw [HPS.out]
   exact st4.1
end Go.Proofs.Ytmafnjidhjabgaa
namespace Go.Proofs.Ytmafnjidhjabgaa
open Go.RowKit Go.Shelf
set_option linter.unusedVariables false
set_option linter.unusedSectionVars false
set_option linter.unusedSimpArgs false
set_option maxRecDepth 100000
variable [Inhabited Pgs]
def iL (is : List Itc) : Itc := .mk 2 0 nos is
def nodeE (es : List KV) (ks : List Int) : List Itc := [iL (es.map fun e => iT (bstr e.1)), iL (es.map fun e => iT (bstr e.2)), iL (ks.map iI)]
theorem nodeE_ok {es : List KV} {ks : List Int} (he : ∀ e ∈ es, e.1.length ≤ 4096 ∧ e.2.length ≤ 4096) (hk : ∀ k ∈ ks, -9223372036854775808 ≤ k ∧ k ≤ 9223372036854775807) : ∀ i ∈ nodeE es ks, okI 8 i := by
 intro i hi
 simp only [nodeE, List.mem_cons, List.not_mem_nil, or_false] at hi
 rcases hi with rfl | rfl | rfl
 ·
  refine .inr (.inr ⟨rfl, rfl, rfl, fun i hi => ?_⟩)
  obtain ⟨e, h, rfl⟩ := List.mem_map.1 hi
  exact .inr (.inl ⟨rfl, rfl, by have := (he e h).1; show e.1.toArray.size ≤ 65536; simp; omega, rfl⟩)
 ·
  refine .inr (.inr ⟨rfl, rfl, rfl, fun i hi => ?_⟩)
  obtain ⟨e, h, rfl⟩ := List.mem_map.1 hi
  exact .inr (.inl ⟨rfl, rfl, by have := (he e h).2; show e.2.toArray.size ≤ 65536; simp; omega, rfl⟩)
 ·
  refine .inr (.inr ⟨rfl, rfl, rfl, fun i hi => ?_⟩)
  obtain ⟨k, h, rfl⟩ := List.mem_map.1 hi
  exact .inl ⟨rfl, hk k h, rfl, rfl⟩
theorem sum_ones {α : Type} (f : α → Nat) : ∀ l : List α, (∀ x ∈ l, f x = 1) → (l.map f).sum = l.length
 | [], _ => rfl
 | x :: l, h => by
  rw [List.map_cons, List.sum_cons, h x (by simp), sum_ones f l (fun y hy => h y (by simp [hy])), List.length_cons]
  omega
theorem nodeE_sum (es : List KV) (ks : List Int) : ((nodeE es ks).map (szI 8)).sum = 3 + 2 * es.length + ks.length := by
 have h1 : ((es.map fun e => iT (bstr e.1)).map (szI 7)).sum = es.length := by
  rw [sum_ones _ _ (fun x hx => by obtain ⟨e, -, rfl⟩ := List.mem_map.1 hx; rfl), List.length_map]
 have h2 : ((es.map fun e => iT (bstr e.2)).map (szI 7)).sum = es.length := by
  rw [sum_ones _ _ (fun x hx => by obtain ⟨e, -, rfl⟩ := List.mem_map.1 hx; rfl), List.length_map]
 have h3 : ((ks.map iI).map (szI 7)).sum = ks.length := by
  rw [sum_ones _ _ (fun x hx => by obtain ⟨e, -, rfl⟩ := List.mem_map.1 hx; rfl), List.length_map]
 show (1 + ((es.map fun e => iT (bstr e.1)).map (szI 7)).sum) + ((1 + ((es.map fun e => iT (bstr e.2)).map (szI 7)).sum) + ((1 + ((ks.map iI).map (szI 7)).sum) + 0)) = _
 rw [h1, h2, h3]
 omega
theorem flatMap_le {α : Type} (f : α → List UInt8) (m : Nat) : ∀ l : List α, (∀ x ∈ l, (f x).length ≤ m) → (l.flatMap f).length ≤ l.length * m
 | [], _ => by simp
 | x :: l, h => by
  rw [List.flatMap_cons, List.length_append, List.length_cons, Nat.add_mul, Nat.one_mul]
  have h1 := h x (by simp)
  have h2 := flatMap_le f m l (fun y hy => h y (by simp [hy]))
  omega
theorem enc_text_len {d : Nat} {s : ByteArray} (hs : s.size ≤ 4096) : (encI (d + 1) (iT s)).length ≤ 4108 := by
 have h := num_len s.size
 have e : s.data.toList.length = s.size := by rw [Array.length_toList]; rfl
 show (UInt8.ofNat (1 : Int).toNat :: (if (1 : Int) = 0 then num (zig 0) else if (1 : Int) = 1 then num s.size ++ s.data.toList else _)).length ≤ _
 rw [if_neg (by decide), if_pos rfl, List.length_cons, List.length_append, e]
 omega
theorem enc_int_len {d : Nat} (n : Int) : (encI (d + 1) (iI n)).length ≤ 12 := by
 have h := num_len (zig n)
 show (UInt8.ofNat (0 : Int).toNat :: (if (0 : Int) = 0 then num (zig n) else _)).length ≤ _
 rw [if_pos rfl, List.length_cons]
 omega
theorem enc_list_len {d : Nat} (l : List Itc) (m : Nat) (h : ∀ x ∈ l, (encI d x).length ≤ m) : (encI (d + 1) (iL l)).length ≤ 12 + l.length * m := by
 have h1 := num_len l.length
 have h2 := flatMap_le (encI d) m l h
 show (UInt8.ofNat (2 : Int).toNat :: (if (2 : Int) = 0 then num (zig 0) else if (2 : Int) = 1 then num nos.size ++ nos.data.toList else num l.length ++ l.flatMap (encI d))).length ≤ _
 rw [if_neg (by decide), if_neg (by decide), List.length_cons, List.length_append]
 omega
theorem nodeE_len {es : List KV} {ks : List Int} (he : ∀ e ∈ es, e.1.length ≤ 4096 ∧ e.2.length ≤ 4096) (h7 : es.length ≤ 7) (hk : ks.length ≤ 8) : (enc (nodeE es ks)).length ≤ 65536 := by
 have h1 := enc_list_len (d := 7) (es.map fun e => iT (bstr e.1)) 4108 (fun x hx => by
  obtain ⟨e, h, rfl⟩ := List.mem_map.1 hx
  exact enc_text_len (by have := (he e h).1; show e.1.toArray.size ≤ 4096; simp; omega))
 have h2 := enc_list_len (d := 7) (es.map fun e => iT (bstr e.2)) 4108 (fun x hx => by
  obtain ⟨e, h, rfl⟩ := List.mem_map.1 hx
  exact enc_text_len (by have := (he e h).2; show e.2.toArray.size ≤ 4096; simp; omega))
 have h3 := enc_list_len (d := 7) (ks.map iI) 12 (fun x hx => by
  obtain ⟨e, h, rfl⟩ := List.mem_map.1 hx
  exact enc_int_len e)
 rw [List.length_map] at h1 h2 h3
 show (encI (7 + 1) _ ++ (encI (7 + 1) _ ++ (encI (7 + 1) _ ++ []))).length ≤ _
 rw [List.length_append, List.length_append, List.length_append, List.length_nil]
 omega
def tIv (s : Str) : Iv := ⟨iT (bstr s), .slice none 0 0⟩
def tRow (xs : List Str) : List Value := flatF Iv.cells (xs.map tIv)
theorem tRow_snoc (xs : List Str) (s : Str) : tRow (xs ++ [s]) = tRow xs ++ Iv.cells (tIv s) := by simp [tRow, flatF]
def nIv (n : Int) : Iv := ⟨iI n, .slice none 0 0⟩
def nRow (xs : List Int) : List Value := flatF Iv.cells (xs.map nIv)
theorem plain_its {w : World} {B d n : Nat} {v : Value} {xs : List Iv} (h : w.ownsRow B 72 4 v n (flatF Iv.cells xs)) (hn : n = xs.length) (hx : ∀ x ∈ xs, x.v = .slice none 0 0 ∧ x.c.l = []) : Its w (d + 1) v (xs.map Iv.c) := by
 subst hn
 refine ⟨xs, rfl, Rd.of_own h, fun a n c e _ => ?_, fun x hxm => ?_⟩
 ·
  have := World.ownsRow.lt h a.block (by rw [e]; rfl)
  exact this.2
 ·
  obtain ⟨h1, h2⟩ := hx x hxm
  rw [h1, h2]
  exact ItR.nil _ _ _
theorem tRow_its {w : World} {B d : Nat} {v : Value} {ss : List Str} (h : w.ownsRow B 72 4 v ss.length (tRow ss)) : Its w (d + 1) v (ss.map fun s => iT (bstr s)) := by
 have := plain_its (d := d) (xs := ss.map tIv) h (by simp) (fun x hx => by obtain ⟨s, -, rfl⟩ := List.mem_map.1 hx; exact ⟨rfl, rfl⟩)
 rw [List.map_map] at this
 exact this
theorem nRow_its {w : World} {B d : Nat} {v : Value} {ns : List Int} (h : w.ownsRow B 72 4 v ns.length (nRow ns)) : Its w (d + 1) v (ns.map iI) := by
 have := plain_its (d := d) (xs := ns.map nIv) h (by simp) (fun x hx => by obtain ⟨s, -, rfl⟩ := List.mem_map.1 hx; exact ⟨rfl, rfl⟩)
 rw [List.map_map] at this
 exact this
theorem lit_its {w W1 : World} (d : Nat) (xs : List Iv) (hn : xs.length ≤ 1000) (hx : ∀ x ∈ xs, Its w d x.v x.c.l) (hW : W1 = w.alloc (.cells (flatF Iv.cells xs).toArray 72)) :
  Its W1 (d + 1) (.slice (some ⟨w.heap.size, 0, none⟩) xs.length xs.length) (xs.map Iv.c) := by
 have hr := Rd.lit (w := w) (cs := (flatF Iv.cells xs).toArray) (e := 72) (n := xs.length) (sz := 4) (by simp only [List.size_toArray]; rw [flatF_length iv4]) (by omega)
 rw [← hW] at hr
 refine ⟨xs, rfl, by simpa using hr, fun a n c e _ => ?_, fun x h => ?_⟩
 ·
  simp only [Value.slice.injEq, Option.some.injEq] at e
  obtain ⟨rfl, -, -⟩ := e
  show w.heap.size < W1.heap.size
  rw [hW]; simp
 ·
  rw [hW]
  exact (hx x h).below (below_alloc w _)
end Go.Proofs.Ytmafnjidhjabgaa
namespace Go.Proofs.Ytmafnjidhjabgaa
set_option linter.unusedSectionVars false
variable [Inhabited Pgs]
theorem wr_well {D : Dk} {nm : ByteArray} {at_ : Nat} {ys : List UInt8} (h1 : D.fails = false) (h2 : goodNm nm.data.toList = true) (h3 : at_ ≤ (fileOf D.now nm).length) (h4 : (usedOf D.now : Int) + ys.length ≤ D.room) : wrE D nm at_ ys = 0 := by
 have hr : rdyE D nm at_ = 0 := by
  unfold rdyE
  rw [h1, h2]
  simp
 unfold wrE
 rw [hr, if_neg (by simp), if_neg (by omega), if_neg (by omega)]
theorem sy_well {D : Dk} {nm : ByteArray} (h1 : D.fails = false) (h2 : goodNm nm.data.toList = true) (h : (mget D.now nm).isSome = true) : syE D nm = 0 := by
 have hr : rdyE D nm 0 = 0 := by
  unfold rdyE
  rw [h1, h2]
  simp
 unfold syE
 rw [hr, if_neg (by simp), if_neg]
 rintro ⟨h3, -⟩
 rw [Option.isNone_iff_eq_none] at h3
 rw [h3] at h
 cases h
theorem sy_wr_well {D : Dk} {nm : ByteArray} {at_ : Nat} {ys : List UInt8} {nv dv cv : Value} (h1 : D.fails = false) (h2 : goodNm nm.data.toList = true) : syE (wrD D nm at_ ys nv dv cv) nm = 0 := by
 refine sy_well h1 h2 ?_
 show (mget (mput D.now nm _) nm).isSome = true
 rw [mget_put_same]
 rfl
end Go.Proofs.Ytmafnjidhjabgaa
namespace Go.Proofs.Ytmafnjidhjabgaa
open Go.RowKit Go.Shelf
set_option linter.unusedVariables false
set_option linter.unusedSectionVars false
set_option linter.unusedSimpArgs false
set_option maxRecDepth 100000
variable [Inhabited Pgs]
abbrev Rt := Int × Option Addr
def Rt.cells (r : Rt) : List Value := [.int .i64 r.1, .pointer r.2]
theorem rt2 (r : Rt) : (Rt.cells r).length = 2 := rfl
theorem tyRoots : STy Try.prog 62 81 (.agg #[.int .i64 0, .pointer none]) 2 16 := .of Try.underlying62 (by kernel_rfl) rfl (by omega)
theorem rts_one (rs : List Rt) : ∀ u ∈ flatF Rt.cells rs, u.oneCell' = true := by
 intro u hu
 obtain ⟨x, hx, hu⟩ := List.mem_flatMap.1 hu
 simp only [Rt.cells, List.mem_cons, List.not_mem_nil, or_false] at hu
 rcases hu with rfl | rfl <;> rfl
set_option maxHeartbeats 400000 in
theorem clR_calls (v : Value) (n : Nat) (cs : List Value) (w : World) (hv : Rd w 2 v n cs) (h1 : ∀ u ∈ cs, u.oneCell' = true) (hl : n ≤ 2000000) :
  Calls Try.prog 41 #[v] w fun e w' => ∃ v', e = .returned v' ∧ w'.ownsRow w.heap.size 81 2 v' n cs ∧ Below w.heap.size w w' := by
 have HV := Lib.hid hv
 have H1 := Lib.hid h1
 obtain ⟨a, c, rfl, hn, hle, hc, h3⟩ := hv
 clear h1
 cases a with
 | none =>
  have h0 : n = 0 := by
   rcases h3 with h3 | ⟨b, o, h, -⟩
   · omega
   · cases h
  subst h0
  have hx : cs = [] := List.eq_nil_of_length_eq_zero (by omega)
  subst hx
  clear h3 hn
  have hnil := fun (w : World) => Lib.run_eql_slice_nil (P := Try.prog) w 62 81 none 0 c 0 0 Try.underlying62
  go_enter Try.func41, Try.ntmps41
  go_wp2
  go_ret
  exact ⟨_, rfl, World.ownsRow_nil _ _ _ _, Below.refl _ _⟩
 | some x =>
  clear h3 hn
  have hnil := fun (w : World) => Lib.run_eql_slice_nil (P := Try.prog) w 62 81 (some x) n c 0 0 Try.underlying62
  have hlit := World.ownsRow_lit (base := w.heap.size) (size := 2) (e := 81) w #[] 0 (Nat.le_refl _) (by unfold maxLen; omega) (by simp)
  have hal := (Below.refl w.heap.size w).alloc (Nat.le_refl _) (.cells #[] 81)
  have HR := Lib.hid (HV.out.below hal (Nat.le_refl _))
  have HLIT := Lib.hid hlit
  have HAL := Lib.hid hal
  clear hlit hal
  go_enter Try.func41, Try.ntmps41
  go_wp2_with (at_builtin; go_loud (refine app_list tyRoots HLIT.out HR.out H1.out (by omega) (by omega) HAL.out.size rfl rfl rfl rfl ?_; intro v3 w3 hm3 hb3 hn3; obtain ⟨ga, gc, rfl⟩ := own_slice hm3))
  go_ret
  refine ⟨_, rfl, ?_, ?_⟩
  · simpa using hm3
  · exact HAL.out.grown hb3 HAL.out.size (fun j e => (World.ownsRow.lt HLIT.out j e).1)
theorem own_ne {w : World} {B B' sz sz' n n' : Nat} {e e' : TypeId} {v v' : Value} {xs xs' : List Value} (h : w.ownsRow B e sz v n xs) (k : w.ownsRow B' e' sz' v' n' xs') (he : e ≠ e') : ∀ j, v.ownBlock = some j → v'.ownBlock ≠ some j :=
 fun j hj hk => he ((IsT.of_own h hj).eq (IsT.of_own k hk))
structure BI (w : World) (N : Nat) (b iv : Value) (xs : List UInt8) (m : Nat) (ns : List Int) : Prop where
 b : w.ownsRow N 5 1 b xs.length (bvs xs)
 i : w.ownsRow N 72 4 iv m (nRow ns)
theorem BI.below {w w' : World} {N m : Nat} {b iv : Value} {xs : List UInt8} {ns : List Int} (h : BI w N b iv xs m ns) (hb : Below w.heap.size w w') : BI w' N b iv xs m ns := ⟨ownsRow_below h.b hb (Nat.le_refl _), ownsRow_below h.i hb (Nat.le_refl _)⟩
structure Pager (F : Nat → Prop) (J : Nat → List UInt8 → List Int → World → Prop) (rs : List Rt) (N size : Nat) : Prop where
 stay : ∀ i xs ats W W', J i xs ats W → Only (fun j => ¬ F j) W W' → J i xs ats W'
 told : ∀ i xs ats W, J i xs ats W → xs.length ≤ 100000000 ∧ ats.length = i ∧ ∀ a ∈ ats, -9223372036854775808 ≤ a ∧ a ≤ 9223372036854775807
 goes : ∀ (i : Nat) (hi : i < rs.length) (xs : List UInt8) (ats : List Int) (b : Value) (W : World), J i xs ats W → W.ownsRow N 5 1 b xs.length (bvs xs) → N ≤ W.heap.size →
  Calls Try.prog 65 #[.pointer (rs[i]).2, b, .int .i64 (size : Nat), .map none] W fun e w' => ∃ b' at_ ys, e = .returned (.tuple #[b', .int .i64 at_]) ∧ w'.ownsRow N 5 1 b' (xs ++ ys).length (bvs (xs ++ ys)) ∧ J (i + 1) (xs ++ ys) (ats ++ [at_]) w' ∧ Only (fun j => F j ∨ b.ownBlock = some j) W w'
def rootsE (file : Int) (rs : List Rt) (ats : List Int) : List Int := file :: (List.zipWith (fun (r : Rt) a => [r.1, a]) rs ats).flatten
theorem rootsE_snoc (file : Int) (rs : List Rt) (ats : List Int) (i : Nat) (hi : i < rs.length) (ha : ats.length = i) (a : Int) : rootsE file (rs.take (i + 1)) (ats ++ [a]) = rootsE file (rs.take i) ats ++ [(rs[i]).1, a] := by
 unfold rootsE
 rw [List.take_succ_eq_append_getElem hi, List.zipWith_append (by rw [List.length_take]; omega)]
 simp
theorem rootsE_len (file : Int) (rs : List Rt) (ats : List Int) (h : ats.length = rs.length) : (rootsE file rs ats).length = 1 + 2 * rs.length := by
 unfold rootsE
 rw [List.length_cons]
 have : ∀ (rs : List Rt) (ats : List Int), ats.length = rs.length → ((List.zipWith (fun (r : Rt) a => [r.1, a]) rs ats).flatten).length = 2 * rs.length := by
  intro rs
  induction rs with
  | nil => intro ats _; simp
  | cons r rs ih =>
   intro ats h
   cases ats with
   | nil => cases h
   | cons a ats =>
    rw [List.zipWith_cons_cons, List.flatten_cons, List.length_append, ih ats (by simpa using h), List.length_cons]
    simp
    omega
 rw [this rs ats h]
 omega
theorem rootsE_all {P : Int → Prop} {file : Int} {rs : List Rt} {ats : List Int} (h0 : P file) (h1 : ∀ r ∈ rs, P r.1) (h2 : ∀ a ∈ ats, P a) : ∀ x ∈ rootsE file rs ats, P x := by
 intro x hx
 unfold rootsE at hx
 rcases List.mem_cons.1 hx with rfl | hx
 · exact h0
 ·
  obtain ⟨l, hl, hx⟩ := List.mem_flatten.1 hx
  obtain ⟨i, hi⟩ := List.mem_iff_getElem?.1 hl
  rw [List.getElem?_zipWith] at hi
  cases hr : rs[i]? with
  | none => rw [hr] at hi; cases ha : ats[i]? <;> rw [ha] at hi <;> cases hi
  | some r =>
   cases ha : ats[i]? with
   | none => rw [hr, ha] at hi; cases hi
   | some a =>
    rw [hr, ha] at hi
    cases hi
    simp only [List.mem_cons, List.not_mem_nil, or_false] at hx
    rcases hx with rfl | rfl
    · exact h1 r (List.mem_of_getElem? hr)
    · exact h2 _ (List.mem_of_getElem? ha)
end Go.Proofs.Ytmafnjidhjabgaa
namespace Go.Proofs.Ytmafnjidhjabgaa
set_option linter.unusedSectionVars false
variable [Inhabited Pgs]
theorem used_put {k : ByteArray} {v : Value} {xs : List UInt8} : ∀ {m : Files}, usedOf (mput m k (v, xs)) + (fileOf m k).length = usedOf m + xs.length
 | [] => by simp [mput, usedOf, fileOf, mget]
 | p :: m => by
  have ih := used_put (k := k) (v := v) (xs := xs) (m := m)
  unfold mput fileOf mget
  unfold fileOf at ih
  have e : usedOf (p :: m) = p.2.2.length + usedOf m := by simp [usedOf]
  split
  ·
   rw [e]
   simp [usedOf]
   omega
  ·
   have e2 : usedOf (p :: mput m k (v, xs)) = p.2.2.length + usedOf (mput m k (v, xs)) := by simp [usedOf]
   rw [e, e2]
   omega
theorem file_le {k : ByteArray} {m : Files} : (fileOf m k).length ≤ usedOf m := by
 have := used_put (k := k) (v := .slice none 0 0) (xs := []) (m := m)
 simp only [List.length_nil] at this
 omega
structure Fit (D : Dk) (need : Nat) : Prop where
 ok : D.fails = false
 room : (usedOf D.now : Int) + need ≤ D.room
 top : D.room ≤ 1073741824
 chg : D.chg.length ≤ 900000
theorem Fit.mono {D : Dk} {n m : Nat} (h : Fit D n) (hm : m ≤ n) : Fit D m := ⟨h.ok, by have := h.room; omega, h.top, h.chg⟩
theorem Fit.file {D : Dk} {n : Nat} (h : Fit D n) (nm : ByteArray) : (fileOf D.now nm).length ≤ 1099511627776 := by
 have h1 := file_le (k := nm) (m := D.now)
 have h2 := h.room
 have h3 := h.top
 omega
theorem Fit.used {D : Dk} {n : Nat} (h : Fit D n) : usedOf D.now ≤ 1152921504606846976 := by
 have h2 := h.room
 have h3 := h.top
 omega
theorem Fit.r0 {D : Dk} {n : Nat} (h : Fit D n) : 0 ≤ D.room := by have := h.room; omega
theorem Fit.r1 {D : Dk} {n : Nat} (h : Fit D n) : D.room ≤ 1152921504606846976 := by have := h.top; omega
theorem Fit.c1 {D : Dk} {n : Nat} (h : Fit D n) : D.chg.length ≤ 1000000 := by have := h.chg; omega
theorem Fit.wrE {D : Dk} {n at_ : Nat} {ys : List UInt8} {nm : ByteArray} (h : Fit D n) (hy : ys.length ≤ n) (hn : goodNm nm.data.toList = true) (ha : at_ ≤ (fileOf D.now nm).length) : Proofs.Ytmafnjidhjabgaa.wrE D nm at_ ys = 0 :=
 wr_well h.ok hn ha (by have := h.room; omega)
theorem Fit.wr {D : Dk} {n at_ : Nat} {ys : List UInt8} {nm : ByteArray} (h : Fit D n) (hy : ys.length ≤ n) (ha : at_ ≤ (fileOf D.now nm).length) (hc : D.chg.length < 900000) (nv dv cv : Value) : Fit (wrD D nm at_ ys nv dv cv) (n - ys.length) := by
 have h1 := used_put (k := nm) (v := nv) (xs := wrt (fileOf D.now nm) ys at_) (m := D.now)
 have h2 := wrt_len (xs := fileOf D.now nm) (ys := ys) ha
 have hr := h.room
 refine ⟨h.ok, ?_, h.top, ?_⟩
 ·
  show (usedOf (mput D.now nm (nv, wrt (fileOf D.now nm) ys at_)) : Int) + ((n - ys.length : Nat) : Int) ≤ D.room
  omega
 ·
  show (D.chg ++ [_]).length ≤ _
  rw [List.length_append, List.length_singleton]
  omega
theorem Fit.sy {D : Dk} {n : Nat} (h : Fit D n) (nm : ByteArray) (cv v : Value) : Fit (syD D nm cv v) n := by
 have hl : (D.chg.filter (fun c => !isNm nm c)).length ≤ D.chg.length := List.length_filter_le _ _
 have hc := h.chg
 refine ⟨h.ok, h.room, h.top, ?_⟩
 ·
  show (D.chg.filter (fun c => !isNm nm c)).length ≤ _
  omega
theorem Fit.slot {D : Dk} {n : Nat} {ys : List UInt8} {nm : ByteArray} (h : Fit D n) (hy : ys.length ≤ n) (hn : goodNm nm.data.toList = true) (hc : D.chg.length < 900000) : ∀ nv dv cv, syE (wrD D nm 0 ys nv dv cv) nm = 0 ∧ (fileOf (wrD D nm 0 ys nv dv cv).now nm).length ≤ 1099511627776 ∧ (wrD D nm 0 ys nv dv cv).chg.length ≤ 1000000 := fun nv dv cv =>
 ⟨sy_wr_well h.ok hn, (h.wr hy (Nat.zero_le _) hc nv dv cv).file nm, (h.wr hy (Nat.zero_le _) hc nv dv cv).c1⟩
theorem rows_int_len : ∀ ns : List Int, (enc (ns.map iI)).length ≤ 12 * ns.length
 | [] => by simp [enc]
 | n :: ns => by
  have h1 := num_len (zig n)
  have h2 := rows_int_len ns
  have e : encI (7 + 1) (iI n) = UInt8.ofNat (0 : Int).toNat :: num (zig n) := rfl
  show (encI (7 + 1) (iI n) ++ enc (ns.map iI)).length ≤ _
  rw [List.length_append, e, List.length_cons, List.length_cons]
  omega
theorem slotE_len (s : Sl) (v : ByteArray) : (enc (slotE s v)).length ≤ 24 + v.size := by
 have h1 := num_len (zig ((s.ver : Int) + 1))
 have h2 := num_len v.size
 have e : v.data.toList.length = v.size := by rw [Array.length_toList]; rfl
 show ((UInt8.ofNat (0 : Int).toNat :: num (zig ((s.ver : Int) + 1))) ++ ((UInt8.ofNat (1 : Int).toNat :: (num v.size ++ v.data.toList)) ++ [])).length ≤ _
 simp only [List.length_append, List.length_cons, List.length_nil]
 omega
end Go.Proofs.Ytmafnjidhjabgaa
namespace Go.Proofs.Ytmafnjidhjabgaa
open Go.RowKit Go.Shelf
set_option linter.unusedVariables false
set_option linter.unusedSectionVars false
set_option linter.unusedSimpArgs false
set_option maxRecDepth 100000
variable [Inhabited Pgs]
theorem nRow_two (ns : List Int) (a b : Int) : nRow (ns ++ [a, b]) = nRow ns ++ flatF Iv.cells [nIv a, nIv b] := by simp [nRow, flatF]
def SaveD (D D1 : Dk) (fn : ByteArray) (size : Nat) (xs : List UInt8) : Prop := (xs = [] ∧ D1 = D) ∨ (xs ≠ [] ∧ ∃ nv dv cv cv2 v2, D1 = syD (wrD D fn size xs nv dv cv) fn cv2 v2)
structure SaveR (F : Nat → Prop) (w w' : World) (B T d Bd Bs : Nat) (t : Tr) (s : Sl) (D : Dk) (rv : Value) (xs : List UInt8) (tx : ByteArray) (D' : Dk) : Prop where
 tree : TrAt w' B T d { t with rv := rv, size := t.size + xs.length }
 slot : SlotAt w' Bs t.sl d (putSl s tx)
 disk : DiskAt w' Bd d D'
 only : Only (fun j => F j ∨ D.foot d j ∨ j = t.sl ∨ j = T) w w'
 foot : ∀ j, D'.foot d j → D.foot d j ∨ w.heap.size ≤ j
 on : ∃ D1, SaveD D D1 (tfn t.nm t.file) t.size xs ∧ ∃ nv dv cv cv2 v2, D' = syD (wrD D1 (sfn s.nm (toOf s)) 0 (Fr.FrM.frameOf (enc (slotE s tx))) nv dv cv) (sfn s.nm (toOf s)) cv2 v2
set_option maxHeartbeats 8000000 in
theorem save_calls (F : Nat → Prop) (J : Nat → List UInt8 → List Int → World → Prop) (T d Bd B Bs : Nat) (t : Tr) (s : Sl) (D : Dk) (rv : Value) (rs : List Rt) (w : World)
  (ht : TrAt w B T d t) (hs : SlotAt w Bs t.sl d s) (hd : DiskAt w Bd d D) (hF : ∀ j, F j → j < w.heap.size) (hTF : ¬ F T) (hsF : ¬ F t.sl) (hdF : ∀ j, F j → ¬ D.foot d j) (hFu : ∀ j, F j → ¬ IsU8 w j)
  (hrv : Rd w 2 rv rs.length (flatF Rt.cells rs)) (hrF : ∀ a n c, rv = .slice (some a) n c → ¬ F a.block) (hn : rs.length ≤ 64) (htag : ∀ r ∈ rs, -9223372036854775808 ≤ r.1 ∧ r.1 ≤ 9223372036854775807)
  (HP : Pager F J rs w.heap.size t.size) (hJ : J 0 [] [] w) (hfile : t.file < 2)
  (M : Nat) (hM : ∀ i xs ats W, J i xs ats W → xs.length ≤ M) (hfit : Fit D (M + 2000)) (hchg : D.chg.length ≤ 800000) (hsz : t.size ≤ (fileOf D.now (tfn t.nm t.file)).length) (hTd : ¬ D.foot d T) (hsd : ¬ D.foot d t.sl) (hTs : T ≠ t.sl)
  (hnm : t.nm.size ≤ 10) (hsn : s.nm.size ≤ 10) (hsb : s.broken = false) (hver : s.ver ≤ 1000000000) (hg1 : goodNm (tfn t.nm t.file).data.toList = true) (hg2 : goodNm (sfn s.nm (toOf s)).data.toList = true) :
  Calls Try.prog 42 #[.pointer (some ⟨T, 0, none⟩), rv, .bool false] w fun e w' => e = .returned (.int .i64 0) ∧ ∃ xs ats, J rs.length xs ats w' ∧ ∃ D', SaveR F w w' B T d Bd Bs t s D rv xs (bstr (enc ((rootsE (t.file : Nat) rs ats).map iI))) D' := by
 obtain ⟨ra, rc, rfl, hrc1, hrc2⟩ := Rd.slice hrv
 have HT := Lib.hid ht
 have HS := Lib.hid hs
 have HD := Lib.hid hd
 have HFF := Lib.hid hF
 have HX := Lib.hid (And.intro hTF (And.intro hsF (And.intro hdF hFu)))
 have HRV := Lib.hid hrv
 have HRF := Lib.hid hrF
 have HTG := Lib.hid htag
 have HJ := Lib.hid hJ
 have HFL := Lib.hid hfile
 have hPg := Lib.hid HP
 have HM := Lib.hid hM
 have HFI := Lib.hid (And.intro hfit hchg)
 have HSZ := Lib.hid hsz
 have HND := Lib.hid (And.intro hTd (And.intro hsd hTs))
 have HSL := Lib.hid (And.intro hsb (And.intro hver (And.intro hg1 hg2)))
 obtain ⟨c0, c1, c2, c3, c4, -, -, -, -⟩ := ht.at
 have hTl := ht.lt.2
 clear ht hs hd hF hTF hsF hdF hFu hrv hrF htag hJ hfile HP hM hfit hchg hsz hTd hsd hTs hsb hver hg1 hg2
 have qE : ∀ (w : World) (r : Option Nat), (binOp .eql 127 (.map r) (.map none)).run Try.prog w = .ok (.bool r.isNone) w := fun w r => run_eql_map_nil w _ _ _ r Try.underlying127
 go_enter Try.func42, Try.ntmps42
 go_upto_region 1 with fail
 refine region_m [(0, false), (1, false), (2, false), (3, false), (4, false), (5, false), (6, false), (7, false), (8, false), (9, false)] 10 (fun V => V.cell? ⟨T, 3, none⟩ = some (.int .i64 (t.file : Nat)) ∧ V.cell? ⟨T, 4, none⟩ = some (.int .i64 (t.size : Nat))) (by kernel_rfl) (by kernel_rfl) ⟨c3, c4⟩ ?_
 iterate 10
  first
  | (
    refine m_take (v := ?_) rfl rfl ?_ ?_
    rotate_left
    ·
      intro W hW
      go_simp
      with_reducible rfl
    simp only [Act.put, List.setIfInBounds_toArray, List.set_cons_zero, List.set_cons_succ])
  | (
    refine m_skip rfl rfl ?_
    simp only [Act.put, List.setIfInBounds_toArray, List.set_cons_zero, List.set_cons_succ])
 refine m_done ?_
 simp only [List.drop_succ_cons, List.drop_zero]
 go_wp2_with fail
 simp only [NP]
 go_wp2_with fail
 refine (wint_calls _ _).mono ?_
 rintro e w1 ⟨rfl, hb1⟩
 have hb1 : Below w.heap.size w w1 := ((Below.refl w.heap.size w).drew).trans hb1
 have hlit := World.ownsRow_lit (base := w.heap.size) (size := 4) (e := 72) w1 #[.int .i64 0, .int .i64 (t.file : Nat), .string nos, .slice none 0 0] 1 hb1.size (by unfold maxLen; omega) rfl
 have HBI := Lib.hid (show BI (w1.alloc (.cells #[.int .i64 0, .int .i64 (t.file : Nat), .string nos, .slice none 0 0] 72)) w.heap.size (.slice none 0 0) (.slice (some ⟨w1.heap.size, 0, none⟩) 1 1) [] 1 (rootsE (t.file : Nat) (rs.take 0) []) from ⟨World.ownsRow_nil _ _ _ _, hlit⟩)
 have HB1 := Lib.hid (below_box hb1 (.cells #[.int .i64 0, .int .i64 (t.file : Nat), .string nos, .slice none 0 0] 72))
 clear hlit hb1
 go_wp2_with fail
 go_loopw [10, 11, 13, 14, 43] (fun bv iv _ _ jv wr => ∃ (j : Nat) (xs : List UInt8) (ats : List Int), j ≤ rs.length ∧ jv = .int .i64 (j : Nat) ∧ BI wr w.heap.size bv iv xs (1 + 2 * j) (rootsE (t.file : Nat) (rs.take j) ats) ∧ J j xs ats wr ∧ Only F w wr) (fun _ _ _ _ jv _ => rs.length - (intOf jv).toNat)
 case atStart => exact ⟨0, [], [], by omega, rfl, HBI.out, hPg.out.stay _ _ _ _ _ HJ.out (Only.of_below HB1.out), Only.of_below HB1.out⟩
 case round =>
  obtain ⟨j, xs, ats, hj, rfl, hbi, hjj, ho⟩ := hrel
  clear HBI HB1
  have hsb := ho.size
  have HBI := Lib.hid hbi
  have HJ := Lib.hid hjj
  have HO := Lib.hid ho
  obtain ⟨ba, bc, rfl⟩ := own_slice hbi.b
  obtain ⟨ia, ic, rfl⟩ := own_slice hbi.i
  clear hbi hjj ho
  by_cases hlt : j < rs.length
  ·
   obtain ⟨rb, ro, rfl, hce⟩ := rdF_at (k := 2) rt2 HRV.out j hlt
   have hnF : ¬ F rb := HRF.out _ _ _ rfl
   have r0 := HO.out.cell hnF (hce 0 _ (by omega) rfl)
   have r1 := HO.out.cell hnF (hce 1 _ (by omega) rfl)
   have HGO := Lib.hid (hPg.out.goes j hlt xs ats)
   have HSN := Lib.hid (rootsE_snoc (t.file : Nat) rs ats j hlt (hPg.out.told _ _ _ _ HJ.out).2.1)
   generalize rs[j] = R at *
   obtain ⟨tag, nd⟩ := R
   simp only [Nat.add_zero] at r0 r1
   clear hce
   go_upto_region 11 with fail
   have hal := below_alloc wr (.cells #[.int .i64 tag, .pointer nd] 81)
   have b0 := box_self (w := wr) (cs := #[.int .i64 tag, .pointer nd]) (e := 81) 0 _ rfl
   have b1 := box_self (w := wr) (cs := #[.int .i64 tag, .pointer nd]) (e := 81) 1 _ rfl
   have HBI := Lib.hid (HBI.out.below hal)
   have HJ := Lib.hid (hPg.out.stay _ _ _ _ _ HJ.out (Only.of_below hal))
   have HO := Lib.hid (HO.out.trans (Only.of_below (S := fun _ => False) hal) (fun _ _ h => h.elim))
   have hNG : w.heap.size ≤ wr.heap.size := hsb
   have hs1 := HO.out.size
   have HTY := Lib.hid (show IsT 81 (wr.alloc (.cells #[.int .i64 tag, .pointer nd] 81)) wr.heap.size from ⟨_, _, World.alloc_heap_new wr _⟩)
   clear hal hsb
   generalize wr.alloc (.cells #[.int .i64 tag, .pointer nd] 81) = W1 at *
   generalize wr.heap.size = G at *
   have hGl := HTY.out.lt
   go_wp2_with fail
   refine (HGO.out _ W1 HJ.out HBI.out.b hs1).mono ?_
   rintro e w2 ⟨b', at_, ys, rfl, hb2, hj2, ho2⟩
   obtain ⟨ba2, bc2, rfl⟩ := own_slice hb2
   have hGn : ¬ (F G ∨ (Value.slice ba xs.length bc).ownBlock = some G) := by
     rintro (h | h)
     · have := HFF.out G h; omega
     · exact absurd ((IsT.of_own HBI.out.b h).eq HTY.out) (by decide)
   have b0 := ho2.cell hGn b0
   have b1 := ho2.cell hGn b1
   have HBI2 := Lib.hid (show BI w2 w.heap.size (.slice ba2 (xs ++ ys).length bc2) (.slice ia (1 + 2 * j) ic) (xs ++ ys) (1 + 2 * j) (rootsE (t.file : Nat) (rs.take j) ats) from ⟨hb2, ownsRow_only HBI.out.i ho2 (fun g hg e => by
     have hl := World.ownsRow.lt HBI.out.i g hg
     rcases e with h | h
     · have := HFF.out g h; omega
     · exact own_ne HBI.out.b HBI.out.i (by decide) g h hg)⟩)
   have HO2 := Lib.hid (HO.out.trans ho2 (fun k hk e => e.elim id (fun e => by have := (World.ownsRow.lt HBI.out.b k e).1; omega)))
   have HJ2 := Lib.hid hj2
   have hs2 := HO2.out.size
   clear hb2 hj2 ho2 HBI HJ HO HGO
   generalize xs ++ ys = zs at *
   go_wp2_with fail
   refine (wint_calls _ _).mono ?_
   rintro e w3 ⟨rfl, hb3⟩
   go_wp2_with fail
   refine (wint_calls _ _).mono ?_
   rintro e w4 ⟨rfl, hb4⟩
   have hb4 := below_go hb3 hb4
   have hal := below_box hb4 (.cells #[.int .i64 0, .int .i64 tag, .string nos, .slice none 0 0, .int .i64 0, .int .i64 at_, .string nos, .slice none 0 0] 72)
   have HLIT := Lib.hid (Rd.lit (w := w4) (cs := #[.int .i64 0, .int .i64 tag, .string nos, .slice none 0 0, .int .i64 0, .int .i64 at_, .string nos, .slice none 0 0]) (e := 72) (n := 2) (sz := 4) rfl (by omega))
   have HBI := Lib.hid (HBI2.out.below hal)
   have HJ := Lib.hid (hPg.out.stay _ _ _ _ _ HJ2.out (Only.of_below hal))
   have HO := Lib.hid (HO2.out.trans (Only.of_below (S := fun _ => False) hal) (fun _ _ h => h.elim))
   have hs4 := HO.out.size
   clear hb3 hb4 hal HBI2 HJ2 HO2
   go_upto_region 13 with (at_builtin; go_loud (refine app_keep tyItems HBI.out.i HLIT.out (by simp [Value.oneCell']) (by omega) (by omega) (by omega) hs4 rfl rfl rfl rfl ?_; intro g gcap w5 h2 h3 h4 h5; have H2 := Lib.hid h2; have H4 := Lib.hid h4; have H5 := Lib.hid h5; clear h2 h3 h4 h5))
   have ho5 : Only (fun k => (Value.slice ia (1 + 2 * j) ic).ownBlock = some k) _ w5 := Only.of_grown H4.out
   have hil := fun k e => (World.ownsRow.lt HBI.out.i k e).1
   go_wp2_with fail
   go_roundw
   case rel =>
     refine ⟨j + 1, zs, ats ++ [at_], by omega, by go_num, ⟨ownsRow_only HBI.out.b ho5 (fun g hg e => own_ne HBI.out.b HBI.out.i (by decide) g hg e), ?_⟩, hPg.out.stay _ _ _ _ _ HJ.out (ho5.weak (fun k _ e hf => by have := HFF.out k hf; have := hil k e; omega)), HO.out.trans ho5 (fun k hk e => by have := hil k e; omega)⟩
     rw [HSN.out, nRow_two]
     exact H2.out
   case measure => simp [intOf]; omega
  ·
   obtain rfl : j = rs.length := by omega
   obtain ⟨hxl, hal, har⟩ := hPg.out.told _ _ _ _ HJ.out
   have hxm := HM.out _ _ _ _ HJ.out
   rw [List.take_length] at HBI
   have hnl := rootsE_len (t.file : Nat) rs ats hal
   have hits := nRow_its (d := 7) (ns := rootsE (t.file : Nat) rs ats) (by rw [hnl]; exact HBI.out.i)
   have hrg := rootsE_all (P := fun x => -9223372036854775808 ≤ x ∧ x ≤ 9223372036854775807) (file := (t.file : Nat)) ⟨by omega, by have := HFL.out; omega⟩ HTG.out har
   have HNS := Lib.hid (rfl : rootsE (t.file : Nat) rs ats = rootsE (t.file : Nat) rs ats)
   have hel := rows_int_len (rootsE (t.file : Nat) rs ats)
   rw [hnl] at hel
   have HOK := Lib.hid (show ∀ i ∈ (rootsE (t.file : Nat) rs ats).map iI, okI 8 i from fun i hi => by
     obtain ⟨x, hx, rfl⟩ := List.mem_map.1 hi
     exact .inl ⟨rfl, hrg x hx, rfl, rfl⟩)
   have HSUM := Lib.hid (show (((rootsE (t.file : Nat) rs ats).map iI).map (szI 8)).sum ≤ 4096 by
     rw [sum_ones _ _ (fun x hx => by obtain ⟨e, -, rfl⟩ := List.mem_map.1 hx; rfl), List.length_map, hnl]; omega)
   have HITS := Lib.hid hits
   generalize hNE : (rootsE (t.file : Nat) rs ats).map iI = NE at *
   have HNE := Lib.hid hNE
   clear hnl hits hrg hal har hlt hj hNE
   go_wp2_with fail
   refine (wencode_calls _ NE _ HITS.out HOK.out HSUM.out (by omega)).mono ?_
   rintro e w2 ⟨tv, rfl, ho2, hb2⟩
   have HTX := Lib.hid (Txt.of_mine (show Mine w2 _ tv (enc NE) from ho2))
   have HJ := Lib.hid (hPg.out.stay _ _ _ _ _ HJ.out (Only.of_below hb2))
   have HO := Lib.hid (HO.out.trans (Only.of_below (S := fun _ => False) hb2) (fun _ _ h => h.elim))
   have HB := Lib.hid (Txt.of_mine (show Mine w2 _ (.slice ba xs.length bc) xs from ownsRow_below HBI.out.b hb2 (Nat.le_refl _)))
   obtain ⟨ta, tc, rfl⟩ := own_slice ho2
   clear ho2 hb2 HBI HITS HOK HSUM
   have hs2 := HO.out.size
   have c0 := HO.out.cell HX.out.1 c0
   have c1 := HO.out.cell HX.out.1 c1
   have c2 := HO.out.cell HX.out.1 c2
   have c3 := HO.out.cell HX.out.1 c3
   by_cases hx0 : xs = []
   ·
     have e1 : decide ((0 : Int) < (xs.length : Int)) = false := by rw [hx0]; rfl
     go_upto_region 21 with fail
     obtain ⟨wq, hwq⟩ : ∃ wq, wq = w2 := ⟨_, rfl⟩
     obtain ⟨D1, hD1⟩ : ∃ D1, D1 = D := ⟨_, rfl⟩
     have HQ := Lib.hid (show Turned w2 wq Bd d D D1 by rw [hwq, hD1]; exact Turned.refl (HD.out.only HO.out HX.out.2.2.1 HX.out.2.2.2))
     have HFQ := Lib.hid (show Fit D1 2000 ∧ D1.chg.length < 900000 by rw [hD1]; exact ⟨HFI.out.1.mono (by omega), by have := HFI.out.2; omega⟩)
     have HSD := Lib.hid (show SaveD D D1 (tfn t.nm t.file) t.size xs from .inl ⟨hx0, hD1⟩)
     have HD2 := Lib.hid (HD.out.only HO.out HX.out.2.2.1 HX.out.2.2.2)
     rw [← hwq]
     clear hwq hD1
     have c2q := HQ.out.only.cell HND.out.1 c2
     have HTQ := Lib.hid (HQ.out.txt HD2.out HTX.out)
     have hdq : ∀ j, D1.foot d j → D.foot d j ∨ w2.heap.size ≤ j := HQ.out.foot
     have HSQ := Lib.hid ((HS.out.only HO.out HX.out.2.1).only HQ.out.only HND.out.2.1)
     have hslt := HS.out.lt.2
     have HNF := Lib.hid (show ¬ D1.foot d t.sl from fun h => (hdq _ h).elim HND.out.2.1 (fun h => by omega))
     have HNT := Lib.hid (show ¬ D1.foot d T from fun h => (hdq _ h).elim HND.out.1 (fun h => by omega))
     clear hdq
     refine region_m [(0, false), (1, false), (2, false), (3, false), (4, false), (5, false), (6, true), (7, false)] 8 (fun V => V.cell? ⟨T, 2, none⟩ = some (.pointer (some ⟨t.sl, 0, none⟩)) ∧ Bytes V (.slice ta (enc NE).length tc) (enc NE)) (by kernel_rfl) (by kernel_rfl) ⟨cell_later (Below.refl wq.heap.size wq).drew c2q, HTQ.out.1.below (Below.refl wq.heap.size wq).drew (Nat.le_refl _)⟩ ?_
     iterate 5
       first
       | (
         refine m_take (v := ?_) rfl rfl ?_ ?_
         rotate_left
         ·
           intro W hW
           go_simp
           with_reducible rfl
         simp only [Act.put, List.setIfInBounds_toArray, List.set_cons_zero, List.set_cons_succ])
       | (
         refine m_skip rfl rfl ?_
         simp only [Act.put, List.setIfInBounds_toArray, List.set_cons_zero, List.set_cons_succ])
     refine m_bstr Try.underlying46 Try.underlying5 Try.underlying9 rfl rfl rfl rfl (fun W hW => hW.2) ?_
     simp only [Act.put, List.setIfInBounds_toArray, List.set_cons_zero, List.set_cons_succ]
     refine m_loud rfl (fun K hK => ?_)
     have HK := Lib.hid hK
     clear hK
     go_simp
     have hbl : (bstr (enc NE)).size = (enc NE).length := by show (enc NE).toArray.size = _; simp
     have hse := slotE_len s (bstr (enc NE))
     have hsf := Fr.FrM.frameOf_length (enc (slotE s (bstr (enc NE))))
     have hfq := HFQ.out.1
     refine (sput_calls Bs t.sl d Bd s D1 (bstr (enc NE)) _ (HSQ.out.below (Below.refl wq.heap.size wq).drew) HQ.out.is.drew HNF.out HSL.out.1 (by omega) HSL.out.2.1 (by omega) (by omega) (hfq.file _) hfq.used hfq.c1 hfq.r0 hfq.r1 (hfq.wrE (by omega) HSL.out.2.2.2 (Nat.zero_le _)) (hfq.slot (by omega) HSL.out.2.2.2 HFQ.out.2)).mono ?_
     rintro e w7 ⟨rfl, nv7, dv7, cv7, cvb, vb, hsp⟩
     have HSP := Lib.hid hsp
     clear hsp hbl hse hsf hfq
     have ho7 : Only (fun j => D1.foot d j ∨ j = t.sl) wq w7 := (Only.refl _ wq).drew.trans HSP.out.only (fun _ _ h => h)
     have hnt7 : ¬ (D1.foot d T ∨ T = t.sl) := fun h => h.elim HNT.out HND.out.2.2
     refine HK.out _ _ ⟨ho7.cell hnt7 c2q, (HTQ.out.only ho7 (fun j hj hu => hj.elim (fun h => HQ.out.is.foot_u8 h hu) (fun h => absurd ((IsT.of_own HSQ.out (j := j) (by rw [h]; rfl)).eq hu) (by decide)))).1⟩ ?_
     clear HK
     iterate 1
       first
       | (
         refine m_take (v := ?_) rfl rfl ?_ ?_
         rotate_left
         ·
           intro W hW
           go_simp
           with_reducible rfl
         simp only [Act.put, List.setIfInBounds_toArray, List.set_cons_zero, List.set_cons_succ])
       | (
         refine m_skip rfl rfl ?_
         simp only [Act.put, List.setIfInBounds_toArray, List.set_cons_zero, List.set_cons_succ])
     refine m_done ?_
     simp only [List.drop_succ_cons, List.drop_zero]
     have HO7 := Lib.hid ho7
     have HN7 := Lib.hid hnt7
     have HT7 := Lib.hid ((HT.out.only HO.out HX.out.1).only HQ.out.only HND.out.1 |>.only ho7 hnt7)
     clear ho7 hnt7 c2q
     obtain ⟨-, -, -, -, -, d5, -, -, fz⟩ := HT7.out.at
     have d4 := HT7.out.at.2.2.2.2.1
     have f5 := fz 5
     have f4 := fz 4
     clear fz
     have rng : ∀ w : World, (Instr.range 127 (.map none)).run Try.prog w = .ok (.pointer (some ⟨w.heap.size, 0, none⟩)) (w.alloc (.mapIter none 0 #[] 0)) := fun w => run_range_nilMap w _ _ _ Try.underlying127
     go_upto_region 26 with fail
     simp only [NP]
     go_upto_region 26 with fail
     have nxt : ∀ ty, (Instr.next (.pointer (some ⟨w7.heap.size, 0, none⟩)) false ty).run Try.prog (w7.alloc (.mapIter none 0 #[] 0)) = .ok (.tuple #[.bool false]) (w7.alloc (.mapIter none 0 #[] 0)) := fun ty => run_next_nilMap w7 ty 0 0 #[]
     clear rng
     have HB8 := Lib.hid (below_alloc w7 (.mapIter none 0 #[] 0))
     have d4 := cell_later HB8.out d4
     have d5 := cell_later HB8.out d5
     have f4 := (World.frozen?_of_block (a := ⟨T, 4, none⟩) (HB8.out.block T HT7.out.lt.2)).trans f4
     have f5 := (World.frozen?_of_block (a := ⟨T, 5, none⟩) (HB8.out.block T HT7.out.lt.2)).trans f5
     have HT8 := Lib.hid (HT7.out.below HB8.out)
     have HS8 := Lib.hid (HSP.out.slot.below HB8.out)
     have HD8 := Lib.hid (HSP.out.disk.below HB8.out)
     have HO8 := Lib.hid (HO7.out.trans (Only.of_below (S := fun _ => False) HB8.out) (fun _ _ h => h.elim))
     generalize w7.alloc (.mapIter none 0 #[] 0) = w8 at *
     generalize w7.heap.size = G8 at *
     have hts : t.size ≤ 1099511627776 := by have := HFI.out.1.file (tfn t.nm t.file); have := HSZ.out; omega
     go_loopw [18, 19] (fun _ _ wr => wr = w8) (fun _ _ _ => 0)
     case atStart => exact rfl
     case round =>
       obtain rfl : w8 = wr := hrel.symm
       go_wp2_with fail
       go_ret
       have hDF : ∀ j, D1.foot d j → D.foot d j ∨ w2.heap.size ≤ j := HQ.out.foot
       have hw2 := HO.out.size
       have hwq := HQ.out.only.size
       have hw7 := HO7.out.size
       have hsl := HS.out.lt.2
       have o8 : Only (fun j => j = T) w8 ((w8.setCell ⟨T, 5, none⟩ (.slice ra rs.length rc)).setCell ⟨T, 4, none⟩ (.int .i64 ((t.size : Int) + (xs.length : Int)))) := ((Only.refl (fun j => j = T) w8).setCell ⟨T, 5, none⟩ _ (.inl rfl)).setCell ⟨T, 4, none⟩ _ (.inl rfl)
       have o7 : Only (fun j => (D1.foot d j ∨ j = t.sl) ∨ j = T) wq ((w8.setCell ⟨T, 5, none⟩ (.slice ra rs.length rc)).setCell ⟨T, 4, none⟩ (.int .i64 ((t.size : Int) + (xs.length : Int)))) :=
        (HO8.out.weak (fun j _ h => .inl h)).trans o8 (fun j _ h => .inr h)
       have o2 : Only (fun j => D.foot d j ∨ j = t.sl ∨ j = T) w2 ((w8.setCell ⟨T, 5, none⟩ (.slice ra rs.length rc)).setCell ⟨T, 4, none⟩ (.int .i64 ((t.size : Int) + (xs.length : Int)))) :=
        (HQ.out.only.weak (fun j _ h => .inl h)).trans o7 (fun j hj h => by
          rcases h with (h | h) | h
          · exact .inl ((hDF j h).resolve_right (by omega))
          · exact .inr (.inl h)
          · exact .inr (.inr h))
       have hfinal : TrAt ((w8.setCell ⟨T, 5, none⟩ (.slice ra rs.length rc)).setCell ⟨T, 4, none⟩ (.int .i64 ((t.size : Int) + (xs.length : Int)))) B T d { t with rv := .slice ra rs.length rc, size := t.size + xs.length } := by
        have h5 : TrAt (w8.setCell ⟨T, 5, none⟩ (.slice ra rs.length rc)) B T d { t with rv := .slice ra rs.length rc } := (World.ownsRow.stored HT8.out 5 (.slice ra rs.length rc)).1
        exact h5.setSize (t.size + xs.length)
       have hSQ8 := HS8.out
       have hDQ8 := HD8.out
       have hft : ∀ j, (syD (wrD D1 (sfn s.nm (toOf s)) 0 (Fr.FrM.frameOf (enc (slotE s (bstr (enc NE))))) nv7 dv7 cv7) (sfn s.nm (toOf s)) cvb vb).foot d j → D.foot d j ∨ w.heap.size ≤ j := fun j h => (HSP.out.foot j h).elim (fun h => (hDF j h).imp id (fun h => by omega)) (fun h => .inr (by have : wq.drew.heap.size = wq.heap.size := rfl; omega))
       have hres := show SaveR F w _ B T d Bd Bs t s D (.slice ra rs.length rc) xs (bstr (enc NE)) _ from ⟨hfinal, hSQ8.only o8 (fun e => HND.out.2.2 e.symm), hDQ8.only o8 (fun j e h => (hft j h).elim (fun h => HND.out.1 (e ▸ h)) (fun h => by have := HT.out.lt.2; omega)) (fun j e hu => absurd ((IsT.of_own HT8.out (j := j) (by rw [e]; rfl)).eq hu) (by decide)),
          (HO.out.weak (fun j _ h => .inl h)).trans o2 (fun j _ h => .inr h), hft, D1, HSD.out, nv7, dv7, cv7, cvb, vb, rfl⟩
       have hJ9 := hPg.out.stay _ _ _ _ _ HJ.out (o2.weak (fun j _ h hf => by
        rcases h with h | h | h
        · exact HX.out.2.2.1 j hf h
        · exact HX.out.2.1 (h ▸ hf)
        · exact HX.out.1 (h ▸ hf)))
       rw [← HNE.out] at hres
       first
        | exact ⟨rfl, xs, ats, hJ9, _, hres⟩
        | (have z : (Value.int .i64 (t.size : Int)) = .int .i64 ((t.size : Int) + (xs.length : Int)) := by
            rw [hx0]; simp
           rw [z]
           exact ⟨rfl, xs, ats, hJ9, _, hres⟩)
   ·
     have hxp : 0 < xs.length := List.length_pos_iff.2 hx0
     have e1 : decide ((0 : Int) < (xs.length : Int)) = true := decide_eq_true (by omega)
     go_upto_region 17 with fail
     refine region_m [(0, false), (1, false), (2, false), (3, false), (4, false), (5, false), (7, false), (8, false), (6, true), (9, true), (10, false)] 11 (fun V => V.cell? ⟨T, 0, none⟩ = some (.pointer (some ⟨d, 0, none⟩))) (by kernel_rfl) (by kernel_rfl) c0 ?_
     iterate 8
       first
       | (
         refine m_take (v := ?_) rfl rfl ?_ ?_
         rotate_left
         ·
           intro W hW
           go_simp
           with_reducible rfl
         simp only [Act.put, List.setIfInBounds_toArray, List.set_cons_zero, List.set_cons_succ])
       | (
         refine m_skip rfl rfl ?_
         simp only [Act.put, List.setIfInBounds_toArray, List.set_cons_zero, List.set_cons_succ])
     refine m_loud rfl (fun K hK => ?_)
     have HK := Lib.hid hK
     clear hK
     go_simp
     refine (path_calls T t.nm t.file HFL.out _ (cell_later (Below.refl w2.heap.size w2).drew c1) (by omega)).mono ?_
     rintro e w3 ⟨rfl, hb3⟩
     have hb3 : Below w2.heap.size w2 w3 := ((Below.refl w2.heap.size w2).drew).trans hb3
     have HB3 := Lib.hid hb3
     refine HK.out _ _ (cell_later hb3 c0) ?_
     clear HK
     clear hb3
     refine m_loud rfl (fun K hK => ?_)
     have HK := Lib.hid hK
     clear hK
     go_simp
     have HD2 := Lib.hid (HD.out.only HO.out HX.out.2.2.1 HX.out.2.2.2)
     have hnz : (tfn t.nm t.file).size = t.nm.size + 2 := by
       unfold tfn
       rw [ByteArray.size_append]
       split <;> rfl
     have HNZ := Lib.hid hnz
     clear hnz
     refine (dwrite_calls d Bd D (tfn t.nm t.file) t.size _ xs w3 (HD2.out.below HB3.out) (HB.out.below HB3.out).1 (fun a n c e hf => (HD2.out.below HB3.out).foot_u8 hf ((HB.out.below HB3.out).2 a n c e)) (by rw [HNZ.out]; omega) (by have := HFI.out.1.file (tfn t.nm t.file); have := HSZ.out; omega) (by omega) (HFI.out.1.file _) HFI.out.1.used HFI.out.1.c1 HFI.out.1.r0 HFI.out.1.r1).mono ?_
     rintro e w4 ⟨er, rfl, her, hpost⟩
     have hw0 : wrE D (tfn t.nm t.file) t.size xs = 0 := HFI.out.1.wrE (by omega) HSL.out.2.2.1 HSZ.out
     rw [hw0] at her
     subst her
     obtain ⟨hne, -⟩ | ⟨-, nv, dvv, dcv, ht4⟩ := hpost
     · exact absurd rfl hne
     obtain ⟨D2, hD2⟩ : ∃ D2, D2 = wrD D (tfn t.nm t.file) t.size xs nv dvv dcv := ⟨_, rfl⟩
     have HFW := Lib.hid (show Fit D2 2000 from by rw [hD2]; exact (HFI.out.1.wr (by omega) HSZ.out (by have := HFI.out.2; omega) _ _ _).mono (by omega))
     have HSY := Lib.hid (show syE D2 (tfn t.nm t.file) = 0 by rw [hD2]; exact sy_wr_well HFI.out.1.ok HSL.out.2.2.1)
     have HCH := Lib.hid (show D2.chg.length ≤ 800001 by
       rw [hD2]
       show (D.chg ++ [_]).length ≤ _
       rw [List.length_append, List.length_singleton]
       have := HFI.out.2
       omega)
     rw [← hD2] at ht4
     have HT4 := Lib.hid ((Turned.of_below HD2.out HB3.out).trans ht4)
     have HDD := Lib.hid hD2
     clear ht4 hw0 hD2
     have c04 := HT4.out.only.cell HND.out.1 c0
     have c14 := HT4.out.only.cell HND.out.1 c1
     refine HK.out _ _ c04 ?_
     clear HK
     iterate 1
       first
       | (
         refine m_take (v := ?_) rfl rfl ?_ ?_
         rotate_left
         ·
           intro W hW
           go_simp
           with_reducible rfl
         simp only [Act.put, List.setIfInBounds_toArray, List.set_cons_zero, List.set_cons_succ])
       | (
         refine m_skip rfl rfl ?_
         simp only [Act.put, List.setIfInBounds_toArray, List.set_cons_zero, List.set_cons_succ])
     refine m_done ?_
     simp only [List.drop_succ_cons, List.drop_zero]
     go_upto_region 19 with fail
     simp only [NP]
     go_upto_region 19 with fail
     refine region_m [(0, false), (1, false), (2, false), (3, false), (4, false), (5, false), (6, true), (7, true), (8, false)] 9 (fun V => V.cell? ⟨T, 0, none⟩ = some (.pointer (some ⟨d, 0, none⟩))) (by kernel_rfl) (by kernel_rfl) c04 ?_
     iterate 6
       first
       | (
         refine m_take (v := ?_) rfl rfl ?_ ?_
         rotate_left
         ·
           intro W hW
           go_simp
           with_reducible rfl
         simp only [Act.put, List.setIfInBounds_toArray, List.set_cons_zero, List.set_cons_succ])
       | (
         refine m_skip rfl rfl ?_
         simp only [Act.put, List.setIfInBounds_toArray, List.set_cons_zero, List.set_cons_succ])
     refine m_loud rfl (fun K hK => ?_)
     have HK := Lib.hid hK
     clear hK
     go_simp
     refine (path_calls T t.nm t.file HFL.out _ (cell_later (Below.refl w4.heap.size w4).drew c14) (by omega)).mono ?_
     rintro e w5 ⟨rfl, hb5⟩
     have hb5 : Below w4.heap.size w4 w5 := ((Below.refl w4.heap.size w4).drew).trans hb5
     have HT5 := Lib.hid (HT4.out.below hb5)
     refine HK.out _ _ (cell_later hb5 c04) ?_
     clear HK
     clear hb5
     refine m_loud rfl (fun K hK => ?_)
     have HK := Lib.hid hK
     clear hK
     go_simp
     refine (dsync_calls d Bd D2 (tfn t.nm t.file) w5 HT5.out.is (by rw [HNZ.out]; omega) (HFW.out.file _) HFW.out.c1).mono ?_
     rintro e w6 ⟨er, rfl, her, hpost⟩
     rw [HSY.out] at her
     subst her
     obtain ⟨hne, -⟩ | ⟨-, cv2, v2, ht6⟩ := hpost
     · exact absurd rfl hne
     have HQ := Lib.hid (HT5.out.trans ht6)
     have HFQ := Lib.hid (show Fit (syD D2 (tfn t.nm t.file) cv2 v2) 2000 ∧ (syD D2 (tfn t.nm t.file) cv2 v2).chg.length < 900000 from ⟨HFW.out.sy _ _ _, by
       have hl : (D2.chg.filter (fun c => !isNm (tfn t.nm t.file) c)).length ≤ D2.chg.length := List.length_filter_le _ _
       have := HCH.out
       show (D2.chg.filter (fun c => !isNm (tfn t.nm t.file) c)).length < _
       omega⟩)
     have HSD := Lib.hid (show SaveD D (syD D2 (tfn t.nm t.file) cv2 v2) (tfn t.nm t.file) t.size xs from .inr ⟨hx0, nv, dvv, dcv, cv2, v2, by rw [HDD.out]⟩)
     have c06 := HQ.out.only.cell HND.out.1 c0
     refine HK.out _ _ c06 ?_
     clear HK
     clear c04 c14 c06 ht6
     generalize syD D2 (tfn t.nm t.file) cv2 v2 = D1 at *
     iterate 1
       first
       | (
         refine m_take (v := ?_) rfl rfl ?_ ?_
         rotate_left
         ·
           intro W hW
           go_simp
           with_reducible rfl
         simp only [Act.put, List.setIfInBounds_toArray, List.set_cons_zero, List.set_cons_succ])
       | (
         refine m_skip rfl rfl ?_
         simp only [Act.put, List.setIfInBounds_toArray, List.set_cons_zero, List.set_cons_succ])
     refine m_done ?_
     simp only [List.drop_succ_cons, List.drop_zero]
     go_upto_region 21 with fail
     simp only [NP]
     go_upto_region 21 with fail
     obtain ⟨wq, hwq⟩ : ∃ wq, wq = w6 := ⟨_, rfl⟩
     rw [← hwq] at HQ ⊢
     clear hwq
     have c2q := HQ.out.only.cell HND.out.1 c2
     have HTQ := Lib.hid (HQ.out.txt HD2.out HTX.out)
     have hdq : ∀ j, D1.foot d j → D.foot d j ∨ w2.heap.size ≤ j := HQ.out.foot
     have HSQ := Lib.hid ((HS.out.only HO.out HX.out.2.1).only HQ.out.only HND.out.2.1)
     have hslt := HS.out.lt.2
     have HNF := Lib.hid (show ¬ D1.foot d t.sl from fun h => (hdq _ h).elim HND.out.2.1 (fun h => by omega))
     have HNT := Lib.hid (show ¬ D1.foot d T from fun h => (hdq _ h).elim HND.out.1 (fun h => by omega))
     clear hdq
     refine region_m [(0, false), (1, false), (2, false), (3, false), (4, false), (5, false), (6, true), (7, false)] 8 (fun V => V.cell? ⟨T, 2, none⟩ = some (.pointer (some ⟨t.sl, 0, none⟩)) ∧ Bytes V (.slice ta (enc NE).length tc) (enc NE)) (by kernel_rfl) (by kernel_rfl) ⟨cell_later (Below.refl wq.heap.size wq).drew c2q, HTQ.out.1.below (Below.refl wq.heap.size wq).drew (Nat.le_refl _)⟩ ?_
     iterate 5
       first
       | (
         refine m_take (v := ?_) rfl rfl ?_ ?_
         rotate_left
         ·
           intro W hW
           go_simp
           with_reducible rfl
         simp only [Act.put, List.setIfInBounds_toArray, List.set_cons_zero, List.set_cons_succ])
       | (
         refine m_skip rfl rfl ?_
         simp only [Act.put, List.setIfInBounds_toArray, List.set_cons_zero, List.set_cons_succ])
     refine m_bstr Try.underlying46 Try.underlying5 Try.underlying9 rfl rfl rfl rfl (fun W hW => hW.2) ?_
     simp only [Act.put, List.setIfInBounds_toArray, List.set_cons_zero, List.set_cons_succ]
     refine m_loud rfl (fun K hK => ?_)
     have HK := Lib.hid hK
     clear hK
     go_simp
     have hbl : (bstr (enc NE)).size = (enc NE).length := by show (enc NE).toArray.size = _; simp
     have hse := slotE_len s (bstr (enc NE))
     have hsf := Fr.FrM.frameOf_length (enc (slotE s (bstr (enc NE))))
     have hfq := HFQ.out.1
     refine (sput_calls Bs t.sl d Bd s D1 (bstr (enc NE)) _ (HSQ.out.below (Below.refl wq.heap.size wq).drew) HQ.out.is.drew HNF.out HSL.out.1 (by omega) HSL.out.2.1 (by omega) (by omega) (hfq.file _) hfq.used hfq.c1 hfq.r0 hfq.r1 (hfq.wrE (by omega) HSL.out.2.2.2 (Nat.zero_le _)) (hfq.slot (by omega) HSL.out.2.2.2 HFQ.out.2)).mono ?_
     rintro e w7 ⟨rfl, nv7, dv7, cv7, cvb, vb, hsp⟩
     have HSP := Lib.hid hsp
     clear hsp hbl hse hsf hfq
     have ho7 : Only (fun j => D1.foot d j ∨ j = t.sl) wq w7 := (Only.refl _ wq).drew.trans HSP.out.only (fun _ _ h => h)
     have hnt7 : ¬ (D1.foot d T ∨ T = t.sl) := fun h => h.elim HNT.out HND.out.2.2
     refine HK.out _ _ ⟨ho7.cell hnt7 c2q, (HTQ.out.only ho7 (fun j hj hu => hj.elim (fun h => HQ.out.is.foot_u8 h hu) (fun h => absurd ((IsT.of_own HSQ.out (j := j) (by rw [h]; rfl)).eq hu) (by decide)))).1⟩ ?_
     clear HK
     iterate 1
       first
       | (
         refine m_take (v := ?_) rfl rfl ?_ ?_
         rotate_left
         ·
           intro W hW
           go_simp
           with_reducible rfl
         simp only [Act.put, List.setIfInBounds_toArray, List.set_cons_zero, List.set_cons_succ])
       | (
         refine m_skip rfl rfl ?_
         simp only [Act.put, List.setIfInBounds_toArray, List.set_cons_zero, List.set_cons_succ])
     refine m_done ?_
     simp only [List.drop_succ_cons, List.drop_zero]
     have HO7 := Lib.hid ho7
     have HN7 := Lib.hid hnt7
     have HT7 := Lib.hid ((HT.out.only HO.out HX.out.1).only HQ.out.only HND.out.1 |>.only ho7 hnt7)
     clear ho7 hnt7 c2q
     obtain ⟨-, -, -, -, -, d5, -, -, fz⟩ := HT7.out.at
     have d4 := HT7.out.at.2.2.2.2.1
     have f5 := fz 5
     have f4 := fz 4
     clear fz
     have rng : ∀ w : World, (Instr.range 127 (.map none)).run Try.prog w = .ok (.pointer (some ⟨w.heap.size, 0, none⟩)) (w.alloc (.mapIter none 0 #[] 0)) := fun w => run_range_nilMap w _ _ _ Try.underlying127
     go_upto_region 26 with fail
     simp only [NP]
     go_upto_region 26 with fail
     have nxt : ∀ ty, (Instr.next (.pointer (some ⟨w7.heap.size, 0, none⟩)) false ty).run Try.prog (w7.alloc (.mapIter none 0 #[] 0)) = .ok (.tuple #[.bool false]) (w7.alloc (.mapIter none 0 #[] 0)) := fun ty => run_next_nilMap w7 ty 0 0 #[]
     clear rng
     have HB8 := Lib.hid (below_alloc w7 (.mapIter none 0 #[] 0))
     have d4 := cell_later HB8.out d4
     have d5 := cell_later HB8.out d5
     have f4 := (World.frozen?_of_block (a := ⟨T, 4, none⟩) (HB8.out.block T HT7.out.lt.2)).trans f4
     have f5 := (World.frozen?_of_block (a := ⟨T, 5, none⟩) (HB8.out.block T HT7.out.lt.2)).trans f5
     have HT8 := Lib.hid (HT7.out.below HB8.out)
     have HS8 := Lib.hid (HSP.out.slot.below HB8.out)
     have HD8 := Lib.hid (HSP.out.disk.below HB8.out)
     have HO8 := Lib.hid (HO7.out.trans (Only.of_below (S := fun _ => False) HB8.out) (fun _ _ h => h.elim))
     generalize w7.alloc (.mapIter none 0 #[] 0) = w8 at *
     generalize w7.heap.size = G8 at *
     have hts : t.size ≤ 1099511627776 := by have := HFI.out.1.file (tfn t.nm t.file); have := HSZ.out; omega
     go_loopw [18, 19] (fun _ _ wr => wr = w8) (fun _ _ _ => 0)
     case atStart => exact rfl
     case round =>
       obtain rfl : w8 = wr := hrel.symm
       go_wp2_with fail
       go_ret
       have hDF : ∀ j, D1.foot d j → D.foot d j ∨ w2.heap.size ≤ j := HQ.out.foot
       have hw2 := HO.out.size
       have hwq := HQ.out.only.size
       have hw7 := HO7.out.size
       have hsl := HS.out.lt.2
       have o8 : Only (fun j => j = T) w8 ((w8.setCell ⟨T, 5, none⟩ (.slice ra rs.length rc)).setCell ⟨T, 4, none⟩ (.int .i64 ((t.size : Int) + (xs.length : Int)))) := ((Only.refl (fun j => j = T) w8).setCell ⟨T, 5, none⟩ _ (.inl rfl)).setCell ⟨T, 4, none⟩ _ (.inl rfl)
       have o7 : Only (fun j => (D1.foot d j ∨ j = t.sl) ∨ j = T) wq ((w8.setCell ⟨T, 5, none⟩ (.slice ra rs.length rc)).setCell ⟨T, 4, none⟩ (.int .i64 ((t.size : Int) + (xs.length : Int)))) :=
        (HO8.out.weak (fun j _ h => .inl h)).trans o8 (fun j _ h => .inr h)
       have o2 : Only (fun j => D.foot d j ∨ j = t.sl ∨ j = T) w2 ((w8.setCell ⟨T, 5, none⟩ (.slice ra rs.length rc)).setCell ⟨T, 4, none⟩ (.int .i64 ((t.size : Int) + (xs.length : Int)))) :=
        (HQ.out.only.weak (fun j _ h => .inl h)).trans o7 (fun j hj h => by
          rcases h with (h | h) | h
          · exact .inl ((hDF j h).resolve_right (by omega))
          · exact .inr (.inl h)
          · exact .inr (.inr h))
       have hfinal : TrAt ((w8.setCell ⟨T, 5, none⟩ (.slice ra rs.length rc)).setCell ⟨T, 4, none⟩ (.int .i64 ((t.size : Int) + (xs.length : Int)))) B T d { t with rv := .slice ra rs.length rc, size := t.size + xs.length } := by
        have h5 : TrAt (w8.setCell ⟨T, 5, none⟩ (.slice ra rs.length rc)) B T d { t with rv := .slice ra rs.length rc } := (World.ownsRow.stored HT8.out 5 (.slice ra rs.length rc)).1
        exact h5.setSize (t.size + xs.length)
       have hSQ8 := HS8.out
       have hDQ8 := HD8.out
       have hft : ∀ j, (syD (wrD D1 (sfn s.nm (toOf s)) 0 (Fr.FrM.frameOf (enc (slotE s (bstr (enc NE))))) nv7 dv7 cv7) (sfn s.nm (toOf s)) cvb vb).foot d j → D.foot d j ∨ w.heap.size ≤ j := fun j h => (HSP.out.foot j h).elim (fun h => (hDF j h).imp id (fun h => by omega)) (fun h => .inr (by have : wq.drew.heap.size = wq.heap.size := rfl; omega))
       have hres := show SaveR F w _ B T d Bd Bs t s D (.slice ra rs.length rc) xs (bstr (enc NE)) _ from ⟨hfinal, hSQ8.only o8 (fun e => HND.out.2.2 e.symm), hDQ8.only o8 (fun j e h => (hft j h).elim (fun h => HND.out.1 (e ▸ h)) (fun h => by have := HT.out.lt.2; omega)) (fun j e hu => absurd ((IsT.of_own HT8.out (j := j) (by rw [e]; rfl)).eq hu) (by decide)),
          (HO.out.weak (fun j _ h => .inl h)).trans o2 (fun j _ h => .inr h), hft, D1, HSD.out, nv7, dv7, cv7, cvb, vb, rfl⟩
       have hJ9 := hPg.out.stay _ _ _ _ _ HJ.out (o2.weak (fun j _ h hf => by
        rcases h with h | h | h
        · exact HX.out.2.2.1 j hf h
        · exact HX.out.2.1 (h ▸ hf)
        · exact HX.out.1 (h ▸ hf)))
       rw [← HNE.out] at hres
       first
        | exact ⟨rfl, xs, ats, hJ9, _, hres⟩
        | (have z : (Value.int .i64 (t.size : Int)) = .int .i64 ((t.size : Int) + (xs.length : Int)) := by
            rw [hx0]; simp
           rw [z]
           exact ⟨rfl, xs, ats, hJ9, _, hres⟩)
end Go.Proofs.Ytmafnjidhjabgaa
namespace Go.Proofs.Ytmafnjidhjabgaa
open Go.RowKit Go.Shelf
set_option linter.unusedVariables false
set_option linter.unusedSectionVars false
set_option linter.unusedSimpArgs false
set_option maxRecDepth 100000
variable [Inhabited Pgs]
theorem rts_snoc (rs : List Rt) (r : Rt) : flatF Rt.cells (rs ++ [r]) = flatF Rt.cells rs ++ Rt.cells r := by simp [flatF]
theorem commit_low (B T d : Nat) (t : Tr) (rs : List Rt) (rl : Rt) (tag : Int) (w : World) (ht : TrAt w B T d t) (hbr : t.broken = false) (hrv : Rd w 2 t.rv (rs.length + 1) (flatF Rt.cells (rs ++ [rl]))) (h0 : 0 ≤ tag) (hle : tag ≤ rl.1) (hn : rs.length ≤ 64) :
  Calls Try.prog 18 #[.pointer (some ⟨T, 0, none⟩), .int .i64 tag] w fun e w' => e = .returned (.int .i64 1) ∧ Below w.heap.size w w' := by
 obtain ⟨c0, c1, c2, c3, c4, c5, c6, c7, -⟩ := ht.at
 obtain ⟨ra, rc, hrve, hrc1, hrc2⟩ := Rd.slice hrv
 rw [hrve] at c5 hrv
 rw [hbr] at c7
 obtain ⟨rb, ro, rfl, hce⟩ := rdF_at (k := 2) rt2 (es := rs ++ [rl]) (by simpa using hrv) rs.length (by simp)
 have r0 := hce 0 _ (by omega) (by rw [List.getElem_concat_length rfl]; rfl)
 clear hce hrv hrve ht hbr
 rw [Nat.add_zero] at r0
 have e1 : decide (tag < 0) = false := decide_eq_false (by omega)
 have e2 : decide ((0 : Int) < (rs.length : Int) + 1) = true := decide_eq_true (by omega)
 have e3 : decide (tag ≤ rl.1) = true := decide_eq_true hle
 go_enter Try.func18, Try.ntmps18
 go_upto_region 3 with fail
 have k1 : (0 : Int) ≤ (rs.length : Int) := by omega
 have k2 : (rs.length : Int) < (rs.length : Int) + 1 := by omega
 have k3 : IntKind.i64.wrap (rs.length : Int) = (rs.length : Int) := i64w (by omega) (by omega)
 refine region_m [(0, false), (1, false), (2, false), (3, false), (4, false), (5, false), (6, false), (7, false), (8, false), (9, false), (10, false), (11, false), (12, false), (13, false), (14, false), (15, false), (16, false), (17, false), (18, false), (19, false), (20, false), (21, false), (22, false), (23, false), (24, false), (25, false), (26, false), (27, false)] 28 (fun V => V.cell? ⟨T, 5, none⟩ = some (.slice (some ⟨rb, ro, none⟩) (rs.length + 1) rc) ∧ V.cell? ⟨rb, ro + rs.length * 2, none⟩ = some (.int .i64 rl.1)) (by kernel_rfl) (by kernel_rfl) ⟨c5, r0⟩ ?_
 iterate 28
  first
  | (
   refine m_take (v := ?_) rfl rfl ?_ ?_
   rotate_left
   ·
    intro W hW
    go_simp
    with_reducible rfl
   simp only [Act.put, List.setIfInBounds_toArray, List.set_cons_zero, List.set_cons_succ])
  | (
   refine m_skip rfl rfl ?_
   simp only [Act.put, List.setIfInBounds_toArray, List.set_cons_zero, List.set_cons_succ])
 refine m_done ?_
 simp only [List.drop_succ_cons, List.drop_zero]
 go_wp2_with fail
 simp only [NP]
 go_wp2_with fail
 go_ret
 exact ⟨rfl, (Below.refl _ _).drew⟩
structure ComR (F : Nat → Prop) (J : Nat → List UInt8 → List Int → World → Prop) (w w' : World) (B T d Bd Bs : Nat) (t : Tr) (s : Sl) (D : Dk) (rs : List Rt) (tag : Int) : Prop where
 it : ∃ xs ats rv D', J (rs.length + 1) xs ats w' ∧ w'.ownsRow w.heap.size 81 2 rv (rs.length + 1) (flatF Rt.cells (rs ++ [(tag, t.now)])) ∧ SaveR F w w' B T d Bd Bs t s D rv xs (bstr (enc ((rootsE (t.file : Nat) (rs ++ [(tag, t.now)]) ats).map iI))) D'
theorem SaveR.from {F : Nat → Prop} {w W w' : World} {B T d Bd Bs : Nat} {t : Tr} {s : Sl} {D : Dk} {rv : Value} {xs : List UInt8} {tx : ByteArray} {D' : Dk} (h : SaveR F W w' B T d Bd Bs t s D rv xs tx D') (hb : Below w.heap.size w W) : SaveR F w w' B T d Bd Bs t s D rv xs tx D' :=
 ⟨h.tree, h.slot, h.disk, (Only.of_below (S := fun j => F j ∨ D.foot d j ∨ j = t.sl ∨ j = T) hb).trans h.only (fun _ _ h => h), fun j hj => (h.foot j hj).imp id (fun h => Nat.le_trans hb.size h), h.on⟩
set_option maxHeartbeats 8000000 in
theorem commit_calls (F : Nat → Prop) (J : Nat → List UInt8 → List Int → World → Prop) (T d Bd B Bs : Nat) (t : Tr) (s : Sl) (D : Dk) (rs : List Rt) (tag : Int) (w : World)
  (ht : TrAt w B T d t) (hs : SlotAt w Bs t.sl d s) (hd : DiskAt w Bd d D) (hF : ∀ j, F j → j < w.heap.size) (hTF : ¬ F T) (hsF : ¬ F t.sl) (hdF : ∀ j, F j → ¬ D.foot d j) (hFu : ∀ j, F j → ¬ IsU8 w j)
  (hrv : Rd w 2 t.rv rs.length (flatF Rt.cells rs)) (hn : rs.length < 64) (htag : ∀ r ∈ rs, -9223372036854775808 ≤ r.1 ∧ r.1 ≤ 9223372036854775807) (h0 : 0 ≤ tag) (h1 : tag ≤ 9223372036854775807) (hl : ∀ r, rs.getLast? = some r → r.1 < tag)
  (HP : ∀ N, w.heap.size ≤ N → Pager F J (rs ++ [(tag, t.now)]) N t.size) (hJ : J 0 [] [] w) (hfile : t.file < 2) (hbr : t.broken = false) (hsize : t.size ≤ 4096)
  (M : Nat) (hM : ∀ i xs ats W, J i xs ats W → xs.length ≤ M) (hfit : Fit D (M + 2000)) (hchg : D.chg.length ≤ 800000) (hsz : t.size ≤ (fileOf D.now (tfn t.nm t.file)).length) (hTd : ¬ D.foot d T) (hsd : ¬ D.foot d t.sl) (hTs : T ≠ t.sl)
  (hnm : t.nm.size ≤ 10) (hsn : s.nm.size ≤ 10) (hsb : s.broken = false) (hver : s.ver ≤ 1000000000) (hg1 : goodNm (tfn t.nm t.file).data.toList = true) (hg2 : goodNm (sfn s.nm (toOf s)).data.toList = true) :
  Calls Try.prog 18 #[.pointer (some ⟨T, 0, none⟩), .int .i64 tag] w fun e w' => e = .returned (.int .i64 0) ∧ ComR F J w w' B T d Bd Bs t s D rs tag := by
 have HSV := Lib.hid (fun W rv (hb : Below w.heap.size w W) (hr : Rd W 2 rv (rs.length + 1) (flatF Rt.cells (rs ++ [(tag, t.now)]))) (hrf : ∀ a n c, rv = .slice (some a) n c → ¬ F a.block) =>
  save_calls F J T d Bd B Bs t s D rv (rs ++ [(tag, t.now)]) W (ht.below hb) (hs.below hb) (hd.below hb) (fun j hj => Nat.lt_of_lt_of_le (hF j hj) hb.size) hTF hsF hdF (fun j hj => fun hu => hFu j hj (by
   obtain ⟨cs, x, hc⟩ := hu
   exact ⟨cs, x, (hb.block j (hF j hj)).symm.trans hc⟩)) (by rw [List.length_append]; exact hr) hrf (by rw [List.length_append]; simp; omega) (fun r hr => by
    rcases List.mem_append.1 hr with h | h
    · exact htag r h
    ·
      rw [List.mem_singleton.1 h]
      exact ⟨by show _ ≤ tag; omega, h1⟩) (HP _ hb.size) ((HP _ (Nat.le_refl _)).stay _ _ _ _ _ hJ (Only.of_below hb)) hfile M hM hfit hchg hsz hTd hsd hTs hnm hsn hsb hver hg1 hg2)
 have HF := Lib.hid hF
 have HDL := Lib.hid (fun j (h : D.foot d j) => (hd.foot_lt h).2)
 have HTL := Lib.hid (And.intro hs.lt.2 ht.lt.2)
 have HRV := Lib.hid hrv
 obtain ⟨-, -, -, -, c4, c5, c6, c7, -⟩ := ht.at
 obtain ⟨ra, rc, hrve, hrc1, hrc2⟩ := Rd.slice hrv
 rw [hrve] at c5 HRV
 rw [hbr] at c7
 have e1 : decide (tag < 0) = false := decide_eq_false (by omega)
 have e4 : decide ((64 : Int) ≤ (rs.length : Int)) = false := decide_eq_false (by omega)
 have e5 : decide ((4096 : Int) < (t.size : Int)) = false := decide_eq_false (by omega)
 have hHl := Lib.hid hl
 clear ht hs hd hF hTF hsF hdF hFu hrv htag HP hJ hfile hbr hM hfit hchg hsz hTd hsd hTs hsb hver hg1 hg2 hrve hl
 rcases rs.eq_nil_or_concat with hrs | ⟨rs0, rl, hrs⟩
 ·
  have hlen : rs.length = 0 := by rw [hrs]; rfl
  rw [hlen] at c5 e4 HRV HSV hn
  have HLN := Lib.hid hlen
  clear hlen hrs
  go_enter Try.func18, Try.ntmps18
  go_upto_region 3 with fail
  refine region_m [(0, false), (1, false), (2, false), (3, false), (4, false), (5, false), (6, false), (7, false), (8, false), (9, false), (10, false), (11, false), (12, false), (13, false), (14, false), (15, false), (16, false), (17, false), (18, false), (19, false), (20, false), (21, false), (22, false), (23, false), (24, false), (25, false), (26, false), (27, false)] 28 (fun V => V.cell? ⟨T, 5, none⟩ = some (.slice ra 0 rc)) (by kernel_rfl) (by kernel_rfl) c5 ?_
  iterate 28
   first
   | (
     refine m_take (v := ?_) rfl rfl ?_ ?_
     rotate_left
     ·
       intro W hW
       go_simp
       with_reducible rfl
     simp only [Act.put, List.setIfInBounds_toArray, List.set_cons_zero, List.set_cons_succ])
   | (
     refine m_skip rfl rfl ?_
     simp only [Act.put, List.setIfInBounds_toArray, List.set_cons_zero, List.set_cons_succ])
  refine m_done ?_
  simp only [List.drop_succ_cons, List.drop_zero]
  go_upto_region 7 with fail
  simp only [NP]
  go_upto_region 7 with fail
  refine region_t (.take 0 (.take 1 (.take 2 (.take 3 (.take 5 (.take 6 (.take 7 (.take 8 (.take 9 (.take 10 (.two 4 (.loud 11 (.loud 12 (.take 13 .done))) 11 (.loud 4 (.loud 12 (.take 13 .done)))))))))))))) 14 (fun V => V.cell? ⟨T, 5, none⟩ = some (.slice ra (0) rc) ∧ V.cell? ⟨T, 6, none⟩ = some (.pointer t.now)) (by kernel_rfl) (by kernel_rfl) ⟨c5, c6⟩ ?_
  have HB0 := Lib.hid (show Below w.heap.size w w.drew.drew from (Below.refl w.heap.size w).drew.drew)
  generalize w.drew.drew = w0 at *
  iterate 10
   first
   | (
     refine t_take (v := ?_) rfl rfl ?_ ?_
     rotate_left
     ·
       intro W hW
       go_simp
       with_reducible rfl
     simp only [Act.put, List.setIfInBounds_toArray, List.set_cons_zero, List.set_cons_succ])
   | (
     refine t_skip rfl rfl ?_
     simp only [Act.put, List.setIfInBounds_toArray, List.set_cons_zero, List.set_cons_succ])
  have hs0 := HB0.out.size
  refine t_two ?_ ?_
  ·
   skip
   refine t_loud rfl (fun K hK => ?_)
   have HK := Lib.hid hK
   clear hK
   go_simp
   refine (clR_calls _ _ _ _ (HRV.out.below HB0.out (Nat.le_refl _)) (rts_one _) (by omega)).mono ?_
   rintro e w1 ⟨v1, rfl, ho1, hb1⟩
   obtain ⟨v1a, v1c, rfl⟩ := own_slice ho1
   have HB1 := Lib.hid (HB0.out.trans (hb1.mono hs0))
   have hal := below_alloc w1 (.cells #[.int .i64 tag, .pointer t.now] 81)
   have HO2 := Lib.hid (ownsRow_below (ownsRow_mono ho1 hs0) hal (Nat.le_refl _))
   have HB2 := Lib.hid (below_go HB1.out hal)
   have HLIT := Lib.hid (Rd.lit (w := w1) (cs := #[.int .i64 tag, .pointer t.now]) (e := 81) (n := 1) (sz := 2) rfl (by omega))
   have hs2 := HB2.out.size
   clear ho1 hb1 hal
   refine HK.out _ _ ⟨cell_later HB1.out c5, cell_later HB1.out c6⟩ ?_
   clear HK
   refine t_loud rfl (fun K hK => ?_)
   have HK := Lib.hid hK
   clear hK
   go_simp
   refine HK.out _ _ ⟨cell_later HB2.out c5, cell_later HB2.out c6⟩ ?_
   clear HK
   refine t_app tyRoots HO2.out HLIT.out (by simp [Value.oneCell']) (by omega) (by omega) hs2 rfl rfl rfl rfl rfl ?_
   intro v3 w3 h3 hg3
   have HO3 := Lib.hid h3
   have HB3 := Lib.hid (HB2.out.trans ((Below.refl w.heap.size _).grown hg3 hs2 (fun j e => (World.ownsRow.lt HO2.out j e).1)))
   obtain ⟨v3a, v3c, rfl⟩ := own_slice h3
   refine ⟨⟨cell_later HB3.out c5, cell_later HB3.out c6⟩, ?_⟩
   clear h3 hg3
   iterate 1
    first
    | (
       refine t_take (v := ?_) rfl rfl ?_ ?_
       rotate_left
       ·
        intro W hW
        go_simp
        with_reducible rfl
       simp only [Act.put, List.setIfInBounds_toArray, List.set_cons_zero, List.set_cons_succ])
    | (
       refine t_skip rfl rfl ?_
       simp only [Act.put, List.setIfInBounds_toArray, List.set_cons_zero, List.set_cons_succ])
   refine t_done ?_
   simp only [List.drop_succ_cons, List.drop_zero]
   go_wp2_with fail
   simp only [NP]
   go_upto_region 8 with fail
   have c4 := cell_later HB3.out c4
   refine region_m [(0, false), (1, false), (2, false), (3, false), (4, false), (5, false), (6, false), (7, false), (8, false), (9, false), (10, false), (11, false), (12, false), (13, false), (14, false), (15, false), (16, false)] 17 (fun V => V.cell? ⟨T, 4, none⟩ = some (.int .i64 (t.size : Nat))) (by kernel_rfl) (by kernel_rfl) c4 ?_
   iterate 17
    first
    | (
       refine m_take (v := ?_) rfl rfl ?_ ?_
       rotate_left
       ·
        intro W hW
        go_simp
        with_reducible rfl
       simp only [Act.put, List.setIfInBounds_toArray, List.set_cons_zero, List.set_cons_succ])
    | (
       refine m_skip rfl rfl ?_
       simp only [Act.put, List.setIfInBounds_toArray, List.set_cons_zero, List.set_cons_succ])
   refine m_done ?_
   simp only [List.drop_succ_cons, List.drop_zero]
   have hss := HB3.out.size
   go_wp2_with (go_at_call 42; refine (HSV.out w3.drew _ HB3.out.drew (by rw [rts_snoc]; exact Rd.of_own (ownsRow_below HO3.out (Below.refl _ _).drew (Nat.le_refl _))) (fun a n c e hf => by
    have h1 := (World.ownsRow.lt HO3.out a.block (by rw [e]; rfl)).1
    have h2 := HF.out _ hf
    omega)).mono ?_; rintro e w4 ⟨rfl, xs, ats, hj, D', hsv⟩)
   simp only [NP]
   go_wp2_with fail
   go_ret
   refine ⟨rfl, ⟨xs, ats, .slice v3a _ v3c, D', ?_, ?_, hsv.from HB3.out.drew⟩⟩
   ·
    rw [List.length_append] at hj
    exact hj
   ·
    rw [rts_snoc, HLN.out]
    have hd3 : Below w3.heap.size w3 w3.drew := (Below.refl _ _).drew
    refine ownsRow_only (ownsRow_below HO3.out hd3 (Nat.le_refl _)) hsv.only (fun g hg h => ?_)
    have h1 := (World.ownsRow.lt HO3.out g hg).1
    rcases h with h | h | h | h
    · have := HF.out g h; omega
    · have := (HDL.out g h); omega
    · have := HTL.out.1; omega
    · have := HTL.out.2; omega
  ·
   skip
   have hal := below_alloc w0 (.cells #[.int .i64 tag, .pointer t.now] 81)
   have HB1 := Lib.hid (below_go HB0.out hal)
   have hs1 := HB1.out.size
   refine t_loud rfl (fun K hK => ?_)
   have HK := Lib.hid hK
   clear hK
   go_simp
   refine HK.out _ _ ⟨cell_later HB1.out c5, cell_later HB1.out c6⟩ ?_
   clear HK
   refine t_loud rfl (fun K hK => ?_)
   have HK := Lib.hid hK
   clear hK
   go_simp
   refine (clR_calls _ _ _ _ (HRV.out.below HB1.out (Nat.le_refl _)) (rts_one _) (by omega)).mono ?_
   rintro e w1 ⟨v1, rfl, ho1, hb1⟩
   obtain ⟨v1a, v1c, rfl⟩ := own_slice ho1
   have HO2 := Lib.hid (ownsRow_mono ho1 hs1)
   have HB2 := Lib.hid (HB1.out.trans (hb1.mono hs1))
   have HLIT := Lib.hid ((Rd.lit (w := w0) (cs := #[.int .i64 tag, .pointer t.now]) (e := 81) (n := 1) (sz := 2) rfl (by omega)).below hb1 (Nat.le_refl _))
   have hs2 := HB2.out.size
   clear ho1 hb1 hal
   refine HK.out _ _ ⟨cell_later HB2.out c5, cell_later HB2.out c6⟩ ?_
   clear HK
   refine t_app tyRoots HO2.out HLIT.out (by simp [Value.oneCell']) (by omega) (by omega) hs2 rfl rfl rfl rfl rfl ?_
   intro v3 w3 h3 hg3
   have HO3 := Lib.hid h3
   have HB3 := Lib.hid (HB2.out.trans ((Below.refl w.heap.size _).grown hg3 hs2 (fun j e => (World.ownsRow.lt HO2.out j e).1)))
   obtain ⟨v3a, v3c, rfl⟩ := own_slice h3
   refine ⟨⟨cell_later HB3.out c5, cell_later HB3.out c6⟩, ?_⟩
   clear h3 hg3
   iterate 1
    first
    | (
       refine t_take (v := ?_) rfl rfl ?_ ?_
       rotate_left
       ·
        intro W hW
        go_simp
        with_reducible rfl
       simp only [Act.put, List.setIfInBounds_toArray, List.set_cons_zero, List.set_cons_succ])
    | (
       refine t_skip rfl rfl ?_
       simp only [Act.put, List.setIfInBounds_toArray, List.set_cons_zero, List.set_cons_succ])
   refine t_done ?_
   simp only [List.drop_succ_cons, List.drop_zero]
   go_wp2_with fail
   simp only [NP]
   go_upto_region 8 with fail
   have c4 := cell_later HB3.out c4
   refine region_m [(0, false), (1, false), (2, false), (3, false), (4, false), (5, false), (6, false), (7, false), (8, false), (9, false), (10, false), (11, false), (12, false), (13, false), (14, false), (15, false), (16, false)] 17 (fun V => V.cell? ⟨T, 4, none⟩ = some (.int .i64 (t.size : Nat))) (by kernel_rfl) (by kernel_rfl) c4 ?_
   iterate 17
    first
    | (
       refine m_take (v := ?_) rfl rfl ?_ ?_
       rotate_left
       ·
        intro W hW
        go_simp
        with_reducible rfl
       simp only [Act.put, List.setIfInBounds_toArray, List.set_cons_zero, List.set_cons_succ])
    | (
       refine m_skip rfl rfl ?_
       simp only [Act.put, List.setIfInBounds_toArray, List.set_cons_zero, List.set_cons_succ])
   refine m_done ?_
   simp only [List.drop_succ_cons, List.drop_zero]
   have hss := HB3.out.size
   go_wp2_with (go_at_call 42; refine (HSV.out w3.drew _ HB3.out.drew (by rw [rts_snoc]; exact Rd.of_own (ownsRow_below HO3.out (Below.refl _ _).drew (Nat.le_refl _))) (fun a n c e hf => by
    have h1 := (World.ownsRow.lt HO3.out a.block (by rw [e]; rfl)).1
    have h2 := HF.out _ hf
    omega)).mono ?_; rintro e w4 ⟨rfl, xs, ats, hj, D', hsv⟩)
   simp only [NP]
   go_wp2_with fail
   go_ret
   refine ⟨rfl, ⟨xs, ats, .slice v3a _ v3c, D', ?_, ?_, hsv.from HB3.out.drew⟩⟩
   ·
    rw [List.length_append] at hj
    exact hj
   ·
    rw [rts_snoc, HLN.out]
    have hd3 : Below w3.heap.size w3 w3.drew := (Below.refl _ _).drew
    refine ownsRow_only (ownsRow_below HO3.out hd3 (Nat.le_refl _)) hsv.only (fun g hg h => ?_)
    have h1 := (World.ownsRow.lt HO3.out g hg).1
    rcases h with h | h | h | h
    · have := HF.out g h; omega
    · have := (HDL.out g h); omega
    · have := HTL.out.1; omega
    · have := HTL.out.2; omega
 ·
  rw [List.concat_eq_append] at hrs
  have hlen : rs.length = rs0.length + 1 := by rw [hrs, List.length_append]; rfl
  have hlt := hHl.out rl (by rw [hrs]; simp)
  have HRV2 := HRV.out
  rw [hrs] at HRV2
  obtain ⟨rb, ro, rfl, hce⟩ := rdF_at (k := 2) rt2 (es := rs0 ++ [rl]) (by simpa [hlen] using HRV2) rs0.length (by simp)
  have r0 := hce 0 _ (by omega) (by rw [List.getElem_concat_length rfl]; rfl)
  rw [Nat.add_zero] at r0
  rw [hlen] at c5 e4 HRV HSV hn
  have HRS := Lib.hid hrs
  have HLN := Lib.hid hlen
  have e2 : decide ((0 : Int) < (rs0.length : Int) + 1) = true := decide_eq_true (by omega)
  have e3 : decide (tag ≤ rl.1) = false := decide_eq_false (by omega)
  have e6 : ¬ tag ≤ rl.1 := by omega
  have k1 : (0 : Int) ≤ (rs0.length : Int) := by omega
  have k2 : (rs0.length : Int) < (rs0.length : Int) + 1 := by omega
  have k3 : IntKind.i64.wrap (rs0.length : Int) = (rs0.length : Int) := i64w (by omega) (by omega)
  rw [Int.natCast_add] at e4
  clear hce HRV2 hlen hrs
  go_enter Try.func18, Try.ntmps18
  go_upto_region 3 with fail
  refine region_m [(0, false), (1, false), (2, false), (3, false), (4, false), (5, false), (6, false), (7, false), (8, false), (9, false), (10, false), (11, false), (12, false), (13, false), (14, false), (15, false), (16, false), (17, false), (18, false), (19, false), (20, false), (21, false), (22, false), (23, false), (24, false), (25, false), (26, false), (27, false)] 28 (fun V => V.cell? ⟨T, 5, none⟩ = some (.slice (some ⟨rb, ro, none⟩) (rs0.length + 1) rc) ∧ V.cell? ⟨rb, ro + rs0.length * 2, none⟩ = some (.int .i64 rl.1)) (by kernel_rfl) (by kernel_rfl) ⟨c5, r0⟩ ?_
  iterate 28
   first
   | (
     refine m_take (v := ?_) rfl rfl ?_ ?_
     rotate_left
     ·
       intro W hW
       go_simp
       with_reducible rfl
     simp only [Act.put, List.setIfInBounds_toArray, List.set_cons_zero, List.set_cons_succ])
   | (
     refine m_skip rfl rfl ?_
     simp only [Act.put, List.setIfInBounds_toArray, List.set_cons_zero, List.set_cons_succ])
  refine m_done ?_
  simp only [List.drop_succ_cons, List.drop_zero]
  generalize hra : (some ⟨rb, ro, none⟩ : Option Addr) = ra at *
  clear k1 k2 k3 hra
  go_upto_region 7 with fail
  simp only [NP]
  go_upto_region 7 with fail
  refine region_t (.take 0 (.take 1 (.take 2 (.take 3 (.take 5 (.take 6 (.take 7 (.take 8 (.take 9 (.take 10 (.two 4 (.loud 11 (.loud 12 (.take 13 .done))) 11 (.loud 4 (.loud 12 (.take 13 .done)))))))))))))) 14 (fun V => V.cell? ⟨T, 5, none⟩ = some (.slice ra (rs0.length+1) rc) ∧ V.cell? ⟨T, 6, none⟩ = some (.pointer t.now)) (by kernel_rfl) (by kernel_rfl) ⟨c5, c6⟩ ?_
  have HB0 := Lib.hid (show Below w.heap.size w w.drew.drew from (Below.refl w.heap.size w).drew.drew)
  generalize w.drew.drew = w0 at *
  iterate 10
   first
   | (
     refine t_take (v := ?_) rfl rfl ?_ ?_
     rotate_left
     ·
       intro W hW
       go_simp
       with_reducible rfl
     simp only [Act.put, List.setIfInBounds_toArray, List.set_cons_zero, List.set_cons_succ])
   | (
     refine t_skip rfl rfl ?_
     simp only [Act.put, List.setIfInBounds_toArray, List.set_cons_zero, List.set_cons_succ])
  have hs0 := HB0.out.size
  refine t_two ?_ ?_
  ·
   skip
   refine t_loud rfl (fun K hK => ?_)
   have HK := Lib.hid hK
   clear hK
   go_simp
   refine (clR_calls _ _ _ _ (HRV.out.below HB0.out (Nat.le_refl _)) (rts_one _) (by omega)).mono ?_
   rintro e w1 ⟨v1, rfl, ho1, hb1⟩
   obtain ⟨v1a, v1c, rfl⟩ := own_slice ho1
   have HB1 := Lib.hid (HB0.out.trans (hb1.mono hs0))
   have hal := below_alloc w1 (.cells #[.int .i64 tag, .pointer t.now] 81)
   have HO2 := Lib.hid (ownsRow_below (ownsRow_mono ho1 hs0) hal (Nat.le_refl _))
   have HB2 := Lib.hid (below_go HB1.out hal)
   have HLIT := Lib.hid (Rd.lit (w := w1) (cs := #[.int .i64 tag, .pointer t.now]) (e := 81) (n := 1) (sz := 2) rfl (by omega))
   have hs2 := HB2.out.size
   clear ho1 hb1 hal
   refine HK.out _ _ ⟨cell_later HB1.out c5, cell_later HB1.out c6⟩ ?_
   clear HK
   refine t_loud rfl (fun K hK => ?_)
   have HK := Lib.hid hK
   clear hK
   go_simp
   refine HK.out _ _ ⟨cell_later HB2.out c5, cell_later HB2.out c6⟩ ?_
   clear HK
   refine t_app tyRoots HO2.out HLIT.out (by simp [Value.oneCell']) (by omega) (by omega) hs2 rfl rfl rfl rfl rfl ?_
   intro v3 w3 h3 hg3
   have HO3 := Lib.hid h3
   have HB3 := Lib.hid (HB2.out.trans ((Below.refl w.heap.size _).grown hg3 hs2 (fun j e => (World.ownsRow.lt HO2.out j e).1)))
   obtain ⟨v3a, v3c, rfl⟩ := own_slice h3
   refine ⟨⟨cell_later HB3.out c5, cell_later HB3.out c6⟩, ?_⟩
   clear h3 hg3
   iterate 1
    first
    | (
       refine t_take (v := ?_) rfl rfl ?_ ?_
       rotate_left
       ·
        intro W hW
        go_simp
        with_reducible rfl
       simp only [Act.put, List.setIfInBounds_toArray, List.set_cons_zero, List.set_cons_succ])
    | (
       refine t_skip rfl rfl ?_
       simp only [Act.put, List.setIfInBounds_toArray, List.set_cons_zero, List.set_cons_succ])
   refine t_done ?_
   simp only [List.drop_succ_cons, List.drop_zero]
   go_wp2_with fail
   simp only [NP]
   go_upto_region 8 with fail
   have c4 := cell_later HB3.out c4
   refine region_m [(0, false), (1, false), (2, false), (3, false), (4, false), (5, false), (6, false), (7, false), (8, false), (9, false), (10, false), (11, false), (12, false), (13, false), (14, false), (15, false), (16, false)] 17 (fun V => V.cell? ⟨T, 4, none⟩ = some (.int .i64 (t.size : Nat))) (by kernel_rfl) (by kernel_rfl) c4 ?_
   iterate 17
    first
    | (
       refine m_take (v := ?_) rfl rfl ?_ ?_
       rotate_left
       ·
        intro W hW
        go_simp
        with_reducible rfl
       simp only [Act.put, List.setIfInBounds_toArray, List.set_cons_zero, List.set_cons_succ])
    | (
       refine m_skip rfl rfl ?_
       simp only [Act.put, List.setIfInBounds_toArray, List.set_cons_zero, List.set_cons_succ])
   refine m_done ?_
   simp only [List.drop_succ_cons, List.drop_zero]
   have hss := HB3.out.size
   go_wp2_with (go_at_call 42; refine (HSV.out w3.drew _ HB3.out.drew (by rw [rts_snoc]; exact Rd.of_own (ownsRow_below HO3.out (Below.refl _ _).drew (Nat.le_refl _))) (fun a n c e hf => by
    have h1 := (World.ownsRow.lt HO3.out a.block (by rw [e]; rfl)).1
    have h2 := HF.out _ hf
    omega)).mono ?_; rintro e w4 ⟨rfl, xs, ats, hj, D', hsv⟩)
   simp only [NP]
   go_wp2_with fail
   go_ret
   refine ⟨rfl, ⟨xs, ats, .slice v3a _ v3c, D', ?_, ?_, hsv.from HB3.out.drew⟩⟩
   ·
    rw [List.length_append] at hj
    exact hj
   ·
    rw [rts_snoc, HLN.out]
    have hd3 : Below w3.heap.size w3 w3.drew := (Below.refl _ _).drew
    refine ownsRow_only (ownsRow_below HO3.out hd3 (Nat.le_refl _)) hsv.only (fun g hg h => ?_)
    have h1 := (World.ownsRow.lt HO3.out g hg).1
    rcases h with h | h | h | h
    · have := HF.out g h; omega
    · have := (HDL.out g h); omega
    · have := HTL.out.1; omega
    · have := HTL.out.2; omega
  ·
   skip
   have hal := below_alloc w0 (.cells #[.int .i64 tag, .pointer t.now] 81)
   have HB1 := Lib.hid (below_go HB0.out hal)
   have hs1 := HB1.out.size
   refine t_loud rfl (fun K hK => ?_)
   have HK := Lib.hid hK
   clear hK
   go_simp
   refine HK.out _ _ ⟨cell_later HB1.out c5, cell_later HB1.out c6⟩ ?_
   clear HK
   refine t_loud rfl (fun K hK => ?_)
   have HK := Lib.hid hK
   clear hK
   go_simp
   refine (clR_calls _ _ _ _ (HRV.out.below HB1.out (Nat.le_refl _)) (rts_one _) (by omega)).mono ?_
   rintro e w1 ⟨v1, rfl, ho1, hb1⟩
   obtain ⟨v1a, v1c, rfl⟩ := own_slice ho1
   have HO2 := Lib.hid (ownsRow_mono ho1 hs1)
   have HB2 := Lib.hid (HB1.out.trans (hb1.mono hs1))
   have HLIT := Lib.hid ((Rd.lit (w := w0) (cs := #[.int .i64 tag, .pointer t.now]) (e := 81) (n := 1) (sz := 2) rfl (by omega)).below hb1 (Nat.le_refl _))
   have hs2 := HB2.out.size
   clear ho1 hb1 hal
   refine HK.out _ _ ⟨cell_later HB2.out c5, cell_later HB2.out c6⟩ ?_
   clear HK
   refine t_app tyRoots HO2.out HLIT.out (by simp [Value.oneCell']) (by omega) (by omega) hs2 rfl rfl rfl rfl rfl ?_
   intro v3 w3 h3 hg3
   have HO3 := Lib.hid h3
   have HB3 := Lib.hid (HB2.out.trans ((Below.refl w.heap.size _).grown hg3 hs2 (fun j e => (World.ownsRow.lt HO2.out j e).1)))
   obtain ⟨v3a, v3c, rfl⟩ := own_slice h3
   refine ⟨⟨cell_later HB3.out c5, cell_later HB3.out c6⟩, ?_⟩
   clear h3 hg3
   iterate 1
    first
    | (
       refine t_take (v := ?_) rfl rfl ?_ ?_
       rotate_left
       ·
        intro W hW
        go_simp
        with_reducible rfl
       simp only [Act.put, List.setIfInBounds_toArray, List.set_cons_zero, List.set_cons_succ])
    | (
       refine t_skip rfl rfl ?_
       simp only [Act.put, List.setIfInBounds_toArray, List.set_cons_zero, List.set_cons_succ])
   refine t_done ?_
   simp only [List.drop_succ_cons, List.drop_zero]
   go_wp2_with fail
   simp only [NP]
   go_upto_region 8 with fail
   have c4 := cell_later HB3.out c4
   refine region_m [(0, false), (1, false), (2, false), (3, false), (4, false), (5, false), (6, false), (7, false), (8, false), (9, false), (10, false), (11, false), (12, false), (13, false), (14, false), (15, false), (16, false)] 17 (fun V => V.cell? ⟨T, 4, none⟩ = some (.int .i64 (t.size : Nat))) (by kernel_rfl) (by kernel_rfl) c4 ?_
   iterate 17
    first
    | (
       refine m_take (v := ?_) rfl rfl ?_ ?_
       rotate_left
       ·
        intro W hW
        go_simp
        with_reducible rfl
       simp only [Act.put, List.setIfInBounds_toArray, List.set_cons_zero, List.set_cons_succ])
    | (
       refine m_skip rfl rfl ?_
       simp only [Act.put, List.setIfInBounds_toArray, List.set_cons_zero, List.set_cons_succ])
   refine m_done ?_
   simp only [List.drop_succ_cons, List.drop_zero]
   have hss := HB3.out.size
   go_wp2_with (go_at_call 42; refine (HSV.out w3.drew _ HB3.out.drew (by rw [rts_snoc]; exact Rd.of_own (ownsRow_below HO3.out (Below.refl _ _).drew (Nat.le_refl _))) (fun a n c e hf => by
    have h1 := (World.ownsRow.lt HO3.out a.block (by rw [e]; rfl)).1
    have h2 := HF.out _ hf
    omega)).mono ?_; rintro e w4 ⟨rfl, xs, ats, hj, D', hsv⟩)
   simp only [NP]
   go_wp2_with fail
   go_ret
   refine ⟨rfl, ⟨xs, ats, .slice v3a _ v3c, D', ?_, ?_, hsv.from HB3.out.drew⟩⟩
   ·
    rw [List.length_append] at hj
    exact hj
   ·
    rw [rts_snoc, HLN.out]
    have hd3 : Below w3.heap.size w3 w3.drew := (Below.refl _ _).drew
    refine ownsRow_only (ownsRow_below HO3.out hd3 (Nat.le_refl _)) hsv.only (fun g hg h => ?_)
    have h1 := (World.ownsRow.lt HO3.out g hg).1
    rcases h with h | h | h | h
    · have := HF.out g h; omega
    · have := (HDL.out g h); omega
    · have := HTL.out.1; omega
    · have := HTL.out.2; omega
end Go.Proofs.Ytmafnjidhjabgaa
namespace Go.Proofs.Ytmafnjidhjabgaa
open Go.RowKit Go.Shelf
set_option linter.unusedVariables false
set_option linter.unusedSectionVars false
set_option linter.unusedSimpArgs false
set_option maxRecDepth 100000
variable [Inhabited Pgs]
structure TwoRows (w : World) (B : Nat) (kr vr : Value) (n m : Nat) (ks vs : List Str) : Prop where
 k : w.ownsRow B 72 4 kr n (tRow ks)
 v : w.ownsRow B 72 4 vr m (tRow vs)
 ne : ∀ j, kr.ownBlock = some j → vr.ownBlock ≠ some j
theorem TwoRows.below {w w' : World} {B n m : Nat} {kr vr : Value} {ks vs : List Str} (h : TwoRows w B kr vr n m ks vs) (hb : Below w.heap.size w w') : TwoRows w' B kr vr n m ks vs := ⟨ownsRow_below h.k hb (Nat.le_refl _), ownsRow_below h.v hb (Nat.le_refl _), h.ne⟩
theorem TwoRows.swap {w : World} {B n m : Nat} {kr vr : Value} {ks vs : List Str} (h : TwoRows w B kr vr n m ks vs) : TwoRows w B vr kr m n vs ks := ⟨h.v, h.k, fun j hj hk => h.ne j hk hj⟩
theorem TwoRows.pushK {w w' : World} {B n m g cap : Nat} {kr vr : Value} {ks vs : List Str} (h : TwoRows w B kr vr n m ks vs) (s : Str)
  (h2 : w'.ownsRow B 72 4 (.slice (some ⟨g, 0, none⟩) (n + 1) cap) (n + 1) (tRow ks ++ Iv.cells (tIv s))) (h4 : w.grownBy w' kr.ownBlock) (h5 : (∃ k c, kr = .slice (some ⟨g, 0, none⟩) k c ∧ cap = c) ∨ w.heap.size ≤ g) :
  TwoRows w' B (.slice (some ⟨g, 0, none⟩) (n + 1) cap) vr (n + 1) m (ks ++ [s]) vs := by
 refine ⟨?_, ownsRow_only h.v (Only.of_grown h4) (fun j hj e => h.ne j e hj), fun j hj hv => ?_⟩
 ·
  rw [tRow_snoc]
  exact h2
 ·
  simp only [Value.ownBlock, Option.some.injEq] at hj
  subst hj
  rcases h5 with ⟨k, c, e, -⟩ | h5
  · exact h.ne g (by rw [e]; rfl) hv
  ·
   have := (World.ownsRow.lt h.v g hv).2
   omega
theorem Fr.setPage {F : Nat → Prop} {w : World} {p : Nat} (pg : Int) (h : IsT 91 w p) (hok : okPg p pg) : Fr F w (w.setCell ⟨p, 3, none⟩ (.int .i64 pg)) := by
 have ho := only_set w p 3 (.int .i64 pg)
 refine ⟨ho.size, fun k hk hl hn => ho.block k hl (fun e => hn (e ▸ h)), fun k cs x hk hc => ?_⟩
 by_cases e : k = p
 ·
  subst e
  refine ⟨cs.setIfInBounds 3 (.int .i64 pg), ?_, fun i hi => ?_, fun q hq _ => ⟨pg, ?_, hok⟩⟩
  · simp [World.setCell, hc, Array.getElem?_modify]
  · rw [Array.getElem?_setIfInBounds_ne (by omega)]
  ·
   have hl := (Array.getElem?_eq_some_iff.1 hq).1
   rw [Array.getElem?_setIfInBounds_self_of_lt hl]
 · exact ⟨cs, (ho.block k (Array.getElem?_eq_some_iff.1 hc).1 e).trans hc, fun _ _ => rfl, fun q hq o => ⟨q, hq, o⟩⟩
set_option maxHeartbeats 8000000 in
theorem write_leaf (F : Nat → Prop) (p : Nat) (kv vv cv : Value) (es : List KV) (b : Value) (xs : List UInt8) (B bg : Nat) (w : World) (hn : NdAt w F p kv vv cv es []) (hpg : w.cell? ⟨p, 3, none⟩ = some (.int .i64 (-1)))
  (hb : w.ownsRow B 5 1 b xs.length (bvs xs)) (hpB : b.ownBlock ≠ some p) (hF : ∀ j, F j → b.ownBlock ≠ some j) (he : ∀ e ∈ es, e.1.length ≤ 4096 ∧ e.2.length ≤ 4096) (h7 : es.length ≤ 7) (hxl : xs.length ≤ 1073741824) (hbg : bg ≤ 1073741824) (hB : B ≤ w.heap.size) (hok : okPg p ((bg : Int) + (xs.length : Int))) :
  Calls Try.prog 65 #[.pointer (some ⟨p, 0, none⟩), b, .int .i64 (bg : Nat), .map none] w fun e w' => ∃ b', e = .returned (.tuple #[b', .int .i64 ((bg : Int) + (xs.length : Int))]) ∧
   w'.ownsRow B 5 1 b' (xs ++ Fr.FrM.frameOf (enc (nodeE es []))).length (bvs (xs ++ Fr.FrM.frameOf (enc (nodeE es [])))) ∧ Fr F w w' ∧ Only (fun j => j = p ∨ b.ownBlock = some j) w w' ∧ w'.cell? ⟨p, 3, none⟩ = some (.int .i64 ((bg : Int) + (xs.length : Int))) := by
 obtain ⟨ba, bc, rfl⟩ := own_slice hb
 have HOK := Lib.hid (nodeE_ok (es := es) (ks := []) he (fun k hk => by cases hk))
 have HSUM := Lib.hid (show ((nodeE es []).map (szI 8)).sum ≤ 4096 by rw [nodeE_sum]; simp; omega)
 have HLEN := Lib.hid (nodeE_len (es := es) (ks := []) he h7 (by simp))
 have HN := Lib.hid hn
 have HBR := Lib.hid hb
 have HFF := Lib.hid hF
 have HPB := Lib.hid hpB
 have hpl := hn.ty.lt
 have c0 := hn.c0
 have c1 := hn.c1
 have c2 := hn.c2
 obtain ⟨ka, kc, rfl, hk1, hk2⟩ := Rd.slice hn.rk.rd
 obtain ⟨va, vc, rfl, hv1, hv2⟩ := Rd.slice hn.rv.rd
 obtain ⟨ca, cc, rfl, hc1, hc2⟩ := Rd.slice hn.rc.rd
 simp only [List.length_nil] at c2
 clear hn hb he hF hpB
 have qE : ∀ (w : World) (r : Option Nat), (binOp .eql 127 (.map r) (.map none)).run Try.prog w = .ok (.bool r.isNone) w := fun w r => run_eql_map_nil w _ _ _ r Try.underlying127
 have qN : ∀ (w : World) (r : Option Nat), (binOp .neq 127 (.map r) (.map none)).run Try.prog w = .ok (.bool !r.isNone) w := fun w r => run_neq_map_nil w _ _ _ r Try.underlying127
 go_enter Try.func65, Try.ntmps65
 go_wp2_with fail
 go_loopw [12, 13, 15, 57] (fun kr vr _ iv wr => ∃ j, j ≤ es.length ∧ iv = .int .i64 (j : Nat) ∧ TwoRows wr w.heap.size kr vr j j ((es.take j).map Prod.fst) ((es.take j).map Prod.snd) ∧ Below w.heap.size w wr) (fun _ _ _ iv _ => es.length - (intOf iv).toNat)
 case atStart => exact ⟨0, by omega, rfl, ⟨World.ownsRow_nil _ _ _ _, World.ownsRow_nil _ _ _ _, fun j hj => by cases hj⟩, Below.refl _ _⟩
 case round =>
  obtain ⟨j, hj, rfl, hrow, hb⟩ := hrel
  have HROW := Lib.hid hrow
  have HB := Lib.hid hb
  obtain ⟨k1a, k1c, rfl⟩ := own_slice hrow.k
  obtain ⟨v1a, v1c, rfl⟩ := own_slice hrow.v
  have hsb := hb.size
  have c0' := cell_later hb c0
  have c1' := cell_later hb c1
  have c2' := cell_later hb c2
  clear hrow hb
  by_cases hlt : j < es.length
  ·
   obtain ⟨kb, ko, rfl, -, -, hkc⟩ := HN.out.rk.at (keys_at hlt)
   obtain ⟨vb, vo, rfl, -, -, hvc0⟩ := HN.out.rv.at (vals_at hlt)
   have hkc := cell_later HB.out hkc
   have HTK := Lib.hid (List.take_succ_eq_append_getElem hlt)
   generalize es[j] = E at *
   obtain ⟨key, val⟩ := E
   simp only at hkc hvc0
   generalize hKS : (es.take j).map Prod.fst = KS at *
   generalize hVS : (es.take j).map Prod.snd = VS at *
   have HKS := Lib.hid hKS
   have HVS := Lib.hid hVS
   clear hKS hVS
   go_wp2_with fail
   refine (wtext_calls (bstr key) _).mono ?_
   rintro e w3 ⟨rfl, hb3⟩
   have hb3' := hb3.trans ((below_alloc w3 (.cells #[.int .i64 1, .int .i64 0, .string (bstr key), .slice none 0 0] 72)).mono hb3.size)
   have HR3 := Lib.hid (HROW.out.below hb3')
   have HB3 := Lib.hid (HB.out.trans (hb3'.mono hsb))
   have HLIT := Lib.hid (Rd.lit (w := w3) (cs := #[.int .i64 1, .int .i64 0, .string (bstr key), .slice none 0 0]) (e := 72) (n := 1) (sz := 4) rfl (by omega))
   have hs3 := HB3.out.size
   clear hb3 hb3'
   go_upto_region 14 with (at_builtin; go_loud (refine app_keep tyItems HR3.out.k HLIT.out (by simp [Value.oneCell']) (by omega) (by omega) (by omega) hs3 rfl rfl rfl rfl ?_; intro g gcap w5 h2 h3 h4 h5; have H2 := Lib.hid h2; have H4 := Lib.hid h4; have H5 := Lib.hid h5; clear h2 h3 h4 h5))
   have HR5 := Lib.hid (HR3.out.pushK key H2.out H4.out H5.out)
   have HB5 := Lib.hid (HB3.out.trans ((Below.refl w.heap.size _).grown H4.out hs3 (fun j e => (World.ownsRow.lt HR3.out.k j e).1)))
   have c1' := cell_later HB5.out c1
   have hvc := cell_later HB5.out hvc0
   clear H2 H4 H5 HROW HR3 HB3 HLIT hs3
   have hs5 := HB5.out.size
   go_wp2_with fail
   refine (wtext_calls (bstr val) _).mono ?_
   rintro e w6 ⟨rfl, hb3⟩
   have hb3' := hb3.trans ((below_alloc w6 (.cells #[.int .i64 1, .int .i64 0, .string (bstr val), .slice none 0 0] 72)).mono hb3.size)
   have HR6 := Lib.hid ((HR5.out.below hb3').swap)
   have HB6 := Lib.hid (HB5.out.trans (hb3'.mono hs5))
   have HLIT := Lib.hid (Rd.lit (w := w6) (cs := #[.int .i64 1, .int .i64 0, .string (bstr val), .slice none 0 0]) (e := 72) (n := 1) (sz := 4) rfl (by omega))
   have hs6 := HB6.out.size
   clear hb3 hb3'
   go_upto_region 15 with (at_builtin; go_loud (refine app_keep tyItems HR6.out.k HLIT.out (by simp [Value.oneCell']) (by omega) (by omega) (by omega) hs6 rfl rfl rfl rfl ?_; intro g2 gcap2 w7 h2 h3 h4 h5; have H2 := Lib.hid h2; have H4 := Lib.hid h4; have H5 := Lib.hid h5; clear h2 h3 h4 h5))
   have HR7 := Lib.hid (HR6.out.pushK val H2.out H4.out H5.out).swap
   have HB7 := Lib.hid (HB6.out.trans ((Below.refl w.heap.size _).grown H4.out hs6 (fun j e => (World.ownsRow.lt HR6.out.k j e).1)))
   clear H2 H4 H5
   go_wp2_with fail
   go_roundw
   case rel =>
    refine ⟨j + 1, by omega, by go_num, ?_, HB7.out⟩
    rw [HTK.out, List.map_append, List.map_append, HKS.out, HVS.out]
    exact HR7.out
   case measure => simp [intOf]; omega
  ·
   obtain rfl : j = es.length := by omega
   rw [List.take_length] at HROW
   clear hlt hj
   go_wp2_with fail
   go_loopw [1, 14, 17, 18, 88] (fun bv cr _ _ iv wq => bv = .slice ba xs.length bc ∧ cr = .slice none 0 0 ∧ iv = .int .i64 0 ∧ wq = wr) (fun _ _ _ _ _ _ => 0)
   case atStart => exact ⟨rfl, rfl, rfl, rfl⟩
   case round =>
    obtain ⟨rfl, rfl, rfl, rfl⟩ := hrel
    have HKI := Lib.hid (tRow_its (d := 6) (ss := es.map Prod.fst) (by rw [List.length_map]; exact HROW.out.k))
    have HVI := Lib.hid (tRow_its (d := 6) (ss := es.map Prod.snd) (by rw [List.length_map]; exact HROW.out.v))
    rw [List.map_map] at HKI HVI
    go_wp2_with fail
    refine (wlist_calls 7 _ _ _ HKI.out (by simp; omega)).mono ?_
    rintro e w1 ⟨l1, rfl, hl1, hb1⟩
    have HL1 := Lib.hid hl1
    have HVI := Lib.hid (HVI.out.below hb1)
    have HB1 := Lib.hid (HB.out.trans (hb1.mono hsb))
    have hs1 := HB1.out.size
    clear hl1 hb1
    go_wp2_with fail
    refine (wlist_calls 7 _ _ _ HVI.out (by simp; omega)).mono ?_
    rintro e w2 ⟨l2, rfl, hl2, hb2⟩
    have HL1 := Lib.hid (HL1.out.below hb2)
    have HL2 := Lib.hid hl2
    have HB2 := Lib.hid (HB1.out.trans (hb2.mono hs1))
    have hs2 := HB2.out.size
    clear hl2 hb2
    go_wp2_with fail
    refine (wlist_calls 7 _ [] _ (Its.nil _ _) (by simp)).mono ?_
    rintro e w3 ⟨l3, rfl, hl3, hb3⟩
    have HL1 := Lib.hid (HL1.out.below hb3)
    have HL2 := Lib.hid (HL2.out.below hb3)
    have HL3 := Lib.hid hl3
    have HB3 := Lib.hid (HB2.out.trans (hb3.mono hs2))
    have hs3 := HB3.out.size
    clear hl3 hb3
    obtain ⟨p1, q1, r1, rfl⟩ : ∃ a n c, l1 = .slice a n c := by obtain ⟨a, c, h, -⟩ := HL1.out.slice; exact ⟨_, _, _, h⟩
    obtain ⟨p2, q2, r2, rfl⟩ : ∃ a n c, l2 = .slice a n c := by obtain ⟨a, c, h, -⟩ := HL2.out.slice; exact ⟨_, _, _, h⟩
    obtain ⟨p3, q3, r3, rfl⟩ : ∃ a n c, l3 = .slice a n c := by obtain ⟨a, c, h, -⟩ := HL3.out.slice; exact ⟨_, _, _, h⟩
    go_wp2_with fail
    have hlit := lit_its (w := w3) 7 [⟨iL (es.map fun e => iT (bstr e.1)), .slice p1 q1 r1⟩, ⟨iL (es.map fun e => iT (bstr e.2)), .slice p2 q2 r2⟩, ⟨iL [], .slice p3 q3 r3⟩] (by simp) (by
     intro x hx
     simp only [List.mem_cons, List.not_mem_nil, or_false] at hx
     rcases hx with rfl | rfl | rfl
     · exact HL1.out
     · exact HL2.out
     · exact HL3.out) rfl
    refine (wencode_calls _ (nodeE es []) _ hlit HOK.out HSUM.out HLEN.out).mono ?_
    rintro e w4 ⟨ev, rfl, ho4, hb4⟩
    obtain ⟨ea, ec, rfl⟩ := own_slice ho4
    have HO4 := Lib.hid ho4
    have HB4 := Lib.hid (below_go (below_box HB3.out _) hb4)
    have hs4 := HB4.out.size
    clear ho4 hb4 hlit HL1 HL2 HL3 HVI HKI HROW
    go_wp2_with fail
    refine (Fr.put_calls _ (enc (nodeE es [])) _ (Bytes.of_own HO4.out)).mono ?_
    rintro e w5 ⟨fv, fc, rfl, hpo, hb5⟩
    unfold Fr.PutOut at hpo
    rw [if_pos HLEN.out] at hpo
    obtain ⟨hfm, rfl⟩ := hpo
    have HB5 := Lib.hid (HB4.out.trans (hb5.mono hs4))
    have hs5 := HB5.out.size
    obtain ⟨fa, fc, rfl⟩ := own_slice (show w5.ownsRow _ 5 1 fv _ _ from hfm)
    have HFM := Lib.hid hfm
    have c3' := cell_later HB5.out hpg
    have f3 := (World.frozen?_of_block (a := ⟨p, 3, none⟩) (HB5.out.block p hpl)).trans (HN.out.fz 3)
    clear hfm hb5
    go_upto_region 29 with fail
    have ho5 : Only (fun j => j = p) w5 (w5.setCell ⟨p, 3, none⟩ (.int .i64 ((bg : Int) + (xs.length : Int)))) := only_set w5 p 3 _
    have hfl := Fr.FrM.frameOf_length (enc (nodeE es []))
    have hel := HLEN.out
    have hfb : (xs.length + (Fr.FrM.frameOf (enc (nodeE es []))).length) ≤ 2000000000 := by omega
    have HBW := Lib.hid (ownsRow_only (ownsRow_below HBR.out HB5.out (Nat.le_refl _)) ho5 (fun g hg e => HPB.out (e ▸ hg)))
    have HFW := Lib.hid (ownsRow_only (show w5.ownsRow _ 5 1 _ _ _ from HFM.out) ho5 (fun g hg e => by have := (World.ownsRow.lt (show w5.ownsRow _ 5 1 _ _ _ from HFM.out) g hg).1; omega))
    have hs6 : B ≤ (w5.setCell ⟨p, 3, none⟩ (.int .i64 ((bg : Int) + (xs.length : Int)))).heap.size := by have := ho5.size; omega
    have HO5 := Lib.hid ho5
    clear ho5 hfl hel
    go_wp2_with (at_builtin; go_loud (refine app_list tyU8 HBW.out (Rd.of_own HFW.out) (bvs_one _) (by omega) (by omega) hs6 rfl rfl rfl rfl ?_; intro v6 w6 hm6 hg6 hn6; obtain ⟨ga, gc, rfl⟩ := own_slice hm6; have HM6 := Lib.hid hm6; have HG6 := Lib.hid hg6; clear hm6 hg6 hn6))
    go_ret2
    have hgo : Only (fun j => (Value.slice ba xs.length bc).ownBlock = some j) (w5.setCell ⟨p, 3, none⟩ (.int .i64 ((bg : Int) + (xs.length : Int)))) w6 := Only.of_grown HG6.out
    refine ⟨_, rfl, ?_, ?_, ?_, ?_⟩
    ·
     rw [List.length_append, bvs_append]
     exact HM6.out
    · exact ((Fr.of_below HB5.out).trans (Fr.setPage _ (HN.out.ty.fr (Fr.of_below HB5.out) HN.out.inF) hok)).trans (Fr.of_only hgo (fun k hk _ e => HFF.out k hk e))
    · exact ((Only.of_below (S := fun j => j = p ∨ (Value.slice ba xs.length bc).ownBlock = some j) HB5.out).setCell ⟨p, 3, none⟩ _ (.inl (.inl rfl))).trans hgo (fun j _ h => .inr h)
    · exact hgo.cell (fun e => HPB.out e) (cell_set_same _ c3')
theorem write_old (p : Nat) (pg : Int) (n cap : Nat) (ba : Option Addr) (bg : Int) (w : World) (hpg : w.cell? ⟨p, 3, none⟩ = some (.int .i64 pg)) (h0 : 0 ≤ pg) :
  Calls Try.prog 65 #[.pointer (some ⟨p, 0, none⟩), .slice ba n cap, .int .i64 bg, .map none] w fun e w' => e = .returned (.tuple #[.slice ba n cap, .int .i64 pg]) ∧ Below w.heap.size w w' := by
 have qE : ∀ (w : World) (r : Option Nat), (binOp .eql 127 (.map r) (.map none)).run Try.prog w = .ok (.bool r.isNone) w := fun w r => run_eql_map_nil w _ _ _ r Try.underlying127
 have d0 : decide (0 ≤ pg) = true := decide_eq_true h0
 go_enter Try.func65, Try.ntmps65
 go_upto_region 4 with fail
 refine region_m [(0, false), (1, false), (2, false), (3, false), (4, false), (5, false), (6, false)] 7 (fun V => V.cell? ⟨p, 3, none⟩ = some (.int .i64 pg)) (by kernel_rfl) (by kernel_rfl) hpg ?_
 iterate 7
  first
  | (
   refine m_take (v := ?_) rfl rfl ?_ ?_
   rotate_left
   ·
    intro W hW
    go_simp
    with_reducible rfl
   simp only [Act.put, List.setIfInBounds_toArray, List.set_cons_zero, List.set_cons_succ])
  | (
   refine m_skip rfl rfl ?_
   simp only [Act.put, List.setIfInBounds_toArray, List.set_cons_zero, List.set_cons_succ])
 refine m_done ?_
 simp only [List.drop_succ_cons, List.drop_zero]
 go_wp2_with fail
 simp only [NP]
 go_wp2_with fail
 go_ret2
 exact ⟨rfl, (Below.refl _ _).drew⟩
end Go.Proofs.Ytmafnjidhjabgaa
