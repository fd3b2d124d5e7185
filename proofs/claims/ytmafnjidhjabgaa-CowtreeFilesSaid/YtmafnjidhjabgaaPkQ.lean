/- Walks and plain laws of the chapter, laid together; each part says what it proves. -/
import Derived.Deep.QuietTactic
import Derived.BigQuiet
import Derived.Test.YtmafnjidhjabgaaPkA
import Derived.Test.YtmafnjidhjabgaaPkK
import Derived.Test.YtmafnjidhjabgaaPkL
import Derived.Test.YtmafnjidhjabgaaPkN
import Derived.Test.YtmafnjidhjabgaaPkP
namespace Go.Proofs.Ytmafnjidhjabgaa
open Go.RowKit Go.Shelf
set_option linter.unusedVariables false
set_option linter.unusedSectionVars false
set_option linter.unusedSimpArgs false
set_option maxRecDepth 100000
variable [Inhabited Pgs]
set_option maxHeartbeats 4000000 in
theorem sread_calls (B p d Bd : Nat) (s : Sl) (D : Dk) (i : Nat) (hi : i < 2) (w : World) (h : SlotAt w B p d s) (hd : DiskAt w Bd d D) (hnm : s.nm.size ≤ 1000) (hl : (fileOf D.now (sfn s.nm i)).length ≤ 1099511627776) :
  Calls Try.prog 46 #[.pointer (some ⟨p, 0, none⟩), .int .i64 (i : Nat)] w fun e w' => e = .returned (.tuple #[.string (readS (fileOf D.now (sfn s.nm i))).1, .int .i64 ((readS (fileOf D.now (sfn s.nm i))).2 : Nat)]) ∧ Below w.heap.size w w' := by
 by_cases h0 : (Fr.FrM.next (fileOf D.now (sfn s.nm i)) 0).2.2 = 0
 ·
  obtain ⟨c0, -⟩ := h.at
  have HS := Lib.hid h
  have HD := Lib.hid hd
  have HX := Lib.hid (sfile_calls B p d s i hi w.drew (h.below (Below.refl _ _).drew) hnm)
  generalize sfn s.nm i = nm at *
  have HR := Lib.hid (readS_dec h0)
  have H0 := Lib.hid h0
  clear h hd hi h0
  go_enter Try.func46, Try.ntmps46
  go_wp2_with fail
  refine region_m [(0, false), (1, false), (2, false), (3, false), (4, false), (5, false), (6, true), (7, true), (8, false), (9, false), (10, false), (11, false), (12, false)] 13 (fun V => V.cell? ⟨p, 0, none⟩ = some (.pointer (some ⟨d, 0, none⟩))) (by kernel_rfl) (by kernel_rfl) c0 ?_
  iterate 6
   refine m_take (v := ?_) rfl rfl ?_ ?_
   rotate_left
   ·
    intro W hW
    go_simp
    with_reducible rfl
   simp only [Act.put, List.setIfInBounds_toArray, List.set_cons_zero, List.set_cons_succ]
  refine m_loud rfl (fun K hK => ?_)
  have HK := Lib.hid hK
  clear hK
  go_simp
  refine HX.out.mono ?_
  rintro e w1 ⟨rfl, hb1⟩
  have hb1 : Below w.heap.size w w1 := ((Below.refl w.heap.size w).drew).trans hb1
  have HB1 := Lib.hid hb1
  refine HK.out _ _ (cell_later hb1 c0) ?_
  clear HK
  refine m_loud rfl (fun K hK => ?_)
  have HK := Lib.hid hK
  clear hK
  go_simp
  refine (dread_calls d Bd D nm w1 (HD.out.below HB1.out) hl).mono ?_
  rintro e w2 ⟨v, rfl, hm2, hb2⟩
  have hb2 := below_go HB1.out hb2
  have HB2 := Lib.hid hb2
  have HM2 := Lib.hid hm2
  refine HK.out _ _ (cell_later hb2 c0) ?_
  clear HK
  clear hb1 hb2 hm2 c0
  iterate 5
   refine m_take (v := ?_) rfl rfl ?_ ?_
   rotate_left
   ·
    intro W hW
    go_simp
    with_reducible rfl
   simp only [Act.put, List.setIfInBounds_toArray, List.set_cons_zero, List.set_cons_succ]
  refine m_done ?_
  simp only [List.drop_succ_cons, List.drop_zero]
  go_wp2_with fail
  try simp only [NP]
  go_upto_region 3 with (go_at_call 49; (refine (Fr.next_calls v (fileOf D.now nm) 0 w2 HM2.out.bytes ⟨by omega, by omega⟩ (by omega)).mono ?_; rintro e w3 ⟨r, n, c, rfl, ⟨hr, hn3, hc3⟩, hb3⟩; obtain rfl : c = 0 := hc3.trans H0.out; have HB3 := Lib.hid (below_go HB2.out hb3); have HR3 := Lib.hid hr; clear hr hn3 hc3 hb3))
  obtain ⟨ra, rc, rfl⟩ := HR3.out.slice
  generalize (Fr.FrM.next (fileOf D.now nm) 0).1 = pl at *
  clear H0 HX HS HD
  go_upto_region 6 with (go_at_call 24; refine (wdecode2_calls _ _ _ HR3.out.bytes (by have := HR3.out.bytes; obtain ⟨_, _, -, q1, q2, -⟩ := this; omega)).mono ?_; rintro e w4 ⟨lv, cd, rfl, hb4, ⟨la, ln, lc, rfl⟩, hres⟩; have HB4 := Lib.hid (below_go HB3.out hb4); have HRES := Lib.hid hres; clear hb4 hres)
  cases hd : dec pl with
  | none =>
   have hres := HRES.out
   unfold DecRes2 at hres
   rw [hd] at hres
   obtain ⟨hcd, hlv⟩ := hres
   have e0 : (cd != 0) = true := by simp [hcd]
   have HNO := Lib.hid (show readS (fileOf D.now nm) = (⟨#[]⟩, 0) by rw [HR.out, hd]; rfl)
   clear hcd hlv hd
   go_wp2_with fail
   go_ret2
   refine ⟨?_, HB4.out⟩
   rw [HNO.out]
   rfl
  | some l =>
   have hres := HRES.out
   unfold DecRes2 at hres
   rw [hd] at hres
   obtain ⟨rfl, ys, hys, hrow, hkd⟩ := hres
   have HIT := Lib.hid (show ItR (fun j => w3.heap.size ≤ j ∧ j < w4.heap.size) 9 w4 (.slice la ln lc) l from ⟨ys, hys, by have := Rd.of_own hrow; exact this, fun a n c e _ => World.ownsRow.lt hrow a.block (by rw [e]; rfl), hkd⟩)
   have HWF := Lib.hid (dec_wf hd).2
   have HPL := Lib.hid (show readS (fileOf D.now nm) = readI l by rw [HR.out, hd]; rfl)
   obtain ⟨qa', qc', qe', ql1, ql2⟩ := HIT.out.slice
   simp only [Value.slice.injEq] at qe'
   obtain ⟨rfl, rfl, rfl⟩ := qe'
   clear hys hrow hkd hd HRES HR
   by_cases hl : l.length = 2
   ·
    obtain ⟨x, z, rfl⟩ : ∃ a b, l = [a, b] := by
     match l, hl with
     | [a, b], _ => exact ⟨a, b, rfl⟩
    obtain ⟨ib, io, xl, rfl, a0, a1, -, -, -, -⟩ := iv_at HIT.out 0 (by simp)
    obtain ⟨ib', io', zl, hbo, b0, -, b2, -, -, -⟩ := iv_at HIT.out 1 (by simp)
    simp only [Option.some.injEq, Addr.mk.injEq, and_true] at hbo
    obtain ⟨rfl, rfl⟩ := hbo
    replace a0 : w4.cell? ⟨ib, io, none⟩ = some (.int .i64 x.k) := by have := a0; simpa using this
    replace a1 : w4.cell? ⟨ib, io + 1, none⟩ = some (.int .i64 x.n) := by have := a1; simpa using this
    replace b0 : w4.cell? ⟨ib, io + 4, none⟩ = some (.int .i64 z.k) := by have := b0; simpa using this
    replace b2 : w4.cell? ⟨ib, io + 4 + 2, none⟩ = some (.string z.s) := by have := b2; simpa using this
    have hxn := wfI_n (HWF.out x (by simp))
    have HP2 := Lib.hid (HPL.out.trans (readI_two x z))
    simp only [List.length_cons, List.length_nil, Nat.reduceAdd] at *
    clear HIT HWF HPL hl
    generalize x.k = xk at *
    generalize x.n = xn at *
    generalize z.k = zk at *
    generalize z.s = zs at *
    by_cases hk0 : xk = 0
    ·
     have e0 : (xk != 0) = false := by simpa using hk0
     by_cases hn1 : xn < 1
     ·
      have e1 : decide (xn < 1) = true := decide_eq_true hn1
      have HNO := Lib.hid (show readS (fileOf D.now nm) = (⟨#[]⟩, 0) by rw [HP2.out, if_neg (by omega)])
      clear hk0 hn1
      go_wp2_with fail
      go_ret2
      refine ⟨?_, HB4.out⟩
      rw [HNO.out]
      rfl
     ·
      have e1 : decide (xn < 1) = false := decide_eq_false hn1
      by_cases hz1 : zk = 1
      ·
       have e2 : (zk != 1) = false := by simpa using hz1
       have HYE := Lib.hid (show readS (fileOf D.now nm) = (zs, xn.toNat) by rw [HP2.out, if_pos ⟨hk0, by omega, hz1⟩])
       have HXN := Lib.hid (show xn = (xn.toNat : Nat) by omega)
       clear hk0 hz1 hn1
       go_wp2_with fail
       go_quiet (fail)
       go_wp2_with fail
       go_ret2
       refine ⟨?_, HB4.out.trans (below_dn (Below.refl _ _) _)⟩
       rw [HYE.out, ← HXN.out]
       rfl
      ·
       have e2 : (zk != 1) = true := by simpa using hz1
       have HNO := Lib.hid (show readS (fileOf D.now nm) = (⟨#[]⟩, 0) by rw [HP2.out, if_neg (by omega)])
       clear hk0 hz1 hn1
       go_wp2_with fail
       go_ret2
       refine ⟨?_, HB4.out⟩
       rw [HNO.out]
       rfl
    ·
     have e0 : (xk != 0) = true := by simpa using hk0
     have HNO := Lib.hid (show readS (fileOf D.now nm) = (⟨#[]⟩, 0) by rw [HP2.out, if_neg (by omega)])
     clear hk0
     go_wp2_with fail
     go_ret2
     refine ⟨?_, HB4.out⟩
     rw [HNO.out]
     rfl
   ·
    have e1 : ((l.length : Int) != 2) = true := by simp; omega
    have HNO := Lib.hid (show readS (fileOf D.now nm) = (⟨#[]⟩, 0) by rw [HPL.out, readI_len hl])
    go_wp2_with fail
    go_ret2
    refine ⟨?_, HB4.out⟩
    rw [HNO.out]
    rfl
 ·
  rw [readS_none h0]
  exact sread_none B p d Bd s D i hi w h hd hnm hl h0
end Go.Proofs.Ytmafnjidhjabgaa
namespace Go.Proofs.Ytmafnjidhjabgaa
open Go.RowKit Go.Shelf
set_option linter.unusedVariables false
set_option linter.unusedSectionVars false
set_option linter.unusedSimpArgs false
set_option maxRecDepth 100000
variable [Inhabited Pgs]
def openSt (D : Dk) (i : Nat) (s : Sl) : Sl := if (readS (fileOf D.now (sfn s.nm i))).2 ≤ s.ver then s else { s with val := (readS (fileOf D.now (sfn s.nm i))).1, ver := (readS (fileOf D.now (sfn s.nm i))).2, inn := (i : Nat) }
def openN (D : Dk) (nm : ByteArray) : Nat → Sl
 | 0 => sNew nm
 | k + 1 => openSt D k (openN D nm k)
theorem openSt_nm (D : Dk) (i : Nat) (s : Sl) : (openSt D i s).nm = s.nm ∧ (openSt D i s).broken = s.broken := by unfold openSt; split <;> exact ⟨rfl, rfl⟩
theorem openN_nm (D : Dk) (nm : ByteArray) : ∀ k, (openN D nm k).nm = nm ∧ (openN D nm k).broken = false
 | 0 => ⟨rfl, rfl⟩
 | k + 1 => ⟨(openSt_nm _ _ _).1.trans (openN_nm D nm k).1, (openSt_nm _ _ _).2.trans (openN_nm D nm k).2⟩
theorem SlotAt.set3 {w : World} {B p d : Nat} {s : Sl} (h : SlotAt w B p d s) (v : ByteArray) (n : Nat) (i : Int) : SlotAt (((w.setCell ⟨p, 2, none⟩ (.string v)).setCell ⟨p, 3, none⟩ (.int .i64 (n : Nat))).setCell ⟨p, 4, none⟩ (.int .i64 i)) B p d { s with val := v, ver := n, inn := i } :=
 (World.ownsRow.stored (World.ownsRow.stored (World.ownsRow.stored h 2 (.string v)).1 3 (.int .i64 (n : Nat))).1 4 (.int .i64 i)).1
set_option maxHeartbeats 4000000 in
theorem sopen_calls (d Bd : Nat) (D : Dk) (nm : ByteArray) (w : World) (hd : DiskAt w Bd d D) (h1 : 1 ≤ nm.size) (h2 : nm.size ≤ 12) (hlow : lowName nm)
  (hl : ∀ i, i < 2 → (fileOf D.now (sfn nm i)).length ≤ 1099511627776) :
  Calls Try.prog 22 #[.pointer (some ⟨d, 0, none⟩), .string nm] w fun e w' => ∃ p, e = .returned (.tuple #[.pointer (some ⟨p, 0, none⟩), .int .i64 0]) ∧ SlotAt w' w.heap.size p d (openN D nm 2) ∧ Below w.heap.size w w' := by
 have HD := Lib.hid hd
 have HL := Lib.hid hl
 have d1 : decide ((nm.size : Int) < 1) = false := decide_eq_false (by omega)
 have d2 : decide ((12 : Int) < (nm.size : Int)) = false := decide_eq_false (by omega)
 have HLOW := Lib.hid hlow
 obtain ⟨w1, cap, hcv, hb1, hby⟩ := conv_str nm w (by omega)
 have hlen : nm.data.toList.length = nm.size := by rw [Array.length_toList]; rfl
 have HB1 := Lib.hid hb1
 have HBY := Lib.hid hby
 have HLEN := Lib.hid hlen
 clear hd hl hlow hb1 hby hlen
 refine (callsIn_wide (n := 0)).1 ?_
 refine callsIn_of_wp Try.func22 rfl trivial ?_
 simp only [Try.ntmps22, List.size_toArray, List.length_cons, List.length_nil, Nat.reduceAdd, Nat.reduceSub, Array.replicate_succ, Array.replicate_zero, List.push_toArray, List.append_toArray, List.nil_append, List.cons_append]
 gi_wp2_with fail
 refine scope_w ?_
 gi_wp2_with fail
 gi_loopw [25] (fun iv wr => ∃ k : Nat, k ≤ nm.size ∧ iv = .int .i64 k ∧ wr = w1) (fun iv _ => nm.size - (intOf iv).toNat)
 case atStart => exact ⟨0, by omega, rfl, rfl⟩
 case round =>
  obtain ⟨k, hk, rfl, rfl⟩ := hrel
  by_cases hlt : k < nm.size
  ·
   have hlt' : k < nm.data.toList.length := by rw [HLEN.out]; exact hlt
   obtain ⟨a, c2, he, hle, hcap, hc⟩ := HBY.out
   simp only [Value.slice.injEq] at he
   obtain ⟨rfl, -, rfl⟩ := he
   rcases hc with hc | ⟨b, off, hab, hc⟩
   · omega
   simp only [Option.some.injEq, Addr.mk.injEq, and_true] at hab
   obtain ⟨rfl, rfl⟩ := hab
   have c0 := hc k hlt'
   rw [Nat.zero_add] at c0
   obtain ⟨l1, l2⟩ := HLOW.out k hlt'
   have d3 : decide (bt nm.data.toList k < 97) = false := decide_eq_false (by omega)
   have d4 : decide (122 < bt nm.data.toList k) = false := decide_eq_false (by omega)
   generalize bt nm.data.toList k = c at *
   clear hc hle hcap
   gi_wp2_with fail
   exact ⟨⟨k + 1, by omega, by go_num, by trivial⟩, by simp [intOf]; omega⟩
  ·
   obtain rfl : k = nm.size := by omega
   gi_wp2_with fail
   have hs := World.ownsRow_lit (base := w.heap.size) (size := 6) (e := 103) wr #[.pointer (some ⟨d, 0, none⟩), .string nm, .string ⟨#[]⟩, .int .i64 0, .int .i64 (-1), .bool false] 1 HB1.out.size (by unfold maxLen; omega) rfl
   have hbx := below_go HB1.out (below_alloc wr (.cells #[.pointer (some ⟨d, 0, none⟩), .string nm, .string ⟨#[]⟩, .int .i64 0, .int .i64 (-1), .bool false] 103))
   have HSX := Lib.hid (show SlotAt (wr.alloc (.cells #[.pointer (some ⟨d, 0, none⟩), .string nm, .string ⟨#[]⟩, .int .i64 0, .int .i64 (-1), .bool false] 103)) w.heap.size wr.heap.size d (openN D nm 0) from by unfold SlotAt; simpa [Sl.cells, openN, sNew] using hs)
   have HBX := Lib.hid hbx
   clear hs hbx hcv HBY HLOW HLEN HB1
   generalize wr.alloc (.cells #[.pointer (some ⟨d, 0, none⟩), .string nm, .string ⟨#[]⟩, .int .i64 0, .int .i64 (-1), .bool false] 103) = X at *
   refine label_w ?_
   gi_wp2_with fail
   generalize wr.heap.size = P at *
   gi_loopw [40] (fun iv V => ∃ k : Nat, k ≤ 2 ∧ iv = .int .i64 k ∧ SlotAt V w.heap.size P d (openN D nm k) ∧ Below w.heap.size w V) (fun iv _ => 2 - (intOf iv).toNat)
   case atStart => exact ⟨0, by omega, rfl, HSX.out, HBX.out⟩
   case round =>
    clear HSX HBX
    obtain ⟨k, hk, rfl, hs, hb⟩ := hrel
    have HS := Lib.hid hs
    have HB := Lib.hid hb
    obtain ⟨hnm, hbk⟩ := openN_nm D nm k
    have HNM := Lib.hid hnm
    have HEQ := Lib.hid (show openN D nm (k + 1) = openSt D k (openN D nm k) from rfl)
    clear hs hb hnm hbk
    generalize hse : openN D nm k = s at *
    have HSE := Lib.hid hse
    clear hse
    have c3 : wr.cell? ⟨P, 3, none⟩ = some (.int .i64 (s.ver : Nat)) := HS.out.at.2.2.2.1
    have fz := HS.out.at.2.2.2.2.2.2
    have f2 := fz 2
    have f3 := fz 3
    have f4 := fz 4
    have HPL := Lib.hid HS.out.lt
    by_cases hk2 : k < 2
    ·
     have HR := Lib.hid (sread_calls w.heap.size P d Bd s D k hk2 wr HS.out (HD.out.below HB.out) (by rw [HNM.out]; omega) (by rw [HNM.out]; exact HL.out k hk2))
     have hok := readS_ok (fileOf D.now (sfn s.nm k))
     have HOP := Lib.hid (show openSt D k s = if (readS (fileOf D.now (sfn s.nm k))).2 ≤ s.ver then s else { s with val := (readS (fileOf D.now (sfn s.nm k))).1, ver := (readS (fileOf D.now (sfn s.nm k))).2, inn := (k : Nat) } from rfl)
     generalize readS (fileOf D.now (sfn s.nm k)) = R at *
     obtain ⟨v, n⟩ := R
     simp only at HR HOP hok
     by_cases hle : n ≤ s.ver
     ·
      have HN := Lib.hid (show openN D nm (k + 1) = s by rw [HEQ.out, HOP.out, if_pos hle])
      have d5 : decide ((n : Int) ≤ (s.ver : Int)) = true := decide_eq_true (by omega)
      have d6 : decide (n ≤ s.ver) = true := decide_eq_true hle
      gi_wp2_with (gi_at_call 46; refine (callsIn_wide.2 HR.out).mono ?_; rintro e w4 ⟨rfl, hb4⟩; have c3 := cell_later hb4 c3; have HB4 := Lib.hid hb4; clear hb4)
      exact ⟨⟨k + 1, by omega, by go_num, by rw [HN.out]; exact HS.out.below HB4.out, below_go HB.out HB4.out⟩, by simp [intOf]; omega⟩
     ·
      have HN := Lib.hid (show openN D nm (k + 1) = { s with val := v, ver := n, inn := (k : Nat) } by rw [HEQ.out, HOP.out, if_neg hle])
      have d5 : decide ((n : Int) ≤ (s.ver : Int)) = false := decide_eq_false (by omega)
      have d6 : decide (n ≤ s.ver) = false := decide_eq_false hle
      gi_wp2_with (gi_at_call 46; refine (callsIn_wide.2 HR.out).mono ?_; rintro e w4 ⟨rfl, hb4⟩; have c3 := cell_later hb4 c3; have f2 := frozen_later hb4 (HS.out.at.2.2.1) f2; have f3 := frozen_later hb4 (HS.out.at.2.2.2.1) f3; have f4 := frozen_later hb4 (HS.out.at.2.2.2.2.1) f4; have c2 := cell_later hb4 (HS.out.at.2.2.1); have c4 := cell_later hb4 (HS.out.at.2.2.2.2.1); have HB4 := Lib.hid hb4; clear hb4)
      refine ⟨⟨k + 1, by omega, by go_num, by rw [HN.out]; exact (HS.out.below HB4.out).set3 v n k, ?_⟩, by simp [intOf]; omega⟩
      have hp := HPL.out.1
      exact (((below_go HB.out HB4.out).setCell (by show w.heap.size ≤ P; exact hp) _).setCell (by show w.heap.size ≤ P; exact hp) _).setCell (by show w.heap.size ≤ P; exact hp) _
    ·
     obtain rfl : k = 2 := by omega
     gi_wp2_with fail
     try rw [Exit.noGoto_ret]
     go_ret2
     exact ⟨P, rfl, by rw [HSE.out]; exact HS.out, HB.out⟩
set_option maxHeartbeats 1000000 in
theorem sopen_size (d : Nat) (nm : ByteArray) (w : World) (h : nm.size < 1 ∨ 12 < nm.size) :
  Calls Try.prog 22 #[.pointer (some ⟨d, 0, none⟩), .string nm] w fun e w' => e = .returned (.tuple #[.pointer none, .int .i64 1]) ∧ Below w.heap.size w w' := by
 refine (callsIn_wide (n := 0)).1 ?_
 refine callsIn_of_wp Try.func22 rfl trivial ?_
 simp only [Try.ntmps22, List.size_toArray, List.length_cons, List.length_nil, Nat.reduceAdd, Nat.reduceSub, Array.replicate_succ, Array.replicate_zero, List.push_toArray, List.append_toArray, List.nil_append, List.cons_append]
 by_cases h1 : nm.size < 1
 ·
  have d1 : decide ((nm.size : Int) < 1) = true := decide_eq_true (by omega)
  gi_wp2_with fail
  refine scope_w ?_
  gi_wp2_with fail
  try rw [Exit.noGoto_ret]
  go_ret2
  exact ⟨rfl, Below.refl _ _⟩
 ·
  have d1 : decide ((nm.size : Int) < 1) = false := decide_eq_false (by omega)
  have d2 : decide ((12 : Int) < (nm.size : Int)) = true := decide_eq_true (by omega)
  gi_wp2_with fail
  refine scope_w ?_
  gi_wp2_with fail
  try rw [Exit.noGoto_ret]
  go_ret2
  exact ⟨rfl, Below.refl _ _⟩
set_option maxHeartbeats 4000000 in
theorem sopen_bad (d : Nat) (nm : ByteArray) (w : World) (h1 : 1 ≤ nm.size) (h2 : nm.size ≤ 12) (hlow : ¬ lowName nm) :
  Calls Try.prog 22 #[.pointer (some ⟨d, 0, none⟩), .string nm] w fun e w' => e = .returned (.tuple #[.pointer none, .int .i64 1]) ∧ Below w.heap.size w w' := by
 have d1 : decide ((nm.size : Int) < 1) = false := decide_eq_false (by omega)
 have d2 : decide ((12 : Int) < (nm.size : Int)) = false := decide_eq_false (by omega)
 have HLOW := Lib.hid hlow
 obtain ⟨w1, cap, hcv, hb1, hby⟩ := conv_str nm w (by omega)
 have hlen : nm.data.toList.length = nm.size := by rw [Array.length_toList]; rfl
 have HB1 := Lib.hid hb1
 have HBY := Lib.hid hby
 have HLEN := Lib.hid hlen
 clear hlow hb1 hby hlen
 refine (callsIn_wide (n := 0)).1 ?_
 refine callsIn_of_wp Try.func22 rfl trivial ?_
 simp only [Try.ntmps22, List.size_toArray, List.length_cons, List.length_nil, Nat.reduceAdd, Nat.reduceSub, Array.replicate_succ, Array.replicate_zero, List.push_toArray, List.append_toArray, List.nil_append, List.cons_append]
 gi_wp2_with fail
 refine scope_w ?_
 gi_wp2_with fail
 gi_loopw [25] (fun iv wr => ∃ k : Nat, k ≤ nm.size ∧ iv = .int .i64 k ∧ wr = w1 ∧ ∀ j, j < k → 97 ≤ bt nm.data.toList j ∧ bt nm.data.toList j ≤ 122) (fun iv _ => nm.size - (intOf iv).toNat)
 case atStart => exact ⟨0, by omega, rfl, rfl, fun j hj => by omega⟩
 case round =>
  obtain ⟨k, hk, rfl, rfl, hup⟩ := hrel
  have HUP := Lib.hid hup
  clear hup
  by_cases hlt : k < nm.size
  ·
   have hlt' : k < nm.data.toList.length := by rw [HLEN.out]; exact hlt
   obtain ⟨a, c2, he, hle, hcap, hc⟩ := HBY.out
   simp only [Value.slice.injEq] at he
   obtain ⟨rfl, -, rfl⟩ := he
   rcases hc with hc | ⟨b, off, hab, hc⟩
   · omega
   simp only [Option.some.injEq, Addr.mk.injEq, and_true] at hab
   obtain ⟨rfl, rfl⟩ := hab
   have c0 := hc k hlt'
   rw [Nat.zero_add] at c0
   have HC := Lib.hid (show ∀ c, bt nm.data.toList k = c → 97 ≤ c → c ≤ 122 → ∀ j, j < k + 1 → 97 ≤ bt nm.data.toList j ∧ bt nm.data.toList j ≤ 122 from fun c e h1 h2 j hj => by
    rcases Nat.lt_or_ge j k with h | h
    · exact HUP.out j h
    ·
     obtain rfl : j = k := by omega
     rw [e]; exact ⟨h1, h2⟩)
   generalize hcc : bt nm.data.toList k = c at *
   have HC2 := Lib.hid (HC.out c rfl)
   clear hc hle hcap hcc HC
   by_cases hc1 : c < 97
   ·
    have d3 : decide (c < 97) = true := decide_eq_true hc1
    gi_wp2_with fail
    try rw [Exit.noGoto_ret]
    go_ret2
    exact ⟨rfl, HB1.out⟩
   ·
    have d3 : decide (c < 97) = false := decide_eq_false hc1
    by_cases hc2 : 122 < c
    ·
     have d4 : decide (122 < c) = true := decide_eq_true hc2
     gi_wp2_with fail
     try rw [Exit.noGoto_ret]
     go_ret2
     exact ⟨rfl, HB1.out⟩
    ·
     have d4 : decide (122 < c) = false := decide_eq_false hc2
     gi_wp2_with fail
     exact ⟨⟨k + 1, by omega, by go_num, by trivial, HC2.out (by omega) (by omega)⟩, by simp [intOf]; omega⟩
  ·
   obtain rfl : k = nm.size := by omega
   exact absurd (fun j hj => HUP.out j (by have := HLEN.out; omega)) HLOW.out
end Go.Proofs.Ytmafnjidhjabgaa
namespace Go.Proofs.Ytmafnjidhjabgaa
open Go.RowKit Go.Shelf
set_option linter.unusedVariables false
set_option linter.unusedSectionVars false
set_option linter.unusedSimpArgs false
set_option maxRecDepth 100000
variable [Inhabited Pgs]
section
variable {pg : Int}
structure Wg (pg : Int) (w : World) (B p : Nat) (kv vv cv : Value) (ks vs cs : List Value) : Prop where
 box : w.ownsRow B 91 4 (.slice (some ⟨p, 0, none⟩) 1 1) 1 [kv, vv, cv, .int .i64 pg]
 k : w.ownsRow B 9 1 kv ks.length ks
 v : w.ownsRow B 9 1 vv vs.length vs
 c : w.ownsRow B 63 1 cv cs.length cs
 ne : ∀ j, kv.ownBlock = some j → vv.ownBlock ≠ some j
theorem Wg.cells {w : World} {B p : Nat} {kv vv cv : Value} {ks vs cs : List Value} (h : Wg pg w B p kv vv cv ks vs cs) :
  w.cell? ⟨p, 0, none⟩ = some kv ∧ w.cell? ⟨p, 1, none⟩ = some vv ∧ w.cell? ⟨p, 2, none⟩ = some cv ∧ w.cell? ⟨p, 3, none⟩ = some (.int .i64 pg) ∧ ∀ o, w.frozen? ⟨p, o, none⟩ = false := by
 have hc := World.ownsRow.cells h.box rfl
 refine ⟨?_, ?_, ?_, ?_, fun o => World.ownsRow.frozenAt h.box o⟩
 · have := hc 0 kv rfl; rwa [add_off] at this
 · have := hc 1 vv rfl; rwa [add_off] at this
 · have := hc 2 cv rfl; rwa [add_off] at this
 · have := hc 3 _ rfl; rwa [add_off] at this
theorem Wg.lt {w : World} {B p : Nat} {kv vv cv : Value} {ks vs cs : List Value} (h : Wg pg w B p kv vv cv ks vs cs) : B ≤ p ∧ p < w.heap.size := World.ownsRow.lt h.box _ rfl
theorem Wg.foot {w : World} {B p : Nat} {kv vv cv : Value} {ks vs cs : List Value} (h : Wg pg w B p kv vv cv ks vs cs) {j : Nat} (hj : wkB p kv vv cv j) : B ≤ j ∧ j < w.heap.size := by
 rcases hj with rfl | hj | hj | hj
 · exact h.lt
 · exact World.ownsRow.lt h.k _ hj
 · exact World.ownsRow.lt h.v _ hj
 · exact World.ownsRow.lt h.c _ hj
theorem Wg.nd {w : World} {B p : Nat} {kv vv cv : Value} {es : List KV} {ps : List Nat} (h : Wg pg w B p kv vv cv (es.map fun e => strV e.1) (es.map fun e => strV e.2) (ps.map ptrV)) {F : Nat → Prop} (hF : ∀ j, wkB p kv vv cv j → F j) (hpg : okPg p pg) : NdAt w F p kv vv cv es ps := by
 obtain ⟨c0, c1, c2, c3, fz⟩ := h.cells
 have hk := h.k
 have hv := h.v
 have hc := h.c
 rw [List.length_map] at hk hv hc
 exact ⟨hF p (.inl rfl), c0, c1, c2, ⟨_, c3, hpg⟩, fz, IsT.of_own h.box rfl, Row.of_own hk (fun j hj => hF j (.inr (.inl hj))), Row.of_own hv (fun j hj => hF j (.inr (.inr (.inl hj)))), Row.of_own hc (fun j hj => hF j (.inr (.inr (.inr hj))))⟩
theorem Wg.only {S : Nat → Prop} {w w' : World} {B p : Nat} {kv vv cv : Value} {ks vs cs : List Value} (h : Wg pg w B p kv vv cv ks vs cs) (ho : Only S w w') (hS : ∀ j, wkB p kv vv cv j → ¬ S j) : Wg pg w' B p kv vv cv ks vs cs :=
 ⟨ownsRow_only h.box ho (fun g hg => hS g (.inl (by simpa [Value.ownBlock] using hg.symm))), ownsRow_only h.k ho (fun g hg => hS g (.inr (.inl hg))), ownsRow_only h.v ho (fun g hg => hS g (.inr (.inr (.inl hg)))), ownsRow_only h.c ho (fun g hg => hS g (.inr (.inr (.inr hg)))), h.ne⟩
theorem Wg.below {w w' : World} {B p : Nat} {kv vv cv : Value} {ks vs cs : List Value} (h : Wg pg w B p kv vv cv ks vs cs) (hb : Below w.heap.size w w') : Wg pg w' B p kv vv cv ks vs cs := h.only (S := fun _ => False) (Only.of_below hb) (fun _ _ h => h)
theorem Wg.make {w : World} {B : Nat} {kv vv cv : Value} {ks vs cs : List Value} (hk : w.ownsRow B 9 1 kv ks.length ks) (hv : w.ownsRow B 9 1 vv vs.length vs) (hc : w.ownsRow B 63 1 cv cs.length cs) (hne : ∀ j, kv.ownBlock = some j → vv.ownBlock ≠ some j) (hB : B ≤ w.heap.size) :
  Wg pg (w.alloc (.cells #[kv, vv, cv, .int .i64 pg] 91)) B w.heap.size kv vv cv ks vs cs := by
 have hb := below_alloc w (.cells #[kv, vv, cv, .int .i64 pg] 91)
 refine ⟨?_, ownsRow_below hk hb (Nat.le_refl _), ownsRow_below hv hb (Nat.le_refl _), ownsRow_below hc hb (Nat.le_refl _), hne⟩
 have := World.ownsRow_lit (base := B) (size := 4) (e := 91) w #[kv, vv, cv, .int .i64 pg] 1 hB (by unfold maxLen; omega) rfl
 simpa using this
end
section
variable {w w0 w1 : World} {B p : Nat} {pg : Int} {kv vv cv v' : Value} {ks vs cs xs : List Value}
theorem Wg.kp (h : Wg pg w B p kv vv cv ks vs cs) {j : Nat} (hj : kv.ownBlock = some j) : j ≠ p := by
 rintro rfl
 exact own_apart h.k h.box (by decide) j hj rfl
theorem Wg.vp (h : Wg pg w B p kv vv cv ks vs cs) {j : Nat} (hj : vv.ownBlock = some j) : j ≠ p := by
 rintro rfl
 exact own_apart h.v h.box (by decide) j hj rfl
theorem Wg.cp (h : Wg pg w B p kv vv cv ks vs cs) {j : Nat} (hj : cv.ownBlock = some j) : j ≠ p := by
 rintro rfl
 exact own_apart h.c h.box (by decide) j hj rfl
theorem Wg.kc (h : Wg pg w B p kv vv cv ks vs cs) {j : Nat} (hj : kv.ownBlock = some j) : cv.ownBlock ≠ some j := own_apart h.k h.c (by decide) j hj
theorem Wg.vc (h : Wg pg w B p kv vv cv ks vs cs) {j : Nat} (hj : vv.ownBlock = some j) : cv.ownBlock ≠ some j := own_apart h.v h.c (by decide) j hj
theorem Wg.setK (h : Wg pg w B p kv vv cv ks vs cs) (hb : Only (fun _ => False) w w0) (ho : w1.ownsRow B 9 1 v' xs.length xs) (hon : Only (fun j => kv.ownBlock = some j) w0 w1) (hf : ∀ j, v'.ownBlock = some j → kv.ownBlock = some j ∨ w0.heap.size ≤ j) :
  Wg pg (w1.setCell ⟨p, 0, none⟩ v') B p v' vv cv xs vs cs ∧ Only (wkB p kv vv cv) w (w1.setCell ⟨p, 0, none⟩ v') := by
 have hall : Only (fun j => kv.ownBlock = some j) w w1 := (hb.weak (fun _ _ h => h.elim)).trans hon (fun _ _ h => h)
 have hne : ∀ j, v'.ownBlock = some j → ∀ q, q < w.heap.size → ¬ kv.ownBlock = some q → j ≠ q := by
  rintro j hj q hq hk rfl
  rcases hf j hj with h1 | h1
  · exact hk h1
  · have := hb.size; omega
 have hpk : ¬ kv.ownBlock = some p := fun e => h.kp e rfl
 have hvp : ∀ j, v'.ownBlock = some j → j ≠ p := fun j hj => hne j hj p h.lt.2 hpk
 refine ⟨⟨?_, ?_, ?_, ?_, ?_⟩, ?_⟩
 ·
  have := own_setBox (ownsRow_only h.box hall (fun g hg => by simp only [Value.ownBlock, Option.some.injEq] at hg; subst hg; exact hpk)) 0 v'
  simpa using this
 · exact ownsRow_only ho (only_set w1 p 0 v') (fun g hg => hvp g hg)
 · exact ownsRow_only (ownsRow_only h.v hall (fun g hg hk => h.ne g hk hg)) (only_set w1 p 0 v') (fun g hg => h.vp hg)
 · exact ownsRow_only (ownsRow_only h.c hall (fun g hg hk => h.kc hk hg)) (only_set w1 p 0 v') (fun g hg => h.cp hg)
 ·
  intro j hj hv
  exact hne j hj j (World.ownsRow.lt h.v j hv).2 (fun hk => h.ne j hk hv) rfl
 · exact (hall.weak (fun j _ hj => .inr (.inl hj))).trans (only_set w1 p 0 v') (fun j _ hj => .inl hj)
theorem Wg.setV (h : Wg pg w B p kv vv cv ks vs cs) (hb : Only (fun _ => False) w w0) (ho : w1.ownsRow B 9 1 v' xs.length xs) (hon : Only (fun j => vv.ownBlock = some j) w0 w1) (hf : ∀ j, v'.ownBlock = some j → vv.ownBlock = some j ∨ w0.heap.size ≤ j) :
  Wg pg (w1.setCell ⟨p, 1, none⟩ v') B p kv v' cv ks xs cs ∧ Only (wkB p kv vv cv) w (w1.setCell ⟨p, 1, none⟩ v') := by
 have hall : Only (fun j => vv.ownBlock = some j) w w1 := (hb.weak (fun _ _ h => h.elim)).trans hon (fun _ _ h => h)
 have hne : ∀ j, v'.ownBlock = some j → ∀ q, q < w.heap.size → ¬ vv.ownBlock = some q → j ≠ q := by
  rintro j hj q hq hk rfl
  rcases hf j hj with h1 | h1
  · exact hk h1
  · have := hb.size; omega
 have hpk : ¬ vv.ownBlock = some p := fun e => h.vp e rfl
 have hvp : ∀ j, v'.ownBlock = some j → j ≠ p := fun j hj => hne j hj p h.lt.2 hpk
 refine ⟨⟨?_, ?_, ?_, ?_, ?_⟩, ?_⟩
 ·
  have := own_setBox (ownsRow_only h.box hall (fun g hg => by simp only [Value.ownBlock, Option.some.injEq] at hg; subst hg; exact hpk)) 1 v'
  simpa using this
 · exact ownsRow_only (ownsRow_only h.k hall (fun g hg hk => h.ne g hg hk)) (only_set w1 p 1 v') (fun g hg => h.kp hg)
 · exact ownsRow_only ho (only_set w1 p 1 v') (fun g hg => hvp g hg)
 · exact ownsRow_only (ownsRow_only h.c hall (fun g hg hk => h.vc hk hg)) (only_set w1 p 1 v') (fun g hg => h.cp hg)
 ·
  intro j hk hj
  exact hne j hj j (World.ownsRow.lt h.k j hk).2 (fun hv => h.ne j hk hv) rfl
 · exact (hall.weak (fun j _ hj => .inr (.inr (.inl hj)))).trans (only_set w1 p 1 v') (fun j _ hj => .inl hj)
theorem Wg.setC (h : Wg pg w B p kv vv cv ks vs cs) (hb : Only (fun _ => False) w w0) (ho : w1.ownsRow B 63 1 v' xs.length xs) (hon : Only (fun j => cv.ownBlock = some j) w0 w1) (hf : ∀ j, v'.ownBlock = some j → cv.ownBlock = some j ∨ w0.heap.size ≤ j) :
  Wg pg (w1.setCell ⟨p, 2, none⟩ v') B p kv vv v' ks vs xs ∧ Only (wkB p kv vv cv) w (w1.setCell ⟨p, 2, none⟩ v') := by
 have hall : Only (fun j => cv.ownBlock = some j) w w1 := (hb.weak (fun _ _ h => h.elim)).trans hon (fun _ _ h => h)
 have hpk : ¬ cv.ownBlock = some p := fun e => h.cp e rfl
 have hvp : ∀ j, v'.ownBlock = some j → j ≠ p := by
  rintro j hj rfl
  rcases hf j hj with h1 | h1
  · exact hpk h1
  · have := hb.size; have := h.lt.2; omega
 refine ⟨⟨?_, ?_, ?_, ?_, h.ne⟩, ?_⟩
 ·
  have := own_setBox (ownsRow_only h.box hall (fun g hg => by simp only [Value.ownBlock, Option.some.injEq] at hg; subst hg; exact hpk)) 2 v'
  simpa using this
 · exact ownsRow_only (ownsRow_only h.k hall (fun g hg hk => h.kc hg hk)) (only_set w1 p 2 v') (fun g hg => h.kp hg)
 · exact ownsRow_only (ownsRow_only h.v hall (fun g hg hk => h.vc hg hk)) (only_set w1 p 2 v') (fun g hg => h.vp hg)
 · exact ownsRow_only ho (only_set w1 p 2 v') (fun g hg => hvp g hg)
 · exact (hall.weak (fun j _ hj => .inr (.inr (.inr hj)))).trans (only_set w1 p 2 v') (fun j _ hj => .inl hj)
end
theorem NdAt.maps {S F : Nat → Prop} {w w' : World} {p : Nat} {kv vv cv : Value} {es : List KV} {ps : List Nat} (h : NdAt w F p kv vv cv es ps) (ho : Only S w w') (hS : ∀ j, S j → ¬ TyB w j) : NdAt w' F p kv vv cv es ps :=
 (h.typ.fr (Fr.of_only ho (fun k hk _ hs => hS k hs hk.2))).mono (fun _ h => h.1)
def PgAt (w : World) (F : Nat → Prop) (b : List UInt8) : Nat → Int → Nat → Prop
 | 0, _, _ => False
 | d + 1, pg, p => ∃ es ks kv vv cv ps, pageP b pg = some (es, ks) ∧ NdAt w F p kv vv cv es ps ∧ w.cell? ⟨p, 3, none⟩ = some (.int .i64 pg) ∧ ps.length = ks.length ∧ ∀ (i : Nat) (c : Int) (q : Nat), ks[i]? = some c → ps[i]? = some q → PgAt w F b d c q
theorem PgAt.maps {S F : Nat → Prop} {w w' : World} {b : List UInt8} (ho : Only S w w') (hS : ∀ j, S j → ¬ TyB w j) : ∀ {d : Nat} {pg : Int} {p : Nat}, PgAt w F b d pg p → PgAt w' F b d pg p
 | 0, _, _, h => h
 | d + 1, pg, p, h => by
  obtain ⟨es, ks, kv, vv, cv, ps, h1, h2, h3, h4, h5⟩ := h
  exact ⟨es, ks, kv, vv, cv, ps, h1, h2.maps ho hS, ho.cell (fun hs => hS p hs (.inl h2.ty)) h3, h4, fun i c q hc hq => PgAt.maps ho hS (h5 i c q hc hq)⟩
theorem PgAt.page {F : Nat → Prop} {w : World} {b : List UInt8} {d : Nat} {pg : Int} {p : Nat} (h : PgAt w F b d pg p) : w.cell? ⟨p, 3, none⟩ = some (.int .i64 pg) := by
 cases d with
 | zero => exact h.elim
 | succ d => obtain ⟨es, ks, kv, vv, cv, ps, h1, h2, h3, h4, h5⟩ := h; exact h3
theorem PgAt.tree {F : Nat → Prop} {w : World} {b : List UInt8} : ∀ {h : Nat} {d : Nat} {pg : Int} {p : Nat} {t : BT h}, PgAt w F b d pg p → btP b h pg = some t → TreeAt w F h t p
 | _, 0, _, _, _, h, _ => h.elim
 | 0, d + 1, pg, p, t, h, ht => by
  obtain ⟨es, ks, kv, vv, cv, ps, h1, h2, h3, h4, h5⟩ := h
  unfold btP at ht
  rw [h1] at ht
  cases ks with
  | nil =>
   cases ht
   obtain rfl : ps = [] := List.length_eq_zero_iff.1 h4
   exact ⟨kv, vv, cv, h2⟩
  | cons k ks => cases ht
 | h + 1, d + 1, pg, p, t, hp, ht => by
  obtain ⟨es, ks, kv, vv, cv, ps, h1, h2, h3, h4, h5⟩ := hp
  unfold btP at ht
  rw [h1] at ht
  cases ks with
  | nil => cases ht
  | cons k ks =>
   cases hm : kidsM (btP b h) (k :: ks) with
   | none => simp only [hm] at ht; cases ht
   | some l =>
    simp only [hm] at ht
    cases ht
    refine ⟨kv, vv, cv, ps, h2, h4.trans (kidsM_len hm).symm, fun i c q hc hq => ?_⟩
    obtain ⟨hi, -⟩ := List.getElem?_eq_some_iff.1 hq
    have hk : (k :: ks)[i]? = some (k :: ks)[i] := List.getElem?_eq_getElem (by omega)
    obtain ⟨t2, e1, e2⟩ := kidsM_at hm i _ hk
    have hc' : l[i]? = some c := hc
    rw [hc'] at e1
    cases e1
    exact PgAt.tree (h5 i _ q hk hq) e2
def KnAt (w : World) (F : Nat → Prop) (b : List UInt8) (K : Nat) : Prop := ∃ m : List (Int × Value), Im.MapIs w K m ∧ ∀ k v, Im.mget m k = some v → ∃ p d, v = ptrV p ∧ PgAt w F b d k p
def SeenAt (w : World) (S : Nat) (s : List Int) : Prop := ∃ m : List (Int × Value), Im.MapIs w S m ∧ ∀ k, Im.mget m k = if k ∈ s then some (.bool true) else none
theorem imap_cells {w : World} {r : Nat} {m : List (Int × Value)} (h : Im.MapIs w r m) : ¬ TyB w r := by
 rintro (⟨cs, x, hc⟩ | ⟨cs, x, hc⟩ | ⟨cs, x, hc⟩)
 · exact h.cell cs _ x hc
 · exact h.cell cs _ x hc
 · exact h.cell cs _ x hc
theorem KnAt.ty {w : World} {F : Nat → Prop} {b : List UInt8} {K : Nat} (h : KnAt w F b K) : ¬ TyB w K := by obtain ⟨m, h, -⟩ := h; exact imap_cells h
theorem SeenAt.ty {w : World} {S : Nat} {s : List Int} (h : SeenAt w S s) : ¬ TyB w S := by obtain ⟨m, h, -⟩ := h; exact imap_cells h
theorem KnAt.lt {w : World} {F : Nat → Prop} {b : List UInt8} {K : Nat} (h : KnAt w F b K) : K < w.heap.size := by obtain ⟨m, h, -⟩ := h; exact h.lt
theorem SeenAt.lt {w : World} {S : Nat} {s : List Int} (h : SeenAt w S s) : S < w.heap.size := by obtain ⟨m, h, -⟩ := h; exact h.lt
theorem KnAt.only {w w' : World} {S F : Nat → Prop} {b : List UInt8} {K : Nat} (h : KnAt w F b K) (ho : Only S w w') (hS : ∀ j, S j → ¬ TyB w j) (hK : ¬ S K) : KnAt w' F b K := by
 obtain ⟨m, h, h2⟩ := h
 refine ⟨m, h.only ho hK, fun k v hv => ?_⟩
 obtain ⟨p, d, e, hp⟩ := h2 k v hv
 exact ⟨p, d, e, hp.maps ho hS⟩
theorem SeenAt.only {w w' : World} {S' : Nat → Prop} {S : Nat} {s : List Int} (h : SeenAt w S s) (ho : Only S' w w') (hS : ¬ S' S) : SeenAt w' S s := by
 obtain ⟨m, h, h2⟩ := h
 exact ⟨m, h.only ho hS, h2⟩
theorem KnAt.below {w w' : World} {F : Nat → Prop} {b : List UInt8} {K : Nat} (h : KnAt w F b K) (hb : Below w.heap.size w w') : KnAt w' F b K := h.only (S := fun _ => False) (Only.of_below hb) (fun _ h => h.elim) (fun h => h)
theorem SeenAt.below {w w' : World} {S : Nat} {s : List Int} (h : SeenAt w S s) (hb : Below w.heap.size w w') : SeenAt w' S s := h.only (S' := fun _ => False) (Only.of_below hb) (fun h => h)
theorem KnAt.new {w w' : World} {F : Nat → Prop} {b : List UInt8} (hw : w' = w.alloc (.map #[] 0)) : KnAt w' F b w.heap.size := by
 subst hw
 exact ⟨[], Im.MapIs.made w, fun k v h => by cases h⟩
theorem SeenAt.new {w w' : World} (hw : w' = w.alloc (.map #[] 0)) : SeenAt w' w.heap.size [] := by
 subst hw
 exact ⟨[], Im.MapIs.made w, fun k => rfl⟩
section
variable {P : Program} {w : World} {K : Nat} {t kt et : TypeId}
theorem SeenAt.look {s : List Int} (h : SeenAt w K s) (ht : P.underlying t = some (.map kt et)) (hk : P.underlying kt = some (.int .i64)) (hz : ∀ w, (zeroValue et).run P w = .ok (.bool false) w) (k : Int) :
  (Instr.lookup t (.map (some K)) (.int .i64 k) false).run P w = .ok (.bool (decide (k ∈ s))) w := by
 obtain ⟨m, h, h2⟩ := h
 have := h.look (P := P) ht hk hz k false
 rw [this, h2 k]
 by_cases hm : k ∈ s <;> simp [hm]
theorem SeenAt.put {s : List Int} (h : SeenAt w K s) (ht : P.underlying t = some (.map kt et)) (hk : P.underlying kt = some (.int .i64)) (k : Int) :
  ∃ w', (Instr.mapUpdate t (.map (some K)) (.int .i64 k) (.bool true)).run P w = .ok () w' ∧ SeenAt w' K (k :: s) ∧ Only (fun j => j = K) w w' := by
 obtain ⟨m, h, h2⟩ := h
 obtain ⟨w', hr, hm, hg, -⟩ := h.upd (P := P) ht hk k (.bool true)
 refine ⟨w', hr, ⟨_, hm, fun q => ?_⟩, (Only.of_grown hg).weak (fun j _ e => (Option.some.inj e).symm)⟩
 by_cases e : q = k
 ·
  subst e
  rw [Im.mget_put_same, if_pos List.mem_cons_self]
 ·
  rw [Im.mget_put_other e, h2 q]
  simp [e]
theorem KnAt.look {F : Nat → Prop} {b : List UInt8} (h : KnAt w F b K) (ht : P.underlying t = some (.map kt et)) (hk : P.underlying kt = some (.int .i64)) (hz : ∀ w, (zeroValue et).run P w = .ok (.pointer none) w) (k : Int) :
  (Instr.lookup t (.map (some K)) (.int .i64 k) false).run P w = .ok (.pointer none) w ∨ ∃ p d, (Instr.lookup t (.map (some K)) (.int .i64 k) false).run P w = .ok (ptrV p) w ∧ PgAt w F b d k p := by
 obtain ⟨m, h, h2⟩ := h
 have := h.look (P := P) ht hk hz k false
 rw [this]
 cases hm : Im.mget m k with
 | none => exact .inl rfl
 | some v =>
  obtain ⟨p, d, rfl, hp⟩ := h2 k v hm
  exact .inr ⟨p, d, rfl, hp⟩
theorem KnAt.put {F : Nat → Prop} {b : List UInt8} (h : KnAt w F b K) (ht : P.underlying t = some (.map kt et)) (hk : P.underlying kt = some (.int .i64)) {k : Int} {p d : Nat} (hp : PgAt w F b d k p) :
  ∃ w', (Instr.mapUpdate t (.map (some K)) (.int .i64 k) (ptrV p)).run P w = .ok () w' ∧ KnAt w' F b K ∧ Only (fun j => j = K) w w' := by
 have hty := h.ty
 obtain ⟨m, h, h2⟩ := h
 obtain ⟨w', hr, hm, hg, -⟩ := h.upd (P := P) ht hk k (ptrV p)
 have ho : Only (fun j => j = K) w w' := (Only.of_grown hg).weak (fun j _ e => (Option.some.inj e).symm)
 have hS : ∀ j, j = K → ¬ TyB w j := fun j e => by rw [e]; exact hty
 refine ⟨w', hr, ⟨_, hm, fun q v hv => ?_⟩, ho⟩
 by_cases e : q = k
 ·
  subst e
  rw [Im.mget_put_same] at hv
  cases hv
  exact ⟨p, d, rfl, hp.maps ho hS⟩
 ·
  rw [Im.mget_put_other e] at hv
  obtain ⟨p2, d2, rfl, hp2⟩ := h2 q v hv
  exact ⟨p2, d2, rfl, hp2.maps ho hS⟩
end
theorem NdAt.turn {S F G : Nat → Prop} {w w' : World} {p : Nat} {kv vv cv : Value} {es : List KV} {ps : List Nat} (h : NdAt w F p kv vv cv es ps) (ho : Only S w w') (hS : ∀ j, F j → TyB w j → ¬ S j) (hG : ∀ j, F j → TyB w j → G j) : NdAt w' G p kv vv cv es ps :=
 (h.typ.fr (Fr.of_only ho (fun k hk _ hs => hS k hk.1 hk.2 hs)) |> fun h2 => ((h2.mono (G := fun k => G k) (fun j hj => hG j hj.1 hj.2)) : NdAt w' G p kv vv cv es ps))
theorem PgAt.turn {S F G : Nat → Prop} {w w' : World} {b : List UInt8} (ho : Only S w w') (hS : ∀ j, F j → TyB w j → ¬ S j) (hG : ∀ j, F j → TyB w j → G j) : ∀ {d : Nat} {pg : Int} {p : Nat}, PgAt w F b d pg p → PgAt w' G b d pg p
 | 0, _, _, h => h
 | d + 1, pg, p, h => by
  obtain ⟨es, ks, kv, vv, cv, ps, h1, h2, h3, h4, h5⟩ := h
  exact ⟨es, ks, kv, vv, cv, ps, h1, h2.turn ho hS hG, ho.cell (fun hs => hS p h2.inF (.inl h2.ty) hs) h3, h4, fun i c q hc hq => PgAt.turn ho hS hG (h5 i c q hc hq)⟩
theorem KnAt.turn {w w' : World} {S F G : Nat → Prop} {b : List UInt8} {K : Nat} (h : KnAt w F b K) (ho : Only S w w') (hK : ¬ S K) (hS : ∀ j, F j → TyB w j → ¬ S j) (hG : ∀ j, F j → TyB w j → G j) : KnAt w' G b K := by
 obtain ⟨m, h, h2⟩ := h
 refine ⟨m, h.only ho hK, fun k v hv => ?_⟩
 obtain ⟨p, d, e, hp⟩ := h2 k v hv
 exact ⟨p, d, e, hp.turn ho hS hG⟩
theorem loadK_at {g : Int → List Int → Option (List Int)} : ∀ {ks s s' : List Int}, loadK g ks s = some s' → ∀ (i : Nat) (c : Int), ks[i]? = some c → ∃ s1 s2, g c s1 = some s2
 | [], _, _, _, i, c, hi => by simp at hi
 | k :: ks, s, s', h, i, c, hi => by
  unfold loadK at h
  cases hg : g k s with
  | none => rw [hg] at h; cases h
  | some s1 =>
   rw [hg] at h
   cases i with
   | zero =>
    simp only [List.getElem?_cons_zero, Option.some.injEq] at hi
    subst hi
    exact ⟨_, _, hg⟩
   | succ i => exact loadK_at h i c (by simpa using hi)
theorem PgAt.cut {F : Nat → Prop} {w : World} {b : List UInt8} : ∀ {f d : Nat} {pg : Int} {p : Nat} {s s' : List Int}, PgAt w F b d pg p → loadP b f pg s = some s' → PgAt w F b f pg p
 | 0, _, _, _, _, _, _, h => by cases h
 | _ + 1, 0, _, _, _, _, h, _ => h.elim
 | f + 1, d + 1, pg, p, s, s', h, hl => by
  obtain ⟨es, ks, kv, vv, cv, ps, h1, h2, h3, h4, h5⟩ := h
  obtain ⟨-, es', ks', e1, hk⟩ := loadP_some hl
  rw [h1] at e1
  cases e1
  refine ⟨es, ks, kv, vv, cv, ps, h1, h2, h3, h4, fun i c q hc hq => ?_⟩
  obtain ⟨s1, s2, e⟩ := loadK_at hk i c hc
  exact PgAt.cut (h5 i c q hc hq) e
def KS (K S : Nat) (j : Nat) : Prop := j = K ∨ j = S
def LoadOut (w w' : World) (F : Nat → Prop) (b : List UInt8) (K S f : Nat) (pg : Int) (s : List Int) (e : Ending) : Prop := Only (KS K S) w w' ∧ match loadP b f pg s with
 | none => e = .returned (.tuple #[.pointer none, .bool false])
 | some s' => ∃ p, e = .returned (.tuple #[ptrV p, .bool true]) ∧ PgAt w' F b f pg p ∧ SeenAt w' S s' ∧ KnAt w' F b K
theorem LoadOut.no {w w' : World} {F : Nat → Prop} {b : List UInt8} {K S f : Nat} {pg : Int} {s : List Int} {e : Ending} (ho : Only (KS K S) w w') (h : loadP b f pg s = none) (he : e = .returned (.tuple #[.pointer none, .bool false])) : LoadOut w w' F b K S f pg s e := by
 refine ⟨ho, ?_⟩
 rw [h]
 exact he
theorem LoadOut.yes {w w' : World} {F : Nat → Prop} {b : List UInt8} {K S f : Nat} {pg : Int} {s s' : List Int} {e : Ending} {p : Nat} (ho : Only (KS K S) w w') (h : loadP b f pg s = some s') (he : e = .returned (.tuple #[ptrV p, .bool true])) (h1 : PgAt w' F b f pg p) (h2 : SeenAt w' S s') (h3 : KnAt w' F b K) : LoadOut w w' F b K S f pg s e := by
 refine ⟨ho, ?_⟩
 rw [h]
 exact ⟨p, he, h1, h2, h3⟩
theorem LoadOut.cases {w w' : World} {F : Nat → Prop} {b : List UInt8} {K S f : Nat} {pg : Int} {s : List Int} {e : Ending} (h : LoadOut w w' F b K S f pg s e) : Only (KS K S) w w' ∧ ((loadP b f pg s = none ∧ e = .returned (.tuple #[.pointer none, .bool false])) ∨ ∃ s' p, loadP b f pg s = some s' ∧ e = .returned (.tuple #[.pointer (some ⟨p, 0, none⟩), .bool true]) ∧ PgAt w' F b f pg p ∧ SeenAt w' S s' ∧ KnAt w' F b K) := by
 obtain ⟨ho, hc⟩ := h
 refine ⟨ho, ?_⟩
 cases hl : loadP b f pg s with
 | none => rw [hl] at hc; exact .inl ⟨rfl, hc⟩
 | some s' => rw [hl] at hc; obtain ⟨p, h⟩ := hc; exact .inr ⟨s', p, rfl, h⟩
theorem IsU8.map {w : World} {r : Nat} {m : List (Int × Value)} (h : Im.MapIs w r m) : ¬ IsU8 w r := by
 rintro ⟨cs, x, hc⟩
 exact h.cell cs _ x hc
theorem Txt.ks {w w' : World} {F : Nat → Prop} {b xs : List UInt8} {v : Value} {K S : Nat} {s : List Int} (h : Txt w v xs) (hk : KnAt w F b K) (hs : SeenAt w S s) (ho : Only (KS K S) w w') : Txt w' v xs := by
 refine h.only ho (fun j hj => ?_)
 obtain ⟨m, hk, -⟩ := hk
 obtain ⟨m', hs, -⟩ := hs
 rcases hj with rfl | rfl
 · exact IsU8.map hk
 · exact IsU8.map hs
end Go.Proofs.Ytmafnjidhjabgaa
namespace Go.Proofs.Ytmafnjidhjabgaa
open Go.RowKit Go.Shelf
set_option linter.unusedVariables false
set_option linter.unusedSectionVars false
set_option linter.unusedSimpArgs false
set_option maxRecDepth 100000
variable [Inhabited Pgs]
theorem zero_ndp (w : World) : (zeroValue 63).run Try.prog w = .ok (.pointer none) w := by kernel_rfl
theorem zero_bool (w : World) : (zeroValue 4).run Try.prog w = .ok (.bool false) w := by kernel_rfl
theorem bstr_its (s : ByteArray) : bstr s.data.toList = s := by cases s; simp [bstr]
theorem zip_fst : ∀ {k v : List Itc}, k.length = v.length → (List.zip (k.map itS) (v.map itS)).map (fun e => strV e.1) = k.map (fun i => Value.string i.s)
 | [], _, _ => rfl
 | i :: k, [], h => by cases h
 | i :: k, j :: v, h => by
  show strV (itS i) :: (List.zip (k.map itS) (v.map itS)).map (fun e => strV e.1) = _ :: _
  rw [zip_fst (k := k) (v := v) (by simpa using h)]
  show Value.string (bstr i.s.data.toList) :: _ = _
  rw [bstr_its]
theorem zip_snd : ∀ {k v : List Itc}, k.length = v.length → (List.zip (k.map itS) (v.map itS)).map (fun e => strV e.2) = v.map (fun i => Value.string i.s)
 | [], [], _ => rfl
 | [], _ :: _, h => by cases h
 | i :: k, [], h => by cases h
 | i :: k, j :: v, h => by
  show strV (itS j) :: (List.zip (k.map itS) (v.map itS)).map (fun e => strV e.2) = _ :: _
  rw [zip_snd (k := k) (v := v) (by simpa using h)]
  show Value.string (bstr j.s.data.toList) :: _ = _
  rw [bstr_its]
def LoadSpec (b : List UInt8) (f : Nat) : Prop := ∀ (F : Nat → Prop) (K S : Nat) (bv : Value) (pg dp : Int) (s : List Int) (w : World), dp = 41 - (f : Nat) → I64 pg → ¬ (pg = -1 ∧ f = 41) → f ≤ 41 → K ≠ S → (∀ j, w.heap.size ≤ j → F j) → Txt w bv b → KnAt w F b K → SeenAt w S s →
 Calls Try.prog 27 #[bv, .int .i64 pg, .int .i64 dp, .map (some K), .map (some S)] w fun e w' => LoadOut w w' F b K S f pg s e
set_option maxHeartbeats 8000000 in
theorem load_step (b : List UInt8) (f : Nat) (hlen : b.length ≤ 1099511627776) (hok : ∀ p pg, 0 ≤ pg → pg ≤ 1099511627776 → okPg p pg) (hih : ∀ g, f = g + 1 → LoadSpec b g) : LoadSpec b f := by
 intro F K S bv pg dp s w hdp hpg hm1 hf hKS hF ht hk hs
 obtain ⟨ba, bc, rfl⟩ := ht.slice
 have HIH := Lib.hid hih
 have HT := Lib.hid ht
 have HK0 := Lib.hid hk
 have HS0 := Lib.hid hs
 have HF := Lib.hid hF
 have HOK := Lib.hid hok
 have HPG := Lib.hid hpg
 obtain ⟨r1, hr1⟩ : ∃ r1, (pg == -1) = r1 := ⟨_, rfl⟩
 obtain ⟨r2, hr2⟩ : ∃ r2, (dp == 0) = r2 := ⟨_, rfl⟩
 have h12 : r1 = false ∨ r2 = false := by
  cases r1
  · exact .inl rfl
  ·
   cases r2
   · exact .inr rfl
   ·
    exfalso
    have e1 : pg = -1 := by simpa using hr1
    have e2 : dp = 0 := by simpa using hr2
    exact hm1 ⟨e1, by omega⟩
 have hl1 := hs.look (P := Try.prog) (t := 79) Try.underlying79 Try.underlying3 zero_bool pg
 obtain ⟨r3, hr3⟩ : ∃ r3, decide (pg ∈ s) = r3 := ⟨_, rfl⟩
 rw [hr3] at hl1
 have HR3 := Lib.hid hr3
 have HDP := Lib.hid hdp
 clear ht hk hs hih hok hpg hm1 hdp hF
 go_enter Try.func27, Try.ntmps27
 cases r3 with
 | true =>
  have HNO := Lib.hid (show loadP b f pg s = none by
   cases f with
   | zero => rfl
   | succ f => unfold loadP; rw [if_pos (of_decide_eq_true HR3.out)])
  rcases h12 with rfl | rfl
  ·
   go_wp2_with fail
   go_ret2
   exact LoadOut.no (Only.refl _ _) HNO.out rfl
  ·
   cases r1
   ·
    go_wp2_with fail
    go_ret2
    exact LoadOut.no (Only.refl _ _) HNO.out rfl
   ·
    go_wp2_with fail
    go_ret2
    exact LoadOut.no (Only.refl _ _) HNO.out rfl
 | false =>
  cases f with
  | zero =>
   obtain rfl : dp = 41 := by have := HDP.out; omega
   rcases h12 with rfl | rfl
   ·
    go_wp2_with fail
    go_ret2
    exact LoadOut.no (Only.refl _ _) rfl rfl
   ·
    cases r1
    ·
     go_wp2_with fail
     go_ret2
     exact LoadOut.no (Only.refl _ _) rfl rfl
    ·
     go_wp2_with fail
     go_ret2
     exact LoadOut.no (Only.refl _ _) rfl rfl
  | succ f =>
   have hdp40 : decide (40 < dp) = false := decide_eq_false (by have := HDP.out; omega)
   obtain ⟨w1, hu1, hs1, ho1⟩ := HS0.out.put (P := Try.prog) (t := 79) Try.underlying79 Try.underlying3 pg
   have hS1 : ∀ j, j = S → ¬ TyB w j := fun j e => by rw [e]; exact HS0.out.ty
   have HS1 := Lib.hid hs1
   have HK1 := Lib.hid (HK0.out.only ho1 hS1 hKS)
   have HO1 := Lib.hid (show Only (KS K S) w w1 from ho1.weak (fun j _ e => .inr e))
   have HT1 := Lib.hid (HT.out.ks HK0.out HS0.out HO1.out)
   have hns : pg ∉ s := of_decide_eq_false HR3.out
   have HLP := Lib.hid (show loadP b (f + 1) pg s = (match pageP b pg with | none => none | some (_, ks) => loadK (loadP b f) ks (pg :: s)) from if_neg hns)
   clear hs1 ho1 hS1 hns
   have hkl := HK1.out.look (P := Try.prog) (t := 76) Try.underlying76 Try.underlying3 zero_ndp pg
   rcases hkl with hkl | ⟨p, d, hkl, hp⟩
   ·
    have HNX := Lib.hid (Fr.next_calls (.slice ba b.length bc) b pg w1 HT1.out.1 HPG.out (by omega))
    have HBV := Lib.hid (Below.refl w1.heap.size w1)
    by_cases hc0 : (Fr.FrM.next b pg).2.2 = 0
    ·
     have HPGB := Lib.hid (show pg ≤ 1099511627776 by have := (next_in hc0).2; omega)
     have hpg0 := (next_in hc0).1
     obtain rfl : r1 = false := by
      rw [← hr1]
      simp; omega
     have HPP := Lib.hid (show pageP b pg = (dec (Fr.FrM.next b pg).1).bind pageI by unfold pageP; rw [if_pos hc0])
     have HC0 := Lib.hid hc0
     clear h12 hr1 hr2 hc0
     go_upto_region 19 with (go_at_call 49; refine HNX.out.mono ?_; rintro e w2 ⟨r, n, c, rfl, ⟨hr, hn, hc⟩, hb2⟩; obtain rfl : c = 0 := hc.trans HC0.out; have HR2 := Lib.hid hr; have HB2 := Lib.hid hb2; clear hr hn hc hb2)
     obtain ⟨ra, rc, rfl⟩ := HR2.out.slice
     obtain ⟨qa, qc, -, qh1, qh2, -⟩ := HR2.out.bytes
     generalize (Fr.FrM.next b pg).1 = pl at *
     go_upto_region 20 with (go_at_call 24; refine (wdecode2_calls _ _ _ HR2.out.bytes (by omega)).mono ?_; rintro e w3 ⟨lv, cd, rfl, hb3, ⟨la, ln, lc, rfl⟩, hres⟩; have HB3 := Lib.hid (below_go HB2.out hb3); have HRES := Lib.hid hres; clear hb3 hres)
     have HO3 := Lib.hid (show Only (KS K S) w w3 from HO1.out.trans (Only.of_below HB3.out) (fun _ _ h => h))
     cases hd : dec pl with
     | none =>
      have hres := HRES.out
      unfold DecRes2 at hres
      rw [hd] at hres
      obtain ⟨hcd, hlv⟩ := hres
      have e0 : (cd != 0) = true := by simp [hcd]
      have HNO := Lib.hid (show loadP b (f + 1) pg s = none by rw [HLP.out, HPP.out, hd]; rfl)
      clear hcd hlv hd
      go_quiet (fail)
      go_wp2_with fail
      go_ret2
      exact LoadOut.no (HO3.out.trans (Only.of_below (below_dn (Below.refl _ _) _)) (fun _ _ h => h)) HNO.out rfl
     | some l =>
      have hres := HRES.out
      unfold DecRes2 at hres
      rw [hd] at hres
      obtain ⟨rfl, ys, hys, hrow, hkd⟩ := hres
      have HIT := Lib.hid (show ItR (fun j => w2.heap.size ≤ j ∧ j < w3.heap.size) 9 w3 (.slice la ln lc) l from ⟨ys, hys, by have := Rd.of_own hrow; exact this, fun a n c e _ => World.ownsRow.lt hrow a.block (by rw [e]; rfl), hkd⟩)
      have HWF := Lib.hid (dec_wf hd).2
      have HPL := Lib.hid (show pageP b pg = pageI l by rw [HPP.out, hd]; rfl)
      obtain ⟨qa', qc', qe', ql1, ql2⟩ := HIT.out.slice
      simp only [Value.slice.injEq] at qe'
      obtain ⟨rfl, rfl, rfl⟩ := qe'
      clear hys hrow hkd hd HPP HRES
      by_cases hl : l.length = 3
      ·
       obtain ⟨ki, vi, ci, rfl⟩ : ∃ a b c, l = [a, b, c] := by
        match l, hl with
        | [a, b, c], _ => exact ⟨a, b, c, rfl⟩
       obtain ⟨ib, io, kl, rfl, -, -, -, a3, hka, -⟩ := iv_at HIT.out 0 (by simp)
       obtain ⟨ib', io', vl, hbo, -, -, -, b3, hva, -⟩ := iv_at HIT.out 1 (by simp)
       simp only [Option.some.injEq, Addr.mk.injEq, and_true] at hbo
       obtain ⟨rfl, rfl⟩ := hbo
       obtain ⟨ib', io', cl, hbo, -, -, -, d3, hca, -⟩ := iv_at HIT.out 2 (by simp)
       simp only [Option.some.injEq, Addr.mk.injEq, and_true] at hbo
       obtain ⟨rfl, rfl⟩ := hbo
       obtain ⟨ka, kc, rfl, hk1, hk2⟩ := hka.slice
       obtain ⟨va, vc, rfl, hv1, hv2⟩ := hva.slice
       obtain ⟨ca, cc, rfl, hc1, hc2⟩ := hca.slice
       replace a3 : w3.cell? ⟨ib, io + 3, none⟩ = some (.slice ka ki.l.length kc) := by have := a3; simpa using this
       replace b3 : w3.cell? ⟨ib, io + 4 + 3, none⟩ = some (.slice va vi.l.length vc) := by have := b3; simpa using this
       replace d3 : w3.cell? ⟨ib, io + 8 + 3, none⟩ = some (.slice ca ci.l.length cc) := by have := d3; simpa using this
       have hkw := wfI_len (HWF.out ki (by simp))
       have hvw := wfI_len (HWF.out vi (by simp))
       have hcw := wfI_len (HWF.out ci (by simp))
       have HB3 := HB3
       have HKA := Lib.hid (show ItR (fun j => w2.heap.size ≤ j ∧ j < w3.heap.size) 8 w3 (.slice ka ki.l.length kc) ki.l from hka)
       have HVA := Lib.hid (show ItR (fun j => w2.heap.size ≤ j ∧ j < w3.heap.size) 8 w3 (.slice va vi.l.length vc) vi.l from hva)
       have HCA := Lib.hid (show ItR (fun j => w2.heap.size ≤ j ∧ j < w3.heap.size) 8 w3 (.slice ca ci.l.length cc) ci.l from hca)
       have HP3 := Lib.hid (HPL.out.trans (pageI_three ki vi ci))
       have HWC := Lib.hid (wfI_l (HWF.out ci (by simp)))
       simp only [List.length_cons, List.length_nil, Nat.reduceAdd] at *
       have hl3 : (3 : Nat) ≤ lc := by omega
       clear hka hva hca HPL HWF HIT hk1 hv1 hc1
       generalize hnk : ki.l.length = nk at *
       generalize hnv : vi.l.length = nv at *
       generalize hnc : ci.l.length = nc at *
       have HNK := Lib.hid (And.intro hnk (And.intro hnv hnc))
       clear hnk hnv hnc
       have q1 := i64w (n := (nk : Int) + 1) (by omega) (by omega)
       have hl3' : (2 : Int) < 3 := by decide
       by_cases hA2 : nk = 0
       ·
        have e2 : ((nk : Int) == 0) = true := by simp [hA2]
        have HNO := Lib.hid (show loadP b (f + 1) pg s = none by rw [HLP.out, HP3.out, if_pos (.inl hA2)])
        clear hA2
        go_quiet (fail)
        go_wp2_with fail
        go_ret2
        exact LoadOut.no (HO3.out.trans (Only.of_below (below_dn (Below.refl _ _) _)) (fun _ _ h => h)) HNO.out rfl
       ·
        have e2 : ((nk : Int) == 0) = false := by simp; omega
        by_cases hA3 : nk = nv
        ·
         have e3 : ((nk : Int) != (nv : Int)) = false := by simp [hA3]
         by_cases hA4 : 0 < nc
         ·
          have d4 : decide ((0 : Int) < (nc : Int)) = true := decide_eq_true (by omega)
          have d4' : decide (0 < nc) = true := decide_eq_true hA4
          by_cases hA5 : nc = nk + 1
          ·
           have e5 : ((nc : Int) != (nk : Int) + 1) = false := by simp; omega
           have hcn : ¬ (nk = 0 ∨ nk ≠ nv ∨ (0 < nc ∧ nc ≠ nk + 1)) := by omega
           have HP4 := Lib.hid (HP3.out.trans (if_neg hcn))
           have HNN := Lib.hid (And.intro hA3 (And.intro hA5 (And.intro hA2 hA4)))
           clear HP3 hcn hA2 hA3 hA4 hA5
           go_quiet (fail)
           go_upto_region 23 with fail
           obtain ⟨V, hV⟩ : ∃ V, V = w3.drewN nq := ⟨_, rfl⟩
           have hbV : Below w3.heap.size w3 V := by rw [hV]; exact below_dn (Below.refl _ _) _
           have hVs : V.heap.size = w3.heap.size := by rw [hV]; rfl
           obtain ⟨X, hX⟩ : ∃ X, X = V.alloc (.cells #[.slice none 0 0, .slice none 0 0, .slice none 0 0, .int .i64 pg] 91) := ⟨_, rfl⟩
           have hw := Wg.make (pg := pg) (w := V) (B := w3.heap.size) (kv := .slice none 0 0) (vv := .slice none 0 0) (cv := .slice none 0 0) (ks := []) (vs := []) (cs := []) (World.ownsRow_nil _ _ _ _) (World.ownsRow_nil _ _ _ _) (World.ownsRow_nil _ _ _ _) (fun j hj => by cases hj) (by omega)
           rw [hVs, ← hX] at hw
           have HW0 := Lib.hid hw
           have HBX := Lib.hid (show Below w3.heap.size w3 X from by rw [hX]; exact below_box hbV _)
           rw [← hV, ← hX]
           have a3X := cell_later HBX.out a3
           have a3w := a3
           have b3w := b3
           have d3X := cell_later HBX.out d3
           have D3 := Lib.hid d3
           have HIB := Lib.hid (World.block_lt_of_cell? w3 _ a3w)
           have A3 := Lib.hid a3w
           have B3 := Lib.hid b3w
           clear hw hbV hVs hX hV a3 b3 d3 a3w b3w
           obtain ⟨p, hp⟩ : ∃ p, p = w3.heap.size := ⟨_, rfl⟩
           rw [← hp] at HW0 ⊢
           have HPB := Lib.hid hp
           clear hp
           go_upto_region 24 with fail
           clear a3X d3X
           go_loopw [22, 145] (fun _ iv wr => ∃ (j : Nat) (kv vv : Value) (XS YS : List Value), j ≤ nk ∧ iv = .int .i64 j ∧ XS.length = j ∧ YS.length = j ∧ XS = (ki.l.take j).map (fun i => Value.string i.s) ∧ YS = (vi.l.take j).map (fun i => Value.string i.s) ∧ Wg pg wr p p kv vv (.slice none 0 0) XS YS [] ∧ Below w3.heap.size w3 wr) (fun _ iv _ => nk - (intOf iv).toNat)
           case atStart => exact ⟨0, _, _, [], [], by omega, rfl, rfl, rfl, rfl, rfl, HW0.out, HBX.out⟩
           case round =>
            obtain ⟨j, kv, vv, XS, YS, hj, rfl, hks, hvs, hkse, hvse, hw, hb⟩ := hrel
            have HW := Lib.hid hw
            have HB := Lib.hid hb
            have HKE := Lib.hid (And.intro hkse hvse)
            obtain ⟨k1a, k1c, rfl⟩ := own_slice hw.k
            obtain ⟨v1a, v1c, rfl⟩ := own_slice hw.v
            rw [hks, hvs] at hw HW
            obtain ⟨p0, p1, -, -, pf⟩ := hw.cells
            clear hw hb hkse hvse
            have a3 := cell_later HB.out A3.out
            have b3 := cell_later HB.out B3.out
            by_cases hlt : j < nk
            ·
             obtain ⟨kb, ko, klv, rfl, -, -, ks2, -, -, -, hkb⟩ := iv_at (ItR.below HB.out (fun j h => h.2) HKA.out) j (by rw [HNK.out.1]; exact hlt)
             obtain ⟨vb, vo, vlv, rfl, -, -, vs2w, -, -, -, hvb⟩ := iv_at (ItR.below (Below.refl w3.heap.size w3) (fun j h => h.2) HVA.out) j (by rw [HNK.out.2.1, ← HNN.out.1]; exact hlt)
             have HTK := Lib.hid (List.take_succ_eq_append_getElem (show j < ki.l.length by rw [HNK.out.1]; exact hlt))
             have HTV := Lib.hid (List.take_succ_eq_append_getElem (show j < vi.l.length by rw [HNK.out.2.1, ← HNN.out.1]; exact hlt))
             generalize ki.l[j]'(by rw [HNK.out.1]; exact hlt) = kx at *
             generalize vi.l[j]'(by rw [HNK.out.2.1, ← HNN.out.1]; exact hlt) = vx at *
             go_upto_region 26 with fail
             refine region_m [(0, false), (1, false), (2, false), (3, false), (4, false), (5, false), (6, false), (7, false), (8, false), (9, false), (10, false), (11, false), (12, false), (13, true), (14, true), (15, false), (16, false)] 17 (fun V => V.cell? ⟨p, 0, none⟩ = some (.slice k1a j k1c) ∧ V.cell? ⟨ib, io + 3, none⟩ = some (.slice (some ⟨kb, ko, none⟩) nk kc) ∧ V.cell? ⟨kb, ko + j * 4 + 2, none⟩ = some (.string kx.s)) (by kernel_rfl) (by kernel_rfl) ⟨p0, a3, ks2⟩ ?_
             iterate 13
              first
              | (
                 refine m_take (v := ?_) rfl rfl ?_ ?_
                 rotate_left
                 ·
                   intro W hW
                   go_simp
                   with_reducible rfl
                 simp only [Act.put, List.setIfInBounds_toArray, List.set_cons_zero, List.set_cons_succ])
              | (
                 refine m_skip rfl rfl ?_
                 simp only [Act.put, List.setIfInBounds_toArray, List.set_cons_zero, List.set_cons_succ])
             refine m_loud rfl (fun K hK => ?_)
             have HK := Lib.hid hK
             clear hK
             go_simp
             have hYd : Below wr.heap.size wr (wr.alloc (.cells #[.string kx.s] 9)).drew := (below_alloc wr _).drew
             have HLIT := Lib.hid (show Rd (wr.alloc (.cells #[.string kx.s] 9)).drew 1 (.slice (some ⟨wr.heap.size, 0, none⟩) 1 1) 1 [.string kx.s] from Rd.lit (w := wr.drew) (cs := #[.string kx.s]) (e := 9) (n := 1) (sz := 1) rfl (by omega))
             have HY := Lib.hid hYd
             have p0Y := cell_later hYd p0
             have a3Y := cell_later hYd a3
             have ksY := cell_later hYd ks2
             have pfY := (World.frozen?_of_block (a := ⟨p, 0, none⟩) (hYd.block p HW.out.lt.2)).trans (pf 0)
             have HWY := Lib.hid (HW.out.below hYd)
             have hYs : (wr.alloc (.cells #[.string kx.s] 9)).drew.heap.size = wr.heap.size + 1 := by simp
             generalize (wr.alloc (.cells #[.string kx.s] 9)).drew = Y at *
             clear hYd
             refine HK.out _ _ ⟨p0Y, a3Y, ksY⟩ ?_
             clear HK
             have hwk : Y.ownsRow p 9 1 (.slice k1a j k1c) j XS := by have := HWY.out.k; rwa [hks] at this
             refine m_app tyS (base := p) (n := j) (v := .slice k1a j k1c) (xs := XS) hwk HLIT.out (by simp [Value.oneCell']) (by omega) (by omega) (by omega) (by have := HW.out.lt; omega) rfl rfl rfl rfl rfl ?_
             intro g cap W8 ho8 hold8 hg8 hgc8
             have ho8' : W8.ownsRow p 9 1 (.slice (some ⟨g, 0, none⟩) (j + 1) cap) (XS ++ [Value.string kx.s]).length (XS ++ [Value.string kx.s]) := by rw [List.length_append, hks]; exact ho8
             have hon8 : Only (fun q => (Value.slice k1a j k1c).ownBlock = some q) Y W8 := Only.of_grown hg8
             have hkp : ¬ (Value.slice k1a j k1c).ownBlock = some p := fun e => HWY.out.kp e rfl
             have HST := Lib.hid (HWY.out.setK (v' := .slice (some ⟨g, 0, none⟩) (j + 1) cap) (Only.refl _ _) ho8' hon8 (fun q hq => by
              simp only [Value.ownBlock, Option.some.injEq] at hq
              subst hq
              rcases hgc8 with ⟨k, c, e, -⟩ | e
              · exact .inl (by rw [e]; rfl)
              · exact .inr e))
             have p8 := hon8.cell hkp p0Y
             have f8 := (hon8.frozen HWY.out.lt.2 hkp).trans pfY
             have hib := HIB.out
             have hpe := HPB.out
             have hlo : ∀ q, (Value.slice k1a j k1c).ownBlock = some q → p ≤ q := fun q hq => (World.ownsRow.lt hwk q hq).1
             have a38 := hon8.cell (fun e => by have := hlo _ e; omega) a3Y
             have k38 := hon8.cell (fun e => by have := hlo _ e; omega) ksY
             clear ho8 ho8' hold8 hg8 hgc8 hon8 hkp p0Y a3Y ksY pfY hlo hpe hib
             refine ⟨⟨p8, a38, k38⟩, ?_⟩
             clear a38 k38
             iterate 2
              first
              | (
                 refine m_take (v := ?_) rfl rfl ?_ ?_
                 rotate_left
                 ·
                   intro W hW
                   go_simp
                   with_reducible rfl
                 simp only [Act.put, List.setIfInBounds_toArray, List.set_cons_zero, List.set_cons_succ])
              | (
                 refine m_skip rfl rfl ?_
                 simp only [Act.put, List.setIfInBounds_toArray, List.set_cons_zero, List.set_cons_succ])
             refine m_done ?_
             simp only [List.drop_succ_cons, List.drop_zero]
             go_upto_region 27 with fail
             simp only [NP]
             go_upto_region 27 with fail
             have hpe := HPB.out
             have HB2 := Lib.hid (show Below w3.heap.size w3 (W8.setCell ⟨p, 0, none⟩ (.slice (some ⟨g, 0, none⟩) (j + 1) cap)) from (HB.out.trans (HY.out.mono HB.out.size)).trans (HST.out.2.below (by have := HB.out.size; have := HY.out.size; omega) (fun q hq hw => by have := (HWY.out.foot hw).1; omega)))
             have HW2 := Lib.hid HST.out.1
             generalize W8.setCell ⟨p, 0, none⟩ (.slice (some ⟨g, 0, none⟩) (j + 1) cap) = Z at *
             clear p8 f8 HST HWY HY hYs HLIT hwk pf p0 p1 a3 b3 ks2 hpe
             obtain ⟨-, p1, -, -, pf⟩ := HW2.out.cells
             have b3 := cell_later HB2.out B3.out
             have vs2 := cell_later HB2.out vs2w
             clear vs2w
             have hltv : j < nv := by rw [← HNN.out.1]; exact hlt
             refine region_m [(0, false), (1, false), (2, false), (3, false), (4, false), (5, false), (6, false), (7, false), (8, false), (9, false), (10, false), (11, false), (12, false), (13, true), (14, true), (15, false), (16, false)] 17 (fun V => V.cell? ⟨p, 1, none⟩ = some (.slice v1a j v1c) ∧ V.cell? ⟨ib, io + 4 + 3, none⟩ = some (.slice (some ⟨vb, vo, none⟩) nv vc) ∧ V.cell? ⟨vb, vo + j * 4 + 2, none⟩ = some (.string vx.s)) (by kernel_rfl) (by kernel_rfl) ⟨p1, b3, vs2⟩ ?_
             iterate 13
              first
              | (
                 refine m_take (v := ?_) rfl rfl ?_ ?_
                 rotate_left
                 ·
                   intro W hW
                   go_simp
                   with_reducible rfl
                 simp only [Act.put, List.setIfInBounds_toArray, List.set_cons_zero, List.set_cons_succ])
              | (
                 refine m_skip rfl rfl ?_
                 simp only [Act.put, List.setIfInBounds_toArray, List.set_cons_zero, List.set_cons_succ])
             refine m_loud rfl (fun K hK => ?_)
             have HK := Lib.hid hK
             clear hK
             go_simp
             have hYd : Below Z.heap.size Z (Z.alloc (.cells #[.string vx.s] 9)).drew := (below_alloc Z _).drew
             have HLIT := Lib.hid (show Rd (Z.alloc (.cells #[.string vx.s] 9)).drew 1 (.slice (some ⟨Z.heap.size, 0, none⟩) 1 1) 1 [.string vx.s] from Rd.lit (w := Z.drew) (cs := #[.string vx.s]) (e := 9) (n := 1) (sz := 1) rfl (by omega))
             have HY := Lib.hid hYd
             have p1Y := cell_later hYd p1
             have b3Y := cell_later hYd b3
             have vsY := cell_later hYd vs2
             have pfY := (World.frozen?_of_block (a := ⟨p, 1, none⟩) (hYd.block p HW2.out.lt.2)).trans (pf 1)
             have HWY := Lib.hid (HW2.out.below hYd)
             have hYs : (Z.alloc (.cells #[.string vx.s] 9)).drew.heap.size = Z.heap.size + 1 := by simp
             generalize (Z.alloc (.cells #[.string vx.s] 9)).drew = Y2 at *
             clear hYd
             refine HK.out _ _ ⟨p1Y, b3Y, vsY⟩ ?_
             clear HK
             have hwv : Y2.ownsRow p 9 1 (.slice v1a j v1c) j YS := by have := HWY.out.v; rwa [hvs] at this
             refine m_app tyS (base := p) (n := j) (v := .slice v1a j v1c) (xs := YS) hwv HLIT.out (by simp [Value.oneCell']) (by omega) (by omega) (by omega) (by have := HW2.out.lt; omega) rfl rfl rfl rfl rfl ?_
             intro g2 cap2 W9 ho8 hold8 hg8 hgc8
             have ho8' : W9.ownsRow p 9 1 (.slice (some ⟨g2, 0, none⟩) (j + 1) cap2) (YS ++ [Value.string vx.s]).length (YS ++ [Value.string vx.s]) := by rw [List.length_append, hvs]; exact ho8
             have hon8 : Only (fun q => (Value.slice v1a j v1c).ownBlock = some q) Y2 W9 := Only.of_grown hg8
             have hkp : ¬ (Value.slice v1a j v1c).ownBlock = some p := fun e => HWY.out.vp e rfl
             have HST := Lib.hid (HWY.out.setV (v' := .slice (some ⟨g2, 0, none⟩) (j + 1) cap2) (Only.refl _ _) ho8' hon8 (fun q hq => by
              simp only [Value.ownBlock, Option.some.injEq] at hq
              subst hq
              rcases hgc8 with ⟨k, c, e, -⟩ | e
              · exact .inl (by rw [e]; rfl)
              · exact .inr e))
             have p8 := hon8.cell hkp p1Y
             have f8 := (hon8.frozen HWY.out.lt.2 hkp).trans pfY
             have hib := HIB.out
             have hpe := HPB.out
             have hlo : ∀ q, (Value.slice v1a j v1c).ownBlock = some q → p ≤ q := fun q hq => (World.ownsRow.lt hwv q hq).1
             have b38 := hon8.cell (fun e => by have := hlo _ e; omega) b3Y
             have v38 := hon8.cell (fun e => by have := hlo _ e; omega) vsY
             clear ho8 ho8' hold8 hg8 hgc8 hon8 hkp p1Y b3Y vsY pfY hlo hpe hib
             refine ⟨⟨p8, b38, v38⟩, ?_⟩
             clear b38 v38
             iterate 2
              first
              | (
                 refine m_take (v := ?_) rfl rfl ?_ ?_
                 rotate_left
                 ·
                   intro W hW
                   go_simp
                   with_reducible rfl
                 simp only [Act.put, List.setIfInBounds_toArray, List.set_cons_zero, List.set_cons_succ])
              | (
                 refine m_skip rfl rfl ?_
                 simp only [Act.put, List.setIfInBounds_toArray, List.set_cons_zero, List.set_cons_succ])
             refine m_done ?_
             simp only [List.drop_succ_cons, List.drop_zero]
             go_upto_region 28 with fail
             simp only [NP]
             go_upto_region 28 with fail
             have hpe := HPB.out
             have HB3 := Lib.hid (show Below w3.heap.size w3 (W9.setCell ⟨p, 1, none⟩ (.slice (some ⟨g2, 0, none⟩) (j + 1) cap2)) from (HB2.out.trans (HY.out.mono HB2.out.size)).trans (HST.out.2.below (by have := HB2.out.size; have := HY.out.size; omega) (fun q hq hw => by have := (HWY.out.foot hw).1; omega)))
             have HW3 := Lib.hid HST.out.1
             generalize W9.setCell ⟨p, 1, none⟩ (.slice (some ⟨g2, 0, none⟩) (j + 1) cap2) = Z2 at *
             clear p8 f8 HST HWY HY hYs HLIT hwv pf p1 b3 vs2 hpe
             go_wp2_with fail
             go_roundw
             case rel =>
              refine ⟨j + 1, _, _, _, _, by omega, by go_num, ?_, ?_, ?_, ?_, HW3.out, HB3.out⟩
              · rw [List.length_append, hks]; rfl
              · rw [List.length_append, hvs]; rfl
              · rw [HTK.out, List.map_append, ← HKE.out.1]; rfl
              · rw [HTV.out, List.map_append, ← HKE.out.2]; rfl
             case measure => simp [intOf]; omega
            ·
             obtain rfl : j = nk := by omega
             have hks' := hks
             have hvs' := hvs
             have e1 := HKE.out.1
             have e2 := HKE.out.2
             have hnk1 := HNK.out.1
             have hnv1 := HNK.out.2.1
             have hnv2 := HNN.out.1
             rw [List.take_of_length_le (by omega)] at e1 e2
             have HXE := Lib.hid (And.intro e1 e2)
             clear hks' hvs' e1 e2 hnk1 hnv1 hnv2 p0 p1 pf a3 b3 hlt hj
             have HB3w := Lib.hid (show Below w1.heap.size w1 w3 from HB3.out)
             have HK3 := Lib.hid (HK1.out.below HB3.out)
             have HS3 := Lib.hid (HS1.out.below HB3.out)
             have HT3 := Lib.hid (HT1.out.below HB3.out)
             have HKL := Lib.hid (show K < w1.heap.size ∧ S < w1.heap.size from ⟨HK1.out.lt, HS1.out.lt⟩)
             have d3 := cell_later HB.out D3.out
             go_upto_region 30 with fail
             go_loopw [24, 25, 26, 188] (fun _ _ _ iv wq => ∃ (i : Nat) (cv : Value) (PS : List Nat) (s1 : List Int), i ≤ nc ∧ iv = .int .i64 i ∧ PS.length = i ∧ loadK (loadP b f) ((ci.l.map Itc.n).take i) (pg :: s) = some s1 ∧ Wg pg wq p p (.slice k1a j k1c) (.slice v1a j v1c) cv XS YS (PS.map ptrV) ∧ Only (KS K S) w3 wq ∧ SeenAt wq S s1 ∧ KnAt wq (fun q => F q ∧ ¬ wkB p (.slice k1a j k1c) (.slice v1a j v1c) cv q) b K ∧
              (∀ (m : Nat) (c : Int) (q : Nat), (ci.l.map Itc.n)[m]? = some c → PS[m]? = some q → PgAt wq (fun q => F q ∧ ¬ wkB p (.slice k1a j k1c) (.slice v1a j v1c) cv q) b f c q)) (fun _ _ _ iv _ => nc - (intOf iv).toNat)
             case atStart =>
              refine ⟨0, _, [], _, by omega, rfl, rfl, rfl, HW.out, Only.of_below HB.out, HS3.out.below HB.out, HK3.out.turn (Only.of_below (S := fun _ => False) HB.out) (fun h => h) (fun _ _ _ h => h) (fun q hq ht => ⟨hq, fun hw => ?_⟩), fun m c q _ h => by simp at h⟩
              have h1 := (HW.out.foot hw).1
              have h2 := ht.lt
              have h3 := HPB.out
              omega
             case round =>
              obtain ⟨i, cv, PS, s1, hi, rfl, hps, hld, hw, hon, hsn, hkn, hpp⟩ := hrel
              have HW := Lib.hid hw
              have HON := Lib.hid hon
              have HSN := Lib.hid hsn
              have HKN := Lib.hid hkn
              have HPP := Lib.hid hpp
              have HLD := Lib.hid hld
              obtain ⟨c1a, c1c, rfl⟩ := own_slice hw.c
              rw [List.length_map, hps] at hw HW HKN HPP
              clear hw hon hsn hkn hpp hld d3
              by_cases hlt : i < nc
              ·
                obtain ⟨cb, co, clv, rfl, x0, x1, x2, x3, xi, -⟩ := iv_at (ItR.only HON.out (fun q hq hks => by have h1 := hq.1; have h2 := HKL.out; have h3 := HB2.out.size; rcases hks with h | h <;> omega) HCA.out) i (by rw [HNK.out.2.2]; exact hlt)
                have hcm : (ci.l.map Itc.n)[i]? = some (ci.l[i]'(by rw [HNK.out.2.2]; exact hlt)).n := by rw [List.getElem?_map, List.getElem?_eq_getElem (by rw [HNK.out.2.2]; exact hlt)]; rfl
                have HIC := Lib.hid (wfI_n (HWC.out _ (List.getElem_mem (show i < ci.l.length by rw [HNK.out.2.2]; exact hlt))))
                generalize ci.l[i]'(by rw [HNK.out.2.2]; exact hlt) = cx at *
                have HCM := Lib.hid hcm
                have HTK := Lib.hid (show (ci.l.map Itc.n).take (i + 1) = (ci.l.map Itc.n).take i ++ [cx.n] from by rw [List.take_add_one, hcm]; rfl)
                clear hcm
                obtain ⟨xa, xc, rfl, -, -⟩ := xi.slice
                clear xi
                have q1 := w64 (n := dp + 1) (by have := HDP.out; omega) (by have := HDP.out; omega)
                obtain ⟨U, hU⟩ : ∃ U, U = wr.alloc (.cells #[.int .i64 cx.k, .int .i64 cx.n, .string cx.s, .slice xa cx.l.length xc] 72) := ⟨_, rfl⟩
                have hbU : Below wr.heap.size wr U := by rw [hU]; exact below_alloc _ _
                have HBU := Lib.hid hbU
                have u1 : U.cell? ⟨wr.heap.size, 1, none⟩ = some (.int .i64 cx.n) := by rw [hU]; exact box_self 1 _ rfl
                go_upto_region 32 with fail
                rw [← hU]
                obtain ⟨ub, hub⟩ : ∃ ub, ub = wr.heap.size := ⟨_, rfl⟩
                rw [← hub] at u1 ⊢
                clear hU hbU x0 x1 x2 x3 hub
                have HSU := Lib.hid (HSN.out.below HBU.out)
                have HKU := Lib.hid (HKN.out.below HBU.out)
                have HONU := Lib.hid (HON.out.trans (Only.of_below (S := fun _ => False) HBU.out) (fun _ _ h => h.elim))
                have HTU := Lib.hid (HT3.out.ks HK3.out HS3.out HONU.out)
                have HWU := Lib.hid (HW.out.below HBU.out)
                have HFU := Lib.hid (show ∀ q, U.heap.size ≤ q → F q ∧ ¬ wkB p (.slice k1a j k1c) (.slice v1a j v1c) (.slice c1a i c1c) q from fun q hq => ⟨HF.out q (by have := HO3.out.size; have := HONU.out.size; omega), fun hw => by have := (HWU.out.foot hw).2; omega⟩)
                go_upto_region 35 with (go_at_call 27; refine (HIH.out f rfl _ K S _ cx.n (dp + 1) s1 _ (by have := HDP.out; omega) HIC.out (by omega) (by omega) hKS HFU.out HTU.out HKU.out HSU.out).mono ?_; rintro e w4 hres; obtain ⟨ho4, ⟨hl, rfl⟩ | ⟨s2, q2, hl, rfl, hp4, hs4, hk4⟩⟩ := hres.cases <;> have HO4 := Lib.hid ho4 <;> have HL := Lib.hid hl <;> clear ho4 hl hres)
                ·
                  go_ret2
                  refine LoadOut.no ((HO3.out.trans HONU.out (fun j _ h => h)).trans HO4.out (fun j _ h => h)) ?_ rfl
                  rw [HLP.out, HP4.out]
                  show loadK (loadP b f) (ci.l.map Itc.n) (pg :: s) = none
                  rw [← List.take_append_drop (i + 1) (ci.l.map Itc.n), loadK_app, HTK.out, loadK_snoc, HLD.out]
                  show (loadP b f cx.n s1).bind _ = none
                  rw [HL.out]; rfl
                ·
                  have HP4' := Lib.hid hp4
                  have HS4 := Lib.hid hs4
                  have HK4 := Lib.hid hk4
                  have hpK : K < p ∧ S < p := by have h1 := HKL.out; have h2 := HPB.out; have h3 := HB3.out.size; omega
                  have HPK := Lib.hid hpK
                  have HW4 := Lib.hid (HWU.out.only HO4.out (fun q hq hks => by have h1 := (HWU.out.foot hq).1; rcases hks with h | h <;> omega))
                  obtain ⟨-, -, p2, -, pf⟩ := HW4.out.cells
                  clear hp4 hs4 hk4 hpK u1
                  have hYd : Below w4.heap.size w4 (w4.alloc (.cells #[.pointer (some ⟨q2, 0, none⟩)] 63)) := below_alloc w4 _
                  have HLIT := Lib.hid (show Rd (w4.alloc (.cells #[.pointer (some ⟨q2, 0, none⟩)] 63)) 1 (.slice (some ⟨w4.heap.size, 0, none⟩) 1 1) 1 [.pointer (some ⟨q2, 0, none⟩)] from Rd.lit (w := w4) (cs := #[.pointer (some ⟨q2, 0, none⟩)]) (e := 63) (n := 1) (sz := 1) rfl (by omega))
                  have HY := Lib.hid hYd
                  have p2Y := cell_later hYd p2
                  have pfY := (World.frozen?_of_block (a := ⟨p, 2, none⟩) (hYd.block p HW4.out.lt.2)).trans (pf 2)
                  have HWY := Lib.hid (HW4.out.below hYd)
                  have hYs : (w4.alloc (.cells #[.pointer (some ⟨q2, 0, none⟩)] 63)).heap.size = w4.heap.size + 1 := by simp
                  clear hYd
                  have hwc : (w4.alloc (.cells #[.pointer (some ⟨q2, 0, none⟩)] 63)).ownsRow p 63 1 (.slice c1a i c1c) i (PS.map ptrV) := by have := HWY.out.c; rwa [List.length_map, hps] at this
                  have HWC := Lib.hid hwc
                  have hsy : p ≤ (w4.alloc (.cells #[.pointer (some ⟨q2, 0, none⟩)] 63)).heap.size := by have := HW4.out.lt; omega
                  have P2Y := Lib.hid p2Y
                  have PFY := Lib.hid pfY
                  have HYS := Lib.hid hYs
                  clear hwc p2Y pfY
                  go_upto_region 36 with (at_builtin; go_loud (
                    refine app_keep tyP (base := p) (n := i) (v := .slice c1a i c1c) (xs := PS.map ptrV) HWC.out HLIT.out (by simp [Value.oneCell']) (by omega) (by omega) (by omega) hsy rfl rfl rfl rfl ?_
                    intro g cap W8 ho8 hold8 hg8 hgc8
                    have ho8' : W8.ownsRow p 63 1 (.slice (some ⟨g, 0, none⟩) (i + 1) cap) ((PS ++ [q2]).map ptrV).length ((PS ++ [q2]).map ptrV) := by rw [List.map_append, List.length_append, List.length_map, hps]; exact ho8
                    have hon8 : Only (fun q => (Value.slice c1a i c1c).ownBlock = some q) (w4.alloc (.cells #[.pointer (some ⟨q2, 0, none⟩)] 63)) W8 := Only.of_grown hg8
                    have hkp : ¬ (Value.slice c1a i c1c).ownBlock = some p := fun e => HWY.out.cp e rfl
                    have hf8 : ∀ q, (Value.slice (some ⟨g, 0, none⟩) (i + 1) cap).ownBlock = some q → (Value.slice c1a i c1c).ownBlock = some q ∨ (w4.alloc (.cells #[.pointer (some ⟨q2, 0, none⟩)] 63)).heap.size ≤ q := fun q hq => by
                     simp only [Value.ownBlock, Option.some.injEq] at hq
                     subst hq
                     rcases hgc8 with ⟨k, c, e, -⟩ | e
                     · exact .inl (by rw [e]; rfl)
                     · exact .inr e
                    have HST := Lib.hid (HWY.out.setC (v' := .slice (some ⟨g, 0, none⟩) (i + 1) cap) (Only.refl _ _) ho8' hon8 hf8)
                    have HG := Lib.hid (show ∀ q, wkB p (.slice k1a j k1c) (.slice v1a j v1c) (.slice (some ⟨g, 0, none⟩) (i + 1) cap) q → wkB p (.slice k1a j k1c) (.slice v1a j v1c) (.slice c1a i c1c) q ∨ w4.heap.size ≤ q from fun q hq => by
                     rcases hq with h | h | h | h
                     · exact .inl (.inl h)
                     · exact .inl (.inr (.inl h))
                     · exact .inl (.inr (.inr (.inl h)))
                     ·
                      rcases hf8 q h with h | h
                      · exact .inl (.inr (.inr (.inr h)))
                      · have := HYS.out; exact .inr (by omega))
                    have p8 := hon8.cell hkp P2Y.out
                    have f8 := (hon8.frozen HWY.out.lt.2 hkp).trans PFY.out
                    clear ho8 ho8' hold8 hg8 hgc8 hon8 hkp hf8))
                  have hoz : Only (wkB p (.slice k1a j k1c) (.slice v1a j v1c) (.slice c1a i c1c)) w4 (W8.setCell ⟨p, 2, none⟩ (.slice (some ⟨g, 0, none⟩) (i + 1) cap)) := (Only.of_below HY.out).trans HST.out.2 (fun _ _ h => h)
                  have HOZ := Lib.hid hoz
                  have HW5 := Lib.hid HST.out.1
                  generalize W8.setCell ⟨p, 2, none⟩ (.slice (some ⟨g, 0, none⟩) (i + 1) cap) = Z3 at *
                  clear p8 f8 HST HWY HY hYs HLIT HWC hsy P2Y PFY HYS pf p2 hoz
                  go_wp2_with fail
                  have hlo := fun q hq => (HW4.out.foot (j := q) hq).1
                  have hS : ∀ q, (F q ∧ ¬ wkB p (.slice k1a j k1c) (.slice v1a j v1c) (.slice c1a i c1c) q) → TyB w4 q → ¬ wkB p (.slice k1a j k1c) (.slice v1a j v1c) (.slice c1a i c1c) q := fun q hq _ => hq.2
                  have hG : ∀ q, (F q ∧ ¬ wkB p (.slice k1a j k1c) (.slice v1a j v1c) (.slice c1a i c1c) q) → TyB w4 q → (F q ∧ ¬ wkB p (.slice k1a j k1c) (.slice v1a j v1c) (.slice (some ⟨g, 0, none⟩) (i + 1) cap) q) := fun q hq ht => ⟨hq.1, fun hw => by
                    rcases HG.out q hw with h | h
                    · exact hq.2 h
                    · have := ht.lt; omega⟩
                  have hpk := HPK.out
                  have hty4 : ∀ q, KS K S q → ¬ TyB U q := fun q hq => by
                    rcases hq with rfl | rfl
                    · exact HKU.out.ty
                    · exact HSU.out.ty
                  go_roundw
                  case rel =>
                    refine ⟨i + 1, _, PS ++ [q2], s2, by omega, by go_num, by rw [List.length_append, hps]; rfl, ?_, HW5.out, ?_, ?_, ?_, ?_⟩
                    · rw [HTK.out, loadK_snoc, HLD.out]; exact HL.out
                    · exact (HONU.out.trans HO4.out (fun _ _ h => h)).trans HOZ.out (fun q hq hw => by have h1 := hlo q hw; have h2 := HPB.out; omega)
                    · exact HS4.out.only HOZ.out (fun hw => by have h1 := hlo _ hw; omega)
                    · exact HK4.out.turn HOZ.out (fun hw => by have h1 := hlo _ hw; omega) hS hG
                    ·
                     intro m c q hc hq
                     by_cases hm : m < i
                     ·
                      rw [List.getElem?_append_left (by omega)] at hq
                      exact ((((HPP.out m c q hc hq).maps (Only.of_below (S := fun _ => False) HBU.out) (fun _ h => h.elim)).maps HO4.out hty4).turn HOZ.out hS hG)
                     ·
                      have hml : m < (PS ++ [q2]).length := (List.getElem?_eq_some_iff.1 hq).1
                      rw [List.length_append, hps] at hml
                      obtain rfl : m = i := by simp at hml; omega
                      rw [HCM.out] at hc
                      cases hc
                      rw [List.getElem?_append_right (by omega)] at hq
                      simp [hps] at hq
                      subst hq
                      exact HP4'.out.turn HOZ.out hS hG
                  case measure => simp [intOf]; omega
              ·
                obtain rfl : i = nc := by omega
                have hcl : (ci.l.map Itc.n).take i = ci.l.map Itc.n := List.take_of_length_le (by rw [List.length_map, HNK.out.2.2]; exact Nat.le_refl _)
                have hld := HLD.out
                rw [hcl] at hld
                have hlen2 : ki.l.length = vi.l.length := by rw [HNK.out.1, HNK.out.2.1, ← HNN.out.1]
                have hnd : NdAt wr F p (.slice k1a j k1c) (.slice v1a j v1c) (.slice c1a i c1c) (List.zip (ki.l.map itS) (vi.l.map itS)) PS := by
                  have h := HW.out
                  rw [HXE.out.1, HXE.out.2, ← zip_fst hlen2, ← zip_snd hlen2] at h
                  exact h.nd (fun q hq => HF.out q (by have h1 := (HW.out.foot hq).1; have h2 := HPB.out; have h3 := HO3.out.size; omega)) (HOK.out p pg hpg0 HPGB.out)
                have hpage : PgAt wr F b (f + 1) pg p := ⟨_, _, _, _, _, PS, HP4.out, hnd, HW.out.cells.2.2.2.1, by rw [hps, List.length_map, HNK.out.2.2], fun m c q hc hq => (HPP.out m c q hc hq).turn (Only.refl (fun _ => False) _) (fun _ _ _ h => h) (fun q hq _ => hq.1)⟩
                have hk9 : KnAt wr F b K := HKN.out.turn (Only.refl (fun _ => False) _) (fun h => h) (fun _ _ _ h => h) (fun q hq _ => hq.1)
                obtain ⟨w9, hu9, hkn9, ho9⟩ := hk9.put (P := Try.prog) (t := 76) Try.underlying76 Try.underlying3 hpage
                have hK9 : ∀ q, q = K → ¬ TyB wr q := fun q e => by rw [e]; exact hk9.ty
                have HFIN := Lib.hid (show LoadOut w w9 F b K S (f + 1) pg s (.returned (.tuple #[.pointer (some ⟨p, 0, none⟩), .bool true])) from
                  LoadOut.yes ((HO3.out.trans HON.out (fun _ _ h => h)).trans ho9 (fun _ _ h => .inl h)) (by rw [HLP.out, HP4.out]; exact hld) rfl (hpage.maps ho9 hK9) (HSN.out.only ho9 (fun h => hKS h.symm)) hkn9)
                unfold ptrV at hu9
                clear hcl hld hlen2 hnd hpage hk9 hkn9 ho9 hK9
                go_wp2_with fail
                go_ret2
                exact HFIN.out
          ·
           have e5 : ((nc : Int) != (nk : Int) + 1) = true := by simp; omega
           have HNO := Lib.hid (show loadP b (f + 1) pg s = none by rw [HLP.out, HP3.out, if_pos (.inr (.inr ⟨hA4, hA5⟩))])
           clear hA2 hA3 hA4 hA5
           go_quiet (fail)
           go_wp2_with fail
           go_ret2
           exact LoadOut.no (HO3.out.trans (Only.of_below (below_dn (Below.refl _ _) _)) (fun _ _ h => h)) HNO.out rfl
         ·
          have d4 : decide ((0 : Int) < (nc : Int)) = false := decide_eq_false (by omega)
          have d4' : decide (0 < nc) = false := decide_eq_false hA4
          have hcn : ¬ (nk = 0 ∨ nk ≠ nv ∨ (0 < nc ∧ nc ≠ nk + 1)) := by omega
          have HP4 := Lib.hid (HP3.out.trans (if_neg hcn))
          have HNN := Lib.hid (And.intro hA3 (And.intro hA4 hA2))
          clear HP3 hcn hA2 hA3 hA4
          go_quiet (fail)
          go_upto_region 23 with fail
          obtain ⟨V, hV⟩ : ∃ V, V = w3.drewN nq := ⟨_, rfl⟩
          have hbV : Below w3.heap.size w3 V := by rw [hV]; exact below_dn (Below.refl _ _) _
          have hVs : V.heap.size = w3.heap.size := by rw [hV]; rfl
          obtain ⟨X, hX⟩ : ∃ X, X = V.alloc (.cells #[.slice none 0 0, .slice none 0 0, .slice none 0 0, .int .i64 pg] 91) := ⟨_, rfl⟩
          have hw := Wg.make (pg := pg) (w := V) (B := w3.heap.size) (kv := .slice none 0 0) (vv := .slice none 0 0) (cv := .slice none 0 0) (ks := []) (vs := []) (cs := []) (World.ownsRow_nil _ _ _ _) (World.ownsRow_nil _ _ _ _) (World.ownsRow_nil _ _ _ _) (fun j hj => by cases hj) (by omega)
          rw [hVs, ← hX] at hw
          have HW0 := Lib.hid hw
          have HBX := Lib.hid (show Below w3.heap.size w3 X from by rw [hX]; exact below_box hbV _)
          rw [← hV, ← hX]
          have a3X := cell_later HBX.out a3
          have a3w := a3
          have b3w := b3
          have d3X := cell_later HBX.out d3
          have D3 := Lib.hid d3
          have HIB := Lib.hid (World.block_lt_of_cell? w3 _ a3w)
          have A3 := Lib.hid a3w
          have B3 := Lib.hid b3w
          clear hw hbV hVs hX hV a3 b3 d3 a3w b3w
          obtain ⟨p, hp⟩ : ∃ p, p = w3.heap.size := ⟨_, rfl⟩
          rw [← hp] at HW0 ⊢
          have HPB := Lib.hid hp
          clear hp
          go_upto_region 24 with fail
          clear a3X d3X
          go_loopw [22, 145] (fun _ iv wr => ∃ (j : Nat) (kv vv : Value) (XS YS : List Value), j ≤ nk ∧ iv = .int .i64 j ∧ XS.length = j ∧ YS.length = j ∧ XS = (ki.l.take j).map (fun i => Value.string i.s) ∧ YS = (vi.l.take j).map (fun i => Value.string i.s) ∧ Wg pg wr p p kv vv (.slice none 0 0) XS YS [] ∧ Below w3.heap.size w3 wr) (fun _ iv _ => nk - (intOf iv).toNat)
          case atStart => exact ⟨0, _, _, [], [], by omega, rfl, rfl, rfl, rfl, rfl, HW0.out, HBX.out⟩
          case round =>
           obtain ⟨j, kv, vv, XS, YS, hj, rfl, hks, hvs, hkse, hvse, hw, hb⟩ := hrel
           have HW := Lib.hid hw
           have HB := Lib.hid hb
           have HKE := Lib.hid (And.intro hkse hvse)
           obtain ⟨k1a, k1c, rfl⟩ := own_slice hw.k
           obtain ⟨v1a, v1c, rfl⟩ := own_slice hw.v
           rw [hks, hvs] at hw HW
           obtain ⟨p0, p1, -, -, pf⟩ := hw.cells
           clear hw hb hkse hvse
           have a3 := cell_later HB.out A3.out
           have b3 := cell_later HB.out B3.out
           by_cases hlt : j < nk
           ·
            obtain ⟨kb, ko, klv, rfl, -, -, ks2, -, -, -, hkb⟩ := iv_at (ItR.below HB.out (fun j h => h.2) HKA.out) j (by rw [HNK.out.1]; exact hlt)
            obtain ⟨vb, vo, vlv, rfl, -, -, vs2w, -, -, -, hvb⟩ := iv_at (ItR.below (Below.refl w3.heap.size w3) (fun j h => h.2) HVA.out) j (by rw [HNK.out.2.1, ← HNN.out.1]; exact hlt)
            have HTK := Lib.hid (List.take_succ_eq_append_getElem (show j < ki.l.length by rw [HNK.out.1]; exact hlt))
            have HTV := Lib.hid (List.take_succ_eq_append_getElem (show j < vi.l.length by rw [HNK.out.2.1, ← HNN.out.1]; exact hlt))
            generalize ki.l[j]'(by rw [HNK.out.1]; exact hlt) = kx at *
            generalize vi.l[j]'(by rw [HNK.out.2.1, ← HNN.out.1]; exact hlt) = vx at *
            go_upto_region 26 with fail
            refine region_m [(0, false), (1, false), (2, false), (3, false), (4, false), (5, false), (6, false), (7, false), (8, false), (9, false), (10, false), (11, false), (12, false), (13, true), (14, true), (15, false), (16, false)] 17 (fun V => V.cell? ⟨p, 0, none⟩ = some (.slice k1a j k1c) ∧ V.cell? ⟨ib, io + 3, none⟩ = some (.slice (some ⟨kb, ko, none⟩) nk kc) ∧ V.cell? ⟨kb, ko + j * 4 + 2, none⟩ = some (.string kx.s)) (by kernel_rfl) (by kernel_rfl) ⟨p0, a3, ks2⟩ ?_
            iterate 13
             first
             | (
               refine m_take (v := ?_) rfl rfl ?_ ?_
               rotate_left
               ·
                 intro W hW
                 go_simp
                 with_reducible rfl
               simp only [Act.put, List.setIfInBounds_toArray, List.set_cons_zero, List.set_cons_succ])
             | (
               refine m_skip rfl rfl ?_
               simp only [Act.put, List.setIfInBounds_toArray, List.set_cons_zero, List.set_cons_succ])
            refine m_loud rfl (fun K hK => ?_)
            have HK := Lib.hid hK
            clear hK
            go_simp
            have hYd : Below wr.heap.size wr (wr.alloc (.cells #[.string kx.s] 9)).drew := (below_alloc wr _).drew
            have HLIT := Lib.hid (show Rd (wr.alloc (.cells #[.string kx.s] 9)).drew 1 (.slice (some ⟨wr.heap.size, 0, none⟩) 1 1) 1 [.string kx.s] from Rd.lit (w := wr.drew) (cs := #[.string kx.s]) (e := 9) (n := 1) (sz := 1) rfl (by omega))
            have HY := Lib.hid hYd
            have p0Y := cell_later hYd p0
            have a3Y := cell_later hYd a3
            have ksY := cell_later hYd ks2
            have pfY := (World.frozen?_of_block (a := ⟨p, 0, none⟩) (hYd.block p HW.out.lt.2)).trans (pf 0)
            have HWY := Lib.hid (HW.out.below hYd)
            have hYs : (wr.alloc (.cells #[.string kx.s] 9)).drew.heap.size = wr.heap.size + 1 := by simp
            generalize (wr.alloc (.cells #[.string kx.s] 9)).drew = Y at *
            clear hYd
            refine HK.out _ _ ⟨p0Y, a3Y, ksY⟩ ?_
            clear HK
            have hwk : Y.ownsRow p 9 1 (.slice k1a j k1c) j XS := by have := HWY.out.k; rwa [hks] at this
            refine m_app tyS (base := p) (n := j) (v := .slice k1a j k1c) (xs := XS) hwk HLIT.out (by simp [Value.oneCell']) (by omega) (by omega) (by omega) (by have := HW.out.lt; omega) rfl rfl rfl rfl rfl ?_
            intro g cap W8 ho8 hold8 hg8 hgc8
            have ho8' : W8.ownsRow p 9 1 (.slice (some ⟨g, 0, none⟩) (j + 1) cap) (XS ++ [Value.string kx.s]).length (XS ++ [Value.string kx.s]) := by rw [List.length_append, hks]; exact ho8
            have hon8 : Only (fun q => (Value.slice k1a j k1c).ownBlock = some q) Y W8 := Only.of_grown hg8
            have hkp : ¬ (Value.slice k1a j k1c).ownBlock = some p := fun e => HWY.out.kp e rfl
            have HST := Lib.hid (HWY.out.setK (v' := .slice (some ⟨g, 0, none⟩) (j + 1) cap) (Only.refl _ _) ho8' hon8 (fun q hq => by
             simp only [Value.ownBlock, Option.some.injEq] at hq
             subst hq
             rcases hgc8 with ⟨k, c, e, -⟩ | e
             · exact .inl (by rw [e]; rfl)
             · exact .inr e))
            have p8 := hon8.cell hkp p0Y
            have f8 := (hon8.frozen HWY.out.lt.2 hkp).trans pfY
            have hib := HIB.out
            have hpe := HPB.out
            have hlo : ∀ q, (Value.slice k1a j k1c).ownBlock = some q → p ≤ q := fun q hq => (World.ownsRow.lt hwk q hq).1
            have a38 := hon8.cell (fun e => by have := hlo _ e; omega) a3Y
            have k38 := hon8.cell (fun e => by have := hlo _ e; omega) ksY
            clear ho8 ho8' hold8 hg8 hgc8 hon8 hkp p0Y a3Y ksY pfY hlo hpe hib
            refine ⟨⟨p8, a38, k38⟩, ?_⟩
            clear a38 k38
            iterate 2
             first
             | (
               refine m_take (v := ?_) rfl rfl ?_ ?_
               rotate_left
               ·
                 intro W hW
                 go_simp
                 with_reducible rfl
               simp only [Act.put, List.setIfInBounds_toArray, List.set_cons_zero, List.set_cons_succ])
             | (
               refine m_skip rfl rfl ?_
               simp only [Act.put, List.setIfInBounds_toArray, List.set_cons_zero, List.set_cons_succ])
            refine m_done ?_
            simp only [List.drop_succ_cons, List.drop_zero]
            go_upto_region 27 with fail
            simp only [NP]
            go_upto_region 27 with fail
            have hpe := HPB.out
            have HB2 := Lib.hid (show Below w3.heap.size w3 (W8.setCell ⟨p, 0, none⟩ (.slice (some ⟨g, 0, none⟩) (j + 1) cap)) from (HB.out.trans (HY.out.mono HB.out.size)).trans (HST.out.2.below (by have := HB.out.size; have := HY.out.size; omega) (fun q hq hw => by have := (HWY.out.foot hw).1; omega)))
            have HW2 := Lib.hid HST.out.1
            generalize W8.setCell ⟨p, 0, none⟩ (.slice (some ⟨g, 0, none⟩) (j + 1) cap) = Z at *
            clear p8 f8 HST HWY HY hYs HLIT hwk pf p0 p1 a3 b3 ks2 hpe
            obtain ⟨-, p1, -, -, pf⟩ := HW2.out.cells
            have b3 := cell_later HB2.out B3.out
            have vs2 := cell_later HB2.out vs2w
            clear vs2w
            have hltv : j < nv := by rw [← HNN.out.1]; exact hlt
            refine region_m [(0, false), (1, false), (2, false), (3, false), (4, false), (5, false), (6, false), (7, false), (8, false), (9, false), (10, false), (11, false), (12, false), (13, true), (14, true), (15, false), (16, false)] 17 (fun V => V.cell? ⟨p, 1, none⟩ = some (.slice v1a j v1c) ∧ V.cell? ⟨ib, io + 4 + 3, none⟩ = some (.slice (some ⟨vb, vo, none⟩) nv vc) ∧ V.cell? ⟨vb, vo + j * 4 + 2, none⟩ = some (.string vx.s)) (by kernel_rfl) (by kernel_rfl) ⟨p1, b3, vs2⟩ ?_
            iterate 13
             first
             | (
               refine m_take (v := ?_) rfl rfl ?_ ?_
               rotate_left
               ·
                 intro W hW
                 go_simp
                 with_reducible rfl
               simp only [Act.put, List.setIfInBounds_toArray, List.set_cons_zero, List.set_cons_succ])
             | (
               refine m_skip rfl rfl ?_
               simp only [Act.put, List.setIfInBounds_toArray, List.set_cons_zero, List.set_cons_succ])
            refine m_loud rfl (fun K hK => ?_)
            have HK := Lib.hid hK
            clear hK
            go_simp
            have hYd : Below Z.heap.size Z (Z.alloc (.cells #[.string vx.s] 9)).drew := (below_alloc Z _).drew
            have HLIT := Lib.hid (show Rd (Z.alloc (.cells #[.string vx.s] 9)).drew 1 (.slice (some ⟨Z.heap.size, 0, none⟩) 1 1) 1 [.string vx.s] from Rd.lit (w := Z.drew) (cs := #[.string vx.s]) (e := 9) (n := 1) (sz := 1) rfl (by omega))
            have HY := Lib.hid hYd
            have p1Y := cell_later hYd p1
            have b3Y := cell_later hYd b3
            have vsY := cell_later hYd vs2
            have pfY := (World.frozen?_of_block (a := ⟨p, 1, none⟩) (hYd.block p HW2.out.lt.2)).trans (pf 1)
            have HWY := Lib.hid (HW2.out.below hYd)
            have hYs : (Z.alloc (.cells #[.string vx.s] 9)).drew.heap.size = Z.heap.size + 1 := by simp
            generalize (Z.alloc (.cells #[.string vx.s] 9)).drew = Y2 at *
            clear hYd
            refine HK.out _ _ ⟨p1Y, b3Y, vsY⟩ ?_
            clear HK
            have hwv : Y2.ownsRow p 9 1 (.slice v1a j v1c) j YS := by have := HWY.out.v; rwa [hvs] at this
            refine m_app tyS (base := p) (n := j) (v := .slice v1a j v1c) (xs := YS) hwv HLIT.out (by simp [Value.oneCell']) (by omega) (by omega) (by omega) (by have := HW2.out.lt; omega) rfl rfl rfl rfl rfl ?_
            intro g2 cap2 W9 ho8 hold8 hg8 hgc8
            have ho8' : W9.ownsRow p 9 1 (.slice (some ⟨g2, 0, none⟩) (j + 1) cap2) (YS ++ [Value.string vx.s]).length (YS ++ [Value.string vx.s]) := by rw [List.length_append, hvs]; exact ho8
            have hon8 : Only (fun q => (Value.slice v1a j v1c).ownBlock = some q) Y2 W9 := Only.of_grown hg8
            have hkp : ¬ (Value.slice v1a j v1c).ownBlock = some p := fun e => HWY.out.vp e rfl
            have HST := Lib.hid (HWY.out.setV (v' := .slice (some ⟨g2, 0, none⟩) (j + 1) cap2) (Only.refl _ _) ho8' hon8 (fun q hq => by
             simp only [Value.ownBlock, Option.some.injEq] at hq
             subst hq
             rcases hgc8 with ⟨k, c, e, -⟩ | e
             · exact .inl (by rw [e]; rfl)
             · exact .inr e))
            have p8 := hon8.cell hkp p1Y
            have f8 := (hon8.frozen HWY.out.lt.2 hkp).trans pfY
            have hib := HIB.out
            have hpe := HPB.out
            have hlo : ∀ q, (Value.slice v1a j v1c).ownBlock = some q → p ≤ q := fun q hq => (World.ownsRow.lt hwv q hq).1
            have b38 := hon8.cell (fun e => by have := hlo _ e; omega) b3Y
            have v38 := hon8.cell (fun e => by have := hlo _ e; omega) vsY
            clear ho8 ho8' hold8 hg8 hgc8 hon8 hkp p1Y b3Y vsY pfY hlo hpe hib
            refine ⟨⟨p8, b38, v38⟩, ?_⟩
            clear b38 v38
            iterate 2
             first
             | (
               refine m_take (v := ?_) rfl rfl ?_ ?_
               rotate_left
               ·
                 intro W hW
                 go_simp
                 with_reducible rfl
               simp only [Act.put, List.setIfInBounds_toArray, List.set_cons_zero, List.set_cons_succ])
             | (
               refine m_skip rfl rfl ?_
               simp only [Act.put, List.setIfInBounds_toArray, List.set_cons_zero, List.set_cons_succ])
            refine m_done ?_
            simp only [List.drop_succ_cons, List.drop_zero]
            go_upto_region 28 with fail
            simp only [NP]
            go_upto_region 28 with fail
            have hpe := HPB.out
            have HB3 := Lib.hid (show Below w3.heap.size w3 (W9.setCell ⟨p, 1, none⟩ (.slice (some ⟨g2, 0, none⟩) (j + 1) cap2)) from (HB2.out.trans (HY.out.mono HB2.out.size)).trans (HST.out.2.below (by have := HB2.out.size; have := HY.out.size; omega) (fun q hq hw => by have := (HWY.out.foot hw).1; omega)))
            have HW3 := Lib.hid HST.out.1
            generalize W9.setCell ⟨p, 1, none⟩ (.slice (some ⟨g2, 0, none⟩) (j + 1) cap2) = Z2 at *
            clear p8 f8 HST HWY HY hYs HLIT hwv pf p1 b3 vs2 hpe
            go_wp2_with fail
            go_roundw
            case rel =>
             refine ⟨j + 1, _, _, _, _, by omega, by go_num, ?_, ?_, ?_, ?_, HW3.out, HB3.out⟩
             · rw [List.length_append, hks]; rfl
             · rw [List.length_append, hvs]; rfl
             · rw [HTK.out, List.map_append, ← HKE.out.1]; rfl
             · rw [HTV.out, List.map_append, ← HKE.out.2]; rfl
            case measure => simp [intOf]; omega
           ·
            obtain rfl : j = nk := by omega
            have hks' := hks
            have hvs' := hvs
            have e1 := HKE.out.1
            have e2 := HKE.out.2
            have hnk1 := HNK.out.1
            have hnv1 := HNK.out.2.1
            have hnv2 := HNN.out.1
            rw [List.take_of_length_le (by omega)] at e1 e2
            have HXE := Lib.hid (And.intro e1 e2)
            clear hks' hvs' e1 e2 hnk1 hnv1 hnv2 p0 p1 pf a3 b3 hlt hj
            have HB3w := Lib.hid (show Below w1.heap.size w1 w3 from HB3.out)
            have HK3 := Lib.hid (HK1.out.below HB3.out)
            have HS3 := Lib.hid (HS1.out.below HB3.out)
            have HT3 := Lib.hid (HT1.out.below HB3.out)
            have HKL := Lib.hid (show K < w1.heap.size ∧ S < w1.heap.size from ⟨HK1.out.lt, HS1.out.lt⟩)
            have d3 := cell_later HB.out D3.out
            go_upto_region 30 with fail
            go_loopw [24, 25, 26, 188] (fun _ _ _ iv wq => ∃ (i : Nat) (cv : Value) (PS : List Nat) (s1 : List Int), i ≤ nc ∧ iv = .int .i64 i ∧ PS.length = i ∧ loadK (loadP b f) ((ci.l.map Itc.n).take i) (pg :: s) = some s1 ∧ Wg pg wq p p (.slice k1a j k1c) (.slice v1a j v1c) cv XS YS (PS.map ptrV) ∧ Only (KS K S) w3 wq ∧ SeenAt wq S s1 ∧ KnAt wq (fun q => F q ∧ ¬ wkB p (.slice k1a j k1c) (.slice v1a j v1c) cv q) b K ∧
             (∀ (m : Nat) (c : Int) (q : Nat), (ci.l.map Itc.n)[m]? = some c → PS[m]? = some q → PgAt wq (fun q => F q ∧ ¬ wkB p (.slice k1a j k1c) (.slice v1a j v1c) cv q) b f c q)) (fun _ _ _ iv _ => nc - (intOf iv).toNat)
            case atStart =>
             refine ⟨0, _, [], _, by omega, rfl, rfl, rfl, HW.out, Only.of_below HB.out, HS3.out.below HB.out, HK3.out.turn (Only.of_below (S := fun _ => False) HB.out) (fun h => h) (fun _ _ _ h => h) (fun q hq ht => ⟨hq, fun hw => ?_⟩), fun m c q _ h => by simp at h⟩
             have h1 := (HW.out.foot hw).1
             have h2 := ht.lt
             have h3 := HPB.out
             omega
            case round =>
             obtain ⟨i, cv, PS, s1, hi, rfl, hps, hld, hw, hon, hsn, hkn, hpp⟩ := hrel
             have HW := Lib.hid hw
             have HON := Lib.hid hon
             have HSN := Lib.hid hsn
             have HKN := Lib.hid hkn
             have HPP := Lib.hid hpp
             have HLD := Lib.hid hld
             obtain ⟨c1a, c1c, rfl⟩ := own_slice hw.c
             rw [List.length_map, hps] at hw HW HKN HPP
             clear hw hon hsn hkn hpp hld d3
             by_cases hlt : i < nc
             ·
              obtain ⟨cb, co, clv, rfl, x0, x1, x2, x3, xi, -⟩ := iv_at (ItR.only HON.out (fun q hq hks => by have h1 := hq.1; have h2 := HKL.out; have h3 := HB2.out.size; rcases hks with h | h <;> omega) HCA.out) i (by rw [HNK.out.2.2]; exact hlt)
              have hcm : (ci.l.map Itc.n)[i]? = some (ci.l[i]'(by rw [HNK.out.2.2]; exact hlt)).n := by rw [List.getElem?_map, List.getElem?_eq_getElem (by rw [HNK.out.2.2]; exact hlt)]; rfl
              have HIC := Lib.hid (wfI_n (HWC.out _ (List.getElem_mem (show i < ci.l.length by rw [HNK.out.2.2]; exact hlt))))
              generalize ci.l[i]'(by rw [HNK.out.2.2]; exact hlt) = cx at *
              have HCM := Lib.hid hcm
              have HTK := Lib.hid (show (ci.l.map Itc.n).take (i + 1) = (ci.l.map Itc.n).take i ++ [cx.n] from by rw [List.take_add_one, hcm]; rfl)
              clear hcm
              obtain ⟨xa, xc, rfl, -, -⟩ := xi.slice
              clear xi
              have q1 := w64 (n := dp + 1) (by have := HDP.out; omega) (by have := HDP.out; omega)
              obtain ⟨U, hU⟩ : ∃ U, U = wr.alloc (.cells #[.int .i64 cx.k, .int .i64 cx.n, .string cx.s, .slice xa cx.l.length xc] 72) := ⟨_, rfl⟩
              have hbU : Below wr.heap.size wr U := by rw [hU]; exact below_alloc _ _
              have HBU := Lib.hid hbU
              have u1 : U.cell? ⟨wr.heap.size, 1, none⟩ = some (.int .i64 cx.n) := by rw [hU]; exact box_self 1 _ rfl
              go_upto_region 32 with fail
              rw [← hU]
              obtain ⟨ub, hub⟩ : ∃ ub, ub = wr.heap.size := ⟨_, rfl⟩
              rw [← hub] at u1 ⊢
              clear hU hbU x0 x1 x2 x3 hub
              have HSU := Lib.hid (HSN.out.below HBU.out)
              have HKU := Lib.hid (HKN.out.below HBU.out)
              have HONU := Lib.hid (HON.out.trans (Only.of_below (S := fun _ => False) HBU.out) (fun _ _ h => h.elim))
              have HTU := Lib.hid (HT3.out.ks HK3.out HS3.out HONU.out)
              have HWU := Lib.hid (HW.out.below HBU.out)
              have HFU := Lib.hid (show ∀ q, U.heap.size ≤ q → F q ∧ ¬ wkB p (.slice k1a j k1c) (.slice v1a j v1c) (.slice c1a i c1c) q from fun q hq => ⟨HF.out q (by have := HO3.out.size; have := HONU.out.size; omega), fun hw => by have := (HWU.out.foot hw).2; omega⟩)
              go_upto_region 35 with (go_at_call 27; refine (HIH.out f rfl _ K S _ cx.n (dp + 1) s1 _ (by have := HDP.out; omega) HIC.out (by omega) (by omega) hKS HFU.out HTU.out HKU.out HSU.out).mono ?_; rintro e w4 hres; obtain ⟨ho4, ⟨hl, rfl⟩ | ⟨s2, q2, hl, rfl, hp4, hs4, hk4⟩⟩ := hres.cases <;> have HO4 := Lib.hid ho4 <;> have HL := Lib.hid hl <;> clear ho4 hl hres)
              ·
                go_ret2
                refine LoadOut.no ((HO3.out.trans HONU.out (fun j _ h => h)).trans HO4.out (fun j _ h => h)) ?_ rfl
                rw [HLP.out, HP4.out]
                show loadK (loadP b f) (ci.l.map Itc.n) (pg :: s) = none
                rw [← List.take_append_drop (i + 1) (ci.l.map Itc.n), loadK_app, HTK.out, loadK_snoc, HLD.out]
                show (loadP b f cx.n s1).bind _ = none
                rw [HL.out]; rfl
              ·
                have HP4' := Lib.hid hp4
                have HS4 := Lib.hid hs4
                have HK4 := Lib.hid hk4
                have hpK : K < p ∧ S < p := by have h1 := HKL.out; have h2 := HPB.out; have h3 := HB3.out.size; omega
                have HPK := Lib.hid hpK
                have HW4 := Lib.hid (HWU.out.only HO4.out (fun q hq hks => by have h1 := (HWU.out.foot hq).1; rcases hks with h | h <;> omega))
                obtain ⟨-, -, p2, -, pf⟩ := HW4.out.cells
                clear hp4 hs4 hk4 hpK u1
                have hYd : Below w4.heap.size w4 (w4.alloc (.cells #[.pointer (some ⟨q2, 0, none⟩)] 63)) := below_alloc w4 _
                have HLIT := Lib.hid (show Rd (w4.alloc (.cells #[.pointer (some ⟨q2, 0, none⟩)] 63)) 1 (.slice (some ⟨w4.heap.size, 0, none⟩) 1 1) 1 [.pointer (some ⟨q2, 0, none⟩)] from Rd.lit (w := w4) (cs := #[.pointer (some ⟨q2, 0, none⟩)]) (e := 63) (n := 1) (sz := 1) rfl (by omega))
                have HY := Lib.hid hYd
                have p2Y := cell_later hYd p2
                have pfY := (World.frozen?_of_block (a := ⟨p, 2, none⟩) (hYd.block p HW4.out.lt.2)).trans (pf 2)
                have HWY := Lib.hid (HW4.out.below hYd)
                have hYs : (w4.alloc (.cells #[.pointer (some ⟨q2, 0, none⟩)] 63)).heap.size = w4.heap.size + 1 := by simp
                clear hYd
                have hwc : (w4.alloc (.cells #[.pointer (some ⟨q2, 0, none⟩)] 63)).ownsRow p 63 1 (.slice c1a i c1c) i (PS.map ptrV) := by have := HWY.out.c; rwa [List.length_map, hps] at this
                have HWC := Lib.hid hwc
                have hsy : p ≤ (w4.alloc (.cells #[.pointer (some ⟨q2, 0, none⟩)] 63)).heap.size := by have := HW4.out.lt; omega
                have P2Y := Lib.hid p2Y
                have PFY := Lib.hid pfY
                have HYS := Lib.hid hYs
                clear hwc p2Y pfY
                go_upto_region 36 with (at_builtin; go_loud (
                  refine app_keep tyP (base := p) (n := i) (v := .slice c1a i c1c) (xs := PS.map ptrV) HWC.out HLIT.out (by simp [Value.oneCell']) (by omega) (by omega) (by omega) hsy rfl rfl rfl rfl ?_
                  intro g cap W8 ho8 hold8 hg8 hgc8
                  have ho8' : W8.ownsRow p 63 1 (.slice (some ⟨g, 0, none⟩) (i + 1) cap) ((PS ++ [q2]).map ptrV).length ((PS ++ [q2]).map ptrV) := by rw [List.map_append, List.length_append, List.length_map, hps]; exact ho8
                  have hon8 : Only (fun q => (Value.slice c1a i c1c).ownBlock = some q) (w4.alloc (.cells #[.pointer (some ⟨q2, 0, none⟩)] 63)) W8 := Only.of_grown hg8
                  have hkp : ¬ (Value.slice c1a i c1c).ownBlock = some p := fun e => HWY.out.cp e rfl
                  have hf8 : ∀ q, (Value.slice (some ⟨g, 0, none⟩) (i + 1) cap).ownBlock = some q → (Value.slice c1a i c1c).ownBlock = some q ∨ (w4.alloc (.cells #[.pointer (some ⟨q2, 0, none⟩)] 63)).heap.size ≤ q := fun q hq => by
                    simp only [Value.ownBlock, Option.some.injEq] at hq
                    subst hq
                    rcases hgc8 with ⟨k, c, e, -⟩ | e
                    · exact .inl (by rw [e]; rfl)
                    · exact .inr e
                  have HST := Lib.hid (HWY.out.setC (v' := .slice (some ⟨g, 0, none⟩) (i + 1) cap) (Only.refl _ _) ho8' hon8 hf8)
                  have HG := Lib.hid (show ∀ q, wkB p (.slice k1a j k1c) (.slice v1a j v1c) (.slice (some ⟨g, 0, none⟩) (i + 1) cap) q → wkB p (.slice k1a j k1c) (.slice v1a j v1c) (.slice c1a i c1c) q ∨ w4.heap.size ≤ q from fun q hq => by
                    rcases hq with h | h | h | h
                    · exact .inl (.inl h)
                    · exact .inl (.inr (.inl h))
                    · exact .inl (.inr (.inr (.inl h)))
                    ·
                     rcases hf8 q h with h | h
                     · exact .inl (.inr (.inr (.inr h)))
                     · have := HYS.out; exact .inr (by omega))
                  have p8 := hon8.cell hkp P2Y.out
                  have f8 := (hon8.frozen HWY.out.lt.2 hkp).trans PFY.out
                  clear ho8 ho8' hold8 hg8 hgc8 hon8 hkp hf8))
                have hoz : Only (wkB p (.slice k1a j k1c) (.slice v1a j v1c) (.slice c1a i c1c)) w4 (W8.setCell ⟨p, 2, none⟩ (.slice (some ⟨g, 0, none⟩) (i + 1) cap)) := (Only.of_below HY.out).trans HST.out.2 (fun _ _ h => h)
                have HOZ := Lib.hid hoz
                have HW5 := Lib.hid HST.out.1
                generalize W8.setCell ⟨p, 2, none⟩ (.slice (some ⟨g, 0, none⟩) (i + 1) cap) = Z3 at *
                clear p8 f8 HST HWY HY hYs HLIT HWC hsy P2Y PFY HYS pf p2 hoz
                go_wp2_with fail
                have hlo := fun q hq => (HW4.out.foot (j := q) hq).1
                have hS : ∀ q, (F q ∧ ¬ wkB p (.slice k1a j k1c) (.slice v1a j v1c) (.slice c1a i c1c) q) → TyB w4 q → ¬ wkB p (.slice k1a j k1c) (.slice v1a j v1c) (.slice c1a i c1c) q := fun q hq _ => hq.2
                have hG : ∀ q, (F q ∧ ¬ wkB p (.slice k1a j k1c) (.slice v1a j v1c) (.slice c1a i c1c) q) → TyB w4 q → (F q ∧ ¬ wkB p (.slice k1a j k1c) (.slice v1a j v1c) (.slice (some ⟨g, 0, none⟩) (i + 1) cap) q) := fun q hq ht => ⟨hq.1, fun hw => by
                  rcases HG.out q hw with h | h
                  · exact hq.2 h
                  · have := ht.lt; omega⟩
                have hpk := HPK.out
                have hty4 : ∀ q, KS K S q → ¬ TyB U q := fun q hq => by
                  rcases hq with rfl | rfl
                  · exact HKU.out.ty
                  · exact HSU.out.ty
                go_roundw
                case rel =>
                  refine ⟨i + 1, _, PS ++ [q2], s2, by omega, by go_num, by rw [List.length_append, hps]; rfl, ?_, HW5.out, ?_, ?_, ?_, ?_⟩
                  · rw [HTK.out, loadK_snoc, HLD.out]; exact HL.out
                  · exact (HONU.out.trans HO4.out (fun _ _ h => h)).trans HOZ.out (fun q hq hw => by have h1 := hlo q hw; have h2 := HPB.out; omega)
                  · exact HS4.out.only HOZ.out (fun hw => by have h1 := hlo _ hw; omega)
                  · exact HK4.out.turn HOZ.out (fun hw => by have h1 := hlo _ hw; omega) hS hG
                  ·
                    intro m c q hc hq
                    by_cases hm : m < i
                    ·
                     rw [List.getElem?_append_left (by omega)] at hq
                     exact ((((HPP.out m c q hc hq).maps (Only.of_below (S := fun _ => False) HBU.out) (fun _ h => h.elim)).maps HO4.out hty4).turn HOZ.out hS hG)
                    ·
                     have hml : m < (PS ++ [q2]).length := (List.getElem?_eq_some_iff.1 hq).1
                     rw [List.length_append, hps] at hml
                     obtain rfl : m = i := by simp at hml; omega
                     rw [HCM.out] at hc
                     cases hc
                     rw [List.getElem?_append_right (by omega)] at hq
                     simp [hps] at hq
                     subst hq
                     exact HP4'.out.turn HOZ.out hS hG
                case measure => simp [intOf]; omega
             ·
              obtain rfl : i = nc := by omega
              have hcl : (ci.l.map Itc.n).take i = ci.l.map Itc.n := List.take_of_length_le (by rw [List.length_map, HNK.out.2.2]; exact Nat.le_refl _)
              have hld := HLD.out
              rw [hcl] at hld
              have hlen2 : ki.l.length = vi.l.length := by rw [HNK.out.1, HNK.out.2.1, ← HNN.out.1]
              have hnd : NdAt wr F p (.slice k1a j k1c) (.slice v1a j v1c) (.slice c1a i c1c) (List.zip (ki.l.map itS) (vi.l.map itS)) PS := by
                have h := HW.out
                rw [HXE.out.1, HXE.out.2, ← zip_fst hlen2, ← zip_snd hlen2] at h
                exact h.nd (fun q hq => HF.out q (by have h1 := (HW.out.foot hq).1; have h2 := HPB.out; have h3 := HO3.out.size; omega)) (HOK.out p pg hpg0 HPGB.out)
              have hpage : PgAt wr F b (f + 1) pg p := ⟨_, _, _, _, _, PS, HP4.out, hnd, HW.out.cells.2.2.2.1, by rw [hps, List.length_map, HNK.out.2.2], fun m c q hc hq => (HPP.out m c q hc hq).turn (Only.refl (fun _ => False) _) (fun _ _ _ h => h) (fun q hq _ => hq.1)⟩
              have hk9 : KnAt wr F b K := HKN.out.turn (Only.refl (fun _ => False) _) (fun h => h) (fun _ _ _ h => h) (fun q hq _ => hq.1)
              obtain ⟨w9, hu9, hkn9, ho9⟩ := hk9.put (P := Try.prog) (t := 76) Try.underlying76 Try.underlying3 hpage
              have hK9 : ∀ q, q = K → ¬ TyB wr q := fun q e => by rw [e]; exact hk9.ty
              have HFIN := Lib.hid (show LoadOut w w9 F b K S (f + 1) pg s (.returned (.tuple #[.pointer (some ⟨p, 0, none⟩), .bool true])) from
                LoadOut.yes ((HO3.out.trans HON.out (fun _ _ h => h)).trans ho9 (fun _ _ h => .inl h)) (by rw [HLP.out, HP4.out]; exact hld) rfl (hpage.maps ho9 hK9) (HSN.out.only ho9 (fun h => hKS h.symm)) hkn9)
              unfold ptrV at hu9
              clear hcl hld hlen2 hnd hpage hk9 hkn9 ho9 hK9
              go_wp2_with fail
              go_ret2
              exact HFIN.out
        ·
         have e3 : ((nk : Int) != (nv : Int)) = true := by simp; omega
         have HNO := Lib.hid (show loadP b (f + 1) pg s = none by rw [HLP.out, HP3.out, if_pos (.inr (.inl hA3))])
         clear hA2 hA3
         go_quiet (fail)
         go_wp2_with fail
         go_ret2
         exact LoadOut.no (HO3.out.trans (Only.of_below (below_dn (Below.refl _ _) _)) (fun _ _ h => h)) HNO.out rfl
      ·
       have e1 : ((l.length : Int) != 3) = true := by simp; omega
       have HNO := Lib.hid (show loadP b (f + 1) pg s = none by rw [HLP.out, HPL.out, pageI_len hl])
       go_quiet (fail)
       go_wp2_with fail
       go_ret2
       exact LoadOut.no (HO3.out.trans (Only.of_below (below_dn (Below.refl _ _) _)) (fun _ _ h => h)) HNO.out rfl
    ·
     have HNO := Lib.hid (show loadP b (f + 1) pg s = none by
      rw [HLP.out]
      unfold pageP
      rw [if_neg hc0])
     have HC0 := Lib.hid (show ((Fr.FrM.next b pg).2.2 != 0) = true by simp [hc0])
     clear hc0
     rcases h12 with rfl | rfl
     ·
      go_wp2_with (go_at_call 49; refine HNX.out.mono ?_; rintro e w2 ⟨r, n, c, rfl, ⟨hr, hn, hc⟩, hb2⟩; have e0 : (c != 0) = true := (by rw [hc]; exact HC0.out); have HB2 := Lib.hid hb2; clear hr hn hc hb2)
      go_ret2
      exact LoadOut.no (HO1.out.trans (Only.of_below HB2.out) (fun _ _ h => h)) HNO.out rfl
     ·
      cases r1
      ·
       go_wp2_with (go_at_call 49; refine HNX.out.mono ?_; rintro e w2 ⟨r, n, c, rfl, ⟨hr, hn, hc⟩, hb2⟩; have e0 : (c != 0) = true := (by rw [hc]; exact HC0.out); have HB2 := Lib.hid hb2; clear hr hn hc hb2)
       go_ret2
       exact LoadOut.no (HO1.out.trans (Only.of_below HB2.out) (fun _ _ h => h)) HNO.out rfl
      ·
       go_wp2_with (go_at_call 49; refine HNX.out.mono ?_; rintro e w2 ⟨r, n, c, rfl, ⟨hr, hn, hc⟩, hb2⟩; have e0 : (c != 0) = true := (by rw [hc]; exact HC0.out); have HB2 := Lib.hid hb2; clear hr hn hc hb2)
       go_ret2
       exact LoadOut.no (HO1.out.trans (Only.of_below HB2.out) (fun _ _ h => h)) HNO.out rfl
   ·
    obtain ⟨d, rfl⟩ : ∃ d', d = d' + 1 := by
     cases d with
     | zero => exact hp.elim
     | succ d => exact ⟨d, rfl⟩
    have HP := Lib.hid hp
    obtain ⟨es, ks, kv, vv, cv, ps, h1, h2, h3, h4, h5⟩ := hp
    have HKS := Lib.hid h1
    have hpg0 := (pageP_some h1).1
    have hI := (pageP_some h1).2.2.2.2.2
    have hkl9 : ks.length ≤ 65537 := by have := pageP_some h1; omega
    obtain rfl : r1 = false := by
     rw [← hr1]
     simp; omega
    have HI := Lib.hid hI
    have HH5 := Lib.hid h5
    have HN := Lib.hid h2
    obtain ⟨ca, cc, rfl, hc1, hc2⟩ := Rd.slice h2.rc.rd
    have c2 := h2.c2
    have RC := Lib.hid h2.rc
    unfold ptrV at hkl
    clear h1 h2 h3 h5 hI h12 hr1 hr2
    go_wp2_with fail
    have HTY := Lib.hid (show ∀ j, KS K S j → ¬ TyB w1 j from fun j hj => by
     rcases hj with rfl | rfl
     · exact HK1.out.ty
     · exact HS1.out.ty)
    go_loopw [14, 15, 16, 52] (fun _ _ _ iv wr => ∃ (j : Nat) (s1 : List Int), j ≤ ps.length ∧ iv = .int .i64 j ∧ loadK (loadP b f) (ks.take j) (pg :: s) = some s1 ∧ SeenAt wr S s1 ∧ KnAt wr F b K ∧ Only (KS K S) w1 wr) (fun _ _ _ iv _ => ps.length - (intOf iv).toNat)
    case atStart => exact ⟨0, _, by omega, rfl, rfl, HS1.out, HK1.out, Only.refl _ _⟩
    case round =>
     obtain ⟨j, s1, hj, rfl, hld, hsn, hkn, hon⟩ := hrel
     have HSN := Lib.hid hsn
     have HKN := Lib.hid hkn
     have HON := Lib.hid hon
     have HLD := Lib.hid hld
     have c2' := (HN.out.maps hon HTY.out).c2
     clear hsn hkn hon hld
     by_cases hlt : j < ps.length
     ·
      have hq : ps[j]? = some ps[j] := List.getElem?_eq_getElem hlt
      have hc : ks[j]? = some (ks[j]'(by omega)) := List.getElem?_eq_getElem (by omega)
      obtain ⟨cb, co, rfl, -, -, hcell⟩ := (HN.out.maps HON.out HTY.out).rc.at (ptrs_get hq)
      have hpq := (HH5.out j _ _ hc hq).maps HON.out HTY.out
      have hcp := hpq.page
      have HIC := Lib.hid (HI.out _ (List.getElem_mem (show j < ks.length by omega)))
      have HTK := Lib.hid (List.take_succ_eq_append_getElem (show j < ks.length by omega))
      generalize ks[j]'(by omega) = c at *
      generalize ps[j] = q at *
      have HKT := Lib.hid ((HT1.out.ks HK1.out HS1.out HON.out))
      have q1 := w64 (n := dp + 1) (by have := HDP.out; omega) (by have := HDP.out; omega)
      clear hq hc hpq
      go_wp2_with (go_at_call 27; refine (HIH.out f rfl F K S _ c (dp + 1) s1 _ (by have := HDP.out; omega) HIC.out (by omega) (by omega) hKS (fun j h => HF.out j (by have := HO1.out.size; have := HON.out.size; omega)) HKT.out HKN.out HSN.out).mono ?_; rintro e w2 hres; obtain ⟨ho2, ⟨hl, rfl⟩ | ⟨s2, q2, hl, rfl, hp2, hs2, hk2⟩⟩ := hres.cases <;> have HO2 := Lib.hid ho2 <;> have HL := Lib.hid hl <;> clear ho2 hl hres)
      ·
       go_ret2
       refine LoadOut.no ((HO1.out.trans HON.out (fun j _ h => h)).trans HO2.out (fun j _ h => h)) ?_ rfl
       rw [HLP.out, HKS.out]
       show loadK (loadP b f) ks (pg :: s) = none
       rw [← List.take_append_drop (j + 1) ks, loadK_app, HTK.out, loadK_snoc, HLD.out]
       show (loadP b f c s1).bind _ = none
       rw [HL.out]; rfl
      ·
       have HP2 := Lib.hid hs2
       have HK2 := Lib.hid hk2
       clear hp2 hs2 hk2
       go_wp2_with fail
       go_roundw
       case rel =>
        refine ⟨j + 1, s2, by omega, by go_num, ?_, HP2.out, HK2.out, HON.out.trans HO2.out (fun j _ h => h)⟩
        rw [HTK.out, loadK_snoc, HLD.out]
        exact HL.out
       case measure => simp [intOf]; omega
     ·
      obtain rfl : j = ps.length := by omega
      go_wp2_with fail
      go_ret2
      rw [h4, List.take_length] at HLD
      have hl : loadP b (f + 1) pg s = some s1 := by rw [HLP.out, HKS.out]; exact HLD.out
      exact LoadOut.yes (HO1.out.trans HON.out (fun j _ h => h)) hl rfl ((HP.out.maps HON.out HTY.out).cut hl) HSN.out HKN.out
end Go.Proofs.Ytmafnjidhjabgaa
namespace Go.Proofs.Ytmafnjidhjabgaa
open Go.RowKit Go.Shelf
set_option linter.unusedVariables false
set_option linter.unusedSectionVars false
variable [Inhabited Pgs]
theorem load_calls (b : List UInt8) (hlen : b.length ≤ 1099511627776) (hok : ∀ p pg, 0 ≤ pg → pg ≤ 1099511627776 → okPg p pg) : ∀ f, LoadSpec b f
 | 0 => load_step b 0 hlen hok (fun g e => by omega)
 | f + 1 => load_step b (f + 1) hlen hok (fun g e => by
  obtain rfl : f = g := by omega
  exact load_calls b hlen hok f)
end Go.Proofs.Ytmafnjidhjabgaa
