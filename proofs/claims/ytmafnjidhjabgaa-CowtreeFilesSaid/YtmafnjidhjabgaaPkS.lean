/- Walks and plain laws of the chapter, laid together; each part says what it proves. -/
import Derived.Test.YtmafnjidhjabgaaPkR
namespace Go.Proofs.Ytmafnjidhjabgaa
open Go.RowKit Go.Shelf
set_option linter.unusedVariables false
set_option linter.unusedSectionVars false
set_option linter.unusedSimpArgs false
set_option maxRecDepth 100000
variable [Inhabited Pgs]
set_option maxHeartbeats 8000000 in
theorem topen_calls (hok : ∀ p pg, 0 ≤ pg → pg ≤ 1099511627776 → okPg p pg) (d Bd : Nat) (D : Dk) (nm : ByteArray) (w : World) (hd : DiskAt w Bd d D) (h1 : 1 ≤ nm.size) (h2 : nm.size ≤ 10) (hlow : lowName nm) (hfl : D.fails = false) (hch : D.chg.length ≤ 800000)
  (hl : ∀ i, i < 2 → (fileOf D.now (sfn nm i)).length ≤ 1099511627776) (hlt : ∀ i, i < 2 → (fileOf D.now (tfn nm i)).length ≤ 1099511627776) (hg : ∀ i, i < 2 → goodNm (tfn nm i).data.toList = true) :
  Calls Try.prog 8 #[.pointer (some ⟨d, 0, none⟩), .string nm] w (OpenOut w d Bd D nm) := by
 have HOK := Lib.hid hok
 have HD := Lib.hid hd
 have HLT := Lib.hid hlt
 have HG := Lib.hid hg
 have HF := Lib.hid (And.intro hfl hch)
 have HSO := Lib.hid (sopen_calls d Bd D nm w hd h1 (by omega) hlow hl)
 have d2 : decide ((10 : Int) < (nm.size : Int)) = false := decide_eq_false (by omega)
 clear hok hd hl hlow hlt hg hfl hch
 have HSE := Lib.hid (show ∀ s, openN D nm 2 = s → (OpenGood D nm ↔ s.ver = 0 ∨ ∃ l, dec s.val.data.toList = some l ∧ ItemsOk D nm l) from fun s e => by subst e; exact Iff.rfl)
 obtain ⟨s, hs⟩ : ∃ s, s = openN D nm 2 := ⟨_, rfl⟩
 rw [← hs] at HSO
 have HS := Lib.hid hs
 have HVS := Lib.hid (show s.val.size ≤ 65536 ∧ s.ver ≤ 9223372036854775807 from by
  rw [hs]
  have h0 := readS_ok (fileOf D.now (sfn nm 0))
  have h1 := readS_ok (fileOf D.now (sfn nm 1))
  have e0 : openN D nm 1 = openSt D 0 (sNew nm) := rfl
  have e1 : openN D nm 2 = openSt D 1 (openN D nm 1) := rfl
  have hb0 : (openN D nm 1).val.size ≤ 65536 ∧ (openN D nm 1).ver ≤ 9223372036854775807 := by
   rw [e0]
   unfold openSt
   split
   · exact ⟨by show (0 : Nat) ≤ _; omega, by show (0 : Nat) ≤ _; omega⟩
   · exact h0
  rw [e1]
  unfold openSt
  split
  · exact hb0
  ·
   rw [(openN_nm D nm 1).1]
   exact h1)
 clear hs
 have hmk1 := fun w : World => run_makeMap_plain (P := Try.prog) w 76
 have hmk2 := fun w : World => run_makeMap_plain (P := Try.prog) w 79
 go_enter Try.func8, Try.ntmps8
 go_upto_region 10 with (first
  | (go_at_call 22; refine HSO.out.mono ?_; rintro e w1 ⟨sl, rfl, hs1, hb1⟩; have HS1 := Lib.hid hs1; have HB1 := Lib.hid hb1; clear hs1 hb1)
  | (go_at_call 23; refine (sget_calls w.heap.size sl d s _ (HS1.out.below (below_alloc _ _))).mono ?_; rintro e w2 ⟨rfl, hb2⟩; have HB2 := Lib.hid hb2; clear hb2))
 obtain ⟨T, hT⟩ : ∃ T, T = w1.heap.size := ⟨_, rfl⟩
 have htr : TrAt (w1.alloc (.cells #[.pointer (some ⟨d, 0, none⟩), .string nm, .pointer (some ⟨sl, 0, none⟩), .int .i64 0, .int .i64 0, .slice none 0 0, .pointer none, .bool false] 65)) w.heap.size T d (tNew nm sl) := by
  have hs := World.ownsRow_lit (base := w.heap.size) (size := 8) (e := 65) w1 #[.pointer (some ⟨d, 0, none⟩), .string nm, .pointer (some ⟨sl, 0, none⟩), .int .i64 0, .int .i64 0, .slice none 0 0, .pointer none, .bool false] 1 HB1.out.size (by unfold maxLen; omega) rfl
  rw [hT]
  unfold TrAt
  simpa [Tr.cells, tNew] using hs
 have HT2 := Lib.hid (htr.below HB2.out)
 have HS2 := Lib.hid ((HS1.out.below (below_alloc _ _)).below HB2.out)
 have HW2 := Lib.hid (below_go (below_box HB1.out _) HB2.out)
 rw [← hT]
 clear htr hT HS1 HB1 HB2 HSO
 by_cases hv0 : s.ver = 0
 ·
  have d3 : decide ((0 : Int) < (s.ver : Int)) = false := decide_eq_false (by omega)
  have d4 : decide (0 < s.ver) = false := decide_eq_false (by omega)
  have HGOOD := Lib.hid (show OpenGood D nm from .inl (by rw [← HS.out]; exact hv0))
  have HVZ0 := Lib.hid hv0
  go_upto_region 24 with fail
  obtain ⟨f, hf⟩ : ∃ f, f = (0 : Nat) := ⟨_, rfl⟩
  obtain ⟨b, hb⟩ : ∃ b, b = ([] : List UInt8) := ⟨_, rfl⟩
  obtain ⟨tg, htg⟩ : ∃ tg, tg = (fun _ : Nat => (0 : Int)) := ⟨_, rfl⟩
  obtain ⟨pg, hpg⟩ : ∃ pg, pg = (fun _ : Nat => (0 : Int)) := ⟨_, rfl⟩
  obtain ⟨rs, hrs⟩ : ∃ rs, rs = ([] : List Rt) := ⟨_, rfl⟩
  obtain ⟨rv, hrv⟩ : ∃ rv, rv = Value.slice none 0 0 := ⟨_, rfl⟩
  have HRL := Lib.hid (show rs.length ≤ 1000000 by rw [hrs]; simp)
  have HTS0 := Lib.hid (show TSt w w2 T sl d Bd D D nm s f 0 none b tg pg rs rv from by
   subst hf hb htg hpg hrs hrv
   exact ⟨HT2.out, HS2.out, World.ownsRow_nil _ _ _ _, Turned.of_below HD.out HW2.out, fun j r h => by simp at h⟩)
  have HHOW := Lib.hid (show ∀ (Dc : Dk) (size g : Nat), g = 1 - f → (∃ D1, GoneIf D (tfn nm g) D1 ∧ ((s.ver = 0 ∧ GoneIf D1 (tfn nm f) Dc ∧ size = 0) ∨ (s.ver ≠ 0 ∧ Dc = D1 ∧ size = (fileOf Dc.now (tfn nm f)).length))) → ((openN D nm 2).ver = 0 ∧ rs = [] ∧ f = 0 ∧ size = 0 ∧ ∃ D1, GoneIf D (tfn nm 1) D1 ∧ GoneIf D1 (tfn nm 0) Dc) ∨
  ((openN D nm 2).ver ≠ 0 ∧ (∃ l, dec (openN D nm 2).val.data.toList = some l ∧ ItemsOk D nm l ∧ f = (itD l 0).n.toNat ∧ 2 * rs.length + 1 = l.length ∧ (∀ j, tg j = (itD l (1 + 2 * j)).n) ∧ ∀ j, pg j = (itD l (2 + 2 * j)).n) ∧ b = fileOf D.now (tfn nm f) ∧ GoneIf D (tfn nm (1 - f)) Dc ∧ size = (fileOf Dc.now (tfn nm f)).length) from fun Dc size g hg ⟨D1, hx1, hx2⟩ => by
   subst hf hg
   rcases hx2 with ⟨-, h9, h8⟩ | ⟨h9, -⟩
   · exact .inl ⟨by rw [← HS.out]; exact HVZ0.out, hrs, rfl, h8, D1, hx1, h9⟩
   · exact absurd HVZ0.out h9)
  have hf1 : f ≤ 1 := by omega
  clear HT2 HS2 HW2 hf hb htg hpg hrs hrv hv0
  obtain ⟨W0, hW0⟩ : ∃ W0, W0 = w2 := ⟨_, rfl⟩
  rw [← hW0] at HTS0 ⊢
  clear hW0
  obtain ⟨g, hg⟩ : ∃ g : Nat, (g : Int) = 1 - (f : Int) := ⟨1 - f, by omega⟩
  have hg1 : g ≤ 1 := by omega
  have HGF := Lib.hid (show g ≠ f by omega)
  have HGG := Lib.hid (show g = 1 - f by omega)
  have hw1 : IntKind.i64.wrap (1 - (f : Int)) = (g : Int) := by rw [← hg]; exact i64w (by omega) (by omega)
  have hw2 : wrap64 (1 - (f : Int)) = (g : Int) := by rw [← hg]; exact w64 (by omega) (by omega)
  clear hg
  have c3 : W0.cell? ⟨T, 3, none⟩ = some (.int .i64 (f : Nat)) := HTS0.out.tr.at.2.2.2.1
  refine region_m [(0, false), (1, false), (2, false), (3, false), (4, false), (5, false), (6, false), (7, false), (8, false), (11, false), (9, true), (10, false)] 12 (fun V => V.cell? ⟨T, 3, none⟩ = some (.int .i64 (f : Nat))) (by kernel_rfl) (by kernel_rfl) c3 ?_
  iterate 10
   first
   | (
     refine m_take (v := ?_) rfl rfl ?_ ?_
     rotate_left
     ·
       intro W hW
       go_simp
       with_reducible rfl
     simp only [Act.put, List.setIfInBounds_toArray, List.set_cons_zero, List.set_cons_succ])
   | (
     refine m_skip rfl rfl ?_
     simp only [Act.put, List.setIfInBounds_toArray, List.set_cons_zero, List.set_cons_succ])
  refine m_loud rfl (fun K hK => ?_)
  have HK := Lib.hid hK
  clear hK
  go_simp
  try rw [hw1]
  obtain ⟨X0, hX0⟩ : ∃ X, X = (W0.alloc (.cells #[.int .i64 (g : Nat), .int .i64 (f : Nat)] 3)).drew := ⟨_, rfl⟩
  have hbX0 : Below W0.heap.size W0 X0 := by rw [hX0]; exact (below_alloc W0 _).drew
  have HTSX := Lib.hid (HTS0.out.below hbX0)
  have HGX := Lib.hid (show G2 X0 W0.heap.size g f from ⟨by rw [hX0, World.cell?_drew, cell_cells (World.alloc_heap_new W0 _)]; rfl, by rw [hX0, World.cell?_drew, cell_cells (World.alloc_heap_new W0 _)]; rfl, ⟨_, _, by rw [hX0]; exact World.alloc_heap_new W0 _⟩⟩)
  rw [← hX0]
  refine HK.out _ _ (cell_later hbX0 c3) ?_
  clear HK
  clear hX0 hbX0 c3
  iterate 1
   first
   | (
     refine m_take (v := ?_) rfl rfl ?_ ?_
     rotate_left
     ·
       intro W hW
       go_simp
       with_reducible rfl
     simp only [Act.put, List.setIfInBounds_toArray, List.set_cons_zero, List.set_cons_succ])
   | (
     refine m_skip rfl rfl ?_
     simp only [Act.put, List.setIfInBounds_toArray, List.set_cons_zero, List.set_cons_succ])
  refine m_done ?_
  simp only [List.drop_succ_cons, List.drop_zero]
  go_wp2_with fail
  simp only [NP]
  go_wp2_with fail
  generalize W0.heap.size = G at *
  clear hw1 hw2 HTS0
  go_loopw [196] (fun iv V => ∃ (k : Nat) (Dc : Dk) (size : Nat), k ≤ 2 ∧ iv = .int .i64 (k : Nat) ∧ TSt w V T sl d Bd D Dc nm s f size none b tg pg rs rv ∧ G2 V G g f ∧ RidSt D nm s.ver g f k Dc size) (fun iv _ => 2 - (intOf iv).toNat)
  case atStart => exact ⟨0, D, 0, by omega, rfl, HTSX.out, HGX.out, .inl ⟨rfl, rfl, rfl⟩⟩
  case round =>
   clear HTSX HGX
   obtain ⟨k, Dc, size, hk, rfl, hts, hg2, hrs⟩ := hrel
   have HTS := Lib.hid hts
   have HG2 := Lib.hid hg2
   have t1 : wr.cell? ⟨T, 1, none⟩ = some (.string nm) := hts.tr.at.2.1
   have r0 := hg2.c0
   have r1 := hg2.c1
   have HRS := Lib.hid hrs
   clear hts hg2 hrs
   have hk3 : k = 0 ∨ k = 1 ∨ k = 2 := by omega
   have n1 : ((g : Int) != (f : Int)) = true := by rw [bne_iff_ne]; have := HGF.out; omega
   have n2 : ((g : Int) == (f : Int)) = false := by rw [beq_eq_false_iff_ne]; have := HGF.out; omega
   rcases hk3 with rfl | rfl | rfl
   ·
    obtain ⟨rfl, rfl⟩ := HRS.out.zero
    have HKP := Lib.hid (show Dc.fails = false ∧ Dc.chg.length < 900000 from ⟨HF.out.1, by have := HF.out.2; omega⟩)
    have HFL := Lib.hid (HLT.out g (by omega))
    obtain ⟨inb, hin⟩ : ∃ inb, (mget Dc.now (tfn nm g)).isSome = inb := ⟨_, rfl⟩
    cases inb with
    | true =>
      go_upto_region 28 with (first
        | (go_at_call 26; refine (path_calls T nm g (by omega) _ t1 (by omega)).mono ?_; rintro e w5' ⟨rfl, hb5'⟩; have HB5' := Lib.hid hb5'; clear hb5')
        | (go_at_call 25; refine (dread_calls d Bd Dc (tfn nm g) w5' (HTS.out.disk.is.below HB5'.out) HFL.out).mono ?_; rintro e w6' ⟨v, rfl, hm6', hb6'⟩; have HM6' := Lib.hid hm6'; have HB6' := Lib.hid (below_go HB5'.out hb6'); clear hm6' hb6'))
      have HTS6 := Lib.hid (HTS.out.below HB6'.out)
      have HG6 := Lib.hid (HG2.out.below HB6'.out)
      have t0 : w6'.cell? ⟨T, 0, none⟩ = some (.pointer (some ⟨d, 0, none⟩)) := HTS6.out.tr.at.1
      have t1 : w6'.cell? ⟨T, 1, none⟩ = some (.string nm) := HTS6.out.tr.at.2.1
      have t3 : w6'.cell? ⟨T, 3, none⟩ = some (.int .i64 (f : Nat)) := HTS6.out.tr.at.2.2.2.1
      have t4 : w6'.cell? ⟨T, 4, none⟩ = some (.int .i64 ((0 : Nat) : Int)) := HTS6.out.tr.at.2.2.2.2.1
      have z4 := HTS6.out.tr.at.2.2.2.2.2.2.2.2 4
      try rw [hin]
      go_wp2_with (go_at_call 29; refine (tremove_calls T d Bd g nm Dc _ (by omega) t0 t1 HTS6.out.disk.is (HTS6.out.disk.is.notFoot HTS6.out.tr.ty (by decide) (by decide)) HKP.out.1 (HG.out g (by omega)) (by omega) hin HKP.out.2).mono ?_; rintro e w8 ⟨rfl, cv, cv2, v8, ht8⟩; have HTS8 := Lib.hid (HTS6.out.step ht8); have HG8 := Lib.hid (HG6.out.only ht8.only (HTS6.out.disk.is.notFoot HG6.out.ty (by decide) (by decide))); have HGO8 := Lib.hid (show GoneIf Dc (tfn nm g) (goneD Dc (tfn nm g) cv cv2 v8) from .inr ⟨hin, cv, cv2, v8, rfl⟩); clear ht8)
      exact ⟨⟨1, _, 0, by omega, rfl, HTS8.out, HG8.out, .inr (.inl ⟨rfl, rfl, HGO8.out⟩)⟩, by simp [intOf]⟩
    | false =>
      go_upto_region 28 with (first
        | (go_at_call 26; refine (path_calls T nm g (by omega) _ t1 (by omega)).mono ?_; rintro e w5' ⟨rfl, hb5'⟩; have HB5' := Lib.hid hb5'; clear hb5')
        | (go_at_call 25; refine (dread_calls d Bd Dc (tfn nm g) w5' (HTS.out.disk.is.below HB5'.out) HFL.out).mono ?_; rintro e w6' ⟨v, rfl, hm6', hb6'⟩; have HM6' := Lib.hid hm6'; have HB6' := Lib.hid (below_go HB5'.out hb6'); clear hm6' hb6'))
      have HTS6 := Lib.hid (HTS.out.below HB6'.out)
      have HG6 := Lib.hid (HG2.out.below HB6'.out)
      have t0 : w6'.cell? ⟨T, 0, none⟩ = some (.pointer (some ⟨d, 0, none⟩)) := HTS6.out.tr.at.1
      have t1 : w6'.cell? ⟨T, 1, none⟩ = some (.string nm) := HTS6.out.tr.at.2.1
      have t3 : w6'.cell? ⟨T, 3, none⟩ = some (.int .i64 (f : Nat)) := HTS6.out.tr.at.2.2.2.1
      have t4 : w6'.cell? ⟨T, 4, none⟩ = some (.int .i64 ((0 : Nat) : Int)) := HTS6.out.tr.at.2.2.2.2.1
      have z4 := HTS6.out.tr.at.2.2.2.2.2.2.2.2 4
      try rw [hin]
      go_wp2_with fail
      exact ⟨⟨1, _, 0, by omega, rfl, HTS6.out, HG6.out, .inr (.inl ⟨rfl, rfl, .inl ⟨hin, rfl⟩⟩)⟩, by simp [intOf]⟩
   ·
    obtain ⟨rfl, hgo⟩ := HRS.out.one
    have HKP := Lib.hid hgo.keeps
    have HGO := Lib.hid hgo
    clear hgo
    have HFL := Lib.hid (show (fileOf Dc.now (tfn nm f)).length ≤ 1099511627776 from by
      have h9 := HLT.out f (by omega)
      unfold fileOf at h9 ⊢
      rw [HKP.out.2.2.2 (tfn nm f) (tfn_ne (by omega) (by omega) (Ne.symm HGF.out))]
      exact h9)
    have HKP := Lib.hid (show Dc.fails = false ∧ Dc.chg.length < 900000 from ⟨HKP.out.1.trans HF.out.1, by have h9 := HKP.out.2.2.1; have h8 := HF.out.2; omega⟩)
    obtain ⟨inb, hin⟩ : ∃ inb, (mget Dc.now (tfn nm f)).isSome = inb := ⟨_, rfl⟩
    by_cases hvz : s.ver = 0
    ·
      have v1 : ((s.ver : Int) == 0) = true := by rw [beq_iff_eq]; omega
      have v1' : (s.ver == 0) = true := by rw [beq_iff_eq]; omega
      have HVZ := Lib.hid hvz
      clear hvz
      cases inb with
      | true =>
        go_upto_region 28 with (first
         | (go_at_call 26; refine (path_calls T nm f (by omega) _ t1 (by omega)).mono ?_; rintro e w5' ⟨rfl, hb5'⟩; have HB5' := Lib.hid hb5'; clear hb5')
         | (go_at_call 25; refine (dread_calls d Bd Dc (tfn nm f) w5' (HTS.out.disk.is.below HB5'.out) HFL.out).mono ?_; rintro e w6' ⟨v, rfl, hm6', hb6'⟩; have HM6' := Lib.hid hm6'; have HB6' := Lib.hid (below_go HB5'.out hb6'); clear hm6' hb6'))
        have HTS6 := Lib.hid (HTS.out.below HB6'.out)
        have HG6 := Lib.hid (HG2.out.below HB6'.out)
        have t0 : w6'.cell? ⟨T, 0, none⟩ = some (.pointer (some ⟨d, 0, none⟩)) := HTS6.out.tr.at.1
        have t1 : w6'.cell? ⟨T, 1, none⟩ = some (.string nm) := HTS6.out.tr.at.2.1
        have t3 : w6'.cell? ⟨T, 3, none⟩ = some (.int .i64 (f : Nat)) := HTS6.out.tr.at.2.2.2.1
        have t4 : w6'.cell? ⟨T, 4, none⟩ = some (.int .i64 ((0 : Nat) : Int)) := HTS6.out.tr.at.2.2.2.2.1
        have z4 := HTS6.out.tr.at.2.2.2.2.2.2.2.2 4
        try rw [hin]
        go_wp2_with (go_at_call 29; refine (tremove_calls T d Bd f nm Dc _ (by omega) t0 t1 HTS6.out.disk.is (HTS6.out.disk.is.notFoot HTS6.out.tr.ty (by decide) (by decide)) HKP.out.1 (HG.out f (by omega)) (by omega) hin HKP.out.2).mono ?_; rintro e w8 ⟨rfl, cv, cv2, v8, ht8⟩; have HTS8 := Lib.hid (HTS6.out.step ht8); have HG8 := Lib.hid (HG6.out.only ht8.only (HTS6.out.disk.is.notFoot HG6.out.ty (by decide) (by decide))); have HGO8 := Lib.hid (show GoneIf Dc (tfn nm f) (goneD Dc (tfn nm f) cv cv2 v8) from .inr ⟨hin, cv, cv2, v8, rfl⟩); clear ht8)
        exact ⟨⟨2, _, 0, by omega, rfl, HTS8.out, HG8.out, .inr (.inr ⟨rfl, _, HGO.out, .inl ⟨HVZ.out, HGO8.out, rfl⟩⟩)⟩, by simp [intOf]⟩
      | false =>
        go_upto_region 28 with (first
         | (go_at_call 26; refine (path_calls T nm f (by omega) _ t1 (by omega)).mono ?_; rintro e w5' ⟨rfl, hb5'⟩; have HB5' := Lib.hid hb5'; clear hb5')
         | (go_at_call 25; refine (dread_calls d Bd Dc (tfn nm f) w5' (HTS.out.disk.is.below HB5'.out) HFL.out).mono ?_; rintro e w6' ⟨v, rfl, hm6', hb6'⟩; have HM6' := Lib.hid hm6'; have HB6' := Lib.hid (below_go HB5'.out hb6'); clear hm6' hb6'))
        have HTS6 := Lib.hid (HTS.out.below HB6'.out)
        have HG6 := Lib.hid (HG2.out.below HB6'.out)
        have t0 : w6'.cell? ⟨T, 0, none⟩ = some (.pointer (some ⟨d, 0, none⟩)) := HTS6.out.tr.at.1
        have t1 : w6'.cell? ⟨T, 1, none⟩ = some (.string nm) := HTS6.out.tr.at.2.1
        have t3 : w6'.cell? ⟨T, 3, none⟩ = some (.int .i64 (f : Nat)) := HTS6.out.tr.at.2.2.2.1
        have t4 : w6'.cell? ⟨T, 4, none⟩ = some (.int .i64 ((0 : Nat) : Int)) := HTS6.out.tr.at.2.2.2.2.1
        have z4 := HTS6.out.tr.at.2.2.2.2.2.2.2.2 4
        try rw [hin]
        have HF0 := Lib.hid (show (fileOf Dc.now (tfn nm f)).length = 0 from by
         have h9 : mget Dc.now (tfn nm f) = none := by
          cases h8 : mget Dc.now (tfn nm f) with
          | none => rfl
          | some z => rw [h8] at hin; cases hin
         unfold fileOf
         rw [h9]
         rfl)
        obtain ⟨va, vc, rfl⟩ := (Txt.of_mine HM6'.out).slice
        have HSZ := Lib.hid (HTS6.out.cellT ((Only.refl (fun j => j = T) w6').setCell ⟨T, 4, none⟩ (.int .i64 ((fileOf Dc.now (tfn nm f)).length : Nat)) (.inl rfl)) (HTS6.out.tr.setSize (fileOf Dc.now (tfn nm f)).length))
        have HGZ := Lib.hid (HG6.out.only ((Only.refl (fun j => j = T) w6').setCell ⟨T, 4, none⟩ (.int .i64 ((fileOf Dc.now (tfn nm f)).length : Nat)) (.inl rfl)) (fun e => by
         have h9 := HG6.out.ty
         rw [show G = T from e] at h9
         exact absurd (h9.eq HTS6.out.tr.ty) (by decide)))
        obtain ⟨FL, hFL⟩ : ∃ FL, FL = (fileOf Dc.now (tfn nm f)).length := ⟨_, rfl⟩
        rw [← hFL] at HSZ HGZ ⊢
        have HFLE := Lib.hid hFL
        clear hFL
        go_wp2_with fail
        obtain rfl : FL = 0 := HFLE.out.trans HF0.out
        exact ⟨⟨2, _, 0, by omega, rfl, HSZ.out, HGZ.out, .inr (.inr ⟨rfl, _, HGO.out, .inl ⟨HVZ.out, .inl ⟨hin, rfl⟩, rfl⟩⟩)⟩, by simp [intOf]⟩
    ·
      have v1 : ((s.ver : Int) == 0) = false := by rw [beq_eq_false_iff_ne]; omega
      have v1' : (s.ver == 0) = false := by rw [beq_eq_false_iff_ne]; omega
      have HVZ := Lib.hid hvz
      clear hvz
      cases inb
      all_goals
        go_upto_region 28 with (first
         | (go_at_call 26; refine (path_calls T nm f (by omega) _ t1 (by omega)).mono ?_; rintro e w5' ⟨rfl, hb5'⟩; have HB5' := Lib.hid hb5'; clear hb5')
         | (go_at_call 25; refine (dread_calls d Bd Dc (tfn nm f) w5' (HTS.out.disk.is.below HB5'.out) HFL.out).mono ?_; rintro e w6' ⟨v, rfl, hm6', hb6'⟩; have HM6' := Lib.hid hm6'; have HB6' := Lib.hid (below_go HB5'.out hb6'); clear hm6' hb6'))
        have HTS6 := Lib.hid (HTS.out.below HB6'.out)
        have HG6 := Lib.hid (HG2.out.below HB6'.out)
        have t0 : w6'.cell? ⟨T, 0, none⟩ = some (.pointer (some ⟨d, 0, none⟩)) := HTS6.out.tr.at.1
        have t1 : w6'.cell? ⟨T, 1, none⟩ = some (.string nm) := HTS6.out.tr.at.2.1
        have t3 : w6'.cell? ⟨T, 3, none⟩ = some (.int .i64 (f : Nat)) := HTS6.out.tr.at.2.2.2.1
        have t4 : w6'.cell? ⟨T, 4, none⟩ = some (.int .i64 ((0 : Nat) : Int)) := HTS6.out.tr.at.2.2.2.2.1
        have z4 := HTS6.out.tr.at.2.2.2.2.2.2.2.2 4
        try rw [hin]
        obtain ⟨va, vc, rfl⟩ := (Txt.of_mine HM6'.out).slice
        have HSZ := Lib.hid (HTS6.out.cellT ((Only.refl (fun j => j = T) w6').setCell ⟨T, 4, none⟩ (.int .i64 ((fileOf Dc.now (tfn nm f)).length : Nat)) (.inl rfl)) (HTS6.out.tr.setSize (fileOf Dc.now (tfn nm f)).length))
        have HGZ := Lib.hid (HG6.out.only ((Only.refl (fun j => j = T) w6').setCell ⟨T, 4, none⟩ (.int .i64 ((fileOf Dc.now (tfn nm f)).length : Nat)) (.inl rfl)) (fun e => by
         have h9 := HG6.out.ty
         rw [show G = T from e] at h9
         exact absurd (h9.eq HTS6.out.tr.ty) (by decide)))
        obtain ⟨FL, hFL⟩ : ∃ FL, FL = (fileOf Dc.now (tfn nm f)).length := ⟨_, rfl⟩
        rw [← hFL] at HSZ HGZ ⊢
        have HFLE := Lib.hid hFL
        clear hFL
        go_wp2_with fail
        exact ⟨⟨2, _, FL, by omega, rfl, HSZ.out, HGZ.out, .inr (.inr ⟨rfl, _, HGO.out, .inr ⟨HVZ.out, rfl, HFLE.out⟩⟩)⟩, by simp [intOf]⟩
   ·
    have HRT := Lib.hid HRS.out.two
    have HBK := Lib.hid (back_calls w.heap.size T d ⟨nm, sl, f, size, rv, none, false⟩ rs wr HTS.out.tr (Rd.of_own HTS.out.row) HRL.out (fun a' n' c' e => by
      rintro rfl
      have e : rv = .slice (some a') n' c' := e
      have h9 : IsT 81 wr a'.block := IsT.of_own HTS.out.row (by rw [e]; rfl)
      exact absurd (h9.eq HTS.out.tr.ty) (by decide)))
    go_wp2_with (go_at_call 19; refine HBK.out.mono ?_; rintro e w9 ⟨rfl, ht9, ho9⟩; have HT9 := Lib.hid (HTS.out.cellT ho9 ht9); clear ht9 ho9)
    go_ret2
    exact .inr ⟨HGOOD.out, T, sl, f, size, Dc, b, tg, pg, rs, rv, rfl, ⟨by rw [← HS.out]; exact HT9.out, HHOW.out Dc size g HGG.out HRT.out⟩⟩
 ·
  have d3 : decide ((0 : Int) < (s.ver : Int)) = true := decide_eq_true (by omega)
  have d4 : decide (0 < s.ver) = true := decide_eq_true (by omega)
  obtain ⟨w3, cap, hcv, hb3, hby⟩ := conv_str s.val w2 (by have := HVS.out; omega)
  have HB3 := Lib.hid (below_go HW2.out hb3)
  have HB23 := Lib.hid hb3
  have HBY := Lib.hid hby
  clear hb3 hby
  go_upto_region 12 with (go_at_call 24; refine (wdecode2_calls _ _ _ HBY.out (by rw [Array.length_toList]; have := HVS.out.1; show s.val.size ≤ _; omega)).mono ?_; rintro e w4 ⟨lv, cd, rfl, hb4, ⟨la, ln, lc, rfl⟩, hres⟩; have HB4 := Lib.hid hb4; have HRES := Lib.hid hres; clear hb4 hres)
  have HBN := Lib.hid (below_go HB3.out HB4.out)
  have HNZ := Lib.hid (show (openN D nm 2).ver ≠ 0 by rw [← HS.out]; exact hv0)
  have HDE := Lib.hid (show (openN D nm 2).val = s.val by rw [← HS.out])
  cases hdc : dec s.val.data.toList with
  | none =>
   have hres := HRES.out
   unfold DecRes2 at hres
   rw [hdc] at hres
   obtain ⟨hcd, hlv⟩ := hres
   have e0 : (cd != 0) = true := by simp [hcd]
   have HNG := Lib.hid (show ¬ OpenGood D nm from fun h => by
    rcases h with h | ⟨l, h, -⟩
    · exact HNZ.out h
    · rw [HDE.out, hdc] at h; cases h)
   clear hcd hlv hdc
   go_wp2_with fail
   go_ret2
   exact .inl ⟨HNG.out, rfl, HBN.out⟩
  | some l =>
   have hres := HRES.out
   unfold DecRes2 at hres
   rw [hdc] at hres
   obtain ⟨rfl, ys, hys, hrow, hkd⟩ := hres
   have HIT := Lib.hid (show ItR (fun j => w3.heap.size ≤ j ∧ j < w4.heap.size) 9 w4 (.slice la ln lc) l from ⟨ys, hys, by have := Rd.of_own hrow; exact this, fun a n c e _ => World.ownsRow.lt hrow a.block (by rw [e]; rfl), hkd⟩)
   have HWF := Lib.hid (dec_wf hdc)
   have HDC := Lib.hid (show dec (openN D nm 2).val.data.toList = some l by rw [HDE.out]; exact hdc)
   have HNOT := Lib.hid (fun (h : ¬ ItemsOk D nm l) => OpenGood.not HNZ.out HDC.out h)
   obtain ⟨qa', qc', qe', ql1, ql2⟩ := HIT.out.slice
   simp only [Value.slice.injEq] at qe'
   obtain ⟨rfl, rfl, rfl⟩ := qe'
   clear hys hrow hkd hdc HRES
   by_cases hodd : l.length % 2 = 1
   ·
    have hl0 : 0 < l.length := by omega
    have e1 : (((l.length : Int) % 2) != 1) = false := by
      rw [bne_eq_false_iff_eq]
      omega
    obtain ⟨ib, io, xl, rfl, a0, a1, -, -, -, -⟩ := iv_at HIT.out 0 hl0
    have HX0 := Lib.hid (itD_at hl0)
    replace a0 : w4.cell? ⟨ib, io, none⟩ = some (.int .i64 (l[0]).k) := by have := a0; simpa using this
    replace a1 : w4.cell? ⟨ib, io + 1, none⟩ = some (.int .i64 (l[0]).n) := by have := a1; simpa using this
    have HL0 := Lib.hid (And.intro hodd hl0)
    have hin : (0 : Int) < (l.length : Int) := by omega
    generalize l[0] = x at *
    clear hodd hl0
    by_cases hk0 : x.k = 0
    ·
      have e2 : (x.k != 0) = false := by simpa using hk0
      by_cases hn0 : x.n < 0
      ·
        have e3 : decide (x.n < 0) = true := decide_eq_true hn0
        have HNG := Lib.hid (HNOT.out (fun h => by have := h.1.2.2.1; rw [HX0.out] at this; omega))
        clear hk0 hn0
        go_wp2_with fail
        go_ret2
        exact .inl ⟨HNG.out, rfl, HBN.out⟩
      ·
        have e3 : decide (x.n < 0) = false := decide_eq_false hn0
        by_cases hn1 : 1 < x.n
        ·
         have e4 : decide (1 < x.n) = true := decide_eq_true hn1
         have HNG := Lib.hid (HNOT.out (fun h => by have := h.1.2.2.2; rw [HX0.out] at this; omega))
         clear hk0 hn0 hn1
         go_wp2_with fail
         go_ret2
         exact .inl ⟨HNG.out, rfl, HBN.out⟩
        ·
         have e4 : decide (1 < x.n) = false := decide_eq_false hn1
         obtain ⟨f, hf⟩ : ∃ f : Nat, x.n = (f : Nat) := ⟨x.n.toNat, by omega⟩
         have HHO := Lib.hid (show HeadOk l ∧ (itD l 0).n.toNat = f from ⟨⟨HL0.out.1, by rw [HX0.out]; exact hk0, by rw [HX0.out]; omega, by rw [HX0.out]; omega⟩, by rw [HX0.out, hf]; omega⟩)
         have hf1 : f ≤ 1 := by omega
         rw [hf] at a1 e3 e4
         clear hk0 hn0 hn1 hf
         have HT4 := Lib.hid ((HT2.out.below HB23.out).below HB4.out)
         have HS4 := Lib.hid ((HS2.out.below HB23.out).below HB4.out)
         have f3 := HT4.out.at.2.2.2.2.2.2.2.2 3
         have c3 := HT4.out.at.2.2.2.1
         have c1 := HT4.out.at.2.1
         have HTW := Lib.hid HT4.out.lt
         have HTW2 := Lib.hid (show T < w2.heap.size from HT2.out.lt.2)
         clear HT2 HS2
         go_upto_region 15 with fail
         obtain ⟨Y, hY⟩ : ∃ Y, Y = w4.setCell ⟨T, 3, none⟩ (.int .i64 (f : Nat)) := ⟨_, rfl⟩
         have hoY : Only (fun j => j = T) w4 Y := by rw [hY]; exact (Only.refl _ _).setCell _ _ (.inl rfl)
         have HTY := Lib.hid (show TrAt Y w.heap.size T d ⟨nm, sl, f, 0, .slice none 0 0, none, false⟩ from by rw [hY]; exact HT4.out.setFile f)
         have HSY := Lib.hid (HS4.out.only hoY (fun e => by
          have h9 := HS4.out.ty
          rw [show sl = T from e] at h9
          exact absurd (h9.eq HT4.out.ty) (by decide)))
         have HLO := Lib.hid (show T < w3.heap.size by have h8 := HTW2.out; have h9 := HB23.out.size; omega)
         have HIY := Lib.hid (HIT.out.only hoY (fun j hj e => by have h9 := HLO.out; have h8 := hj.1; omega))
         have HBY2 := Lib.hid (HBN.out.trans (hoY.below HBN.out.size (fun j hj e => by have := HTW.out; omega)))
         have HZ := Lib.hid (show w3.heap.size ≤ w4.heap.size ∧ w4.heap.size ≤ Y.heap.size from ⟨HB4.out.size, hoY.size⟩)
         rw [← hY]
         clear hoY hY HT4 HS4 HIT f3 c3 c1 a0 a1
         have c1 : Y.cell? ⟨T, 1, none⟩ = some (.string nm) := HTY.out.at.2.1
         have c3 : Y.cell? ⟨T, 3, none⟩ = some (.int .i64 (f : Nat)) := HTY.out.at.2.2.2.1
         go_wp2_with (first
          | (go_at_call 26; refine (path_calls T nm f (by omega) _ c1 (by omega)).mono ?_; rintro e w5 ⟨rfl, hb5⟩; have HB5 := Lib.hid hb5; clear hb5)
          | (go_at_call 25; refine (dread_calls d Bd D (tfn nm f) w5 (HD.out.below (below_go HBY2.out HB5.out)) (HLT.out f (by omega))).mono ?_; rintro e w6 ⟨bv, rfl, hm6, hb6⟩; have HM6 := Lib.hid hm6; have HB6 := Lib.hid (below_go HB5.out hb6); clear hm6 hb6))
         have HBL := Lib.hid (HLT.out f (by omega))
         have HFB := Lib.hid (show ∃ b, b = fileOf D.now (tfn nm f) from ⟨_, rfl⟩)
         obtain ⟨b, hb⟩ := HFB.out
         rw [← hb] at HM6 HBL
         have HBE := Lib.hid hb
         clear hb HFB
         obtain ⟨K, hK⟩ : ∃ K, K = w6.heap.size := ⟨_, rfl⟩
         obtain ⟨X, hX⟩ : ∃ X, X = w6.alloc (.map #[] 0) := ⟨_, rfl⟩
         have hbX : Below w6.heap.size w6 X := by rw [hX]; exact below_alloc _ _
         have hYX := below_go HB6.out hbX
         have HST0 := Lib.hid (show OSt w X T sl d nm s f (.slice (some ⟨ib, io, none⟩) l.length lc) l w3.heap.size w4.heap.size bv b K 0 [] (.slice none 0 0) from
          ⟨HTY.out.below hYX, HSY.out.below hYX, below_go HBY2.out hYX, World.ownsRow_nil _ _ _ _, by rw [hK]; exact KnAt.new hX, (Txt.of_mine HM6.out).below hbX, HIY.out.below hYX (fun j hj => by have h9 := HZ.out; omega), HLO.out, HZ.out.1, by have h9 := HZ.out; have h8 := HB6.out.size; omega, (fun g hg => by cases hg), rfl, (fun j r h => by simp at h), fun j h => by omega⟩)
         rw [← hX, ← hK]
         clear hX hK hbX hYX HTY HSY HIY c1 c3 HM6 HB6 HB5
         go_loopw [16, 17, 18] (fun iv _ _ wr => ∃ (i k : Nat) (rs : List Rt) (rv : Value), iv = .int .i64 (i : Nat) ∧ i = 1 + 2 * k ∧ i ≤ l.length ∧ OSt w wr T sl d nm s f (.slice (some ⟨ib, io, none⟩) l.length lc) l w3.heap.size w4.heap.size bv b K k rs rv) (fun iv _ _ _ => l.length - (intOf iv).toNat)
         case atStart => exact ⟨1, 0, [], _, rfl, rfl, by have := HL0.out; omega, HST0.out⟩
         case round =>
          obtain ⟨i, k, rs, rv, rfl, hik, hil, hst⟩ := hrel
          have HIK := Lib.hid hik
          have HST := Lib.hid hst
          clear hik hst HST0
          by_cases hlt : i < l.length
          ·
           have hi2 : i + 1 < l.length := by have h8 := HL0.out; have h9 := HIK.out; omega
           have y1 : (i : Int) < (l.length : Int) := by omega
           have y2 : (i : Int) + 1 < (l.length : Int) := by omega
           have hl65 := dec_len HDC.out
           have q1 := w64 (n := (i : Int) + 1) (by omega) (by omega)
           obtain ⟨X1, hX1⟩ : ∃ X1, X1 = wr.alloc (.map #[] 0) := ⟨_, rfl⟩
           have hbX1 : Below wr.heap.size wr X1 := by rw [hX1]; exact below_alloc _ _
           have HST1 := Lib.hid (HST.out.below hbX1)
           have HSN1 := Lib.hid (show SeenAt X1 wr.heap.size [] from SeenAt.new hX1)
           have HKL := Lib.hid HST.out.kn.lt
           obtain ⟨ib', io', xl1, hbo, a0, a1, -, -, -, hib⟩ := iv_at HST.out.its i hlt
           simp only [Option.some.injEq, Addr.mk.injEq, and_true] at hbo
           obtain ⟨rfl, rfl⟩ := hbo
           obtain ⟨ib', io', xl2, hbo, b0, b1, -, -, -, -⟩ := iv_at HST.out.its (i + 1) hi2
           simp only [Option.some.injEq, Addr.mk.injEq, and_true] at hbo
           obtain ⟨rfl, rfl⟩ := hbo
           have HA := Lib.hid (itD_at hlt)
           have HC := Lib.hid (itD_at hi2)
           have HWC := Lib.hid (wfI_n (HWF.out.2 _ (List.getElem_mem hi2)))
           have HIB := Lib.hid (show ib < K ∧ ib < wr.heap.size ∧ ib < w4.heap.size by have h8 := HST.out.hK; have h9 := HST.out.kn.lt; have h7 := hib.2; omega)
           generalize l[i] = a at *
           generalize l[i + 1] = c at *
           have HBX1 := Lib.hid hbX1
           have A0 := Lib.hid a0
           have A1 := Lib.hid a1
           have B0 := Lib.hid b0
           have HPK := Lib.hid (show ItemsOk D nm l → RootOk b c.n ∧ a.k = 0 ∧ c.k = 0 ∧ (0 < k → (itD l (2 * k - 1)).n < a.n) from fun h => by
            have h9 := h.2 k (by have := HIK.out; omega)
            unfold PairOk at h9
            have h8 := HIK.out
            rw [HHO.out.2, ← HBE.out, show 2 + 2 * k = i + 1 by omega, ← h8, HC.out, HA.out] at h9
            exact h9)
           have HPO := Lib.hid (show RootOk b c.n → a.k = 0 → c.k = 0 → (0 < k → (itD l (2 * k - 1)).n < a.n) → PairOk b l k from fun g1 g2 g3 g4 => by
            have h8 := HIK.out
            unfold PairOk
            rw [show 2 + 2 * k = i + 1 by omega, ← h8, HC.out, HA.out]
            exact ⟨g1, g2, g3, g4⟩)
           clear hbX1 hib a0 b0
           by_cases hm : c.n = -1
           ·
            rw [hm] at b1
            have HRO := Lib.hid (show RootOk b c.n from .inl hm)
            go_upto_region 21 with (go_at_call 27; (try rw [← hX1]); refine (load_minus bv K wr.heap.size _).mono ?_; rintro e w7 ⟨rfl, hw7⟩; obtain rfl : X1 = w7 := hw7.symm)
            try rw [← hX1]
            have HST7 := HST1
            have HPG7 := Lib.hid (show PgRt X1 (fun j => w.heap.size ≤ j) b c.n none from .inl ⟨hm, rfl⟩)
            have A07 := Lib.hid (cell_later HBX1.out A0.out)
            have A17 := Lib.hid (cell_later HBX1.out A1.out)
            have B07 := Lib.hid (cell_later HBX1.out B0.out)
            clear HST1 HSN1 HBX1 A0 A1 B0 HST hX1 b1 a1 hm
            generalize X1 = w7 at *
            by_cases hak : a.k = 0
            ·
             have g1 : (a.k != 0) = false := by simpa using hak
             by_cases hck : c.k = 0
             ·
               have g2 : (c.k != 0) = false := by simpa using hck
               by_cases h1i : 1 < i
               ·
                 have g3 : decide ((1 : Int) < (i : Int)) = true := decide_eq_true (by omega)
                 have g3' : decide (1 < i) = true := decide_eq_true h1i
                 obtain ⟨i2, hi2e⟩ : ∃ i2, i = i2 + 2 := ⟨i - 2, by omega⟩
                 obtain ⟨ib', io', xl3, hbo, -, p1, -, -, -, -⟩ := iv_at HST7.out.its i2 (by omega)
                 simp only [Option.some.injEq, Addr.mk.injEq, and_true] at hbo
                 obtain ⟨rfl, rfl⟩ := hbo
                 have HPR := Lib.hid (show itD l (2 * k - 1) = l[i2]'(by omega) by rw [show 2 * k - 1 = i2 by have := HIK.out; omega]; exact itD_at (by omega))
                 have hk0 : 0 < k := by have := HIK.out; omega
                 generalize l[i2]'(by omega) = pv at *
                 have P17 := Lib.hid p1
                 have HI2 := Lib.hid hi2e
                 have q4 : ∀ x : Wc (fun V => Below w7.heap.size w7 V), x.v.cell? ⟨ib, io + i2 * 4 + 1, none⟩ = some (.int .i64 pv.n) := fun x => cell_later x.h P17.out
                 have q5 : ((i : Int) - 2).toNat = i2 := by omega
                 have q6 : (2 : Int) ≤ (i : Int) := by omega
                 have q7 : (i : Int) - 2 < (l.length : Int) := by omega
                 clear p1 hi2e
                 by_cases hpn : a.n ≤ pv.n
                 ·
                  have g4 : decide (a.n ≤ pv.n) = true := decide_eq_true hpn
                  have HNG := Lib.hid (HNOT.out (fun h => by have h9 := (HPK.out h).2.2.2 hk0; rw [HPR.out] at h9; omega))
                  clear hak hck hpn h1i
                  have q0 : ∀ x : Wc (fun V => Below w7.heap.size w7 V), x.v.cell? ⟨ib, io + i * 4, none⟩ = some (.int .i64 a.k) := fun x => cell_later x.h A07.out
                  have q2 : ∀ x : Wc (fun V => Below w7.heap.size w7 V), x.v.cell? ⟨ib, io + (i + 1) * 4, none⟩ = some (.int .i64 c.k) := fun x => cell_later x.h B07.out
                  have q3 : ∀ x : Wc (fun V => Below w7.heap.size w7 V), x.v.cell? ⟨ib, io + i * 4 + 1, none⟩ = some (.int .i64 a.n) := fun x => cell_later x.h A17.out
                  haveI : Nonempty (Wc (fun V => Below w7.heap.size w7 V)) := ⟨⟨w7, Below.refl _ _⟩⟩
                  refine wp_region_class (fun V => Below w7.heap.size w7 V) (by kernel_rfl) (by kernel_rfl) ((Below.refl _ _).drew) ?_
                  repeat (go_big_quiet_step (fail))
                  refine wpQuiet_nil ?_
                  intro xx
                  have HV := Lib.hid xx.h
                  generalize xx.v = V at HV ⊢
                  clear q0 q2 q3
                  go_wp2_with fail
                  go_ret2
                  exact .inl ⟨HNG.out, rfl, HST7.out.bel.trans (HV.out.mono HST7.out.bel.size)⟩
                 ·
                  have g4 : decide (a.n ≤ pv.n) = false := decide_eq_false hpn
                  have HPP := Lib.hid (HPO.out HRO.out hak hck (fun _ => by rw [HPR.out]; omega))
                  clear hak hck hpn h1i
                  have q0 : ∀ x : Wc (fun V => Below w7.heap.size w7 V), x.v.cell? ⟨ib, io + i * 4, none⟩ = some (.int .i64 a.k) := fun x => cell_later x.h A07.out
                  have q2 : ∀ x : Wc (fun V => Below w7.heap.size w7 V), x.v.cell? ⟨ib, io + (i + 1) * 4, none⟩ = some (.int .i64 c.k) := fun x => cell_later x.h B07.out
                  have q3 : ∀ x : Wc (fun V => Below w7.heap.size w7 V), x.v.cell? ⟨ib, io + i * 4 + 1, none⟩ = some (.int .i64 a.n) := fun x => cell_later x.h A17.out
                  haveI : Nonempty (Wc (fun V => Below w7.heap.size w7 V)) := ⟨⟨w7, Below.refl _ _⟩⟩
                  refine wp_region_class (fun V => Below w7.heap.size w7 V) (by kernel_rfl) (by kernel_rfl) ((Below.refl _ _).drew) ?_
                  repeat (go_big_quiet_step (fail))
                  refine wpQuiet_nil ?_
                  intro xx
                  have HV := Lib.hid xx.h
                  generalize xx.v = V at HV ⊢
                  clear q0 q2 q3
                  have HSTV := Lib.hid (HST7.out.below HV.out)
                  have HPGV := Lib.hid (HPG7.out.maps (S := fun _ => False) (Only.of_below HV.out) (fun _ h => h.elim))
                  have a1V := cell_later HV.out A17.out
                  have HKLE := Lib.hid (show rs.length = k ∧ k ≤ 40000 by have h8 := HSTV.out.len; have h9 := HIK.out; omega)
                  obtain ⟨ra, rc, rfl⟩ := own_slice HSTV.out.row
                  have c5 : V.cell? ⟨T, 5, none⟩ = some (.slice ra rs.length rc) := HSTV.out.tr.at.2.2.2.2.2.1
                  have f5 := HSTV.out.tr.at.2.2.2.2.2.2.2.2 5
                  have q8 := w64 (n := (i : Int) + 2) (by omega) (by omega)
                  clear HST7 HPG7
                  go_upto_region 23 with fail
                  refine region_m [(0, false), (1, false), (2, false), (3, false), (4, false), (5, false), (6, false), (7, false), (8, false), (9, false), (10, false), (11, false), (12, true), (13, true), (14, false), (15, false)] 16 (fun Z => Z.cell? ⟨T, 5, none⟩ = some (.slice ra rs.length rc) ∧ Z.cell? ⟨ib, io + i * 4 + 1, none⟩ = some (.int .i64 a.n)) (by kernel_rfl) (by kernel_rfl) ⟨c5, a1V⟩ ?_
                  iterate 12
                   first
                   | (
                      refine m_take (v := ?_) rfl rfl ?_ ?_
                      rotate_left
                      ·
                        intro W hW
                        go_simp
                        with_reducible rfl
                      simp only [Act.put, List.setIfInBounds_toArray, List.set_cons_zero, List.set_cons_succ])
                   | (
                      refine m_skip rfl rfl ?_
                      simp only [Act.put, List.setIfInBounds_toArray, List.set_cons_zero, List.set_cons_succ])
                  refine m_loud rfl (fun K hK => ?_)
                  have HK := Lib.hid hK
                  clear hK
                  go_simp
                  have hYd : Below V.heap.size V (V.alloc (.cells #[.int .i64 a.n, .pointer none] 81)).drew := (below_alloc V _).drew
                  have HLIT := Lib.hid (show Rd (V.alloc (.cells #[.int .i64 a.n, .pointer none] 81)).drew 2 (.slice (some ⟨V.heap.size, 0, none⟩) 1 1) 1 [.int .i64 a.n, .pointer none] from Rd.lit (w := V.drew) (cs := #[.int .i64 a.n, .pointer none]) (e := 81) (n := 1) (sz := 2) rfl (by omega))
                  have HYB := Lib.hid hYd
                  have c5Y := cell_later hYd c5
                  have a1Y := cell_later hYd a1V
                  have f5Y := (World.frozen?_of_block (a := ⟨T, 5, none⟩) (hYd.block T HSTV.out.tr.lt.2)).trans f5
                  have HSTY := Lib.hid (HSTV.out.below hYd)
                  have HPGY := Lib.hid (HPGV.out.maps (S := fun _ => False) (Only.of_below hYd) (fun _ h => h.elim))
                  generalize (V.alloc (.cells #[.int .i64 a.n, .pointer none] 81)).drew = Y2 at *
                  clear hYd
                  refine HK.out _ _ ⟨c5Y, a1Y⟩ ?_
                  clear HK
                  refine m_app tyRoots HSTY.out.row HLIT.out (by simp [Value.oneCell']) (by omega) (by have := HKLE.out; omega) (by have := HKLE.out; omega) HSTY.out.bel.size rfl rfl rfl rfl rfl ?_
                  intro g cap8 W8 ho8 hold8 hg8 hgc8
                  have hrg := HSTY.out.hr
                  have hon8 : Only (fun q => (Value.slice ra rs.length rc).ownBlock = some q) Y2 W8 := Only.of_grown hg8
                  have hTne : ¬ (Value.slice ra rs.length rc).ownBlock = some T := fun e => by have h7 := hrg T e; have h8 := HLO.out; have h9 := HZ.out; omega
                  have hIne : ¬ (Value.slice ra rs.length rc).ownBlock = some ib := fun e => by have h7 := hrg ib e; have h8 := HIB.out; omega
                  have c58 := hon8.cell hTne c5Y
                  have f58 := (hon8.frozen HSTY.out.tr.lt.2 hTne).trans f5Y
                  have a18 := hon8.cell hIne a1Y
                  have ho8' : W8.ownsRow w.heap.size 81 2 (.slice (some ⟨g, 0, none⟩) (rs.length + 1) cap8) (rs ++ [((a.n, none) : Rt)]).length (flatF Rt.cells (rs ++ [((a.n, none) : Rt)])) := by
                   rw [List.length_append]
                   have e : flatF Rt.cells (rs ++ [((a.n, none) : Rt)]) = flatF Rt.cells rs ++ [.int .i64 a.n, .pointer none] := by simp [flatF, Rt.cells]
                   rw [e]
                   exact ho8
                  have HPU := Lib.hid (HSTY.out.push (r := (a.n, none)) ho8' hon8 (fun q hq => by
                   simp only [Value.ownBlock, Option.some.injEq] at hq
                   subst hq
                   rcases hgc8 with ⟨k9, c9, e9, -⟩ | e9
                   · exact .inl (by rw [e9]; rfl)
                   · exact .inr e9) ⟨by rw [← HIK.out, HA.out], by rw [show 2 + 2 * k = i + 1 by have := HIK.out; omega, HC.out]; exact HPGY.out⟩ HPP.out)
                  clear ho8 ho8' hold8 hg8 hgc8 hon8 hTne hIne c5Y a1Y f5Y hrg c5 a1V f5
                  refine ⟨⟨c58, a18⟩, ?_⟩
                  clear a18
                  iterate 2
                   first
                   | (
                      refine m_take (v := ?_) rfl rfl ?_ ?_
                      rotate_left
                      ·
                        intro W hW
                        go_simp
                        with_reducible rfl
                      simp only [Act.put, List.setIfInBounds_toArray, List.set_cons_zero, List.set_cons_succ])
                   | (
                      refine m_skip rfl rfl ?_
                      simp only [Act.put, List.setIfInBounds_toArray, List.set_cons_zero, List.set_cons_succ])
                  refine m_done ?_
                  simp only [List.drop_succ_cons, List.drop_zero]
                  go_upto_region 19 with fail
                  simp only [NP]
                  go_wp2_with fail
                  go_roundw
                  case rel => exact ⟨i + 2, k + 1, rs ++ [((a.n, none) : Rt)], _, by go_num, by have := HIK.out; omega, by have := HL0.out; have := HIK.out; omega, HPU.out⟩
                  case measure => simp [intOf]; omega
               ·
                 have g3 : decide ((1 : Int) < (i : Int)) = false := decide_eq_false (by omega)
                 have g3' : decide (1 < i) = false := decide_eq_false h1i
                 have HPP := Lib.hid (HPO.out HRO.out hak hck (fun h => by have := HIK.out; omega))
                 clear hak hck h1i
                 have q0 : ∀ x : Wc (fun V => Below w7.heap.size w7 V), x.v.cell? ⟨ib, io + i * 4, none⟩ = some (.int .i64 a.k) := fun x => cell_later x.h A07.out
                 have q2 : ∀ x : Wc (fun V => Below w7.heap.size w7 V), x.v.cell? ⟨ib, io + (i + 1) * 4, none⟩ = some (.int .i64 c.k) := fun x => cell_later x.h B07.out
                 have q3 : ∀ x : Wc (fun V => Below w7.heap.size w7 V), x.v.cell? ⟨ib, io + i * 4 + 1, none⟩ = some (.int .i64 a.n) := fun x => cell_later x.h A17.out
                 haveI : Nonempty (Wc (fun V => Below w7.heap.size w7 V)) := ⟨⟨w7, Below.refl _ _⟩⟩
                 refine wp_region_class (fun V => Below w7.heap.size w7 V) (by kernel_rfl) (by kernel_rfl) ((Below.refl _ _).drew) ?_
                 repeat (go_big_quiet_step (fail))
                 refine wpQuiet_nil ?_
                 intro xx
                 have HV := Lib.hid xx.h
                 generalize xx.v = V at HV ⊢
                 clear q0 q2 q3
                 have HSTV := Lib.hid (HST7.out.below HV.out)
                 have HPGV := Lib.hid (HPG7.out.maps (S := fun _ => False) (Only.of_below HV.out) (fun _ h => h.elim))
                 have a1V := cell_later HV.out A17.out
                 have HKLE := Lib.hid (show rs.length = k ∧ k ≤ 40000 by have h8 := HSTV.out.len; have h9 := HIK.out; omega)
                 obtain ⟨ra, rc, rfl⟩ := own_slice HSTV.out.row
                 have c5 : V.cell? ⟨T, 5, none⟩ = some (.slice ra rs.length rc) := HSTV.out.tr.at.2.2.2.2.2.1
                 have f5 := HSTV.out.tr.at.2.2.2.2.2.2.2.2 5
                 have q8 := w64 (n := (i : Int) + 2) (by omega) (by omega)
                 clear HST7 HPG7
                 go_upto_region 23 with fail
                 refine region_m [(0, false), (1, false), (2, false), (3, false), (4, false), (5, false), (6, false), (7, false), (8, false), (9, false), (10, false), (11, false), (12, true), (13, true), (14, false), (15, false)] 16 (fun Z => Z.cell? ⟨T, 5, none⟩ = some (.slice ra rs.length rc) ∧ Z.cell? ⟨ib, io + i * 4 + 1, none⟩ = some (.int .i64 a.n)) (by kernel_rfl) (by kernel_rfl) ⟨c5, a1V⟩ ?_
                 iterate 12
                  first
                  | (
                    refine m_take (v := ?_) rfl rfl ?_ ?_
                    rotate_left
                    ·
                      intro W hW
                      go_simp
                      with_reducible rfl
                    simp only [Act.put, List.setIfInBounds_toArray, List.set_cons_zero, List.set_cons_succ])
                  | (
                    refine m_skip rfl rfl ?_
                    simp only [Act.put, List.setIfInBounds_toArray, List.set_cons_zero, List.set_cons_succ])
                 refine m_loud rfl (fun K hK => ?_)
                 have HK := Lib.hid hK
                 clear hK
                 go_simp
                 have hYd : Below V.heap.size V (V.alloc (.cells #[.int .i64 a.n, .pointer none] 81)).drew := (below_alloc V _).drew
                 have HLIT := Lib.hid (show Rd (V.alloc (.cells #[.int .i64 a.n, .pointer none] 81)).drew 2 (.slice (some ⟨V.heap.size, 0, none⟩) 1 1) 1 [.int .i64 a.n, .pointer none] from Rd.lit (w := V.drew) (cs := #[.int .i64 a.n, .pointer none]) (e := 81) (n := 1) (sz := 2) rfl (by omega))
                 have HYB := Lib.hid hYd
                 have c5Y := cell_later hYd c5
                 have a1Y := cell_later hYd a1V
                 have f5Y := (World.frozen?_of_block (a := ⟨T, 5, none⟩) (hYd.block T HSTV.out.tr.lt.2)).trans f5
                 have HSTY := Lib.hid (HSTV.out.below hYd)
                 have HPGY := Lib.hid (HPGV.out.maps (S := fun _ => False) (Only.of_below hYd) (fun _ h => h.elim))
                 generalize (V.alloc (.cells #[.int .i64 a.n, .pointer none] 81)).drew = Y2 at *
                 clear hYd
                 refine HK.out _ _ ⟨c5Y, a1Y⟩ ?_
                 clear HK
                 refine m_app tyRoots HSTY.out.row HLIT.out (by simp [Value.oneCell']) (by omega) (by have := HKLE.out; omega) (by have := HKLE.out; omega) HSTY.out.bel.size rfl rfl rfl rfl rfl ?_
                 intro g cap8 W8 ho8 hold8 hg8 hgc8
                 have hrg := HSTY.out.hr
                 have hon8 : Only (fun q => (Value.slice ra rs.length rc).ownBlock = some q) Y2 W8 := Only.of_grown hg8
                 have hTne : ¬ (Value.slice ra rs.length rc).ownBlock = some T := fun e => by have h7 := hrg T e; have h8 := HLO.out; have h9 := HZ.out; omega
                 have hIne : ¬ (Value.slice ra rs.length rc).ownBlock = some ib := fun e => by have h7 := hrg ib e; have h8 := HIB.out; omega
                 have c58 := hon8.cell hTne c5Y
                 have f58 := (hon8.frozen HSTY.out.tr.lt.2 hTne).trans f5Y
                 have a18 := hon8.cell hIne a1Y
                 have ho8' : W8.ownsRow w.heap.size 81 2 (.slice (some ⟨g, 0, none⟩) (rs.length + 1) cap8) (rs ++ [((a.n, none) : Rt)]).length (flatF Rt.cells (rs ++ [((a.n, none) : Rt)])) := by
                  rw [List.length_append]
                  have e : flatF Rt.cells (rs ++ [((a.n, none) : Rt)]) = flatF Rt.cells rs ++ [.int .i64 a.n, .pointer none] := by simp [flatF, Rt.cells]
                  rw [e]
                  exact ho8
                 have HPU := Lib.hid (HSTY.out.push (r := (a.n, none)) ho8' hon8 (fun q hq => by
                  simp only [Value.ownBlock, Option.some.injEq] at hq
                  subst hq
                  rcases hgc8 with ⟨k9, c9, e9, -⟩ | e9
                  · exact .inl (by rw [e9]; rfl)
                  · exact .inr e9) ⟨by rw [← HIK.out, HA.out], by rw [show 2 + 2 * k = i + 1 by have := HIK.out; omega, HC.out]; exact HPGY.out⟩ HPP.out)
                 clear ho8 ho8' hold8 hg8 hgc8 hon8 hTne hIne c5Y a1Y f5Y hrg c5 a1V f5
                 refine ⟨⟨c58, a18⟩, ?_⟩
                 clear a18
                 iterate 2
                  first
                  | (
                    refine m_take (v := ?_) rfl rfl ?_ ?_
                    rotate_left
                    ·
                      intro W hW
                      go_simp
                      with_reducible rfl
                    simp only [Act.put, List.setIfInBounds_toArray, List.set_cons_zero, List.set_cons_succ])
                  | (
                    refine m_skip rfl rfl ?_
                    simp only [Act.put, List.setIfInBounds_toArray, List.set_cons_zero, List.set_cons_succ])
                 refine m_done ?_
                 simp only [List.drop_succ_cons, List.drop_zero]
                 go_upto_region 19 with fail
                 simp only [NP]
                 go_wp2_with fail
                 go_roundw
                 case rel => exact ⟨i + 2, k + 1, rs ++ [((a.n, none) : Rt)], _, by go_num, by have := HIK.out; omega, by have := HL0.out; have := HIK.out; omega, HPU.out⟩
                 case measure => simp [intOf]; omega
             ·
               have g2 : (c.k != 0) = true := by simpa using hck
               have HNG := Lib.hid (HNOT.out (fun h => hck (HPK.out h).2.2.1))
               clear hak hck
               have q0 : ∀ x : Wc (fun V => Below w7.heap.size w7 V), x.v.cell? ⟨ib, io + i * 4, none⟩ = some (.int .i64 a.k) := fun x => cell_later x.h A07.out
               have q2 : ∀ x : Wc (fun V => Below w7.heap.size w7 V), x.v.cell? ⟨ib, io + (i + 1) * 4, none⟩ = some (.int .i64 c.k) := fun x => cell_later x.h B07.out
               have q3 : ∀ x : Wc (fun V => Below w7.heap.size w7 V), x.v.cell? ⟨ib, io + i * 4 + 1, none⟩ = some (.int .i64 a.n) := fun x => cell_later x.h A17.out
               haveI : Nonempty (Wc (fun V => Below w7.heap.size w7 V)) := ⟨⟨w7, Below.refl _ _⟩⟩
               refine wp_region_class (fun V => Below w7.heap.size w7 V) (by kernel_rfl) (by kernel_rfl) ((Below.refl _ _).drew) ?_
               repeat (go_big_quiet_step (fail))
               refine wpQuiet_nil ?_
               intro xx
               have HV := Lib.hid xx.h
               generalize xx.v = V at HV ⊢
               clear q0 q2 q3
               go_wp2_with fail
               go_ret2
               exact .inl ⟨HNG.out, rfl, HST7.out.bel.trans (HV.out.mono HST7.out.bel.size)⟩
            ·
             have g1 : (a.k != 0) = true := by simpa using hak
             have HNG := Lib.hid (HNOT.out (fun h => hak (HPK.out h).2.1))
             clear hak
             have q0 : ∀ x : Wc (fun V => Below w7.heap.size w7 V), x.v.cell? ⟨ib, io + i * 4, none⟩ = some (.int .i64 a.k) := fun x => cell_later x.h A07.out
             have q2 : ∀ x : Wc (fun V => Below w7.heap.size w7 V), x.v.cell? ⟨ib, io + (i + 1) * 4, none⟩ = some (.int .i64 c.k) := fun x => cell_later x.h B07.out
             have q3 : ∀ x : Wc (fun V => Below w7.heap.size w7 V), x.v.cell? ⟨ib, io + i * 4 + 1, none⟩ = some (.int .i64 a.n) := fun x => cell_later x.h A17.out
             haveI : Nonempty (Wc (fun V => Below w7.heap.size w7 V)) := ⟨⟨w7, Below.refl _ _⟩⟩
             refine wp_region_class (fun V => Below w7.heap.size w7 V) (by kernel_rfl) (by kernel_rfl) ((Below.refl _ _).drew) ?_
             repeat (go_big_quiet_step (fail))
             refine wpQuiet_nil ?_
             intro xx
             have HV := Lib.hid xx.h
             generalize xx.v = V at HV ⊢
             clear q0 q2 q3
             go_wp2_with fail
             go_ret2
             exact .inl ⟨HNG.out, rfl, HST7.out.bel.trans (HV.out.mono HST7.out.bel.size)⟩
           ·
            cases hld : loadP b 41 c.n [] with
            | none =>
             have HNG := Lib.hid (HNOT.out (fun h => by
               rcases (HPK.out h).1 with h9 | ⟨-, ⟨s9, h9⟩, -⟩
               · exact hm h9
               · rw [hld] at h9; cases h9))
             go_upto_region 21 with (go_at_call 27; (try rw [← hX1]); refine (load_calls b (by have := HBL.out; omega) HOK.out 41 (fun j => w.heap.size ≤ j) K wr.heap.size bv c.n 0 [] _ (by omega) HWC.out (fun h => hm h.1) (by omega) (by have := HKL.out; omega) (fun j h => by have h8 := HST1.out.bel.size; omega) HST1.out.txt HST1.out.kn HSN1.out).mono ?_; rintro e w7 hres; obtain ⟨ho7, hc7⟩ := hres.cases; clear hres; rw [hld] at hc7; rcases hc7 with ⟨-, rfl⟩ | ⟨s2, p, h, -⟩; rotate_left; (cases h))
             have HBN7 := Lib.hid (HST1.out.bel.trans (ho7.below HST1.out.bel.size (fun j hj e => by
               have h8 := HST.out.hKw
               have h9 := HST.out.bel.size
               rcases e with e | e <;> omega)))
             clear ho7 a1 b1 hld hm
             go_quiet (fail)
             go_wp2_with fail
             go_ret2
             exact .inl ⟨HNG.out, rfl, below_dn HBN7.out _⟩
            | some s' =>
             go_upto_region 21 with (go_at_call 27; (try rw [← hX1]); refine (load_calls b (by have := HBL.out; omega) HOK.out 41 (fun j => w.heap.size ≤ j) K wr.heap.size bv c.n 0 [] _ (by omega) HWC.out (fun h => hm h.1) (by omega) (by have := HKL.out; omega) (fun j h => by have h8 := HST1.out.bel.size; omega) HST1.out.txt HST1.out.kn HSN1.out).mono ?_; rintro e w7 hres; obtain ⟨ho7, hc7⟩ := hres.cases; clear hres; rw [hld] at hc7; rcases hc7 with ⟨h, -⟩ | ⟨s2, p, h, rfl, hp7, hs7, hk7⟩; (cases h))
             have ho17 : Only (fun j => j = K) wr w7 := (Only.of_below HBX1.out).trans ho7 (fun j hj e => by rcases e with e | e <;> omega)
             have HST7 := Lib.hid (HST.out.step ho17 hk7)
             have HPG7 := Lib.hid (show PgRt w7 (fun j => w.heap.size ≤ j) b c.n (some ⟨p, 0, none⟩) from .inr ⟨p, rfl, hm, hp7⟩)
             have HP7 := Lib.hid hp7
             have hnk : ¬ (fun j => j = K) ib := fun e => by have e : ib = K := e; have := HIB.out; omega
             have A07 := Lib.hid (ho17.cell hnk A0.out)
             have A17 := Lib.hid (ho17.cell hnk A1.out)
             have B07 := Lib.hid (ho17.cell hnk B0.out)
             have HLD := Lib.hid hld
             have HM := Lib.hid hm
             clear ho7 ho17 hp7 hs7 hk7 hnk HST1 HSN1 HBX1 A0 A1 B0 HST hX1 b1 a1 hm hld
             by_cases hsd : ∃ (h : Nat) (t : BT h), btP b h c.n = some t ∧ BT.Ok h 1 t ∧ Srt (flat h t)
             ·
               have HRO := Lib.hid (show RootOk b c.n from .inr ⟨HM.out, ⟨_, HLD.out⟩, hsd⟩)
               have HSC := Lib.hid (show ∀ x : Wc (fun V => Below w7.heap.size w7 V), Calls Try.prog 28 #[.pointer (some ⟨p, 0, none⟩)] x.v fun e w'' => e = .returned (.bool true) ∧ ∃ y : Wc (fun V => Below w7.heap.size w7 V), w'' = y.v from fun x => by
                 refine (sound_calls _ b 41 c.n p x.v (HP7.out.maps (S := fun _ => False) (Only.of_below x.h) (fun _ h => h.elim)) (by omega)).mono ?_
                 rintro e w8 ⟨r, rfl, hb8, hr⟩
                 obtain rfl : r = true := hr.2 hsd
                 exact ⟨rfl, ⟨w8, below_go x.h hb8⟩, rfl⟩)
               clear hsd
               by_cases hak : a.k = 0
               ·
                 have g1 : (a.k != 0) = false := by simpa using hak
                 by_cases hck : c.k = 0
                 ·
                  have g2 : (c.k != 0) = false := by simpa using hck
                  by_cases h1i : 1 < i
                  ·
                   have g3 : decide ((1 : Int) < (i : Int)) = true := decide_eq_true (by omega)
                   have g3' : decide (1 < i) = true := decide_eq_true h1i
                   obtain ⟨i2, hi2e⟩ : ∃ i2, i = i2 + 2 := ⟨i - 2, by omega⟩
                   obtain ⟨ib', io', xl3, hbo, -, p1, -, -, -, -⟩ := iv_at HST7.out.its i2 (by omega)
                   simp only [Option.some.injEq, Addr.mk.injEq, and_true] at hbo
                   obtain ⟨rfl, rfl⟩ := hbo
                   have HPR := Lib.hid (show itD l (2 * k - 1) = l[i2]'(by omega) by rw [show 2 * k - 1 = i2 by have := HIK.out; omega]; exact itD_at (by omega))
                   have hk0 : 0 < k := by have := HIK.out; omega
                   generalize l[i2]'(by omega) = pv at *
                   have P17 := Lib.hid p1
                   have HI2 := Lib.hid hi2e
                   have q4 : ∀ x : Wc (fun V => Below w7.heap.size w7 V), x.v.cell? ⟨ib, io + i2 * 4 + 1, none⟩ = some (.int .i64 pv.n) := fun x => cell_later x.h P17.out
                   have q5 : ((i : Int) - 2).toNat = i2 := by omega
                   have q6 : (2 : Int) ≤ (i : Int) := by omega
                   have q7 : (i : Int) - 2 < (l.length : Int) := by omega
                   clear p1 hi2e
                   by_cases hpn : a.n ≤ pv.n
                   ·
                     have g4 : decide (a.n ≤ pv.n) = true := decide_eq_true hpn
                     have HNG := Lib.hid (HNOT.out (fun h => by have h9 := (HPK.out h).2.2.2 hk0; rw [HPR.out] at h9; omega))
                     clear hak hck hpn h1i
                     have q0 : ∀ x : Wc (fun V => Below w7.heap.size w7 V), x.v.cell? ⟨ib, io + i * 4, none⟩ = some (.int .i64 a.k) := fun x => cell_later x.h A07.out
                     have q2 : ∀ x : Wc (fun V => Below w7.heap.size w7 V), x.v.cell? ⟨ib, io + (i + 1) * 4, none⟩ = some (.int .i64 c.k) := fun x => cell_later x.h B07.out
                     have q3 : ∀ x : Wc (fun V => Below w7.heap.size w7 V), x.v.cell? ⟨ib, io + i * 4 + 1, none⟩ = some (.int .i64 a.n) := fun x => cell_later x.h A17.out
                     haveI : Nonempty (Wc (fun V => Below w7.heap.size w7 V)) := ⟨⟨w7, Below.refl _ _⟩⟩
                     refine wp_region_class (fun V => Below w7.heap.size w7 V) (by kernel_rfl) (by kernel_rfl) ((Below.refl _ _).drew) ?_
                     repeat (go_big_quiet_step ((exact HSC.out _)))
                     refine wpQuiet_nil ?_
                     intro xx
                     have HV := Lib.hid xx.h
                     generalize xx.v = V at HV ⊢
                     clear q0 q2 q3
                     go_wp2_with fail
                     go_ret2
                     exact .inl ⟨HNG.out, rfl, HST7.out.bel.trans (HV.out.mono HST7.out.bel.size)⟩
                   ·
                     have g4 : decide (a.n ≤ pv.n) = false := decide_eq_false hpn
                     have HPP := Lib.hid (HPO.out HRO.out hak hck (fun _ => by rw [HPR.out]; omega))
                     clear hak hck hpn h1i
                     have q0 : ∀ x : Wc (fun V => Below w7.heap.size w7 V), x.v.cell? ⟨ib, io + i * 4, none⟩ = some (.int .i64 a.k) := fun x => cell_later x.h A07.out
                     have q2 : ∀ x : Wc (fun V => Below w7.heap.size w7 V), x.v.cell? ⟨ib, io + (i + 1) * 4, none⟩ = some (.int .i64 c.k) := fun x => cell_later x.h B07.out
                     have q3 : ∀ x : Wc (fun V => Below w7.heap.size w7 V), x.v.cell? ⟨ib, io + i * 4 + 1, none⟩ = some (.int .i64 a.n) := fun x => cell_later x.h A17.out
                     haveI : Nonempty (Wc (fun V => Below w7.heap.size w7 V)) := ⟨⟨w7, Below.refl _ _⟩⟩
                     refine wp_region_class (fun V => Below w7.heap.size w7 V) (by kernel_rfl) (by kernel_rfl) ((Below.refl _ _).drew) ?_
                     repeat (go_big_quiet_step ((exact HSC.out _)))
                     refine wpQuiet_nil ?_
                     intro xx
                     have HV := Lib.hid xx.h
                     generalize xx.v = V at HV ⊢
                     clear q0 q2 q3
                     have HSTV := Lib.hid (HST7.out.below HV.out)
                     have HPGV := Lib.hid (HPG7.out.maps (S := fun _ => False) (Only.of_below HV.out) (fun _ h => h.elim))
                     have a1V := cell_later HV.out A17.out
                     have HKLE := Lib.hid (show rs.length = k ∧ k ≤ 40000 by have h8 := HSTV.out.len; have h9 := HIK.out; omega)
                     obtain ⟨ra, rc, rfl⟩ := own_slice HSTV.out.row
                     have c5 : V.cell? ⟨T, 5, none⟩ = some (.slice ra rs.length rc) := HSTV.out.tr.at.2.2.2.2.2.1
                     have f5 := HSTV.out.tr.at.2.2.2.2.2.2.2.2 5
                     have q8 := w64 (n := (i : Int) + 2) (by omega) (by omega)
                     clear HST7 HPG7
                     go_upto_region 23 with fail
                     refine region_m [(0, false), (1, false), (2, false), (3, false), (4, false), (5, false), (6, false), (7, false), (8, false), (9, false), (10, false), (11, false), (12, true), (13, true), (14, false), (15, false)] 16 (fun Z => Z.cell? ⟨T, 5, none⟩ = some (.slice ra rs.length rc) ∧ Z.cell? ⟨ib, io + i * 4 + 1, none⟩ = some (.int .i64 a.n)) (by kernel_rfl) (by kernel_rfl) ⟨c5, a1V⟩ ?_
                     iterate 12
                       first
                       | (
                         refine m_take (v := ?_) rfl rfl ?_ ?_
                         rotate_left
                         ·
                          intro W hW
                          go_simp
                          with_reducible rfl
                         simp only [Act.put, List.setIfInBounds_toArray, List.set_cons_zero, List.set_cons_succ])
                       | (
                         refine m_skip rfl rfl ?_
                         simp only [Act.put, List.setIfInBounds_toArray, List.set_cons_zero, List.set_cons_succ])
                     refine m_loud rfl (fun K hK => ?_)
                     have HK := Lib.hid hK
                     clear hK
                     go_simp
                     have hYd : Below V.heap.size V (V.alloc (.cells #[.int .i64 a.n, .pointer (some ⟨p, 0, none⟩)] 81)).drew := (below_alloc V _).drew
                     have HLIT := Lib.hid (show Rd (V.alloc (.cells #[.int .i64 a.n, .pointer (some ⟨p, 0, none⟩)] 81)).drew 2 (.slice (some ⟨V.heap.size, 0, none⟩) 1 1) 1 [.int .i64 a.n, .pointer (some ⟨p, 0, none⟩)] from Rd.lit (w := V.drew) (cs := #[.int .i64 a.n, .pointer (some ⟨p, 0, none⟩)]) (e := 81) (n := 1) (sz := 2) rfl (by omega))
                     have HYB := Lib.hid hYd
                     have c5Y := cell_later hYd c5
                     have a1Y := cell_later hYd a1V
                     have f5Y := (World.frozen?_of_block (a := ⟨T, 5, none⟩) (hYd.block T HSTV.out.tr.lt.2)).trans f5
                     have HSTY := Lib.hid (HSTV.out.below hYd)
                     have HPGY := Lib.hid (HPGV.out.maps (S := fun _ => False) (Only.of_below hYd) (fun _ h => h.elim))
                     generalize (V.alloc (.cells #[.int .i64 a.n, .pointer (some ⟨p, 0, none⟩)] 81)).drew = Y2 at *
                     clear hYd
                     refine HK.out _ _ ⟨c5Y, a1Y⟩ ?_
                     clear HK
                     refine m_app tyRoots HSTY.out.row HLIT.out (by simp [Value.oneCell']) (by omega) (by have := HKLE.out; omega) (by have := HKLE.out; omega) HSTY.out.bel.size rfl rfl rfl rfl rfl ?_
                     intro g cap8 W8 ho8 hold8 hg8 hgc8
                     have hrg := HSTY.out.hr
                     have hon8 : Only (fun q => (Value.slice ra rs.length rc).ownBlock = some q) Y2 W8 := Only.of_grown hg8
                     have hTne : ¬ (Value.slice ra rs.length rc).ownBlock = some T := fun e => by have h7 := hrg T e; have h8 := HLO.out; have h9 := HZ.out; omega
                     have hIne : ¬ (Value.slice ra rs.length rc).ownBlock = some ib := fun e => by have h7 := hrg ib e; have h8 := HIB.out; omega
                     have c58 := hon8.cell hTne c5Y
                     have f58 := (hon8.frozen HSTY.out.tr.lt.2 hTne).trans f5Y
                     have a18 := hon8.cell hIne a1Y
                     have ho8' : W8.ownsRow w.heap.size 81 2 (.slice (some ⟨g, 0, none⟩) (rs.length + 1) cap8) (rs ++ [((a.n, (some ⟨p, 0, none⟩)) : Rt)]).length (flatF Rt.cells (rs ++ [((a.n, (some ⟨p, 0, none⟩)) : Rt)])) := by
                       rw [List.length_append]
                       have e : flatF Rt.cells (rs ++ [((a.n, (some ⟨p, 0, none⟩)) : Rt)]) = flatF Rt.cells rs ++ [.int .i64 a.n, .pointer (some ⟨p, 0, none⟩)] := by simp [flatF, Rt.cells]
                       rw [e]
                       exact ho8
                     have HPU := Lib.hid (HSTY.out.push (r := (a.n, (some ⟨p, 0, none⟩))) ho8' hon8 (fun q hq => by
                       simp only [Value.ownBlock, Option.some.injEq] at hq
                       subst hq
                       rcases hgc8 with ⟨k9, c9, e9, -⟩ | e9
                       · exact .inl (by rw [e9]; rfl)
                       · exact .inr e9) ⟨by rw [← HIK.out, HA.out], by rw [show 2 + 2 * k = i + 1 by have := HIK.out; omega, HC.out]; exact HPGY.out⟩ HPP.out)
                     clear ho8 ho8' hold8 hg8 hgc8 hon8 hTne hIne c5Y a1Y f5Y hrg c5 a1V f5
                     refine ⟨⟨c58, a18⟩, ?_⟩
                     clear a18
                     iterate 2
                       first
                       | (
                         refine m_take (v := ?_) rfl rfl ?_ ?_
                         rotate_left
                         ·
                          intro W hW
                          go_simp
                          with_reducible rfl
                         simp only [Act.put, List.setIfInBounds_toArray, List.set_cons_zero, List.set_cons_succ])
                       | (
                         refine m_skip rfl rfl ?_
                         simp only [Act.put, List.setIfInBounds_toArray, List.set_cons_zero, List.set_cons_succ])
                     refine m_done ?_
                     simp only [List.drop_succ_cons, List.drop_zero]
                     go_upto_region 19 with fail
                     simp only [NP]
                     go_wp2_with fail
                     go_roundw
                     case rel => exact ⟨i + 2, k + 1, rs ++ [((a.n, (some ⟨p, 0, none⟩)) : Rt)], _, by go_num, by have := HIK.out; omega, by have := HL0.out; have := HIK.out; omega, HPU.out⟩
                     case measure => simp [intOf]; omega
                  ·
                   have g3 : decide ((1 : Int) < (i : Int)) = false := decide_eq_false (by omega)
                   have g3' : decide (1 < i) = false := decide_eq_false h1i
                   have HPP := Lib.hid (HPO.out HRO.out hak hck (fun h => by have := HIK.out; omega))
                   clear hak hck h1i
                   have q0 : ∀ x : Wc (fun V => Below w7.heap.size w7 V), x.v.cell? ⟨ib, io + i * 4, none⟩ = some (.int .i64 a.k) := fun x => cell_later x.h A07.out
                   have q2 : ∀ x : Wc (fun V => Below w7.heap.size w7 V), x.v.cell? ⟨ib, io + (i + 1) * 4, none⟩ = some (.int .i64 c.k) := fun x => cell_later x.h B07.out
                   have q3 : ∀ x : Wc (fun V => Below w7.heap.size w7 V), x.v.cell? ⟨ib, io + i * 4 + 1, none⟩ = some (.int .i64 a.n) := fun x => cell_later x.h A17.out
                   haveI : Nonempty (Wc (fun V => Below w7.heap.size w7 V)) := ⟨⟨w7, Below.refl _ _⟩⟩
                   refine wp_region_class (fun V => Below w7.heap.size w7 V) (by kernel_rfl) (by kernel_rfl) ((Below.refl _ _).drew) ?_
                   repeat (go_big_quiet_step ((exact HSC.out _)))
                   refine wpQuiet_nil ?_
                   intro xx
                   have HV := Lib.hid xx.h
                   generalize xx.v = V at HV ⊢
                   clear q0 q2 q3
                   have HSTV := Lib.hid (HST7.out.below HV.out)
                   have HPGV := Lib.hid (HPG7.out.maps (S := fun _ => False) (Only.of_below HV.out) (fun _ h => h.elim))
                   have a1V := cell_later HV.out A17.out
                   have HKLE := Lib.hid (show rs.length = k ∧ k ≤ 40000 by have h8 := HSTV.out.len; have h9 := HIK.out; omega)
                   obtain ⟨ra, rc, rfl⟩ := own_slice HSTV.out.row
                   have c5 : V.cell? ⟨T, 5, none⟩ = some (.slice ra rs.length rc) := HSTV.out.tr.at.2.2.2.2.2.1
                   have f5 := HSTV.out.tr.at.2.2.2.2.2.2.2.2 5
                   have q8 := w64 (n := (i : Int) + 2) (by omega) (by omega)
                   clear HST7 HPG7
                   go_upto_region 23 with fail
                   refine region_m [(0, false), (1, false), (2, false), (3, false), (4, false), (5, false), (6, false), (7, false), (8, false), (9, false), (10, false), (11, false), (12, true), (13, true), (14, false), (15, false)] 16 (fun Z => Z.cell? ⟨T, 5, none⟩ = some (.slice ra rs.length rc) ∧ Z.cell? ⟨ib, io + i * 4 + 1, none⟩ = some (.int .i64 a.n)) (by kernel_rfl) (by kernel_rfl) ⟨c5, a1V⟩ ?_
                   iterate 12
                     first
                     | (
                        refine m_take (v := ?_) rfl rfl ?_ ?_
                        rotate_left
                        ·
                         intro W hW
                         go_simp
                         with_reducible rfl
                        simp only [Act.put, List.setIfInBounds_toArray, List.set_cons_zero, List.set_cons_succ])
                     | (
                        refine m_skip rfl rfl ?_
                        simp only [Act.put, List.setIfInBounds_toArray, List.set_cons_zero, List.set_cons_succ])
                   refine m_loud rfl (fun K hK => ?_)
                   have HK := Lib.hid hK
                   clear hK
                   go_simp
                   have hYd : Below V.heap.size V (V.alloc (.cells #[.int .i64 a.n, .pointer (some ⟨p, 0, none⟩)] 81)).drew := (below_alloc V _).drew
                   have HLIT := Lib.hid (show Rd (V.alloc (.cells #[.int .i64 a.n, .pointer (some ⟨p, 0, none⟩)] 81)).drew 2 (.slice (some ⟨V.heap.size, 0, none⟩) 1 1) 1 [.int .i64 a.n, .pointer (some ⟨p, 0, none⟩)] from Rd.lit (w := V.drew) (cs := #[.int .i64 a.n, .pointer (some ⟨p, 0, none⟩)]) (e := 81) (n := 1) (sz := 2) rfl (by omega))
                   have HYB := Lib.hid hYd
                   have c5Y := cell_later hYd c5
                   have a1Y := cell_later hYd a1V
                   have f5Y := (World.frozen?_of_block (a := ⟨T, 5, none⟩) (hYd.block T HSTV.out.tr.lt.2)).trans f5
                   have HSTY := Lib.hid (HSTV.out.below hYd)
                   have HPGY := Lib.hid (HPGV.out.maps (S := fun _ => False) (Only.of_below hYd) (fun _ h => h.elim))
                   generalize (V.alloc (.cells #[.int .i64 a.n, .pointer (some ⟨p, 0, none⟩)] 81)).drew = Y2 at *
                   clear hYd
                   refine HK.out _ _ ⟨c5Y, a1Y⟩ ?_
                   clear HK
                   refine m_app tyRoots HSTY.out.row HLIT.out (by simp [Value.oneCell']) (by omega) (by have := HKLE.out; omega) (by have := HKLE.out; omega) HSTY.out.bel.size rfl rfl rfl rfl rfl ?_
                   intro g cap8 W8 ho8 hold8 hg8 hgc8
                   have hrg := HSTY.out.hr
                   have hon8 : Only (fun q => (Value.slice ra rs.length rc).ownBlock = some q) Y2 W8 := Only.of_grown hg8
                   have hTne : ¬ (Value.slice ra rs.length rc).ownBlock = some T := fun e => by have h7 := hrg T e; have h8 := HLO.out; have h9 := HZ.out; omega
                   have hIne : ¬ (Value.slice ra rs.length rc).ownBlock = some ib := fun e => by have h7 := hrg ib e; have h8 := HIB.out; omega
                   have c58 := hon8.cell hTne c5Y
                   have f58 := (hon8.frozen HSTY.out.tr.lt.2 hTne).trans f5Y
                   have a18 := hon8.cell hIne a1Y
                   have ho8' : W8.ownsRow w.heap.size 81 2 (.slice (some ⟨g, 0, none⟩) (rs.length + 1) cap8) (rs ++ [((a.n, (some ⟨p, 0, none⟩)) : Rt)]).length (flatF Rt.cells (rs ++ [((a.n, (some ⟨p, 0, none⟩)) : Rt)])) := by
                     rw [List.length_append]
                     have e : flatF Rt.cells (rs ++ [((a.n, (some ⟨p, 0, none⟩)) : Rt)]) = flatF Rt.cells rs ++ [.int .i64 a.n, .pointer (some ⟨p, 0, none⟩)] := by simp [flatF, Rt.cells]
                     rw [e]
                     exact ho8
                   have HPU := Lib.hid (HSTY.out.push (r := (a.n, (some ⟨p, 0, none⟩))) ho8' hon8 (fun q hq => by
                     simp only [Value.ownBlock, Option.some.injEq] at hq
                     subst hq
                     rcases hgc8 with ⟨k9, c9, e9, -⟩ | e9
                     · exact .inl (by rw [e9]; rfl)
                     · exact .inr e9) ⟨by rw [← HIK.out, HA.out], by rw [show 2 + 2 * k = i + 1 by have := HIK.out; omega, HC.out]; exact HPGY.out⟩ HPP.out)
                   clear ho8 ho8' hold8 hg8 hgc8 hon8 hTne hIne c5Y a1Y f5Y hrg c5 a1V f5
                   refine ⟨⟨c58, a18⟩, ?_⟩
                   clear a18
                   iterate 2
                     first
                     | (
                        refine m_take (v := ?_) rfl rfl ?_ ?_
                        rotate_left
                        ·
                         intro W hW
                         go_simp
                         with_reducible rfl
                        simp only [Act.put, List.setIfInBounds_toArray, List.set_cons_zero, List.set_cons_succ])
                     | (
                        refine m_skip rfl rfl ?_
                        simp only [Act.put, List.setIfInBounds_toArray, List.set_cons_zero, List.set_cons_succ])
                   refine m_done ?_
                   simp only [List.drop_succ_cons, List.drop_zero]
                   go_upto_region 19 with fail
                   simp only [NP]
                   go_wp2_with fail
                   go_roundw
                   case rel => exact ⟨i + 2, k + 1, rs ++ [((a.n, (some ⟨p, 0, none⟩)) : Rt)], _, by go_num, by have := HIK.out; omega, by have := HL0.out; have := HIK.out; omega, HPU.out⟩
                   case measure => simp [intOf]; omega
                 ·
                  have g2 : (c.k != 0) = true := by simpa using hck
                  have HNG := Lib.hid (HNOT.out (fun h => hck (HPK.out h).2.2.1))
                  clear hak hck
                  have q0 : ∀ x : Wc (fun V => Below w7.heap.size w7 V), x.v.cell? ⟨ib, io + i * 4, none⟩ = some (.int .i64 a.k) := fun x => cell_later x.h A07.out
                  have q2 : ∀ x : Wc (fun V => Below w7.heap.size w7 V), x.v.cell? ⟨ib, io + (i + 1) * 4, none⟩ = some (.int .i64 c.k) := fun x => cell_later x.h B07.out
                  have q3 : ∀ x : Wc (fun V => Below w7.heap.size w7 V), x.v.cell? ⟨ib, io + i * 4 + 1, none⟩ = some (.int .i64 a.n) := fun x => cell_later x.h A17.out
                  haveI : Nonempty (Wc (fun V => Below w7.heap.size w7 V)) := ⟨⟨w7, Below.refl _ _⟩⟩
                  refine wp_region_class (fun V => Below w7.heap.size w7 V) (by kernel_rfl) (by kernel_rfl) ((Below.refl _ _).drew) ?_
                  repeat (go_big_quiet_step ((exact HSC.out _)))
                  refine wpQuiet_nil ?_
                  intro xx
                  have HV := Lib.hid xx.h
                  generalize xx.v = V at HV ⊢
                  clear q0 q2 q3
                  go_wp2_with fail
                  go_ret2
                  exact .inl ⟨HNG.out, rfl, HST7.out.bel.trans (HV.out.mono HST7.out.bel.size)⟩
               ·
                 have g1 : (a.k != 0) = true := by simpa using hak
                 have HNG := Lib.hid (HNOT.out (fun h => hak (HPK.out h).2.1))
                 clear hak
                 have q0 : ∀ x : Wc (fun V => Below w7.heap.size w7 V), x.v.cell? ⟨ib, io + i * 4, none⟩ = some (.int .i64 a.k) := fun x => cell_later x.h A07.out
                 have q2 : ∀ x : Wc (fun V => Below w7.heap.size w7 V), x.v.cell? ⟨ib, io + (i + 1) * 4, none⟩ = some (.int .i64 c.k) := fun x => cell_later x.h B07.out
                 have q3 : ∀ x : Wc (fun V => Below w7.heap.size w7 V), x.v.cell? ⟨ib, io + i * 4 + 1, none⟩ = some (.int .i64 a.n) := fun x => cell_later x.h A17.out
                 haveI : Nonempty (Wc (fun V => Below w7.heap.size w7 V)) := ⟨⟨w7, Below.refl _ _⟩⟩
                 refine wp_region_class (fun V => Below w7.heap.size w7 V) (by kernel_rfl) (by kernel_rfl) ((Below.refl _ _).drew) ?_
                 repeat (go_big_quiet_step ((exact HSC.out _)))
                 refine wpQuiet_nil ?_
                 intro xx
                 have HV := Lib.hid xx.h
                 generalize xx.v = V at HV ⊢
                 clear q0 q2 q3
                 go_wp2_with fail
                 go_ret2
                 exact .inl ⟨HNG.out, rfl, HST7.out.bel.trans (HV.out.mono HST7.out.bel.size)⟩
             ·
               have HSC := Lib.hid (show ∀ x : Wc (fun V => Below w7.heap.size w7 V), Calls Try.prog 28 #[.pointer (some ⟨p, 0, none⟩)] x.v fun e w'' => e = .returned (.bool false) ∧ ∃ y : Wc (fun V => Below w7.heap.size w7 V), w'' = y.v from fun x => by
                 refine (sound_calls _ b 41 c.n p x.v (HP7.out.maps (S := fun _ => False) (Only.of_below x.h) (fun _ h => h.elim)) (by omega)).mono ?_
                 rintro e w8 ⟨r, rfl, hb8, hr⟩
                 obtain rfl : r = false := by
                  cases r
                  · rfl
                  · exact absurd (hr.1 rfl) hsd
                 exact ⟨rfl, ⟨w8, below_go x.h hb8⟩, rfl⟩)
               have HNG := Lib.hid (HNOT.out (fun h => by
                 rcases (HPK.out h).1 with h9 | ⟨-, -, h9⟩
                 · exact HM.out h9
                 · exact hsd h9))
               clear hsd
               have q0 : ∀ x : Wc (fun V => Below w7.heap.size w7 V), x.v.cell? ⟨ib, io + i * 4, none⟩ = some (.int .i64 a.k) := fun x => cell_later x.h A07.out
               have q2 : ∀ x : Wc (fun V => Below w7.heap.size w7 V), x.v.cell? ⟨ib, io + (i + 1) * 4, none⟩ = some (.int .i64 c.k) := fun x => cell_later x.h B07.out
               have q3 : ∀ x : Wc (fun V => Below w7.heap.size w7 V), x.v.cell? ⟨ib, io + i * 4 + 1, none⟩ = some (.int .i64 a.n) := fun x => cell_later x.h A17.out
               haveI : Nonempty (Wc (fun V => Below w7.heap.size w7 V)) := ⟨⟨w7, Below.refl _ _⟩⟩
               refine wp_region_class (fun V => Below w7.heap.size w7 V) (by kernel_rfl) (by kernel_rfl) ((Below.refl _ _).drew) ?_
               repeat (go_big_quiet_step ((exact HSC.out _)))
               refine wpQuiet_nil ?_
               intro xx
               have HV := Lib.hid xx.h
               generalize xx.v = V at HV ⊢
               clear q0 q2 q3
               go_wp2_with fail
               go_ret2
               exact .inl ⟨HNG.out, rfl, HST7.out.bel.trans (HV.out.mono HST7.out.bel.size)⟩
          ·
           obtain rfl : i = l.length := by have := HIK.out; have := HL0.out; omega
           have y1 : ¬ ((l.length : Int) < (l.length : Int)) := by omega
           have HGOOD := Lib.hid (show OpenGood D nm from .inr ⟨l, HDC.out, HHO.out.1, fun j hj => by
            rw [HHO.out.2, ← HBE.out]
            exact HST.out.pair j (by have := HIK.out; omega)⟩)
           have HRL := Lib.hid (show rs.length ≤ 1000000 by have h9 := HST.out.len; have h8 := dec_len HDC.out; have h7 := HIK.out; omega)
           go_upto_region 24 with fail
           obtain ⟨tg, htg⟩ : ∃ tg : Nat → Int, tg = (fun j => (itD l (1 + 2 * j)).n) := ⟨_, rfl⟩
           obtain ⟨pg, hpg⟩ : ∃ pg : Nat → Int, pg = (fun j => (itD l (2 + 2 * j)).n) := ⟨_, rfl⟩
           have HTS0 := Lib.hid (show TSt w wr T sl d Bd D D nm s f 0 none b tg pg rs rv from ⟨HST.out.tr, HST.out.slot, HST.out.row, Turned.of_below HD.out HST.out.bel, fun j r h => by rw [htg, hpg]; exact HST.out.rts j r h⟩)
           have HLEN := Lib.hid (show 2 * rs.length + 1 = l.length by have h9 := HST.out.len; have h7 := HIK.out; omega)
           have HITS := Lib.hid (show ItemsOk D nm l from ⟨HHO.out.1, fun j hj => by
            rw [HHO.out.2, ← HBE.out]
            exact HST.out.pair j (by have := HIK.out; omega)⟩)
           have HHOW := Lib.hid (show ∀ (Dc : Dk) (size g : Nat), g = 1 - f → (∃ D1, GoneIf D (tfn nm g) D1 ∧ ((s.ver = 0 ∧ GoneIf D1 (tfn nm f) Dc ∧ size = 0) ∨ (s.ver ≠ 0 ∧ Dc = D1 ∧ size = (fileOf Dc.now (tfn nm f)).length))) → ((openN D nm 2).ver = 0 ∧ rs = [] ∧ f = 0 ∧ size = 0 ∧ ∃ D1, GoneIf D (tfn nm 1) D1 ∧ GoneIf D1 (tfn nm 0) Dc) ∨
  ((openN D nm 2).ver ≠ 0 ∧ (∃ l, dec (openN D nm 2).val.data.toList = some l ∧ ItemsOk D nm l ∧ f = (itD l 0).n.toNat ∧ 2 * rs.length + 1 = l.length ∧ (∀ j, tg j = (itD l (1 + 2 * j)).n) ∧ ∀ j, pg j = (itD l (2 + 2 * j)).n) ∧ b = fileOf D.now (tfn nm f) ∧ GoneIf D (tfn nm (1 - f)) Dc ∧ size = (fileOf Dc.now (tfn nm f)).length) from fun Dc size g hg ⟨D1, hx1, hx2⟩ => by
            subst hg
            rcases hx2 with ⟨h9, -⟩ | ⟨-, h9, h8⟩
            · exact absurd h9 hv0
            ·
             subst h9
             exact .inr ⟨HNZ.out, ⟨l, HDC.out, HITS.out, HHO.out.2.symm, HLEN.out, fun j => by rw [htg], fun j => by rw [hpg]⟩, HBE.out, hx1, h8⟩)
           clear HST htg hpg
           obtain ⟨W0, hW0⟩ : ∃ W0, W0 = wr := ⟨_, rfl⟩
           rw [← hW0] at HTS0 ⊢
           clear hW0 hil hlt y1
           obtain ⟨g, hg⟩ : ∃ g : Nat, (g : Int) = 1 - (f : Int) := ⟨1 - f, by omega⟩
           have hg1 : g ≤ 1 := by omega
           have HGF := Lib.hid (show g ≠ f by omega)
           have HGG := Lib.hid (show g = 1 - f by omega)
           have hw1 : IntKind.i64.wrap (1 - (f : Int)) = (g : Int) := by rw [← hg]; exact i64w (by omega) (by omega)
           have hw2 : wrap64 (1 - (f : Int)) = (g : Int) := by rw [← hg]; exact w64 (by omega) (by omega)
           clear hg
           have c3 : W0.cell? ⟨T, 3, none⟩ = some (.int .i64 (f : Nat)) := HTS0.out.tr.at.2.2.2.1
           refine region_m [(0, false), (1, false), (2, false), (3, false), (4, false), (5, false), (6, false), (7, false), (8, false), (11, false), (9, true), (10, false)] 12 (fun V => V.cell? ⟨T, 3, none⟩ = some (.int .i64 (f : Nat))) (by kernel_rfl) (by kernel_rfl) c3 ?_
           iterate 10
            first
            | (
              refine m_take (v := ?_) rfl rfl ?_ ?_
              rotate_left
              ·
                intro W hW
                go_simp
                with_reducible rfl
              simp only [Act.put, List.setIfInBounds_toArray, List.set_cons_zero, List.set_cons_succ])
            | (
              refine m_skip rfl rfl ?_
              simp only [Act.put, List.setIfInBounds_toArray, List.set_cons_zero, List.set_cons_succ])
           refine m_loud rfl (fun K hK => ?_)
           have HK := Lib.hid hK
           clear hK
           go_simp
           try rw [hw1]
           obtain ⟨X0, hX0⟩ : ∃ X, X = (W0.alloc (.cells #[.int .i64 (g : Nat), .int .i64 (f : Nat)] 3)).drew := ⟨_, rfl⟩
           have hbX0 : Below W0.heap.size W0 X0 := by rw [hX0]; exact (below_alloc W0 _).drew
           have HTSX := Lib.hid (HTS0.out.below hbX0)
           have HGX := Lib.hid (show G2 X0 W0.heap.size g f from ⟨by rw [hX0, World.cell?_drew, cell_cells (World.alloc_heap_new W0 _)]; rfl, by rw [hX0, World.cell?_drew, cell_cells (World.alloc_heap_new W0 _)]; rfl, ⟨_, _, by rw [hX0]; exact World.alloc_heap_new W0 _⟩⟩)
           rw [← hX0]
           refine HK.out _ _ (cell_later hbX0 c3) ?_
           clear HK
           clear hX0 hbX0 c3
           iterate 1
            first
            | (
              refine m_take (v := ?_) rfl rfl ?_ ?_
              rotate_left
              ·
                intro W hW
                go_simp
                with_reducible rfl
              simp only [Act.put, List.setIfInBounds_toArray, List.set_cons_zero, List.set_cons_succ])
            | (
              refine m_skip rfl rfl ?_
              simp only [Act.put, List.setIfInBounds_toArray, List.set_cons_zero, List.set_cons_succ])
           refine m_done ?_
           simp only [List.drop_succ_cons, List.drop_zero]
           go_wp2_with fail
           simp only [NP]
           go_wp2_with fail
           generalize W0.heap.size = G at *
           clear hw1 hw2 HTS0
           go_loopw [196] (fun iv V => ∃ (k : Nat) (Dc : Dk) (size : Nat), k ≤ 2 ∧ iv = .int .i64 (k : Nat) ∧ TSt w V T sl d Bd D Dc nm s f size none b tg pg rs rv ∧ G2 V G g f ∧ RidSt D nm s.ver g f k Dc size) (fun iv _ => 2 - (intOf iv).toNat)
           case atStart => exact ⟨0, D, 0, by omega, rfl, HTSX.out, HGX.out, .inl ⟨rfl, rfl, rfl⟩⟩
           case round =>
            clear HTSX HGX
            obtain ⟨k, Dc, size, hk, rfl, hts, hg2, hrs⟩ := hrel
            have HTS := Lib.hid hts
            have HG2 := Lib.hid hg2
            have t1 : wr.cell? ⟨T, 1, none⟩ = some (.string nm) := hts.tr.at.2.1
            have r0 := hg2.c0
            have r1 := hg2.c1
            have HRS := Lib.hid hrs
            clear hts hg2 hrs
            have hk3 : k = 0 ∨ k = 1 ∨ k = 2 := by omega
            have n1 : ((g : Int) != (f : Int)) = true := by rw [bne_iff_ne]; have := HGF.out; omega
            have n2 : ((g : Int) == (f : Int)) = false := by rw [beq_eq_false_iff_ne]; have := HGF.out; omega
            rcases hk3 with rfl | rfl | rfl
            ·
             obtain ⟨rfl, rfl⟩ := HRS.out.zero
             have HKP := Lib.hid (show Dc.fails = false ∧ Dc.chg.length < 900000 from ⟨HF.out.1, by have := HF.out.2; omega⟩)
             have HFL := Lib.hid (HLT.out g (by omega))
             obtain ⟨inb, hin⟩ : ∃ inb, (mget Dc.now (tfn nm g)).isSome = inb := ⟨_, rfl⟩
             cases inb with
             | true =>
               go_upto_region 28 with (first
                 | (go_at_call 26; refine (path_calls T nm g (by omega) _ t1 (by omega)).mono ?_; rintro e w5' ⟨rfl, hb5'⟩; have HB5' := Lib.hid hb5'; clear hb5')
                 | (go_at_call 25; refine (dread_calls d Bd Dc (tfn nm g) w5' (HTS.out.disk.is.below HB5'.out) HFL.out).mono ?_; rintro e w6' ⟨v, rfl, hm6', hb6'⟩; have HM6' := Lib.hid hm6'; have HB6' := Lib.hid (below_go HB5'.out hb6'); clear hm6' hb6'))
               have HTS6 := Lib.hid (HTS.out.below HB6'.out)
               have HG6 := Lib.hid (HG2.out.below HB6'.out)
               have t0 : w6'.cell? ⟨T, 0, none⟩ = some (.pointer (some ⟨d, 0, none⟩)) := HTS6.out.tr.at.1
               have t1 : w6'.cell? ⟨T, 1, none⟩ = some (.string nm) := HTS6.out.tr.at.2.1
               have t3 : w6'.cell? ⟨T, 3, none⟩ = some (.int .i64 (f : Nat)) := HTS6.out.tr.at.2.2.2.1
               have t4 : w6'.cell? ⟨T, 4, none⟩ = some (.int .i64 ((0 : Nat) : Int)) := HTS6.out.tr.at.2.2.2.2.1
               have z4 := HTS6.out.tr.at.2.2.2.2.2.2.2.2 4
               try rw [hin]
               go_wp2_with (go_at_call 29; refine (tremove_calls T d Bd g nm Dc _ (by omega) t0 t1 HTS6.out.disk.is (HTS6.out.disk.is.notFoot HTS6.out.tr.ty (by decide) (by decide)) HKP.out.1 (HG.out g (by omega)) (by omega) hin HKP.out.2).mono ?_; rintro e w8 ⟨rfl, cv, cv2, v8, ht8⟩; have HTS8 := Lib.hid (HTS6.out.step ht8); have HG8 := Lib.hid (HG6.out.only ht8.only (HTS6.out.disk.is.notFoot HG6.out.ty (by decide) (by decide))); have HGO8 := Lib.hid (show GoneIf Dc (tfn nm g) (goneD Dc (tfn nm g) cv cv2 v8) from .inr ⟨hin, cv, cv2, v8, rfl⟩); clear ht8)
               exact ⟨⟨1, _, 0, by omega, rfl, HTS8.out, HG8.out, .inr (.inl ⟨rfl, rfl, HGO8.out⟩)⟩, by simp [intOf]⟩
             | false =>
               go_upto_region 28 with (first
                 | (go_at_call 26; refine (path_calls T nm g (by omega) _ t1 (by omega)).mono ?_; rintro e w5' ⟨rfl, hb5'⟩; have HB5' := Lib.hid hb5'; clear hb5')
                 | (go_at_call 25; refine (dread_calls d Bd Dc (tfn nm g) w5' (HTS.out.disk.is.below HB5'.out) HFL.out).mono ?_; rintro e w6' ⟨v, rfl, hm6', hb6'⟩; have HM6' := Lib.hid hm6'; have HB6' := Lib.hid (below_go HB5'.out hb6'); clear hm6' hb6'))
               have HTS6 := Lib.hid (HTS.out.below HB6'.out)
               have HG6 := Lib.hid (HG2.out.below HB6'.out)
               have t0 : w6'.cell? ⟨T, 0, none⟩ = some (.pointer (some ⟨d, 0, none⟩)) := HTS6.out.tr.at.1
               have t1 : w6'.cell? ⟨T, 1, none⟩ = some (.string nm) := HTS6.out.tr.at.2.1
               have t3 : w6'.cell? ⟨T, 3, none⟩ = some (.int .i64 (f : Nat)) := HTS6.out.tr.at.2.2.2.1
               have t4 : w6'.cell? ⟨T, 4, none⟩ = some (.int .i64 ((0 : Nat) : Int)) := HTS6.out.tr.at.2.2.2.2.1
               have z4 := HTS6.out.tr.at.2.2.2.2.2.2.2.2 4
               try rw [hin]
               go_wp2_with fail
               exact ⟨⟨1, _, 0, by omega, rfl, HTS6.out, HG6.out, .inr (.inl ⟨rfl, rfl, .inl ⟨hin, rfl⟩⟩)⟩, by simp [intOf]⟩
            ·
             obtain ⟨rfl, hgo⟩ := HRS.out.one
             have HKP := Lib.hid hgo.keeps
             have HGO := Lib.hid hgo
             clear hgo
             have HFL := Lib.hid (show (fileOf Dc.now (tfn nm f)).length ≤ 1099511627776 from by
               have h9 := HLT.out f (by omega)
               unfold fileOf at h9 ⊢
               rw [HKP.out.2.2.2 (tfn nm f) (tfn_ne (by omega) (by omega) (Ne.symm HGF.out))]
               exact h9)
             have HKP := Lib.hid (show Dc.fails = false ∧ Dc.chg.length < 900000 from ⟨HKP.out.1.trans HF.out.1, by have h9 := HKP.out.2.2.1; have h8 := HF.out.2; omega⟩)
             obtain ⟨inb, hin⟩ : ∃ inb, (mget Dc.now (tfn nm f)).isSome = inb := ⟨_, rfl⟩
             by_cases hvz : s.ver = 0
             ·
               have v1 : ((s.ver : Int) == 0) = true := by rw [beq_iff_eq]; omega
               have v1' : (s.ver == 0) = true := by rw [beq_iff_eq]; omega
               have HVZ := Lib.hid hvz
               clear hvz
               cases inb with
               | true =>
                 go_upto_region 28 with (first
                  | (go_at_call 26; refine (path_calls T nm f (by omega) _ t1 (by omega)).mono ?_; rintro e w5' ⟨rfl, hb5'⟩; have HB5' := Lib.hid hb5'; clear hb5')
                  | (go_at_call 25; refine (dread_calls d Bd Dc (tfn nm f) w5' (HTS.out.disk.is.below HB5'.out) HFL.out).mono ?_; rintro e w6' ⟨v, rfl, hm6', hb6'⟩; have HM6' := Lib.hid hm6'; have HB6' := Lib.hid (below_go HB5'.out hb6'); clear hm6' hb6'))
                 have HTS6 := Lib.hid (HTS.out.below HB6'.out)
                 have HG6 := Lib.hid (HG2.out.below HB6'.out)
                 have t0 : w6'.cell? ⟨T, 0, none⟩ = some (.pointer (some ⟨d, 0, none⟩)) := HTS6.out.tr.at.1
                 have t1 : w6'.cell? ⟨T, 1, none⟩ = some (.string nm) := HTS6.out.tr.at.2.1
                 have t3 : w6'.cell? ⟨T, 3, none⟩ = some (.int .i64 (f : Nat)) := HTS6.out.tr.at.2.2.2.1
                 have t4 : w6'.cell? ⟨T, 4, none⟩ = some (.int .i64 ((0 : Nat) : Int)) := HTS6.out.tr.at.2.2.2.2.1
                 have z4 := HTS6.out.tr.at.2.2.2.2.2.2.2.2 4
                 try rw [hin]
                 go_wp2_with (go_at_call 29; refine (tremove_calls T d Bd f nm Dc _ (by omega) t0 t1 HTS6.out.disk.is (HTS6.out.disk.is.notFoot HTS6.out.tr.ty (by decide) (by decide)) HKP.out.1 (HG.out f (by omega)) (by omega) hin HKP.out.2).mono ?_; rintro e w8 ⟨rfl, cv, cv2, v8, ht8⟩; have HTS8 := Lib.hid (HTS6.out.step ht8); have HG8 := Lib.hid (HG6.out.only ht8.only (HTS6.out.disk.is.notFoot HG6.out.ty (by decide) (by decide))); have HGO8 := Lib.hid (show GoneIf Dc (tfn nm f) (goneD Dc (tfn nm f) cv cv2 v8) from .inr ⟨hin, cv, cv2, v8, rfl⟩); clear ht8)
                 exact ⟨⟨2, _, 0, by omega, rfl, HTS8.out, HG8.out, .inr (.inr ⟨rfl, _, HGO.out, .inl ⟨HVZ.out, HGO8.out, rfl⟩⟩)⟩, by simp [intOf]⟩
               | false =>
                 go_upto_region 28 with (first
                  | (go_at_call 26; refine (path_calls T nm f (by omega) _ t1 (by omega)).mono ?_; rintro e w5' ⟨rfl, hb5'⟩; have HB5' := Lib.hid hb5'; clear hb5')
                  | (go_at_call 25; refine (dread_calls d Bd Dc (tfn nm f) w5' (HTS.out.disk.is.below HB5'.out) HFL.out).mono ?_; rintro e w6' ⟨v, rfl, hm6', hb6'⟩; have HM6' := Lib.hid hm6'; have HB6' := Lib.hid (below_go HB5'.out hb6'); clear hm6' hb6'))
                 have HTS6 := Lib.hid (HTS.out.below HB6'.out)
                 have HG6 := Lib.hid (HG2.out.below HB6'.out)
                 have t0 : w6'.cell? ⟨T, 0, none⟩ = some (.pointer (some ⟨d, 0, none⟩)) := HTS6.out.tr.at.1
                 have t1 : w6'.cell? ⟨T, 1, none⟩ = some (.string nm) := HTS6.out.tr.at.2.1
                 have t3 : w6'.cell? ⟨T, 3, none⟩ = some (.int .i64 (f : Nat)) := HTS6.out.tr.at.2.2.2.1
                 have t4 : w6'.cell? ⟨T, 4, none⟩ = some (.int .i64 ((0 : Nat) : Int)) := HTS6.out.tr.at.2.2.2.2.1
                 have z4 := HTS6.out.tr.at.2.2.2.2.2.2.2.2 4
                 try rw [hin]
                 have HF0 := Lib.hid (show (fileOf Dc.now (tfn nm f)).length = 0 from by
                  have h9 : mget Dc.now (tfn nm f) = none := by
                   cases h8 : mget Dc.now (tfn nm f) with
                   | none => rfl
                   | some z => rw [h8] at hin; cases hin
                  unfold fileOf
                  rw [h9]
                  rfl)
                 obtain ⟨va, vc, rfl⟩ := (Txt.of_mine HM6'.out).slice
                 have HSZ := Lib.hid (HTS6.out.cellT ((Only.refl (fun j => j = T) w6').setCell ⟨T, 4, none⟩ (.int .i64 ((fileOf Dc.now (tfn nm f)).length : Nat)) (.inl rfl)) (HTS6.out.tr.setSize (fileOf Dc.now (tfn nm f)).length))
                 have HGZ := Lib.hid (HG6.out.only ((Only.refl (fun j => j = T) w6').setCell ⟨T, 4, none⟩ (.int .i64 ((fileOf Dc.now (tfn nm f)).length : Nat)) (.inl rfl)) (fun e => by
                  have h9 := HG6.out.ty
                  rw [show G = T from e] at h9
                  exact absurd (h9.eq HTS6.out.tr.ty) (by decide)))
                 obtain ⟨FL, hFL⟩ : ∃ FL, FL = (fileOf Dc.now (tfn nm f)).length := ⟨_, rfl⟩
                 rw [← hFL] at HSZ HGZ ⊢
                 have HFLE := Lib.hid hFL
                 clear hFL
                 go_wp2_with fail
                 obtain rfl : FL = 0 := HFLE.out.trans HF0.out
                 exact ⟨⟨2, _, 0, by omega, rfl, HSZ.out, HGZ.out, .inr (.inr ⟨rfl, _, HGO.out, .inl ⟨HVZ.out, .inl ⟨hin, rfl⟩, rfl⟩⟩)⟩, by simp [intOf]⟩
             ·
               have v1 : ((s.ver : Int) == 0) = false := by rw [beq_eq_false_iff_ne]; omega
               have v1' : (s.ver == 0) = false := by rw [beq_eq_false_iff_ne]; omega
               have HVZ := Lib.hid hvz
               clear hvz
               cases inb
               all_goals
                 go_upto_region 28 with (first
                  | (go_at_call 26; refine (path_calls T nm f (by omega) _ t1 (by omega)).mono ?_; rintro e w5' ⟨rfl, hb5'⟩; have HB5' := Lib.hid hb5'; clear hb5')
                  | (go_at_call 25; refine (dread_calls d Bd Dc (tfn nm f) w5' (HTS.out.disk.is.below HB5'.out) HFL.out).mono ?_; rintro e w6' ⟨v, rfl, hm6', hb6'⟩; have HM6' := Lib.hid hm6'; have HB6' := Lib.hid (below_go HB5'.out hb6'); clear hm6' hb6'))
                 have HTS6 := Lib.hid (HTS.out.below HB6'.out)
                 have HG6 := Lib.hid (HG2.out.below HB6'.out)
                 have t0 : w6'.cell? ⟨T, 0, none⟩ = some (.pointer (some ⟨d, 0, none⟩)) := HTS6.out.tr.at.1
                 have t1 : w6'.cell? ⟨T, 1, none⟩ = some (.string nm) := HTS6.out.tr.at.2.1
                 have t3 : w6'.cell? ⟨T, 3, none⟩ = some (.int .i64 (f : Nat)) := HTS6.out.tr.at.2.2.2.1
                 have t4 : w6'.cell? ⟨T, 4, none⟩ = some (.int .i64 ((0 : Nat) : Int)) := HTS6.out.tr.at.2.2.2.2.1
                 have z4 := HTS6.out.tr.at.2.2.2.2.2.2.2.2 4
                 try rw [hin]
                 obtain ⟨va, vc, rfl⟩ := (Txt.of_mine HM6'.out).slice
                 have HSZ := Lib.hid (HTS6.out.cellT ((Only.refl (fun j => j = T) w6').setCell ⟨T, 4, none⟩ (.int .i64 ((fileOf Dc.now (tfn nm f)).length : Nat)) (.inl rfl)) (HTS6.out.tr.setSize (fileOf Dc.now (tfn nm f)).length))
                 have HGZ := Lib.hid (HG6.out.only ((Only.refl (fun j => j = T) w6').setCell ⟨T, 4, none⟩ (.int .i64 ((fileOf Dc.now (tfn nm f)).length : Nat)) (.inl rfl)) (fun e => by
                  have h9 := HG6.out.ty
                  rw [show G = T from e] at h9
                  exact absurd (h9.eq HTS6.out.tr.ty) (by decide)))
                 obtain ⟨FL, hFL⟩ : ∃ FL, FL = (fileOf Dc.now (tfn nm f)).length := ⟨_, rfl⟩
                 rw [← hFL] at HSZ HGZ ⊢
                 have HFLE := Lib.hid hFL
                 clear hFL
                 go_wp2_with fail
                 exact ⟨⟨2, _, FL, by omega, rfl, HSZ.out, HGZ.out, .inr (.inr ⟨rfl, _, HGO.out, .inr ⟨HVZ.out, rfl, HFLE.out⟩⟩)⟩, by simp [intOf]⟩
            ·
             have HRT := Lib.hid HRS.out.two
             have HBK := Lib.hid (back_calls w.heap.size T d ⟨nm, sl, f, size, rv, none, false⟩ rs wr HTS.out.tr (Rd.of_own HTS.out.row) HRL.out (fun a' n' c' e => by
               rintro rfl
               have e : rv = .slice (some a') n' c' := e
               have h9 : IsT 81 wr a'.block := IsT.of_own HTS.out.row (by rw [e]; rfl)
               exact absurd (h9.eq HTS.out.tr.ty) (by decide)))
             go_wp2_with (go_at_call 19; refine HBK.out.mono ?_; rintro e w9 ⟨rfl, ht9, ho9⟩; have HT9 := Lib.hid (HTS.out.cellT ho9 ht9); clear ht9 ho9)
             go_ret2
             exact .inr ⟨HGOOD.out, T, sl, f, size, Dc, b, tg, pg, rs, rv, rfl, ⟨by rw [← HS.out]; exact HT9.out, HHOW.out Dc size g HGG.out HRT.out⟩⟩
    ·
      have e2 : (x.k != 0) = true := by simpa using hk0
      have HNG := Lib.hid (HNOT.out (fun h => hk0 (by have := h.1.2.1; rw [HX0.out] at this; exact this)))
      clear hk0
      go_wp2_with fail
      go_ret2
      exact .inl ⟨HNG.out, rfl, HBN.out⟩
   ·
    have HNG := Lib.hid (HNOT.out (fun h => hodd h.1.1))
    have e1 : (((l.length : Int) % 2) != 1) = true := by
      rw [bne_iff_ne]
      omega
    clear hodd
    go_wp2_with fail
    go_ret2
    exact .inl ⟨HNG.out, rfl, HBN.out⟩
end Go.Proofs.Ytmafnjidhjabgaa
