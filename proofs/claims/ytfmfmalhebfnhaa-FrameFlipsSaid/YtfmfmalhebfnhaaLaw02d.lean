/- Layer 2: FrameFlips walked. -/
import Derived.Test.YtfmfmalhebfnhaaLaw02c
import Derived.Test.YtfmfmalhebfnhaaFrameMath3
namespace Go.Proofs.Ytfmfmalhebfnhaa
open Go.RowKit Go.Shelf CrcM FrM

def turnByte (turn : BitVec 32) (i : Nat) : UInt8 := UInt8.ofNat (turn.toNat / 2 ^ (8 * i))
def fl (b : List UInt8) (A : Nat) (turn : BitVec 32) : Nat → List UInt8
  | 0 => b
  | k + 1 => (fl b A turn k).set (A + k) ((fl b A turn k).getD (A + k) 0 ^^^ turnByte turn k)
theorem fl_length (b : List UInt8) (A : Nat) (turn : BitVec 32) (k : Nat) : (fl b A turn k).length = b.length := by
  induction k with
  | zero => rfl
  | succ k ih => simp [fl, ih]
theorem fl_bits (b : List UInt8) (A : Nat) (turn : BitVec 32) (k : Nat) (hk : A + k ≤ b.length) (hk4 : k ≤ 4) (j : Nat) :
    bitAt (fl b A turn k) j = (bitAt b j ^^ (decide (8 * A ≤ j) && decide (j < 8 * A + 8 * k) && turn.getLsbD (j - 8 * A))) := by
  induction k with
  | zero =>
    simp only [fl]
    by_cases h : 8 * A ≤ j
    · simp [show ¬ j < 8 * A by omega]
    · simp [h]
  | succ k ih =>
    have ih := ih (by omega) (by omega)
    have hlen := fl_length b A turn k
    simp only [fl]
    by_cases hj : j / 8 = A + k
    · have e : bitAt ((fl b A turn k).set (A + k) ((fl b A turn k).getD (A + k) 0 ^^^ turnByte turn k)) j = (bitAt (fl b A turn k) j ^^ (turnByte turn k).toNat.testBit (j % 8)) := by
        unfold bitAt
        rw [hj]
        simp [List.getD, hlen, show A + k < b.length by omega]
      rw [e, ih]
      have e2 : (turnByte turn k).toNat.testBit (j % 8) = turn.getLsbD (j - 8 * A) := by
        have hs : turn.getLsbD (j - 8 * A) = turn.toNat.testBit (j - 8 * A) := rfl
        rw [hs]
        unfold turnByte
        rw [UInt8.toNat_ofNat', show (2 : Nat) ^ 8 = 2 ^ 8 from rfl, Nat.testBit_mod_two_pow, decide_eq_true (show j % 8 < 8 by omega), Bool.true_and, Nat.testBit_div_two_pow]
        congr 1
        omega
      rw [e2]
      rw [decide_eq_true (show 8 * A ≤ j by omega), decide_eq_false (show ¬ j < 8 * A + 8 * k by omega), decide_eq_true (show j < 8 * A + 8 * (k + 1) by omega)]
      simp
    · have e : bitAt ((fl b A turn k).set (A + k) ((fl b A turn k).getD (A + k) 0 ^^^ turnByte turn k)) j = bitAt (fl b A turn k) j := by
        unfold bitAt
        simp [List.getD, show ¬ A + k = j / 8 by omega]
      rw [e, ih]
      congr 1
      congr 1
      congr 1
      exact decide_eq_decide.2 (by omega)
theorem fl_turned (b : List UInt8) (A : Nat) (turn : BitVec 32) (k : Nat) (hk : A + k ≤ b.length) (hk4 : k ≤ 4) (hend : k = 4 ∨ A + k = b.length) : Turned b (fl b A turn k) A turn := by
  refine ⟨fl_length _ _ _ _, fun j hj => ?_⟩
  rw [fl_bits b A turn k hk hk4 j]
  by_cases h1 : 8 * A ≤ j
  · have : decide (j < 8 * A + 8 * k) = decide (j < 8 * A + 32) := decide_eq_decide.2 (by omega)
    rw [this]
  · simp [h1]

/-- The first byte that is turned. -/
def FirstInv (b c : List UInt8) (A k : Nat) (f : Int) : Prop := (f = -1 ∧ c = b) ∨ ∃ i, i < k ∧ f = ((A + i : Nat) : Int) ∧ c.take (A + i) = b.take (A + i) ∧ c.getD (A + i) 0 ≠ b.getD (A + i) 0
theorem xor_ne (x y : UInt8) (h : y ≠ 0) : x ^^^ y ≠ x := by
  intro e
  apply h
  have : x ^^^ (x ^^^ y) = x ^^^ x := by rw [e]
  simpa [← UInt8.xor_assoc] using this
theorem first_skip (b c : List UInt8) (A k : Nat) (f : Int) (x : UInt8) (h : FirstInv b c A k f) (hk : A + k < b.length) (hl : c.length = b.length) (hx : x = 0 ∨ 0 ≤ f) : FirstInv b (c.set (A + k) (c.getD (A + k) 0 ^^^ x)) A (k + 1) f := by
  rcases h with ⟨rfl, rfl⟩ | ⟨i, hi, rfl, ht, hne⟩
  · obtain rfl : x = 0 := by
      rcases hx with hx | hx
      · exact hx
      · omega
    left
    refine ⟨rfl, ?_⟩
    apply List.ext_getElem (by simp)
    intro j h1 h2
    rw [List.getElem_set]
    split
    · rename_i e
      subst e
      simp [List.getD, List.getElem?_eq_getElem h2]
    · rfl
  · right
    refine ⟨i, by omega, rfl, ?_, ?_⟩
    · rw [List.take_set_of_le (by omega)]
      exact ht
    · have : (c.set (A + k) (c.getD (A + k) 0 ^^^ x)).getD (A + i) 0 = c.getD (A + i) 0 := by
        rw [List.getD_eq_getElem?_getD, List.getElem?_set_ne (show A + k ≠ A + i by omega), ← List.getD_eq_getElem?_getD]
      rw [this]; exact hne
theorem first_hit (b c : List UInt8) (A k : Nat) (x : UInt8) (h : FirstInv b c A k (-1)) (hk : A + k < b.length) (hx : x ≠ 0) : FirstInv b (c.set (A + k) (c.getD (A + k) 0 ^^^ x)) A (k + 1) ((A + k : Nat) : Int) := by
  rcases h with ⟨-, rfl⟩ | ⟨i, hi, he, -⟩
  · right
    refine ⟨k, by omega, rfl, by rw [List.take_set_of_le (by omega)], ?_⟩
    have : (c.set (A + k) (c.getD (A + k) 0 ^^^ x)).getD (A + k) 0 = c.getD (A + k) 0 ^^^ x := by
      simp [List.getD, hk]
    rw [this]
    exact xor_ne _ _ hx
  · omega

theorem tb_int (turn : BitVec 32) (k : Nat) : ((turn.toNat : Int) / 2 ^ (8 * k) % 256) = ((turnByte turn k).toNat : Int) := by
  unfold turnByte
  have h : ((turn.toNat : Int) / 2 ^ (8 * k)) = ((turn.toNat / 2 ^ (8 * k) : Nat) : Int) := by simp
  rw [h, UInt8.toNat_ofNat']
  generalize turn.toNat / 2 ^ (8 * k) = z
  omega
theorem bvs_setx (xs : List UInt8) (i : Nat) (x : UInt8) : (bvs xs).set i (.int .u8 (bits BinOp.xor IntKind.u8 (bt xs i) (x.toNat : Int))) = bvs (xs.set i (xs.getD i 0 ^^^ x)) := by
  have h : bits BinOp.xor IntKind.u8 (bt xs i) (x.toNat : Int) = ((xs.getD i 0 ^^^ x).toNat : Int) := by
    unfold bt
    rw [u8_xor_nat _ _ (UInt8.toNat_lt _) (UInt8.toNat_lt _), UInt8.toNat_xor]
  rw [h]
  simp [bvs, byteV, List.map_set]
theorem own_bt2 {w : World} {base : Nat} {e : TypeId} {g n c : Nat} {xs : List UInt8} (h : w.ownsRow base e 1 (.slice (some ⟨g, 0, none⟩) n c) n (bvs xs)) (i : Nat) (hi : i < n) (hl : xs.length = n) :
    w.cell? ⟨g, i, none⟩ = some (.int .u8 (bt xs i)) := by
  obtain ⟨a, cap, hv, -, -, -, h3⟩ := Rd.of_own h
  simp only [Value.slice.injEq, true_and] at hv
  obtain ⟨rfl, rfl⟩ := hv
  rcases h3 with h3 | ⟨b, o, ha, hc⟩
  · have := h.2
    rcases this with ⟨h', -⟩ | ⟨g', cap', cur, h', hb, hg, hnc, -⟩
    · simp at h'
    · simp at h'; omega
  · simp only [Option.some.injEq, Addr.mk.injEq, and_true] at ha
    obtain ⟨rfl, rfl⟩ := ha
    have := hc i _ (bvs_get xs i (by omega))
    simpa using this
theorem tmod_pos (n : Int) (L : Nat) (hL : 0 < L) : ∃ s : Nat, (IntKind.u64.wrap n).tmod (L : Int) = s ∧ s < L := by
  have h : 0 ≤ IntKind.u64.wrap n := by
    simp [IntKind.wrap, IntKind.bits, IntKind.signed]
    omega
  rw [Int.tmod_eq_emod_of_nonneg h]
  have h1 := Int.emod_nonneg (IntKind.u64.wrap n) (show (L : Int) ≠ 0 by omega)
  have h2 := Int.emod_lt_of_pos (IntKind.u64.wrap n) (show 0 < (L : Int) by omega)
  exact ⟨((IntKind.u64.wrap n) % (L : Int)).toNat, by omega, by omega⟩

set_option maxHeartbeats 1000000 in
set_option maxRecDepth 100000 in
theorem frameFlips_core (v : Value) (pss : List (List UInt8)) (at_ : Int) (turn : BitVec 32) (w : World) (hv : SliceOf Bytes w v pss) (hm : -9223372036854775808 ≤ at_ ∧ at_ ≤ 9223372036854775807) :
    Calls Try.prog 7 #[v, .int .i64 at_, .int .u32 turn.toNat] w fun e w' => e = .returned (.bool true) ∧ Below w.heap.size w w' := by
  have HV := Lib.hid hv
  obtain ⟨vs, hrd, -⟩ := hv
  obtain ⟨a, cap, rfl, hvl, hle, hcap, -⟩ := hrd
  clear hvl
  obtain ⟨hm1, hm2⟩ := hm
  have hT := turn.isLt
  obtain ⟨ps, hps⟩ : ∃ ps, ps = pss.take 40 := ⟨_, rfl⟩
  have hl : ps.length = min 40 pss.length := by rw [hps]; simp
  have hl1 : ps.length ≤ 40 := by omega
  have hl2 : ps.length ≤ pss.length := by omega
  clear hl
  have HPS := Lib.hid hps
  clear hps
  go_enter Try.func7, Try.ntmps7
  go_wp2_with fail
  refine (known_calls _).mono ?_
  rintro e w1 ⟨rfl, hb1⟩
  have HB1 := Lib.hid hb1
  clear hb1
  go_wp2_with fail
  refine (row_calls _ pss _ (sliceOf_below HV.out HB1.out (Nat.le_refl _))).mono ?_
  rintro e w2 ⟨b, es, ok, rfl, hr, hb2⟩
  rw [← HPS.out] at hr
  have HB2 := Lib.hid (HB1.out.trans (hb2.mono HB1.out.size))
  clear hb2
  unfold RowOut at hr
  by_cases hall : ∀ p ∈ ps, p.length ≤ 65536
  · rw [if_pos hall] at hr
    obtain ⟨hmb, hes, rfl⟩ := hr
    have HALL := Lib.hid hall
    obtain ⟨ba, bc, rfl⟩ := hmb.slice
    have hsm := endAt_small ps ps.length (Nat.le_refl _) (fun j hj => hall _ (List.getElem_mem _))
    rw [endAt_all] at hsm
    have hlb : (rowOf ps).length ≤ 3000000 := by omega
    clear hall hsm
    have HMB := Lib.hid hmb
    have HES := Lib.hid hes
    have HRS := Lib.hid (Rd.of_own hes)
    clear hes
    obtain ⟨ea, ec, rfl, -⟩ := HRS.out
    clear HRS
    obtain ⟨b0, hb0⟩ : ∃ b0, b0 = rowOf ps := ⟨_, rfl⟩
    have hmb' := hmb
    rw [← hb0] at hmb' hlb ⊢
    have HB0 := Lib.hid hb0
    clear hb0 hmb
    by_cases hz : b0.length = 0
    · have HZ := Lib.hid hz
      have hz2 : ((b0.length : Int) == 0) = true := by rw [beq_iff_eq]; omega
      clear hz hmb'
      go_wp2_with fail
      go_ret
      exact ⟨rfl, HB2.out⟩
    · have hz2 : ((b0.length : Int) == 0) = false := by rw [beq_eq_false_iff_ne]; omega
      obtain ⟨p, hp⟩ : ∃ p, b0.length = p + 1 := ⟨b0.length - 1, by omega⟩
      have hown := hmb'
      unfold Mine at hown
      rw [hp] at hown
      obtain ⟨g, cc, hbv, hg1, hg2, hg3, hg4⟩ := own_succ hown
      simp only [Value.slice.injEq] at hbv
      obtain ⟨rfl, -, rfl⟩ := hbv
      obtain ⟨A, hA1, hA2⟩ := tmod_pos at_ b0.length (by omega)
      have HM2 := Lib.hid hmb'
      have HP := Lib.hid hp
      clear hmb' hown hz hp
      have hlbp : 0 < b0.length := by omega
      go_wp2_with fail
      go_loopw [10, 11, 12] (fun f i x wr => ∃ (k : Nat) (fi : Int), k ≤ 4 ∧ A + k ≤ b0.length ∧ i = .int .i64 k ∧ f = .int .i64 fi ∧ -1 ≤ fi ∧ fi < b0.length ∧ FirstInv b0 (fl b0 A turn k) A k fi ∧ wr.ownsRow w1.heap.size 5 1 (.slice (some ⟨g, 0, none⟩) b0.length bc) b0.length (bvs (fl b0 A turn k)) ∧ wr.ownsRow w1.heap.size 3 1 (.slice ea ps.length ec) ps.length (ivs (ends ps ps.length)) ∧ Below w.heap.size w wr) (fun _ i _ _ => 4 - (intOf i).toNat)
      case atStart => exact ⟨0, -1, by omega, by omega, rfl, rfl, by omega, by omega, .inl ⟨rfl, rfl⟩, HM2.out, HES.out, HB2.out⟩
      case round =>
        obtain ⟨k, fi, hk, hAk, rfl, rfl, hf1, hf2, hfi, ho, hoe, hb⟩ := hrel
        by_cases hc : k < 4 ∧ A + k < b0.length
        · obtain ⟨hc1, hc2⟩ := hc
          have hcell := own_bt2 ho (A + k) hc2 (fl_length _ _ _ _)
          have hfr := World.ownsRow.frozenAt ho (A + k)
          have HO := Lib.hid ho
          have HOE := Lib.hid hoe
          have HBW := Lib.hid hb
          have HFI := Lib.hid hfi
          clear ho hoe hb hfi
          have hst := World.ownsRow.stored HO.out (A + k) (.int .u8 (bits BinOp.xor IntKind.u8 (bt (fl b0 A turn k) (A + k)) ((turn.toNat : Int) / 2 ^ (8 * k) % 256)))
          have hoe2 := own_other HO.out HOE.out (by decide) hst.2
          have hb2 := HBW.out.grown hst.2 HBW.out.size (fun j e => (by have := HB1.out.size; cases e; omega))
          have ho2 := hst.1
          rw [tb_int] at ho2
          rw [bvs_setx] at ho2
          rw [← tb_int] at ho2
          have HO2 := Lib.hid ho2
          have HOE2 := Lib.hid hoe2
          have HBW2 := Lib.hid hb2
          have htb := tb_int turn k
          have HTB := Lib.hid htb
          have hlf := fl_length b0 A turn k
          have HLF := Lib.hid hlf
          clear hst hoe2 hb2 ho2 htb hlf
          generalize hq : bt (fl b0 A turn k) (A + k) = q at *
          clear hq
          by_cases hx : turnByte turn k = 0
          · have hxx : ((turn.toNat : Int) / 2 ^ (8 * k) % 256 != 0) = false := by rw [HTB.out, hx]; rfl
            have HX := Lib.hid hx
            clear hx
            go_wp2_with fail
            go_roundw
            case rel => exact ⟨k + 1, fi, by omega, by omega, by go_num, rfl, hf1, hf2, first_skip _ _ _ _ _ _ HFI.out hc2 HLF.out (.inl HX.out), HO2.out, HOE2.out, HBW2.out⟩
            case measure => simp [intOf]; omega
          · have hxx : ((turn.toNat : Int) / 2 ^ (8 * k) % 256 != 0) = true := by
              rw [HTB.out, bne_iff_ne]
              intro h
              exact hx (UInt8.toNat_inj.1 (by simpa using h))
            have HX := Lib.hid hx
            clear hx
            by_cases hneg : fi < 0
            · have hf1e : FirstInv b0 (fl b0 A turn k) A k (-1) := by
                have h := HFI.out
                rwa [show fi = -1 by omega] at h
              have HF1 := Lib.hid hf1e
              clear hf1e
              go_wp2_with fail
              go_roundw
              case rel => exact ⟨k + 1, ((A + k : Nat) : Int), by omega, by omega, by go_num, by go_num, by omega, by omega, first_hit _ _ _ _ _ HF1.out hc2 HX.out, HO2.out, HOE2.out, HBW2.out⟩
              case measure => simp [intOf]; omega
            · go_wp2_with fail
              go_roundw
              case rel => exact ⟨k + 1, fi, by omega, by omega, by go_num, rfl, hf1, hf2, first_skip _ _ _ _ _ _ HFI.out hc2 HLF.out (.inr (by omega)), HO2.out, HOE2.out, HBW2.out⟩
              case measure => simp [intOf]; omega
        · have hend : k = 4 ∨ A + k = b0.length := by omega
          have hturn := fl_turned b0 A turn k hAk hk hend
          have hlf := fl_length b0 A turn k
          have hby := Bytes.of_own (xs := fl b0 A turn k) (w := wr) (v := .slice (some ⟨g, 0, none⟩) b0.length bc) (base := w1.heap.size) (e := 5) (by rw [hlf]; exact ho)
          have HBY := Lib.hid hby
          have HT := Lib.hid hturn
          have HFI := Lib.hid hfi
          have HLF := Lib.hid hlf
          have HOE := Lib.hid hoe
          have HBW := Lib.hid hb
          clear ho hby hturn hfi hlf hoe hb
          obtain ⟨cs, hcs⟩ : ∃ cs, cs = fl b0 A turn k := ⟨_, rfl⟩
          rw [← hcs] at HBY HT HFI HLF
          have HCS := Lib.hid hcs
          clear hcs
          have hcl : cs.length ≤ 1099511627776 := by rw [HLF.out]; omega
          have hway : (fi = -1 ∧ Count cs ps.length ∧ pos cs ps.length = b0.length) ∨ (0 ≤ fi ∧ ∃ n, n < ps.length ∧ Count cs n ∧ pos cs n = endAt ps n ∧ (endAt ps n : Int) ≤ fi ∧ fi < (endAt ps (n + 1) : Nat)) := by
            have hall := HALL.out
            have hb0 := HB0.out
            rcases HFI.out with ⟨rfl, he⟩ | ⟨i, hi, hfe, ht, hne⟩
            · left
              have hea := endAt_all ps
              obtain ⟨h1, h2, -⟩ := row_count ps b0.length ps.length cs (by rw [he, hb0, List.take_length]) (by rw [hb0]; exact Nat.le_refl _) hall (Nat.le_refl _) (by rw [hb0, hea]; exact Nat.le_refl _) (.inl rfl)
              exact ⟨rfl, h1, by rw [h2 _ (Nat.le_refl _), hea, hb0]⟩
            · right
              refine ⟨by omega, ?_⟩
              have hex : ∀ m, m ≤ ps.length → (endAt ps m : Int) ≤ fi → ∃ n, n < ps.length ∧ (endAt ps n : Int) ≤ fi ∧ fi < (endAt ps (n + 1) : Nat) := by
                intro m
                induction hd : ps.length - m generalizing m with
                | zero =>
                  intro h1 h2
                  exfalso
                  obtain rfl : m = ps.length := by omega
                  rw [endAt_all, ← hb0] at h2
                  omega
                | succ d ih =>
                  intro h1 h2
                  by_cases h3 : fi < (endAt ps (m + 1) : Nat)
                  · exact ⟨m, by omega, h2, h3⟩
                  · exact ih (m + 1) (by omega) (by omega) (by omega)
              obtain ⟨n, hn, h1, h2⟩ := hex 0 (by omega) (by rw [endAt_zero]; omega)
              have hfc := flips_count ps cs A turn (A + i) n hall (by rw [← hb0]; exact HT.out) (by rw [← hb0]; exact ht) (by rw [← hb0]; exact hne) hn (by omega) (by omega)
              exact ⟨n, hn, hfc.1, hfc.2, h1, h2⟩
          rcases Nat.lt_or_ge k 4 with hk4 | hk4
          · have hx1 : ¬ ((A : Int) + k < b0.length) := by omega
            clear hend hc
            rcases hway with ⟨rfl, hcnt, hpos⟩ | ⟨hpos0, n, hn, hcnt, hpos, hle1, hlt1⟩
            · go_wp2_with fail
              refine (cut_calls _ cs ps.length _ HBY.out hcl hcnt).mono ?_
              rintro e w3 ⟨l3, rfl, hl3, hb3⟩
              rw [hpos]
              obtain ⟨la, lc, hls⟩ := hl3.slice'
              rw [pays_length] at hls
              subst hls
              have HB3 := Lib.hid (HBW.out.trans (hb3.mono HBW.out.size))
              clear hl3 hb3 hcnt hpos
              go_wp2_with fail
              go_ret
              exact ⟨rfl, HB3.out⟩
            · have HE1 := Lib.hid hcnt
              have HE2 := Lib.hid (And.intro hle1 hlt1)
              go_wp2_with fail
              refine (cut_calls _ cs n _ HBY.out hcl hcnt).mono ?_
              rintro e w3 ⟨l3, rfl, hl3, hb3⟩
              rw [hpos]
              obtain ⟨la, lc, hls⟩ := hl3.slice'
              rw [pays_length] at hls
              subst hls
              have HB3 := Lib.hid (HBW.out.trans (hb3.mono HBW.out.size))
              have HOE3 := Lib.hid (ownsRow_below HOE.out hb3 (Nat.le_refl _))
              clear hl3 hb3 hcnt hpos hle1 hlt1
              go_wp2_with fail
              go_loopw [15, 16] (fun q z wq => ∃ j : Nat, j ≤ n ∧ q = .int .i64 j ∧ z = .int .i64 (endAt ps j : Nat) ∧ wq = w3) (fun q _ _ => n - (intOf q).toNat)
              case atStart => exact ⟨0, by omega, rfl, by rw [endAt_zero]; rfl, rfl⟩
              case round =>
                obtain ⟨j, hj, rfl, rfl, rfl⟩ := hrel
                have hjp : j < ps.length := by omega
                obtain ⟨eb, eo, ⟨ec', hse⟩, hce⟩ := own_ends HOE3.out j hjp
                simp only [Value.slice.injEq] at hse
                obtain ⟨rfl, -, -⟩ := hse
                have hmono : ∀ i m, i ≤ m → m ≤ ps.length → endAt ps i ≤ endAt ps m := by
                  intro i m him hm
                  induction m with
                  | zero => obtain rfl : i = 0 := by omega
                            exact Nat.le_refl _
                  | succ m ih =>
                    rcases Nat.lt_or_ge i (m + 1) with h | h
                    · have := ih (by omega) (by omega)
                      rw [endAt_succ ps m (by omega)]; omega
                    · obtain rfl : i = m + 1 := by omega
                      exact Nat.le_refl _
                have h2 := HE2.out
                by_cases hlt : j < n
                · have hm := hmono (j + 1) n (by omega) (by omega)
                  have hq : ((endAt ps (j + 1) : Nat) : Int) ≤ fi := by omega
                  clear hmono h2 hm
                  generalize hE : endAt ps (j + 1) = E at *
                  have HEE := Lib.hid hE
                  clear hE
                  go_wp2_with fail
                  go_roundw
                  case rel => exact ⟨j + 1, by omega, by go_num, by rw [HEE.out], trivial⟩
                  case measure => simp [intOf]; omega
                · obtain rfl : j = n := by omega
                  have hq : ¬ ((endAt ps (j + 1) : Nat) : Int) ≤ fi := by omega
                  clear hmono h2
                  generalize hE : endAt ps (j + 1) = E at *
                  clear hE
                  go_wp2_with fail
                  go_ret
                  exact ⟨rfl, HB3.out⟩
          · have hx1 : ¬ ((k : Int) < 4) := by omega
            clear hend hc
            rcases hway with ⟨rfl, hcnt, hpos⟩ | ⟨hpos0, n, hn, hcnt, hpos, hle1, hlt1⟩
            · go_wp2_with fail
              refine (cut_calls _ cs ps.length _ HBY.out hcl hcnt).mono ?_
              rintro e w3 ⟨l3, rfl, hl3, hb3⟩
              rw [hpos]
              obtain ⟨la, lc, hls⟩ := hl3.slice'
              rw [pays_length] at hls
              subst hls
              have HB3 := Lib.hid (HBW.out.trans (hb3.mono HBW.out.size))
              clear hl3 hb3 hcnt hpos
              go_wp2_with fail
              go_ret
              exact ⟨rfl, HB3.out⟩
            · have HE1 := Lib.hid hcnt
              have HE2 := Lib.hid (And.intro hle1 hlt1)
              go_wp2_with fail
              refine (cut_calls _ cs n _ HBY.out hcl hcnt).mono ?_
              rintro e w3 ⟨l3, rfl, hl3, hb3⟩
              rw [hpos]
              obtain ⟨la, lc, hls⟩ := hl3.slice'
              rw [pays_length] at hls
              subst hls
              have HB3 := Lib.hid (HBW.out.trans (hb3.mono HBW.out.size))
              have HOE3 := Lib.hid (ownsRow_below HOE.out hb3 (Nat.le_refl _))
              clear hl3 hb3 hcnt hpos hle1 hlt1
              go_wp2_with fail
              go_loopw [15, 16] (fun q z wq => ∃ j : Nat, j ≤ n ∧ q = .int .i64 j ∧ z = .int .i64 (endAt ps j : Nat) ∧ wq = w3) (fun q _ _ => n - (intOf q).toNat)
              case atStart => exact ⟨0, by omega, rfl, by rw [endAt_zero]; rfl, rfl⟩
              case round =>
                obtain ⟨j, hj, rfl, rfl, rfl⟩ := hrel
                have hjp : j < ps.length := by omega
                obtain ⟨eb, eo, ⟨ec', hse⟩, hce⟩ := own_ends HOE3.out j hjp
                simp only [Value.slice.injEq] at hse
                obtain ⟨rfl, -, -⟩ := hse
                have hmono : ∀ i m, i ≤ m → m ≤ ps.length → endAt ps i ≤ endAt ps m := by
                  intro i m him hm
                  induction m with
                  | zero => obtain rfl : i = 0 := by omega
                            exact Nat.le_refl _
                  | succ m ih =>
                    rcases Nat.lt_or_ge i (m + 1) with h | h
                    · have := ih (by omega) (by omega)
                      rw [endAt_succ ps m (by omega)]; omega
                    · obtain rfl : i = m + 1 := by omega
                      exact Nat.le_refl _
                have h2 := HE2.out
                by_cases hlt : j < n
                · have hm := hmono (j + 1) n (by omega) (by omega)
                  have hq : ((endAt ps (j + 1) : Nat) : Int) ≤ fi := by omega
                  clear hmono h2 hm
                  generalize hE : endAt ps (j + 1) = E at *
                  have HEE := Lib.hid hE
                  clear hE
                  go_wp2_with fail
                  go_roundw
                  case rel => exact ⟨j + 1, by omega, by go_num, by rw [HEE.out], trivial⟩
                  case measure => simp [intOf]; omega
                · obtain rfl : j = n := by omega
                  have hq : ¬ ((endAt ps (j + 1) : Nat) : Int) ≤ fi := by omega
                  clear hmono h2
                  generalize hE : endAt ps (j + 1) = E at *
                  clear hE
                  go_wp2_with fail
                  go_ret
                  exact ⟨rfl, HB3.out⟩
  · rw [if_neg hall] at hr
    subst hr
    clear hall
    go_wp2_with fail
    go_ret
    exact ⟨rfl, HB2.out⟩
end Go.Proofs.Ytfmfmalhebfnhaa
