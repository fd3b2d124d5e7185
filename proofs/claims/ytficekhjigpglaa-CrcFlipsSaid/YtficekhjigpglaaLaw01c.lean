/- CrcFlips walked. -/
import Derived.Test.YtficekhjigpglaaLaw01
import Derived.Test.YtficekhjigpglaaTop
namespace Go.Proofs.Ytficekhjigpglaa
open Go.RowKit CrcM

theorem wrap_u64 (n : Int) (h : 0 ≤ n) (h2 : n < 18446744073709551616) : IntKind.u64.wrap n = n := by
  simp [IntKind.wrap, IntKind.bits, IntKind.signed]
  omega
theorem wrap_u64_nonneg (n : Int) : 0 ≤ IntKind.u64.wrap n := by
  simp [IntKind.wrap, IntKind.bits, IntKind.signed]
  omega
theorem tmod_nat (n : Int) (p : Nat) (h : 0 ≤ n) : ∃ A : Nat, n.tmod (8 * ((p : Int) + 1)) = A ∧ A < 8 * (p + 1) := by
  rw [Int.tmod_eq_emod_of_nonneg h]
  have h1 := Int.emod_nonneg n (show (8 * ((p : Int) + 1)) ≠ 0 by omega)
  have h2 := Int.emod_lt_of_pos n (show 0 < (8 * ((p : Int) + 1)) by omega)
  exact ⟨(n % (8 * ((p : Int) + 1))).toNat, by omega, by omega⟩
theorem bit_cond (x : BitVec 32) (k : Nat) : (bits BinOp.and IntKind.u32 ((x.toNat : Int) / 2 ^ k) 1 == 1) = x.getLsbD k := by
  have hx := x.isLt
  have h0 : x.toNat / 2 ^ k ≤ x.toNat := Nat.div_le_self _ _
  have h2 : ((x.toNat : Int) / 2 ^ k) = ((x.toNat / 2 ^ k : Nat) : Int) := by simp
  have h3 : bits BinOp.and IntKind.u32 ((x.toNat / 2 ^ k : Nat) : Int) 1 = ((x.toNat / 2 ^ k % 2 : Nat) : Int) := by
    have := u32_and_nat (x.toNat / 2 ^ k) 1 (by omega) (by omega); rw [nat_mask1] at this; exact this
  have hr : x.getLsbD k = x.toNat.testBit k := rfl
  rw [h2, h3, hr, Nat.testBit_eq_decide_div_mod_eq]
  rcases Nat.mod_two_eq_zero_or_one (x.toNat / 2 ^ k) with h | h <;> simp [h]
theorem own_bt {w : World} {base : Nat} {e : TypeId} {g n c : Nat} {xs : List UInt8} (h : w.ownsRow base e 1 (.slice (some ⟨g, 0, none⟩) n c) n (bvs xs)) (i : Nat) (hi : i < n) (hl : xs.length = n) :
    w.cell? ⟨g, i, none⟩ = some (.int .u8 (bt xs i)) := by
  subst hl
  obtain ⟨a, cap, e1, -, -, h2⟩ := Bytes.of_own h
  simp only [Value.slice.injEq, true_and] at e1
  obtain ⟨rfl, rfl⟩ := e1
  rcases h2 with rfl | ⟨b, off, e2, hc⟩
  · have := h.2
    simp only [Value.slice.injEq] at this
    rcases this with ⟨⟨h', -⟩, -⟩ | ⟨g', cap', cur, ⟨h1, h2, h3⟩, hb, hg, hnc, hcm, hcs, htake⟩
    · cases h'
    · omega
  · simp only [Option.some.injEq, Addr.mk.injEq, and_true] at e2
    obtain ⟨rfl, rfl⟩ := e2
    have := hc i hi
    simpa using this
theorem flip_byte (xs : List UInt8) (q r : Nat) (hr : r < 8) : bits BinOp.xor IntKind.u8 (bt xs q) (2 ^ r % 256) = ((xs.getD q 0 ^^^ UInt8.ofNat (2 ^ r)).toNat : Int) := by
  have h1 : ((2 : Int) ^ r % 256) = ((2 ^ r : Nat) : Int) := by
    have h : (2 : Nat) ^ r < 2 ^ 8 := Nat.pow_lt_pow_right (by omega) hr
    have e : ((2 ^ r : Nat) : Int) = (2 : Int) ^ r := by simp
    rw [← e]
    generalize 2 ^ r = z at *
    omega
  have h2 : (2 : Nat) ^ r < 2 ^ 8 := Nat.pow_lt_pow_right (by omega) hr
  rw [h1]
  unfold bt
  rw [u8_xor_nat _ _ (UInt8.toNat_lt _) (by omega)]
  rw [UInt8.toNat_xor]
  simp [Nat.mod_eq_of_lt h2]
theorem bvs_set (xs : List UInt8) (q : Nat) (b : UInt8) : (bvs xs).set q (.int .u8 (b.toNat : Int)) = bvs (xs.set q b) := by
  simp [bvs, byteV, List.map_set]
def flipTo (xs : List UInt8) (A : Nat) (turn : BitVec 32) : Nat → List UInt8
  | 0 => xs
  | k + 1 => if turn.getLsbD k then (flipTo xs A turn k).set ((A + k) / 8) ((flipTo xs A turn k).getD ((A + k) / 8) 0 ^^^ UInt8.ofNat (2 ^ ((A + k) % 8))) else flipTo xs A turn k
theorem flipTo_length (xs : List UInt8) (A : Nat) (turn : BitVec 32) (k : Nat) : (flipTo xs A turn k).length = xs.length := by
  induction k with
  | zero => rfl
  | succ k ih => simp only [flipTo]; split <;> simp [ih]
theorem pow_small (r : Nat) (h : r < 8) : (UInt8.ofNat (2 ^ r)).toNat = 2 ^ r := by
  have : 2 ^ r < 2 ^ 8 := Nat.pow_lt_pow_right (by omega) h
  simp [Nat.mod_eq_of_lt this]
theorem bitAt_set (l : List UInt8) (q r j : Nat) (hr : r < 8) (hq : q < l.length) :
    bitAt (l.set q (l.getD q 0 ^^^ UInt8.ofNat (2 ^ r))) j = (bitAt l j ^^ decide (j = 8 * q + r)) := by
  unfold bitAt
  by_cases h : j / 8 = q
  · rw [h]
    have e : (l.set q (l.getD q 0 ^^^ UInt8.ofNat (2 ^ r))).getD q 0 = l.getD q 0 ^^^ UInt8.ofNat (2 ^ r) := by
      simp [List.getD, hq]
    rw [e, UInt8.toNat_xor, Nat.testBit_xor, pow_small r hr, Nat.testBit_two_pow]
    congr 1
    apply decide_eq_decide.2
    omega
  · have e : (l.set q (l.getD q 0 ^^^ UInt8.ofNat (2 ^ r))).getD (j / 8) 0 = l.getD (j / 8) 0 := by
      simp [List.getD, show ¬ q = j / 8 by omega]
    rw [e]
    have : ¬ j = 8 * q + r := by omega
    simp [this]
theorem bitAt_flipTo (xs : List UInt8) (A : Nat) (turn : BitVec 32) (k : Nat) (hk : A + k ≤ 8 * xs.length) (j : Nat) :
    bitAt (flipTo xs A turn k) j = (bitAt xs j ^^ (decide (A ≤ j) && decide (j < A + k) && turn.getLsbD (j - A))) := by
  induction k with
  | zero =>
    simp only [flipTo]
    have : ¬ (A ≤ j ∧ j < A + 0) := by omega
    by_cases h : A ≤ j
    · simp [show ¬ j < A by omega]
    · simp [h]
  | succ k ih =>
    have ih := ih (by omega)
    simp only [flipTo]
    by_cases ht : turn.getLsbD k = true
    · rw [if_pos ht, bitAt_set _ _ _ _ (by omega) (by rw [flipTo_length]; omega), ih]
      have e : 8 * ((A + k) / 8) + (A + k) % 8 = A + k := by omega
      rw [e]
      by_cases hj : j = A + k
      · subst hj
        simp [show A + k - A = k by omega, ht]
      · by_cases h1 : A ≤ j
        · by_cases h2 : j < A + k
          · simp [h1, h2, hj, show j < A + (k + 1) by omega]
          · simp [h2, hj, show ¬ j < A + (k + 1) by omega]
        · simp [h1, hj]
    · rw [if_neg ht, ih]
      by_cases hj : j = A + k
      · subst hj
        have : turn.getLsbD k = false := by simpa using ht
        simp [show A + k - A = k by omega, this]
      · by_cases h1 : A ≤ j
        · by_cases h2 : j < A + k
          · simp [h1, h2, show j < A + (k + 1) by omega]
          · simp [h2, show ¬ j < A + (k + 1) by omega]
        · simp [h1]
theorem low_ne (x : BitVec 32) (k : Nat) : decide (low x (k + 1) ≠ 0#32) = (decide (low x k ≠ 0#32) || x.getLsbD k) := by
  have hz : ∀ m, (low x m = 0#32) ↔ ∀ i, i < m → x.getLsbD i = false := by
    intro m
    constructor
    · intro h i hi
      have := congrArg (fun y => y.getLsbD i) h
      simp only [getLsbD_low, BitVec.getLsbD_zero] at this
      simpa [hi] using this
    · intro h
      apply BitVec.eq_of_getLsbD_eq
      intro i _
      rw [getLsbD_low]
      by_cases hi : i < m
      · simp [h i hi]
      · simp [hi]
  by_cases h : low x k = 0#32
  · cases hb : x.getLsbD k
    · have : low x (k + 1) = 0#32 := (hz _).2 fun i hi => by
        by_cases e : i = k
        · rw [e]; exact hb
        · exact (hz k).1 h i (by omega)
      simp [h, this]
    · have : ¬ low x (k + 1) = 0#32 := fun h' => by
        have := (hz _).1 h' k (by omega)
        rw [hb] at this; cases this
      simp [h, this]
  · have : ¬ low x (k + 1) = 0#32 := fun h' => h ((hz k).2 fun i hi => (hz _).1 h' i (by omega))
    simp [h, this]

set_option maxHeartbeats 1000000 in
set_option maxRecDepth 100000 in
theorem flips_core (v : Value) (xs : List UInt8) (at_ : Int) (turn : BitVec 32) (w : World) (hv : Bytes w v xs) (ha : -9223372036854775808 ≤ at_ ∧ at_ ≤ 9223372036854775807) (hlen : xs.length ≤ 140737488351232) :
    Calls Try.prog 5 #[v, .int .i64 at_, .int .u32 turn.toNat] w fun e w' => e = .returned (.bool true) ∧ Below w.heap.size w w' := by
  have HV := Lib.hid hv
  obtain ⟨a, cap, rfl, hl, hcap, -⟩ := hv
  obtain ⟨ha1, ha2⟩ := ha
  have hT := turn.isLt
  go_enter Try.func5, Try.ntmps5
  go_wp2_with fail
  refine (known_calls _).mono ?_
  rintro e w1 ⟨rfl, hb1⟩
  by_cases h0 : xs.length = 0
  · have h0' : ((xs.length : Int) == 0) = true := by simp [h0]
    have H0 := Lib.hid h0
    clear h0
    go_wp2
    go_ret
    exact ⟨rfl, hb1⟩
  have h0' : ((xs.length : Int) == 0) = false := beq_eq_false_iff_ne.2 (by omega)
  by_cases ht0 : turn = 0#32
  · subst ht0
    go_wp2
    go_ret
    exact ⟨rfl, hb1⟩
  have ht0' : ((turn.toNat : Int) == 0) = false := by
    simp
    intro h
    exact ht0 (BitVec.eq_of_toNat_eq (by simpa using h))
  have HT0 := Lib.hid ht0
  clear ht0
  have hpos : 0 < xs.length := by omega
  have ho := World.ownsRow_lit (base := w.heap.size) (size := 1) (e := 5) w1 #[] 0 hb1.size (by unfold maxLen; omega) rfl
  have HO := Lib.hid ho
  clear ho
  have hb1' := hb1.alloc hb1.size (.cells #[] 5)
  have HB1 := Lib.hid hb1'
  clear hb1' hb1
  go_wp2_with (at_builtin; have _t := HO; refine app_list tyBytes HO.out (HV.out.rd.below HB1.out (Nat.le_refl _)) (bvs_one _) (by omega) (by omega) HB1.out.size rfl rfl rfl rfl ?_; intro v2 w2 hown2 hg2 hn2; have HB2 := Lib.hid (HB1.out.grown hg2 HB1.out.size (fun k e => (World.ownsRow.lt HO.out k e).1)); clear HO hg2 hn2; obtain ⟨p, hp⟩ : ∃ p, xs.length = p + 1 := ⟨xs.length - 1, by omega⟩; have ho2 := hown2; rw [hp, show 0 + (p + 1) = p + 1 by omega] at ho2; obtain ⟨g, c2, rfl, hg1, hg2, hg3, hg4⟩ := own_succ ho2; have hpb : p + 1 ≤ 140737488351232 := (by omega); have hm1 : wrap64 (8 * ((p : Int) + 1)) = 8 * ((p : Int) + 1) := (by unfold wrap64; omega); have hm2 : IntKind.u64.wrap (8 * ((p : Int) + 1)) = 8 * ((p : Int) + 1) := wrap_u64 _ (by omega) (by omega); have hm3 : (8 * ((p : Int) + 1) = 0) = False := eq_false (by omega); obtain ⟨A, hA, hA2⟩ := tmod_nat (IntKind.u64.wrap at_) p (wrap_u64_nonneg at_); have HP := Lib.hid hp; have HO2 := Lib.hid ho2; clear ho2 hp hown2)
  go_loopw [9, 10] (fun t i wr => ∃ k : Nat, k ≤ 32 ∧ A + k ≤ 8 * (p + 1) ∧ i = .int .i64 k ∧ t = .bool (decide (low turn k ≠ 0#32)) ∧ wr.ownsRow w.heap.size 5 1 (.slice (some ⟨g, 0, none⟩) (p + 1) c2) (p + 1) (bvs (flipTo xs A turn k)) ∧ Below w.heap.size w wr) (fun _ i _ => 32 - (intOf i).toNat)
  case atStart => exact ⟨0, by omega, by omega, rfl, by rw [low_zero]; rfl, HO2.out, HB2.out⟩
  case round =>
    obtain ⟨k, hk, hAk, rfl, rfl, ho, hb⟩ := hrel
    have HO := Lib.hid ho
    have HBW := Lib.hid hb
    clear hb
    by_cases hlt : k < 32 ∧ A + k < 8 * (p + 1)
    · obtain ⟨hlt1, hlt2⟩ := hlt
      have hcell := own_bt ho ((A + k) / 8) (by omega) (by rw [flipTo_length]; exact HP.out)
      have hfr := World.ownsRow.frozenAt ho ((A + k) / 8)
      have hst := World.ownsRow.stored ho ((A + k) / 8) (.int .u8 (bits BinOp.xor IntKind.u8 (bt (flipTo xs A turn k) ((A + k) / 8)) (2 ^ ((A + k) % 8) % 256)))
      have HST := Lib.hid hst
      clear hst
      have hbit := bit_cond turn k
      clear ho
      cases hb1 : turn.getLsbD k
      · rw [hb1] at hbit
        have HB1' := Lib.hid hb1
        clear hb1
        go_wp2_with fail
        go_roundw
        case rel =>
          refine ⟨k + 1, by omega, by omega, by go_num, ?_, ?_, HBW.out⟩
          · rw [low_ne, HB1'.out]; simp
          · have := HO.out
            rw [show flipTo xs A turn (k + 1) = flipTo xs A turn k by simp [flipTo, HB1'.out]]
            exact this
        case measure => simp [intOf]; omega
      · rw [hb1] at hbit
        have HB1' := Lib.hid hb1
        clear hb1
        go_wp2_with fail
        go_roundw
        case rel =>
          refine ⟨k + 1, by omega, by omega, by go_num, ?_, ?_, HBW.out.grown HST.out.2 HBW.out.size (fun j e => (World.ownsRow.lt HO.out j e).1)⟩
          · rw [low_ne, HB1'.out]; simp
          · have := HST.out.1
            rw [flip_byte _ _ _ (by omega), bvs_set, ← flip_byte _ _ _ (by omega)] at this
            rw [show flipTo xs A turn (k + 1) = (flipTo xs A turn k).set ((A + k) / 8) ((flipTo xs A turn k).getD ((A + k) / 8) 0 ^^^ UInt8.ofNat (2 ^ ((A + k) % 8))) by simp only [flipTo]; rw [if_pos HB1'.out]]
            exact this
        case measure => simp [intOf]; omega
    · have hbz := Bytes.of_own (xs := flipTo xs A turn k) (by rw [flipTo_length, HP.out]; exact ho)
      have HBZ := Lib.hid hbz
      clear hbz ho
      have hend : k = 32 ∨ A + k = 8 * (p + 1) := by omega
      have hres : ((sum xs).toNat : Int) ≠ (sum (flipTo xs A turn k)).toNat ↔ low turn k ≠ 0#32 := by
        have hl : low turn k = low turn (8 * xs.length - A) := by
          rcases hend with e | e
          · rw [e, low_all _ _ (by omega)]
            by_cases h : 32 ≤ 8 * xs.length - A
            · rw [low_all _ _ h]
            · have := HP.out; omega
          · have : 8 * xs.length - A = k := by have := HP.out; omega
            rw [this]
        have hL := HP.out
        have := burst xs (flipTo xs A turn k) A turn (flipTo_length _ _ _ _) (by omega) (fun j hj => by
          rw [bitAt_flipTo _ _ _ _ (by omega)]
          by_cases h1 : A ≤ j
          · have h2 : (decide (j < A + k)) = decide (j < A + 32) := decide_eq_decide.2 (by omega)
            rw [h2]
          · simp [h1])
        rw [hl, ne_eq, ne_eq, ← this]
        refine not_congr ?_
        constructor
        · intro h; exact BitVec.eq_of_toNat_eq (by omega)
        · intro h; rw [h]
      have HRES := Lib.hid hres
      clear hres
      rcases Nat.lt_or_ge k 32 with hlt3 | hlt3
      · have he3 : A + k = 8 * (p + 1) := by omega
        have he4 : ((A : Int) + k < 8 * ((p : Int) + 1)) = False := eq_false (by omega)
        clear hend he3
        go_wp2_with fail
        refine (sum_calls _ xs _ (HV.out.below HBW.out (Nat.le_refl _))).mono ?_
        rintro e y1 ⟨rfl, hy1⟩
        have hz1 := HBW.out.trans (hy1.mono HBW.out.size)
        have HZ1 := Lib.hid hz1
        have hbz := HBZ.out.below hy1 (Nat.le_refl _)
        have HBZ1 := Lib.hid hbz
        clear hz1 hy1 hbz
        go_wp2_with fail
        refine (sum_calls _ _ _ HBZ1.out).mono ?_
        rintro e y2 ⟨rfl, hy2⟩
        have hz2 := HZ1.out.trans (hy2.mono HZ1.out.size)
        have HZ2 := Lib.hid hz2
        clear hz2 hy2
        go_wp2_with fail
        have hval : ((((sum xs).toNat : Int) != ((sum (flipTo xs A turn k)).toNat : Int)) == !decide (low turn k = 0#32)) = true := by
          have := HRES.out
          by_cases h : low turn k = 0#32
          · have h2 : ((sum xs).toNat : Int) = (sum (flipTo xs A turn k)).toNat := Decidable.byContradiction fun h3 => this.1 h3 h
            simp [h, h2]
          · have h2 := this.2 h
            simp only [h, decide_false, Bool.not_false, beq_true]
            exact bne_iff_ne.2 h2
        rw [hval]
        go_ret
        exact ⟨rfl, HZ2.out⟩
      · have he4 : ((k : Int) < 32) = False := eq_false (by omega)
        go_wp2_with fail
        refine (sum_calls _ xs _ (HV.out.below HBW.out (Nat.le_refl _))).mono ?_
        rintro e y1 ⟨rfl, hy1⟩
        have hz1 := HBW.out.trans (hy1.mono HBW.out.size)
        have HZ1 := Lib.hid hz1
        have hbz := HBZ.out.below hy1 (Nat.le_refl _)
        have HBZ1 := Lib.hid hbz
        clear hz1 hy1 hbz
        go_wp2_with fail
        refine (sum_calls _ _ _ HBZ1.out).mono ?_
        rintro e y2 ⟨rfl, hy2⟩
        have hz2 := HZ1.out.trans (hy2.mono HZ1.out.size)
        have HZ2 := Lib.hid hz2
        clear hz2 hy2
        go_wp2_with fail
        have hval : ((((sum xs).toNat : Int) != ((sum (flipTo xs A turn k)).toNat : Int)) == !decide (low turn k = 0#32)) = true := by
          have := HRES.out
          by_cases h : low turn k = 0#32
          · have h2 : ((sum xs).toNat : Int) = (sum (flipTo xs A turn k)).toNat := Decidable.byContradiction fun h3 => this.1 h3 h
            simp [h, h2]
          · have h2 := this.2 h
            simp only [h, decide_false, Bool.not_false, beq_true]
            exact bne_iff_ne.2 h2
        rw [hval]
        go_ret
        exact ⟨rfl, HZ2.out⟩
end Go.Proofs.Ytficekhjigpglaa
