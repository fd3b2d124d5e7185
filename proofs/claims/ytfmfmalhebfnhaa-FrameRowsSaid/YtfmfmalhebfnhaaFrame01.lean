/- Layer 2: four, number, Put walked. -/
import Derived.Test.YtfmfmalhebfnhaaMine
import Derived.Test.YtfmfmalhebfnhaaFrameMath
namespace Go.Proofs.Ytfmfmalhebfnhaa
open Go.RowKit CrcM FrM

theorem four_calls (n : Nat) (hn : n < 4294967296) (w : World) :
    Calls Try.prog 24 #[.int .u32 n] w fun e w' => ∃ v, e = .returned v ∧ Mine w' w.heap.size v (le4 n) ∧ Below w.heap.size w w' := by
  go_enter Try.func24, Try.ntmps24
  go_wp2
  go_ret
  refine ⟨_, rfl, ?_, (Below.refl _ _).alloc (Nat.le_refl _) _⟩
  have e : bvs (le4 n) = [.int .u8 ((n : Int) % 256), .int .u8 ((n : Int) / 256 % 256), .int .u8 ((n : Int) / 65536 % 256), .int .u8 ((n : Int) / 16777216)] := by
    simp only [bvs, le4, byteV, List.map, UInt8.toNat_ofNat']
    have e4 : (n : Int) / 16777216 = ((n / 16777216 % 256 : Nat) : Int) := by omega
    rw [e4]
    rfl
  exact Mine.lit w _ 4 _ _ (Nat.le_refl _) (by omega) rfl e

theorem or4 (q0 q1 q2 q3 : Int) (l0 : 0 ≤ q0) (h0 : q0 < 256) (l1 : 0 ≤ q1) (h1 : q1 < 256) (l2 : 0 ≤ q2) (h2 : q2 < 256) (l3 : 0 ≤ q3) (h3 : q3 < 256) :
    bits BinOp.or IntKind.u32 (bits BinOp.or IntKind.u32 (bits BinOp.or IntKind.u32 (IntKind.u32.wrap q0) (IntKind.u32.wrap (IntKind.u32.wrap q1 * 256))) (IntKind.u32.wrap (IntKind.u32.wrap q2 * 65536))) (IntKind.u32.wrap (IntKind.u32.wrap q3 * 16777216))
      = q0 + 256 * (q1 + 256 * (q2 + 256 * q3)) := by
  have wr : ∀ n : Int, 0 ≤ n → n < 4294967296 → IntKind.u32.wrap n = n := by
    intro n h h'
    simp [IntKind.wrap, IntKind.bits, IntKind.signed]
    omega
  rw [wr q0 (by omega) (by omega), wr q1 (by omega) (by omega), wr q2 (by omega) (by omega), wr q3 (by omega) (by omega), wr _ (by omega) (by omega), wr _ (by omega) (by omega), wr _ (by omega) (by omega)]
  obtain ⟨a, rfl⟩ := Int.eq_ofNat_of_zero_le l0
  obtain ⟨b, rfl⟩ := Int.eq_ofNat_of_zero_le l1
  obtain ⟨c, rfl⟩ := Int.eq_ofNat_of_zero_le l2
  obtain ⟨d, rfl⟩ := Int.eq_ofNat_of_zero_le l3
  have e1 : (a ||| b * 256) = a + b * 256 := by
    have := Nat.two_pow_add_eq_or_of_lt (i := 8) (b := a) (by omega) b
    rw [Nat.or_comm, Nat.mul_comm b, show (256 : Nat) = 2 ^ 8 from rfl, ← this]; omega
  have e2 : ((a + b * 256) ||| c * 65536) = a + b * 256 + c * 65536 := by
    have := Nat.two_pow_add_eq_or_of_lt (i := 16) (b := a + b * 256) (by omega) c
    rw [Nat.or_comm, Nat.mul_comm c, show (65536 : Nat) = 2 ^ 16 from rfl, ← this]; omega
  have e3 : ((a + b * 256 + c * 65536) ||| d * 16777216) = a + b * 256 + c * 65536 + d * 16777216 := by
    have := Nat.two_pow_add_eq_or_of_lt (i := 24) (b := a + b * 256 + c * 65536) (by omega) d
    rw [Nat.or_comm, Nat.mul_comm d, show (16777216 : Nat) = 2 ^ 24 from rfl, ← this]; omega
  have f1 : ((b : Int) * 256) = ((b * 256 : Nat) : Int) := by omega
  have f2 : ((c : Int) * 65536) = ((c * 65536 : Nat) : Int) := by omega
  have f3 : ((d : Int) * 16777216) = ((d * 16777216 : Nat) : Int) := by omega
  rw [f1, f2, f3, u32_or_nat _ _ (by omega) (by omega), e1, u32_or_nat _ _ (by omega) (by omega), e2, u32_or_nat _ _ (by omega) (by omega), e3]
  omega

set_option maxRecDepth 100000 in
theorem number_calls (v : Value) (xs : List UInt8) (w : World) (hv : Bytes w v xs) (hl : 4 ≤ xs.length) :
    Calls Try.prog 28 #[v] w fun e w' => e = .returned (.int .u32 (num xs)) ∧ Below w.heap.size w w' := by
  obtain ⟨a, cap, rfl, hlc, hcap, hc⟩ := hv
  rcases hc with rfl | ⟨b, o, rfl, hc⟩
  · omega
  have c0 := hc 0 (by omega)
  have c1 := hc 1 (by omega)
  have c2 := hc 2 (by omega)
  have c3 := hc 3 (by omega)
  clear hc
  have l0 := bt_lo xs 0
  have l1 := bt_lo xs 1
  have l2 := bt_lo xs 2
  have l3 := bt_lo xs 3
  have h0 := bt_hi xs 0
  have h1 := bt_hi xs 1
  have h2 := bt_hi xs 2
  have h3 := bt_hi xs 3
  have hnum : (num xs : Int) = bt xs 0 + 256 * (bt xs 1 + 256 * (bt xs 2 + 256 * bt xs 3)) := by
    unfold num bt
    omega
  rw [hnum]
  clear hnum
  generalize bt xs 0 = q0 at *
  generalize bt xs 1 = q1 at *
  generalize bt xs 2 = q2 at *
  generalize bt xs 3 = q3 at *
  have i0 : 0 < xs.length := by omega
  have i1 : (1 : Int) < xs.length := by omega
  have i2 : (2 : Int) < xs.length := by omega
  have i3 : (3 : Int) < xs.length := by omega
  go_enter Try.func28, Try.ntmps28
  go_wp2_with fail
  refine region_m [(0, false), (1, false), (2, false), (3, false), (4, false), (5, false), (6, false), (7, false), (8, false), (9, false), (10, false), (11, false), (12, false), (13, false), (14, false), (15, false), (16, false), (17, false), (18, false), (19, false), (20, false), (21, false)] 22
    (fun W => W.cell? ⟨b, o, none⟩ = some (.int .u8 q0) ∧ W.cell? ⟨b, o + 1, none⟩ = some (.int .u8 q1) ∧ W.cell? ⟨b, o + 2, none⟩ = some (.int .u8 q2) ∧ W.cell? ⟨b, o + 3, none⟩ = some (.int .u8 q3)) (by kernel_rfl) (by kernel_rfl) ⟨c0, c1, c2, c3⟩ ?_
  iterate 22
    refine m_take (v := ?_) rfl rfl ?_ ?_
    rotate_left
    · intro W hW
      go_simp
      with_reducible rfl
    simp only [Act.put, List.setIfInBounds_toArray, List.set_cons_zero, List.set_cons_succ]
  refine m_done ?_
  simp only [List.drop_succ_cons, List.drop_zero]
  go_wp2
  simp only [NP]
  go_wp2
  go_ret
  refine ⟨?_, (Below.refl _ _).drew⟩
  rw [← or4 q0 q1 q2 q3 l0 h0 l1 h1 l2 h2 l3 h3]
  rfl

/-- What Put hands back. -/
def PutOut (xs : List UInt8) (w w' : World) (r : Value) (c : Int) : Prop := if xs.length ≤ 65536 then Mine w' w.heap.size r (frameOf xs) ∧ c = 0 else r = .slice none 0 0 ∧ c = 2
theorem wrap_u32_id (n : Int) (h : 0 ≤ n) (h2 : n < 4294967296) : IntKind.u32.wrap n = n := by
  simp [IntKind.wrap, IntKind.bits, IntKind.signed]
  omega

set_option maxRecDepth 100000 in
theorem put_calls (v : Value) (xs : List UInt8) (w : World) (hv : Bytes w v xs) :
    Calls Try.prog 10 #[v] w fun e w' => ∃ r c, e = .returned (.tuple #[r, .int .i64 c]) ∧ PutOut xs w w' r c ∧ Below w.heap.size w w' := by
  have HV := Lib.hid hv
  obtain ⟨a, cap, rfl, hl, hcap, -⟩ := hv
  go_enter Try.func10, Try.ntmps10
  by_cases hbig : xs.length ≤ 65536
  · have hi : ¬ (65536 : Int) < xs.length := by omega
    have hw : IntKind.u32.wrap (xs.length : Int) = xs.length := wrap_u32_id _ (by omega) (by omega)
    go_wp2_with fail
    refine (four_calls xs.length (by omega) _).mono ?_
    rintro e w1 ⟨v1, rfl, hm1, hb1⟩
    have HM1 := Lib.hid hm1
    have HB1 := Lib.hid hb1
    clear hm1 hb1
    go_wp2_with fail
    refine (sum_calls _ (le4 xs.length) _ HM1.out.bytes).mono ?_
    rintro e w2 ⟨rfl, hb2⟩
    have HM2 := Lib.hid (HM1.out.below hb2 (Nat.le_refl _))
    have HB2 := Lib.hid (HB1.out.trans (hb2.mono HB1.out.size))
    clear hb2
    go_wp2_with fail
    refine (four_calls (CrcM.sum (le4 xs.length)).toNat (CrcM.sum (le4 xs.length)).isLt _).mono ?_
    rintro e w3 ⟨v3, rfl, hm3, hb3⟩
    have HM3 := Lib.hid (HM2.out.below hb3 (Nat.le_refl _))
    have HB3 := Lib.hid (HB2.out.trans (hb3.mono HB2.out.size))
    have HX3 := Lib.hid hm3
    clear hm3 hb3
    go_wp2_with (first
      | (at_builtin; have _t := HM3; refine app_mine HM3.out HX3.out.bytes HB3.out HB3.out.size (by simp [le4_length]) rfl rfl rfl rfl ?_; intro v4 w4 hm4 hb4; have HM4 := Lib.hid hm4; have HB4 := Lib.hid hb4; clear HM3 hm4 hb4)
      | (at_builtin; have _t := HM4; refine app_mine HM4.out (HV.out.below HB4.out (Nat.le_refl _)) HB4.out HB4.out.size (by simp [le4_length]; omega) rfl rfl rfl rfl ?_; intro v5 w5 hm5 hb5; have HM5 := Lib.hid hm5; have HB5 := Lib.hid hb5; clear HM4 hm5 hb5)
      | fail)
    refine (sum_calls _ xs _ (HV.out.below HB5.out (Nat.le_refl _))).mono ?_
    rintro e w6 ⟨rfl, hb6⟩
    have HM6 := Lib.hid (HM5.out.below hb6 (Nat.le_refl _))
    have HB6 := Lib.hid (HB5.out.trans (hb6.mono HB5.out.size))
    clear hb6
    go_wp2_with fail
    refine (four_calls (CrcM.sum xs).toNat (CrcM.sum xs).isLt _).mono ?_
    rintro e w7 ⟨v7, rfl, hm7, hb7⟩
    have HM7 := Lib.hid (HM6.out.below hb7 (Nat.le_refl _))
    have HB7 := Lib.hid (HB6.out.trans (hb7.mono HB6.out.size))
    have HX7 := Lib.hid hm7
    clear hm7 hb7
    go_wp2_with (at_builtin; have _t := HM7; refine app_mine HM7.out HX7.out.bytes HB7.out HB7.out.size (by simp [le4_length]; omega) rfl rfl rfl rfl ?_; intro v8 w8 hm8 hb8; have HM8 := Lib.hid hm8; have HB8 := Lib.hid hb8; clear HM7 hm8 hb8)
    go_ret2
    refine ⟨_, _, rfl, ?_, HB8.out⟩
    unfold PutOut
    rw [if_pos hbig]
    exact ⟨HM8.out, rfl⟩
  · have hi : (65536 : Int) < xs.length := by omega
    go_wp2_with fail
    go_ret2
    refine ⟨_, _, rfl, ?_, Below.refl _ _⟩
    unfold PutOut
    rw [if_neg hbig]
    exact ⟨rfl, rfl⟩

end Go.Proofs.Ytfmfmalhebfnhaa
