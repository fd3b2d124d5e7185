/- Layer 2, the document's: four, number, Put walked. -/
import Derived.Test.YtfmfmalhebfnhaaFrame02
namespace Go.Proofs.Ytfmfmalhebfnhaa
open Go.RowKit CrcM FrM

/-- The lowest j bytes of a number. -/
def leN : Nat → Nat → List UInt8
  | 0, _ => []
  | j + 1, m => UInt8.ofNat m :: leN j (m / 256)
theorem leN_four (n : Nat) : leN 4 n = le4 n := by simp [leN, le4, Nat.div_div_eq_div_mul]

theorem rfour_calls (n : Nat) (hn : n < 4294967296) (w : World) :
    Calls Try.prog 26 #[.int .u32 n] w fun e w' => ∃ v, e = .returned v ∧ Mine w' w.heap.size v (le4 n) ∧ Below w.heap.size w w' := by
  go_enter Try.func26, Try.ntmps26
  go_wp2_with fail
  go_loopw [0, 3, 4] (fun m b i wr => ∃ (k q : Nat) (ys : List UInt8), k ≤ 4 ∧ i = .int .i64 k ∧ m = .int .u32 q ∧ q < 4294967296 ∧ ys.length = k ∧ ys ++ leN (4 - k) q = le4 n ∧ Mine wr w.heap.size b ys ∧ Below w.heap.size w wr) (fun _ _ i _ => 4 - (intOf i).toNat)
  case atStart => exact ⟨0, n, [], by omega, rfl, rfl, hn, rfl, by simpa using leN_four n, Mine.nil _ _, Below.refl _ _⟩
  case round =>
    obtain ⟨k, q, ys, hk, rfl, rfl, hq, hl, he, hm, hb⟩ := hrel
    have HM := Lib.hid hm
    have HB := Lib.hid hb
    have HE := Lib.hid he
    clear hm hb he
    by_cases hlt : k < 4
    · have hx := Mine.lit wr wr.heap.size 1 #[.int .u8 ((q : Int) % 256)] [UInt8.ofNat q] (Nat.le_refl _) (by omega) rfl (by simp [bvs, byteV])
      have HX := Lib.hid hx
      clear hx
      have ha := HB.out.alloc HB.out.size (.cells #[.int .u8 ((q : Int) % 256)] 5)
      have HA := Lib.hid ha
      clear ha
      have hm2 := HM.out.below ((Below.refl wr.heap.size wr).alloc (Nat.le_refl _) (.cells #[.int .u8 ((q : Int) % 256)] 5)) (Nat.le_refl _)
      have HM2 := Lib.hid hm2
      clear hm2
      go_wp2_with (at_builtin; refine app_mine HM2.out HX.out.bytes HA.out HA.out.size (by simp; omega) rfl rfl rfl rfl ?_; intro v6 w6 hm6 hb6; have HM6 := Lib.hid hm6; have HB6 := Lib.hid hb6; clear hm6 hb6)
      go_roundw
      case rel =>
        refine ⟨k + 1, q / 256, ys ++ [UInt8.ofNat q], by omega, by go_num, by go_num, by omega, by simp [hl], ?_, HM6.out, HB6.out⟩
        rw [← HE.out, show 4 - k = (4 - (k + 1)) + 1 by omega]
        simp [leN]
      case measure => simp [intOf]; omega
    · obtain rfl : k = 4 := by omega
      go_wp2_with fail
      go_ret
      refine ⟨_, rfl, ?_, HB.out⟩
      have := HE.out
      simp only [Nat.sub_self, leN, List.append_nil] at this
      rw [← this]
      exact HM.out

set_option maxRecDepth 100000 in
theorem rnumber_calls (v : Value) (xs : List UInt8) (w : World) (hv : Bytes w v xs) (hl : 4 ≤ xs.length) :
    Calls Try.prog 29 #[v] w fun e w' => e = .returned (.int .i64 (num xs)) ∧ Below w.heap.size w w' := by
  obtain ⟨a, cap, rfl, hlc, hcap, hc⟩ := hv
  rcases hc with rfl | ⟨b, o, rfl, hc⟩
  · omega
  have c0 := hc 0 (by omega)
  have c1 := hc 1 (by omega)
  have c2 := hc 2 (by omega)
  have c3 := hc 3 (by omega)
  clear hc
  have l0 := bt_lo xs 0
  have l1 := bt_lo xs 1
  have l2 := bt_lo xs 2
  have l3 := bt_lo xs 3
  have h0 := bt_hi xs 0
  have h1 := bt_hi xs 1
  have h2 := bt_hi xs 2
  have h3 := bt_hi xs 3
  have hnum : (num xs : Int) = bt xs 0 + 256 * (bt xs 1 + 256 * (bt xs 2 + 256 * bt xs 3)) := by
    unfold num bt
    omega
  rw [hnum]
  clear hnum
  generalize bt xs 0 = q0 at *
  generalize bt xs 1 = q1 at *
  generalize bt xs 2 = q2 at *
  generalize bt xs 3 = q3 at *
  have i0 : 0 < xs.length := by omega
  have i1 : (1 : Int) < xs.length := by omega
  have i2 : (2 : Int) < xs.length := by omega
  have i3 : (3 : Int) < xs.length := by omega
  have v0 : IntKind.i64.wrap q0 = q0 := wrap_i64_id _ (by omega) (by omega)
  have v1 : IntKind.i64.wrap q1 = q1 := wrap_i64_id _ (by omega) (by omega)
  have v2 : IntKind.i64.wrap q2 = q2 := wrap_i64_id _ (by omega) (by omega)
  have v3 : IntKind.i64.wrap q3 = q3 := wrap_i64_id _ (by omega) (by omega)
  have v4 : IntKind.i64.wrap (256 * q3) = 256 * q3 := wrap_i64_id _ (by omega) (by omega)
  have v5 : IntKind.i64.wrap (q2 + 256 * q3) = q2 + 256 * q3 := wrap_i64_id _ (by omega) (by omega)
  have v6 : IntKind.i64.wrap (256 * (q2 + 256 * q3)) = 256 * (q2 + 256 * q3) := wrap_i64_id _ (by omega) (by omega)
  have v7 : IntKind.i64.wrap (q1 + 256 * (q2 + 256 * q3)) = q1 + 256 * (q2 + 256 * q3) := wrap_i64_id _ (by omega) (by omega)
  have v8 : IntKind.i64.wrap (256 * (q1 + 256 * (q2 + 256 * q3))) = 256 * (q1 + 256 * (q2 + 256 * q3)) := wrap_i64_id _ (by omega) (by omega)
  have v9 : IntKind.i64.wrap (q0 + 256 * (q1 + 256 * (q2 + 256 * q3))) = q0 + 256 * (q1 + 256 * (q2 + 256 * q3)) := wrap_i64_id _ (by omega) (by omega)
  go_enter Try.func29, Try.ntmps29
  go_wp2_with fail
  refine region_m [(0, false), (1, false), (2, false), (3, false), (4, false), (5, false), (6, false), (7, false), (8, false), (9, false), (10, false), (11, false), (12, false), (13, false), (14, false), (15, false), (16, false), (17, false), (18, false), (19, false), (20, false), (21, false)] 22
    (fun W => W.cell? ⟨b, o, none⟩ = some (.int .u8 q0) ∧ W.cell? ⟨b, o + 1, none⟩ = some (.int .u8 q1) ∧ W.cell? ⟨b, o + 2, none⟩ = some (.int .u8 q2) ∧ W.cell? ⟨b, o + 3, none⟩ = some (.int .u8 q3)) (by kernel_rfl) (by kernel_rfl) ⟨c0, c1, c2, c3⟩ ?_
  iterate 22
    refine m_take (v := ?_) rfl rfl ?_ ?_
    rotate_left
    · intro W hW
      go_simp
      with_reducible rfl
    simp only [Act.put, List.setIfInBounds_toArray, List.set_cons_zero, List.set_cons_succ]
  refine m_done ?_
  simp only [List.drop_succ_cons, List.drop_zero]
  go_wp2
  simp only [NP]
  go_wp2
  go_ret
  exact ⟨rfl, (Below.refl _ _).drew⟩

set_option maxRecDepth 100000 in
theorem rput_calls (v : Value) (xs : List UInt8) (w : World) (hv : Bytes w v xs) :
    Calls Try.prog 11 #[v] w fun e w' => ∃ r c, e = .returned (.tuple #[r, .int .i64 c]) ∧ PutOut xs w w' r c ∧ Below w.heap.size w w' := by
  have HV := Lib.hid hv
  obtain ⟨a, cap, rfl, hl, hcap, -⟩ := hv
  go_enter Try.func11, Try.ntmps11
  by_cases hbig : xs.length ≤ 65536
  · have hi : ¬ (65536 : Int) < xs.length := by omega
    have hw : IntKind.u32.wrap (xs.length : Int) = xs.length := wrap_u32_id _ (by omega) (by omega)
    go_wp2_with fail
    refine (rfour_calls xs.length (by omega) _).mono ?_
    rintro e w1 ⟨v1, rfl, hm1, hb1⟩
    have HM1 := Lib.hid hm1
    have HB1 := Lib.hid hb1
    clear hm1 hb1
    have ha := (Below.refl w1.heap.size w1).alloc (Nat.le_refl _) (.cells #[] 5)
    have HA := Lib.hid ha
    have hx := Mine.lit w1 w1.heap.size 0 #[] [] (Nat.le_refl _) (by omega) rfl rfl
    have HX := Lib.hid hx
    have hm1 := HM1.out.below ha (Nat.le_refl _)
    have HY1 := Lib.hid hm1
    clear ha hx hm1
    go_wp2_with (at_builtin; refine app_mine HX.out HY1.out.bytes HA.out HA.out.size (by simp [le4_length]) rfl rfl rfl rfl ?_; intro v2 w2 hm2 hb2; have HM2 := Lib.hid (hm2.mono HB1.out.size); have HB2 := Lib.hid (HB1.out.trans (hb2.mono HB1.out.size)); have HY2 := Lib.hid (HM1.out.bytes.below hb2 (Nat.le_refl _)); clear hm2 hb2)
    refine (rext_calls 0#32 _ (le4 xs.length) _ HY2.out).mono ?_
    rintro e w3 ⟨rfl, rfl⟩
    go_wp2_with fail
    refine (rfour_calls (CrcM.sum (le4 xs.length)).toNat (CrcM.sum (le4 xs.length)).isLt _).mono ?_
    rintro e w4 ⟨v4, rfl, hm4, hb4⟩
    have HM4 := Lib.hid (HM2.out.below hb4 (Nat.le_refl _))
    have HB4 := Lib.hid (HB2.out.trans (hb4.mono HB2.out.size))
    have HX4 := Lib.hid hm4
    clear hm4 hb4
    go_wp2_with (first
      | (at_builtin; have _t := HM4; refine app_mine HM4.out HX4.out.bytes HB4.out HB4.out.size (by simp [le4_length]) rfl rfl rfl rfl ?_; intro v5 w5 hm5 hb5; have HM5 := Lib.hid hm5; have HB5 := Lib.hid hb5; clear HM4 hm5 hb5)
      | (at_builtin; have _t := HM5; refine app_mine HM5.out (HV.out.below HB5.out (Nat.le_refl _)) HB5.out HB5.out.size (by simp [le4_length]; omega) rfl rfl rfl rfl ?_; intro v6 w6 hm6 hb6; have HM6 := Lib.hid hm6; have HB6 := Lib.hid hb6; clear HM5 hm6 hb6)
      | fail)
    refine (rext_calls 0#32 _ xs _ (HV.out.below HB6.out (Nat.le_refl _))).mono ?_
    rintro e w7 ⟨rfl, rfl⟩
    go_wp2_with fail
    refine (rfour_calls (CrcM.sum xs).toNat (CrcM.sum xs).isLt _).mono ?_
    rintro e w8 ⟨v8, rfl, hm8, hb8⟩
    have HM8 := Lib.hid (HM6.out.below hb8 (Nat.le_refl _))
    have HB8 := Lib.hid (HB6.out.trans (hb8.mono HB6.out.size))
    have HX8 := Lib.hid hm8
    clear hm8 hb8
    go_wp2_with (at_builtin; have _t := HM8; refine app_mine HM8.out HX8.out.bytes HB8.out HB8.out.size (by simp [le4_length]; omega) rfl rfl rfl rfl ?_; intro v9 w9 hm9 hb9; have HM9 := Lib.hid hm9; have HB9 := Lib.hid hb9; clear HM8 hm9 hb9)
    go_ret2
    refine ⟨_, _, rfl, ?_, HB9.out⟩
    unfold PutOut
    rw [if_pos hbig]
    exact ⟨HM9.out, rfl⟩
  · have hi : (65536 : Int) < xs.length := by omega
    go_wp2_with fail
    go_ret2
    refine ⟨_, _, rfl, ?_, Below.refl _ _⟩
    unfold PutOut
    rw [if_neg hbig]
    exact ⟨rfl, rfl⟩
end Go.Proofs.Ytfmfmalhebfnhaa
