/- Layer 2: Next walked. -/
import Derived.Test.YtfmfmalhebfnhaaFrame01
namespace Go.Proofs.Ytfmfmalhebfnhaa
open Go.RowKit CrcM FrM

theorem wrap_i64_id (n : Int) (h : -9223372036854775808 ≤ n) (h2 : n ≤ 9223372036854775807) : IntKind.i64.wrap n = n := by
  simp [IntKind.wrap, IntKind.bits, IntKind.signed]
  omega
/-- What Next hands back. -/
def NextOut (xs : List UInt8) (at_ : Int) (w w' : World) (r : Value) (n c : Int) : Prop := Mine w' w.heap.size r (next xs at_).1 ∧ n = (next xs at_).2.1 ∧ c = (next xs at_).2.2

set_option maxHeartbeats 1000000 in
set_option maxRecDepth 100000 in
theorem next_calls (v : Value) (xs : List UInt8) (at_ : Int) (w : World) (hv : Bytes w v xs) (ha : -9223372036854775808 ≤ at_ ∧ at_ ≤ 9223372036854775807) (hlen : xs.length ≤ 140737488351232) :
    Calls Try.prog 14 #[v, .int .i64 at_] w fun e w' => ∃ r n c, e = .returned (.tuple #[r, .int .i64 n, .int .i64 c]) ∧ NextOut xs at_ w w' r n c ∧ Below w.heap.size w w' := by
  have HV := Lib.hid hv
  obtain ⟨a, cap, rfl, hl, hcap, -⟩ := hv
  obtain ⟨ha1, ha2⟩ := ha
  go_enter Try.func14, Try.ntmps14
  by_cases hout : at_ < 0 ∨ (xs.length : Int) < at_
  · have hn : next xs at_ = ([], 0, 1) := by unfold next; rw [if_pos hout]
    have HN := Lib.hid hn
    clear hn
    rcases hout with h | h
    · go_wp2_with fail
      go_ret3
      exact ⟨_, _, _, rfl, by unfold NextOut; rw [HN.out]; exact ⟨Mine.nil _ _, rfl, rfl⟩, Below.refl _ _⟩
    · have h2 : ¬ at_ < 0 := by omega
      go_wp2_with fail
      go_ret3
      exact ⟨_, _, _, rfl, by unfold NextOut; rw [HN.out]; exact ⟨Mine.nil _ _, rfl, rfl⟩, Below.refl _ _⟩
  · have h1 : ¬ at_ < 0 := by omega
    have h2 : ¬ (xs.length : Int) < at_ := by omega
    clear hout
    obtain ⟨m, rfl⟩ := Int.eq_ofNat_of_zero_le (show 0 ≤ at_ by omega)
    have h3 : m ≤ xs.length := by omega
    have hn1 : next xs (m : Int) = (let b := xs.drop m
      if b.length < 8 then ([], 0, 5)
      else if (sum (b.take 4)).toNat ≠ num (b.drop 4) then ([], 0, 4)
      else if 65536 < num b then ([], 0, 2)
      else if b.length < 12 + num b then ([], 0, 5)
      else if (sum ((b.drop 8).take (num b))).toNat ≠ num (b.drop (8 + num b)) then ([], 0, 4)
      else ((b.drop 8).take (num b), (m : Int) + 12 + num b, 0)) := by
      unfold next; rw [if_neg (by omega)]; rfl
    have HN1 := Lib.hid hn1
    clear hn1
    by_cases h8 : xs.length - m < 8
    · have hn : next xs (m : Int) = ([], 0, 5) := by rw [HN1.out]; simp only [List.length_drop]; rw [if_pos h8]
      have HN := Lib.hid hn
      clear hn
      by_cases hcm : cap = m
      · go_wp2_with fail
        go_ret3
        exact ⟨_, _, _, rfl, by unfold NextOut; rw [HN.out]; exact ⟨Mine.nil _ _, rfl, rfl⟩, Below.refl _ _⟩
      · go_wp2_with fail
        go_ret3
        exact ⟨_, _, _, rfl, by unfold NextOut; rw [HN.out]; exact ⟨Mine.nil _ _, rfl, rfl⟩, Below.refl _ _⟩
    have hcm : ¬ cap = m := by omega
    have hy : ∃ b o, a = some ⟨b, o, none⟩ := by
      obtain ⟨a', cap', hv, -, -, h | ⟨b, o, h, -⟩⟩ := HV.out
      · simp only [Value.slice.injEq] at hv
        omega
      · simp only [Value.slice.injEq] at hv
        exact ⟨b, o, hv.1.trans h⟩
    obtain ⟨b, o, rfl⟩ := hy
    go_wp2_with fail
    have hL : (xs.drop m).length = xs.length - m := by simp
    have hd := HV.out.from m (xs.length - m) (cap - m) (by omega) (by omega) (by omega)
    have HD := Lib.hid hd
    clear hd
    have hC : xs.length - m ≤ cap - m := by omega
    have hC2 : cap - m ≤ 9223372036854775807 := by omega
    have hm4 : m + (xs.length - m) ≤ 140737488351232 := by omega
    generalize xs.drop m = ys at *
    generalize xs.length - m = L at *
    generalize cap - m = C at *
    have h4 : (4 : Int) ≤ L := by omega
    have h4c : ¬C = 4 := by omega
    have h4C : (4 : Int) ≤ C := by omega
    refine region_m [(0, false), (1, false), (3, false), (4, false), (2, true), (5, true)] 6 (fun _ => True) (by kernel_rfl) (by kernel_rfl) trivial ?_
    iterate 4
      refine m_take (v := ?_) rfl rfl ?_ ?_
      rotate_left
      · intro W hW
        go_simp
        with_reducible rfl
      simp only [Act.put, List.setIfInBounds_toArray, List.set_cons_zero, List.set_cons_succ]
    refine m_loud rfl (fun K hK => ?_)
    have HK := Lib.hid hK
    clear hK
    go_simp
    refine (sum_calls _ (ys.take 4) _ ((HD.out.part 4 C (by omega) (by omega) hC2).below ((Below.refl _ _).drew) (Nat.le_refl _))).mono ?_
    rintro e w1 ⟨rfl, hb1⟩
    have HB1 := Lib.hid (((Below.refl w.heap.size w).drew).trans hb1)
    clear hb1
    refine HK.out _ _ trivial ?_
    clear HK
    refine m_loud rfl (fun K hK => ?_)
    have HK := Lib.hid hK
    clear hK
    go_simp
    refine (number_calls _ (ys.drop 4) _ ((HD.out.from 4 (L - 4) (C - 4) (by omega) (by omega) (by omega)).below HB1.out (Nat.le_refl _)) (by simp; omega)).mono ?_
    rintro e w2 ⟨rfl, hb2⟩
    have HB2 := Lib.hid (HB1.out.trans (hb2.mono HB1.out.size))
    clear hb2
    refine HK.out _ _ trivial ?_
    clear HK
    refine m_done ?_
    simp only [List.drop_succ_cons, List.drop_zero]
    by_cases hs : (sum (ys.take 4)).toNat = num (ys.drop 4)
    rotate_left
    · have hn : next xs (m : Int) = ([], 0, 4) := by rw [HN1.out]; rw [if_neg (by omega), if_pos hs]
      have HN := Lib.hid hn
      clear hn
      have hs2 : (((sum (ys.take 4)).toNat : Int) != (num (ys.drop 4) : Int)) = true := bne_iff_ne.2 (by omega)
      have HS := Lib.hid hs
      clear hs
      go_wp2
      simp only [NP]
      go_wp2
      go_ret3
      exact ⟨_, _, _, rfl, by unfold NextOut; rw [HN.out]; exact ⟨Mine.nil _ _, rfl, rfl⟩, HB2.out⟩
    have hs2 : (((sum (ys.take 4)).toNat : Int) != (num (ys.drop 4) : Int)) = false := bne_eq_false_iff_eq.2 (by omega)
    have HS := Lib.hid hs
    clear hs
    go_wp2
    simp only [NP]
    go_wp2_with fail
    refine (number_calls _ ys _ (HD.out.below HB2.out (Nat.le_refl _)) (by omega)).mono ?_
    rintro e w3 ⟨rfl, hb3⟩
    have HB3 := Lib.hid (HB2.out.trans (hb3.mono HB2.out.size))
    clear hb3
    have hq := num_lt ys
    clear hs2
    generalize num ys = q at *
    have hwq : wrap64 (q : Int) = q := by unfold wrap64; omega
    by_cases hbig : 65536 < q
    · have hn : next xs (m : Int) = ([], 0, 2) := by rw [HN1.out]; rw [if_neg (by omega), if_neg (by have := HS.out; omega), if_pos hbig]
      have HN := Lib.hid hn
      clear hn
      go_wp2_with fail
      go_ret3
      exact ⟨_, _, _, rfl, by unfold NextOut; rw [HN.out]; exact ⟨Mine.nil _ _, rfl, rfl⟩, HB3.out⟩
    by_cases hshort : L < 12 + q
    · have hn : next xs (m : Int) = ([], 0, 5) := by rw [HN1.out]; rw [if_neg (by omega), if_neg (by have := HS.out; omega), if_neg hbig, if_pos (by omega)]
      have HN := Lib.hid hn
      clear hn
      go_wp2_with fail
      go_ret3
      exact ⟨_, _, _, rfl, by unfold NextOut; rw [HN.out]; exact ⟨Mine.nil _ _, rfl, rfl⟩, HB3.out⟩
    go_wp2_with fail
    obtain ⟨e8, he8⟩ : ∃ e8, e8 = 8 + q := ⟨_, rfl⟩
    have g1 : (e8 : Int) ≤ C := by omega
    have g2 : ¬C = 8 := by omega
    have g3 : ¬C = e8 := by omega
    have g4 : (e8 : Int) ≤ L := by omega
    have g5 : (8 : Int) ≤ e8 := by omega
    have g6 : IntKind.i64.wrap (8 + (q : Int)) = e8 := by rw [wrap_i64_id _ (by omega) (by omega), he8]; omega
    have HE := Lib.hid he8
    have hq8 : e8 - 8 = q := by omega
    clear he8
    refine region_m [(0, false), (1, false), (2, false), (3, false), (5, false), (6, false), (7, false), (8, false), (4, true), (9, true)] 10 (fun _ => True) (by kernel_rfl) (by kernel_rfl) trivial ?_
    iterate 8
      refine m_take (v := ?_) rfl rfl ?_ ?_
      rotate_left
      · intro W hW
        go_simp
        with_reducible rfl
      simp only [Act.put, List.setIfInBounds_toArray, List.set_cons_zero, List.set_cons_succ]
    refine m_loud rfl (fun K hK => ?_)
    have HK := Lib.hid hK
    clear hK
    go_simp
    refine (sum_calls _ ((ys.drop 8).take q) _ ((HD.out.sub 8 q (C - 8) (by omega) (by omega) (by omega)).below (HB3.out.drew) (Nat.le_refl _))).mono ?_
    rintro e w4 ⟨rfl, hb4⟩
    have HB4 := Lib.hid ((HB3.out.drew).trans (hb4.mono (HB3.out.drew).size))
    clear hb4
    refine HK.out _ _ trivial ?_
    clear HK
    refine m_loud rfl (fun K hK => ?_)
    have HK := Lib.hid hK
    clear hK
    go_simp
    refine (number_calls _ (ys.drop e8) _ ((HD.out.from e8 (L - e8) (C - e8) (by omega) (by omega) (by omega)).below HB4.out (Nat.le_refl _)) (by have := HE.out; simp; omega)).mono ?_
    rintro e w5 ⟨rfl, hb5⟩
    have HB5 := Lib.hid (HB4.out.trans (hb5.mono HB4.out.size))
    clear hb5
    refine HK.out _ _ trivial ?_
    clear HK
    refine m_done ?_
    simp only [List.drop_succ_cons, List.drop_zero]
    by_cases hs : (sum ((ys.drop 8).take q)).toNat = num (ys.drop e8)
    rotate_left
    · have hn : next xs (m : Int) = ([], 0, 4) := by rw [HN1.out]; rw [if_neg (by omega), if_neg (by have := HS.out; omega), if_neg hbig, if_neg (by omega), if_pos (by have := HE.out; subst this; exact hs)]
      have HN := Lib.hid hn
      clear hn
      have hs2 : (((sum ((ys.drop 8).take q)).toNat : Int) != (num (ys.drop e8) : Int)) = true := bne_iff_ne.2 (by omega)
      have HS := Lib.hid hs
      clear hs
      go_wp2
      simp only [NP]
      go_wp2
      go_ret3
      exact ⟨_, _, _, rfl, by unfold NextOut; rw [HN.out]; exact ⟨Mine.nil _ _, rfl, rfl⟩, HB5.out⟩
    have hs2 : (((sum ((ys.drop 8).take q)).toNat : Int) != (num (ys.drop e8) : Int)) = false := bne_eq_false_iff_eq.2 (by omega)
    have hn : next xs (m : Int) = ((ys.drop 8).take q, (m : Int) + 12 + q, 0) := by rw [HN1.out]; rw [if_neg (by omega), if_neg (by have := HS.out; omega), if_neg hbig, if_neg (by omega), if_neg (by have := HE.out; subst this; exact fun h => h hs)]
    have HN := Lib.hid hn
    clear hn
    have HS2 := Lib.hid hs
    clear hs
    have hb := (HD.out.sub 8 q (C - 8) (by omega) (by omega) (by omega)).below HB5.out (Nat.le_refl _)
    have HSB := Lib.hid hb
    clear hb
    go_wp2
    simp only [NP]
    have hlq : ((ys.drop 8).take q).length = q := by simp; omega
    go_wp2_with (at_builtin; refine app_mine (Mine.nil _ w.heap.size) HSB.out HB5.out HB5.out.size (by simp; omega) rfl rfl rfl rfl ?_; intro v6 w6 hm6 hb6; have HM6 := Lib.hid hm6; have HB6 := Lib.hid hb6; clear hm6 hb6)
    go_ret3
    exact ⟨_, _, _, rfl, by unfold NextOut; rw [HN.out]; exact ⟨HM6.out, rfl, rfl⟩, HB6.out⟩
end Go.Proofs.Ytfmfmalhebfnhaa
