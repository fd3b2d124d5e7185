/- Layer 2, the document's Next walked. -/
import Derived.Test.YtfmfmalhebfnhaaFrame03
namespace Go.Proofs.Ytfmfmalhebfnhaa
open Go.RowKit CrcM FrM

set_option maxHeartbeats 1000000 in
set_option maxRecDepth 100000 in
theorem rnext_calls (v : Value) (xs : List UInt8) (at_ : Int) (w : World) (hv : Bytes w v xs) (ha : -9223372036854775808 ≤ at_ ∧ at_ ≤ 9223372036854775807) (hlen : xs.length ≤ 140737488351232) :
    Calls Try.prog 15 #[v, .int .i64 at_] w fun e w' => ∃ r n c, e = .returned (.tuple #[r, .int .i64 n, .int .i64 c]) ∧ NextOut xs at_ w w' r n c ∧ Below w.heap.size w w' := by
  have HV := Lib.hid hv
  obtain ⟨a, cap, rfl, hl, hcap, -⟩ := hv
  obtain ⟨ha1, ha2⟩ := ha
  go_enter Try.func15, Try.ntmps15
  by_cases hout : at_ < 0 ∨ (xs.length : Int) < at_
  · have hn : next xs at_ = ([], 0, 1) := by unfold next; rw [if_pos hout]
    have HN := Lib.hid hn
    clear hn
    rcases hout with h | h
    · go_wp2_with fail
      go_ret3
      exact ⟨_, _, _, rfl, by unfold NextOut; rw [HN.out]; exact ⟨Mine.nil _ _, rfl, rfl⟩, Below.refl _ _⟩
    · have h2 : ¬ at_ < 0 := by omega
      go_wp2_with fail
      go_ret3
      exact ⟨_, _, _, rfl, by unfold NextOut; rw [HN.out]; exact ⟨Mine.nil _ _, rfl, rfl⟩, Below.refl _ _⟩
  · have h1 : ¬ at_ < 0 := by omega
    have h2 : ¬ (xs.length : Int) < at_ := by omega
    clear hout
    obtain ⟨m, rfl⟩ := Int.eq_ofNat_of_zero_le (show 0 ≤ at_ by omega)
    have h3 : m ≤ xs.length := by omega
    have hn1 : next xs (m : Int) = (let b := xs.drop m
      if b.length < 8 then ([], 0, 5)
      else if (sum (b.take 4)).toNat ≠ num (b.drop 4) then ([], 0, 4)
      else if 65536 < num b then ([], 0, 2)
      else if b.length < 12 + num b then ([], 0, 5)
      else if (sum ((b.drop 8).take (num b))).toNat ≠ num (b.drop (8 + num b)) then ([], 0, 4)
      else ((b.drop 8).take (num b), (m : Int) + 12 + num b, 0)) := by
      unfold next; rw [if_neg (by omega)]; rfl
    have HN1 := Lib.hid hn1
    clear hn1
    have s1 : wrap64 ((xs.length : Int) - m) = xs.length - m := by unfold wrap64; omega
    by_cases h8 : (xs.length : Int) - m < 8
    · have hn : next xs (m : Int) = ([], 0, 5) := by rw [HN1.out]; simp only [List.length_drop]; rw [if_pos (by omega)]
      have HN := Lib.hid hn
      clear hn
      go_wp2_with fail
      go_ret3
      exact ⟨_, _, _, rfl, by unfold NextOut; rw [HN.out]; exact ⟨Mine.nil _ _, rfl, rfl⟩, Below.refl _ _⟩
    have hcm : ¬ cap = m := by omega
    have hy : ∃ b o, a = some ⟨b, o, none⟩ := by
      obtain ⟨a', cap', hv, -, -, h | ⟨b, o, h, -⟩⟩ := HV.out
      · simp only [Value.slice.injEq] at hv
        omega
      · simp only [Value.slice.injEq] at hv
        exact ⟨b, o, hv.1.trans h⟩
    obtain ⟨b, o, rfl⟩ := hy
    go_wp2_with fail
    have hL : (xs.drop m).length = xs.length - m := by simp
    have hd := HV.out.from m (xs.length - m) (cap - m) (by omega) (by omega) (by omega)
    have HD := Lib.hid hd
    clear hd
    obtain ⟨L, hLe⟩ : ∃ L, xs.length = m + L := ⟨xs.length - m, by omega⟩
    have hL2 : xs.length - m = L := by omega
    rw [hL2] at hL HD
    have HLe := Lib.hid hLe
    clear hLe
    have hc : m + L ≤ cap := by omega
    have hm4 : m + L ≤ 140737488351232 := by omega
    have h8L : 8 ≤ L := by omega
    generalize xs.drop m = ys at *
    obtain ⟨e4, he4⟩ : ∃ e4, e4 = m + 4 := ⟨_, rfl⟩
    obtain ⟨e8, he8⟩ : ∃ e8, e8 = m + 8 := ⟨_, rfl⟩
    have g1 : (m : Int) + 4 = e4 := by omega
    have g2 : (m : Int) + 8 = e8 := by omega
    have g10 : IntKind.i64.wrap (e4 : Int) = e4 := wrap_i64_id _ (by omega) (by omega)
    have g11 : IntKind.i64.wrap (e8 : Int) = e8 := wrap_i64_id _ (by omega) (by omega)
    have g12 : m ≤ e4 := by omega
    have g3 : (e4 : Int) ≤ cap := by omega
    have g4 : (e8 : Int) ≤ cap := by omega
    have g5 : (m : Int) ≤ e4 := by omega
    have g6 : (e4 : Int) ≤ e8 := by omega
    have g7 : ¬cap = e4 := by omega
    have g8 : e4 - m = 4 := by omega
    have g9 : e8 - e4 = 4 := by omega
    have HE4 := Lib.hid he4
    have HE8 := Lib.hid he8
    clear he4 he8
    refine region_m [(0, false), (1, false), (2, false), (3, false), (4, false), (7, false), (8, false), (9, false), (10, false), (11, false), (12, false), (5, true), (6, true), (13, true)] 14 (fun _ => True) (by kernel_rfl) (by kernel_rfl) trivial ?_
    iterate 11
      refine m_take (v := ?_) rfl rfl ?_ ?_
      rotate_left
      · intro W hW
        go_simp
        with_reducible rfl
      simp only [Act.put, List.setIfInBounds_toArray, List.set_cons_zero, List.set_cons_succ]
    refine m_loud rfl (fun K hK => ?_)
    have HK := Lib.hid hK
    clear hK
    go_simp
    refine (rext_calls 0#32 _ (ys.take 4) _ ((HD.out.part 4 (cap - m) (by omega) (by omega) (by omega)).below ((Below.refl _ _).drew) (Nat.le_refl _))).mono ?_
    rintro e w1 ⟨rfl, rfl⟩
    refine HK.out _ _ trivial ?_
    clear HK
    refine m_loud rfl (fun K hK => ?_)
    have HK := Lib.hid hK
    clear hK
    go_simp
    refine (rfour_calls (CrcM.sum (ys.take 4)).toNat (CrcM.sum (ys.take 4)).isLt _).mono ?_
    rintro e w2 ⟨v2, rfl, hm2, hb2⟩
    have HM2 := Lib.hid hm2
    have HB2 := Lib.hid (((Below.refl w.heap.size w).drew).trans hb2)
    clear hm2 hb2
    refine HK.out _ _ trivial ?_
    clear HK
    refine m_loud rfl (fun K hK => ?_)
    have HK := Lib.hid hK
    clear hK
    go_simp
    have hp4 := (HD.out.sub 4 4 (cap - e4) (by omega) (by omega) (by omega)).below HB2.out (Nat.le_refl _)
    rw [show o + m + 4 = o + e4 by have := HE4.out; omega] at hp4
    refine (same_calls _ _ _ _ _ HM2.out.bytes hp4).mono ?_
    clear hp4
    rintro e w3 ⟨he, rfl⟩
    by_cases hs : (sum (ys.take 4)).toNat = num (ys.drop 4)
    rotate_left
    · have hn : next xs (m : Int) = ([], 0, 4) := by rw [HN1.out]; rw [if_neg (by omega), if_pos hs]
      have HN := Lib.hid hn
      clear hn
      have hb : (le4 (sum (ys.take 4)).toNat == (ys.drop 4).take 4) = false := by
        rw [beq_eq_false_iff_ne]
        exact fun h => hs ((le4_iff _ _ (sum (ys.take 4)).isLt (by simp; omega)).1 h)
      rw [hb] at he
      subst he
      have HS := Lib.hid hs
      clear hs hb
      refine HK.out _ _ trivial ?_
      clear HK
      refine m_done ?_
      simp only [List.drop_succ_cons, List.drop_zero]
      go_wp2
      simp only [NP]
      go_wp2
      go_ret3
      exact ⟨_, _, _, rfl, by unfold NextOut; rw [HN.out]; exact ⟨Mine.nil _ _, rfl, rfl⟩, HB2.out⟩
    have hb : (le4 (sum (ys.take 4)).toNat == (ys.drop 4).take 4) = true := by
      rw [beq_iff_eq]
      exact (le4_iff _ _ (sum (ys.take 4)).isLt (by simp; omega)).2 hs
    rw [hb] at he
    subst he
    have HS := Lib.hid hs
    clear hs hb
    refine HK.out _ _ trivial ?_
    clear HK
    refine m_done ?_
    simp only [List.drop_succ_cons, List.drop_zero]
    go_wp2
    simp only [NP]
    go_wp2_with fail
    have hr := rnumber_calls _ (ys.take 4) _ ((HD.out.part 4 (cap - m) (by omega) (by omega) (by omega)).below HB2.out (Nat.le_refl _)) (by simp; omega)
    rw [num_take] at hr
    refine hr.mono ?_
    clear hr
    rintro e w4 ⟨rfl, hb4⟩
    have HB4 := Lib.hid (HB2.out.trans (hb4.mono HB2.out.size))
    clear hb4
    have hq := num_lt ys
    generalize hnq : num ys = q at *
    have HNQ := Lib.hid hnq
    clear hnq
    have s2 : wrap64 ((xs.length : Int) - m - 12) = xs.length - m - 12 := by unfold wrap64; omega
    have HLE := HLe.out
    by_cases hbig : 65536 < q
    · have hn : next xs (m : Int) = ([], 0, 2) := by rw [HN1.out]; rw [if_neg (by omega), if_neg (by have := HS.out; omega), if_pos hbig]
      have HN := Lib.hid hn
      clear hn HLE
      go_wp2_with fail
      go_ret3
      exact ⟨_, _, _, rfl, by unfold NextOut; rw [HN.out]; exact ⟨Mine.nil _ _, rfl, rfl⟩, HB4.out⟩
    by_cases hshort : (xs.length : Int) - m - 12 < q
    · have hn : next xs (m : Int) = ([], 0, 5) := by rw [HN1.out]; rw [if_neg (by omega), if_neg (by have := HS.out; omega), if_neg hbig, if_pos (by omega)]
      have HN := Lib.hid hn
      clear hn HLE
      go_wp2_with fail
      go_ret3
      exact ⟨_, _, _, rfl, by unfold NextOut; rw [HN.out]; exact ⟨Mine.nil _ _, rfl, rfl⟩, HB4.out⟩
    have hlq : 12 + q ≤ L := by omega
    obtain ⟨eQ, heQ⟩ : ∃ eQ, eQ = e8 + q := ⟨_, rfl⟩
    obtain ⟨e12, he12⟩ : ∃ e12, e12 = m + 12 := ⟨_, rfl⟩
    obtain ⟨eT, heT⟩ : ∃ eT, eT = e12 + q := ⟨_, rfl⟩
    have he8 := HE8.out
    have t1 : (e8 : Int) + q = eQ := by omega
    have t2 : (m : Int) + 12 = e12 := by omega
    have t3 : (e12 : Int) + q = eT := by omega
    have t4 : (eQ : Int) ≤ cap := by omega
    have t5 : (eT : Int) ≤ cap := by omega
    have t6 : (e8 : Int) ≤ eQ := by omega
    have t7 : ¬cap = e8 := by omega
    have t8 : eQ - e8 = q := by omega
    have t9 : (m : Int) ≤ eT := by omega
    have t10 : m ≤ eT := by omega
    have t11 : e8 ≤ eQ := by omega
    have t12 : IntKind.i64.wrap (eQ : Int) = eQ := wrap_i64_id _ (by omega) (by omega)
    have t13 : IntKind.i64.wrap (eT : Int) = eT := wrap_i64_id _ (by omega) (by omega)
    have t14 : IntKind.i64.wrap (e12 : Int) = e12 := wrap_i64_id _ (by omega) (by omega)
    have hpq := (HD.out.sub 8 q (cap - e8) (by omega) (by omega) (by omega)).below HB4.out (Nat.le_refl _)
    rw [show o + m + 8 = o + e8 by omega] at hpq
    have hpT := (HD.out.part (12 + q) (cap - m) (by omega) (by omega) (by omega)).below HB4.out (Nat.le_refl _)
    rw [show 12 + q = eT - m by omega] at hpT
    have hl8 : ((ys.drop 8).take q).length = q := by simp; omega
    have HPQ := Lib.hid hpq
    have HPT := Lib.hid hpT
    have HZ := Lib.hid (And.intro heQ (And.intro he12 heT))
    clear hpq hpT heQ he12 heT he8 HLE
    have ha := (Below.refl w4.heap.size w4).alloc (Nat.le_refl _) (.cells #[] 5)
    have HA := Lib.hid ha
    have hx := Mine.lit w4 w4.heap.size 0 #[] [] (Nat.le_refl _) (by omega) rfl rfl
    have HX := Lib.hid hx
    have hy := HPQ.out.below ha (Nat.le_refl _)
    have HY := Lib.hid hy
    clear ha hx hy
    go_wp2_with (at_builtin; refine app_mine HX.out HY.out HA.out HA.out.size (by simp; omega) rfl rfl rfl rfl ?_; intro v5 w5 hm5 hb5; have HM5 := Lib.hid (hm5.mono HB4.out.size); have HB5 := Lib.hid (HB4.out.trans (hb5.mono HB4.out.size)); have HPT5 := Lib.hid (HPT.out.below hb5 (Nat.le_refl _)); clear hm5 hb5)
    refine (rput_calls _ ((ys.drop 8).take q) _ HM5.out.bytes).mono ?_
    rintro e w6 ⟨r6, c6, rfl, hp6, hb6⟩
    unfold PutOut at hp6
    rw [if_pos (by omega)] at hp6
    obtain ⟨hm6, rfl⟩ := hp6
    have HM6 := Lib.hid hm6
    have HN6 := Lib.hid (HM5.out.below hb6 (Nat.le_refl _))
    have HB6 := Lib.hid (HB5.out.trans (hb6.mono HB5.out.size))
    have HPT6 := Lib.hid (HPT5.out.below hb6 (Nat.le_refl _))
    clear hm6 hb6
    go_wp2_with fail
    refine (same_calls _ _ _ _ _ HM6.out.bytes HPT6.out).mono ?_
    rintro e w7 ⟨he, rfl⟩
    have hT : eT - m = 12 + q := by have := HZ.out; omega
    have hfi := frame_iff ys (by have := HNQ.out; omega) HS.out
    rw [HNQ.out] at hfi
    rw [hT] at he
    by_cases hs : (sum ((ys.drop 8).take q)).toNat = num (ys.drop (8 + q))
    rotate_left
    · have hn : next xs (m : Int) = ([], 0, 4) := by rw [HN1.out]; rw [if_neg (by omega), if_neg (by have := HS.out; omega), if_neg hbig, if_neg (by omega), if_pos hs]
      have HN := Lib.hid hn
      clear hn
      have hb : (frameOf ((ys.drop 8).take q) == ys.take (12 + q)) = false := by
        rw [beq_eq_false_iff_ne]
        exact fun h => hs (hfi.1 h)
      rw [hb] at he
      subst he
      clear hs hb hfi hT
      go_wp2_with fail
      go_ret3
      exact ⟨_, _, _, rfl, by unfold NextOut; rw [HN.out]; exact ⟨Mine.nil _ _, rfl, rfl⟩, HB6.out⟩
    have hb : (frameOf ((ys.drop 8).take q) == ys.take (12 + q)) = true := by
      rw [beq_iff_eq]
      exact hfi.2 hs
    rw [hb] at he
    subst he
    have hn : next xs (m : Int) = ((ys.drop 8).take q, (m : Int) + 12 + q, 0) := by rw [HN1.out]; rw [if_neg (by omega), if_neg (by have := HS.out; omega), if_neg hbig, if_neg (by omega), if_neg (fun h => h hs)]
    have hz : (m : Int) + 12 + q = eT := by omega
    rw [hz] at hn
    have HN := Lib.hid hn
    clear hn hs hb hfi hT hz
    go_wp2_with fail
    go_ret3
    exact ⟨_, _, _, rfl, by unfold NextOut; rw [HN.out]; exact ⟨HN6.out, rfl, rfl⟩, HB6.out⟩
end Go.Proofs.Ytfmfmalhebfnhaa
