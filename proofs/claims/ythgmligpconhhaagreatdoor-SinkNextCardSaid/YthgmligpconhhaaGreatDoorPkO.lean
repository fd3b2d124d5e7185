/- Walks and plain laws of the chapter, laid together; each part says what it proves. -/
import Derived.Test.YthgmligpconhhaaGreatDoorPkA
import Derived.Test.YthgmligpconhhaaGreatDoorPkN
/- Layer 24: SinkNext: the plain law, and the walk. -/
namespace Go.Proofs.YthgmligpconhhaaGreatDoor
open Go.RowKit Go.Shelf
set_option linter.unusedVariables false
set_option linter.unusedSimpArgs false
set_option maxRecDepth 100000

theorem prM_eps (M : SM) (g n : Int) (out : List Pr) : (prM M g n out).eps = M.eps := by
  unfold prM; split <;> (try rfl) <;> exact (hdM_same M g n).1
theorem prM_gen (M : SM) (g n : Int) (out : List Pr) : (prM M g n out).gen = (hdM M g n).gen := by
  unfold prM; split <;> rfl
theorem cmM_gen (M : SM) (g n : Int) : (cmM M g n).gen = (hdM M g n).gen := by
  unfold cmM; split <;> rfl
theorem hdM_gen (M : SM) (g n : Int) : (hdM M g n).gen = if 0 ≤ g ∧ 0 ≤ n ∧ M.gen < g then g else M.gen := by
  unfold hdM; split <;> rfl
theorem next_law (M : SM) (g n : Int) (out : List Pr) : ((prM M g n out).eps.length = M.eps.length) ∧ (prE M g n out = 0 → n = M.eps.length ∧ ¬ g < M.gen ∧ cmE (prM M g n out) g n = 0 ∧ (cmM (prM M g n out) g n).eps.length = M.eps.length + 1) ∧
    (prE M g n out ≠ 0 → (M.eps.length : Int) < n → cmE (prM M g n out) g n ≠ 0) ∧ (n ≠ M.eps.length → (cmM (prM M g n out) g n).eps.length = M.eps.length) ∧ (0 ≤ g → g < M.gen → 0 ≤ n → prE M g n out = 15 ∧ cmE (prM M g n out) g n = 15) := by
  have he := prM_eps M g n out
  have hg := prM_gen M g n out
  rw [hdM_gen] at hg
  have hs := (hdM_same (prM M g n out) g n).1
  refine ⟨by rw [he], fun h => ?_, fun h hn => ?_, fun hn => ?_, fun h1 h2 h3 => ?_⟩
  · unfold prE at h
    split at h
    · omega
    · rename_i h0
      have h0 : hdE M g n = 0 := by simpa using h0
      split at h
      · omega
      · rename_i hl
        have hl : out.any longK = false := by simpa using hl
        split at h
        · omega
        · rename_i hlen
          split at h
          · omega
          · rename_i hne
            have hne : n = M.eps.length := by simpa using hne
            have hx : prM M g n out = { hdM M g n with gath := [], pairs := out, prep := true } := by unfold prM; rw [if_pos ⟨h0, hl, by omega, hne⟩]
            have hgn : ¬ g < M.gen := fun hlt => by
              unfold hdE at h0
              split at h0
              · omega
              · first | omega | (rw [if_pos hlt] at h0; omega)
            have h00 : 0 ≤ g ∧ 0 ≤ n := by
              unfold hdE at h0
              split at h0
              · omega
              · omega
            have hg2 : ¬ g < (prM M g n out).gen := by rw [hg]; split <;> omega
            have hz : hdE (prM M g n out) g n = 0 := by unfold hdE; rw [if_neg (by omega), if_neg hg2]
            have hp : (prM M g n out).prep = true := by rw [hx]
            refine ⟨hne, hgn, ?_, ?_⟩
            · unfold cmE
              rw [if_neg (by rw [hz]; simp), he, if_neg (by omega), if_neg (by rw [hp]; simp; exact hne)]
            · unfold cmM
              rw [he, if_pos ⟨hz, hne, hp⟩]
              simp
  · unfold cmE
    split
    · rename_i hx; exact hx
    · rw [he, if_neg (by omega), if_pos (.inl (by omega))]
      omega
  · unfold cmM
    rw [he, if_neg (fun h => hn h.2.1), hs, he]
  · have h0 : hdE M g n = 15 := by unfold hdE; rw [if_neg (by omega), if_pos h2]
    have hg2 : g < (prM M g n out).gen := by rw [hg]; split <;> omega
    have hz : hdE (prM M g n out) g n = 15 := by unfold hdE; rw [if_neg (by omega), if_pos hg2]
    exact ⟨by unfold prE; rw [if_pos (by rw [h0]; simp), h0], by unfold cmE; rw [if_pos (by rw [hz]; simp), hz]⟩
def I64 (n : Int) : Prop := -9223372036854775808 ≤ n ∧ n ≤ 9223372036854775807
theorem next_gen {M : SM} {g n : Int} (out : List Pr) (h : I64 M.gen) (hg : I64 g) : I64 (cmM (prM M g n out) g n).gen := by
  rw [cmM_gen, hdM_gen, prM_gen, hdM_gen]
  by_cases c : 0 ≤ g ∧ 0 ≤ n ∧ M.gen < g
  · rw [if_pos c]
    split <;> exact hg
  · rw [if_neg c]
    split
    · exact hg
    · exact h
theorem ri_at {w : World} {a : Option Addr} {n cap : Nat} {ns : List Int} (h : Rd w 1 (.slice a n cap) ns.length (ns.map (Value.int .i64))) (i : Nat) (hi : i < ns.length) :
    ∃ b o, a = some ⟨b, o, none⟩ ∧ w.cell? ⟨b, o + i, none⟩ = some (.int .i64 ns[i]) := by
  obtain ⟨a', cap', hv, h0, h1, h2, h3⟩ := h
  simp only [Value.slice.injEq] at hv
  obtain ⟨rfl, rfl, rfl⟩ := hv
  rcases h3 with h3 | ⟨b, o, rfl, hc⟩
  · omega
  · exact ⟨b, o, rfl, hc _ _ (by rw [List.getElem?_map, List.getElem?_eq_getElem hi]; rfl)⟩
theorem Rd.head_lt {w : World} {b o n c : Nat} {es : List Pr} (h : Rd w 2 (.slice (some ⟨b, o, none⟩) n c) es.length (flatF Pr.cells es)) (hn : 0 < es.length) : b < w.heap.size := by
  obtain ⟨b', o', hb, h0, -⟩ := pr_at h 0 hn
  simp only [Option.some.injEq, Addr.mk.injEq, and_true] at hb
  obtain ⟨rfl, rfl⟩ := hb
  obtain ⟨ob, hob, -⟩ := cells_of_cell h0
  exact (Array.getElem?_eq_some_iff.1 hob).1

theorem rd_take {w : World} {sz n m : Nat} {a : Option Addr} {c : Nat} {cs : List Value} (h : Rd w sz (.slice a n c) n cs) (hm : m ≤ n) : Rd w sz (.slice a m c) m (cs.take (m * sz)) := by
  obtain ⟨a', c', hv, h0, h1, h2, h3⟩ := h
  simp only [Value.slice.injEq, true_and] at hv
  obtain ⟨rfl, rfl⟩ := hv
  refine ⟨a, c, rfl, ?_, by omega, h2, ?_⟩
  · rw [List.length_take, h0]
    exact Nat.min_eq_left (Nat.mul_le_mul_right _ hm)
  · rcases h3 with h3 | ⟨b, o, rfl, hc⟩
    · exact .inl h3
    · refine .inr ⟨b, o, rfl, fun j u hj => hc j u ?_⟩
      rw [List.getElem?_take] at hj
      split at hj
      · exact hj
      · cases hj
set_option maxHeartbeats 4000000 in
theorem next_short (ev gv ov : Value) (es gs : List Int) (out : List Pr) (w : World) (he : Rd w 1 ev es.length (es.map (Value.int .i64))) (hg : Rd w 1 gv gs.length (gs.map (Value.int .i64))) (ho : Rd w 2 ov out.length (flatF Pr.cells out))
    (heb : ∀ n ∈ es, I64 n) (hgb : ∀ n ∈ gs, I64 n) (hks : ∀ p ∈ out, p.key.size ≤ 9223372036854775807) (hvs : ∀ p ∈ out, U32 p.val) (hv : VarsIn w) (h5 : 5 ≤ w.heap.size) (hshort : out.length ≤ 100) :
    Calls Tryz.prog 3 #[ev, gv, ov] w fun e w' => e = .returned (.bool true) ∧ Below w.heap.size w w' := by
  have HE := Lib.hid he
  have HGS := Lib.hid hg
  have HO := Lib.hid ho
  have HEB := Lib.hid heb
  have HGB := Lib.hid hgb
  obtain ⟨ea, ec, rfl, hel, hec⟩ := he.slice
  obtain ⟨ga, gc, rfl, hgl, hgc⟩ := hg.slice
  obtain ⟨oa, oc, rfl, hol, hoc⟩ := ho.slice
  have HV := Lib.hid hv
  clear he hg ho heb hgb hv
  go_enter Tryz.func3, Tryz.ntmps3
  go_wp2_with fail
  refine (known_calls w HV.out h5).mono ?_
  rintro e w1 ⟨rfl, hb1⟩
  have HBW := Lib.hid hb1
  have HV1 := Lib.hid (HV.out.below hb1 h5)
  have H51 := Lib.hid (show 5 ≤ w1.heap.size by have := hb1.size; omega)
  clear hb1
  have d1 : decide ((100 : Int) < (out.length : Int)) = false := decide_eq_false (by omega)
  obtain ⟨P0, hP0⟩ : ∃ P, out = P := ⟨_, rfl⟩
  obtain rfl : P0 = out := hP0.symm
  have hP100 : P0.length ≤ 100 := hshort
  have HKS := Lib.hid hks
  have HVS := Lib.hid hvs
  have HP := Lib.hid (HO.out.below HBW.out (Nat.le_refl _))
  clear HO hks hvs
  -- behind the cut of the pairs: P the pairs
  go_wp2_with fail
  refine (dnew_calls 1073741824 w1 (by omega) (by omega)).mono ?_
  rintro e w2 ⟨rfl, hd2, hb2⟩
  have HD2 := Lib.hid hd2
  have HB12 := Lib.hid hb2
  clear hd2
  go_wp2_with fail
  refine (sopen_new (w1.heap.size + 2) w1.heap.size (newD 1073741824 w1.heap.size) w2 HD2.out rfl hb2.size).mono ?_
  rintro e w3 ⟨s, l, rfl, hb3, hsd3, hs3, hl3⟩
  have HB13 := Lib.hid (hb2.trans (hb3.mono hb2.size))
  have HK3 := Lib.hid (kin_new hsd3 (k := 5 * (40 - 0) + 5) (by omega) (by omega) (by omega) (HV1.out.below HB13.out H51.out) H51.out)
  clear hb2 hb3 hsd3
  go_wp2_with fail
  go_loopw [11] (fun iv wr => ∃ (i : Nat) (S : Sk) (L : Lg) (D : Dk) (xs : List Ln), i ≤ 40 ∧ iv = .int .i64 i ∧ KIn wr w1.heap.size s S L D xs (5 * (40 - i) + 5) ∧ I64 S.gen ∧ Below w1.heap.size w1 wr) (fun iv _ => 50 - (intOf iv).toNat)
  case atStart => exact ⟨0, _, _, _, _, by omega, rfl, HK3.out, by constructor <;> simp [newS], HB13.out⟩
  case round =>
    clear HK3 HB13
    obtain ⟨i, S, L, D, xs, hi, rfl, hk, hgen, hb⟩ := hrel
    have HK := Lib.hid hk
    have HGN := Lib.hid hgen
    have HB := Lib.hid hb
    clear hk hgen hb
    have d2 : decide ((i : Int) < (es.length : Int)) = decide (i < es.length) := by apply decide_eq_decide.2; omega
    by_cases hin : i < es.length ∧ i < 40
    · obtain ⟨hi1, hi2⟩ := hin
      obtain ⟨N, hN⟩ : ∃ N, S.eps.length = N := ⟨_, rfl⟩
      have HN := Lib.hid hN
      have hNb : N ≤ 900 := by
        have h1 := HK.out.sg.le.1
        have h2 := HK.out.cnt
        rw [show S.m.eps.length = N from (by simp [Sk.m]; exact hN)] at h1
        omega
      obtain ⟨eb, eo, hea, e0⟩ := ri_at HE.out i hi1
      subst hea
      have hem := HEB.out es[i] (List.getElem_mem hi1)
      obtain ⟨n, hn⟩ : ∃ n, es[i] = n := ⟨_, rfl⟩
      rw [hn] at e0 hem
      have HNB := Lib.hid hem
      clear hem hn
      have HE0 := Lib.hid e0
      clear hN e0 d2
      go_wp2_with fail
      refine (gen_calls _ _ _ _ HK.out.sd.sk).mono ?_
      rintro r w5 ⟨rfl, hw5⟩
      obtain rfl : wr = w5 := hw5.symm
      by_cases hgl : i < gs.length
      · obtain ⟨gb, go, hga, g0⟩ := ri_at HGS.out i hgl
        subst hga
        have HG := Lib.hid (HGB.out gs[i] (List.getElem_mem hgl))
        have g0 := cell_later (HBW.out.trans (HB.out.mono HBW.out.size)) g0
        go_wp2_with fail
        clear g0
        as_aux_lemma =>
          -- the round behind the choice of the generation gs[i]; wr the world, gen_calls done
          refine (count_calls _ _ _ _ HK.out.sd.sk).mono ?_
          rintro r w5 ⟨rfl, hw5⟩
          obtain rfl : wr = w5 := hw5.symm
          rw [HN.out]
          go_wp2_with fail
          refine (gen_calls _ _ _ _ HK.out.sd.sk).mono ?_
          rintro r w5 ⟨rfl, hw5⟩
          obtain rfl : wr = w5 := hw5.symm
          have e1 := cell_later (HBW.out.trans (HB.out.mono HBW.out.size)) HE0.out
          obtain ⟨E, hE⟩ : ∃ E, prE S.m (gs[i]) n P0 = E := ⟨_, rfl⟩
          obtain ⟨M1, hM1⟩ : ∃ M1, prM S.m (gs[i]) n P0 = M1 := ⟨_, rfl⟩
          obtain ⟨F, hF⟩ : ∃ F, cmE M1 (gs[i]) n = F := ⟨_, rfl⟩
          obtain ⟨M2, hM2⟩ : ∃ M2, cmM M1 (gs[i]) n = M2 := ⟨_, rfl⟩
          have hlaw := next_law S.m (gs[i]) n P0
          have hgn2 := next_gen P0 (n := n) (show I64 S.m.gen from HGN.out) HG.out
          rw [hE, hM1, hF, hM2, show S.m.eps.length = N from (by simp [Sk.m]; exact HN.out), show S.m.gen = S.gen from rfl] at hlaw
          rw [hM1, hM2] at hgn2
          have HGN2 := Lib.hid hgn2
          have HLAW := Lib.hid hlaw
          have HEF := Lib.hid (And.intro hE (And.intro hM1 (And.intro hF hM2)))
          clear hE hM1 hF hM2 hlaw hgn2
          go_wp2_with fail
          refine (prepare_calls w1.heap.size s S L D xs (5 * (40 - i) + 2) 2 (gs[i]) n _ P0 wr (by omega) (HK.out.less (by omega)) HG.out (HP.out.below HB.out (Nat.le_refl _)) ?_ HKS.out HVS.out).mono ?_
          · intro a m c e h0 hf
            have h1 := (HK.out.sd.foot_lt hf).1
            have hp := HP.out
            rw [e] at hp
            obtain ⟨b', o', hb', -, -⟩ := pr_at hp 0 h0
            simp only [Option.some.injEq] at hb'
            subst hb'
            have := Rd.head_lt hp h0
            simp only at h1
            omega
          rintro r w6 ⟨rfl, S1, L1, D1, xs1, hst1, hk1, hm1a, -⟩
          rw [HEF.out.1]
          have hm1 := hm1a.trans HEF.out.2.1
          have HM1 := Lib.hid hm1
          have HK1 := Lib.hid hk1
          have hlo := hst1.lo HK.out.sd
          have HB6 := Lib.hid (HB.out.trans (hlo.mono (Nat.le_refl _)))
          have HN1 := Lib.hid (show S1.eps.length = N from by rw [← HLAW.out.1, ← hm1]; simp [Sk.m])
          have e6 := cell_later (HBW.out.trans (HB6.out.mono HBW.out.size)) HE0.out
          clear hst1 hk1 hm1 hm1a hlo e1
          go_wp2_with fail
          refine (count_calls _ _ _ _ HK1.out.sd.sk).mono ?_
          rintro r w7 ⟨rfl, hw7⟩
          obtain rfl : w6 = w7 := hw7.symm
          rw [HN1.out]
          by_cases hE0 : E = 0
          · obtain ⟨q1, q2, q3, q4⟩ := HLAW.out.2.1 hE0
            subst hE0
            have b1 : (n != (N : Int)) = false := by rw [q1]; simp
            have b2 : decide (gs[i] < S.gen) = false := decide_eq_false (by omega)
            have b3 : decide ((N : Int) < n) = false := decide_eq_false (by omega)
            have b4 : decide (n < (N : Int)) = false := decide_eq_false (by omega)
            have HQ := Lib.hid (And.intro q1 (And.intro q2 (And.intro q3 q4)))
            clear q1 q2 q3 q4
            go_wp2_with fail
            refine (commit_calls w1.heap.size s S1 L1 D1 xs1 (5 * (40 - i)) (gs[i]) n w6 (HK1.out.less (by omega)) HG.out).mono ?_
            rintro r w8 ⟨rfl, S2, L2, D2, xs2, hst2, hk2, hm2a, -⟩
            rw [HM1.out, HEF.out.2.2.1]
            have hm2 : S2.m = M2 := by rw [hm2a, HM1.out]; exact HEF.out.2.2.2
            have HK2 := Lib.hid hk2
            have HN2 := Lib.hid (show S2.eps.length = M2.eps.length from by rw [← hm2]; simp [Sk.m])
            have HGS2 := Lib.hid (show I64 S2.gen from by have := HGN2.out; rw [← hm2] at this; exact this)
            have hlo2 := hst2.lo HK1.out.sd
            have HB8 := Lib.hid (HB6.out.trans (hlo2.mono (Nat.le_refl _)))
            have e8 := cell_later (HBW.out.trans (HB8.out.mono HBW.out.size)) HE0.out
            clear hst2 hk2 hm2 hm2a hlo2 e6
            rw [HQ.out.2.2.1]
            go_wp2_with fail
            refine (count_calls _ _ _ _ HK2.out.sd.sk).mono ?_
            rintro r w9 ⟨rfl, hw9⟩
            obtain rfl : w8 = w9 := hw9.symm
            rw [HN2.out, HQ.out.2.2.2, show ((N + 1 : Nat) : Int) = (N : Int) + 1 from rfl]
            by_cases hg0 : 0 ≤ gs[i]
            · have c1 : decide (0 ≤ gs[i]) = true := decide_eq_true hg0
              clear HQ
              go_wp2_with fail
              go_roundw
              case rel => exact ⟨i + 1, S2, L2, D2, xs2, by omega, by go_num, HK2.out.less (by omega), HGS2.out, HB8.out⟩
              case measure => simp [intOf]; omega
            · have c1 : decide (0 ≤ gs[i]) = false := decide_eq_false hg0
              clear HQ
              go_wp2_with fail
              go_roundw
              case rel => exact ⟨i + 1, S2, L2, D2, xs2, by omega, by go_num, HK2.out.less (by omega), HGS2.out, HB8.out⟩
              case measure => simp [intOf]; omega
          · have b0 : (E == 0) = false := by simpa using hE0
            go_wp2_with fail
            refine (commit_calls w1.heap.size s S1 L1 D1 xs1 (5 * (40 - i)) (gs[i]) n w6 (HK1.out.less (by omega)) HG.out).mono ?_
            rintro r w8 ⟨rfl, S2, L2, D2, xs2, hst2, hk2, hm2a, -⟩
            rw [HM1.out, HEF.out.2.2.1]
            have hm2 : S2.m = M2 := by rw [hm2a, HM1.out]; exact HEF.out.2.2.2
            have HK2 := Lib.hid hk2
            have HN2 := Lib.hid (show S2.eps.length = M2.eps.length from by rw [← hm2]; simp [Sk.m])
            have HGS2 := Lib.hid (show I64 S2.gen from by have := HGN2.out; rw [← hm2] at this; exact this)
            have hlo2 := hst2.lo HK1.out.sd
            have HB8 := Lib.hid (HB6.out.trans (hlo2.mono (Nat.le_refl _)))
            have e8 := cell_later (HBW.out.trans (HB8.out.mono HBW.out.size)) HE0.out
            clear hst2 hk2 hm2 hm2a hlo2 e6
            by_cases hgt : (N : Int) < n
            · have b3 : decide ((N : Int) < n) = true := decide_eq_true hgt
              have b4 : decide (n < (N : Int)) = false := decide_eq_false (by omega)
              have b5 : (F == 0) = false := by have := HLAW.out.2.2.1 hE0 hgt; simpa using this
              have hN2 := HLAW.out.2.2.2.1 (by omega)
              have HN3 := Lib.hid (HN2.out.trans hN2)
              clear hN2
              go_wp2_with fail
              refine (count_calls _ _ _ _ HK2.out.sd.sk).mono ?_
              rintro r w9 ⟨rfl, hw9⟩
              obtain rfl : w8 = w9 := hw9.symm
              rw [HN3.out]
              by_cases hg0 : 0 ≤ gs[i]
              · have c1 : decide (0 ≤ gs[i]) = true := decide_eq_true hg0
                by_cases hg1 : gs[i] < S.gen
                · have c2 : decide (gs[i] < S.gen) = true := decide_eq_true hg1
                  by_cases hn0 : 0 ≤ n
                  · obtain ⟨z1, z2⟩ := HLAW.out.2.2.2.2 hg0 hg1 hn0
                    have c3 : (E != 15) = false := by rw [z1]; rfl
                    have c4 : (F != 15) = false := by rw [z2]; rfl
                    have c5 : decide (0 ≤ n) = true := decide_eq_true hn0
                    clear z1 z2
                    go_wp2_with fail
                    go_roundw
                    case rel => exact ⟨i + 1, S2, L2, D2, xs2, by omega, by go_num, HK2.out.less (by omega), HGS2.out, HB8.out⟩
                    case measure => simp [intOf]; omega
                  · have c5 : decide (0 ≤ n) = false := decide_eq_false hn0
                    cases c3 : (E != 15) with
                    | true =>
                      go_wp2_with fail
                      go_roundw
                      case rel => exact ⟨i + 1, S2, L2, D2, xs2, by omega, by go_num, HK2.out.less (by omega), HGS2.out, HB8.out⟩
                      case measure => simp [intOf]; omega
                    | false =>
                      cases c4 : (F != 15) with
                      | true =>
                        go_wp2_with fail
                        go_roundw
                        case rel => exact ⟨i + 1, S2, L2, D2, xs2, by omega, by go_num, HK2.out.less (by omega), HGS2.out, HB8.out⟩
                        case measure => simp [intOf]; omega
                      | false =>
                        go_wp2_with fail
                        go_roundw
                        case rel => exact ⟨i + 1, S2, L2, D2, xs2, by omega, by go_num, HK2.out.less (by omega), HGS2.out, HB8.out⟩
                        case measure => simp [intOf]; omega
                · have c2 : decide (gs[i] < S.gen) = false := decide_eq_false hg1
                  go_wp2_with fail
                  go_roundw
                  case rel => exact ⟨i + 1, S2, L2, D2, xs2, by omega, by go_num, HK2.out.less (by omega), HGS2.out, HB8.out⟩
                  case measure => simp [intOf]; omega
              · have c1 : decide (0 ≤ gs[i]) = false := decide_eq_false hg0
                go_wp2_with fail
                go_roundw
                case rel => exact ⟨i + 1, S2, L2, D2, xs2, by omega, by go_num, HK2.out.less (by omega), HGS2.out, HB8.out⟩
                case measure => simp [intOf]; omega
            · have b3 : decide ((N : Int) < n) = false := decide_eq_false hgt
              by_cases hlt : n < (N : Int)
              · have b4 : decide (n < (N : Int)) = true := decide_eq_true hlt
                have hN2 := HLAW.out.2.2.2.1 (by omega)
                have HN3 := Lib.hid (HN2.out.trans hN2)
                clear hN2
                go_wp2_with fail
                refine (count_calls _ _ _ _ HK2.out.sd.sk).mono ?_
                rintro r w9 ⟨rfl, hw9⟩
                obtain rfl : w8 = w9 := hw9.symm
                rw [HN3.out]
                by_cases hg0 : 0 ≤ gs[i]
                · have c1 : decide (0 ≤ gs[i]) = true := decide_eq_true hg0
                  by_cases hg1 : gs[i] < S.gen
                  · have c2 : decide (gs[i] < S.gen) = true := decide_eq_true hg1
                    by_cases hn0 : 0 ≤ n
                    · obtain ⟨z1, z2⟩ := HLAW.out.2.2.2.2 hg0 hg1 hn0
                      have c3 : (E != 15) = false := by rw [z1]; rfl
                      have c4 : (F != 15) = false := by rw [z2]; rfl
                      have c5 : decide (0 ≤ n) = true := decide_eq_true hn0
                      clear z1 z2
                      go_wp2_with fail
                      go_roundw
                      case rel => exact ⟨i + 1, S2, L2, D2, xs2, by omega, by go_num, HK2.out.less (by omega), HGS2.out, HB8.out⟩
                      case measure => simp [intOf]; omega
                    · have c5 : decide (0 ≤ n) = false := decide_eq_false hn0
                      cases c3 : (E != 15) with
                      | true =>
                        go_wp2_with fail
                        go_roundw
                        case rel => exact ⟨i + 1, S2, L2, D2, xs2, by omega, by go_num, HK2.out.less (by omega), HGS2.out, HB8.out⟩
                        case measure => simp [intOf]; omega
                      | false =>
                        cases c4 : (F != 15) with
                        | true =>
                          go_wp2_with fail
                          go_roundw
                          case rel => exact ⟨i + 1, S2, L2, D2, xs2, by omega, by go_num, HK2.out.less (by omega), HGS2.out, HB8.out⟩
                          case measure => simp [intOf]; omega
                        | false =>
                          go_wp2_with fail
                          go_roundw
                          case rel => exact ⟨i + 1, S2, L2, D2, xs2, by omega, by go_num, HK2.out.less (by omega), HGS2.out, HB8.out⟩
                          case measure => simp [intOf]; omega
                  · have c2 : decide (gs[i] < S.gen) = false := decide_eq_false hg1
                    go_wp2_with fail
                    go_roundw
                    case rel => exact ⟨i + 1, S2, L2, D2, xs2, by omega, by go_num, HK2.out.less (by omega), HGS2.out, HB8.out⟩
                    case measure => simp [intOf]; omega
                · have c1 : decide (0 ≤ gs[i]) = false := decide_eq_false hg0
                  go_wp2_with fail
                  go_roundw
                  case rel => exact ⟨i + 1, S2, L2, D2, xs2, by omega, by go_num, HK2.out.less (by omega), HGS2.out, HB8.out⟩
                  case measure => simp [intOf]; omega
              · have b4 : decide (n < (N : Int)) = false := decide_eq_false hlt
                by_cases hg0 : 0 ≤ gs[i]
                · have c1 : decide (0 ≤ gs[i]) = true := decide_eq_true hg0
                  by_cases hg1 : gs[i] < S.gen
                  · have c2 : decide (gs[i] < S.gen) = true := decide_eq_true hg1
                    by_cases hn0 : 0 ≤ n
                    · obtain ⟨z1, z2⟩ := HLAW.out.2.2.2.2 hg0 hg1 hn0
                      have c3 : (E != 15) = false := by rw [z1]; rfl
                      have c4 : (F != 15) = false := by rw [z2]; rfl
                      have c5 : decide (0 ≤ n) = true := decide_eq_true hn0
                      clear z1 z2
                      go_wp2_with fail
                      go_roundw
                      case rel => exact ⟨i + 1, S2, L2, D2, xs2, by omega, by go_num, HK2.out.less (by omega), HGS2.out, HB8.out⟩
                      case measure => simp [intOf]; omega
                    · have c5 : decide (0 ≤ n) = false := decide_eq_false hn0
                      cases c3 : (E != 15) with
                      | true =>
                        go_wp2_with fail
                        go_roundw
                        case rel => exact ⟨i + 1, S2, L2, D2, xs2, by omega, by go_num, HK2.out.less (by omega), HGS2.out, HB8.out⟩
                        case measure => simp [intOf]; omega
                      | false =>
                        cases c4 : (F != 15) with
                        | true =>
                          go_wp2_with fail
                          go_roundw
                          case rel => exact ⟨i + 1, S2, L2, D2, xs2, by omega, by go_num, HK2.out.less (by omega), HGS2.out, HB8.out⟩
                          case measure => simp [intOf]; omega
                        | false =>
                          go_wp2_with fail
                          go_roundw
                          case rel => exact ⟨i + 1, S2, L2, D2, xs2, by omega, by go_num, HK2.out.less (by omega), HGS2.out, HB8.out⟩
                          case measure => simp [intOf]; omega
                  · have c2 : decide (gs[i] < S.gen) = false := decide_eq_false hg1
                    go_wp2_with fail
                    go_roundw
                    case rel => exact ⟨i + 1, S2, L2, D2, xs2, by omega, by go_num, HK2.out.less (by omega), HGS2.out, HB8.out⟩
                    case measure => simp [intOf]; omega
                · have c1 : decide (0 ≤ gs[i]) = false := decide_eq_false hg0
                  go_wp2_with fail
                  go_roundw
                  case rel => exact ⟨i + 1, S2, L2, D2, xs2, by omega, by go_num, HK2.out.less (by omega), HGS2.out, HB8.out⟩
                  case measure => simp [intOf]; omega
      · have HG := Lib.hid HGN.out
        go_wp2_with fail
        as_aux_lemma =>
          -- the round behind the choice of the generation S.gen; wr the world, gen_calls done
          refine (count_calls _ _ _ _ HK.out.sd.sk).mono ?_
          rintro r w5 ⟨rfl, hw5⟩
          obtain rfl : wr = w5 := hw5.symm
          rw [HN.out]
          go_wp2_with fail
          refine (gen_calls _ _ _ _ HK.out.sd.sk).mono ?_
          rintro r w5 ⟨rfl, hw5⟩
          obtain rfl : wr = w5 := hw5.symm
          have e1 := cell_later (HBW.out.trans (HB.out.mono HBW.out.size)) HE0.out
          obtain ⟨E, hE⟩ : ∃ E, prE S.m (S.gen) n P0 = E := ⟨_, rfl⟩
          obtain ⟨M1, hM1⟩ : ∃ M1, prM S.m (S.gen) n P0 = M1 := ⟨_, rfl⟩
          obtain ⟨F, hF⟩ : ∃ F, cmE M1 (S.gen) n = F := ⟨_, rfl⟩
          obtain ⟨M2, hM2⟩ : ∃ M2, cmM M1 (S.gen) n = M2 := ⟨_, rfl⟩
          have hlaw := next_law S.m (S.gen) n P0
          have hgn2 := next_gen P0 (n := n) (show I64 S.m.gen from HGN.out) HG.out
          rw [hE, hM1, hF, hM2, show S.m.eps.length = N from (by simp [Sk.m]; exact HN.out), show S.m.gen = S.gen from rfl] at hlaw
          rw [hM1, hM2] at hgn2
          have HGN2 := Lib.hid hgn2
          have HLAW := Lib.hid hlaw
          have HEF := Lib.hid (And.intro hE (And.intro hM1 (And.intro hF hM2)))
          clear hE hM1 hF hM2 hlaw hgn2
          go_wp2_with fail
          refine (prepare_calls w1.heap.size s S L D xs (5 * (40 - i) + 2) 2 (S.gen) n _ P0 wr (by omega) (HK.out.less (by omega)) HG.out (HP.out.below HB.out (Nat.le_refl _)) ?_ HKS.out HVS.out).mono ?_
          · intro a m c e h0 hf
            have h1 := (HK.out.sd.foot_lt hf).1
            have hp := HP.out
            rw [e] at hp
            obtain ⟨b', o', hb', -, -⟩ := pr_at hp 0 h0
            simp only [Option.some.injEq] at hb'
            subst hb'
            have := Rd.head_lt hp h0
            simp only at h1
            omega
          rintro r w6 ⟨rfl, S1, L1, D1, xs1, hst1, hk1, hm1a, -⟩
          rw [HEF.out.1]
          have hm1 := hm1a.trans HEF.out.2.1
          have HM1 := Lib.hid hm1
          have HK1 := Lib.hid hk1
          have hlo := hst1.lo HK.out.sd
          have HB6 := Lib.hid (HB.out.trans (hlo.mono (Nat.le_refl _)))
          have HN1 := Lib.hid (show S1.eps.length = N from by rw [← HLAW.out.1, ← hm1]; simp [Sk.m])
          have e6 := cell_later (HBW.out.trans (HB6.out.mono HBW.out.size)) HE0.out
          clear hst1 hk1 hm1 hm1a hlo e1
          go_wp2_with fail
          refine (count_calls _ _ _ _ HK1.out.sd.sk).mono ?_
          rintro r w7 ⟨rfl, hw7⟩
          obtain rfl : w6 = w7 := hw7.symm
          rw [HN1.out]
          by_cases hE0 : E = 0
          · obtain ⟨q1, q2, q3, q4⟩ := HLAW.out.2.1 hE0
            subst hE0
            have b1 : (n != (N : Int)) = false := by rw [q1]; simp
            have b2 : decide (S.gen < S.gen) = false := decide_eq_false (by omega)
            have b3 : decide ((N : Int) < n) = false := decide_eq_false (by omega)
            have b4 : decide (n < (N : Int)) = false := decide_eq_false (by omega)
            have HQ := Lib.hid (And.intro q1 (And.intro q2 (And.intro q3 q4)))
            clear q1 q2 q3 q4
            go_wp2_with fail
            refine (commit_calls w1.heap.size s S1 L1 D1 xs1 (5 * (40 - i)) (S.gen) n w6 (HK1.out.less (by omega)) HG.out).mono ?_
            rintro r w8 ⟨rfl, S2, L2, D2, xs2, hst2, hk2, hm2a, -⟩
            rw [HM1.out, HEF.out.2.2.1]
            have hm2 : S2.m = M2 := by rw [hm2a, HM1.out]; exact HEF.out.2.2.2
            have HK2 := Lib.hid hk2
            have HN2 := Lib.hid (show S2.eps.length = M2.eps.length from by rw [← hm2]; simp [Sk.m])
            have HGS2 := Lib.hid (show I64 S2.gen from by have := HGN2.out; rw [← hm2] at this; exact this)
            have hlo2 := hst2.lo HK1.out.sd
            have HB8 := Lib.hid (HB6.out.trans (hlo2.mono (Nat.le_refl _)))
            have e8 := cell_later (HBW.out.trans (HB8.out.mono HBW.out.size)) HE0.out
            clear hst2 hk2 hm2 hm2a hlo2 e6
            rw [HQ.out.2.2.1]
            go_wp2_with fail
            refine (count_calls _ _ _ _ HK2.out.sd.sk).mono ?_
            rintro r w9 ⟨rfl, hw9⟩
            obtain rfl : w8 = w9 := hw9.symm
            rw [HN2.out, HQ.out.2.2.2, show ((N + 1 : Nat) : Int) = (N : Int) + 1 from rfl]
            by_cases hg0 : 0 ≤ S.gen
            · have c1 : decide (0 ≤ S.gen) = true := decide_eq_true hg0
              clear HQ
              go_wp2_with fail
              go_roundw
              case rel => exact ⟨i + 1, S2, L2, D2, xs2, by omega, by go_num, HK2.out.less (by omega), HGS2.out, HB8.out⟩
              case measure => simp [intOf]; omega
            · have c1 : decide (0 ≤ S.gen) = false := decide_eq_false hg0
              clear HQ
              go_wp2_with fail
              go_roundw
              case rel => exact ⟨i + 1, S2, L2, D2, xs2, by omega, by go_num, HK2.out.less (by omega), HGS2.out, HB8.out⟩
              case measure => simp [intOf]; omega
          · have b0 : (E == 0) = false := by simpa using hE0
            go_wp2_with fail
            refine (commit_calls w1.heap.size s S1 L1 D1 xs1 (5 * (40 - i)) (S.gen) n w6 (HK1.out.less (by omega)) HG.out).mono ?_
            rintro r w8 ⟨rfl, S2, L2, D2, xs2, hst2, hk2, hm2a, -⟩
            rw [HM1.out, HEF.out.2.2.1]
            have hm2 : S2.m = M2 := by rw [hm2a, HM1.out]; exact HEF.out.2.2.2
            have HK2 := Lib.hid hk2
            have HN2 := Lib.hid (show S2.eps.length = M2.eps.length from by rw [← hm2]; simp [Sk.m])
            have HGS2 := Lib.hid (show I64 S2.gen from by have := HGN2.out; rw [← hm2] at this; exact this)
            have hlo2 := hst2.lo HK1.out.sd
            have HB8 := Lib.hid (HB6.out.trans (hlo2.mono (Nat.le_refl _)))
            have e8 := cell_later (HBW.out.trans (HB8.out.mono HBW.out.size)) HE0.out
            clear hst2 hk2 hm2 hm2a hlo2 e6
            by_cases hgt : (N : Int) < n
            · have b3 : decide ((N : Int) < n) = true := decide_eq_true hgt
              have b4 : decide (n < (N : Int)) = false := decide_eq_false (by omega)
              have b5 : (F == 0) = false := by have := HLAW.out.2.2.1 hE0 hgt; simpa using this
              have hN2 := HLAW.out.2.2.2.1 (by omega)
              have HN3 := Lib.hid (HN2.out.trans hN2)
              clear hN2
              go_wp2_with fail
              refine (count_calls _ _ _ _ HK2.out.sd.sk).mono ?_
              rintro r w9 ⟨rfl, hw9⟩
              obtain rfl : w8 = w9 := hw9.symm
              rw [HN3.out]
              by_cases hg0 : 0 ≤ S.gen
              · have c1 : decide (0 ≤ S.gen) = true := decide_eq_true hg0
                by_cases hg1 : S.gen < S.gen
                · have c2 : decide (S.gen < S.gen) = true := decide_eq_true hg1
                  by_cases hn0 : 0 ≤ n
                  · obtain ⟨z1, z2⟩ := HLAW.out.2.2.2.2 hg0 hg1 hn0
                    have c3 : (E != 15) = false := by rw [z1]; rfl
                    have c4 : (F != 15) = false := by rw [z2]; rfl
                    have c5 : decide (0 ≤ n) = true := decide_eq_true hn0
                    clear z1 z2
                    go_wp2_with fail
                    go_roundw
                    case rel => exact ⟨i + 1, S2, L2, D2, xs2, by omega, by go_num, HK2.out.less (by omega), HGS2.out, HB8.out⟩
                    case measure => simp [intOf]; omega
                  · have c5 : decide (0 ≤ n) = false := decide_eq_false hn0
                    cases c3 : (E != 15) with
                    | true =>
                      go_wp2_with fail
                      go_roundw
                      case rel => exact ⟨i + 1, S2, L2, D2, xs2, by omega, by go_num, HK2.out.less (by omega), HGS2.out, HB8.out⟩
                      case measure => simp [intOf]; omega
                    | false =>
                      cases c4 : (F != 15) with
                      | true =>
                        go_wp2_with fail
                        go_roundw
                        case rel => exact ⟨i + 1, S2, L2, D2, xs2, by omega, by go_num, HK2.out.less (by omega), HGS2.out, HB8.out⟩
                        case measure => simp [intOf]; omega
                      | false =>
                        go_wp2_with fail
                        go_roundw
                        case rel => exact ⟨i + 1, S2, L2, D2, xs2, by omega, by go_num, HK2.out.less (by omega), HGS2.out, HB8.out⟩
                        case measure => simp [intOf]; omega
                · have c2 : decide (S.gen < S.gen) = false := decide_eq_false hg1
                  go_wp2_with fail
                  go_roundw
                  case rel => exact ⟨i + 1, S2, L2, D2, xs2, by omega, by go_num, HK2.out.less (by omega), HGS2.out, HB8.out⟩
                  case measure => simp [intOf]; omega
              · have c1 : decide (0 ≤ S.gen) = false := decide_eq_false hg0
                go_wp2_with fail
                go_roundw
                case rel => exact ⟨i + 1, S2, L2, D2, xs2, by omega, by go_num, HK2.out.less (by omega), HGS2.out, HB8.out⟩
                case measure => simp [intOf]; omega
            · have b3 : decide ((N : Int) < n) = false := decide_eq_false hgt
              by_cases hlt : n < (N : Int)
              · have b4 : decide (n < (N : Int)) = true := decide_eq_true hlt
                have hN2 := HLAW.out.2.2.2.1 (by omega)
                have HN3 := Lib.hid (HN2.out.trans hN2)
                clear hN2
                go_wp2_with fail
                refine (count_calls _ _ _ _ HK2.out.sd.sk).mono ?_
                rintro r w9 ⟨rfl, hw9⟩
                obtain rfl : w8 = w9 := hw9.symm
                rw [HN3.out]
                by_cases hg0 : 0 ≤ S.gen
                · have c1 : decide (0 ≤ S.gen) = true := decide_eq_true hg0
                  by_cases hg1 : S.gen < S.gen
                  · have c2 : decide (S.gen < S.gen) = true := decide_eq_true hg1
                    by_cases hn0 : 0 ≤ n
                    · obtain ⟨z1, z2⟩ := HLAW.out.2.2.2.2 hg0 hg1 hn0
                      have c3 : (E != 15) = false := by rw [z1]; rfl
                      have c4 : (F != 15) = false := by rw [z2]; rfl
                      have c5 : decide (0 ≤ n) = true := decide_eq_true hn0
                      clear z1 z2
                      go_wp2_with fail
                      go_roundw
                      case rel => exact ⟨i + 1, S2, L2, D2, xs2, by omega, by go_num, HK2.out.less (by omega), HGS2.out, HB8.out⟩
                      case measure => simp [intOf]; omega
                    · have c5 : decide (0 ≤ n) = false := decide_eq_false hn0
                      cases c3 : (E != 15) with
                      | true =>
                        go_wp2_with fail
                        go_roundw
                        case rel => exact ⟨i + 1, S2, L2, D2, xs2, by omega, by go_num, HK2.out.less (by omega), HGS2.out, HB8.out⟩
                        case measure => simp [intOf]; omega
                      | false =>
                        cases c4 : (F != 15) with
                        | true =>
                          go_wp2_with fail
                          go_roundw
                          case rel => exact ⟨i + 1, S2, L2, D2, xs2, by omega, by go_num, HK2.out.less (by omega), HGS2.out, HB8.out⟩
                          case measure => simp [intOf]; omega
                        | false =>
                          go_wp2_with fail
                          go_roundw
                          case rel => exact ⟨i + 1, S2, L2, D2, xs2, by omega, by go_num, HK2.out.less (by omega), HGS2.out, HB8.out⟩
                          case measure => simp [intOf]; omega
                  · have c2 : decide (S.gen < S.gen) = false := decide_eq_false hg1
                    go_wp2_with fail
                    go_roundw
                    case rel => exact ⟨i + 1, S2, L2, D2, xs2, by omega, by go_num, HK2.out.less (by omega), HGS2.out, HB8.out⟩
                    case measure => simp [intOf]; omega
                · have c1 : decide (0 ≤ S.gen) = false := decide_eq_false hg0
                  go_wp2_with fail
                  go_roundw
                  case rel => exact ⟨i + 1, S2, L2, D2, xs2, by omega, by go_num, HK2.out.less (by omega), HGS2.out, HB8.out⟩
                  case measure => simp [intOf]; omega
              · have b4 : decide (n < (N : Int)) = false := decide_eq_false hlt
                by_cases hg0 : 0 ≤ S.gen
                · have c1 : decide (0 ≤ S.gen) = true := decide_eq_true hg0
                  by_cases hg1 : S.gen < S.gen
                  · have c2 : decide (S.gen < S.gen) = true := decide_eq_true hg1
                    by_cases hn0 : 0 ≤ n
                    · obtain ⟨z1, z2⟩ := HLAW.out.2.2.2.2 hg0 hg1 hn0
                      have c3 : (E != 15) = false := by rw [z1]; rfl
                      have c4 : (F != 15) = false := by rw [z2]; rfl
                      have c5 : decide (0 ≤ n) = true := decide_eq_true hn0
                      clear z1 z2
                      go_wp2_with fail
                      go_roundw
                      case rel => exact ⟨i + 1, S2, L2, D2, xs2, by omega, by go_num, HK2.out.less (by omega), HGS2.out, HB8.out⟩
                      case measure => simp [intOf]; omega
                    · have c5 : decide (0 ≤ n) = false := decide_eq_false hn0
                      cases c3 : (E != 15) with
                      | true =>
                        go_wp2_with fail
                        go_roundw
                        case rel => exact ⟨i + 1, S2, L2, D2, xs2, by omega, by go_num, HK2.out.less (by omega), HGS2.out, HB8.out⟩
                        case measure => simp [intOf]; omega
                      | false =>
                        cases c4 : (F != 15) with
                        | true =>
                          go_wp2_with fail
                          go_roundw
                          case rel => exact ⟨i + 1, S2, L2, D2, xs2, by omega, by go_num, HK2.out.less (by omega), HGS2.out, HB8.out⟩
                          case measure => simp [intOf]; omega
                        | false =>
                          go_wp2_with fail
                          go_roundw
                          case rel => exact ⟨i + 1, S2, L2, D2, xs2, by omega, by go_num, HK2.out.less (by omega), HGS2.out, HB8.out⟩
                          case measure => simp [intOf]; omega
                  · have c2 : decide (S.gen < S.gen) = false := decide_eq_false hg1
                    go_wp2_with fail
                    go_roundw
                    case rel => exact ⟨i + 1, S2, L2, D2, xs2, by omega, by go_num, HK2.out.less (by omega), HGS2.out, HB8.out⟩
                    case measure => simp [intOf]; omega
                · have c1 : decide (0 ≤ S.gen) = false := decide_eq_false hg0
                  go_wp2_with fail
                  go_roundw
                  case rel => exact ⟨i + 1, S2, L2, D2, xs2, by omega, by go_num, HK2.out.less (by omega), HGS2.out, HB8.out⟩
                  case measure => simp [intOf]; omega
    · by_cases hi1 : i < es.length
      · have hi2 : ¬ i < 40 := fun h => hin ⟨hi1, h⟩
        clear hin d2
        go_wp2_with fail
        go_ret
        exact ⟨rfl, HBW.out.trans (HB.out.mono HBW.out.size)⟩
      · clear hin d2
        go_wp2_with fail
        go_ret
        exact ⟨rfl, HBW.out.trans (HB.out.mono HBW.out.size)⟩
end Go.Proofs.YthgmligpconhhaaGreatDoor

/- From a reading of []int to what the walks ask. -/
namespace Go.Proofs.YthgmligpconhhaaGreatDoor
open Go.RowKit Go.ChangeShapes Go.WideShapes Go.ChangeAt
set_option maxRecDepth 100000
theorem ints_get (ns : List Int) (i : Nat) (hi : i < ns.length) : (ns.map (Value.int .i64))[i]? = some (.int .i64 ns[i]) := by simp [hi]
/-- []int -/
theorem open_intsl {H : Type} {enc : TypeId × Value → H} {W : World} {B : Nat} {held : Bool} {v : Value} {d : DataW H} {p : List MemPlace}
    (ok : Value.okWide Tryz.prog W .any B 22 v) (h : DataW.Trod enc Tryz.prog W 0 (fun _ => true) held 22 v d p) : ∃ ns : List Int, Rd W 1 v ns.length (ns.map (Value.int .i64)) ∧ (∀ n ∈ ns, -9223372036854775808 ≤ n ∧ n ≤ 9223372036854775807) ∧ ns.length + 1 ≤ Rows.uptoBulk d := by
  obtain ⟨a, len, cap, rfl⟩ := okWide_slice Tryz.underlying22 ok
  obtain ⟨fuel, hf⟩ := h
  rcases open_ints Tryz.underlying22 Tryz.underlying3 (by kernel_rfl) hf with ⟨hcs, he⟩ | ⟨x, len', cap', zs, hcs, _, hl, hm, hz, he, hcell, hwz⟩
  · simp [Value.cells] at hcs
    obtain ⟨rfl, rfl, rfl⟩ := hcs
    obtain ⟨rfl, rfl⟩ := Prod.mk.inj he
    exact ⟨[], Rd.nil W 1, fun n hn => by simp at hn, by simp [Rows.uptoBulk]⟩
  · simp [Value.cells] at hcs
    obtain ⟨rfl, rfl, rfl⟩ := hcs
    obtain ⟨rfl, rfl⟩ := Prod.mk.inj he
    simp only [if_true] at hz
    have htl : (zs.take len).length = len := by simp; omega
    refine ⟨zs.take len, ⟨some x, cap, by rw [htl], by rw [List.length_map]; omega, by omega, by unfold maxLen at hm; omega, ?_⟩, fun n hn => Go.bounds_i64 (hwz n (List.mem_of_mem_take hn)), ?_⟩
    · by_cases h0 : cap = 0
      · exact .inl h0
      · have hs := addr_spot (hcell 0 (by omega))
        refine .inr ⟨x.block, x.off, by rw [← hs], fun j u hj => ?_⟩
        have hjl : j < (zs.take len).length := by have := (List.getElem?_eq_some_iff.1 hj).1; simpa using this
        rw [ints_get _ j hjl] at hj
        have := hcell j (by omega)
        rw [hs, add_off] at this
        rw [this, ← Option.some.inj hj]
        congr 2
        rw [List.getElem_take, List.getD_eq_getElem?_getD, List.getElem?_eq_getElem (by omega)]
        rfl
    · rw [htl]
      have h1 := bulk_all (lits .i64 (zs.take len) : List (DataW H))
      have h2 : (lits .i64 (zs.take len) : List (DataW H)).length = len := by simp [lits]; omega
      simp only [Rows.uptoBulk]
      omega

end Go.Proofs.YthgmligpconhhaaGreatDoor
