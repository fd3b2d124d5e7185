/- CrcSplits, CrcFlips walked. -/
import Derived.Test.YtficekhjigpglaaLaw01
import Derived.Test.YtficekhjigpglaaTop
namespace Go.Proofs.Ytficekhjigpglaa
open Go.RowKit CrcM

theorem flatten_len (xss : List (List UInt8)) (k : Nat) : ((xss.take k).flatten).length ≤ (xss.map fun xs => xs.length + 1).sum := by
  induction xss generalizing k with
  | nil => simp
  | cons x xss ih =>
    cases k with
    | zero => simp
    | succ k => have := ih k; simp only [List.take_succ_cons, List.flatten_cons, List.length_append, List.map_cons, List.sum_cons]; omega

theorem sum_nil : CrcM.sum [] = 0#32 := ext_nil _

set_option maxHeartbeats 1000000 in
set_option maxRecDepth 100000 in
theorem splits_core (v : Value) (xss : List (List UInt8)) (w : World) (hv : SliceOf Bytes w v xss) (hlen : (xss.map fun xs => xs.length + 1).sum ≤ 1048576) :
    Calls Try.prog 8 #[v] w fun e w' => e = .returned (.bool true) ∧ Below w.heap.size w w' := by
  obtain ⟨vs, hrd, hel⟩ := hv
  obtain ⟨a, cap, rfl, hvl, hle, hcap, hcc⟩ := hrd
  have HC := Lib.hid hcc
  have HE := Lib.hid hel
  have HVL := Lib.hid hvl
  clear hcc hel hvl
  go_enter Try.func8, Try.ntmps8
  go_wp2_with fail
  refine (sum_calls _ [] _ (Bytes.nil w)).mono ?_
  rintro e w1 ⟨rfl, hb1⟩
  go_wp2_with fail
  go_loopw [3, 4, 5] (fun al s i wr => ∃ k : Nat, k ≤ xss.length ∧ i = .int .i64 k ∧ wr.ownsRow w.heap.size 5 1 al ((xss.take k).flatten).length (bvs (xss.take k).flatten) ∧ s = .int .u32 (CrcM.sum (xss.take k).flatten).toNat ∧ Below w.heap.size w wr) (fun _ _ i _ => xss.length - (intOf i).toNat)
  case atStart => exact ⟨0, by omega, rfl, by simp only [List.take_zero, List.flatten_nil]; exact World.ownsRow_nil _ _ _ _, by simp, hb1⟩
  case round =>
    obtain ⟨k, hk, rfl, ho, rfl, hb⟩ := hrel
    have HO := Lib.hid ho
    have HBW := Lib.hid hb
    clear ho hb
    by_cases hlt : k < xss.length
    · rcases HC.out with rfl | ⟨b, off, rfl, hc⟩
      · omega
      have hvk : k < vs.length := by rw [HVL.out]; omega
      have hu := List.getElem?_eq_getElem hvk
      have hx := List.getElem?_eq_getElem hlt
      have hby := HE.out k _ _ hu hx
      have c0 := hc k _ hu
      have c1 := cell_later HBW.out c0
      have hb' := hby.below HBW.out (Nat.le_refl _)
      have hfl := flatten_len xss (k + 1)
      have hflat : (xss.take (k + 1)).flatten = (xss.take k).flatten ++ xss[k] := by rw [List.take_succ_eq_append_getElem hlt]; simp only [List.flatten_append, List.flatten_cons, List.flatten_nil, List.append_nil]
      have HF := Lib.hid hflat
      rw [hflat] at hfl
      rw [List.length_append] at hfl
      generalize hxk : xss[k] = xk at *
      generalize vs[k] = vk at *
      generalize (xss.take k).flatten = fl at *
      obtain ⟨ak, ck, rfl, -⟩ := id hby
      have HBY := Lib.hid hb'
      have HB0 := Lib.hid hby
      clear hc hu hx hby hb' hflat hxk
      go_wp2_with (first
        | (at_builtin; have _t := HO; refine app_list tyBytes HO.out HBY.out.rd (bvs_one _) (by omega) (by omega) HBW.out.size rfl rfl rfl rfl ?_; intro v2 w2 hown2 hg2 hn2; have HB2 := Lib.hid (HBW.out.grown hg2 HBW.out.size (fun j e => (World.ownsRow.lt HO.out j e).1)); have c2 := cell_later HB2.out c0; clear HO hn2; have HO2 := Lib.hid hown2; clear hown2)
        | fail)
      refine (extend_calls _ _ xk _ (HB0.out.below HB2.out (Nat.le_refl _))).mono ?_
      rintro e w3 ⟨rfl, hb3⟩
      have he : ext (CrcM.sum fl) xk = CrcM.sum (fl ++ xk) := (ext_append _ _ _).symm
      rw [he]
      clear he
      go_wp2
      go_roundw
      case rel =>
        refine ⟨k + 1, by omega, by go_num, ?_, by rw [HF.out], HB2.out.trans (hb3.mono HB2.out.size)⟩
        rw [HF.out, bvs_append, List.length_append]
        exact ownsRow_below HO2.out hb3 (Nat.le_refl _)
      case measure => simp [intOf]; omega
    · obtain rfl : k = xss.length := by omega
      have hby := Bytes.of_own HO.out
      have HBY := Lib.hid hby
      clear hby
      go_wp2_with fail
      refine (known_calls _).mono ?_
      rintro e w3 ⟨rfl, hb3⟩
      go_wp2_with fail
      refine (sum_calls _ _ _ (HBY.out.below hb3 (Nat.le_refl _))).mono ?_
      rintro e w4 ⟨rfl, hb4⟩
      go_wp2
      go_ret
      exact ⟨by simp, (HBW.out.trans (hb3.mono HBW.out.size)).trans (hb4.mono (HBW.out.trans (hb3.mono HBW.out.size)).size)⟩
end Go.Proofs.Ytficekhjigpglaa
