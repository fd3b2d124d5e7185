/- Layer 2: FramePuts, FrameNexts walked. -/
import Derived.Test.YtfmfmalhebfnhaaFrame04
import Derived.Deep.OwnRows
namespace Go.Proofs.Ytfmfmalhebfnhaa
open Go.RowKit CrcM FrM

theorem PutOut.both {xs : List UInt8} {w w' : World} {r : Value} {c : Int} (h : PutOut xs w w' r c) : ∃ ys, Mine w' w.heap.size r ys ∧ ys = (if xs.length ≤ 65536 then frameOf xs else []) ∧ c = if xs.length ≤ 65536 then 0 else 2 := by
  unfold PutOut at h
  by_cases hl : xs.length ≤ 65536
  · rw [if_pos hl] at h ⊢
    rw [if_pos hl]
    exact ⟨_, h.1, rfl, h.2⟩
  · rw [if_neg hl] at h ⊢
    rw [if_neg hl]
    obtain ⟨rfl, h⟩ := h
    exact ⟨_, Mine.nil _ _, rfl, h⟩
theorem frameOf_nil : frameOf [] = [0, 0, 0, 0, 199, 75, 103, 72, 0, 0, 0, 0] := by decide +kernel
theorem next_zero : next [0, 0, 0, 0, 0, 0, 0, 0] 0 = ([], 0, 4) := by decide +kernel

set_option maxRecDepth 100000 in
theorem known_calls (w : World) : Calls Try.prog 12 #[] w fun e w' => e = .returned (.bool true) ∧ Below w.heap.size w w' := by
  go_enter Try.func12, Try.ntmps12
  go_wp2_with fail
  refine (put_calls (.slice none 0 0) [] _ (Mine.nil w 0).bytes).mono ?_
  rintro e w1 ⟨r1, c1, rfl, hp1, hb1⟩
  unfold PutOut at hp1
  rw [if_pos (by simp)] at hp1
  obtain ⟨hm1, rfl⟩ := hp1
  rw [frameOf_nil] at hm1
  have HM1 := Lib.hid hm1
  have HB1 := Lib.hid hb1
  clear hm1 hb1
  have hmk : ∀ w : World, (Instr.makeSlice 22 (.int .i64 8) (.int .i64 8)).run Try.prog w = .ok (.slice (some ⟨w.heap.size, 0, none⟩) 8 8) (w.alloc (.cells (madeCells #[.int .u8 0] 8) 5)) := fun w => run_make_row' (P := Try.prog) 22 5 (.int .u8 0) 1 Try.underlying22 (by kernel_rfl) rfl .i64 .i64 8 (by omega) (by omega) w
  go_wp2_with fail
  have hx := Mine.lit w1 w1.heap.size 8 (madeCells #[.int .u8 0] 8) [0, 0, 0, 0, 0, 0, 0, 0] (Nat.le_refl _) (by omega) rfl (by simp [madeCells, bvs, byteV]; rfl)
  refine (next_calls _ [0, 0, 0, 0, 0, 0, 0, 0] 0 _ hx.bytes (by omega) (by simp)).mono ?_
  clear hx
  rintro e w2 ⟨r2, n2, c2, rfl, ⟨hm2, hn2, hc2⟩, hb2⟩
  rw [next_zero] at hn2 hc2
  simp only at hn2 hc2
  subst hn2 hc2
  have hb2' := HB1.out.trans ((((Below.refl w1.heap.size w1).alloc (Nat.le_refl _) (.cells (madeCells #[.int .u8 0] 8) 5)).trans (hb2.mono (by simp))).mono HB1.out.size)
  have hmm := HM1.out.below (((Below.refl w1.heap.size w1).alloc (Nat.le_refl _) (.cells (madeCells #[.int .u8 0] 8) 5)).trans (hb2.mono (by simp))) (Nat.le_refl _)
  have hs := run_bytes_str (P := Try.prog) (src := 22) (e := 5) (dst := 9) Try.underlying22 Try.underlying5 Try.underlying9 hmm.bytes
  obtain ⟨g, cc, rfl, -⟩ := own_succ (n := 11) hmm
  have HB2 := Lib.hid hb2'
  clear hb2' hmm hb2 hm2 hmk
  have hbs := bstr_toList [0, 0, 0, 0, 199, 75, 103, 72, 0, 0, 0, 0]
  go_wp2_with fail
  go_ret
  exact ⟨rfl, HB2.out⟩

set_option maxHeartbeats 800000 in
theorem puts_core (v : Value) (xs : List UInt8) (w : World) (hv : Bytes w v xs) :
    Calls Try.prog 3 #[v] w fun e w' => e = .returned (.bool true) ∧ Below w.heap.size w w' := by
  have HV := Lib.hid hv
  obtain ⟨a, cap, rfl, -⟩ := hv
  go_enter Try.func3, Try.ntmps3
  go_wp2_with fail
  refine (put_calls _ xs _ HV.out).mono ?_
  rintro e w1 ⟨r1, c1, rfl, hp1, hb1⟩
  have hq1 := hp1.both
  clear hp1
  obtain ⟨ys, hm1, hy1, hc1⟩ := hq1
  have HM1 := Lib.hid hm1
  have HB1 := Lib.hid hb1
  have HY1 := Lib.hid hy1
  have HC1 := Lib.hid hc1
  clear hm1 hb1 hy1 hc1
  go_wp2_with fail
  refine (rput_calls _ xs _ (HV.out.below HB1.out (Nat.le_refl _))).mono ?_
  rintro e w2 ⟨r2, c2, rfl, hp2, hb2⟩
  have hq2 := hp2.both
  clear hp2
  obtain ⟨ys2, hm2, hy2, hc2⟩ := hq2
  have he : ys2 = ys := hy2.trans HY1.out.symm
  have hec : c2 = c1 := hc2.trans HC1.out.symm
  subst he hec
  have HM2 := Lib.hid hm2
  have HN2 := Lib.hid (HM1.out.below hb2 (Nat.le_refl _))
  have HB2 := Lib.hid (HB1.out.trans (hb2.mono HB1.out.size))
  clear hm2 hb2 hy2 hc2
  go_wp2_with fail
  refine (known_calls _).mono ?_
  rintro e w3 ⟨rfl, hb3⟩
  have HM3 := Lib.hid (HM2.out.below hb3 (Nat.le_refl _))
  have HN3 := Lib.hid (HN2.out.below hb3 (Nat.le_refl _))
  have HB3 := Lib.hid (HB2.out.trans (hb3.mono HB2.out.size))
  clear hb3
  go_wp2_with fail
  refine (same_calls _ _ _ _ _ HN3.out.bytes HM3.out.bytes).mono ?_
  rintro e w4 ⟨rfl, rfl⟩
  rw [beq_self_eq_true]
  go_wp2_with fail
  go_ret
  exact ⟨rfl, HB3.out⟩

set_option maxHeartbeats 800000 in
theorem nexts_core (v : Value) (xs : List UInt8) (at_ : Int) (w : World) (hv : Bytes w v xs) (ha : -9223372036854775808 ≤ at_ ∧ at_ ≤ 9223372036854775807) (hlen : xs.length ≤ 140737488351232) :
    Calls Try.prog 4 #[v, .int .i64 at_] w fun e w' => e = .returned (.bool true) ∧ Below w.heap.size w w' := by
  have HV := Lib.hid hv
  obtain ⟨a, cap, rfl, -⟩ := hv
  have HA := Lib.hid ha
  clear ha
  go_enter Try.func4, Try.ntmps4
  go_wp2_with fail
  refine (next_calls _ xs at_ _ HV.out HA.out hlen).mono ?_
  rintro e w1 ⟨r1, n1, c1, rfl, ⟨hm1, hn1, hc1⟩, hb1⟩
  have HM1 := Lib.hid hm1
  have HB1 := Lib.hid hb1
  have HN1 := Lib.hid hn1
  have HC1 := Lib.hid hc1
  clear hm1 hb1 hn1 hc1
  go_wp2_with fail
  refine (rnext_calls _ xs at_ _ (HV.out.below HB1.out (Nat.le_refl _)) HA.out hlen).mono ?_
  rintro e w2 ⟨r2, n2, c2, rfl, ⟨hm2, hn2, hc2⟩, hb2⟩
  have he1 : n2 = n1 := hn2.trans HN1.out.symm
  have he2 : c2 = c1 := hc2.trans HC1.out.symm
  subst he1 he2
  have HM2 := Lib.hid hm2
  have HN2 := Lib.hid (HM1.out.below hb2 (Nat.le_refl _))
  have HB2 := Lib.hid (HB1.out.trans (hb2.mono HB1.out.size))
  clear hm2 hb2 hn2 hc2
  go_wp2_with fail
  refine (known_calls _).mono ?_
  rintro e w3 ⟨rfl, hb3⟩
  have HM3 := Lib.hid (HM2.out.below hb3 (Nat.le_refl _))
  have HN3 := Lib.hid (HN2.out.below hb3 (Nat.le_refl _))
  have HB3 := Lib.hid (HB2.out.trans (hb3.mono HB2.out.size))
  clear hb3
  go_wp2_with fail
  refine (same_calls _ _ _ _ _ HN3.out.bytes HM3.out.bytes).mono ?_
  rintro e w4 ⟨rfl, rfl⟩
  rw [beq_self_eq_true]
  go_wp2_with fail
  go_ret
  exact ⟨rfl, HB3.out⟩
end Go.Proofs.Ytfmfmalhebfnhaa

