/- The laws of layer 1, walked: each returns true and turns nothing that was there. -/
import Derived.Test.YtficekhjigpglaaCrcRef
import Derived.Lib.SlBytesConst
namespace Go.Proofs.Ytficekhjigpglaa
open Go.RowKit CrcM

theorem known_sum : CrcM.sum [49, 50, 51, 52, 53, 54, 55, 56, 57] = 0xe3069283#32 := by decide +kernel

theorem Bytes.lit (w : World) (xs : List UInt8) (e : TypeId) (fr : Nat × Nat) (h : xs.length ≤ 9223372036854775807) : Bytes (w.alloc (.cells (bvs xs).toArray e fr)) (.slice (some ⟨w.heap.size, 0, none⟩) xs.length xs.length) xs := by
  refine ⟨_, _, rfl, Nat.le_refl _, h, .inr ⟨_, _, rfl, fun i hi => ?_⟩⟩
  rw [World.cell?_alloc_mark]
  simpa using bvs_get xs i hi

set_option maxHeartbeats 800000 in
theorem known_calls (w : World) : Calls Try.prog 9 #[] w fun e w' => e = .returned (.bool true) ∧ Below w.heap.size w w' := by
  have kc := fun (w : World) (C : Array Value) (n c : Nat) => Lib.run_convert_bytes_const (P := Try.prog) w 23 5 C n c Try.underlying23 Try.underlying5
  have hb := Bytes.lit w [49, 50, 51, 52, 53, 54, 55, 56, 57] 5 (9, 10) (by decide)
  have HB := Lib.hid hb
  clear hb
  go_enter Try.func9, Try.ntmps9
  go_wp2_with fail
  refine (sum_calls _ _ _ HB.out).mono ?_
  rintro e w1 ⟨rfl, hb1⟩
  rw [known_sum]
  go_wp2
  go_ret
  exact ⟨rfl, (((Below.refl _ w).alloc (Nat.le_refl _) _)).trans (hb1.mono (by simp))⟩

set_option maxHeartbeats 800000 in
theorem sums_core (s : BitVec 32) (v : Value) (xs : List UInt8) (w : World) (hv : Bytes w v xs) :
    Calls Try.prog 3 #[.int .u32 s.toNat, v] w fun e w' => e = .returned (.bool true) ∧ Below w.heap.size w w' := by
  have HV := Lib.hid hv
  obtain ⟨a, c, rfl, -⟩ := hv
  go_enter Try.func3, Try.ntmps3
  go_wp2_with fail
  refine (known_calls _).mono ?_
  rintro e w1 ⟨rfl, hb1⟩
  go_wp2_with fail
  refine (sum_calls _ xs _ (HV.out.below hb1 (Nat.le_refl _))).mono ?_
  rintro e w2 ⟨rfl, hb2⟩
  have hb2' := hb1.trans (hb2.mono hb1.size)
  clear hb2
  go_wp2_with fail
  refine (rext_calls 0#32 _ xs _ (HV.out.below hb2' (Nat.le_refl _))).mono ?_
  rintro e w3 ⟨rfl, rfl⟩
  go_wp2_with fail
  refine (extend_calls s _ xs _ (HV.out.below hb2' (Nat.le_refl _))).mono ?_
  rintro e w3 ⟨rfl, hb3⟩
  have hb3' := hb2'.trans (hb3.mono hb2'.size)
  clear hb3
  go_wp2_with fail
  refine (rext_calls s _ xs _ (HV.out.below hb3' (Nat.le_refl _))).mono ?_
  rintro e w3 ⟨rfl, rfl⟩
  go_wp2
  go_ret
  exact ⟨rfl, hb3'⟩
end Go.Proofs.Ytficekhjigpglaa
