/- Layer 13: known walked. -/
import Derived.Test.YtbelhdnbmkemjaaDedup09
namespace Go.Proofs.Ytbelhdnbmkemjaa
open Go.RowKit Go.Shelf

theorem Rows.of_own {w : World} {base : Nat} {v : Value} {rs : List Row} (h : w.ownsRow base 42 3 v rs.length (flatF Row.cells rs)) : Rows w v rs := Rd.of_own h
theorem Rows.below {w w' : World} {v : Value} {rs : List Row} {B : Nat} (h : Rows w v rs) (hb : Below B w w') (hB : w.heap.size ≤ B) : Rows w' v rs := Rd.below h hb hB

set_option maxHeartbeats 1000000 in
theorem known_calls (w : World) : Calls Try.prog 7 #[] w fun e w' => e = .returned (.bool true) ∧ Below w.heap.size w w' := by
  go_enter Try.func7, Try.ntmps7
  go_wp2_with fail
  refine (take_calls (.slice none 0 0) [] 3 1 0 _ (Rd.nil _ _) ⟨trivial, fun r h => by cases h⟩ (fun r h => by cases h) ⟨by omega, by omega⟩).mono ?_
  rintro e w1 ⟨v1, rfl, ho1, hb1⟩
  have hc1 : takeCode [] 3 1 0 = 1 := by decide
  have hr1 : takeRows [] 3 1 0 = [⟨3, 1, 0⟩] := if_pos (by decide)
  rw [hc1]
  rw [hr1] at ho1
  obtain ⟨a1, c1, rfl⟩ := own_slice ho1
  have HR := Lib.hid (Rows.of_own ho1)
  have HB := Lib.hid hb1
  clear hc1 hr1 ho1 hb1
  go_wp2_with fail
  have hal := (Below.refl w1.heap.size w1).alloc (Nat.le_refl _) (.cells #[.int .i64 3, .int .i64 1, .int .i64 0] 42)
  have HAL := Lib.hid hal
  have hlit : Rows (w1.alloc (.cells #[.int .i64 3, .int .i64 1, .int .i64 0] 42)) (.slice (some ⟨w1.heap.size, 0, none⟩) 1 1) [⟨3, 1, 0⟩] := Rd.lit (n := 1) rfl (by omega)
  refine (rsame_calls _ _ _ _ (HR.out.below hal (Nat.le_refl _)) hlit).mono ?_
  rintro e w2 ⟨rfl, hb2⟩
  have HB2 := Lib.hid (hal.trans (hb2.mono hal.size))
  have HR2 := Lib.hid (HR.out.below HB2.out (Nat.le_refl _))
  clear hal hlit hb2
  go_wp2_with fail
  refine (look_calls _ _ _ _ _ _ HR2.out (fun r h => by rw [List.mem_singleton.1 h]; unfold Row.ok I64; decide) ⟨by omega, by omega⟩).mono ?_
  rintro e w3 ⟨rfl, hb3⟩
  have hl3 : lookOf [⟨3, 1, 0⟩] 3 1 0 = 2 := by decide
  rw [hl3]
  have HB3 := Lib.hid (HB2.out.trans (hb3.mono HB2.out.size))
  have HR3 := Lib.hid (HR.out.below HB3.out (Nat.le_refl _))
  clear hb3 hl3
  go_wp2_with fail
  refine (look_calls _ _ _ _ _ _ HR3.out (fun r h => by rw [List.mem_singleton.1 h]; unfold Row.ok I64; decide) ⟨by omega, by omega⟩).mono ?_
  rintro e w4 ⟨rfl, hb4⟩
  have hl4 : lookOf [⟨3, 1, 0⟩] 3 1 3 = 3 := by decide
  rw [hl4]
  have HB4 := Lib.hid (HB3.out.trans (hb4.mono HB3.out.size))
  clear hb4 hl4
  go_wp2_with fail
  go_ret
  exact ⟨rfl, HB.out.trans (HB4.out.mono HB.out.size)⟩
end Go.Proofs.Ytbelhdnbmkemjaa
