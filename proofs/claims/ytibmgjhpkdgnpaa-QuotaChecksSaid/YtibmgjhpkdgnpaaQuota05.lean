/- Layer 15: known walked; ledgers and records read of an argument. -/
import Derived.Test.YtibmgjhpkdgnpaaQuota04
namespace Go.Proofs.Ytibmgjhpkdgnpaa
open Go.RowKit Go.Shelf Go.ChangeShapes Go.WideShapes Go.ChangeAt

def rec0 : Rec := ⟨0, 0, 0, ⟨#[]⟩, 0⟩
def rec2 : Rec := ⟨0, 2, 0, ⟨#[]⟩, 0⟩
theorem code0 : checkCode [] 0 [] [] rec0 = 0 := by decide
theorem code2 : checkCode [] 0 [] [rec0] rec2 = 11 := by
  have h1 : goodRec rec2 = true := by decide
  have h2 : lookOf [] rec2.p rec2.q rec2.s = 3 := by decide
  have h3 : onWay [rec0] rec2 rec2.s = false := by decide
  unfold checkCode
  rw [if_neg (by rw [h1]; simp), if_neg (by rw [h2]; omega), if_neg (by rw [h2]; omega), if_neg (by rw [h3]; simp), if_pos ⟨1, by decide, by decide⟩]

set_option maxHeartbeats 1000000 in
set_option maxRecDepth 100000 in
theorem known_calls (w : World) : Calls Try.prog 6 #[] w fun e w' => e = .returned (.bool true) ∧ Below w.heap.size w w' := by
  obtain ⟨X, hX⟩ : ∃ X, X = (w.alloc (.cells #[.int .i64 0, .int .i64 0, .int .i64 0, .string ⟨#[]⟩, .int .u32 0] 33)).alloc (.cells #[.int .i64 0, .int .i64 2, .int .i64 0, .string ⟨#[]⟩, .int .u32 0] 33) := ⟨_, rfl⟩
  have hbX : Below w.heap.size w X := by rw [hX]; exact ((Below.refl w.heap.size w).alloc (Nat.le_refl _) _).alloc (by simp) _
  have hXs : X.heap.size = w.heap.size + 2 := by rw [hX]; simp
  have r0 : RecBox X w.heap.size rec0 := by
    constructor <;> (rw [hX, World.cell?_alloc_past _ _ _ (by simp), World.cell?_alloc_at _ _ _ _ rfl]; rfl)
  have r2 : RecBox X (w.heap.size + 1) rec2 := by
    constructor <;> (rw [hX, World.cell?_alloc_at _ _ _ _ (by simp)]; rfl)
  have hz0 : rec0.ok := ⟨⟨by decide, by decide⟩, ⟨by decide, by decide⟩, ⟨by decide, by decide⟩, by decide⟩
  have hz2 : rec2.ok := ⟨⟨by decide, by decide⟩, ⟨by decide, by decide⟩, ⟨by decide, by decide⟩, by decide⟩
  have hlit : ∀ W : World, Recs (W.alloc (.cells #[.int .i64 0, .int .i64 0, .int .i64 0, .string ⟨#[]⟩, .int .u32 0] 33)) (.slice (some ⟨W.heap.size, 0, none⟩) 1 1) [rec0] := fun W => Rd.lit (w := W) (cs := #[.int .i64 0, .int .i64 0, .int .i64 0, .string ⟨#[]⟩, .int .u32 0]) (e := 33) (n := 1) (sz := 5) rfl (by omega)
  have HX := Lib.hid hX
  have HBX := Lib.hid hbX
  have HLIT := Lib.hid hlit
  have R0 := Lib.hid r0
  have R2 := Lib.hid r2
  clear hX hbX r0 r2 hlit
  go_enter Try.func6, Try.ntmps6
  go_wp2_with fail
  rw [← HX.out]
  refine (check_calls (.slice none 0 0) (.slice none 0 0) (.slice none 0 0) (.slice none 0 0) (.slice none 0 0) (fun _ => 0) 0 0 0 false [] [] [] rec0 X (Rd.nil _ _) (fun x h => by simp at h) (Rd.nil _ _) (Rd.nil _ _) hz0 (by simp)).mono ?_
  rintro e w1 ⟨rfl, hb1⟩
  rw [code0]
  have HB1 := Lib.hid hb1
  have q0 := R0.out.below hb1
  have q2 := R2.out.below hb1
  have y0 := q0.c0
  have y1 := q0.c1
  have y2 := q0.c2
  have y3 := q0.c3
  have y4 := q0.c4
  have z0 := cell_later ((Below.refl w1.heap.size w1).alloc (Nat.le_refl _) (.cells #[.int .i64 0, .int .i64 0, .int .i64 0, .string ⟨#[]⟩, .int .u32 0] 33)) q2.c0
  have z1 := cell_later ((Below.refl w1.heap.size w1).alloc (Nat.le_refl _) (.cells #[.int .i64 0, .int .i64 0, .int .i64 0, .string ⟨#[]⟩, .int .u32 0] 33)) q2.c1
  have z2 := cell_later ((Below.refl w1.heap.size w1).alloc (Nat.le_refl _) (.cells #[.int .i64 0, .int .i64 0, .int .i64 0, .string ⟨#[]⟩, .int .u32 0] 33)) q2.c2
  have z3 := cell_later ((Below.refl w1.heap.size w1).alloc (Nat.le_refl _) (.cells #[.int .i64 0, .int .i64 0, .int .i64 0, .string ⟨#[]⟩, .int .u32 0] 33)) q2.c3
  have z4 := cell_later ((Below.refl w1.heap.size w1).alloc (Nat.le_refl _) (.cells #[.int .i64 0, .int .i64 0, .int .i64 0, .string ⟨#[]⟩, .int .u32 0] 33)) q2.c4
  clear hb1 q0 q2
  simp only [rec0, rec2] at y0 y1 y2 y3 y4 z0 z1 z2 z3 z4
  go_wp2_with fail
  refine (check_calls (.slice none 0 0) (.slice none 0 0) (.slice none 0 0) (.slice none 0 0) (.slice (some ⟨w1.heap.size, 0, none⟩) 1 1) (fun _ => 0) 0 0 0 false [] [] [rec0] rec2 _ (Rd.nil _ _) (fun x h => by simp at h) (Rd.nil _ _) (HLIT.out w1) hz2 (by simp)).mono ?_
  rintro e w2 ⟨rfl, hb2⟩
  rw [code2]
  have hb12 : Below w1.heap.size w1 w2 := ((Below.refl w1.heap.size w1).alloc (Nat.le_refl _) (.cells #[.int .i64 0, .int .i64 0, .int .i64 0, .string ⟨#[]⟩, .int .u32 0] 33)).trans (hb2.mono (by simp))
  have HB2 := Lib.hid (HB1.out.trans (hb12.mono HB1.out.size))
  have y0 := cell_later hb12 y0
  have y1 := cell_later hb12 y1
  have y2 := cell_later hb12 y2
  have y3 := cell_later hb12 y3
  have y4 := cell_later hb12 y4
  clear hb2 hb12 z0 z1 z2 z3 z4
  go_wp2_with fail
  refine (of_calls (.slice none 0 0) (.slice (some ⟨w2.heap.size, 0, none⟩) 1 1) (.slice none 0 0) (.slice none 0 0) (fun _ => 0) 0 0 0 false [rec0] 0 _ (HLIT.out w2)).mono ?_
  rintro e w3 ⟨rfl, hb3⟩
  rw [show mine [rec0] 0 = 1 from by decide]
  have HB3 := Lib.hid (HB2.out.trans ((((Below.refl w2.heap.size w2).alloc (Nat.le_refl _) (.cells #[.int .i64 0, .int .i64 0, .int .i64 0, .string ⟨#[]⟩, .int .u32 0] 33)).trans (hb3.mono (by simp))).mono HB2.out.size))
  clear hb3 y0 y1 y2 y3 y4
  go_wp2_with fail
  go_ret
  exact ⟨rfl, HBX.out.trans (HB3.out.mono HBX.out.size)⟩
end Go.Proofs.Ytibmgjhpkdgnpaa
