/- Layers 9 and 15: Good at a record, count, Of walked. -/
import Derived.Test.YtibmgjhpkdgnpaaQuota01
namespace Go.Proofs.Ytibmgjhpkdgnpaa
open Go.RowKit

theorem good_ways (r : Rec) :
    (decide (0 ≤ r.p) = false ∧ goodRec r = false) ∨
    ((decide (0 ≤ r.p) = true ∧ decide (r.p ≤ 63) = false) ∧ goodRec r = false) ∨
    ((decide (0 ≤ r.p) = true ∧ decide (r.p ≤ 63) = true ∧ decide (0 ≤ r.s) = false) ∧ goodRec r = false) ∨
    ((decide (0 ≤ r.p) = true ∧ decide (r.p ≤ 63) = true ∧ decide (0 ≤ r.s) = true ∧ decide (0 ≤ r.q) = false) ∧ goodRec r = false) ∨
    ((decide (0 ≤ r.p) = true ∧ decide (r.p ≤ 63) = true ∧ decide (0 ≤ r.s) = true ∧ decide (0 ≤ r.q) = true ∧ decide (r.q < 8) = false ∧ decide (r.q ≤ 7) = false) ∧ goodRec r = false) ∨
    ((decide (0 ≤ r.p) = true ∧ decide (r.p ≤ 63) = true ∧ decide (0 ≤ r.s) = true ∧ decide (0 ≤ r.q) = true ∧ decide (r.q < 8) = true ∧ decide (r.q ≤ 7) = true ∧ decide (r.key.size ≤ 32) = false ∧ decide ((r.key.size : Int) ≤ 32) = false) ∧ goodRec r = false) ∨
    ((decide (0 ≤ r.p) = true ∧ decide (r.p ≤ 63) = true ∧ decide (0 ≤ r.s) = true ∧ decide (0 ≤ r.q) = true ∧ decide (r.q < 8) = true ∧ decide (r.q ≤ 7) = true ∧ decide (r.key.size ≤ 32) = true ∧ decide ((r.key.size : Int) ≤ 32) = true) ∧ goodRec r = true) := by
  unfold goodRec
  simp only [decide_eq_true_eq, decide_eq_false_iff_not]
  omega

set_option maxHeartbeats 2000000 in
set_option maxRecDepth 100000 in
theorem good_calls (r : Rec) (w : World) :
    Calls Try.prog 11 #[.agg #[.int .i64 1, .int .i64 r.p, .int .i64 r.s, .int .i64 r.q, .string r.key, .int .u32 r.val, .slice none 0 0, .int .i64 0]] w fun e w' => e = .returned (.bool (goodRec r)) ∧ Below w.heap.size w w' := by
  have hway := good_ways r
  generalize goodRec r = g at *
  obtain ⟨p, s, q, key, val⟩ := r
  simp only at hway ⊢
  rcases hway with ⟨k1, rfl⟩ | ⟨⟨k1, k2⟩, rfl⟩ | ⟨⟨k1, k2, k3⟩, rfl⟩ | ⟨⟨k1, k2, k3, k4⟩, rfl⟩ | ⟨⟨k1, k2, k3, k4, k5, k5'⟩, rfl⟩ | ⟨⟨k1, k2, k3, k4, k5, k5', k6, k6'⟩, rfl⟩ | ⟨⟨k1, k2, k3, k4, k5, k5', k6, k6'⟩, rfl⟩
  all_goals
    go_enter Try.func11, Try.ntmps11
    go_wp2_with fail
    go_loopw [4, 68] (fun _ i wr => i = .int .i64 0 ∧ wr = w.alloc (.cells #[.int .i64 1, .int .i64 p, .int .i64 s, .int .i64 q, .string key, .int .u32 val, .slice none 0 0, .int .i64 0] 47)) (fun _ _ _ => 0)
    case atStart => exact ⟨rfl, rfl⟩
    case round =>
      obtain ⟨rfl, rfl⟩ := hrel
      go_wp2_with fail
      go_ret
      exact ⟨rfl, ((Below.refl _ _).alloc (Nat.le_refl _) _).alloc (by simp) _⟩

set_option maxHeartbeats 2000000 in
set_option maxRecDepth 100000 in
theorem rgood_calls (r : Rec) (w : World) :
    Calls Try.prog 18 #[.agg #[.int .i64 1, .int .i64 r.p, .int .i64 r.s, .int .i64 r.q, .string r.key, .int .u32 r.val, .slice none 0 0, .int .i64 0]] w fun e w' => e = .returned (.bool (goodRec r)) ∧ Below w.heap.size w w' := by
  have hway := good_ways r
  generalize goodRec r = g at *
  obtain ⟨p, s, q, key, val⟩ := r
  simp only at hway ⊢
  rcases hway with ⟨k1, rfl⟩ | ⟨⟨k1, k2⟩, rfl⟩ | ⟨⟨k1, k2, k3⟩, rfl⟩ | ⟨⟨k1, k2, k3, k4⟩, rfl⟩ | ⟨⟨k1, k2, k3, k4, k5, k5'⟩, rfl⟩ | ⟨⟨k1, k2, k3, k4, k5, k5', k6, k6'⟩, rfl⟩ | ⟨⟨k1, k2, k3, k4, k5, k5', k6, k6'⟩, rfl⟩
  all_goals
    go_enter Try.func18, Try.ntmps18
    go_wp2_with fail
    go_ret
    exact ⟨rfl, ((Below.refl _ _).alloc (Nat.le_refl _) _).alloc (by simp) _⟩
end Go.Proofs.Ytibmgjhpkdgnpaa
