/- The table of half bytes: what crc.half hands back. -/
import Derived.Test.YtfmfmalhebfnhaaRows
import Derived.Test.YtfmfmalhebfnhaaCrcMath
import Derived.Test.YtfmfmalhebfnhaaLib
import Derived.Laws.BitsAllLaws
namespace Go.Proofs.Ytfmfmalhebfnhaa
open Go.RowKit
namespace CrcM

/-- The table's entries as numbers. -/
def tv (j : Nat) : Int := ((tbl j).toNat : Int)
def tk (k j : Nat) : Int := if j < k then tv j else 0
theorem tk_zero (j : Nat) : tk 0 j = 0 := by simp [tk]
theorem tk_full (j : Nat) (h : j < 16) : tk 16 j = tv j := by simp [tk, h]
theorem tk_same (k : Nat) : tk (k + 1) k = tv k := by simp [tk]
theorem tk_other (k j : Nat) (h : j ≠ k) : tk (k + 1) j = tk k j := by
  unfold tk
  by_cases h1 : j < k
  · rw [if_pos h1, if_pos (by omega)]
  · rw [if_neg h1, if_neg (by omega)]

theorem bs_walk (x : BitVec 32) : bits BinOp.xor IntKind.u32 ((x.toNat : Int) / 2) (2197175160 * bits BinOp.and IntKind.u32 (x.toNat : Int) 1 % 4294967296) = ((bs x).toNat : Int) := by
  have hx := x.isLt
  have h1 : bits BinOp.and IntKind.u32 (x.toNat : Int) 1 = ((x.toNat &&& 1 : Nat) : Int) := u32_and_nat x.toNat 1 hx (by omega)
  rw [h1]
  have h2 : (2197175160 * ((x.toNat &&& 1 : Nat) : Int) % 4294967296) = ((2197175160 * (x.toNat &&& 1) % 4294967296 : Nat) : Int) := by omega
  have h3 : ((x.toNat : Int) / 2) = ((x.toNat / 2 : Nat) : Int) := by omega
  rw [h2, h3, u32_xor_nat _ _ (by omega) (by omega)]
  congr 1

end CrcM
open CrcM

theorem bsn_step (l : Nat) (y : BitVec 32) : bs (bsn l y) = bsn (l + 1) y := by rw [bsn_add l 1]; rfl

/-- What half hands back. -/
def tblV : Value := .agg #[.int .u32 (tv 0), .int .u32 (tv 1), .int .u32 (tv 2), .int .u32 (tv 3), .int .u32 (tv 4), .int .u32 (tv 5), .int .u32 (tv 6), .int .u32 (tv 7), .int .u32 (tv 8), .int .u32 (tv 9), .int .u32 (tv 10), .int .u32 (tv 11), .int .u32 (tv 12), .int .u32 (tv 13), .int .u32 (tv 14), .int .u32 (tv 15)]

/-- What the round of half's loop keeps. -/
structure HalfRel (w wr : World) (k : Nat) : Prop where
  t : ∀ j, j < 16 → wr.cell? ⟨w.heap.size + 1, j, none⟩ = some (.int .u32 (tk k j))
  r : ∀ j, j < 16 → wr.cell? ⟨w.heap.size, j, none⟩ = some (.int .u32 0)
  ft : ∀ j, wr.frozen? ⟨w.heap.size + 1, j, none⟩ = false
  fr : ∀ j, wr.frozen? ⟨w.heap.size, j, none⟩ = false
  b : Below w.heap.size w wr

theorem half_start (w : World) (t : TypeId) : HalfRel w ((w.alloc (.cells #[.int .u32 0, .int .u32 0, .int .u32 0, .int .u32 0, .int .u32 0, .int .u32 0, .int .u32 0, .int .u32 0, .int .u32 0, .int .u32 0, .int .u32 0, .int .u32 0, .int .u32 0, .int .u32 0, .int .u32 0, .int .u32 0] t)).alloc (.cells #[.int .u32 0, .int .u32 0, .int .u32 0, .int .u32 0, .int .u32 0, .int .u32 0, .int .u32 0, .int .u32 0, .int .u32 0, .int .u32 0, .int .u32 0, .int .u32 0, .int .u32 0, .int .u32 0, .int .u32 0, .int .u32 0] t)) 0 := by
  have z : ∀ j, j < 16 → (#[Value.int .u32 0, .int .u32 0, .int .u32 0, .int .u32 0, .int .u32 0, .int .u32 0, .int .u32 0, .int .u32 0, .int .u32 0, .int .u32 0, .int .u32 0, .int .u32 0, .int .u32 0, .int .u32 0, .int .u32 0, .int .u32 0] : Array Value)[j]? = some (.int .u32 0) := by
    intro j hj
    have : j = 0 ∨ j = 1 ∨ j = 2 ∨ j = 3 ∨ j = 4 ∨ j = 5 ∨ j = 6 ∨ j = 7 ∨ j = 8 ∨ j = 9 ∨ j = 10 ∨ j = 11 ∨ j = 12 ∨ j = 13 ∨ j = 14 ∨ j = 15 := by omega
    rcases this with rfl | rfl | rfl | rfl | rfl | rfl | rfl | rfl | rfl | rfl | rfl | rfl | rfl | rfl | rfl | rfl <;> rfl
  refine ⟨fun j hj => ?_, fun j hj => ?_, fun j => ?_, fun j => ?_, ?_⟩
  · rw [World.cell?_alloc_at _ _ _ _ (by simp), z j hj, tk_zero]
  · rw [World.cell?_alloc_past _ _ _ (by simp), World.cell?_alloc_at _ _ _ _ rfl, z j hj]
  · rw [World.frozen?_alloc_at _ _ _ _ (by simp)]
  · rw [World.frozen?_alloc_past _ _ _ (by simp), World.frozen?_alloc_at _ _ _ _ rfl]
  · exact ((Below.refl _ _).alloc (Nat.le_refl _) _).alloc (by simp) _

theorem half_store {w wr : World} {k : Nat} (h : HalfRel w wr k) (hk : k < 16) : HalfRel w (wr.setCell ⟨w.heap.size + 1, k, none⟩ (.int .u32 (tv k))) (k + 1) := by
  refine ⟨fun j hj => ?_, fun j hj => ?_, fun j => ?_, fun j => ?_, h.b.setCell (by simp) _⟩
  · by_cases e : j = k
    · subst e; rw [cell_set_same _ (h.t j hj), tk_same]
    · rw [cell_set_off _ e, h.t j hj, tk_other k j e]
  · rw [cell_set_block _ (by omega), h.r j hj]
  · rw [frozen_set, h.ft]
  · rw [frozen_set, h.fr]

set_option maxHeartbeats 800000 in
theorem half_calls (w : World) :
    Calls Try.prog 32 #[] w fun e w' => e = .returned tblV ∧ Below w.heap.size w w' := by
  go_enter Try.func32, Try.ntmps32
  go_wp2
  go_loopw [2, 3, 4, 9] (fun _ _ i _ wr => ∃ k : Nat, k ≤ 16 ∧ i = .int .i64 k ∧ HalfRel w wr k) (fun _ _ i _ _ => 16 - (intOf i).toNat)
  case atStart => exact ⟨0, by omega, rfl, half_start w _⟩
  case round =>
    obtain ⟨k, hk, rfl, hr⟩ := hrel
    have hc := hr.t
    have hc0 := hr.r
    have hf := hr.ft
    have hf0 := hr.fr
    have hB := Lib.hid hr.b
    by_cases hlt : k < 16
    · have HR := Lib.hid hr
      clear hr
      go_wp2
      go_loopw [3, 9] (fun r j wq => ∃ (l : Nat), l ≤ 4 ∧ j = .int .i64 l ∧ r = .int .u32 ((bsn l (BitVec.ofNat 32 k)).toNat) ∧ wq = wr) (fun _ j _ => 4 - (intOf j).toNat)
      case atStart => exact ⟨0, by omega, rfl, by simp [bsn]; omega, rfl⟩
      case round =>
        obtain ⟨l, hl, rfl, rfl, rfl⟩ := hrel
        have hx := (bsn l (BitVec.ofNat 32 k)).isLt
        by_cases hll : l < 4
        · go_wp2
          go_roundw
          case rel => exact ⟨l + 1, by omega, by go_num, by rw [bs_walk, bsn_step], trivial⟩
          case measure => simp [intOf]; omega
        · obtain rfl : l = 4 := by omega
          go_wp2
          go_roundw
          case rel => exact ⟨k + 1, by omega, by go_num, half_store HR.out hlt⟩
          case measure => simp [intOf]; omega
    · obtain rfl : k = 16 := by omega
      have hc' : ∀ j, j < 16 → wr.cell? ⟨w.heap.size + 1, j, none⟩ = some (.int .u32 (tv j)) := fun j hj => by rw [hc j hj, tk_full j hj]
      clear hc hr
      go_wp2
      refine bodyPost_ret (v := tblV) ?_ rfl ⟨rfl, ?_⟩
      · simp [results, Try.results32, go_sem, hc0, tblV]
      · exact (((((((((((((((((hB.out).setCell (by simp) _).setCell (by simp) _).setCell (by simp) _).setCell (by simp) _).setCell (by simp) _).setCell (by simp) _).setCell (by simp) _).setCell (by simp) _).setCell (by simp) _).setCell (by simp) _).setCell (by simp) _).setCell (by simp) _).setCell (by simp) _).setCell (by simp) _).setCell (by simp) _).setCell (by simp) _)
end Go.Proofs.Ytfmfmalhebfnhaa
