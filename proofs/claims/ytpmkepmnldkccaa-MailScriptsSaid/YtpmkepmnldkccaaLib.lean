/- Small lemmas on the heap that the walks use; no program in sight. -/
import Derived.WalkKit
import Derived.WalkSpells
import Derived.WalkLawsBesides
import Derived.Lib.Hide
namespace Go.Proofs.Ytpmkepmnldkccaa
open Go.RowKit

theorem cell_set_same {w : World} {a : Addr} {u : Value} (v : Value) (h : w.cell? a = some u) : (w.setCell a v).cell? a = some v := World.cell?_setCell_same _ _ _ h
theorem cell_set_off {w : World} {b o p : Nat} (v : Value) (h : p ≠ o) : (w.setCell ⟨b, o, none⟩ v).cell? ⟨b, p, none⟩ = w.cell? ⟨b, p, none⟩ := World.cell?_setCell_other _ _ _ _ (by intro e; cases e; exact h rfl)
theorem cell_set_block {w : World} {b c o p : Nat} (v : Value) (h : c ≠ b) : (w.setCell ⟨b, o, none⟩ v).cell? ⟨c, p, none⟩ = w.cell? ⟨c, p, none⟩ := World.cell?_setCell_other _ _ _ _ (by intro e; cases e; exact h rfl)
theorem frozen_set {w : World} {a : Addr} {q : Addr} (v : Value) : (w.setCell a v).frozen? q = w.frozen? q := World.frozen?_setCell ..

/-- A byte of a row, as a number. -/
def bt (xs : List UInt8) (i : Nat) : Int := ((xs.getD i 0).toNat : Int)
theorem bt_lo (xs : List UInt8) (i : Nat) : 0 ≤ bt xs i := by unfold bt; omega
theorem bt_hi (xs : List UInt8) (i : Nat) : bt xs i < 256 := by unfold bt; have := (xs.getD i 0).toNat_lt; omega

/-- The value v is a slice of bytes that reads xs in w. -/
def Bytes (w : World) (v : Value) (xs : List UInt8) : Prop :=
  ∃ (a : Option Addr) (cap : Nat), v = .slice a xs.length cap ∧ xs.length ≤ cap ∧ cap ≤ 9223372036854775807 ∧
    (cap = 0 ∨ ∃ b off, a = some ⟨b, off, none⟩ ∧ ∀ i, i < xs.length → w.cell? ⟨b, off + i, none⟩ = some (.int .u8 (bt xs i)))

theorem Bytes.below {w w' : World} {v : Value} {xs : List UInt8} (h : Bytes w v xs) {B : Nat} (hb : Below B w w') (hB : w.heap.size ≤ B) : Bytes w' v xs := by
  obtain ⟨a, cap, hv, h1, h2, h3⟩ := h
  refine ⟨a, cap, hv, h1, h2, ?_⟩
  rcases h3 with h3 | ⟨b, off, ha, hc⟩
  · exact .inl h3
  · exact .inr ⟨b, off, ha, fun i hi => (hb.cell (p := ⟨b, off + i, none⟩) (Nat.lt_of_lt_of_le (World.block_lt_of_cell? w _ (hc i hi)) hB)).trans (hc i hi)⟩
theorem Bytes.nil (w : World) : Bytes w (.slice none 0 0) [] := ⟨none, 0, rfl, Nat.le_refl _, by omega, .inl rfl⟩

end Go.Proofs.Ytpmkepmnldkccaa
