/- From a reading of an argument as data to what the walks ask. -/
import Derived.Test.YtficekhjigpglaaRows
import Derived.Test.YtficekhjigpglaaOwn
import Derived.ProofKit
import Derived.OpenShut
import Derived.ShutString
import Derived.ChangeOld
import Derived.Deep.CondSized
namespace Go.Proofs.Ytficekhjigpglaa
open Go.RowKit Go.ChangeShapes Go.WideShapes Go.ChangeAt

theorem own_knob : ownKnob Try.prog.godebug = none := by kernel_rfl
theorem laid_out : laidOutB Try.prog = true := by kernel_rfl

theorem bulk_all {H : Type} (l : List (DataW H)) : l.length ≤ Rows.uptoBulkAll l := by
  induction l with
  | nil => simp
  | cons d l ih =>
    have : 1 ≤ Rows.uptoBulk d := by
      cases d with
      | lit x => cases x <;> simp only [Rows.uptoBulk] <;> omega
      | _ => simp only [Rows.uptoBulk] <;> omega
    simp only [List.length_cons, Rows.uptoBulkAll]; omega

theorem addr_spot {w : World} {a : Addr} {v : Value} (h : w.cell? (a.add 0) = some v) : a = ⟨a.block, a.off, none⟩ := by
  obtain ⟨b, o, s⟩ := a
  have := World.cell?_spot h
  simp [Addr.add] at this
  simp [this]

theorem length_bulk {H : Type} (es sp : List (DataW H)) : es.length ≤ Rows.uptoBulk (.slice es sp) := by
  have := bulk_all es
  simp only [Rows.uptoBulk]; omega

/-- []byte -/
theorem open_bytes {H : Type} {enc : TypeId × Value → H} {W : World} {B : Nat} {held : Bool} {v : Value} {d : DataW H} {p : List MemPlace}
    (ok : Value.okWide Try.prog W .any B 23 v) (h : DataW.Trod enc Try.prog W 0 (fun _ => true) held 23 v d p) : ∃ xs, Bytes W v xs ∧ xs.length ≤ Rows.uptoBulk d := by
  obtain ⟨a, len, cap, rfl⟩ := okWide_slice Try.underlying23 ok
  obtain ⟨fuel, hf⟩ := h
  rcases open_ints Try.underlying23 Try.underlying5 (by kernel_rfl) hf with ⟨hcs, hx⟩ | ⟨x, l, c, zs, hcs, _, hl, hm, hz, hx, hcell, hwz⟩
  · simp [Value.cells] at hcs
    obtain ⟨rfl, rfl, rfl⟩ := hcs
    exact ⟨[], Bytes.nil W, by simp⟩
  · simp [Value.cells] at hcs
    obtain ⟨rfl, rfl, rfl⟩ := hcs
    simp only [if_true] at hz
    have hxl : ((zs.take len).map fun n => UInt8.ofNat n.toNat).length = len := by simp; omega
    refine ⟨(zs.take len).map fun n => UInt8.ofNat n.toNat, ⟨some x, cap, by rw [hxl], by rw [hxl]; exact hl, by unfold maxLen at hm; omega, ?_⟩, ?_⟩
    · by_cases h0 : cap = 0
      · exact .inl h0
      · have hs := addr_spot (hcell 0 (by omega))
        refine .inr ⟨x.block, x.off, by rw [← hs], fun i hi => ?_⟩
        rw [hxl] at hi
        have hi2 : i < zs.length := by omega
        have := hcell i hi2
        rw [hs, add_off] at this
        rw [this]
        have hw := hwz (zs.getD i 0) (by rw [List.getD_eq_getElem?_getD, List.getElem?_eq_getElem hi2]; exact List.getElem_mem hi2)
        have hb := Go.bounds_u8 hw
        have e : ((zs.take len).map fun n => UInt8.ofNat n.toNat).getD i 0 = UInt8.ofNat (zs.getD i 0).toNat := by
          rw [List.getD_eq_getElem?_getD, List.getElem?_map, List.getElem?_take_of_lt hi, List.getD_eq_getElem?_getD, List.getElem?_eq_getElem hi2]; rfl
        unfold bt
        rw [e]
        generalize zs.getD i 0 = q at *
        congr 2
        simp; omega
    · simp only [Prod.mk.injEq] at hx
      rw [hx.1, hxl]
      refine Nat.le_trans ?_ (length_bulk _ _)
      simp [lits]; omega

/-- uint32 -/
theorem open_u32 {H : Type} {enc : TypeId × Value → H} {W : World} {B : Nat} {held : Bool} {v : Value} {d : DataW H} {p : List MemPlace}
    (ok : Value.okWide Try.prog W .any B 22 v) (h : DataW.Trod enc Try.prog W 0 (fun _ => true) held 22 v d p) : ∃ s : BitVec 32, v = .int .u32 s.toNat := by
  obtain ⟨x, rfl, rfl, rfl, wx⟩ := open_int Try.underlying22 ok h
  refine ⟨BitVec.ofNat 32 x.toNat, ?_⟩
  have hb := Go.bounds_u32 wx
  congr 1
  simp; omega
/-- int -/
theorem open_i64 {H : Type} {enc : TypeId × Value → H} {W : World} {B : Nat} {held : Bool} {v : Value} {d : DataW H} {p : List MemPlace}
    (ok : Value.okWide Try.prog W .any B 3 v) (h : DataW.Trod enc Try.prog W 0 (fun _ => true) held 3 v d p) : ∃ n : Int, v = .int .i64 n ∧ -9223372036854775808 ≤ n ∧ n ≤ 9223372036854775807 := by
  obtain ⟨x, rfl, rfl, rfl, wx⟩ := open_int Try.underlying3 ok h
  exact ⟨x, rfl, Go.bounds_i64 wx⟩
end Go.Proofs.Ytficekhjigpglaa
