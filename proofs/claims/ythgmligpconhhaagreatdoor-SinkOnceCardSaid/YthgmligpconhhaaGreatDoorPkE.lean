/- Walks and plain laws of the chapter, laid together; each part says what it proves. -/
import Derived.Stop.LaidErr
import Derived.Lib.LaidTab
import Derived.LaidLaws
import Derived.LaidSub
import Derived.Test.YthgmligpconhhaaGreatDoorPkA
import Derived.Test.YthgmligpconhhaaGreatDoorPkD
/- Layer 6: what Open asks, out of the laid variables. -/
namespace Go.Proofs.YthgmligpconhhaaGreatDoor
open Go.RowKit
set_option linter.unusedVariables false
set_option maxRecDepth 100000

theorem baseIs_of {nm f : ByteArray} {w : World} (hs : nm.size ≤ 1000000) (hf : f.size ≤ 1000000) (hv : VarsIn w) (hw : 5 ≤ w.heap.size) : BaseIs nm f (baseOf nm f) w := fun W hb =>
  sbase_calls nm f hs hf W (hv.below hb hw) (by have := hb.size; omega)
theorem openIn_of {w : World} {B d : Nat} {D : Dk} {nm : ByteArray} {room : Int} (hd : DiskAt w B d D) (hn : rightNm nm.data.toList = true) (hr : 1 ≤ room ∧ room ≤ 1048576) (hv : VarsIn w) (hw : 5 ≤ w.heap.size) (hf : ∀ f ∈ D.now, f.1.size ≤ 1000000) (hl : ∀ f ∈ D.now, f.2.2.length ≤ 1099511627776) (hc : D.now.length ≤ 100000) : OpenIn w B d D nm room (baseOf nm) :=
  ⟨hd, hn, hr, fun f hm => baseIs_of (by have := rightNm_size hn; omega) (hf f hm) hv hw, fun f _ n h => (baseOf_some h).1, hl, hc⟩
end Go.Proofs.YthgmligpconhhaaGreatDoor

/- Layer 6: what a row lays gives the library's variables that Open reads. -/
namespace Go.Proofs.YthgmligpconhhaaGreatDoor
open Go.RowKit Go.Shelf
set_option linter.unusedVariables false
set_option maxRecDepth 100000

theorem row_errString (u : TypeId) (h : Tryz.prog.typeName? 3 u = some "*errors.errorString") : u = 214 :=
  typeName_ptr_named (nm := "errors.errorString") (by rw [show "*" ++ "errors.errorString" = "*errors.errorString" from by decide]; kernel_rfl) (by kernel_rfl) (by decide) u (by rw [show "*" ++ "errors.errorString" = "*errors.errorString" from by decide]; exact h)
theorem tab_eq : (Rows.laid_internal_strconv_uint64pow10 : DataW Unit) = Lib.tabData .u64 Lib.pow10Tab := by kernel_rfl
theorem cell_var {w : World} {n : String} {g : Nat} {v : Value} (hg : Tryz.prog.globalNamed n = some g) (hv : w.var? Tryz.prog n = some #[v]) : w.cell? ⟨g, 0, none⟩ = some v := by
  have h0 := World.var?_cell hg hv 0
  simpa using h0
/-- The row's list, with its head left open. -/
theorem varsIn_of {l : List (String × DataW Unit)} {w : World} {n1 n2 n3 n4 n5 : String} {d1 d2 d3 d4 d5 : DataW Unit} (hl : l = [(n1, d1), (n2, d2), (n3, d3), (n4, d4), (n5, d5)])
    (e3 : d3 = Lib.tabData .u64 Lib.pow10Tab) (e4 : d4 = Rows.laid_strconv_ErrRange) (e5 : d5 = Rows.laid_strconv_ErrSyntax)
    (g3 : Tryz.prog.globalNamed n3 = some 2) (g4 : Tryz.prog.globalNamed n4 = some 1) (g5 : Tryz.prog.globalNamed n5 = some 0)
    (h : laidMet Tryz.prog l w) : VarsIn w := by
  subst hl
  subst e3
  subst e4
  subst e5
  have t3 := h.tail.tail
  have t4 := t3.tail
  have t5 := t4.tail
  have ht := Lib.tabIs_of_head (g := 2) (t := 219) (e := 160) (n := 20) g3 (by kernel_rfl) (by kernel_rfl) (by kernel_rfl) (by kernel_rfl) (by kernel_rfl) t3
  obtain ⟨a4, s4, hv4, -⟩ := laid_sentinel (ti := 121) (tp := 214) (te := 216) (ts := 9) t4 g4 (by kernel_rfl) Tryz.underlying121 row_errString Tryz.underlying214 Tryz.underlying216 rfl rfl Tryz.underlying9 (by kernel_rfl) (by kernel_rfl)
  obtain ⟨a5, s5, hv5, -⟩ := laid_sentinel (ti := 121) (tp := 214) (te := 216) (ts := 9) t5 g5 (by kernel_rfl) Tryz.underlying121 row_errString Tryz.underlying214 Tryz.underlying216 rfl rfl Tryz.underlying9 (by kernel_rfl) (by kernel_rfl)
  refine ⟨⟨_, _, cell_var g5 hv5⟩, ⟨_, _, cell_var g4 hv4⟩, ?_⟩
  unfold Lib.TabIs World.var? at ht
  rw [g3] at ht
  simp only [Option.bind_some] at ht
  split at ht
  · rename_i cs e x he
    simp only [Option.some.injEq] at ht
    exact ⟨e, x, by rw [he, ht]⟩
  · cases ht
end Go.Proofs.YthgmligpconhhaaGreatDoor
