/- Walks and plain laws of the chapter, laid together; each part says what it proves. -/
import Derived.Test.YthgmligpconhhaaGreatDoorPkN
import Derived.Test.YthgmligpconhhaaGreatDoorPkO
/- Steps of a script of the sink, read of an argument. -/
namespace Go.Proofs.YthgmligpconhhaaGreatDoor
open Go.RowKit Go.ChangeShapes Go.WideShapes Go.ChangeAt
set_option linter.unusedVariables false
set_option maxRecDepth 100000
theorem cells_ints1 {H : Type} {enc : TypeId × Value → H} {W : World} {held : Bool} {fuel : Nat} {cs : List Value} {y : DataW H × List MemPlace}
    (hf : DataW.trod enc Tryz.prog W 0 (fun _ => true) held fuel 22 cs = some y) : ∃ a n c, cs = [.slice a n c] := by
  rcases open_ints Tryz.underlying22 Tryz.underlying3 (by kernel_rfl) hf with ⟨hcs, he⟩ | ⟨x, len', cap', zs, hcs, -⟩
  · exact ⟨_, _, _, hcs⟩
  · exact ⟨_, _, _, hcs⟩
theorem cells_step24 {H : Type} {enc : TypeId × Value → H} {W : World} {held : Bool} {fuel : Nat} {cs : List Value} {y : DataW H × List MemPlace}
    (hf : DataW.trod enc Tryz.prog W 0 (fun _ => true) held fuel 48 cs = some y) : ∃ s : St24, cs = s.cells ∧ s.Ok W := by
  obtain ⟨xs, n, -, -, hl, hxl, hx⟩ := DataW.trod_struct Tryz.underlying48 hf
  have hlN : cs.length = 5 := hl.trans (by kernel_rfl)
  have hc_tInt : Tryz.prog.cellsOf 3 = 1 := by kernel_rfl
  have hc_tPairs : Tryz.prog.cellsOf 23 = 1 := by kernel_rfl
  have hc_tInts : Tryz.prog.cellsOf 22 = 1 := by kernel_rfl
  match cs, hlN with
  | [v0, v1, v2, v3, v4], _ =>
    have h0 : DataW.trod enc Tryz.prog W 0 (fun _ => true) held n 3 (([v0, v1, v2, v3, v4].drop 0).take (Tryz.prog.cellsOf 3)) = xs[0]? := hx 0 _ rfl
    have h1 : DataW.trod enc Tryz.prog W 0 (fun _ => true) held n 3 (([v0, v1, v2, v3, v4].drop 1).take (Tryz.prog.cellsOf 3)) = xs[1]? := hx 1 _ rfl
    have h2 : DataW.trod enc Tryz.prog W 0 (fun _ => true) held n 3 (([v0, v1, v2, v3, v4].drop 2).take (Tryz.prog.cellsOf 3)) = xs[2]? := hx 2 _ rfl
    have h3 : DataW.trod enc Tryz.prog W 0 (fun _ => true) held n 23 (([v0, v1, v2, v3, v4].drop 3).take (Tryz.prog.cellsOf 23)) = xs[3]? := hx 3 _ rfl
    have h4 : DataW.trod enc Tryz.prog W 0 (fun _ => true) held n 22 (([v0, v1, v2, v3, v4].drop 4).take (Tryz.prog.cellsOf 22)) = xs[4]? := hx 4 _ rfl
    simp only [hc_tInt, hc_tPairs, hc_tInts, List.drop_zero, List.drop_succ_cons, List.take_succ_cons, List.take_zero] at h0 h1 h2 h3 h4
    have hs : ∀ i, i < 5 → ∃ z, xs[i]? = some z := fun i hi => ⟨_, List.getElem?_eq_getElem (by rw [hxl]; exact hi)⟩
    obtain ⟨z0, e0⟩ := hs 0 (by omega)
    rw [e0] at h0
    obtain ⟨z1, e1⟩ := hs 1 (by omega)
    rw [e1] at h1
    obtain ⟨z2, e2⟩ := hs 2 (by omega)
    rw [e2] at h2
    obtain ⟨z3, e3⟩ := hs 3 (by omega)
    rw [e3] at h3
    obtain ⟨z4, e4⟩ := hs 4 (by omega)
    rw [e4] at h4
    obtain ⟨a, q0, -, wa⟩ := DataW.trod_int Tryz.underlying3 h0
    obtain ⟨b, q1, -, wb⟩ := DataW.trod_int Tryz.underlying3 h1
    obtain ⟨c, q2, -, wc⟩ := DataW.trod_int Tryz.underlying3 h2
    obtain ⟨v, ps, q3, r1, r2, -, -⟩ := cells_structs (f := Pr.cells) (Q := fun p => p.key.size ≤ 9223372036854775807 ∧ U32 p.val) Tryz.underlying23 (by kernel_rfl) pr2 (by omega) (fun _ _ _ h => cells_pair h) h3
    obtain ⟨pa, pn, pc, q4⟩ := cells_ints1 h4
    cases q0
    cases q1
    cases q2
    cases q3
    cases q4
    exact ⟨⟨a, b, c, v3, ps, .slice pa pn pc⟩, rfl, ⟨Go.bounds_i64 wb, r1, fun p hp => (r2 p hp).1, fun p hp => (r2 p hp).2, pa, pn, pc, rfl⟩⟩
theorem open_steps24 {H : Type} {enc : TypeId × Value → H} {W : World} {B : Nat} {held : Bool} {v : Value} {d : DataW H} {p : List MemPlace}
    (ok : Value.okWide Tryz.prog W .any B 45 v) (h : DataW.Trod enc Tryz.prog W 0 (fun _ => true) held 45 v d p) : ∃ ss : List St24, Rd W 5 v ss.length (flatF St24.cells ss) ∧ ∀ s ∈ ss, s.Ok W := by
  obtain ⟨x, l, c, rfl⟩ := okWide_slice Tryz.underlying45 ok
  obtain ⟨fuel, hf⟩ := h
  obtain ⟨v', ws, hv, hcell, hok, -, -⟩ := cells_structs (f := St24.cells) (k := 5) Tryz.underlying45 (by kernel_rfl) st5 (by omega) (Q := fun s => s.Ok W) (fun fuel cs z hz => cells_step24 hz) hf
  simp only [Value.cells, List.cons.injEq, and_true] at hv
  subst hv
  exact ⟨ws, hcell, hok⟩
end Go.Proofs.YthgmligpconhhaaGreatDoor
