/- Steps of a script of messages, read of an argument. -/
import Derived.Test.YtpmkepmnldkccaaTopMail
import Derived.Test.YtpmkepmnldkccaaMail23
namespace Go.Proofs.Ytpmkepmnldkccaa
open Go.RowKit Go.ChangeShapes Go.WideShapes Go.ChangeAt

instance : Inhabited Stp := ⟨⟨0, 0, 0, 0, 0, 0, .slice none 0 0, []⟩⟩
theorem cells_step {H : Type} {enc : TypeId × Value → H} {W : World} {held : Bool} {fuel : Nat} {cs : List Value} {y : DataW H × List MemPlace}
    (hf : DataW.trod enc Try.prog W 0 (fun _ => true) held fuel 47 cs = some y) : ∃ s : Stp, cs = s.cells ∧ StpOk W s := by
  obtain ⟨xs, n, -, -, hl, hxl, hx⟩ := DataW.trod_struct Try.underlying47 hf
  have hlN : cs.length = 7 := hl.trans (by kernel_rfl)
  have hc_tInt : Try.prog.cellsOf 3 = 1 := by kernel_rfl
  have hc_tU8 : Try.prog.cellsOf 5 = 1 := by kernel_rfl
  have hc_tMail : Try.prog.cellsOf 32 = 3 := by kernel_rfl
  match cs, hlN with
  | [v0, v1, v2, v3, v4, v5, v6], _ =>
    have h0 : DataW.trod enc Try.prog W 0 (fun _ => true) held n 3 (([v0, v1, v2, v3, v4, v5, v6].drop 0).take (Try.prog.cellsOf 3)) = xs[0]? := hx 0 _ rfl
    have h1 : DataW.trod enc Try.prog W 0 (fun _ => true) held n 3 (([v0, v1, v2, v3, v4, v5, v6].drop 1).take (Try.prog.cellsOf 3)) = xs[1]? := hx 1 _ rfl
    have h2 : DataW.trod enc Try.prog W 0 (fun _ => true) held n 3 (([v0, v1, v2, v3, v4, v5, v6].drop 2).take (Try.prog.cellsOf 3)) = xs[2]? := hx 2 _ rfl
    have h3 : DataW.trod enc Try.prog W 0 (fun _ => true) held n 5 (([v0, v1, v2, v3, v4, v5, v6].drop 3).take (Try.prog.cellsOf 5)) = xs[3]? := hx 3 _ rfl
    have h4 : DataW.trod enc Try.prog W 0 (fun _ => true) held n 32 (([v0, v1, v2, v3, v4, v5, v6].drop 4).take (Try.prog.cellsOf 32)) = xs[4]? := hx 4 _ rfl
    simp only [hc_tInt, hc_tU8, hc_tMail, List.drop_zero, List.drop_succ_cons, List.take_succ_cons, List.take_zero] at h0 h1 h2 h3 h4
    have hs : ∀ i, i < 5 → ∃ z, xs[i]? = some z := fun i hi => ⟨_, List.getElem?_eq_getElem (by rw [hxl]; exact hi)⟩
    obtain ⟨z0, e0⟩ := hs 0 (by omega)
    rw [e0] at h0
    obtain ⟨z1, e1⟩ := hs 1 (by omega)
    rw [e1] at h1
    obtain ⟨z2, e2⟩ := hs 2 (by omega)
    rw [e2] at h2
    obtain ⟨z3, e3⟩ := hs 3 (by omega)
    rw [e3] at h3
    obtain ⟨z4, e4⟩ := hs 4 (by omega)
    rw [e4] at h4
    obtain ⟨a, q0, -, wa⟩ := DataW.trod_int Try.underlying3 h0
    obtain ⟨b, q1, -, wb⟩ := DataW.trod_int Try.underlying3 h1
    obtain ⟨c, q2, -, wc⟩ := DataW.trod_int Try.underlying3 h2
    obtain ⟨d, q3, -, wd⟩ := DataW.trod_int Try.underlying5 h3
    obtain ⟨m, q4, hm, -, -⟩ := cells_mail h4
    cases q0
    cases q1
    cases q2
    cases q3
    cases q4
    exact ⟨⟨a, b, c, d, m.f, m.t, m.dv, m.data⟩, rfl, hm, ⟨(Go.bounds_u8 wd).1, by have := (Go.bounds_u8 wd).2; show d < 256; omega⟩⟩
theorem open_steps {H : Type} {enc : TypeId × Value → H} {W : World} {B : Nat} {held : Bool} {v : Value} {d : DataW H} {p : List MemPlace}
    (ok : Value.okWide Try.prog W .any B 42 v) (h : DataW.Trod enc Try.prog W 0 (fun _ => true) held 42 v d p) : ∃ ss : List Stp, Stps W v ss ∧ ∀ s ∈ ss, StpOk W s := by
  obtain ⟨x, l, c, rfl⟩ := okWide_slice Try.underlying42 ok
  obtain ⟨fuel, hf⟩ := h
  obtain ⟨v', ws, hv, hcell, hok, -, -⟩ := cells_structs (f := Stp.cells) (k := 7) Try.underlying42 (by kernel_rfl) stp7 (by omega) (Q := StpOk W) (fun fuel cs z hz => cells_step hz) hf
  simp only [Value.cells, List.cons.injEq, and_true] at hv
  subst hv
  exact ⟨ws, hcell, hok⟩
end Go.Proofs.Ytpmkepmnldkccaa
