/- Tables, places and numbers that come, read of an argument. -/
import Derived.Test.YtbelhdnbmkemjaaQuota01
namespace Go.Proofs.Ytbelhdnbmkemjaa
open Go.RowKit Go.ChangeShapes Go.WideShapes Go.ChangeAt

instance : Inhabited Row := ⟨⟨0, 0, 0⟩⟩

theorem okWide_array {P : Program} {w : World} {r : Reach} {base : Nat} {t : TypeId} {v : Value} {n : Nat} {e : TypeId} (ht : P.underlying t = some (.array n e)) (h : Value.okWide P w r base t v) : ∃ cs, v = .agg cs ∧ cs.size = P.cellsOf t := by
  simp only [Value.okWide, ht] at h
  obtain ⟨cs, h1, h2, _⟩ := h
  exact ⟨cs, h1, h2⟩

section
variable {H : Type} {enc : TypeId × Value → H} {W : World} {held : Bool} {fuel : Nat} {cs : List Value} {y : DataW H × List MemPlace}

theorem cells_row (hf : DataW.trod enc Try.prog W 0 (fun _ => true) held fuel 42 cs = some y) : ∃ r : Row, cs = Row.cells r ∧ r.ok := by
  obtain ⟨xs, n, -, -, hl, hxl, hx⟩ := DataW.trod_struct Try.underlying42 hf
  have hl3 : cs.length = 3 := hl.trans (by kernel_rfl)
  have hc : Try.prog.cellsOf 3 = 1 := by kernel_rfl
  match cs, hl3 with
  | [v0, v1, v2], _ =>
    have h0 : DataW.trod enc Try.prog W 0 (fun _ => true) held n 3 (([v0, v1, v2].drop 0).take (Try.prog.cellsOf 3)) = xs[0]? := hx 0 _ rfl
    have h1 : DataW.trod enc Try.prog W 0 (fun _ => true) held n 3 (([v0, v1, v2].drop 1).take (Try.prog.cellsOf 3)) = xs[1]? := hx 1 _ rfl
    have h2 : DataW.trod enc Try.prog W 0 (fun _ => true) held n 3 (([v0, v1, v2].drop 2).take (Try.prog.cellsOf 3)) = xs[2]? := hx 2 _ rfl
    simp only [hc, List.drop_zero, List.drop_succ_cons, List.take_succ_cons, List.take_zero] at h0 h1 h2
    have hs : ∀ i, i < 3 → ∃ z, xs[i]? = some z := fun i hi => ⟨_, List.getElem?_eq_getElem (by rw [hxl]; exact hi)⟩
    obtain ⟨z0, e0⟩ := hs 0 (by omega)
    obtain ⟨z1, e1⟩ := hs 1 (by omega)
    obtain ⟨z2, e2⟩ := hs 2 (by omega)
    rw [e0] at h0; rw [e1] at h1; rw [e2] at h2
    obtain ⟨a, ha, -, wa⟩ := DataW.trod_int Try.underlying3 h0
    obtain ⟨b, hb, -, wb⟩ := DataW.trod_int Try.underlying3 h1
    obtain ⟨c, hc, -, wc⟩ := DataW.trod_int Try.underlying3 h2
    cases ha; cases hb; cases hc
    exact ⟨⟨a, b, c⟩, rfl, Go.bounds_i64 wa, Go.bounds_i64 wb, Go.bounds_i64 wc⟩
theorem cells_come (hf : DataW.trod enc Try.prog W 0 (fun _ => true) held fuel 39 cs = some y) : ∃ r : Row, cs = Row.cells r ∧ r.ok := by
  obtain ⟨xs, n, -, -, hl, hxl, hx⟩ := DataW.trod_struct Try.underlying39 hf
  have hl3 : cs.length = 3 := hl.trans (by kernel_rfl)
  have hc : Try.prog.cellsOf 3 = 1 := by kernel_rfl
  match cs, hl3 with
  | [v0, v1, v2], _ =>
    have h0 : DataW.trod enc Try.prog W 0 (fun _ => true) held n 3 (([v0, v1, v2].drop 0).take (Try.prog.cellsOf 3)) = xs[0]? := hx 0 _ rfl
    have h1 : DataW.trod enc Try.prog W 0 (fun _ => true) held n 3 (([v0, v1, v2].drop 1).take (Try.prog.cellsOf 3)) = xs[1]? := hx 1 _ rfl
    have h2 : DataW.trod enc Try.prog W 0 (fun _ => true) held n 3 (([v0, v1, v2].drop 2).take (Try.prog.cellsOf 3)) = xs[2]? := hx 2 _ rfl
    simp only [hc, List.drop_zero, List.drop_succ_cons, List.take_succ_cons, List.take_zero] at h0 h1 h2
    have hs : ∀ i, i < 3 → ∃ z, xs[i]? = some z := fun i hi => ⟨_, List.getElem?_eq_getElem (by rw [hxl]; exact hi)⟩
    obtain ⟨z0, e0⟩ := hs 0 (by omega)
    obtain ⟨z1, e1⟩ := hs 1 (by omega)
    obtain ⟨z2, e2⟩ := hs 2 (by omega)
    rw [e0] at h0; rw [e1] at h1; rw [e2] at h2
    obtain ⟨a, ha, -, wa⟩ := DataW.trod_int Try.underlying3 h0
    obtain ⟨b, hb, -, wb⟩ := DataW.trod_int Try.underlying3 h1
    obtain ⟨c, hc, -, wc⟩ := DataW.trod_int Try.underlying3 h2
    cases ha; cases hb; cases hc
    exact ⟨⟨a, b, c⟩, rfl, Go.bounds_i64 wa, Go.bounds_i64 wb, Go.bounds_i64 wc⟩
theorem cells_arr (hf : DataW.trod enc Try.prog W 0 (fun _ => true) held fuel 23 cs = some y) : ∃ p q : Int, cs = [.int .i64 p, .int .i64 q] ∧ I64 p ∧ I64 q := by
  obtain ⟨xs, n, -, -, hl, hxl, hx⟩ := DataW.trod_array Try.underlying23 hf
  have hl2 : cs.length = 2 := hl.trans (by kernel_rfl)
  have hc : Try.prog.cellsOf 3 = 1 := by kernel_rfl
  have hex : ∀ i, i < 2 → ∃ k : Int, cs[i]? = some (.int .i64 k) ∧ I64 k := by
    intro i hi
    have h := hx i hi
    rw [hc, Nat.mul_one, List.getElem?_eq_getElem (by omega)] at h
    obtain ⟨k, hk, -, wk⟩ := DataW.trod_int Try.underlying3 h
    have hi2 : i < cs.length := by omega
    rw [List.drop_eq_getElem_cons hi2] at hk
    simp only [List.take_succ_cons, List.take_zero, List.cons.injEq, and_true] at hk
    exact ⟨k, by rw [List.getElem?_eq_getElem hi2, hk], Go.bounds_i64 wk⟩
  obtain ⟨p, hp, bp⟩ := hex 0 (by omega)
  obtain ⟨q, hq, bq⟩ := hex 1 (by omega)
  refine ⟨p, q, ?_, bp, bq⟩
  match cs, hl2, hp, hq with
  | [v0, v1], _, hp, hq =>
    simp at hp hq
    rw [hp, hq]
end

theorem open_rows {H : Type} {enc : TypeId × Value → H} {W : World} {B : Nat} {held : Bool} {v : Value} {d : DataW H} {p : List MemPlace}
    (ok : Value.okWide Try.prog W .any B 22 v) (h : DataW.Trod enc Try.prog W 0 (fun _ => true) held 22 v d p) : ∃ rs, Rows W v rs ∧ (∀ r ∈ rs, r.ok) ∧ Shape d rs.length := by
  obtain ⟨a, len, cap, rfl⟩ := okWide_slice Try.underlying22 ok
  obtain ⟨fuel, hf⟩ := h
  obtain ⟨v, rs, hcs, h1, h2, -, h3⟩ := cells_structs (f := Row.cells) Try.underlying22 (by kernel_rfl) row3 (by omega) (fun _ _ _ h => cells_row h) hf
  simp [Value.cells] at hcs
  subst hcs
  exact ⟨rs, h1, h2, h3⟩
theorem open_comes {H : Type} {enc : TypeId × Value → H} {W : World} {B : Nat} {held : Bool} {v : Value} {d : DataW H} {p : List MemPlace}
    (ok : Value.okWide Try.prog W .any B 35 v) (h : DataW.Trod enc Try.prog W 0 (fun _ => true) held 35 v d p) : ∃ rs, Rows W v rs ∧ (∀ r ∈ rs, r.ok) ∧ Shape d rs.length := by
  obtain ⟨a, len, cap, rfl⟩ := okWide_slice Try.underlying35 ok
  obtain ⟨fuel, hf⟩ := h
  obtain ⟨v, rs, hcs, h1, h2, -, h3⟩ := cells_structs (f := Row.cells) Try.underlying35 (by kernel_rfl) row3 (by omega) (fun _ _ _ h => cells_come h) hf
  simp [Value.cells] at hcs
  subst hcs
  exact ⟨rs, h1, h2, h3⟩
theorem open_arr {H : Type} {enc : TypeId × Value → H} {W : World} {B : Nat} {held : Bool} {v : Value} {d : DataW H} {p : List MemPlace}
    (ok : Value.okWide Try.prog W .any B 23 v) (h : DataW.Trod enc Try.prog W 0 (fun _ => true) held 23 v d p) : ∃ a b : Int, v = .agg #[.int .i64 a, .int .i64 b] ∧ I64 a ∧ I64 b := by
  obtain ⟨csA, rfl, hsz⟩ := okWide_array Try.underlying23 ok
  obtain ⟨fuel, hf⟩ := h
  simp only [Value.cells] at hf
  obtain ⟨a, b, hr, hk⟩ := cells_arr hf
  refine ⟨a, b, ?_, hk⟩
  have : csA = [Value.int .i64 a, .int .i64 b].toArray := by rw [← hr]
  rw [this]
theorem open_other {H : Type} {enc : TypeId × Value → H} {W : World} {B : Nat} {held : Bool} {v : Value} {d : DataW H} {p : List MemPlace}
    (ok : Value.okWide Try.prog W .any B 25 v) (h : DataW.Trod enc Try.prog W 0 (fun _ => true) held 25 v d p) : ∃ a b s : Int, v = .agg #[.int .i64 a, .int .i64 b, .int .i64 s] ∧ I64 a ∧ I64 b ∧ I64 s := by
  obtain ⟨csA, rfl, hsz⟩ := okWide_struct Try.underlying25 ok
  obtain ⟨fuel, hf⟩ := h
  have hs3 : csA.toList.length = 3 := by have : csA.size = 3 := hsz.trans (by kernel_rfl); simpa using this
  simp only [Value.cells] at hf
  obtain ⟨xs, n, -, hxy, -, hxl, hx⟩ := DataW.trod_struct Try.underlying25 hf
  have hc : Try.prog.cellsOf 3 = 1 := by kernel_rfl
  have hca : Try.prog.cellsOf 23 = 2 := by kernel_rfl
  obtain ⟨L, hL⟩ : ∃ L, L = csA.toList := ⟨_, rfl⟩
  have hcs : csA = L.toArray := by rw [hL]
  rw [← hL] at hs3 hx
  subst hcs
  clear hL hsz hf ok
  match L, hs3 with
  | [v0, v1, v2], _ =>
    have h0 : DataW.trod enc Try.prog W 0 (fun _ => true) held n 23 (([v0, v1, v2].drop 0).take (Try.prog.cellsOf 23)) = xs[0]? := hx 0 _ rfl
    have h1 : DataW.trod enc Try.prog W 0 (fun _ => true) held n 3 (([v0, v1, v2].drop 2).take (Try.prog.cellsOf 3)) = xs[1]? := hx 1 _ rfl
    simp only [hc, hca, List.drop_zero, List.drop_succ_cons, List.take_succ_cons, List.take_zero] at h0 h1
    have hs : ∀ i, i < 2 → ∃ z, xs[i]? = some z := fun i hi => ⟨_, List.getElem?_eq_getElem (by rw [hxl]; exact hi)⟩
    obtain ⟨z0, e0⟩ := hs 0 (by omega)
    obtain ⟨z1, e1⟩ := hs 1 (by omega)
    rw [e0] at h0; rw [e1] at h1
    obtain ⟨a, b, hab, ba, bb⟩ := cells_arr h0
    obtain ⟨s, hs', -, ws⟩ := DataW.trod_int Try.underlying3 h1
    cases hab; cases hs'
    exact ⟨a, b, s, rfl, ba, bb, Go.bounds_i64 ws⟩
theorem reach_comes {H : Type} {ts : List TypeId} {ds : List (DataW H)} {d : DataW H} {n j : Nat} (h : (DataW.weightsEach Try.prog ts ds).all (· ≤ reachBytes) = true) (ht : ts[j]? = some 35) (hd : ds[j]? = some d) (hs : Shape d n) : n ≤ 140737488351232 := by
  rcases hs with rfl | ⟨es, sp, rfl, rfl⟩
  · omega
  · have := sized_slice h ht hd Try.underlying35
    have hb : Try.prog.bytesOf 39 = 24 := by kernel_rfl
    have hr : reachBytes = 140737488351232 := rfl
    rw [hb, hr] at this
    omega
end Go.Proofs.Ytbelhdnbmkemjaa
