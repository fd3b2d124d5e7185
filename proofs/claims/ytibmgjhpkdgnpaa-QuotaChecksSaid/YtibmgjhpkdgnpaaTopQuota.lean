/- Rows, records and ledgers, read of an argument. -/
import Derived.Test.YtibmgjhpkdgnpaaQuota01
namespace Go.Proofs.Ytibmgjhpkdgnpaa
open Go.RowKit Go.ChangeShapes Go.WideShapes Go.ChangeAt

instance : Inhabited Row := ⟨⟨0, 0, 0⟩⟩
instance : Inhabited Rec := ⟨⟨0, 0, 0, ⟨#[]⟩, 0⟩⟩

section
variable {H : Type} {enc : TypeId × Value → H} {W : World} {held : Bool} {fuel : Nat} {cs : List Value} {y : DataW H × List MemPlace}

theorem cells_row (hf : DataW.trod enc Try.prog W 0 (fun _ => true) held fuel 66 cs = some y) : ∃ r : Row, cs = Row.cells r ∧ r.ok := by
  obtain ⟨xs, n, -, -, hl, hxl, hx⟩ := DataW.trod_struct Try.underlying66 hf
  have hl3 : cs.length = 3 := hl.trans (by kernel_rfl)
  have hc : Try.prog.cellsOf 3 = 1 := by kernel_rfl
  match cs, hl3 with
  | [v0, v1, v2], _ =>
    have h0 : DataW.trod enc Try.prog W 0 (fun _ => true) held n 3 (([v0, v1, v2].drop 0).take (Try.prog.cellsOf 3)) = xs[0]? := hx 0 _ rfl
    have h1 : DataW.trod enc Try.prog W 0 (fun _ => true) held n 3 (([v0, v1, v2].drop 1).take (Try.prog.cellsOf 3)) = xs[1]? := hx 1 _ rfl
    have h2 : DataW.trod enc Try.prog W 0 (fun _ => true) held n 3 (([v0, v1, v2].drop 2).take (Try.prog.cellsOf 3)) = xs[2]? := hx 2 _ rfl
    simp only [hc, List.drop_zero, List.drop_succ_cons, List.take_succ_cons, List.take_zero] at h0 h1 h2
    have hs : ∀ i, i < 3 → ∃ z, xs[i]? = some z := fun i hi => ⟨_, List.getElem?_eq_getElem (by rw [hxl]; exact hi)⟩
    obtain ⟨z0, e0⟩ := hs 0 (by omega)
    obtain ⟨z1, e1⟩ := hs 1 (by omega)
    obtain ⟨z2, e2⟩ := hs 2 (by omega)
    rw [e0] at h0; rw [e1] at h1; rw [e2] at h2
    obtain ⟨a, ha, -, wa⟩ := DataW.trod_int Try.underlying3 h0
    obtain ⟨b, hb, -, wb⟩ := DataW.trod_int Try.underlying3 h1
    obtain ⟨c, hc, -, wc⟩ := DataW.trod_int Try.underlying3 h2
    cases ha; cases hb; cases hc
    exact ⟨⟨a, b, c⟩, rfl, Go.bounds_i64 wa, Go.bounds_i64 wb, Go.bounds_i64 wc⟩

theorem cells_rec (hf : DataW.trod enc Try.prog W 0 (fun _ => true) held fuel 33 cs = some y) : ∃ r : Rec, cs = Rec.cells r ∧ r.ok := by
  obtain ⟨xs, n, -, -, hl, hxl, hx⟩ := DataW.trod_struct Try.underlying33 hf
  have hl3 : cs.length = 5 := hl.trans (by kernel_rfl)
  have hc : Try.prog.cellsOf 3 = 1 := by kernel_rfl
  have hcs : Try.prog.cellsOf 9 = 1 := by kernel_rfl
  have hcu : Try.prog.cellsOf 31 = 1 := by kernel_rfl
  match cs, hl3 with
  | [v0, v1, v2, v3, v4], _ =>
    have h0 : DataW.trod enc Try.prog W 0 (fun _ => true) held n 3 (([v0, v1, v2, v3, v4].drop 0).take (Try.prog.cellsOf 3)) = xs[0]? := hx 0 _ rfl
    have h1 : DataW.trod enc Try.prog W 0 (fun _ => true) held n 3 (([v0, v1, v2, v3, v4].drop 1).take (Try.prog.cellsOf 3)) = xs[1]? := hx 1 _ rfl
    have h2 : DataW.trod enc Try.prog W 0 (fun _ => true) held n 3 (([v0, v1, v2, v3, v4].drop 2).take (Try.prog.cellsOf 3)) = xs[2]? := hx 2 _ rfl
    have h3 : DataW.trod enc Try.prog W 0 (fun _ => true) held n 9 (([v0, v1, v2, v3, v4].drop 3).take (Try.prog.cellsOf 9)) = xs[3]? := hx 3 _ rfl
    have h4 : DataW.trod enc Try.prog W 0 (fun _ => true) held n 31 (([v0, v1, v2, v3, v4].drop 4).take (Try.prog.cellsOf 31)) = xs[4]? := hx 4 _ rfl
    simp only [hc, hcs, hcu, List.drop_zero, List.drop_succ_cons, List.take_succ_cons, List.take_zero] at h0 h1 h2 h3 h4
    have hs : ∀ i, i < 5 → ∃ z, xs[i]? = some z := fun i hi => ⟨_, List.getElem?_eq_getElem (by rw [hxl]; exact hi)⟩
    obtain ⟨z0, e0⟩ := hs 0 (by omega)
    obtain ⟨z1, e1⟩ := hs 1 (by omega)
    obtain ⟨z2, e2⟩ := hs 2 (by omega)
    obtain ⟨z3, e3⟩ := hs 3 (by omega)
    obtain ⟨z4, e4⟩ := hs 4 (by omega)
    rw [e0] at h0; rw [e1] at h1; rw [e2] at h2; rw [e3] at h3; rw [e4] at h4
    obtain ⟨a, ha, -, wa⟩ := DataW.trod_int Try.underlying3 h0
    obtain ⟨b, hb, -, wb⟩ := DataW.trod_int Try.underlying3 h1
    obtain ⟨c, hc, -, wc⟩ := DataW.trod_int Try.underlying3 h2
    obtain ⟨s, hst, -, ws⟩ := DataW.trod_string Try.underlying9 h3
    obtain ⟨d, hd, -, wd⟩ := DataW.trod_int Try.underlying31 h4
    cases ha; cases hb; cases hc; cases hst; cases hd
    exact ⟨⟨a, b, c, s, d⟩, rfl, Go.bounds_i64 wa, Go.bounds_i64 wb, Go.bounds_i64 wc, by unfold maxLen at ws; omega⟩

theorem cells_rows (hf : DataW.trod enc Try.prog W 0 (fun _ => true) held fuel 22 cs = some y) : ∃ v rs, cs = [v] ∧ Rows W v rs ∧ (∀ r ∈ rs, r.ok) ∧ rs.length + 1 ≤ Rows.uptoBulk y.1 ∧ Shape y.1 rs.length :=
  cells_structs (f := Row.cells) Try.underlying22 (by kernel_rfl) row3 (by omega) (fun _ _ _ h => cells_row h) hf
theorem cells_recs (hf : DataW.trod enc Try.prog W 0 (fun _ => true) held fuel 24 cs = some y) : ∃ v rs, cs = [v] ∧ Recs W v rs ∧ (∀ r ∈ rs, r.ok) ∧ rs.length + 1 ≤ Rows.uptoBulk y.1 ∧ Shape y.1 rs.length :=
  cells_structs (f := Rec.cells) Try.underlying24 (by kernel_rfl) rec5 (by omega) (fun _ _ _ h => cells_rec h) hf

theorem cells_cnt (hf : DataW.trod enc Try.prog W 0 (fun _ => true) held fuel 23 cs = some y) : ∃ C : Nat → Int, cs = [.int .i64 (C 0), .int .i64 (C 1), .int .i64 (C 2), .int .i64 (C 3), .int .i64 (C 4), .int .i64 (C 5), .int .i64 (C 6), .int .i64 (C 7)] := by
  obtain ⟨xs, n, -, -, hl, hxl, hx⟩ := DataW.trod_array Try.underlying23 hf
  have hl8 : cs.length = 8 := hl.trans (by kernel_rfl)
  have hc : Try.prog.cellsOf 3 = 1 := by kernel_rfl
  have hex : ∀ i, i < 8 → ∃ k : Int, cs[i]? = some (.int .i64 k) := by
    intro i hi
    have h := hx i hi
    rw [hc, Nat.mul_one, List.getElem?_eq_getElem (by omega)] at h
    obtain ⟨k, hk, -, -⟩ := DataW.trod_int Try.underlying3 h
    have hi8 : i < cs.length := by omega
    rw [List.drop_eq_getElem_cons hi8] at hk
    simp only [List.take_succ_cons, List.take_zero, List.cons.injEq, and_true] at hk
    exact ⟨k, by rw [List.getElem?_eq_getElem hi8, hk]⟩
  obtain ⟨C, hC⟩ := Go.Deep.choose_lt hex
  refine ⟨C, ?_⟩
  match cs, hl8, hC with
  | [v0, v1, v2, v3, v4, v5, v6, v7], _, hC =>
    have e0 := hC 0 (by omega)
    have e1 := hC 1 (by omega)
    have e2 := hC 2 (by omega)
    have e3 := hC 3 (by omega)
    have e4 := hC 4 (by omega)
    have e5 := hC 5 (by omega)
    have e6 := hC 6 (by omega)
    have e7 := hC 7 (by omega)
    simp at e0 e1 e2 e3 e4 e5 e6 e7
    simp [e0, e1, e2, e3, e4, e5, e6, e7]
end

/-- A ledger by value. -/
theorem open_led {H : Type} {enc : TypeId × Value → H} {W : World} {B : Nat} {held : Bool} {v : Value} {d : DataW H} {p : List MemPlace}
    (ok : Value.okWide Try.prog W .any B 30 v) (h : DataW.Trod enc Try.prog W 0 (fun _ => true) held 30 v d p) :
    ∃ (rows opn batches ops : Value) (C : Nat → Int) (sealed decided keep : Int) (deployed : Bool) (rs : List Row) (os : List Rec) (parts : List (DataW H)) (dO : DataW H),
      v = .agg #[rows, .int .i64 (C 0), .int .i64 (C 1), .int .i64 (C 2), .int .i64 (C 3), .int .i64 (C 4), .int .i64 (C 5), .int .i64 (C 6), .int .i64 (C 7), opn, batches, .int .i64 sealed, .int .i64 decided, .bool deployed, ops, .int .i64 keep] ∧
      Rows W rows rs ∧ (∀ r ∈ rs, r.ok) ∧ Recs W opn os ∧ d = .agg parts ∧ parts[2]? = some dO ∧ Shape dO os.length := by
  obtain ⟨csA, rfl, hsz⟩ := okWide_struct Try.underlying30 ok
  obtain ⟨fuel, hf⟩ := h
  have hs16 : csA.toList.length = 16 := by have : csA.size = 16 := hsz.trans (by kernel_rfl); simpa using this
  simp only [Value.cells] at hf
  obtain ⟨xs, n, -, hxy, -, hxl, hx⟩ := DataW.trod_struct Try.underlying30 hf
  have hc : Try.prog.cellsOf 3 = 1 := by kernel_rfl
  have hcr : Try.prog.cellsOf 22 = 1 := by kernel_rfl
  have hco : Try.prog.cellsOf 24 = 1 := by kernel_rfl
  have hcb : Try.prog.cellsOf 4 = 1 := by kernel_rfl
  have hcc : Try.prog.cellsOf 23 = 8 := by kernel_rfl
  obtain ⟨L, hL⟩ : ∃ L, L = csA.toList := ⟨_, rfl⟩
  have hcs : csA = L.toArray := by rw [hL]
  rw [← hL] at hs16 hx
  subst hcs
  clear hL hsz hf ok
  match L, hs16 with
  | [v0, v1, v2, v3, v4, v5, v6, v7, v8, v9, v10, v11, v12, v13, v14, v15], _ =>
    have h0 : DataW.trod enc Try.prog W 0 (fun _ => true) held n 22 (([v0, v1, v2, v3, v4, v5, v6, v7, v8, v9, v10, v11, v12, v13, v14, v15].drop 0).take (Try.prog.cellsOf 22)) = xs[0]? := hx 0 _ rfl
    have h1 : DataW.trod enc Try.prog W 0 (fun _ => true) held n 23 (([v0, v1, v2, v3, v4, v5, v6, v7, v8, v9, v10, v11, v12, v13, v14, v15].drop 1).take (Try.prog.cellsOf 23)) = xs[1]? := hx 1 _ rfl
    have h2 : DataW.trod enc Try.prog W 0 (fun _ => true) held n 24 (([v0, v1, v2, v3, v4, v5, v6, v7, v8, v9, v10, v11, v12, v13, v14, v15].drop 9).take (Try.prog.cellsOf 24)) = xs[2]? := hx 2 _ rfl
    have h4 : DataW.trod enc Try.prog W 0 (fun _ => true) held n 3 (([v0, v1, v2, v3, v4, v5, v6, v7, v8, v9, v10, v11, v12, v13, v14, v15].drop 11).take (Try.prog.cellsOf 3)) = xs[4]? := hx 4 _ rfl
    have h5 : DataW.trod enc Try.prog W 0 (fun _ => true) held n 3 (([v0, v1, v2, v3, v4, v5, v6, v7, v8, v9, v10, v11, v12, v13, v14, v15].drop 12).take (Try.prog.cellsOf 3)) = xs[5]? := hx 5 _ rfl
    have h6 : DataW.trod enc Try.prog W 0 (fun _ => true) held n 4 (([v0, v1, v2, v3, v4, v5, v6, v7, v8, v9, v10, v11, v12, v13, v14, v15].drop 13).take (Try.prog.cellsOf 4)) = xs[6]? := hx 6 _ rfl
    have h8 : DataW.trod enc Try.prog W 0 (fun _ => true) held n 3 (([v0, v1, v2, v3, v4, v5, v6, v7, v8, v9, v10, v11, v12, v13, v14, v15].drop 15).take (Try.prog.cellsOf 3)) = xs[8]? := hx 8 _ rfl
    simp only [hc, hcr, hco, hcb, hcc, List.drop_zero, List.drop_succ_cons, List.take_succ_cons, List.take_zero] at h0 h1 h2 h4 h5 h6 h8
    have hs : ∀ i, i < 9 → ∃ z, xs[i]? = some z := fun i hi => ⟨_, List.getElem?_eq_getElem (by rw [hxl]; exact hi)⟩
    obtain ⟨z0, e0⟩ := hs 0 (by omega)
    obtain ⟨z1, e1⟩ := hs 1 (by omega)
    obtain ⟨z2, e2⟩ := hs 2 (by omega)
    obtain ⟨z4, e4⟩ := hs 4 (by omega)
    obtain ⟨z5, e5⟩ := hs 5 (by omega)
    obtain ⟨z6, e6⟩ := hs 6 (by omega)
    obtain ⟨z8, e8⟩ := hs 8 (by omega)
    rw [e0] at h0; rw [e1] at h1; rw [e2] at h2; rw [e4] at h4; rw [e5] at h5; rw [e6] at h6; rw [e8] at h8
    obtain ⟨u0, rs, hu0, hrs, hok, -, -⟩ := cells_rows h0
    obtain ⟨C, hC⟩ := cells_cnt h1
    obtain ⟨u2, os, hu2, hos, -, -, hsh⟩ := cells_recs h2
    obtain ⟨a, ha, -, -⟩ := DataW.trod_int Try.underlying3 h4
    obtain ⟨b, hb, -, -⟩ := DataW.trod_int Try.underlying3 h5
    obtain ⟨c, hc', -⟩ := DataW.trod_bool Try.underlying4 h6
    obtain ⟨k, hk, -, -⟩ := DataW.trod_int Try.underlying3 h8
    cases hu0; cases hu2; cases ha; cases hb; cases hc'; cases hk
    simp only [List.cons.injEq, and_true] at hC
    obtain ⟨rfl, rfl, rfl, rfl, rfl, rfl, rfl, rfl⟩ := hC
    exact ⟨_, _, _, _, C, a, b, k, c, rs, os, xs.map (·.1), z2.1, rfl, hrs, hok, hos, (congrArg (fun x => x.1) hxy), by rw [List.getElem?_map, e2]; rfl, hsh⟩

/-- A slice of records. -/
theorem open_recs {H : Type} {enc : TypeId × Value → H} {W : World} {B : Nat} {held : Bool} {v : Value} {d : DataW H} {p : List MemPlace}
    (ok : Value.okWide Try.prog W .any B 24 v) (h : DataW.Trod enc Try.prog W 0 (fun _ => true) held 24 v d p) : ∃ rs, Recs W v rs ∧ (∀ r ∈ rs, r.ok) ∧ Shape d rs.length := by
  obtain ⟨a, len, cap, rfl⟩ := okWide_slice Try.underlying24 ok
  obtain ⟨fuel, hf⟩ := h
  obtain ⟨v, rs, hcs, h1, h2, -, h3⟩ := cells_recs hf
  simp [Value.cells] at hcs
  subst hcs
  exact ⟨rs, h1, h2, h3⟩
/-- A record by value. -/
theorem open_rec {H : Type} {enc : TypeId × Value → H} {W : World} {B : Nat} {held : Bool} {v : Value} {d : DataW H} {p : List MemPlace}
    (ok : Value.okWide Try.prog W .any B 33 v) (h : DataW.Trod enc Try.prog W 0 (fun _ => true) held 33 v d p) : ∃ r : Rec, v = .agg #[.int .i64 r.p, .int .i64 r.s, .int .i64 r.q, .string r.key, .int .u32 r.val] ∧ r.ok := by
  obtain ⟨csA, rfl, hsz⟩ := okWide_struct Try.underlying33 ok
  obtain ⟨fuel, hf⟩ := h
  simp only [Value.cells] at hf
  obtain ⟨r, hr, hk⟩ := cells_rec hf
  refine ⟨r, ?_, hk⟩
  have : csA = (Rec.cells r).toArray := by rw [← hr]
  rw [this]; rfl

theorem reach_recs {H : Type} {ts : List TypeId} {ds : List (DataW H)} {d : DataW H} {n j : Nat} (h : (DataW.weightsEach Try.prog ts ds).all (· ≤ reachBytes) = true) (ht : ts[j]? = some 24) (hd : ds[j]? = some d) (hs : Shape d n) : n ≤ 140737488351232 := by
  rcases hs with rfl | ⟨es, sp, rfl, rfl⟩
  · omega
  · have := sized_slice h ht hd Try.underlying24
    have hb : Try.prog.bytesOf 33 = 48 := by kernel_rfl
    have hr : reachBytes = 140737488351232 := rfl
    rw [hb, hr] at this
    omega
theorem reach_led {H : Type} {ts : List TypeId} {ds : List (DataW H)} {parts : List (DataW H)} {dO : DataW H} {n j : Nat} (h : (DataW.weightsEach Try.prog ts ds).all (· ≤ reachBytes) = true) (ht : ts[j]? = some 30) (hd : ds[j]? = some (.agg parts)) (hp : parts[2]? = some dO) (hs : Shape dO n) : n ≤ 140737488351232 := by
  rcases hs with rfl | ⟨es, sp, rfl, rfl⟩
  · omega
  · have hmem : ∀ k ∈ (DataW.slice es sp : DataW H).weights Try.prog 24, k ≤ reachBytes := by
      intro k hk
      have h1 : k ∈ (DataW.agg parts : DataW H).weights Try.prog 30 := by
        simp only [DataW.weights, Try.underlying30]
        exact DataW.weights_mem_each (j := 2) rfl hp k hk
      have := List.all_eq_true.1 h _ (DataW.weights_mem_each ht hd k h1)
      simpa using this
    have := hmem ((es.length + sp.length) * Try.prog.bytesOf 33) (by simp [DataW.weights, Try.underlying24])
    have hb : Try.prog.bytesOf 33 = 48 := by kernel_rfl
    have hr : reachBytes = 140737488351232 := rfl
    rw [hb, hr] at this
    omega
end Go.Proofs.Ytibmgjhpkdgnpaa
