/- The tied card of SeglogRepairs out of its walk. -/
import Derived.Test.YtcckoppbophidaaGreatDoorTie
import Derived.Test.YtcckoppbophidaaGreatDoorCards
import Derived.LaidMore
import Derived.LaidHandle
import Derived.ChangeVars
import Derived.Stop.Joined
import Derived.SevenTiedAt
import Derived.Test.YtcckoppbophidaaGreatDoorPkA
import Derived.Test.YtcckoppbophidaaGreatDoorPkE
namespace Go.Proofs.YtcckoppbophidaaGreatDoor.seglogRepairs
open Go.ChangeShapes Go.WideShapes Go.ChangeAt Go.RowKit
set_option linter.unusedVariables false
set_option maxRecDepth 100000

theorem cells_file {H : Type} {enc : TypeId × Value → H} {W : World} {held : Bool} {fuel : Nat} {cs : List Value} {y : DataW H × List MemPlace}
    (hf : DataW.trod enc Tryz.prog W 0 (fun _ => true) held fuel 52 cs = some y) : ∃ e : FileE, cs = FileE.cells e ∧ Bytes W e.dv e.data := by
  obtain ⟨xs, n, -, -, hl, hxl, hx⟩ := DataW.trod_struct Tryz.underlying52 hf
  have hlN : cs.length = 2 := hl.trans (by kernel_rfl)
  have hc_tStr : Tryz.prog.cellsOf 9 = 1 := by kernel_rfl
  have hc_tBytes : Tryz.prog.cellsOf 34 = 1 := by kernel_rfl
  match cs, hlN with
  | [v0, v1], _ =>
    have h0 : DataW.trod enc Tryz.prog W 0 (fun _ => true) held n 9 (([v0, v1].drop 0).take (Tryz.prog.cellsOf 9)) = xs[0]? := hx 0 _ rfl
    have h1 : DataW.trod enc Tryz.prog W 0 (fun _ => true) held n 34 (([v0, v1].drop 1).take (Tryz.prog.cellsOf 34)) = xs[1]? := hx 1 _ rfl
    simp only [hc_tStr, hc_tBytes, List.drop_zero, List.drop_succ_cons, List.take_succ_cons, List.take_zero] at h0 h1
    have hs : ∀ i, i < 2 → ∃ z, xs[i]? = some z := fun i hi => ⟨_, List.getElem?_eq_getElem (by rw [hxl]; exact hi)⟩
    obtain ⟨z0, e0⟩ := hs 0 (by omega)
    rw [e0] at h0
    obtain ⟨z1, e1⟩ := hs 1 (by omega)
    rw [e1] at h1
    obtain ⟨a, q0, -, wa⟩ := DataW.trod_string Tryz.underlying9 h0
    obtain ⟨v, b, q1, hb, -, -⟩ := cells_bytes h1
    cases q0
    cases q1
    exact ⟨⟨a, _, b⟩, rfl, hb⟩

theorem open_files {H : Type} {enc : TypeId × Value → H} {W : World} {B : Nat} {held : Bool} {v : Value} {d : DataW H} {p : List MemPlace}
    (ok : Value.okWide Tryz.prog W .any B 49 v) (h : DataW.Trod enc Tryz.prog W 0 (fun _ => true) held 49 v d p) : ∃ es : List FileE, Rd W 2 v es.length (flatF FileE.cells es) ∧ ∀ e ∈ es, Bytes W e.dv e.data := by
  obtain ⟨a, len, cap, rfl⟩ := okWide_slice Tryz.underlying49 ok
  obtain ⟨fuel, hf⟩ := h
  obtain ⟨v, es, hcs, h1, h2, -, -⟩ := cells_structs (f := FileE.cells) (Q := fun e => Bytes W e.dv e.data) Tryz.underlying49 (by kernel_rfl) file2 (by omega) (fun _ _ _ h => cells_file h) hf
  simp [Value.cells] at hcs
  subst hcs
  exact ⟨es, h1, h2⟩
theorem size_of {l r : List (String × DataW Unit)} {w : World} {n1 n2 : String} {d1 d2 : DataW Unit} (hl : l = (n1, d1) :: (n2, d2) :: r) (g2 : Tryz.prog.globalNamed n2 = some 4) (h : laidMet Tryz.prog l w) : 5 ≤ w.heap.size := by
  subst hl
  obtain ⟨ps, ⟨_, _, _, _, _, _, _, _, _, _, hr, _⟩, _⟩ := h
  obtain ⟨g, t, cs, fuel, p, q, hg, ht, hvar, -⟩ := hr
  obtain rfl := Option.some.inj (g2.symm.trans hg)
  unfold World.var? at hvar
  rw [hg] at hvar
  simp only [Option.bind_some] at hvar
  split at hvar
  · rename_i c e x he
    have := (Array.getElem?_eq_some_iff.1 he).1
    omega
  · cases hvar
theorem laid_size {w : World} (h : laidMetH Tryz.prog Rows.seglogRepairsRow.laid w) : 5 ≤ w.heap.size := by
  have h1 := (laidMetH_iff.1 h).1
  rw [show (Rows.seglogRepairsRow.laid.filter fun x => x.2.handleName?.isNone) = Rows.seglogRepairsRow.laid from by kernel_rfl] at h1
  exact size_of (l := Rows.seglogRepairsRow.laid) rfl (by kernel_rfl) h1

theorem contract (H : Type) (enc : TypeId × Value → H) (W : World) (base : Nat) (args : Array Value) (ds gs : List (DataW H)) (before : List MemPlace)
    (hval : ∀ (j : Nat) t v, Tryz.f5.params[j]? = some t → args[j]? = some v → Value.okWide Tryz.prog W .any base t v)
    (hW : DataW.Whole enc Tryz.prog Tryz.f5.params.toList Rows.seglogRepairsSpec.vars false W args.toList ds gs before) (hlaid : laidMetH Tryz.prog Rows.seglogRepairsRow.laid W) :
    Calls Tryz.prog 5 args W fun e W' => ∃ v, e = .returned v ∧ Rows.seglogRepairsSpec.post enc Tryz.prog Tryz.f5 false true false false W args v W' := by
  have hW' := hW
  obtain ⟨p, q, hA0, hV, rfl, hfz, hnd⟩ := hW
  have hA : DataW.TrodAll enc Tryz.prog W 0 (fun _ => true) true Tryz.f5.params.toList args.toList ds p := hA0
  rw [Tryz.params5] at hA hval
  obtain ⟨v0, vs0, d0, ds0, p0, q0, hargs, rfl, rfl, h0, r0⟩ := trodAll_cons hA
  obtain ⟨v1, vs1, d1, ds1, p1, q1, rfl, rfl, rfl, h1, r1⟩ := trodAll_cons r0
  obtain ⟨rfl, rfl, rfl⟩ := trodAll_nil r1
  obtain rfl : args = #[v0, v1] := by cases args; simp_all
  obtain ⟨rfl, rfl⟩ := trodVars_none hV
  have k0 := h0
  have lt0 : ∀ x ∈ p0, x.block < W.heap.size := by obtain ⟨m, hm⟩ := k0; exact DataW.trod_lt m _ _ _ hm
  have k1 := h1
  have lt1 : ∀ x ∈ p1, x.block < W.heap.size := by obtain ⟨m, hm⟩ := k1; exact DataW.trod_lt m _ _ _ hm
  obtain ⟨es, S0, SE⟩ := open_files (hval 0 49 v0 rfl rfl) h0
  obtain ⟨n1, rfl, lo1, hi1⟩ := open_i64 (hval 1 3 v1 rfl rfl) h1
  clear hA0
  refine (repairs_calls v0 es n1 W S0 SE ⟨lo1, hi1⟩ (varsIn_laid hlaid) (laid_size hlaid)).mono fun e W' ⟨he, bel⟩ => ?_
  subst he
  exact ⟨_, rfl, _, _, _, [], _, [], hW', trodAll_mk1 (shut_bool Tryz.underlying4 _), (trodAll_cons_mk (Below.trod laid_out (by kernel_rfl) (of_decide_eq_true (by kernel_rfl)) k0 bel lt0) (trodAll_cons_mk (Below.trod laid_out (by kernel_rfl) (of_decide_eq_true (by kernel_rfl)) k1 bel lt1) trodAll_mk0)), rfl, bel.frame _, fun h => by cases h⟩

/-- The door's own heap meets the condition. -/
theorem door_met (os : Os) (args : Array Value) : laidMetH Tryz.prog Rows.seglogRepairsRow.laid ((World.doorLaid Tryz.prog 4000 os).forCall (fun _ _ => 0) ⟨#[], args, []⟩).memory :=
  laidMetH_of_parts3 (fuel := 8) (laidMet_of_run' 8 (by kernel_rfl) (by kernel_rfl)) (by kernel_rfl) (by kernel_rfl)

theorem lifted (os : Os) (started : os.Started) (H : Type) (enc : TypeId × Value → H) :
    ReturnsInHanded {} Tryz.checked os 5 .any (fun w args => (Rows.seglogRepairsSpec.pre enc Tryz.prog Tryz.f5 [] false w args ∧ laidMetH Tryz.prog Rows.seglogRepairsRow.laid w) ∧ sizedMet enc Tryz.prog Tryz.f5 (OpenSpec.ofChange Rows.seglogRepairsSpec) false w args)
      (Rows.seglogRepairsSpec.post enc Tryz.prog Tryz.f5 false true false false) := by
  refine returnsInHanded_of_change_and (C := Tryz.checked) (X := fun w _ => laidMetH Tryz.prog Rows.seglogRepairsRow.laid w) (fun _ _ _ hh h => h.of_heap hh) own_knob started (by kernel_rfl) Tryz.func5
    (ChangeSpec.witness_shaped (enc := enc) (C := Tryz.checked) (os := os) (X := fun w _ => laidMetH Tryz.prog Rows.seglogRepairsRow.laid w) false (World.doorLaid Tryz.prog 4000 os) #[.slice none 0 0, .int .i64 0] 8 rfl (World.shaped_of_RefB (by kernel_rfl) (by kernel_rfl)) (by kernel_rfl) (by kernel_rfl) (by kernel_rfl) (door_met os _)) ?_
  intro W base args ds gs before hval hW _ _ hL _
  exact contract H enc W base args ds gs before hval hW hL

theorem row_holds : Rows.SeglogRepairsSaid :=
  OpenClaim.holds_of_wide 5 Tryz.f5 rfl rfl rfl rfl rfl rfl rfl ⟨rfl, rfl, rfl, rfl, rfl⟩ rfl rfl rfl rfl rfl (by kernel_rfl) Tryz.func5 (by kernel_rfl)
    (of_decide_eq_true (by kernel_rfl)) (by unfold Func.isWrapper; first | (rw [if_pos (by decide +kernel)]; kernel_rfl) | (rw [if_neg (by decide +kernel)]; exact ⟨rfl, rfl⟩))
    (fun os started H enc _ => lifted os started H enc)

theorem proved : Rows.SeglogRepairsCardSaid :=
  Claim7.holds_tied_plain_at .later [] [.data, .data, .data, .sentinel, .sentinel] true (true, "248064307079d7323c22c640727e376bc0951ba1c1d9fc4ea02650572d15eab1") true
    row_holds (fun _ h => by cases h) (by kernel_rfl) (fun _ h => by cases h) seglogRepairs_row_tie rfl ⟨rfl, rfl⟩ (by kernel_rfl) rfl
    (fun f fn hf hfn => by
      obtain rfl : f = 5 := Option.some.inj ((show Tryz.prog.funcNamed "millrace/millracelaw06.SeglogRepairs" = some 5 by kernel_rfl).symm.trans hf) |>.symm
      obtain rfl : fn = Tryz.f5 := (Option.some.inj (Tryz.func5.symm.trans hfn)).symm
      exact ⟨by kernel_rfl, fun j t ht => by
        rw [Tryz.params5] at ht
        have hm : t ∈ [49, 3] := by simpa using Array.mem_of_getElem? ht
        have hall : ([49, 3].all fun u => !Tryz.prog.wantsStandIn u) = true := by kernel_rfl
        exact (show Tryz.prog.wantsStandIn t = false by simpa using List.all_eq_true.1 hall t hm)⟩)
    (by kernel_rfl)
#print axioms proved
end Go.Proofs.YtcckoppbophidaaGreatDoor.seglogRepairs
