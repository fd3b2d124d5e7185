/- The tied card of SinkNext out of its walk. -/
import Derived.Test.YthgmligpconhhaaGreatDoorTie
import Derived.Test.YthgmligpconhhaaGreatDoorCards
import Derived.LaidMore
import Derived.LaidHandle
import Derived.ChangeVars
import Derived.Stop.Joined
import Derived.SevenTiedAt
import Derived.Test.YthgmligpconhhaaGreatDoorPkA
import Derived.Test.YthgmligpconhhaaGreatDoorPkE
import Derived.Test.YthgmligpconhhaaGreatDoorPkN
import Derived.Test.YthgmligpconhhaaGreatDoorPkO
import Derived.Test.YthgmligpconhhaaGreatDoorPkP
namespace Go.Proofs.YthgmligpconhhaaGreatDoor.sinkNext
open Go.ChangeShapes Go.WideShapes Go.ChangeAt Go.RowKit
set_option linter.unusedVariables false
set_option maxRecDepth 100000

theorem varsIn_laid {w : World} (h : laidMetH Tryz.prog Rows.sinkNextRow.laid w) : VarsIn w := by
  have h1 := (laidMetH_iff.1 h).1
  rw [show (Rows.sinkNextRow.laid.filter fun x => x.2.handleName?.isNone) = Rows.sinkNextRow.laid from by kernel_rfl] at h1
  exact varsIn_of (l := Rows.sinkNextRow.laid) rfl tab_eq rfl rfl (by kernel_rfl) (by kernel_rfl) (by kernel_rfl) h1
theorem size_of {l r : List (String × DataW Unit)} {w : World} {n1 n2 : String} {d1 d2 : DataW Unit} (hl : l = (n1, d1) :: (n2, d2) :: r) (g2 : Tryz.prog.globalNamed n2 = some 4) (h : laidMet Tryz.prog l w) : 5 ≤ w.heap.size := by
  subst hl
  obtain ⟨ps, ⟨_, _, _, _, _, _, _, _, _, _, hr, _⟩, _⟩ := h
  obtain ⟨g, t, cs, fuel, p, q, hg, ht, hvar, -⟩ := hr
  obtain rfl := Option.some.inj (g2.symm.trans hg)
  unfold World.var? at hvar
  rw [hg] at hvar
  simp only [Option.bind_some] at hvar
  split at hvar
  · rename_i c e x he
    have := (Array.getElem?_eq_some_iff.1 he).1
    omega
  · cases hvar
theorem laid_size {w : World} (h : laidMetH Tryz.prog Rows.sinkNextRow.laid w) : 5 ≤ w.heap.size := by
  have h1 := (laidMetH_iff.1 h).1
  rw [show (Rows.sinkNextRow.laid.filter fun x => x.2.handleName?.isNone) = Rows.sinkNextRow.laid from by kernel_rfl] at h1
  exact size_of (l := Rows.sinkNextRow.laid) rfl (by kernel_rfl) h1

theorem contract (H : Type) (enc : TypeId × Value → H) (W : World) (base : Nat) (args : Array Value) (ds gs : List (DataW H)) (before : List MemPlace)
    (hval : ∀ (j : Nat) t v, Tryz.f3.params[j]? = some t → args[j]? = some v → Value.okWide Tryz.prog W .any base t v)
    (hW : DataW.Whole enc Tryz.prog Tryz.f3.params.toList Rows.sinkNextSpec.vars false W args.toList ds gs before) (hlaid : laidMetH Tryz.prog Rows.sinkNextRow.laid W) :
    Calls Tryz.prog 3 args W fun e W' => ∃ v, e = .returned v ∧ Rows.sinkNextSpec.post enc Tryz.prog Tryz.f3 false true false false W args v W' := by
  have hW' := hW
  obtain ⟨p, q, hA0, hV, rfl, hfz, hnd⟩ := hW
  have hA : DataW.TrodAll enc Tryz.prog W 0 (fun _ => true) true Tryz.f3.params.toList args.toList ds p := hA0
  rw [Tryz.params3] at hA hval
  obtain ⟨v0, vs0, d0, ds0, p0, q0, hargs, rfl, rfl, h0, r0⟩ := trodAll_cons hA
  obtain ⟨v1, vs1, d1, ds1, p1, q1, rfl, rfl, rfl, h1, r1⟩ := trodAll_cons r0
  obtain ⟨v2, vs2, d2, ds2, p2, q2, rfl, rfl, rfl, h2, r2⟩ := trodAll_cons r1
  obtain ⟨rfl, rfl, rfl⟩ := trodAll_nil r2
  obtain rfl : args = #[v0, v1, v2] := by cases args; simp_all
  obtain ⟨rfl, rfl⟩ := trodVars_none hV
  have k0 := h0
  have lt0 : ∀ x ∈ p0, x.block < W.heap.size := by obtain ⟨m, hm⟩ := k0; exact DataW.trod_lt m _ _ _ hm
  have k1 := h1
  have lt1 : ∀ x ∈ p1, x.block < W.heap.size := by obtain ⟨m, hm⟩ := k1; exact DataW.trod_lt m _ _ _ hm
  have k2 := h2
  have lt2 : ∀ x ∈ p2, x.block < W.heap.size := by obtain ⟨m, hm⟩ := k2; exact DataW.trod_lt m _ _ _ hm
  obtain ⟨es, E1, E2, -⟩ := open_intsl (hval 0 22 v0 rfl rfl) h0
  obtain ⟨gs, G1, G2, -⟩ := open_intsl (hval 1 22 v1 rfl rfl) h1
  obtain ⟨ps, P1, P2, P3, -⟩ := open_pairs (hval 2 23 v2 rfl rfl) h2
  clear hA0
  refine (next_calls v0 v1 v2 es gs ps W E1 G1 P1 E2 G2 P2 P3 (varsIn_laid hlaid) (laid_size hlaid)).mono fun e W' ⟨he, bel⟩ => ?_
  subst he
  exact ⟨_, rfl, _, _, _, [], _, [], hW', trodAll_mk1 (shut_bool Tryz.underlying4 _), (trodAll_cons_mk (Below.trod laid_out (by kernel_rfl) (of_decide_eq_true (by kernel_rfl)) k0 bel lt0) (trodAll_cons_mk (Below.trod laid_out (by kernel_rfl) (of_decide_eq_true (by kernel_rfl)) k1 bel lt1) (trodAll_cons_mk (Below.trod laid_out (by kernel_rfl) (of_decide_eq_true (by kernel_rfl)) k2 bel lt2) trodAll_mk0))), rfl, bel.frame _, fun h => by cases h⟩

/-- The door's own heap meets the condition. -/
theorem door_met (os : Os) (args : Array Value) : laidMetH Tryz.prog Rows.sinkNextRow.laid ((World.doorLaid Tryz.prog 4000 os).forCall (fun _ _ => 0) ⟨#[], args, []⟩).memory :=
  laidMetH_of_parts3 (fuel := 8) (laidMet_of_run' 8 (by kernel_rfl) (by kernel_rfl)) (by kernel_rfl) (by kernel_rfl)

theorem lifted (os : Os) (started : os.Started) (H : Type) (enc : TypeId × Value → H) :
    ReturnsInHanded {} Tryz.checked os 3 .any (fun w args => (Rows.sinkNextSpec.pre enc Tryz.prog Tryz.f3 [] false w args ∧ laidMetH Tryz.prog Rows.sinkNextRow.laid w) ∧ sizedMet enc Tryz.prog Tryz.f3 (OpenSpec.ofChange Rows.sinkNextSpec) false w args)
      (Rows.sinkNextSpec.post enc Tryz.prog Tryz.f3 false true false false) := by
  refine returnsInHanded_of_change_and (C := Tryz.checked) (X := fun w _ => laidMetH Tryz.prog Rows.sinkNextRow.laid w) (fun _ _ _ hh h => h.of_heap hh) own_knob started (by kernel_rfl) Tryz.func3
    (ChangeSpec.witness_shaped (enc := enc) (C := Tryz.checked) (os := os) (X := fun w _ => laidMetH Tryz.prog Rows.sinkNextRow.laid w) false (World.doorLaid Tryz.prog 4000 os) #[.slice none 0 0, .slice none 0 0, .slice none 0 0] 8 rfl (World.shaped_of_RefB (by kernel_rfl) (by kernel_rfl)) (by kernel_rfl) (by kernel_rfl) (by kernel_rfl) (door_met os _)) ?_
  intro W base args ds gs before hval hW _ _ hL _
  exact contract H enc W base args ds gs before hval hW hL

theorem row_holds : Rows.SinkNextSaid :=
  OpenClaim.holds_of_wide 3 Tryz.f3 rfl rfl rfl rfl rfl rfl rfl ⟨rfl, rfl, rfl, rfl, rfl⟩ rfl rfl rfl rfl rfl (by kernel_rfl) Tryz.func3 (by kernel_rfl)
    (of_decide_eq_true (by kernel_rfl)) (by unfold Func.isWrapper; first | (rw [if_pos (by decide +kernel)]; kernel_rfl) | (rw [if_neg (by decide +kernel)]; exact ⟨rfl, rfl⟩))
    (fun os started H enc _ => lifted os started H enc)

theorem proved : Rows.SinkNextCardSaid :=
  Claim7.holds_tied_plain_at .later [] [.data, .data, .data, .sentinel, .sentinel] true (true, "f44c0478fff0d5ac09f483dfc8f36e21f8c4c901c6713909911685f3289f85bd") true
    row_holds (fun _ h => by cases h) (by kernel_rfl) (fun _ h => by cases h) sinkNext_row_tie rfl ⟨rfl, rfl⟩ (by kernel_rfl) rfl
    (fun f fn hf hfn => by
      obtain rfl : f = 3 := Option.some.inj ((show Tryz.prog.funcNamed "millrace/millracelaw24.SinkNext" = some 3 by kernel_rfl).symm.trans hf) |>.symm
      obtain rfl : fn = Tryz.f3 := (Option.some.inj (Tryz.func3.symm.trans hfn)).symm
      exact ⟨by kernel_rfl, fun j t ht => by
        rw [Tryz.params3] at ht
        have hm : t ∈ [22, 22, 23] := by simpa using Array.mem_of_getElem? ht
        have hall : ([22, 22, 23].all fun u => !Tryz.prog.wantsStandIn u) = true := by kernel_rfl
        exact (show Tryz.prog.wantsStandIn t = false by simpa using List.all_eq_true.1 hall t hm)⟩)
    (by kernel_rfl)
#print axioms proved
end Go.Proofs.YthgmligpconhhaaGreatDoor.sinkNext
