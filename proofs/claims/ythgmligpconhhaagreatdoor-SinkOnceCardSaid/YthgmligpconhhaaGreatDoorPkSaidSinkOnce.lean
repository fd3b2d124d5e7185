/- The tied card of SinkOnce out of its walk. -/
import Derived.Test.YthgmligpconhhaaGreatDoorTie
import Derived.Test.YthgmligpconhhaaGreatDoorCards
import Derived.LaidMore
import Derived.LaidHandle
import Derived.ChangeVars
import Derived.Stop.Joined
import Derived.SevenTiedAt
import Derived.Test.YthgmligpconhhaaGreatDoorPkA
import Derived.Test.YthgmligpconhhaaGreatDoorPkE
import Derived.Test.YthgmligpconhhaaGreatDoorPkO
import Derived.Test.YthgmligpconhhaaGreatDoorPkP
namespace Go.Proofs.YthgmligpconhhaaGreatDoor.sinkOnce
open Go.ChangeShapes Go.WideShapes Go.ChangeAt Go.RowKit
set_option linter.unusedVariables false
set_option maxRecDepth 100000

theorem varsIn_laid {w : World} (h : laidMetH Tryz.prog Rows.sinkOnceRow.laid w) : VarsIn w := by
  have h1 := (laidMetH_iff.1 h).1
  rw [show (Rows.sinkOnceRow.laid.filter fun x => x.2.handleName?.isNone) = Rows.sinkOnceRow.laid from by kernel_rfl] at h1
  exact varsIn_of (l := Rows.sinkOnceRow.laid) rfl tab_eq rfl rfl (by kernel_rfl) (by kernel_rfl) (by kernel_rfl) h1
theorem size_of {l r : List (String × DataW Unit)} {w : World} {n1 n2 : String} {d1 d2 : DataW Unit} (hl : l = (n1, d1) :: (n2, d2) :: r) (g2 : Tryz.prog.globalNamed n2 = some 4) (h : laidMet Tryz.prog l w) : 5 ≤ w.heap.size := by
  subst hl
  obtain ⟨ps, ⟨_, _, _, _, _, _, _, _, _, _, hr, _⟩, _⟩ := h
  obtain ⟨g, t, cs, fuel, p, q, hg, ht, hvar, -⟩ := hr
  obtain rfl := Option.some.inj (g2.symm.trans hg)
  unfold World.var? at hvar
  rw [hg] at hvar
  simp only [Option.bind_some] at hvar
  split at hvar
  · rename_i c e x he
    have := (Array.getElem?_eq_some_iff.1 he).1
    omega
  · cases hvar
theorem laid_size {w : World} (h : laidMetH Tryz.prog Rows.sinkOnceRow.laid w) : 5 ≤ w.heap.size := by
  have h1 := (laidMetH_iff.1 h).1
  rw [show (Rows.sinkOnceRow.laid.filter fun x => x.2.handleName?.isNone) = Rows.sinkOnceRow.laid from by kernel_rfl] at h1
  exact size_of (l := Rows.sinkOnceRow.laid) rfl (by kernel_rfl) h1

theorem contract (H : Type) (enc : TypeId × Value → H) (W : World) (base : Nat) (args : Array Value) (ds gs : List (DataW H)) (before : List MemPlace)
    (hval : ∀ (j : Nat) t v, Tryz.f5.params[j]? = some t → args[j]? = some v → Value.okWide Tryz.prog W .any base t v)
    (hW : DataW.Whole enc Tryz.prog Tryz.f5.params.toList Rows.sinkOnceSpec.vars false W args.toList ds gs before) (hlaid : laidMetH Tryz.prog Rows.sinkOnceRow.laid W) (hsz : (DataW.weightsEach Tryz.prog (Tryz.f5.params.toList ++ Rows.sinkOnceSpec.plain.varTypes Tryz.prog) (ds ++ gs)).all (· ≤ reachBytes) = true) :
    Calls Tryz.prog 5 args W fun e W' => ∃ v, e = .returned v ∧ Rows.sinkOnceSpec.post enc Tryz.prog Tryz.f5 false true false false W args v W' := by
  have hW' := hW
  obtain ⟨p, q, hA0, hV, rfl, hfz, hnd⟩ := hW
  have hA : DataW.TrodAll enc Tryz.prog W 0 (fun _ => true) true Tryz.f5.params.toList args.toList ds p := hA0
  rw [Tryz.params5] at hA hval hsz
  obtain ⟨v0, vs0, d0, ds0, p0, q0, hargs, rfl, rfl, h0, r0⟩ := trodAll_cons hA
  obtain ⟨rfl, rfl, rfl⟩ := trodAll_nil r0
  obtain rfl : args = #[v0] := by cases args; simp_all
  obtain ⟨rfl, rfl⟩ := trodVars_none hV
  have k0 := h0
  have lt0 : ∀ x ∈ p0, x.block < W.heap.size := by obtain ⟨m, hm⟩ := k0; exact DataW.trod_lt m _ _ _ hm
  obtain ⟨ss, P1, P2⟩ := open_steps24 (hval 0 45 v0 rfl rfl) h0
  clear hA0
  refine (once_calls v0 ss W P1 P2 (varsIn_laid hlaid) (laid_size hlaid)).mono fun e W' ⟨he, bel⟩ => ?_
  subst he
  exact ⟨_, rfl, _, _, _, [], _, [], hW', trodAll_mk1 (shut_bool Tryz.underlying4 _), (trodAll_cons_mk (Below.trod laid_out (by kernel_rfl) (of_decide_eq_true (by kernel_rfl)) k0 bel lt0) trodAll_mk0), rfl, bel.frame _, fun h => by cases h⟩

/-- The door's own heap meets the condition. -/
theorem door_met (os : Os) (args : Array Value) : laidMetH Tryz.prog Rows.sinkOnceRow.laid ((World.doorLaid Tryz.prog 4000 os).forCall (fun _ _ => 0) ⟨#[], args, []⟩).memory :=
  laidMetH_of_parts3 (fuel := 8) (laidMet_of_run' 8 (by kernel_rfl) (by kernel_rfl)) (by kernel_rfl) (by kernel_rfl)

theorem lifted (os : Os) (started : os.Started) (H : Type) (enc : TypeId × Value → H) :
    ReturnsInHanded {} Tryz.checked os 5 .any (fun w args => (Rows.sinkOnceSpec.pre enc Tryz.prog Tryz.f5 [] false w args ∧ laidMetH Tryz.prog Rows.sinkOnceRow.laid w) ∧ sizedMet enc Tryz.prog Tryz.f5 (OpenSpec.ofChange Rows.sinkOnceSpec) false w args)
      (Rows.sinkOnceSpec.post enc Tryz.prog Tryz.f5 false true false false) := by
  refine returnsInHanded_of_change_and (C := Tryz.checked) (X := fun w _ => laidMetH Tryz.prog Rows.sinkOnceRow.laid w) (fun _ _ _ hh h => h.of_heap hh) own_knob started (by kernel_rfl) Tryz.func5
    (ChangeSpec.witness_shaped (enc := enc) (C := Tryz.checked) (os := os) (X := fun w _ => laidMetH Tryz.prog Rows.sinkOnceRow.laid w) false (World.doorLaid Tryz.prog 4000 os) #[.slice none 0 0] 8 rfl (World.shaped_of_RefB (by kernel_rfl) (by kernel_rfl)) (by kernel_rfl) (by kernel_rfl) (by kernel_rfl) (door_met os _)) ?_
  intro W base args ds gs before hval hW _ hsz hL _
  exact contract H enc W base args ds gs before hval hW hL hsz

theorem row_holds : Rows.SinkOnceSaid :=
  OpenClaim.holds_of_wide 5 Tryz.f5 rfl rfl rfl rfl rfl rfl rfl ⟨rfl, rfl, rfl, rfl, rfl⟩ rfl rfl rfl rfl rfl (by kernel_rfl) Tryz.func5 (by kernel_rfl)
    (of_decide_eq_true (by kernel_rfl)) (by unfold Func.isWrapper; first | (rw [if_pos (by decide +kernel)]; kernel_rfl) | (rw [if_neg (by decide +kernel)]; exact ⟨rfl, rfl⟩))
    (fun os started H enc _ => lifted os started H enc)

theorem proved : Rows.SinkOnceCardSaid :=
  Claim7.holds_tied_plain_at .later [] [.data, .data, .data, .sentinel, .sentinel] true (true, "f44c0478fff0d5ac09f483dfc8f36e21f8c4c901c6713909911685f3289f85bd") true
    row_holds (fun _ h => by cases h) (by kernel_rfl) (fun _ h => by cases h) sinkOnce_row_tie rfl ⟨rfl, rfl⟩ (by kernel_rfl) rfl
    (fun f fn hf hfn => by
      obtain rfl : f = 5 := Option.some.inj ((show Tryz.prog.funcNamed "millrace/millracelaw24.SinkOnce" = some 5 by kernel_rfl).symm.trans hf) |>.symm
      obtain rfl : fn = Tryz.f5 := (Option.some.inj (Tryz.func5.symm.trans hfn)).symm
      exact ⟨by kernel_rfl, fun j t ht => by
        rw [Tryz.params5] at ht
        have hm : t ∈ [45] := by simpa using Array.mem_of_getElem? ht
        have hall : ([45].all fun u => !Tryz.prog.wantsStandIn u) = true := by kernel_rfl
        exact (show Tryz.prog.wantsStandIn t = false by simpa using List.all_eq_true.1 hall t hm)⟩)
    (by kernel_rfl)
#print axioms proved
end Go.Proofs.YthgmligpconhhaaGreatDoor.sinkOnce
