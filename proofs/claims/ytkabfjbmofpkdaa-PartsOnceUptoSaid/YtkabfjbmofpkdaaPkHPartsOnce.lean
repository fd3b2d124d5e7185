/- Walks and plain laws of the chapter, laid together; each part says what it proves. -/
import Derived.Deep.CutRange
import Derived.Test.YtkabfjbmofpkdaaPkA
import Derived.Test.YtkabfjbmofpkdaaPkC
import Derived.Test.YtkabfjbmofpkdaaPkF
import Derived.Test.YtkabfjbmofpkdaaPkG
/- Layer 9: CopyGraph, walked. -/
namespace Go.Proofs.Ytkabfjbmofpkdaa
open Go.RowKit Go.Shelf
set_option maxRecDepth 100000

/-- The operators that are copied so far. -/
structure CGS (w X wr : World) (os : List Opr) (i : Nat) (v : Value) (ys : List Opr) : Prop where
  con : ys.map Opr.con = (os.take i).map Opr.con
  row : wr.ownsRow X.heap.size 90 7 v ys.length (flatF Opr.cells ys)
  ins : ∀ o ∈ ys, wr.ownsRow X.heap.size 3 1 o.iv o.ins.length (ints o.ins)
  only : Only (fun j => j = w.heap.size + 1 + 1) X wr
  out : wr.cell? ⟨w.heap.size + 1 + 1, 0, none⟩ = some v
  fr : wr.frozen? ⟨w.heap.size + 1 + 1, 0, none⟩ = false
theorem CGS.below {w X wr W : World} {os ys : List Opr} {i : Nat} {v : Value} (h : CGS w X wr os i v ys) (hb : Below wr.heap.size wr W) : CGS w X W os i v ys :=
  ⟨h.con, ownsRow_below h.row hb (Nat.le_refl _), fun o ho => ownsRow_below (h.ins o ho) hb (Nat.le_refl _), h.only.trans (Only.of_below (S := fun _ => False) hb) (fun _ _ h => h.elim), cell_later hb h.out, frozen_later hb h.out h.fr⟩
theorem CGS.len {w X wr : World} {os ys : List Opr} {i : Nat} {v : Value} (h : CGS w X wr os i v ys) (hi : i ≤ os.length) : ys.length = i := by
  have := congrArg List.length h.con
  simp only [List.length_map, List.length_take] at this
  omega
theorem CGS.more {w X W w5 : World} {os ys : List Opr} {i : Nat} {v v5 : Value} {o' : Opr} (h : CGS w X W os i v ys) (hX : X.heap.size = w.heap.size + 3) (hi : i < os.length) (hc : o'.con = os[i].con)
    (hin : W.ownsRow X.heap.size 3 1 o'.iv o'.ins.length (ints o'.ins)) (hm : w5.ownsRow X.heap.size 90 7 v5 (ys.length + 1) (flatF Opr.cells ys ++ Opr.cells o')) (hg : W.grownBy w5 v.ownBlock) :
    CGS w X (w5.setCell ⟨w.heap.size + 1 + 1, 0, none⟩ v5) os (i + 1) v5 (ys ++ [o']) := by
  have hlt : w.heap.size + 1 + 1 < W.heap.size := World.block_lt_of_cell? W _ h.out
  have hno : ¬ v.ownBlock = some (w.heap.size + 1 + 1) := fun e => by have := (World.ownsRow.lt h.row _ e).1; omega
  have hone := Only.of_grown hg
  have h5 := hone.cell hno h.out
  refine ⟨?_, ?_, fun o ho => ?_, ?_, cell_set_same v5 h5, ?_⟩
  · rw [List.map_append, h.con, List.take_succ_eq_append_getElem hi, List.map_append]
    simp [hc]
  · refine ownsRow_set ?_ _ _ (by show w.heap.size + 1 + 1 < X.heap.size; omega)
    rw [List.length_append, flatF_append, flatF_one]
    exact hm
  · refine ownsRow_set ?_ _ _ (by show w.heap.size + 1 + 1 < X.heap.size; omega)
    rcases List.mem_append.1 ho with ho | ho
    · exact own_otherT h.row (h.ins o ho) (by decide) hg
    · rw [List.mem_singleton] at ho
      rw [ho]
      exact own_otherT h.row hin (by decide) hg
  · exact (h.only.trans hone (fun j hj e => by have := (World.ownsRow.lt h.row j e).1; omega)).setCell ⟨w.heap.size + 1 + 1, 0, none⟩ v5 (.inl rfl)
  · rw [World.frozen?_setCell]
    exact (hone.frozen hlt hno).trans h.fr

theorem CGS.grown {w X W w5 : World} {os ys : List Opr} {i : Nat} {v : Value} (h : CGS w X W os i v ys) (hX : X.heap.size = w.heap.size + 3) (hg : W.grownBy w5 v.ownBlock) : w5.cell? ⟨w.heap.size + 1 + 1, 0, none⟩ = some v ∧ w5.frozen? ⟨w.heap.size + 1 + 1, 0, none⟩ = false := by
  have hlt : w.heap.size + 1 + 1 < W.heap.size := World.block_lt_of_cell? W _ h.out
  have hno : ¬ v.ownBlock = some (w.heap.size + 1 + 1) := fun e => by have := (World.ownsRow.lt h.row _ e).1; omega
  exact ⟨(Only.of_grown hg).cell hno h.out, ((Only.of_grown hg).frozen hlt hno).trans h.fr⟩

theorem cell_later' {B : Nat} {w w' : World} {b o : Nat} {v : Value} (hb : Below B w w') (hc : w.cell? ⟨b, o, none⟩ = some v) (h : b < B := by omega) : w'.cell? ⟨b, o, none⟩ = some v :=
  (World.cell?_of_block (a := ⟨b, o, none⟩) (hb.block b h)).trans hc
theorem frozen_later' {B : Nat} {w w' : World} {b o : Nat} {v : Value} (hb : Below B w w') (_ : w.cell? ⟨b, o, none⟩ = some v) (hf : w.frozen? ⟨b, o, none⟩ = false) (h : b < B := by omega) : w'.frozen? ⟨b, o, none⟩ = false :=
  (World.frozen?_of_block (a := ⟨b, o, none⟩) (hb.block b h)).trans hf

set_option maxHeartbeats 4000000 in
theorem copyG_calls (gv : Value) (os : List Opr) (w : World) (hO : OpsR w gv os) (hl : os.length ≤ 1100000) (hi : ∀ o ∈ os, o.ins.length ≤ 1100000) :
    Calls Try.prog 17 #[.agg #[gv]] w fun e w' => ∃ v ys, e = .returned (.agg #[v]) ∧ ys.map Opr.con = os.map Opr.con ∧ w'.ownsRow w.heap.size 90 7 v ys.length (flatF Opr.cells ys) ∧ (∀ o ∈ ys, w'.ownsRow w.heap.size 3 1 o.iv o.ins.length (ints o.ins)) ∧ Below w.heap.size w w' := by
  obtain ⟨ga, gc, hgv, hgc, -⟩ := hO.row.slice
  subst hgv
  obtain ⟨X, hX⟩ : ∃ X, X = ((w.alloc (.cells #[.slice ga os.length gc] 28)).alloc (.cells #[.slice none 0 0] 28)).alloc (.cells #[.slice none 0 0] 28) := ⟨_, rfl⟩
  have hbX : Below w.heap.size w X := by rw [hX]; exact below_box (below_box (below_alloc _ _) _) _
  have hXs : X.heap.size = w.heap.size + 3 := by rw [hX]; simp
  have g0 : X.cell? ⟨w.heap.size, 0, none⟩ = some (.slice ga os.length gc) := by
    rw [hX, World.cell?_alloc_past _ _ _ (by simp <;> omega), World.cell?_alloc_past _ _ _ (by simp <;> omega), World.cell?_alloc_at _ _ _ _ (by simp)]; rfl
  have g1 : X.cell? ⟨w.heap.size + 1, 0, none⟩ = some (.slice none 0 0) ∧ X.frozen? ⟨w.heap.size + 1, 0, none⟩ = false := by
    rw [hX]
    refine ⟨?_, ?_⟩
    · rw [World.cell?_alloc_past _ _ _ (by simp <;> omega), World.cell?_alloc_at _ _ _ _ (by simp)]; rfl
    · rw [World.frozen?_alloc_past _ _ _ (by simp <;> omega), World.frozen?_alloc_at _ _ _ _ (by simp)]
  have g2 : X.cell? ⟨w.heap.size + 1 + 1, 0, none⟩ = some (.slice none 0 0) ∧ X.frozen? ⟨w.heap.size + 1 + 1, 0, none⟩ = false := by
    rw [hX]
    refine ⟨?_, ?_⟩
    · rw [World.cell?_alloc_at _ _ _ _ (by simp)]; rfl
    · rw [World.frozen?_alloc_at _ _ _ _ (by simp)]
  have HX := Lib.hid hX
  have HBX := Lib.hid hbX
  have HXS := Lib.hid hXs
  have HO := Lib.hid hO
  have HI := Lib.hid hi
  have HG0 := Lib.hid g0
  have HG1 := Lib.hid g1
  have HG2 := Lib.hid g2
  clear hX hbX hXs hO hi g0 g1 g2
  go_enter Try.func17, Try.ntmps17
  go_upto_region 3 with fail
  rw [show ((w.alloc (.cells #[.slice ga os.length gc] 28)).alloc (.cells #[.slice none 0 0] 28)).alloc (.cells #[.slice none 0 0] 28) = X from HX.out.symm]
  go_loopw [4, 5] (fun iv _ wr => ∃ (i : Nat) (v : Value) (ys : List Opr), i ≤ os.length ∧ iv = .int .i64 i ∧ CGS w X wr os i v ys) (fun iv _ _ => os.length - (intOf iv).toNat)
  case atStart => exact ⟨0, _, [], by omega, rfl, rfl, World.ownsRow_nil _ _ _ _, fun o ho => by simp at ho, Only.refl _ _, HG2.out.1, HG2.out.2⟩
  case round =>
    obtain ⟨i, v, ys, hin, rfl, hs⟩ := hrel
    have HS := Lib.hid hs
    have g0 := hs.only.cell (by show ¬ w.heap.size = w.heap.size + 1 + 1; omega) HG0.out
    have HBR := Lib.hid (hs.only.below (B := w.heap.size + 1 + 1) (by have := HXS.out; omega) (fun j hj e => by omega))
    have HOR := Lib.hid (HO.out.below (HBX.out.trans (HBR.out.mono (by omega))) (Nat.le_refl _))
    have HYL := Lib.hid (hs.len hin)
    have hsz : w.heap.size + 1 + 1 < wr.heap.size := World.block_lt_of_cell? wr _ hs.out
    have hne1 : ¬ (w.heap.size + 1 + 1 = wr.heap.size) := by omega
    have hne2 : ¬ (wr.heap.size = w.heap.size + 1 + 1) := by omega
    obtain ⟨va, vc, rfl⟩ := own_slice hs.row
    clear hs
    by_cases hlt : i < os.length
    · obtain ⟨b, o, rfl, e0, e1, e2, e3, e4, e5, e6⟩ := op_at HOR.out i hlt
      have hins := HOR.out.ins os[i] (List.getElem_mem _)
      have HIL := Lib.hid (HI.out os[i] (List.getElem_mem _))
      obtain ⟨ia, ic, hiv, hic, -⟩ := Rd.slice hins
      rw [hiv] at e1 hins
      have HINS := Lib.hid hins
      have HCON := Lib.hid (fun (h : CGS w X wr os i (.slice va ys.length vc) ys) (W w5 : World) (v5 : Value) (o' : Opr) (hb : Below wr.heap.size wr W) (hc : o'.con = os[i].con) (hin : W.ownsRow X.heap.size 3 1 o'.iv o'.ins.length (ints o'.ins))
        (hm : w5.ownsRow X.heap.size 90 7 v5 (ys.length + 1) (flatF Opr.cells ys ++ Opr.cells o')) (hg : W.grownBy w5 (Value.slice va ys.length vc).ownBlock) => (h.below hb).more HXS.out hlt hc hin hm hg)
      clear hins hiv
      generalize os[i] = O at *
      obtain ⟨kind, iv, ins, arg, num, rounds, test, lim⟩ := O
      simp only at e0 e1 e2 e3 e4 e5 e6 hic HIL HINS
      obtain ⟨V0, hV0⟩ : ∃ V0, V0 = wr.alloc (.cells #[.int .i64 kind, .slice ia ins.length ic, .int .i64 arg, .int .u32 num, .int .i64 rounds, .int .i64 test, .int .u32 lim] 90) := ⟨_, rfl⟩
      have hb0 : Below wr.heap.size wr V0 := by rw [hV0]; exact below_alloc _ _
      have hs0 : V0.heap.size = wr.heap.size + 1 := by rw [hV0]; simp
      have v0 : V0.cell? ⟨wr.heap.size, 0, none⟩ = some (.int .i64 kind) := by rw [hV0]; exact box_self 0 _ rfl
      have v1 : V0.cell? ⟨wr.heap.size, 1, none⟩ = some (.slice ia ins.length ic) := by rw [hV0]; exact box_self 1 _ rfl
      have v2 : V0.cell? ⟨wr.heap.size, 2, none⟩ = some (.int .i64 arg) := by rw [hV0]; exact box_self 2 _ rfl
      have v3 : V0.cell? ⟨wr.heap.size, 3, none⟩ = some (.int .u32 num) := by rw [hV0]; exact box_self 3 _ rfl
      have v4 : V0.cell? ⟨wr.heap.size, 4, none⟩ = some (.int .i64 rounds) := by rw [hV0]; exact box_self 4 _ rfl
      have v5 : V0.cell? ⟨wr.heap.size, 5, none⟩ = some (.int .i64 test) := by rw [hV0]; exact box_self 5 _ rfl
      have v6 : V0.cell? ⟨wr.heap.size, 6, none⟩ = some (.int .u32 lim) := by rw [hV0]; exact box_self 6 _ rfl
      have vf : V0.frozen? ⟨wr.heap.size, 1, none⟩ = false := by rw [hV0, World.frozen?_alloc_at _ _ _ _ rfl]
      have HV0 := Lib.hid hV0
      have HB0 := Lib.hid hb0
      have HS0 := Lib.hid hs0
      have HVF := Lib.hid vf
      have HVC := Lib.hid (And.intro v0 (And.intro v1 (And.intro v2 (And.intro v3 (And.intro v4 (And.intro v5 v6))))))
      clear hV0 hb0 hs0 v0 v2 v3 v4 v5 v6 vf v1
      go_upto_region 6 with fail
      rw [show wr.alloc (.cells #[.int .i64 kind, .slice ia ins.length ic, .int .i64 arg, .int .u32 num, .int .i64 rounds, .int .i64 test, .int .u32 lim] 90) = V0 from HV0.out.symm]
      have v1 := HVC.out.2.1
      have hlt0 : wr.heap.size < V0.heap.size := by have := HS0.out; omega
      have HOWN := Lib.hid (World.ownsRow_lit (base := V0.heap.size) (size := 1) (e := 3) V0 #[] 0 (Nat.le_refl _) (by unfold maxLen; omega) (by simp))
      have HIN1 := Lib.hid (Rd.below HINS.out (below_go HB0.out (below_alloc V0 (.cells #[] 3))) (Nat.le_refl _))
      have hcv := HS.out.out
      have hil := HIL.out
      have hA : ∀ xa xc w2, Below V0.heap.size V0 w2 → w2.ownsRow V0.heap.size 3 1 (.slice xa ins.length xc) ins.length (ints ins) →
          ∃ W3, W3 = w2.setCell ⟨wr.heap.size, 1, none⟩ (.slice xa ins.length xc) ∧ Below wr.heap.size wr W3 ∧ W3.ownsRow V0.heap.size 3 1 (.slice xa ins.length xc) ins.length (ints ins) := fun xa xc w2 hb ho =>
        ⟨_, rfl, (below_go HB0.out hb).setCell (p := ⟨wr.heap.size, 1, none⟩) (Nat.le_refl _) _, ownsRow_set ho _ _ (by show wr.heap.size < V0.heap.size; omega)⟩
      have HA := Lib.hid hA
      clear hA
      have hyl : ys.length ≤ 1100000 := by have := HYL.out; omega
      go_upto_region 7 with (at_builtin; go_loud (refine app_list tyInts HOWN.out HIN1.out (ints_one _) (by omega) (by omega) (by simp) rfl rfl rfl rfl ?_; intro x2 w2 hm2 hg2 hn2; rw [Nat.zero_add] at hm2; obtain ⟨xa, xc, rfl⟩ := own_slice hm2; have HB2 := Lib.hid (Below.grown (below_alloc V0 (.cells #[] 3)) hg2 (by simp) (fun k e => (World.ownsRow.lt HOWN.out k e).1)); obtain ⟨W3, rfl, hbW, hoW⟩ := HA.out xa xc w2 HB2.out hm2; have HBW := Lib.hid hbW; have HOW := Lib.hid hoW; have y0 := cell_later HB2.out HVC.out.1; have y1 := cell_later HB2.out HVC.out.2.1; have y2 := cell_later HB2.out HVC.out.2.2.1; have y3 := cell_later HB2.out HVC.out.2.2.2.1; have y4 := cell_later HB2.out HVC.out.2.2.2.2.1; have y5 := cell_later HB2.out HVC.out.2.2.2.2.2.1; have y6 := cell_later HB2.out HVC.out.2.2.2.2.2.2; have yf := frozen_later HB2.out HVC.out.2.1 HVF.out; have yv := cell_later (below_go HB0.out HB2.out) HS.out.out; clear hm2 hg2 hn2 hbW hoW))
      have HS4 := Lib.hid (HS.out.below (below_go HBW.out (below_alloc (w2.setCell ⟨wr.heap.size, 1, none⟩ (.slice xa ins.length xc)) (.cells #[.int .i64 kind, .slice xa ins.length xc, .int .i64 arg, .int .u32 num, .int .i64 rounds, .int .i64 test, .int .u32 lim] 90))))
      have HOW4 := Lib.hid (ownsRow_below HOW.out (below_alloc (w2.setCell ⟨wr.heap.size, 1, none⟩ (.slice xa ins.length xc)) (.cells #[.int .i64 kind, .slice xa ins.length xc, .int .i64 arg, .int .u32 num, .int .i64 rounds, .int .i64 test, .int .u32 lim] 90)) (Nat.le_refl _))
      have hlit := Rd.lit (w := (w2.setCell ⟨wr.heap.size, 1, none⟩ (.slice xa ins.length xc))) (cs := #[.int .i64 kind, .slice xa ins.length xc, .int .i64 arg, .int .u32 num, .int .i64 rounds, .int .i64 test, .int .u32 lim]) (e := 90) (n := 1) (sz := 7) rfl (by omega)
      rw [show (w2.setCell ⟨wr.heap.size, 1, none⟩ (.slice xa ins.length xc)).heap.size = w2.heap.size by simp] at hlit
      have HLIT := Lib.hid hlit
      clear hlit
      have hbs4 := HS4.out.only.size
      go_wp2_with (at_builtin; go_loud (refine app_list tyOps HS4.out.row HLIT.out (by intro u hu; simp at hu; rcases hu with rfl | rfl | rfl | rfl | rfl | rfl | rfl <;> rfl) (by omega) (by omega) hbs4 rfl rfl rfl rfl ?_; intro x5 w5 hm5 hg5 hn5; obtain ⟨xa5, xc5, rfl⟩ := own_slice hm5; have HM5 := Lib.hid hm5; have HG5 := Lib.hid hg5; have z1 := (HS4.out.grown HXS.out hg5).1; have z2 := (HS4.out.grown HXS.out hg5).2; clear hm5 hg5 hn5))
      go_roundw
      case rel =>
        exact ⟨i + 1, _, ys ++ [⟨kind, .slice xa ins.length xc, ins, arg, num, rounds, test, lim⟩], by omega, by go_num, HCON.out HS.out _ _ _ ⟨kind, .slice xa ins.length xc, ins, arg, num, rounds, test, lim⟩ (below_go HBW.out (below_alloc _ _)) rfl (ownsRow_mono HOW4.out (by have := HS0.out; have := HXS.out; omega)) HM5.out HG5.out⟩
      case measure => simp [intOf]; omega
    · obtain rfl : i = os.length := by omega
      have hcv := HS.out.out
      have h1 := cell_later' HBR.out HG1.out.1
      have h1f := frozen_later' HBR.out HG1.out.1 HG1.out.2
      have hs1 : w.heap.size + 1 < wr.heap.size := by omega
      go_wp2_with fail
      have hr : (wr.setCell ⟨w.heap.size + 1, 0, none⟩ (.slice va ys.length vc)).rangeAt (w.heap.size + 1) 0 [.slice va ys.length vc] := fun j v hj => by
        match j, hj with
        | 0, hj =>
          simp only [List.getElem?_cons_zero, Option.some.injEq] at hj
          rw [← hj]
          exact cell_set_same _ h1
      refine bodyPost_ret (v := .agg #[.slice va ys.length vc]) (results_cell Try.results17 rfl (run_loadVar_mid (P := Try.prog) _ (w.heap.size + 1) 0 28 [.slice va ys.length vc] _ hr Try.underlying28 rfl (by show _ = some 1; kernel_rfl))) rfl
        ⟨_, ys, rfl, by have := HS.out.con; rwa [List.take_length] at this, ownsRow_mono (ownsRow_set HS.out.row _ _ (by show w.heap.size + 1 < X.heap.size; have := HXS.out; omega)) (by have := HXS.out; omega), fun o ho => ownsRow_mono (ownsRow_set (HS.out.ins o ho) _ _ (by show w.heap.size + 1 < X.heap.size; have := HXS.out; omega)) (by have := HXS.out; omega), (HBX.out.trans (HBR.out.mono (by omega))).setCell (p := ⟨w.heap.size + 1, 0, none⟩) (by show w.heap.size ≤ w.heap.size + 1; omega) _⟩
end Go.Proofs.Ytkabfjbmofpkdaa

/- Layer 14: the document's Copy, walked. -/
namespace Go.Proofs.Ytkabfjbmofpkdaa
open Go.RowKit Go.Shelf
set_option maxRecDepth 100000

/-- A ledger whose rows are new memory. -/
structure LedN (w : World) (base : Nat) (L : Led) : Prop where
  rows : w.ownsRow base 92 3 L.rv L.rows.length (flatF Row.cells L.rows)
  opn : w.ownsRow base 33 5 L.ov L.opn.length (flatF Rec.cells L.opn)
  bats : w.ownsRow base 67 2 L.bv L.bats.length (flatF Bt.cells L.bats)
  recs : ∀ b ∈ L.bats, w.ownsRow base 33 5 b.rv b.recs.length (flatF Rec.cells b.recs)
  ops : w.ownsRow base 90 7 L.gv L.ops.length (flatF Opr.cells L.ops)
  ins : ∀ o ∈ L.ops, w.ownsRow base 3 1 o.iv o.ins.length (ints o.ins)
theorem LedO.toN {w : World} {base : Nat} {L : Led} (h : LedO w base L) : LedN w base L := ⟨h.rows, h.opn, h.bats, h.recs, h.ops, h.ins⟩
theorem LedN.reads {w : World} {base : Nat} {L : Led} (h : LedN w base L) : LedR w L :=
  ⟨Rd.of_own h.rows, Rd.of_own h.opn, ⟨Rd.of_own h.bats, fun b hb => Rd.of_own (h.recs b hb)⟩, ⟨Rd.of_own h.ops, fun o ho => Rd.of_own (h.ins o ho)⟩⟩
theorem LedN.only {S : Nat → Prop} {w w' : World} {base : Nat} {L : Led} (h : LedN w base L) (ho : Only S w w') (hS : ∀ j, S j → j < base) : LedN w' base L := by
  have hh : ∀ {e : TypeId} {sz n : Nat} {v : Value} {xs : List Value}, w.ownsRow base e sz v n xs → w'.ownsRow base e sz v n xs := fun h =>
    ownsRow_only h ho (fun g hg hs => by have := (World.ownsRow.lt h g hg).1; have := hS g hs; omega)
  exact ⟨hh h.rows, hh h.opn, hh h.bats, fun b hb => hh (h.recs b hb), hh h.ops, fun o ho => hh (h.ins o ho)⟩
theorem LedN.below {w w' : World} {base : Nat} {L : Led} (h : LedN w base L) (hb : Below w.heap.size w w') : LedN w' base L :=
  h.only (Only.of_below (S := fun _ => False) hb) (fun _ e => e.elim)
theorem LedN.mono {w : World} {base base' : Nat} {L : Led} (h : LedN w base L) (hb : base' ≤ base) : LedN w base' L :=
  ⟨ownsRow_mono h.rows hb, ownsRow_mono h.opn hb, ownsRow_mono h.bats hb, fun b hb' => ownsRow_mono (h.recs b hb') hb, ownsRow_mono h.ops hb, fun o ho => ownsRow_mono (h.ins o ho) hb⟩

/-- The batches that are copied so far. -/
structure CBS (X wr : World) (bs : List Bt) (i : Nat) (v : Value) (ys : List Bt) : Prop where
  con : ys.map Bt.con = (bs.take i).map Bt.con
  row : wr.ownsRow X.heap.size 67 2 v ys.length (flatF Bt.cells ys)
  recs : ∀ b ∈ ys, wr.ownsRow X.heap.size 33 5 b.rv b.recs.length (flatF Rec.cells b.recs)
  below : Below X.heap.size X wr
theorem CBS.later {X wr W : World} {bs ys : List Bt} {i : Nat} {v : Value} (h : CBS X wr bs i v ys) (hb : Below wr.heap.size wr W) : CBS X W bs i v ys :=
  ⟨h.con, ownsRow_below h.row hb (Nat.le_refl _), fun o ho => ownsRow_below (h.recs o ho) hb (Nat.le_refl _), below_go h.below hb⟩
theorem CBS.len {X wr : World} {bs ys : List Bt} {i : Nat} {v : Value} (h : CBS X wr bs i v ys) (hi : i ≤ bs.length) : ys.length = i := by
  have := congrArg List.length h.con
  simp only [List.length_map, List.length_take] at this
  omega
theorem CBS.more {X W w5 : World} {bs ys : List Bt} {i : Nat} {v v5 : Value} {b' : Bt} (h : CBS X W bs i v ys) (hi : i < bs.length) (hc : b'.con = bs[i].con)
    (hin : W.ownsRow X.heap.size 33 5 b'.rv b'.recs.length (flatF Rec.cells b'.recs)) (hm : w5.ownsRow X.heap.size 67 2 v5 (ys.length + 1) (flatF Bt.cells ys ++ Bt.cells b')) (hg : W.grownBy w5 v.ownBlock) :
    CBS X w5 bs (i + 1) v5 (ys ++ [b']) := by
  refine ⟨?_, ?_, fun o ho => ?_, h.below.grown hg h.below.size (fun k e => (World.ownsRow.lt h.row k e).1)⟩
  · rw [List.map_append, h.con, List.take_succ_eq_append_getElem hi, List.map_append]
    simp [hc]
  · rw [List.length_append, flatF_append, flatF_one]
    exact hm
  · rcases List.mem_append.1 ho with ho | ho
    · exact own_otherT h.row (h.recs o ho) (by decide) hg
    · rw [List.mem_singleton] at ho
      rw [ho]
      exact own_otherT h.row hin (by decide) hg

set_option maxHeartbeats 8000000 in
theorem copy_calls (L : Led) (w : World) (hL : LedR w L) (hsm : L.Small) :
    Calls Try.prog 16 #[.agg L.cells.toArray] w fun e w' => ∃ M, e = .returned (.agg M.cells.toArray) ∧ SameL L M ∧ LedN w' w.heap.size M ∧ Below w.heap.size w w' := by
  obtain ⟨X, hX⟩ : ∃ X, X = (w.alloc (.cells L.cells.toArray 30)).alloc (.cells zero16 30) := ⟨_, rfl⟩
  have hbX : Below w.heap.size w X := by rw [hX]; exact below_box (below_alloc _ _) _
  have hBC : BoxC w.heap.size (w.heap.size + 1) X L := by rw [hX]; exact boxC_two w L
  have hXs : X.heap.size = w.heap.size + 2 := by rw [hX]; simp
  obtain ⟨ra, rc, hrv, hrc, -⟩ := Rd.slice hL.rows
  obtain ⟨oa, oc, hov, hoc, -⟩ := Rd.slice hL.opn
  obtain ⟨ba, bc, hbv, hbc, -⟩ := hL.bats.row.slice
  obtain ⟨ga, gc, hgv, hgc, -⟩ := hL.ops.row.slice
  have hsr := hsm.rows
  have hso := hsm.opn
  have hsb := hsm.bats
  have HX := Lib.hid hX
  have HBC := Lib.hid hBC
  have HBX := Lib.hid hbX
  have HXS := Lib.hid hXs
  have HL := Lib.hid hL
  have HSM := Lib.hid hsm
  have HV := Lib.hid (And.intro hrv (And.intro hov (And.intro hbv hgv)))
  have HR0 := Lib.hid (show Rows X (.slice ra L.rows.length rc) L.rows by have := (hL.below hbX (Nat.le_refl _)).rows; rwa [hrv] at this)
  have HO0 := Lib.hid (show Recs X (.slice oa L.opn.length oc) L.opn by have := (hL.below hbX (Nat.le_refl _)).opn; rwa [hov] at this)
  have HB0 := Lib.hid (show BtsR X (.slice ba L.bats.length bc) L.bats by have := (hL.below hbX (Nat.le_refl _)).bats; rwa [hbv] at this)
  have HG0 := Lib.hid (show OpsR X (.slice ga L.ops.length gc) L.ops by have := (hL.below hbX (Nat.le_refl _)).ops; rwa [hgv] at this)
  clear hX hBC hbX hXs hL hsm hrv hov hbv hgv
  go_enter Try.func16, Try.ntmps16
  go_upto_region 1 with fail
  rw [show (w.alloc (.cells L.cells.toArray 30)).alloc (.cells #[.slice none 0 0, .int .i64 0, .int .i64 0, .int .i64 0, .int .i64 0, .int .i64 0, .int .i64 0, .int .i64 0, .int .i64 0, .slice none 0 0, .slice none 0 0, .int .i64 0, .int .i64 0, .bool false, .slice none 0 0, .int .i64 0] 30) = X from HX.out.symm]
  have c0 := HBC.out.box 0 _ rfl
  rw [HV.out.1] at c0
  have bf0 := HBC.out.bf 0
  have hlt := HBC.out.hS
  have HOWN := Lib.hid (World.ownsRow_lit (base := X.heap.size) (size := 3) (e := 92) X #[] 0 (Nat.le_refl _) (by unfold maxLen; omega) (by simp))
  have HRD := Lib.hid (Rd.below HR0.out (below_alloc X (.cells #[] 92)) (Nat.le_refl _))
  go_upto_region 2 with (at_builtin; go_loud (refine app_list tyRows HOWN.out HRD.out (rows_one _) (by omega) (by omega) (by simp) rfl rfl rfl rfl ?_; intro x2 w2 hm2 hg2 hn2; rw [Nat.zero_add] at hm2; obtain ⟨xa, xc, rfl⟩ := own_slice hm2; have HB2 := Lib.hid (Below.grown (below_alloc X (.cells #[] 92)) hg2 (by simp) (fun k e => (World.ownsRow.lt HOWN.out k e).1)); have HM2 := Lib.hid hm2; have y0 := cell_later HB2.out c0; have yf := frozen_later HB2.out c0 bf0; clear hm2 hg2 hn2))
  have hB1 := (HBC.out.later HB2.out).set (cur' := { L with rv := .slice xa L.rows.length xc }) 0 (.slice xa L.rows.length xc) rfl (by omega)
  have HW1 := Lib.hid (show Below w.heap.size w (w2.setCell ⟨w.heap.size, 0, none⟩ (.slice xa L.rows.length xc)) from (HBX.out.trans (HB2.out.mono (by have := HXS.out; omega))).setCell (p := ⟨w.heap.size, 0, none⟩) (Nat.le_refl _) _)
  have HN1 := Lib.hid (show (w2.setCell ⟨w.heap.size, 0, none⟩ (.slice xa L.rows.length xc)).ownsRow X.heap.size 92 3 (.slice xa L.rows.length xc) L.rows.length (flatF Row.cells L.rows) from ownsRow_set HM2.out _ _ (by show w.heap.size < X.heap.size; exact hlt))
  have HS1 := Lib.hid (show X.heap.size ≤ (w2.setCell ⟨w.heap.size, 0, none⟩ (.slice xa L.rows.length xc)).heap.size by have := HB2.out.size; simpa using this)
  have HB1 := Lib.hid hB1
  clear hB1 y0 yf c0 bf0 hlt
  generalize w2.setCell _ _ = X1 at *
  clear HB2 HM2 HOWN HRD
  have c9 := HB1.out.box 9 _ rfl
  simp only [HV.out.2.1] at c9
  have bf9 := HB1.out.bf 9
  have hlt := HB1.out.hS
  have HOWN := Lib.hid (World.ownsRow_lit (base := X1.heap.size) (size := 5) (e := 33) X1 #[] 0 (Nat.le_refl _) (by unfold maxLen; omega) (by simp))
  have HRD := Lib.hid (show Recs (X1.alloc (.cells #[] 33)) (.slice oa L.opn.length oc) L.opn by
    have := (HL.out.below HW1.out (Nat.le_refl _)).opn
    rw [HV.out.2.1] at this
    exact Rd.below this (below_alloc X1 (.cells #[] 33)) (Nat.le_refl _))
  go_upto_region 3 with (at_builtin; go_loud (refine app_list tyRecs HOWN.out HRD.out (recs_one _) (by omega) (by omega) (by simp) rfl rfl rfl rfl ?_; intro x2 w2 hm2 hg2 hn2; rw [Nat.zero_add] at hm2; obtain ⟨ya, yc, rfl⟩ := own_slice hm2; have HB2 := Lib.hid (Below.grown (below_alloc X1 (.cells #[] 33)) hg2 (by simp) (fun k e => (World.ownsRow.lt HOWN.out k e).1)); have HM2 := Lib.hid hm2; have y0 := cell_later HB2.out c9; have yf := frozen_later HB2.out c9 bf9; clear hm2 hg2 hn2))
  have hB1 := (HB1.out.later HB2.out).set (cur' := { L with rv := .slice xa L.rows.length xc, ov := .slice ya L.opn.length yc }) 9 (.slice ya L.opn.length yc) rfl (by omega)
  have HW2 := Lib.hid (show Below w.heap.size w (w2.setCell ⟨w.heap.size, 9, none⟩ (.slice ya L.opn.length yc)) from (HW1.out.trans (HB2.out.mono (by have := HS1.out; have := HXS.out; omega))).setCell (p := ⟨w.heap.size, 9, none⟩) (Nat.le_refl _) _)
  have HN2 := Lib.hid (show (w2.setCell ⟨w.heap.size, 9, none⟩ (.slice ya L.opn.length yc)).ownsRow X.heap.size 33 5 (.slice ya L.opn.length yc) L.opn.length (flatF Rec.cells L.opn) from ownsRow_mono (ownsRow_set HM2.out _ _ (by show w.heap.size < X1.heap.size; exact hlt)) HS1.out)
  have HN1' := Lib.hid (show (w2.setCell ⟨w.heap.size, 9, none⟩ (.slice ya L.opn.length yc)).ownsRow X.heap.size 92 3 (.slice xa L.rows.length xc) L.rows.length (flatF Row.cells L.rows) from ownsRow_set (ownsRow_below HN1.out HB2.out (Nat.le_refl _)) _ _ (by show w.heap.size < X.heap.size; have := HXS.out; omega))
  have HS2 := Lib.hid (show X.heap.size ≤ (w2.setCell ⟨w.heap.size, 9, none⟩ (.slice ya L.opn.length yc)).heap.size by have := HB2.out.size; have := HS1.out; simp; omega)
  have HB3 := Lib.hid hB1
  clear hB1 y0 yf c9 bf9 hlt
  generalize w2.setCell _ _ = X2 at *
  clear HB2 HM2 HOWN HRD HN1 HS1 HW1 HB1
  have c10 := HB3.out.box 10 _ rfl
  simp only [HV.out.2.2.1] at c10
  go_wp2_with fail
  go_loopw [3, 4] (fun lv iv wr => ∃ (i : Nat) (ys : List Bt), i ≤ L.bats.length ∧ iv = .int .i64 i ∧ CBS X2 wr L.bats i lv ys) (fun _ iv _ => L.bats.length - (intOf iv).toNat)
  case atStart => exact ⟨0, [], by omega, rfl, rfl, World.ownsRow_nil _ _ _ _, fun o ho => by simp at ho, Below.refl _ _⟩
  case round =>
    obtain ⟨i, ys, hin, rfl, hs⟩ := hrel
    have HS := Lib.hid hs
    have HYL := Lib.hid (hs.len hin)
    obtain ⟨va, vc, rfl⟩ := own_slice hs.row
    have hbel := hs.below
    clear hs
    by_cases hlt : i < L.bats.length
    · have hbr := (HL.out.below HW2.out (Nat.le_refl _)).bats
      rw [HV.out.2.2.1] at hbr
      obtain ⟨b, o, rfl, e0, e1⟩ := bt_at hbr i hlt
      have hrec := hbr.recs L.bats[i] (List.getElem_mem _)
      have HRN := Lib.hid (HSM.out.recs L.bats[i] (List.getElem_mem _))
      obtain ⟨ia, ic, hiv, hic, -⟩ := Rd.slice hrec
      rw [hiv] at e1 hrec
      have HRC := Lib.hid hrec
      have HCON := Lib.hid (fun (h : CBS X2 wr L.bats i (.slice va ys.length vc) ys) (W w5 : World) (v5 : Value) (o' : Bt) (hb : Below wr.heap.size wr W) (hc : o'.con = L.bats[i].con) (hin : W.ownsRow X2.heap.size 33 5 o'.rv o'.recs.length (flatF Rec.cells o'.recs))
        (hm : w5.ownsRow X2.heap.size 67 2 v5 (ys.length + 1) (flatF Bt.cells ys ++ Bt.cells o')) (hg : W.grownBy w5 (Value.slice va ys.length vc).ownBlock) => (h.later hb).more hlt hc hin hm hg)
      clear hrec hiv hbr
      generalize L.bats[i] = O at *
      obtain ⟨ep, rv, recs⟩ := O
      simp only at e0 e1 hic HRN HRC
      have hfs : ∀ V, Below X2.heap.size X2 V → V.cell? ⟨w.heap.size, 10, none⟩ = some (.slice (some ⟨b, o, none⟩) L.bats.length bc) ∧ V.cell? ⟨b, o + i * 2, none⟩ = some (.int .i64 ep) ∧ V.cell? ⟨b, o + i * 2 + 1, none⟩ = some (.slice ia recs.length ic) := fun V hb => ⟨cell_later hb c10, cell_later hb e0, cell_later hb e1⟩
      have HFS := Lib.hid hfs
      have c10' := (hfs _ hbel).1
      have HC10 := Lib.hid c10
      have hxw := hbel.size
      clear hfs c10 e0 e1
      go_wp2_with fail
      have hrn := HRN.out
      have hyl : ys.length ≤ 1100000 := by have := HYL.out; omega
      refine region_t (.take 0 (.take 1 (.take 2 (.take 3 (.take 4 (.take 5 (.take 6 (.take 8 (.take 9 (.take 10 (.take 11 (.take 12 (.take 13 (.loud 7 (.loud 14 (.take 15 (.loud 16 (.loud 17 .done)))))))))))))))))) 18 (fun V => V.cell? ⟨w.heap.size, 10, none⟩ = some (.slice (some ⟨b, o, none⟩) L.bats.length bc) ∧ V.cell? ⟨b, o + i * 2, none⟩ = some (.int .i64 ep) ∧ V.cell? ⟨b, o + i * 2 + 1, none⟩ = some (.slice ia recs.length ic)) (by kernel_rfl) (by kernel_rfl) (HFS.out _ hbel.drew) ?_
      iterate 13
        first
        | (refine t_take (v := ?_) rfl rfl ?_ ?_
           rotate_left
           · intro W hW
             go_simp
             with_reducible rfl
           simp only [Act.put, List.setIfInBounds_toArray, List.set_cons_zero, List.set_cons_succ])
        | (refine t_skip rfl rfl ?_
           simp only [Act.put, List.setIfInBounds_toArray, List.set_cons_zero, List.set_cons_succ])
      have hbx0 := hbel.drew
      have hbw0 := (Below.refl wr.heap.size wr).drew
      generalize wr.drew = Wd at *
      refine t_loud rfl (fun K hK => ?_)
      have HK := Lib.hid hK
      clear hK
      go_simp
      have hbx1 := hbx0.alloc hbx0.size (.cells #[] 33)
      have hbw1 := hbw0.alloc hbw0.size (.cells #[] 33)
      have HW1 := Lib.hid (World.ownsRow_lit (base := wr.heap.size) (size := 5) (e := 33) Wd #[] 0 hbw0.size (by unfold maxLen; omega) (by simp))
      refine HK.out _ _ (HFS.out _ hbx1) ?_
      clear HK
      generalize hG : World.alloc Wd _ = V1 at *
      clear hG
      refine t_app tyRecs HW1.out (Rd.below HRC.out hbx1 (Nat.le_refl _)) (recs_one recs) (by omega) (by omega) hbw1.size rfl rfl rfl rfl rfl ?_
      intro v2 V2 hm2 hg2
      have hbx2 := hbx1.grown hg2 hbx1.size (fun k e => by have := (World.ownsRow.lt HW1.out k e).1; omega)
      have hbw2 := hbw1.grown hg2 hbw1.size (fun k e => (World.ownsRow.lt HW1.out k e).1)
      rw [Nat.zero_add] at hm2
      obtain ⟨xa5, xc5, rfl⟩ := own_slice hm2
      have HW2' := Lib.hid hm2
      refine ⟨HFS.out _ hbx2, ?_⟩
      clear hm2 hg2
      iterate 1
        first
        | (refine t_take (v := ?_) rfl rfl ?_ ?_
           rotate_left
           · intro W hW
             go_simp
             with_reducible rfl
           simp only [Act.put, List.setIfInBounds_toArray, List.set_cons_zero, List.set_cons_succ])
        | (refine t_skip rfl rfl ?_
           simp only [Act.put, List.setIfInBounds_toArray, List.set_cons_zero, List.set_cons_succ])
      refine t_loud rfl (fun K hK => ?_)
      have HK := Lib.hid hK
      clear hK
      go_simp
      have hbx3 := hbx2.alloc hbx2.size (.cells #[.int .i64 ep, .slice xa5 recs.length xc5] 67)
      have hbw3 := hbw2.alloc hbw2.size (.cells #[.int .i64 ep, .slice xa5 recs.length xc5] 67)
      have HL3 := Lib.hid (Rd.lit (w := V2) (cs := #[.int .i64 ep, .slice xa5 recs.length xc5]) (e := 67) (n := 1) (sz := 2) rfl (by omega))
      refine HK.out _ _ (HFS.out _ hbx3) ?_
      clear HK
      have HW3 := Lib.hid (ownsRow_below HW2'.out (below_alloc _ (.cells #[.int .i64 ep, .slice xa5 recs.length xc5] 67)) (Nat.le_refl _))
      generalize hG : World.alloc V2 _ = V3 at *
      clear hG
      have HS3 := Lib.hid (HS.out.later hbw3)
      refine t_app tyBats HS3.out.row HL3.out (by intro u hu; simp at hu; rcases hu with rfl | rfl <;> rfl) (by omega) (by omega) hbx3.size rfl rfl rfl rfl rfl ?_
      intro v4 V4 hm4 hg4
      have hbe := hbx3.grown hg4 hbx3.size (fun k e => (World.ownsRow.lt HS3.out.row k e).1)
      refine ⟨HFS.out _ hbe, ?_⟩
      obtain ⟨za, zc, rfl⟩ := own_slice hm4
      have HE := Lib.hid (HCON.out HS.out V3 V4 _ ⟨ep, .slice xa5 recs.length xc5, recs⟩ hbw3 rfl (ownsRow_mono HW3.out hxw) hm4 hg4)
      clear hm4 hg4 hbe hbx3 hbw3 hbx2 hbw2 hbx1 hbw1 hbx0 hbw0
      refine t_done ?_
      simp only [List.drop_succ_cons, List.drop_zero]
      go_wp2_with fail
      simp only [NP]
      go_wp2_with fail
      go_roundw
      case rel => exact ⟨i + 1, _, by omega, by go_num, HE.out⟩
      case measure => simp [intOf]; omega
    · obtain rfl : i = L.bats.length := by omega
      have hB4 := (HB3.out.later hbel).set (cur' := { L with rv := .slice xa L.rows.length xc, ov := .slice ya L.opn.length yc, bv := .slice va ys.length vc, bats := ys }) 10 (.slice va ys.length vc) rfl (by omega)
      have bf10 := (HB3.out.later hbel).bf 10
      have c10' := cell_later hbel c10
      have hlts := (HB3.out.later hbel).hS
      have hsx : w.heap.size < X.heap.size := by have := HXS.out; omega
      have hsx2 : w.heap.size < X2.heap.size := by have := HS2.out; omega
      have HN4 := Lib.hid (show (wr.setCell ⟨w.heap.size, 10, none⟩ (.slice va ys.length vc)).ownsRow X.heap.size 92 3 (.slice xa L.rows.length xc) L.rows.length (flatF Row.cells L.rows) from ownsRow_set (ownsRow_below HN1'.out hbel (Nat.le_refl _)) _ _ hsx)
      have HP4 := Lib.hid (show (wr.setCell ⟨w.heap.size, 10, none⟩ (.slice va ys.length vc)).ownsRow X.heap.size 33 5 (.slice ya L.opn.length yc) L.opn.length (flatF Rec.cells L.opn) from ownsRow_set (ownsRow_below HN2.out hbel (Nat.le_refl _)) _ _ hsx)
      have HQ4 := Lib.hid (show (wr.setCell ⟨w.heap.size, 10, none⟩ (.slice va ys.length vc)).ownsRow X.heap.size 67 2 (.slice va ys.length vc) ys.length (flatF Bt.cells ys) from ownsRow_mono (ownsRow_set HS.out.row _ _ hsx2) HS2.out)
      have HK4 := Lib.hid (show ∀ b ∈ ys, (wr.setCell ⟨w.heap.size, 10, none⟩ (.slice va ys.length vc)).ownsRow X.heap.size 33 5 b.rv b.recs.length (flatF Rec.cells b.recs) from fun b hb => ownsRow_mono (ownsRow_set (HS.out.recs b hb) _ _ hsx2) HS2.out)
      have HW4 := Lib.hid (show Below w.heap.size w (wr.setCell ⟨w.heap.size, 10, none⟩ (.slice va ys.length vc)) from (below_then HW2.out hbel (by omega)).setCell (p := ⟨w.heap.size, 10, none⟩) (Nat.le_refl _) _)
      have HB4 := Lib.hid hB4
      have HZ4 := Lib.hid (show X.heap.size ≤ (wr.setCell ⟨w.heap.size, 10, none⟩ (.slice va ys.length vc)).heap.size by have := hbel.size; have := HS2.out; simp; omega)
      have HCN := Lib.hid (show ys.map Bt.con = L.bats.map Bt.con by have := HS.out.con; rwa [List.take_length] at this)
      clear hB4 c10
      go_upto_region 9 with fail
      clear bf10 c10' hlts hbel HS
      generalize wr.setCell _ _ = X4 at *
      have c14 := HB4.out.box 14 _ rfl
      simp only [HV.out.2.2.2] at c14
      have HOP := Lib.hid (show OpsR X4 (.slice ga L.ops.length gc) L.ops by have := (HL.out.below HW4.out (Nat.le_refl _)).ops; rwa [HV.out.2.2.2] at this)
      go_wp2_with fail
      refine (copyG_calls _ L.ops X4 HOP.out HSM.out.ops HSM.out.ins).mono ?_
      rintro e X5 ⟨gv', zs, rfl, hcon, hrow, hins, hb5⟩
      obtain ⟨za, zc, rfl⟩ := own_slice hrow
      have hB5 := (HB4.out.later hb5).set (cur' := { L with rv := .slice xa L.rows.length xc, ov := .slice ya L.opn.length yc, bv := .slice va ys.length vc, bats := ys, gv := .slice za zs.length zc, ops := zs }) 14 (.slice za zs.length zc) rfl (by omega)
      have bf14 := (HB4.out.later hb5).bf 14
      have c14' := cell_later hb5 c14
      have hlts := (HB4.out.later hb5).hS
      have hsx4 : w.heap.size < X4.heap.size := HB4.out.hS
      have hz4 := HZ4.out
      have HN5 := Lib.hid (show LedN (X5.setCell ⟨w.heap.size, 14, none⟩ (.slice za zs.length zc)) X.heap.size { L with rv := .slice xa L.rows.length xc, ov := .slice ya L.opn.length yc, bv := .slice va ys.length vc, bats := ys, gv := .slice za zs.length zc, ops := zs } from
        ⟨ownsRow_set (ownsRow_below HN4.out hb5 (Nat.le_refl _)) _ _ hsx, ownsRow_set (ownsRow_below HP4.out hb5 (Nat.le_refl _)) _ _ hsx, ownsRow_set (ownsRow_below HQ4.out hb5 (Nat.le_refl _)) _ _ hsx, fun b hb => ownsRow_set (ownsRow_below (HK4.out b hb) hb5 (Nat.le_refl _)) _ _ hsx, ownsRow_mono (ownsRow_set hrow _ _ hsx4) hz4, fun o ho => ownsRow_mono (ownsRow_set (hins o ho) _ _ hsx4) hz4⟩)
      have HSL := Lib.hid (show SameL L { L with rv := .slice xa L.rows.length xc, ov := .slice ya L.opn.length yc, bv := .slice va ys.length vc, bats := ys, gv := .slice za zs.length zc, ops := zs } from ⟨rfl, rfl, rfl, HCN.out, rfl, rfl, rfl, hcon, rfl⟩)
      have HW5 := Lib.hid (show Below w.heap.size w (X5.setCell ⟨w.heap.size, 14, none⟩ (.slice za zs.length zc)) from (below_go HW4.out hb5).setCell (p := ⟨w.heap.size, 14, none⟩) (Nat.le_refl _) _)
      have HR5 := Lib.hid hB5.box.range
      have HT5 := Lib.hid hB5.res
      have HT1 := Lib.hid hB5.hR
      have H15 := Lib.hid (led_all { L with rv := .slice xa L.rows.length xc, ov := .slice ya L.opn.length yc, bv := .slice va ys.length vc, bats := ys, gv := .slice za zs.length zc, ops := zs } rfl rfl rfl rfl)
      clear hB5 hrow hins hcon hb5 hz4
      go_upto_region 10 with fail
      clear bf14 c14' hlts c14
      generalize X5.setCell _ _ = X6 at *
      go_wp2_with (first | (refine wpList_load_mid rfl 30 _ rfl (w.heap.size) 0 rfl (Led.cells { L with rv := .slice xa L.rows.length xc, ov := .slice ya L.opn.length yc, bv := .slice va ys.length vc, bats := ys, gv := .slice za zs.length zc, ops := zs }) _ HR5.out Try.underlying30 rfl (by show _ = some 16; kernel_rfl) ?_) | (refine wp_load_mid 30 _ rfl (w.heap.size) 0 rfl (Led.cells { L with rv := .slice xa L.rows.length xc, ov := .slice ya L.opn.length yc, bv := .slice va ys.length vc, bats := ys, gv := .slice za zs.length zc, ops := zs }) _ HR5.out Try.underlying30 rfl (by show _ = some 16; kernel_rfl) ?_) | (refine wpList_store_mid rfl 30 _ _ rfl (w.heap.size + 1) 0 (Led.cells { L with rv := .slice xa L.rows.length xc, ov := .slice ya L.opn.length yc, bv := .slice va ys.length vc, bats := ys, gv := .slice za zs.length zc, ops := zs }).toArray rfl rfl HT5.out (by show _ = some 16; kernel_rfl) H15.out ?_) | (refine wp_store_mid 30 _ _ rfl (w.heap.size + 1) 0 (Led.cells { L with rv := .slice xa L.rows.length xc, ov := .slice ya L.opn.length yc, bv := .slice va ys.length vc, bats := ys, gv := .slice za zs.length zc, ops := zs }).toArray rfl rfl HT5.out (by show _ = some 16; kernel_rfl) H15.out ?_))
      refine bodyPost_ret (v := .agg (Led.cells { L with rv := .slice xa L.rows.length xc, ov := .slice ya L.opn.length yc, bv := .slice va ys.length vc, bats := ys, gv := .slice za zs.length zc, ops := zs }).toArray) (results_cell Try.results16 rfl (resR_run HT5.out)) rfl ?_
      have hall := only_cells X6 (w.heap.size + 1) (Led.cells { L with rv := .slice xa L.rows.length xc, ov := .slice ya L.opn.length yc, bv := .slice va ys.length vc, bats := ys, gv := .slice za zs.length zc, ops := zs }) 0
      have hXs := HXS.out
      exact ⟨_, rfl, HSL.out, (HN5.out.only hall (fun j e => by omega)).mono (by omega), HW5.out.trans (hall.below (by have := HW5.out.size; omega) (fun j hj e => by omega))⟩
end Go.Proofs.Ytkabfjbmofpkdaa

/- Layer 14: all lists of a ledger written over (PartsKeeps's wipe), walked. -/
namespace Go.Proofs.Ytkabfjbmofpkdaa
open Go.RowKit Go.Shelf
set_option maxRecDepth 100000

/-- Where a ledger's rows lie. -/
structure LedIn (S : Nat → Prop) (M : Led) : Prop where
  rows : ∀ g, M.rv.ownBlock = some g → S g
  opn : ∀ g, M.ov.ownBlock = some g → S g
  bats : ∀ g, M.bv.ownBlock = some g → S g
  recs : ∀ b ∈ M.bats, ∀ g, b.rv.ownBlock = some g → S g
  ops : ∀ g, M.gv.ownBlock = some g → S g
  ins : ∀ o ∈ M.ops, ∀ g, o.iv.ownBlock = some g → S g
theorem LedN.within {w : World} {base : Nat} {M : Led} (h : LedN w base M) : LedIn (fun j => base ≤ j ∧ j < w.heap.size) M :=
  ⟨fun g e => World.ownsRow.lt h.rows g e, fun g e => World.ownsRow.lt h.opn g e, fun g e => World.ownsRow.lt h.bats g e, fun b hb g e => World.ownsRow.lt (h.recs b hb) g e, fun g e => World.ownsRow.lt h.ops g e, fun o ho g e => World.ownsRow.lt (h.ins o ho) g e⟩

theorem own_slice' {w : World} {base : Nat} {e : TypeId} {sz n : Nat} {v : Value} {xs : List Value} (h : w.ownsRow base e sz v n xs) : ∃ a c, v = .slice a n c := own_slice h
theorem own_pos {w : World} {base e sz n : Nat} {v : Value} {xs : List Value} (h : w.ownsRow base e sz v n xs) (hn : 0 < n) : ∃ g cap, v = .slice (some ⟨g, 0, none⟩) n cap ∧ v.ownBlock = some g ∧ (∀ j, j < n * sz → ∃ u, w.cell? ⟨g, j, none⟩ = some u) ∧ ∀ j, w.frozen? ⟨g, j, none⟩ = false := by
  have hl := h.1
  rcases h.2 with ⟨_, h0⟩ | ⟨g, cap, cur, rfl, _⟩
  · omega
  · refine ⟨g, cap, rfl, rfl, fun j hj => ?_, World.ownsRow.frozenAt h⟩
    have hx : xs[j]? = some xs[j] := List.getElem?_eq_getElem (by omega)
    have := World.ownsRow.cells h (g := g) rfl j _ hx
    rw [add_off, Nat.zero_add] at this
    exact ⟨_, this⟩

/-- What stands while a ledger's lists are written over. -/
structure Wp (S : Nat → Prop) (X wr : World) (M : Led) : Prop where
  only : Only S X wr
  frz : ∀ a, wr.frozen? a = X.frozen? a
  alv : ∀ a u, X.cell? a = some u → ∃ u', wr.cell? a = some u'
  hb : ∀ g n c, M.bv = .slice (some ⟨g, 0, none⟩) n c → ∀ i (h : i < M.bats.length), wr.cell? ⟨g, i * 2 + 1, none⟩ = some M.bats[i].rv
  ho : ∀ g n c, M.gv = .slice (some ⟨g, 0, none⟩) n c → ∀ i (h : i < M.ops.length), wr.cell? ⟨g, i * 7 + 1, none⟩ = some M.ops[i].iv
theorem Wp.set {S : Nat → Prop} {X wr : World} {M : Led} (h : Wp S X wr M) (b o : Nat) (v : Value) (hS : S b) (n1 : ∀ n c, M.bv = .slice (some ⟨b, 0, none⟩) n c → ∀ j, o ≠ j * 2 + 1) (n2 : ∀ n c, M.gv = .slice (some ⟨b, 0, none⟩) n c → ∀ j, o ≠ j * 7 + 1) : Wp S X (wr.setCell ⟨b, o, none⟩ v) M := by
  refine ⟨h.only.setCell ⟨b, o, none⟩ _ (.inl hS), fun a => by rw [World.frozen?_setCell]; exact h.frz a, fun a u ha => ?_, fun g n c hg i hi => ?_, fun g n c hg i hi => ?_⟩
  · obtain ⟨u', hu'⟩ := h.alv a u ha
    by_cases e : a = ⟨b, o, none⟩
    · subst e; exact ⟨v, cell_set_same v hu'⟩
    · exact ⟨u', by rw [World.cell?_setCell_other _ _ _ _ (by first | exact e | exact fun h => e h.symm)]; exact hu'⟩
  · by_cases e : g = b
    · subst e; rw [cell_set_off v (fun e => n1 n c hg i e.symm)]; exact h.hb g n c hg i hi
    · rw [cell_set_block v e]; exact h.hb g n c hg i hi
  · by_cases e : g = b
    · subst e; rw [cell_set_off v (fun e => n2 n c hg i e.symm)]; exact h.ho g n c hg i hi
    · rw [cell_set_block v e]; exact h.ho g n c hg i hi
theorem no_head {v : Value} {b : Nat} (h : v.ownBlock ≠ some b) (P : Prop) : ∀ n c, v = .slice (some ⟨b, 0, none⟩) n c → P := fun n c e => absurd (by rw [e]; rfl) h
theorem Wp.start {S : Nat → Prop} {X : World} {base : Nat} {M : Led} (h : LedN X base M) : Wp S X X M := by
  refine ⟨Only.refl _ _, fun _ => rfl, fun a u ha => ⟨u, ha⟩, fun g n c hg i hi => ?_, fun g n c hg i hi => ?_⟩
  · have hr := h.reads.bats
    rw [hg] at hr
    have hn : n = M.bats.length := by
      obtain ⟨a, c', e, -⟩ := hr.row.slice
      simp only [Value.slice.injEq] at e
      exact e.2.1
    rw [hn] at hr
    obtain ⟨b, o, e, _, h1⟩ := bt_at hr i hi
    simp only [Option.some.injEq, Addr.mk.injEq, and_true] at e
    obtain ⟨rfl, rfl⟩ := e
    rw [Nat.zero_add] at h1
    exact h1
  · have hr := h.reads.ops
    rw [hg] at hr
    have hn : n = M.ops.length := by
      obtain ⟨a, c', e, -⟩ := hr.row.slice
      simp only [Value.slice.injEq] at e
      exact e.2.1
    rw [hn] at hr
    obtain ⟨b, o, e, _, h1, _⟩ := op_at hr i hi
    simp only [Option.some.injEq, Addr.mk.injEq, and_true] at e
    obtain ⟨rfl, rfl⟩ := e
    rw [Nat.zero_add] at h1
    exact h1

set_option maxHeartbeats 8000000 in
theorem wipe_calls (M : Led) (base : Nat) (S : Nat → Prop) (w : World) (hO : LedN w base M) (hS : LedIn S M) (hw : ∀ j, S j → j < w.heap.size) (hsm : M.Small) :
    Calls Try.prog 19 #[.agg M.cells.toArray] w fun e w' => e = .returned (.tuple #[]) ∧ Only S w w' := by
  obtain ⟨X, hX⟩ : ∃ X, X = w.alloc (.cells M.cells.toArray 30) := ⟨_, rfl⟩
  have hbX : Below w.heap.size w X := by rw [hX]; exact below_alloc _ _
  have hBL : BoxL X w.heap.size M := by rw [hX]; exact boxL_self w M 30
  have hN := hO.below hbX
  obtain ⟨ra, rc, hrv⟩ := own_slice' hN.rows
  obtain ⟨oa, oc, hov⟩ := own_slice' hN.opn
  obtain ⟨ba, bc, hbv⟩ := own_slice' hN.bats
  obtain ⟨ga, gc, hgv⟩ := own_slice' hN.ops
  have hsr := hsm.rows
  have hso := hsm.opn
  have hsb := hsm.bats
  have hsp := hsm.ops
  have HX := Lib.hid hX
  have HBX := Lib.hid hbX
  have HBOX := Lib.hid (show ∀ wr, Wp S X wr M → BoxL wr w.heap.size M from fun wr h j v hj => h.only.cell (fun e => by have := hw _ e; omega) (hBL j v hj))
  have HN := Lib.hid hN
  have HS := Lib.hid hS
  have HW := Lib.hid hw
  have HSM := Lib.hid hsm
  have HV := Lib.hid (And.intro hrv (And.intro hov (And.intro hbv hgv)))
  clear hX hbX hBL hN hO hS hw hsm hrv hov hbv hgv
  go_enter Try.func19, Try.ntmps19
  go_upto_region 2 with fail
  rw [show w.alloc (.cells M.cells.toArray 30) = X from HX.out.symm]
  go_loopw [2] (fun iv wr => ∃ i : Nat, i ≤ M.rows.length ∧ iv = .int .i64 i ∧ Wp S X wr M) (fun iv _ => M.rows.length - (intOf iv).toNat)
  case atStart => exact ⟨0, by omega, rfl, Wp.start HN.out⟩
  case round =>
    obtain ⟨i, hi, rfl, hp⟩ := hrel
    have HP := Lib.hid hp
    have c0 := HBOX.out _ hp 0 _ rfl
    rw [HV.out.1] at c0
    by_cases hlt : i < M.rows.length
    · obtain ⟨g, cap, hv, hob, hcl, hfr⟩ := own_pos HN.out.rows (by omega)
      obtain ⟨u, hu⟩ := hcl (i * 3 + 2) (by omega)
      obtain ⟨u', hu'⟩ := hp.alv _ _ hu
      have hf : wr.frozen? ⟨g, i * 3 + 2, none⟩ = false := (hp.frz _).trans (hfr _)
      have HOB := Lib.hid hob
      rw [HV.out.1] at hv
      simp only [Value.slice.injEq, true_and] at hv
      obtain ⟨rfl, rfl⟩ := hv
      clear hp hcl hfr hu hob
      go_wp2_with fail
      go_roundw
      case rel => exact ⟨i + 1, by omega, by go_num, HP.out.set g (i * 3 + 2) _ (HS.out.rows g HOB.out) (no_head (own_apart HN.out.rows HN.out.bats (by decide) g HOB.out) _) (no_head (own_apart HN.out.rows HN.out.ops (by decide) g HOB.out) _)⟩
      case measure => simp [intOf]; omega
    · obtain rfl : i = M.rows.length := by omega
      clear hp
      go_wp2_with fail
      clear c0
      go_loopw [3] (fun iv wr => ∃ i : Nat, i ≤ M.opn.length ∧ iv = .int .i64 i ∧ Wp S X wr M) (fun iv _ => M.opn.length - (intOf iv).toNat)
      case atStart => exact ⟨0, by omega, rfl, HP.out⟩
      case round =>
        obtain ⟨i, hi, rfl, hp⟩ := hrel
        have HP := Lib.hid hp
        have c0 := HBOX.out _ hp 9 _ rfl
        rw [HV.out.2.1] at c0
        by_cases hlt : i < M.opn.length
        · obtain ⟨g, cap, hv, hob, hcl, hfr⟩ := own_pos HN.out.opn (by omega)
          obtain ⟨u, hu⟩ := hcl (i * 5 + 1) (by omega)
          obtain ⟨u', hu'⟩ := hp.alv _ _ hu
          have hf : wr.frozen? ⟨g, i * 5 + 1, none⟩ = false := (hp.frz _).trans (hfr _)
          have HOB := Lib.hid hob
          rw [HV.out.2.1] at hv
          simp only [Value.slice.injEq, true_and] at hv
          obtain ⟨rfl, rfl⟩ := hv
          clear hp hcl hfr hu hob
          go_wp2_with fail
          go_roundw
          case rel => exact ⟨i + 1, by omega, by go_num, HP.out.set g (i * 5 + 1) _ (HS.out.opn g HOB.out) (no_head (own_apart HN.out.opn HN.out.bats (by decide) g HOB.out) _) (no_head (own_apart HN.out.opn HN.out.ops (by decide) g HOB.out) _)⟩
          case measure => simp [intOf]; omega
        · obtain rfl : i = M.opn.length := by omega
          clear hp
          go_wp2_with fail
          clear c0
          go_loopw [4, 5] (fun iv _ wr => ∃ i : Nat, i ≤ M.bats.length ∧ iv = .int .i64 i ∧ Wp S X wr M) (fun iv _ _ => M.bats.length - (intOf iv).toNat)
          case atStart => exact ⟨0, by omega, rfl, HP.out⟩
          case round =>
            obtain ⟨i, hi, rfl, hp⟩ := hrel
            have HP := Lib.hid hp
            have c0 := HBOX.out _ hp 10 _ rfl
            rw [HV.out.2.2.1] at c0
            by_cases hlt : i < M.bats.length
            · obtain ⟨g, cap, hv, hob, hcl, hfr⟩ := own_pos HN.out.bats (by omega)
              have HHD := Lib.hid (fun wq (h : Wp S X wq M) => h.hb _ _ _ hv i hlt)
              have HOB := Lib.hid hob
              have HCL := Lib.hid (hcl (i * 2) (by omega))
              have HFR := Lib.hid hfr
              rw [HV.out.2.2.1] at hv
              simp only [Value.slice.injEq, true_and] at hv
              obtain ⟨rfl, rfl⟩ := hv
              have HIN := Lib.hid (HS.out.recs M.bats[i] (List.getElem_mem _))
              have HSO := Lib.hid (HN.out.recs M.bats[i] (List.getElem_mem _))
              have hrn := HSM.out.recs M.bats[i] (List.getElem_mem _)
              clear hp hcl hfr hob
              generalize M.bats[i] = O at *
              obtain ⟨ep, rv, recs⟩ := O
              simp only at HHD HIN HSO hrn
              obtain ⟨xa, xc, rfl⟩ := own_slice HSO.out
              go_wp2_with fail
              clear c0
              generalize wr = wo at *
              go_loopw [5] (fun kv wq => ∃ k : Nat, k ≤ recs.length ∧ kv = .int .i64 k ∧ Wp S X wq M) (fun kv _ => recs.length - (intOf kv).toNat)
              case atStart => exact ⟨0, by omega, rfl, HP.out⟩
              case round =>
                obtain ⟨k, hk, rfl, hq⟩ := hrel
                have HQ := Lib.hid hq
                have c0 := HBOX.out _ hq 10 _ rfl
                rw [HV.out.2.2.1] at c0
                have e1 := HHD.out _ hq
                by_cases hlk : k < recs.length
                · obtain ⟨g2, cap2, hv2, hob2, hcl2, hfr2⟩ := own_pos HSO.out (by omega)
                  obtain ⟨u, hu⟩ := hcl2 (k * 5 + 1) (by omega)
                  obtain ⟨u', hu'⟩ := hq.alv _ _ hu
                  have hf : wr.frozen? ⟨g2, k * 5 + 1, none⟩ = false := (hq.frz _).trans (hfr2 _)
                  have HOB2 := Lib.hid hob2
                  simp only [Value.slice.injEq, true_and] at hv2
                  obtain ⟨rfl, rfl⟩ := hv2
                  clear hq hcl2 hfr2 hu hob2
                  go_wp2_with fail
                  go_roundw
                  case rel => exact ⟨k + 1, by omega, by go_num, HQ.out.set g2 (k * 5 + 1) _ (HIN.out g2 HOB2.out) (no_head (own_apart HSO.out HN.out.bats (by decide) g2 HOB2.out) _) (no_head (own_apart HSO.out HN.out.ops (by decide) g2 HOB2.out) _)⟩
                  case measure => simp [intOf]; omega
                · obtain rfl : k = recs.length := by omega
                  obtain ⟨u, hu⟩ := HCL.out
                  obtain ⟨u', hu'⟩ := hq.alv _ _ hu
                  have hf : wr.frozen? ⟨g, i * 2, none⟩ = false := (hq.frz _).trans (HFR.out _)
                  clear hq hu
                  go_wp2_with fail
                  go_roundw
                  case rel => exact ⟨i + 1, by omega, by go_num, HQ.out.set g (i * 2) _ (HS.out.bats g HOB.out) (fun n c _ j => by omega) (no_head (own_apart HN.out.bats HN.out.ops (by decide) g HOB.out) _)⟩
                  case measure => simp [intOf]; omega
            · obtain rfl : i = M.bats.length := by omega
              clear hp
              go_wp2_with fail
              clear c0
              go_loopw [6, 7] (fun iv _ wr => ∃ i : Nat, i ≤ M.ops.length ∧ iv = .int .i64 i ∧ Wp S X wr M) (fun iv _ _ => M.ops.length - (intOf iv).toNat)
              case atStart => exact ⟨0, by omega, rfl, HP.out⟩
              case round =>
                obtain ⟨i, hi, rfl, hp⟩ := hrel
                have HP := Lib.hid hp
                have c0 := HBOX.out _ hp 14 _ rfl
                rw [HV.out.2.2.2] at c0
                by_cases hlt : i < M.ops.length
                · obtain ⟨g, cap, hv, hob, hcl, hfr⟩ := own_pos HN.out.ops (by omega)
                  have HHD := Lib.hid (fun wq (h : Wp S X wq M) => h.ho _ _ _ hv i hlt)
                  have HOB := Lib.hid hob
                  have HCL := Lib.hid (hcl (i * 7) (by omega))
                  have HFR := Lib.hid hfr
                  rw [HV.out.2.2.2] at hv
                  simp only [Value.slice.injEq, true_and] at hv
                  obtain ⟨rfl, rfl⟩ := hv
                  have HIN := Lib.hid (HS.out.ins M.ops[i] (List.getElem_mem _))
                  have HSO := Lib.hid (HN.out.ins M.ops[i] (List.getElem_mem _))
                  have hrn := HSM.out.ins M.ops[i] (List.getElem_mem _)
                  clear hp hcl hfr hob
                  generalize M.ops[i] = O at *
                  obtain ⟨kind, iv, ins, arg, num, rounds, test, lim⟩ := O
                  simp only at HHD HIN HSO hrn
                  obtain ⟨xa, xc, rfl⟩ := own_slice HSO.out
                  go_wp2_with fail
                  clear c0
                  generalize wr = wo at *
                  go_loopw [7] (fun kv wq => ∃ k : Nat, k ≤ ins.length ∧ kv = .int .i64 k ∧ Wp S X wq M) (fun kv _ => ins.length - (intOf kv).toNat)
                  case atStart => exact ⟨0, by omega, rfl, HP.out⟩
                  case round =>
                    obtain ⟨k, hk, rfl, hq⟩ := hrel
                    have HQ := Lib.hid hq
                    have c0 := HBOX.out _ hq 14 _ rfl
                    rw [HV.out.2.2.2] at c0
                    have e1 := HHD.out _ hq
                    by_cases hlk : k < ins.length
                    · obtain ⟨g2, cap2, hv2, hob2, hcl2, hfr2⟩ := own_pos HSO.out (by omega)
                      obtain ⟨u, hu⟩ := hcl2 (k) (by omega)
                      obtain ⟨u', hu'⟩ := hq.alv _ _ hu
                      have hf : wr.frozen? ⟨g2, k, none⟩ = false := (hq.frz _).trans (hfr2 _)
                      have HOB2 := Lib.hid hob2
                      simp only [Value.slice.injEq, true_and] at hv2
                      obtain ⟨rfl, rfl⟩ := hv2
                      clear hq hcl2 hfr2 hu hob2
                      go_wp2_with fail
                      go_roundw
                      case rel => exact ⟨k + 1, by omega, by go_num, HQ.out.set g2 (k) _ (HIN.out g2 HOB2.out) (no_head (own_apart HSO.out HN.out.bats (by decide) g2 HOB2.out) _) (no_head (own_apart HSO.out HN.out.ops (by decide) g2 HOB2.out) _)⟩
                      case measure => simp [intOf]; omega
                    · obtain rfl : k = ins.length := by omega
                      obtain ⟨u, hu⟩ := HCL.out
                      obtain ⟨u', hu'⟩ := hq.alv _ _ hu
                      have hf : wr.frozen? ⟨g, i * 7, none⟩ = false := (hq.frz _).trans (HFR.out _)
                      clear hq hu
                      go_wp2_with fail
                      go_roundw
                      case rel => exact ⟨i + 1, by omega, by go_num, HQ.out.set g (i * 7) _ (HS.out.ops g HOB.out) (no_head (own_apart HN.out.ops HN.out.bats (by decide) g HOB.out) _) (fun n c _ j => by omega)⟩
                      case measure => simp [intOf]; omega
                · obtain rfl : i = M.ops.length := by omega
                  clear hp
                  go_wp2_with fail
                  refine bodyPost_end (results_none rfl _ _ _) rfl ?_
                  exact ⟨rfl, (Only.of_below (S := S) HBX.out).trans HP.out.only (fun j _ h => h)⟩
end Go.Proofs.Ytkabfjbmofpkdaa

/- Layer 14: PartsApplies walked. -/
namespace Go.Proofs.Ytkabfjbmofpkdaa
open Go.RowKit Go.Shelf
set_option maxRecDepth 100000

theorem range_later {w w' : World} {b : Nat} {cs : List Value} (hb : Below w.heap.size w w') (h : w.rangeAt b 0 cs) : w'.rangeAt b 0 cs := fun j v hj => cell_later hb (h j v hj)
theorem rd_one {w : World} {sz n : Nat} {v : Value} {cs : List Value} (h : Rd w sz v n cs) : v.oneCell' = true := by
  obtain ⟨a, c, rfl, -⟩ := Rd.slice h
  rfl

set_option maxHeartbeats 4000000 in
theorem applies_core (L : Led) (E : Ent) (w : World) (hL : LedR w L) (hok : L.Ok) (hsz : L.Sz 1048576) (hG : OpsR w E.gv E.os) (hek : E.Ok) (hes : E.Small) :
    Calls Try.prog 3 #[.agg L.cells.toArray, .agg E.cells.toArray] w fun e w' => e = .returned (.bool true) ∧ Below w.heap.size w w' := by
  obtain ⟨X, hX⟩ : ∃ X, X = (w.alloc (.cells L.cells.toArray 30)).alloc (.cells E.cells.toArray 35) := ⟨_, rfl⟩
  have hbX : Below w.heap.size w X := by rw [hX]; exact below_box (below_alloc _ _) _
  have hBL : BoxL X w.heap.size L := by rw [hX]; exact (boxL_self w L 30).later (below_alloc _ _)
  have hBE : BoxE X (w.heap.size + 1) E := by
    rw [hX]
    have := boxE_self (w.alloc (.cells L.cells.toArray 30)) E 35
    rwa [World.size_alloc] at this
  have HX := Lib.hid hX
  have HBL := Lib.hid hBL
  have HBE := Lib.hid hBE
  have HBX := Lib.hid hbX
  have HL := Lib.hid hL
  have HOK := Lib.hid hok
  have HSM := Lib.hid (hsz.small (by omega))
  have HAOK := Lib.hid (apply_ok L E hok hek)
  have HASM := Lib.hid ((apply_sz L E hsz).small (by omega))
  have HG := Lib.hid hG
  have HEK := Lib.hid hek
  have HES := Lib.hid hes
  have HRL := Lib.hid hBL.range
  have HGA := Lib.hid (good_apply L E)
  clear hX hBL hBE hbX hL hok hsz hG hek hes
  go_enter Try.func3, Try.ntmps3
  go_upto_region 1 with fail
  rw [show (w.alloc (.cells L.cells.toArray 30)).alloc (.cells E.cells.toArray 35) = X from HX.out.symm]
  have e0 := HBE.out 0 _ rfl
  have e1 := HBE.out 1 _ rfl
  have e2 := HBE.out 2 _ rfl
  have e3 := HBE.out 3 _ rfl
  have e4 := HBE.out 4 _ rfl
  have e5 := HBE.out 5 _ rfl
  have e6 := HBE.out 6 _ rfl
  have e7 := HBE.out 7 _ rfl
  go_wp2_with (first | (refine wpList_load_mid rfl 30 _ rfl (w.heap.size) 0 rfl (Led.cells L) _ (by exact HRL.out) Try.underlying30 rfl (by show _ = some 16; kernel_rfl) ?_) | (refine wp_load_mid 30 _ rfl (w.heap.size) 0 rfl (Led.cells L) _ (by exact HRL.out) Try.underlying30 rfl (by show _ = some 16; kernel_rfl) ?_) | (refine list_loadk rfl rfl (b := w.heap.size) (off := 0) rfl (cs := Led.cells L) Try.underlying30 rfl (by show _ = some 16; kernel_rfl) (by exact HRL.out) ?_))
  clear e0 e1 e2 e3 e4 e5 e6 e7
  refine (apply_calls L E X (HL.out.below HBX.out (Nat.le_refl _)) HOK.out HSM.out (HG.out.below HBX.out (Nat.le_refl _)) HEK.out HES.out).mono ?_
  rintro e w1 ⟨M, rfl, hS, hO, hb1⟩
  have HS := Lib.hid hS
  have HO := Lib.hid hO
  have HB1 := Lib.hid (below_go HBX.out hb1)
  have HE1 := Lib.hid (HBE.out.later hb1)
  have HR1 := Lib.hid (range_later hb1 HRL.out)
  have hT := there_new w1
  unfold zero16 at hT
  have HT := Lib.hid hT
  clear hT
  have H1 := Lib.hid (led_all M (own_one hO.rows) (own_one hO.opn) (own_one hO.bats) (own_one hO.ops))
  clear hS hO hb1
  have hbn := box_new w1 M
  unfold zero16 at hbn
  have HBN := Lib.hid hbn
  clear hbn
  go_upto_region 2 with (first | (refine wpList_store_mid rfl 30 _ _ rfl (w1.heap.size) 0 (Led.cells M).toArray rfl rfl (by exact HT.out) (by show _ = some 16; kernel_rfl) H1.out ?_; generalize hWgen : World.setCells _ _ _ _ = W2 at *; clear hWgen) | (refine wp_store_mid 30 _ _ rfl (w1.heap.size) 0 (Led.cells M).toArray rfl rfl (by exact HT.out) (by show _ = some 16; kernel_rfl) H1.out ?_; generalize hWgen : World.setCells _ _ _ _ = W2 at *; clear hWgen))
  have HB2 := Lib.hid (below_go HB1.out HBN.out.2)
  have HE2 := Lib.hid (HE1.out.later HBN.out.2)
  have HR2 := Lib.hid (range_later HBN.out.2 HR1.out)
  have HRM := Lib.hid HBN.out.1.range
  have HM2 := Lib.hid (HO.out.below HBN.out.2).reads
  clear HO HT H1 HB1 HE1 HR1
  have e0 := HE2.out 0 _ rfl
  have e1 := HE2.out 1 _ rfl
  have e2 := HE2.out 2 _ rfl
  have e3 := HE2.out 3 _ rfl
  have e4 := HE2.out 4 _ rfl
  have e5 := HE2.out 5 _ rfl
  have e6 := HE2.out 6 _ rfl
  have e7 := HE2.out 7 _ rfl
  go_wp2_with (first | (refine wpList_load_mid rfl 30 _ rfl (w.heap.size) 0 rfl (Led.cells L) _ (by exact HR2.out) Try.underlying30 rfl (by show _ = some 16; kernel_rfl) ?_) | (refine wp_load_mid 30 _ rfl (w.heap.size) 0 rfl (Led.cells L) _ (by exact HR2.out) Try.underlying30 rfl (by show _ = some 16; kernel_rfl) ?_) | (refine list_loadk rfl rfl (b := w.heap.size) (off := 0) rfl (cs := Led.cells L) Try.underlying30 rfl (by show _ = some 16; kernel_rfl) (by exact HR2.out) ?_))
  clear e0 e1 e2 e3 e4 e5 e6 e7
  refine (rapply_calls L E W2 (HL.out.below HB2.out (Nat.le_refl _)) HOK.out HSM.out (HG.out.below HB2.out (Nat.le_refl _)) HEK.out HES.out).mono ?_
  rintro e w3 ⟨N, rfl, hS3, hR3, hb3⟩
  have HS3 := Lib.hid hS3
  have HN3 := Lib.hid hR3
  have HB3 := Lib.hid (below_go HB2.out hb3)
  have HR3 := Lib.hid (range_later hb3 HR2.out)
  have HRM3 := Lib.hid (range_later hb3 HRM.out)
  have HM3 := Lib.hid (HM2.out.below hb3 (Nat.le_refl _))
  have hT := there_new w3
  unfold zero16 at hT
  have HT := Lib.hid hT
  clear hT
  have H1 := Lib.hid (led_allR hR3)
  clear hS3 hR3 hb3
  have hbn := box_new w3 N
  unfold zero16 at hbn
  have HBN3 := Lib.hid hbn
  clear hbn
  go_upto_region 3 with (first | (refine wpList_store_mid rfl 30 _ _ rfl (w3.heap.size) 0 (Led.cells N).toArray rfl rfl (by exact HT.out) (by show _ = some 16; kernel_rfl) H1.out ?_; generalize hWgen : World.setCells _ _ _ _ = W4 at *; clear hWgen) | (refine wp_store_mid 30 _ _ rfl (w3.heap.size) 0 (Led.cells N).toArray rfl rfl (by exact HT.out) (by show _ = some 16; kernel_rfl) H1.out ?_; generalize hWgen : World.setCells _ _ _ _ = W4 at *; clear hWgen))
  have HB4 := Lib.hid (below_go HB3.out HBN3.out.2)
  have HR4 := Lib.hid (range_later HBN3.out.2 HR3.out)
  have HRM4 := Lib.hid (range_later HBN3.out.2 HRM3.out)
  have HRN4 := Lib.hid HBN3.out.1.range
  have HM4 := Lib.hid (HM3.out.below HBN3.out.2 (Nat.le_refl _))
  have HN4 := Lib.hid (HN3.out.below HBN3.out.2 (Nat.le_refl _))
  have HGM := Lib.hid HS.out.good
  generalize hga : (applyL L E).2.1 = GA at *
  generalize hgc : (applyL L E).2.2 = GC at *
  clear hga hgc HT H1 HN3 HM3 HRM3 HR3 HB3 HE2 HR2 HRM HM2
  by_cases hc : GC = 3
  · have hc1 : (GC == 3) = true := beq_iff_eq.2 hc
    clear hc HGA
    refine region_m [(0, true), (1, false), (2, false), (4, false), (3, true), (5, true), (6, false), (7, false), (8, false), (9, false), (10, false), (11, true), (12, false), (13, false), (14, false), (15, false), (16, false), (17, false), (18, false), (19, false), (20, false), (21, false), (22, false), (23, false), (24, false), (25, false), (26, false), (27, false), (28, true), (29, false), (30, false)] 31 (fun V => V.rangeAt w.heap.size 0 L.cells ∧ V.rangeAt w1.heap.size 0 M.cells ∧ V.rangeAt w3.heap.size 0 N.cells) (by kernel_rfl) (by kernel_rfl) ⟨HR4.out, HRM4.out, HRN4.out⟩ ?_
    refine m_loud rfl (fun K hK => ?_)
    have HK := Lib.hid hK
    clear hK
    go_simp
    refine (known14_calls _).mono ?_
    rintro e w5 ⟨rfl, hb5⟩
    have hb5 : Below W4.heap.size W4 w5 := ((Below.refl W4.heap.size W4).drew).trans hb5
    have HB5 := Lib.hid hb5
    clear hb5
    refine HK.out _ _ ⟨range_later HB5.out HR4.out, range_later HB5.out HRM4.out, range_later HB5.out HRN4.out⟩ ?_
    clear HK
    iterate 1
      first
      | (refine m_take (v := ?_) rfl rfl ?_ ?_
         rotate_left
         · intro W hW
           go_simp
           with_reducible rfl
         simp only [Act.put, List.setIfInBounds_toArray, List.set_cons_zero, List.set_cons_succ])
      | (refine m_skip rfl rfl ?_
         simp only [Act.put, List.setIfInBounds_toArray, List.set_cons_zero, List.set_cons_succ])
    refine m_loadk rfl rfl rfl rfl (fun W hW => hW.1) Try.underlying30 rfl (by show _ = some 16; kernel_rfl) ?_
    refine m_loadk rfl rfl rfl rfl (fun W hW => hW.1) Try.underlying30 rfl (by show _ = some 16; kernel_rfl) ?_
    simp only [Act.put, List.setIfInBounds_toArray, List.set_cons_zero, List.set_cons_succ]
    refine m_loud rfl (fun K hK => ?_)
    have HK := Lib.hid hK
    clear hK
    go_simp
    refine (pGood_calls L w5 (HL.out.below (below_go HB4.out HB5.out) (Nat.le_refl _)) HOK.out HSM.out).mono ?_
    rintro e w6 ⟨rfl, hb6⟩
    have HB6 := Lib.hid (below_go HB5.out hb6)
    clear hb6
    refine HK.out _ _ ⟨range_later HB6.out HR4.out, range_later HB6.out HRM4.out, range_later HB6.out HRN4.out⟩ ?_
    clear HK
    refine m_loud rfl (fun K hK => ?_)
    have HK := Lib.hid hK
    clear hK
    go_simp
    refine (rGood_calls L w6 (HL.out.below (below_go HB4.out HB6.out) (Nat.le_refl _)) HOK.out HSM.out).mono ?_
    rintro e w7 ⟨rfl, hb7⟩
    have HB7 := Lib.hid (below_go HB6.out hb7)
    clear hb7
    refine HK.out _ _ ⟨range_later HB7.out HR4.out, range_later HB7.out HRM4.out, range_later HB7.out HRN4.out⟩ ?_
    clear HK
    generalize L.good = G
    iterate 3
      first
      | (refine m_take (v := ?_) rfl rfl ?_ ?_
         rotate_left
         · intro W hW
           go_simp
           with_reducible rfl
         simp only [Act.put, List.setIfInBounds_toArray, List.set_cons_zero, List.set_cons_succ])
      | (refine m_skip rfl rfl ?_
         simp only [Act.put, List.setIfInBounds_toArray, List.set_cons_zero, List.set_cons_succ])
    refine m_loadk rfl rfl rfl rfl (fun W hW => hW.2.1) Try.underlying30 rfl (by show _ = some 16; kernel_rfl) ?_
    refine m_loadk rfl rfl rfl rfl (fun W hW => hW.2.2) Try.underlying30 rfl (by show _ = some 16; kernel_rfl) ?_
    simp only [Act.put, List.setIfInBounds_toArray, List.set_cons_zero, List.set_cons_succ]
    refine m_loud rfl (fun K hK => ?_)
    have HK := Lib.hid hK
    clear hK
    go_simp
    refine (same14_calls M N w7 (HM4.out.below HB7.out (Nat.le_refl _)) (HN4.out.below HB7.out (Nat.le_refl _)) (HS.out.symm.trans HS3.out)).mono ?_
    rintro e w8 ⟨rfl, hb8⟩
    have HB8 := Lib.hid (below_go HB7.out hb8)
    clear hb8
    refine HK.out _ _ ⟨range_later HB8.out HR4.out, range_later HB8.out HRM4.out, range_later HB8.out HRN4.out⟩ ?_
    clear HK
    iterate 16
      first
      | (refine m_take (v := ?_) rfl rfl ?_ ?_
         rotate_left
         · intro W hW
           go_simp
           with_reducible rfl
         simp only [Act.put, List.setIfInBounds_toArray, List.set_cons_zero, List.set_cons_succ])
      | (refine m_skip rfl rfl ?_
         simp only [Act.put, List.setIfInBounds_toArray, List.set_cons_zero, List.set_cons_succ])
    refine m_loud rfl (fun K hK => ?_)
    have HK := Lib.hid hK
    clear hK
    go_simp
    refine HK.out _ _ ⟨range_later HB8.out HR4.out, range_later HB8.out HRM4.out, range_later HB8.out HRN4.out⟩ ?_
    clear HK
    iterate 2
      first
      | (refine m_take (v := ?_) rfl rfl ?_ ?_
         rotate_left
         · intro W hW
           go_simp
           with_reducible rfl
         simp only [Act.put, List.setIfInBounds_toArray, List.set_cons_zero, List.set_cons_succ])
      | (refine m_skip rfl rfl ?_
         simp only [Act.put, List.setIfInBounds_toArray, List.set_cons_zero, List.set_cons_succ])
    refine m_done ?_
    simp only [List.drop_succ_cons, List.drop_zero]
    go_wp2_with fail
    simp only [NP]
    go_wp2_with fail
    go_ret
    exact ⟨rfl, below_go HB4.out HB8.out⟩
  · have hc1 : (GC == 3) = false := beq_eq_false_iff_ne.2 hc
    have hgm : M.good = true := by rw [HGM.out]; exact HGA.out.resolve_left hc
    have HGM := Lib.hid hgm
    clear hc HGA hgm
    refine region_m [(0, true), (1, false), (2, false), (4, false), (3, true), (5, true), (6, false), (7, false), (8, false), (9, false), (10, false), (11, true), (12, false), (13, false), (14, false), (15, false), (16, false), (17, false), (18, false), (19, false), (20, false), (21, false), (22, false), (23, false), (24, false), (25, false), (26, false), (27, false), (28, true), (29, false), (30, false)] 31 (fun V => V.rangeAt w.heap.size 0 L.cells ∧ V.rangeAt w1.heap.size 0 M.cells ∧ V.rangeAt w3.heap.size 0 N.cells) (by kernel_rfl) (by kernel_rfl) ⟨HR4.out, HRM4.out, HRN4.out⟩ ?_
    refine m_loud rfl (fun K hK => ?_)
    have HK := Lib.hid hK
    clear hK
    go_simp
    refine (known14_calls _).mono ?_
    rintro e w5 ⟨rfl, hb5⟩
    have hb5 : Below W4.heap.size W4 w5 := ((Below.refl W4.heap.size W4).drew).trans hb5
    have HB5 := Lib.hid hb5
    clear hb5
    refine HK.out _ _ ⟨range_later HB5.out HR4.out, range_later HB5.out HRM4.out, range_later HB5.out HRN4.out⟩ ?_
    clear HK
    iterate 1
      first
      | (refine m_take (v := ?_) rfl rfl ?_ ?_
         rotate_left
         · intro W hW
           go_simp
           with_reducible rfl
         simp only [Act.put, List.setIfInBounds_toArray, List.set_cons_zero, List.set_cons_succ])
      | (refine m_skip rfl rfl ?_
         simp only [Act.put, List.setIfInBounds_toArray, List.set_cons_zero, List.set_cons_succ])
    refine m_loadk rfl rfl rfl rfl (fun W hW => hW.1) Try.underlying30 rfl (by show _ = some 16; kernel_rfl) ?_
    refine m_loadk rfl rfl rfl rfl (fun W hW => hW.1) Try.underlying30 rfl (by show _ = some 16; kernel_rfl) ?_
    simp only [Act.put, List.setIfInBounds_toArray, List.set_cons_zero, List.set_cons_succ]
    refine m_loud rfl (fun K hK => ?_)
    have HK := Lib.hid hK
    clear hK
    go_simp
    refine (pGood_calls L w5 (HL.out.below (below_go HB4.out HB5.out) (Nat.le_refl _)) HOK.out HSM.out).mono ?_
    rintro e w6 ⟨rfl, hb6⟩
    have HB6 := Lib.hid (below_go HB5.out hb6)
    clear hb6
    refine HK.out _ _ ⟨range_later HB6.out HR4.out, range_later HB6.out HRM4.out, range_later HB6.out HRN4.out⟩ ?_
    clear HK
    refine m_loud rfl (fun K hK => ?_)
    have HK := Lib.hid hK
    clear hK
    go_simp
    refine (rGood_calls L w6 (HL.out.below (below_go HB4.out HB6.out) (Nat.le_refl _)) HOK.out HSM.out).mono ?_
    rintro e w7 ⟨rfl, hb7⟩
    have HB7 := Lib.hid (below_go HB6.out hb7)
    clear hb7
    refine HK.out _ _ ⟨range_later HB7.out HR4.out, range_later HB7.out HRM4.out, range_later HB7.out HRN4.out⟩ ?_
    clear HK
    generalize L.good = G
    iterate 3
      first
      | (refine m_take (v := ?_) rfl rfl ?_ ?_
         rotate_left
         · intro W hW
           go_simp
           with_reducible rfl
         simp only [Act.put, List.setIfInBounds_toArray, List.set_cons_zero, List.set_cons_succ])
      | (refine m_skip rfl rfl ?_
         simp only [Act.put, List.setIfInBounds_toArray, List.set_cons_zero, List.set_cons_succ])
    refine m_loadk rfl rfl rfl rfl (fun W hW => hW.2.1) Try.underlying30 rfl (by show _ = some 16; kernel_rfl) ?_
    refine m_loadk rfl rfl rfl rfl (fun W hW => hW.2.2) Try.underlying30 rfl (by show _ = some 16; kernel_rfl) ?_
    simp only [Act.put, List.setIfInBounds_toArray, List.set_cons_zero, List.set_cons_succ]
    refine m_loud rfl (fun K hK => ?_)
    have HK := Lib.hid hK
    clear hK
    go_simp
    refine (same14_calls M N w7 (HM4.out.below HB7.out (Nat.le_refl _)) (HN4.out.below HB7.out (Nat.le_refl _)) (HS.out.symm.trans HS3.out)).mono ?_
    rintro e w8 ⟨rfl, hb8⟩
    have HB8 := Lib.hid (below_go HB7.out hb8)
    clear hb8
    refine HK.out _ _ ⟨range_later HB8.out HR4.out, range_later HB8.out HRM4.out, range_later HB8.out HRN4.out⟩ ?_
    clear HK
    iterate 15
      first
      | (refine m_take (v := ?_) rfl rfl ?_ ?_
         rotate_left
         · intro W hW
           go_simp
           with_reducible rfl
         simp only [Act.put, List.setIfInBounds_toArray, List.set_cons_zero, List.set_cons_succ])
      | (refine m_skip rfl rfl ?_
         simp only [Act.put, List.setIfInBounds_toArray, List.set_cons_zero, List.set_cons_succ])
    refine m_loadk rfl rfl rfl rfl (fun W hW => hW.2.1) Try.underlying30 rfl (by show _ = some 16; kernel_rfl) ?_
    simp only [Act.put, List.setIfInBounds_toArray, List.set_cons_zero, List.set_cons_succ]
    refine m_loud rfl (fun K hK => ?_)
    have HK := Lib.hid hK
    clear hK
    go_simp
    refine (pGood_calls M w8 (HM4.out.below HB8.out (Nat.le_refl _)) (HS.out.ok HAOK.out) (HS.out.small HASM.out)).mono ?_
    rintro e w9 ⟨rfl, hb9⟩
    have HB9 := Lib.hid (below_go HB8.out hb9)
    clear hb9
    rw [HGM.out]
    refine HK.out _ _ ⟨range_later HB9.out HR4.out, range_later HB9.out HRM4.out, range_later HB9.out HRN4.out⟩ ?_
    clear HK
    iterate 2
      first
      | (refine m_take (v := ?_) rfl rfl ?_ ?_
         rotate_left
         · intro W hW
           go_simp
           with_reducible rfl
         simp only [Act.put, List.setIfInBounds_toArray, List.set_cons_zero, List.set_cons_succ])
      | (refine m_skip rfl rfl ?_
         simp only [Act.put, List.setIfInBounds_toArray, List.set_cons_zero, List.set_cons_succ])
    refine m_done ?_
    simp only [List.drop_succ_cons, List.drop_zero]
    go_wp2_with fail
    simp only [NP]
    go_wp2_with fail
    go_ret
    exact ⟨rfl, below_go HB4.out HB9.out⟩
end Go.Proofs.Ytkabfjbmofpkdaa

/- Layer 14: PartsKeeps walked. -/
namespace Go.Proofs.Ytkabfjbmofpkdaa
open Go.RowKit Go.Shelf
set_option maxRecDepth 100000

theorem range_only {S : Nat → Prop} {w w' : World} {b : Nat} {cs : List Value} (ho : Only S w w') (hS : ¬ S b) (h : w.rangeAt b 0 cs) : w'.rangeAt b 0 cs := fun j v hj => ho.cell hS (h j v hj)

/-- What stands from the second copy on. -/
structure KSt (w w1 w2 W : World) (L A : Led) (E : Ent) (gv : Value) : Prop where
  s1 : w.heap.size + 1 < w1.heap.size
  s2 : w1.heap.size < w2.heap.size
  b : Below w.heap.size w W
  d1 : Below w1.heap.size w1 W
  d2 : Below w2.heap.size w2 W
  e : BoxE W (w.heap.size + 1) E
  rl : W.rangeAt w.heap.size 0 L.cells
  ra : W.rangeAt w1.heap.size 0 A.cells
  g : W.cell? ⟨w2.heap.size, 0, none⟩ = some gv
theorem KSt.size {w w1 w2 W : World} {L A : Led} {E : Ent} {gv : Value} (h : KSt w w1 w2 W L A E gv) : w2.heap.size < W.heap.size := World.block_lt_of_cell? W _ h.g
theorem KSt.only {S : Nat → Prop} {w w1 w2 W W' : World} {L A : Led} {E : Ent} {gv : Value} (h : KSt w w1 w2 W L A E gv) (ho : Only S W W') (hS : ∀ j, S j → w2.heap.size < j) : KSt w w1 w2 W' L A E gv := by
  have hz := h.size
  have h1 := h.s1
  have h2 := h.s2
  exact ⟨h1, h2, h.b.trans (ho.below (by omega) (fun j hj e => by have := hS j e; omega)), h.d1.trans (ho.below (by omega) (fun j hj e => by have := hS j e; omega)), h.d2.trans (ho.below (by omega) (fun j hj e => by have := hS j e; omega)),
    h.e.only ho (fun e => by have := hS _ e; omega), range_only ho (fun e => by have := hS _ e; omega) h.rl, range_only ho (fun e => by have := hS _ e; omega) h.ra, ho.cell (fun e => by have := hS _ e; omega) h.g⟩
theorem KSt.later {w w1 w2 W W' : World} {L A : Led} {E : Ent} {gv : Value} (h : KSt w w1 w2 W L A E gv) (hb : Below W.heap.size W W') : KSt w w1 w2 W' L A E gv :=
  h.only (Only.of_below (S := fun _ => False) hb) (fun _ e => e.elim)

set_option maxHeartbeats 8000000 in
theorem keeps_core (L : Led) (E : Ent) (w : World) (hL : LedR w L) (hok : L.Ok) (hsz : L.Sz 1048576) (hG : OpsR w E.gv E.os) (hek : E.Ok) (hes : E.Small) :
    Calls Try.prog 4 #[.agg L.cells.toArray, .agg E.cells.toArray] w fun e w' => e = .returned (.bool true) ∧ Below w.heap.size w w' := by
  obtain ⟨X, hX⟩ : ∃ X, X = (w.alloc (.cells L.cells.toArray 30)).alloc (.cells E.cells.toArray 35) := ⟨_, rfl⟩
  have hbX : Below w.heap.size w X := by rw [hX]; exact below_box (below_alloc _ _) _
  have hBL : BoxL X w.heap.size L := by rw [hX]; exact (boxL_self w L 30).later (below_alloc _ _)
  have hBE : BoxE X (w.heap.size + 1) E := by
    rw [hX]
    have := boxE_self (w.alloc (.cells L.cells.toArray 30)) E 35
    rwa [World.size_alloc] at this
  have HX := Lib.hid hX
  have HBL := Lib.hid hBL
  have HBE := Lib.hid hBE
  have HBX := Lib.hid hbX
  have HL := Lib.hid hL
  have HOK := Lib.hid hok
  have HSM := Lib.hid (hsz.small (by omega))
  have HASM := Lib.hid ((apply_sz L E hsz).small (by omega))
  have HG := Lib.hid hG
  have HEK := Lib.hid hek
  have HES := Lib.hid hes
  clear hX hBL hBE hbX hL hok hsz hG hek hes
  go_enter Try.func4, Try.ntmps4
  go_upto_region 1 with fail
  rw [show (w.alloc (.cells L.cells.toArray 30)).alloc (.cells E.cells.toArray 35) = X from HX.out.symm]
  go_wp2_with fail
  refine (known14_calls _).mono ?_
  rintro e w0 ⟨rfl, hb0⟩
  have HB0 := Lib.hid (below_go HBX.out hb0)
  have HR0 := Lib.hid (HBL.out.later hb0).range
  have HE0 := Lib.hid (HBE.out.later hb0)
  clear hb0
  go_wp2_with (first | (refine wpList_load_mid rfl 30 _ rfl (w.heap.size) 0 rfl (Led.cells L) _ (by exact HR0.out) Try.underlying30 rfl (by show _ = some 16; kernel_rfl) ?_) | (refine wp_load_mid 30 _ rfl (w.heap.size) 0 rfl (Led.cells L) _ (by exact HR0.out) Try.underlying30 rfl (by show _ = some 16; kernel_rfl) ?_) | (refine list_loadk rfl rfl (b := w.heap.size) (off := 0) rfl (cs := Led.cells L) Try.underlying30 rfl (by show _ = some 16; kernel_rfl) (by exact HR0.out) ?_))
  refine (copy_calls L w0 (HL.out.below HB0.out (Nat.le_refl _)) HSM.out).mono ?_
  rintro e w1 ⟨A, rfl, hSA, hNA, hb1⟩
  have HSA := Lib.hid hSA
  have HNA := Lib.hid hNA.reads
  have HB1 := Lib.hid (below_go HB0.out hb1)
  have HE1 := Lib.hid (HE0.out.later hb1)
  have HR1 := Lib.hid (range_later hb1 HR0.out)
  have hT := there_new w1
  unfold zero16 at hT
  have HT := Lib.hid hT
  have H1 := Lib.hid (led_all A (own_one hNA.rows) (own_one hNA.opn) (own_one hNA.bats) (own_one hNA.ops))
  clear hSA hNA hb1 hT
  have hbn := box_new w1 A
  unfold zero16 at hbn
  have HBN := Lib.hid hbn
  clear hbn
  go_upto_region 4 with (first | (refine wpList_store_mid rfl 30 _ _ rfl (w1.heap.size) 0 (Led.cells A).toArray rfl rfl (by exact HT.out) (by show _ = some 16; kernel_rfl) H1.out ?_; generalize hWgen : World.setCells _ _ _ _ = W1 at *; clear hWgen) | (refine wp_store_mid 30 _ _ rfl (w1.heap.size) 0 (Led.cells A).toArray rfl rfl (by exact HT.out) (by show _ = some 16; kernel_rfl) H1.out ?_; generalize hWgen : World.setCells _ _ _ _ = W1 at *; clear hWgen))
  have HB1' := Lib.hid (below_go HB1.out HBN.out.2)
  have HD1 := Lib.hid HBN.out.2
  have HE1' := Lib.hid (HE1.out.later HBN.out.2)
  have HR1' := Lib.hid (range_later HBN.out.2 HR1.out)
  have HRA := Lib.hid HBN.out.1.range
  have SZ1 := Lib.hid (show w.heap.size + 1 < w1.heap.size from by
    have h := World.block_lt_of_cell? _ _ (HE1.out 0 _ rfl)
    exact h)
  clear HBN HT H1 HE1 HR1 HB1 HE0 HR0 HB0
  have e6 := HE1'.out 6 _ rfl
  go_wp2_with fail
  have hes := HES.out
  refine (copyG_calls E.gv E.os W1 (HG.out.below HB1'.out (Nat.le_refl _)) hes.1 hes.2).mono ?_
  rintro e w2 ⟨gv', zs, rfl, hcon, hrow, hins, hb2⟩
  have HZ := Lib.hid (show OpsR w2 gv' zs from ⟨Rd.of_own hrow, fun o ho => Rd.of_own (hins o ho)⟩)
  have HCON := Lib.hid hcon
  have HB2 := Lib.hid hb2
  obtain ⟨za, zc, rfl⟩ := own_slice hrow
  clear hcon hrow hins hb2 e6 hes
  go_upto_region 5 with fail
  have HK2 := Lib.hid (show KSt w w1 w2 (w2.alloc (.cells #[.slice za zs.length zc] 28)) L A E (.slice za zs.length zc) from by
    have hab : Below W1.heap.size W1 (w2.alloc (.cells #[.slice za zs.length zc] 28)) := below_box HB2.out _
    have h1 := World.block_lt_of_cell? _ _ (HRA.out 0 _ rfl)
    simp only at h1
    have h2 := HB2.out.size
    exact ⟨SZ1.out, by omega, below_go HB1'.out hab, below_go HD1.out hab, below_alloc _ _, HE1'.out.later hab, range_later hab HR1'.out, range_later hab HRA.out, box_self 0 _ rfl⟩)
  generalize w2.alloc (.cells #[.slice za zs.length zc] 28) = W2 at *
  clear HB1' HD1 HE1' HR1' HRA
  have e0 := HK2.out.e 0 _ rfl
  have e1 := HK2.out.e 1 _ rfl
  have e2 := HK2.out.e 2 _ rfl
  have e3 := HK2.out.e 3 _ rfl
  have e4 := HK2.out.e 4 _ rfl
  have e5 := HK2.out.e 5 _ rfl
  have e6 := HK2.out.e 6 _ rfl
  have e7 := HK2.out.e 7 _ rfl
  have rl := Lib.hid HK2.out.rl
  go_wp2_with (first | (refine wpList_load_mid rfl 30 _ rfl (w.heap.size) 0 rfl (Led.cells L) _ (by exact rl.out) Try.underlying30 rfl (by show _ = some 16; kernel_rfl) ?_) | (refine wp_load_mid 30 _ rfl (w.heap.size) 0 rfl (Led.cells L) _ (by exact rl.out) Try.underlying30 rfl (by show _ = some 16; kernel_rfl) ?_) | (refine list_loadk rfl rfl (b := w.heap.size) (off := 0) rfl (cs := Led.cells L) Try.underlying30 rfl (by show _ = some 16; kernel_rfl) (by exact rl.out) ?_))
  clear e0 e1 e2 e3 e4 e5 e6 e7
  refine (apply_calls L E W2 (HL.out.below HK2.out.b (Nat.le_refl _)) HOK.out HSM.out (HG.out.below HK2.out.b (Nat.le_refl _)) HEK.out HES.out).mono ?_
  rintro e w3 ⟨M, rfl, hS, hO, hb3⟩
  have HMS := Lib.hid (hS.small HASM.out)
  have HM := Lib.hid hO.toN
  have HB3 := Lib.hid hb3
  have hT := there_new w3
  unfold zero16 at hT
  have HT := Lib.hid hT
  have H1 := Lib.hid (led_all M (own_one hO.rows) (own_one hO.opn) (own_one hO.bats) (own_one hO.ops))
  clear hS hO hb3 hT
  have hbn := box_new w3 M
  unfold zero16 at hbn
  have HBN := Lib.hid hbn
  clear hbn
  go_upto_region 6 with (first | (refine wpList_store_mid rfl 30 _ _ rfl (w3.heap.size) 0 (Led.cells M).toArray rfl rfl (by exact HT.out) (by show _ = some 16; kernel_rfl) H1.out ?_; generalize hWgen : World.setCells _ _ _ _ = W3 at *; clear hWgen) | (refine wp_store_mid 30 _ _ rfl (w3.heap.size) 0 (Led.cells M).toArray rfl rfl (by exact HT.out) (by show _ = some 16; kernel_rfl) H1.out ?_; generalize hWgen : World.setCells _ _ _ _ = W3 at *; clear hWgen))
  have HK3 := Lib.hid (HK2.out.later (below_go HB3.out HBN.out.2))
  have HRM3 := Lib.hid HBN.out.1.range
  have HM3 := Lib.hid (HM.out.below HBN.out.2)
  have SZ3 := Lib.hid (And.intro HB3.out.size (World.block_lt_of_cell? _ _ (HBN.out.1.range 0 _ rfl)))
  have HIN := Lib.hid HM.out.within
  clear HT H1 HBN rl HM
  have e0 := HK3.out.e 0 _ rfl
  have e1 := HK3.out.e 1 _ rfl
  have e2 := HK3.out.e 2 _ rfl
  have e3 := HK3.out.e 3 _ rfl
  have e4 := HK3.out.e 4 _ rfl
  have e5 := HK3.out.e 5 _ rfl
  have e6 := HK3.out.e 6 _ rfl
  have e7 := HK3.out.e 7 _ rfl
  have rl := Lib.hid HK3.out.rl
  go_wp2_with (first | (refine wpList_load_mid rfl 30 _ rfl (w.heap.size) 0 rfl (Led.cells L) _ (by exact rl.out) Try.underlying30 rfl (by show _ = some 16; kernel_rfl) ?_) | (refine wp_load_mid 30 _ rfl (w.heap.size) 0 rfl (Led.cells L) _ (by exact rl.out) Try.underlying30 rfl (by show _ = some 16; kernel_rfl) ?_) | (refine list_loadk rfl rfl (b := w.heap.size) (off := 0) rfl (cs := Led.cells L) Try.underlying30 rfl (by show _ = some 16; kernel_rfl) (by exact rl.out) ?_))
  clear e0 e1 e2 e3 e4 e5 e6 e7
  refine (apply_calls L E W3 (HL.out.below HK3.out.b (Nat.le_refl _)) HOK.out HSM.out (HG.out.below HK3.out.b (Nat.le_refl _)) HEK.out HES.out).mono ?_
  rintro e w4 ⟨N, rfl, hS, hO, hb4⟩
  have HNS := Lib.hid (hS.small HASM.out)
  have HN := Lib.hid hO.toN
  have HB4 := Lib.hid hb4
  have hT := there_new w4
  unfold zero16 at hT
  have HT := Lib.hid hT
  have H1 := Lib.hid (led_all N (own_one hO.rows) (own_one hO.opn) (own_one hO.bats) (own_one hO.ops))
  clear hS hO hb4 hT
  have hbn := box_new w4 N
  unfold zero16 at hbn
  have HBN := Lib.hid hbn
  clear hbn
  go_upto_region 7 with (first | (refine wpList_store_mid rfl 30 _ _ rfl (w4.heap.size) 0 (Led.cells N).toArray rfl rfl (by exact HT.out) (by show _ = some 16; kernel_rfl) H1.out ?_; generalize hWgen : World.setCells _ _ _ _ = W4 at *; clear hWgen) | (refine wp_store_mid 30 _ _ rfl (w4.heap.size) 0 (Led.cells N).toArray rfl rfl (by exact HT.out) (by show _ = some 16; kernel_rfl) H1.out ?_; generalize hWgen : World.setCells _ _ _ _ = W4 at *; clear hWgen))
  have HK4 := Lib.hid (HK3.out.later (below_go HB4.out HBN.out.2))
  have HRM4 := Lib.hid (range_later (below_go HB4.out HBN.out.2) HRM3.out)
  have HM4 := Lib.hid (HM3.out.below (below_go HB4.out HBN.out.2))
  have HRN4 := Lib.hid HBN.out.1.range
  have HN4 := Lib.hid (HN.out.below HBN.out.2)
  have SZ4 := Lib.hid (And.intro HB4.out.size (World.block_lt_of_cell? _ _ (HBN.out.1.range 0 _ rfl)))
  clear HT H1 HBN rl HN HRM3 HM3
  generalize (applyL L E).2.1 = GA at *
  generalize (applyL L E).2.2 = GC at *
  have rl := Lib.hid HK4.out.rl
  have ra := Lib.hid HK4.out.ra
  go_wp2_with (first | (refine wpList_load_mid rfl 30 _ rfl (w.heap.size) 0 rfl (Led.cells L) _ (by exact rl.out) Try.underlying30 rfl (by show _ = some 16; kernel_rfl) ?_) | (refine wp_load_mid 30 _ rfl (w.heap.size) 0 rfl (Led.cells L) _ (by exact rl.out) Try.underlying30 rfl (by show _ = some 16; kernel_rfl) ?_) | (refine list_loadk rfl rfl (b := w.heap.size) (off := 0) rfl (cs := Led.cells L) Try.underlying30 rfl (by show _ = some 16; kernel_rfl) (by exact rl.out) ?_) | (refine wpList_load_mid rfl 30 _ rfl (w1.heap.size) 0 rfl (Led.cells A) _ (by exact ra.out) Try.underlying30 rfl (by show _ = some 16; kernel_rfl) ?_) | (refine wp_load_mid 30 _ rfl (w1.heap.size) 0 rfl (Led.cells A) _ (by exact ra.out) Try.underlying30 rfl (by show _ = some 16; kernel_rfl) ?_) | (refine list_loadk rfl rfl (b := w1.heap.size) (off := 0) rfl (cs := Led.cells A) Try.underlying30 rfl (by show _ = some 16; kernel_rfl) (by exact ra.out) ?_))
  refine (same14_calls L A W4 (HL.out.below HK4.out.b (Nat.le_refl _)) (HNA.out.below HK4.out.d1 (Nat.le_refl _)) HSA.out).mono ?_
  rintro e w5 ⟨rfl, hb5⟩
  have HK5 := Lib.hid (HK4.out.later hb5)
  have HRM5 := Lib.hid (range_later hb5 HRM4.out)
  have HM5 := Lib.hid (HM4.out.below hb5)
  have HRN5 := Lib.hid (range_later hb5 HRN4.out)
  have HN5 := Lib.hid (HN4.out.below hb5)
  clear hb5 rl ra HRM4 HM4 HRN4 HN4
  have e6 := HK5.out.e 6 _ rfl
  have g0 := HK5.out.g
  go_wp2_with fail
  refine (sameGraph_calls _ _ E.os zs w5 (HG.out.below HK5.out.b (Nat.le_refl _)) (HZ.out.below HK5.out.d2 (Nat.le_refl _)) HCON.out).mono ?_
  rintro e w6 ⟨rfl, hb6⟩
  have HK6 := Lib.hid (HK5.out.later hb6)
  have HRM6 := Lib.hid (range_later hb6 HRM5.out)
  have HM6 := Lib.hid (HM5.out.below hb6)
  have HRN6 := Lib.hid (range_later hb6 HRN5.out)
  have HN6 := Lib.hid (HN5.out.below hb6)
  clear hb6 e6 g0 HRM5 HM5 HRN5 HN5
  have rl := Lib.hid HK6.out.rl
  have ra := Lib.hid HK6.out.ra
  by_cases hc : GC = 3
  · have hc1 : (GC == 3) = true := beq_iff_eq.2 hc
    clear hc
    go_wp2_with (first | (refine wpList_load_mid rfl 30 _ rfl (w.heap.size) 0 rfl (Led.cells L) _ (by exact rl.out) Try.underlying30 rfl (by show _ = some 16; kernel_rfl) ?_) | (refine wp_load_mid 30 _ rfl (w.heap.size) 0 rfl (Led.cells L) _ (by exact rl.out) Try.underlying30 rfl (by show _ = some 16; kernel_rfl) ?_) | (refine list_loadk rfl rfl (b := w.heap.size) (off := 0) rfl (cs := Led.cells L) Try.underlying30 rfl (by show _ = some 16; kernel_rfl) (by exact rl.out) ?_) | (refine wpList_load_mid rfl 30 _ rfl (w1.heap.size) 0 rfl (Led.cells A) _ (by exact ra.out) Try.underlying30 rfl (by show _ = some 16; kernel_rfl) ?_) | (refine wp_load_mid 30 _ rfl (w1.heap.size) 0 rfl (Led.cells A) _ (by exact ra.out) Try.underlying30 rfl (by show _ = some 16; kernel_rfl) ?_) | (refine list_loadk rfl rfl (b := w1.heap.size) (off := 0) rfl (cs := Led.cells A) Try.underlying30 rfl (by show _ = some 16; kernel_rfl) (by exact ra.out) ?_))
    refine (same14_calls L A w6 (HL.out.below HK6.out.b (Nat.le_refl _)) (HNA.out.below HK6.out.d1 (Nat.le_refl _)) HSA.out).mono ?_
    rintro e w7 ⟨rfl, hb7⟩
    have HK7 := Lib.hid (HK6.out.later hb7)
    clear hb7
    go_wp2_with fail
    go_ret
    exact ⟨rfl, HK7.out.b⟩
  · have hc1 : (GC == 3) = false := beq_eq_false_iff_ne.2 hc
    clear hc
    go_wp2_with (first | (refine wpList_load_mid rfl 30 _ rfl (w4.heap.size) 0 rfl (Led.cells N) _ (by exact HRN6.out) Try.underlying30 rfl (by show _ = some 16; kernel_rfl) ?_) | (refine wp_load_mid 30 _ rfl (w4.heap.size) 0 rfl (Led.cells N) _ (by exact HRN6.out) Try.underlying30 rfl (by show _ = some 16; kernel_rfl) ?_) | (refine list_loadk rfl rfl (b := w4.heap.size) (off := 0) rfl (cs := Led.cells N) Try.underlying30 rfl (by show _ = some 16; kernel_rfl) (by exact HRN6.out) ?_))
    refine (copy_calls N w6 HN6.out.reads HNS.out).mono ?_
    rintro e w7 ⟨C, rfl, hSC, hNC, hb7⟩
    have HSC := Lib.hid hSC
    have HC7 := Lib.hid hNC
    have HB7 := Lib.hid hb7
    have hT := there_new w7
    unfold zero16 at hT
    have HT := Lib.hid hT
    have H1 := Lib.hid (led_all C (own_one hNC.rows) (own_one hNC.opn) (own_one hNC.bats) (own_one hNC.ops))
    clear hSC hNC hb7 hT
    have hbn := box_new w7 C
    unfold zero16 at hbn
    have HBN := Lib.hid hbn
    clear hbn
    go_upto_region 10 with (first | (refine wpList_store_mid rfl 30 _ _ rfl (w7.heap.size) 0 (Led.cells C).toArray rfl rfl (by exact HT.out) (by show _ = some 16; kernel_rfl) H1.out ?_; generalize hWgen : World.setCells _ _ _ _ = W7 at *; clear hWgen) | (refine wp_store_mid 30 _ _ rfl (w7.heap.size) 0 (Led.cells C).toArray rfl rfl (by exact HT.out) (by show _ = some 16; kernel_rfl) H1.out ?_; generalize hWgen : World.setCells _ _ _ _ = W7 at *; clear hWgen))
    have HD7 := Lib.hid (below_go HB7.out HBN.out.2)
    have HK7 := Lib.hid (HK6.out.later HD7.out)
    have HRM7 := Lib.hid (range_later HD7.out HRM6.out)
    have HM7 := Lib.hid (HM6.out.below HD7.out)
    have HRN7 := Lib.hid (range_later HD7.out HRN6.out)
    have HN7 := Lib.hid (HN6.out.below HD7.out)
    have HRC7 := Lib.hid HBN.out.1.range
    have HCC7 := Lib.hid (HC7.out.below HBN.out.2)
    have SZ7 := Lib.hid (show w4.heap.size < w6.heap.size ∧ w6.heap.size ≤ w7.heap.size ∧ w7.heap.size < W7.heap.size from ⟨World.block_lt_of_cell? _ _ (HRN6.out 0 _ rfl), HB7.out.size, World.block_lt_of_cell? _ _ (HRC7.out 0 _ rfl)⟩)
    clear HT H1 HBN rl ra HRM6 HM6 HRN6 HN6 HD7
    go_wp2_with (first | (refine wpList_load_mid rfl 30 _ rfl (w3.heap.size) 0 rfl (Led.cells M) _ (by exact HRM7.out) Try.underlying30 rfl (by show _ = some 16; kernel_rfl) ?_) | (refine wp_load_mid 30 _ rfl (w3.heap.size) 0 rfl (Led.cells M) _ (by exact HRM7.out) Try.underlying30 rfl (by show _ = some 16; kernel_rfl) ?_) | (refine list_loadk rfl rfl (b := w3.heap.size) (off := 0) rfl (cs := Led.cells M) Try.underlying30 rfl (by show _ = some 16; kernel_rfl) (by exact HRM7.out) ?_))
    refine (wipe_calls M W2.heap.size (fun j => W2.heap.size ≤ j ∧ j < w3.heap.size) W7 HM7.out HIN.out (fun j h => by have := SZ7.out; have := SZ3.out; have := SZ4.out; omega) HMS.out).mono ?_
    rintro e w8 ⟨rfl, ho⟩
    have hz2 := HK2.out.size
    have hz3 := SZ3.out
    have hz4 := SZ4.out
    have hz7 := SZ7.out
    have HK8 := Lib.hid (HK7.out.only ho (fun j h => by omega))
    have HRN8 := Lib.hid (range_only ho (by omega) HRN7.out)
    have HN8 := Lib.hid (HN7.out.only ho (fun j h => by omega))
    have HRC8 := Lib.hid (range_only ho (by omega) HRC7.out)
    have HC8 := Lib.hid (HCC7.out.only ho (fun j h => by omega))
    clear ho hz2 hz3 hz4 hz7 HK7 HRN7 HN7 HRC7 HCC7 HRM7 HM7
    go_wp2_with (first | (refine wpList_load_mid rfl 30 _ rfl (w4.heap.size) 0 rfl (Led.cells N) _ (by exact HRN8.out) Try.underlying30 rfl (by show _ = some 16; kernel_rfl) ?_) | (refine wp_load_mid 30 _ rfl (w4.heap.size) 0 rfl (Led.cells N) _ (by exact HRN8.out) Try.underlying30 rfl (by show _ = some 16; kernel_rfl) ?_) | (refine list_loadk rfl rfl (b := w4.heap.size) (off := 0) rfl (cs := Led.cells N) Try.underlying30 rfl (by show _ = some 16; kernel_rfl) (by exact HRN8.out) ?_) | (refine wpList_load_mid rfl 30 _ rfl (w7.heap.size) 0 rfl (Led.cells C) _ (by exact HRC8.out) Try.underlying30 rfl (by show _ = some 16; kernel_rfl) ?_) | (refine wp_load_mid 30 _ rfl (w7.heap.size) 0 rfl (Led.cells C) _ (by exact HRC8.out) Try.underlying30 rfl (by show _ = some 16; kernel_rfl) ?_) | (refine list_loadk rfl rfl (b := w7.heap.size) (off := 0) rfl (cs := Led.cells C) Try.underlying30 rfl (by show _ = some 16; kernel_rfl) (by exact HRC8.out) ?_))
    refine (same14_calls N C w8 HN8.out.reads HC8.out.reads HSC.out).mono ?_
    rintro e w9 ⟨rfl, hb9⟩
    have HK9 := Lib.hid (HK8.out.later hb9)
    clear hb9
    have rl := Lib.hid HK9.out.rl
    have ra := Lib.hid HK9.out.ra
    go_wp2_with (first | (refine wpList_load_mid rfl 30 _ rfl (w.heap.size) 0 rfl (Led.cells L) _ (by exact rl.out) Try.underlying30 rfl (by show _ = some 16; kernel_rfl) ?_) | (refine wp_load_mid 30 _ rfl (w.heap.size) 0 rfl (Led.cells L) _ (by exact rl.out) Try.underlying30 rfl (by show _ = some 16; kernel_rfl) ?_) | (refine list_loadk rfl rfl (b := w.heap.size) (off := 0) rfl (cs := Led.cells L) Try.underlying30 rfl (by show _ = some 16; kernel_rfl) (by exact rl.out) ?_) | (refine wpList_load_mid rfl 30 _ rfl (w1.heap.size) 0 rfl (Led.cells A) _ (by exact ra.out) Try.underlying30 rfl (by show _ = some 16; kernel_rfl) ?_) | (refine wp_load_mid 30 _ rfl (w1.heap.size) 0 rfl (Led.cells A) _ (by exact ra.out) Try.underlying30 rfl (by show _ = some 16; kernel_rfl) ?_) | (refine list_loadk rfl rfl (b := w1.heap.size) (off := 0) rfl (cs := Led.cells A) Try.underlying30 rfl (by show _ = some 16; kernel_rfl) (by exact ra.out) ?_))
    refine (same14_calls L A w9 (HL.out.below HK9.out.b (Nat.le_refl _)) (HNA.out.below HK9.out.d1 (Nat.le_refl _)) HSA.out).mono ?_
    rintro e w10 ⟨rfl, hb10⟩
    have HK10 := Lib.hid (HK9.out.later hb10)
    clear hb10
    have e6 := HK10.out.e 6 _ rfl
    have g0 := HK10.out.g
    go_wp2_with fail
    refine (sameGraph_calls _ _ E.os zs w10 (HG.out.below HK10.out.b (Nat.le_refl _)) (HZ.out.below HK10.out.d2 (Nat.le_refl _)) HCON.out).mono ?_
    rintro e w11 ⟨rfl, hb11⟩
    have HK11 := Lib.hid (HK10.out.later hb11)
    clear hb11
    go_wp2_with fail
    go_ret
    exact ⟨rfl, HK11.out.b⟩
end Go.Proofs.Ytkabfjbmofpkdaa

/- Layer 14: the first offset of a partition, walked. -/
namespace Go.Proofs.Ytkabfjbmofpkdaa
open Go.RowKit Go.Shelf
set_option maxRecDepth 100000
attribute [local go_sem] Oper.semAt_some

/-- The first offset of a partition that is there. -/
def Led.firstOf (L : Led) (q : Int) : Int := if 0 ≤ q ∧ q < 8 ∧ L.good = true then L.C q.toNat - have_ L.all q else 0
theorem firstOf_good {L : Led} (hg : L.good = true) (p : Nat) (hp : p < 8) : L.firstOf p = L.C p - have_ L.all p := by
  unfold Led.firstOf
  rw [if_pos ⟨by omega, by omega, hg⟩]
  rfl
theorem have_take_le (rs : List Rec) (k : Nat) (q : Int) : have_ (rs.take k) q ≤ have_ rs q := have_sub (List.take_sublist _ _) q
theorem good_C {L : Led} (hg : L.good = true) (hok : L.Ok) (p : Nat) (hp : p < 8) : (have_ L.all p : Int) ≤ L.C p ∧ L.C p ≤ 9223372036854775807 :=
  ⟨counts_at ((good_iff L).1 hg).2.2 p hp, (hok.C p hp).2⟩
theorem cells_led_all (L : Led) : L.cells.toArray = #[L.rv, .int .i64 (L.C 0), .int .i64 (L.C 1), .int .i64 (L.C 2), .int .i64 (L.C 3), .int .i64 (L.C 4), .int .i64 (L.C 5), .int .i64 (L.C 6), .int .i64 (L.C 7), L.ov, L.bv, .int .i64 L.sealed, .int .i64 L.decided, .bool L.dep, L.gv, .int .i64 L.keep] := rfl

set_option maxHeartbeats 4000000 in
theorem first_calls (L : Led) (q : Int) (w : World) (hL : LedR w L) (hok : L.Ok) (hsm : L.Small) :
    Calls Try.prog 22 #[.agg L.cells.toArray, .int .i64 q] w fun e w' => e = .returned (.int .i64 (L.firstOf q)) ∧ Below w.heap.size w w' := by
  obtain ⟨X, hX⟩ : ∃ X, X = (w.alloc (.cells L.cells.toArray 30)).alloc (.cells #[.int .i64 q] 3) := ⟨_, rfl⟩
  have hbX : Below w.heap.size w X := by rw [hX]; exact below_box (below_alloc _ _) _
  have hXs : X.heap.size = w.heap.size + 2 := by rw [hX]; simp
  have hbox : BoxL X w.heap.size L := by rw [hX]; exact (boxL_self w L 30).later (below_alloc _ _)
  have hq : X.cell? ⟨w.heap.size + 1, 0, none⟩ = some (.int .i64 q) := by rw [hX, World.cell?_alloc_at _ _ _ _ (by simp)]; rfl
  have HL := Lib.hid hL
  have HBX := Lib.hid hbX
  have HOK := Lib.hid hok
  have HSM := Lib.hid hsm
  have HBOX := Lib.hid hbox
  have HX := Lib.hid hX
  have HXS := Lib.hid hXs
  have c0 := hbox 0 _ rfl
  have c1 := hbox 1 _ rfl
  have c2 := hbox 2 _ rfl
  have c3 := hbox 3 _ rfl
  have c4 := hbox 4 _ rfl
  have c5 := hbox 5 _ rfl
  have c6 := hbox 6 _ rfl
  have c7 := hbox 7 _ rfl
  have c8 := hbox 8 _ rfl
  have c9 := hbox 9 _ rfl
  have c10 := hbox 10 _ rfl
  have c11 := hbox 11 _ rfl
  have c12 := hbox 12 _ rfl
  have c13 := hbox 13 _ rfl
  have c14 := hbox 14 _ rfl
  have c15 := hbox 15 _ rfl
  clear hX hbX hL hok hsm hbox hXs
  refine (callsIn_wide (n := 0)).1 ?_
  refine callsIn_of_wp_marks Try.func22 rfl trivial ?_
  simp only [Try.ntmps22, List.size_toArray, List.length_cons, List.length_nil, Nat.reduceAdd, Nat.reduceSub, Array.replicate_succ, Array.replicate_zero, List.push_toArray, List.append_toArray, List.nil_append, List.cons_append]
  have HHX := Lib.hid (show (w.alloc (.cells #[L.rv, .int .i64 (L.C 0), .int .i64 (L.C 1), .int .i64 (L.C 2), .int .i64 (L.C 3), .int .i64 (L.C 4), .int .i64 (L.C 5), .int .i64 (L.C 6), .int .i64 (L.C 7), L.ov, L.bv, .int .i64 L.sealed, .int .i64 L.decided, .bool L.dep, L.gv, .int .i64 L.keep] 30)).alloc (.cells #[.int .i64 q] 3) = X from HX.out.symm)
  rw [cells_led_all]
  by_cases hb : q < 0 ∨ 8 ≤ q
  · have HF := Lib.hid (show L.firstOf q = 0 by unfold Led.firstOf; rw [if_neg (by omega)])
    rcases hb with hb | hb
    · have d1 : decide (q < 0) = true := decide_eq_true hb
      clear hb
      gi_wp2_with fail
      refine ⟨.int .i64 0, ?_, by rw [HF.out], by rw [HHX.out]; exact HBX.out⟩
      simp [results, Try.results22, go_sem]
    · have d1 : decide (q < 0) = false := decide_eq_false (by omega)
      have d2 : decide (8 ≤ q) = true := decide_eq_true hb
      clear hb
      gi_wp2_with fail
      refine ⟨.int .i64 0, ?_, by rw [HF.out], by rw [HHX.out]; exact HBX.out⟩
      simp [results, Try.results22, go_sem]
  · obtain ⟨p, hp⟩ : ∃ p : Nat, q = p := ⟨q.toNat, by omega⟩
    have hp8 : p < 8 := by omega
    subst hp
    have d1 : decide ((p : Int) < 0) = false := decide_eq_false (by omega)
    have d2 : decide (8 ≤ (p : Int)) = false := decide_eq_false (by omega)
    have d3 : decide (8 ≤ p) = false := decide_eq_false (by omega)
    clear hb
    gi_wp2_with fail
    rw [HHX.out]
    refine (callsIn_wide.2 (pGood_calls L X (HL.out.below HBX.out (Nat.le_refl _)) HOK.out HSM.out)).mono ?_
    rintro e w1 ⟨rfl, hb1⟩
    have HB1 := Lib.hid (below_go HBX.out hb1)
    have HBOX1 := Lib.hid (HBOX.out.later hb1)
    have hq := cell_later hb1 hq
    clear hb1 c0 c1 c2 c3 c4 c5 c6 c7 c8 c9 c10 c11 c12 c13 c14 c15
    cases hg : L.good with
    | false =>
      have HF := Lib.hid (show L.firstOf p = 0 by unfold Led.firstOf; rw [if_neg (by rw [hg]; simp)])
      clear hg
      gi_wp2_with fail
      refine ⟨.int .i64 0, ?_, by rw [HF.out], HB1.out⟩
      simp [results, Try.results22, go_sem]
    | true =>
      have HF := Lib.hid (firstOf_good hg p hp8)
      have hgc := good_C hg HOK.out p hp8
      have HG := Lib.hid hg
      have cp := HBOX1.out (1 + p) _ (cells_C L p hp8)
      have c0 := HBOX1.out 0 _ rfl
      have c1 := HBOX1.out 1 _ rfl
      have c2 := HBOX1.out 2 _ rfl
      have c3 := HBOX1.out 3 _ rfl
      have c4 := HBOX1.out 4 _ rfl
      have c5 := HBOX1.out 5 _ rfl
      have c6 := HBOX1.out 6 _ rfl
      have c7 := HBOX1.out 7 _ rfl
      have c8 := HBOX1.out 8 _ rfl
      have c9 := HBOX1.out 9 _ rfl
      have c10 := HBOX1.out 10 _ rfl
      have c11 := HBOX1.out 11 _ rfl
      have c12 := HBOX1.out 12 _ rfl
      have c13 := HBOX1.out 13 _ rfl
      have c14 := HBOX1.out 14 _ rfl
      have c15 := HBOX1.out 15 _ rfl
      obtain ⟨Z, hZ⟩ : ∃ Z, Z = w1.alloc (.cells #[.int .i64 (L.C p)] 3) := ⟨_, rfl⟩
      have hbZ : Below w1.heap.size w1 Z := by rw [hZ]; exact below_alloc _ _
      have hZs : Z.heap.size = w1.heap.size + 1 := by rw [hZ]; simp
      have hn0 : Z.cell? ⟨w1.heap.size, 0, none⟩ = some (.int .i64 (L.C p)) := by rw [hZ]; exact box_self 0 _ rfl
      have hnf : Z.frozen? ⟨w1.heap.size, 0, none⟩ = false := by rw [hZ, World.frozen?_alloc_at _ _ _ _ rfl]
      have hlt1 : w.heap.size < w1.heap.size := HBOX1.out.lt
      have HQL := Lib.hid (World.block_lt_of_cell? _ _ hq)
      have HRECS := Lib.hid (records_calls L Z)
      have HBYX := Lib.hid (boxL_self Z L 30)
      have HZ := Lib.hid hZ
      have HBZ := Lib.hid hbZ
      have HZS := Lib.hid hZs
      have HN := Lib.hid (And.intro hn0 hnf)
      clear hg hZ hbZ hZs hn0 hnf
      gi_wp2_with fail
      rw [← HZ.out]
      refine HRECS.out.mono ?_
      rintro e w4 ⟨rfl, rfl⟩
      obtain ⟨Y, hY⟩ : ∃ Y, Y = Z.alloc (.cells L.cells.toArray 30) := ⟨_, rfl⟩
      rw [← hY] at HBYX ⊢
      have HBY := Lib.hid (show Below Z.heap.size Z Y from by rw [hY]; exact below_alloc _ _)
      have HB3Y := Lib.hid (below_go HBZ.out HBY.out)
      have HYQ := Lib.hid (cell_later HB3Y.out hq)
      have HYN := Lib.hid (And.intro (cell_later HBY.out HN.out.1) (frozen_later HBY.out HN.out.1 HN.out.2))
      have HYS := Lib.hid (show Y.heap.size = w1.heap.size + 2 by rw [hY]; simp; have := HZS.out; omega)
      clear hY c0 c1 c2 c3 c4 c5 c6 c7 c8 c9 c10 c11 c12 c13 c14 c15 cp hq
      gi_wp2_with fail
      refine range_w (gf := 71) (lb := #[.pointer (some ⟨Z.heap.size, 0, none⟩)]) rfl (fun args w => enter_of Try.func71 (by kernel_rfl) rfl args w)
        (fun k W => Only (fun j => j = w1.heap.size) Y W ∧ k ≤ L.all.length ∧ W.cell? ⟨w1.heap.size, 0, none⟩ = some (.int .i64 (L.C p - have_ (L.all.take k) p)) ∧ W.frozen? ⟨w1.heap.size, 0, none⟩ = false)
        (fun c W => False) (RStep L) (fun k => k = L.all.length) 0
        (fun s W W' hc h => ⟨h.1.calm (Nat.le_refl _) hc, h.2.1, hc.cell h.2.2.1, (hc.frozen h.2.2.1).trans h.2.2.2⟩) (fun c W W' hc h => h) ⟨Only.refl _ _, Nat.zero_le _, by simpa [have_zero] using HYN.out.1, HYN.out.2⟩ ?iter ?body ?done ?stop
      case iter =>
        intro l J' Jx' W hm _ hJJ hc hJ0 hy
        refine records1_iter L Z.heap.size l J' Jx' W HSM.out hm (fun s W h => ?_) hy hJ0
        have ho := (hJJ s W h).1
        have h3 := ho.below (B := w1.heap.size) (by have := HB3Y.out.size; omega) (fun j hj e => by omega)
        exact ⟨HL.out.below (below_go HB1.out (HB3Y.out.trans h3)) (Nat.le_refl _), fun j v hj => ho.cell (by have := HZS.out; omega) (HBYX.out j v hj)⟩
      case body =>
        intro l k args s' W hr hst hsz
        obtain ⟨hlt, rfl, rfl⟩ := hst
        have HR := Lib.hid hr
        have HSU := Lib.hid (have_succ L.all k hlt p)
        have hle := have_take_le L.all k p
        have hls := have_take_le L.all (k + 1) p
        clear hr
        generalize L.all[k] = R at *
        obtain ⟨rp, rs, rq, rkey, rval⟩ := R
        refine ⟨rfl, ?_⟩
        gi_wp2_with fail
        refine ⟨KeepsOthers.alloc _ _, fun W₂ hc => ?_⟩
        have hc0 : Calm Y.heap.size W W₂ := (Calm.of_below hsz (below_alloc _ _)).trans hc
        have b2 : W₂.cell? ⟨W.heap.size, 2, none⟩ = some (.int .i64 rq) := hc.cell (box_self 2 _ rfl)
        have HO2 := Lib.hid (HR.out.1.calm (Nat.le_refl _) hc0)
        have hn := hc0.cell HR.out.2.2.1
        have hf := (hc0.frozen HR.out.2.2.1).trans HR.out.2.2.2
        have hq2 := HO2.out.cell (by have h := HQL.out; show ¬ w.heap.size + 1 = w1.heap.size; exact Nat.ne_of_lt h) HYQ.out
        clear hc hc0
        by_cases he : rq = p
        · have e1 : (rq == (p : Int)) = true := beq_iff_eq.2 he
          rw [if_pos he] at HSU
          rw [HSU.out] at hls
          have HN2 := Lib.hid (And.intro hn hf)
          clear he
          gi_wp2_with fail
          refine ⟨KeepsOthers.setCell _ _ _, HO2.out.setCell ⟨w1.heap.size, 0, none⟩ _ (.inl rfl), hlt, ?_, by rw [World.frozen?_setCell]; exact HN2.out.2⟩
          rw [cell_set_same _ HN2.out.1, HSU.out]
          simp only [Option.some.injEq, Value.int.injEq, true_and]
          omega
        · have e1 : (rq == (p : Int)) = false := beq_eq_false_iff_ne.2 he
          rw [if_neg he] at HSU
          have HN2 := Lib.hid (And.intro hn hf)
          clear he
          gi_wp2_with fail
          exact ⟨KeepsOthers.refl _, HO2.out, hlt, by rw [HSU.out]; exact HN2.out.1, HN2.out.2⟩
      case done =>
        intro D s W hD hs hr hK
        subst hs
        have HO := Lib.hid (hr.1.below (B := w1.heap.size) (by have := HYS.out; omega) (fun j hj e => by omega))
        have hn := hr.2.2.1
        rw [List.take_length] at hn
        have HKD := Lib.hid hK
        clear hr hK
        gi_wp2_with fail
        refine ⟨by simp, .inl ⟨_, _, rfl, run_takeDeferred HKD.out, ?_⟩⟩
        have hcal := Calm.putObj (B := w.heap.size) (.deferred none) (by have := HYS.out; have h : w.heap.size + 1 < w1.heap.size := HQL.out; omega) HKD.out rfl
        refine ⟨.int .i64 (L.C p - have_ L.all p), ?_, by rw [HF.out], ?_⟩
        · simp [results, Try.results22, go_sem]
        exact (below_go HB1.out (HB3Y.out.trans HO.out)).trans hcal.below
      case stop =>
        intro D c W hD hr hK
        exact hr.elim
end Go.Proofs.Ytkabfjbmofpkdaa

/- Layer 14: what is fetched of a partition, as data; how the loop's world stands. -/
namespace Go.Proofs.Ytkabfjbmofpkdaa
open Go.RowKit Go.Shelf
set_option maxRecDepth 100000

/-- What is fetched. -/
def Led.fetchOf (L : Led) (q frm most : Int) : List Rec × Int × Int :=
  if L.good = false then ([], 0, 3) else if q < 0 ∨ 8 ≤ q ∨ most < 0 then ([], 0, 1) else if frm < L.firstOf q ∨ L.C q.toNat < frm then ([], 0, 8)
  else (((ofPart L.all q).drop (frm - L.firstOf q).toNat).take most.toNat, frm + (((ofPart L.all q).drop (frm - L.firstOf q).toNat).take most.toNat).length, 0)
def outAt (rs : List Rec) (q : Int) (d k : Nat) : List Rec := (ofPart (rs.take k) q).drop d
theorem outAt_zero (rs : List Rec) (q : Int) (d : Nat) : outAt rs q d 0 = [] := by simp [outAt, ofPart]
theorem outAt_miss (rs : List Rec) (q : Int) (d k : Nat) (hk : k < rs.length) (h : rs[k].q ≠ q) : outAt rs q d (k + 1) = outAt rs q d k := by
  unfold outAt
  rw [ofPart_succ rs k hk, if_neg h, List.append_nil]
theorem outAt_skip (rs : List Rec) (q : Int) (d k : Nat) (hk : k < rs.length) (h : rs[k].q = q) (hd : have_ (rs.take k) q < d) : outAt rs q d (k + 1) = outAt rs q d k := by
  unfold outAt
  rw [ofPart_succ rs k hk, if_pos h]
  unfold have_ at hd
  rw [List.drop_eq_nil_of_le (by simp; omega), List.drop_eq_nil_of_le (by omega)]
theorem outAt_push (rs : List Rec) (q : Int) (d k : Nat) (hk : k < rs.length) (h : rs[k].q = q) (hd : d ≤ have_ (rs.take k) q) : outAt rs q d (k + 1) = outAt rs q d k ++ [rs[k]] := by
  unfold outAt
  rw [ofPart_succ rs k hk, if_pos h, List.drop_append_of_le_length hd]
theorem outAt_le (rs : List Rec) (q : Int) (d k : Nat) : (outAt rs q d k).length ≤ rs.length := by
  unfold outAt
  have := ofPart_le rs k q
  have h2 := have_take_le rs k q
  unfold have_ at h2
  have h3 : (ofPart rs q).length ≤ rs.length := List.length_filter_le _ _
  rw [List.length_drop]
  omega
theorem outAt_pre (rs : List Rec) (q : Int) (d k : Nat) : ∃ t, (ofPart rs q).drop d = outAt rs q d k ++ t := by
  have e : ofPart rs q = ofPart (rs.take k) q ++ ofPart (rs.drop k) q := by unfold ofPart; rw [← List.filter_append, List.take_append_drop]
  unfold outAt
  rw [e, List.drop_append]
  exact ⟨_, rfl⟩
theorem outAt_full (rs : List Rec) (q : Int) (d k m : Nat) (h : (outAt rs q d k).length = m) : ((ofPart rs q).drop d).take m = outAt rs q d k := by
  obtain ⟨t, ht⟩ := outAt_pre rs q d k
  rw [ht, ← h, List.take_left]
theorem outAt_end (rs : List Rec) (q : Int) (d m : Nat) (h : (outAt rs q d rs.length).length ≤ m) : ((ofPart rs q).drop d).take m = outAt rs q d rs.length := by
  unfold outAt at h ⊢
  rw [List.take_length] at h ⊢
  exact List.take_of_length_le h

/-- The loop of Fetch, behind k records. -/
structure FRel (Y W : World) (bo ba : Nat) (q F : Int) (d m : Nat) (rs : List Rec) (k : Nat) (v : Value) : Prop where
  only : Only (fun j => j = bo ∨ j = ba) Y W
  le : k ≤ rs.length
  co : W.cell? ⟨bo, 0, none⟩ = some v
  fo : W.frozen? ⟨bo, 0, none⟩ = false
  ca : W.cell? ⟨ba, 0, none⟩ = some (.int .i64 (F + have_ (rs.take k) q))
  fa : W.frozen? ⟨ba, 0, none⟩ = false
  own : W.ownsRow Y.heap.size 33 5 v (outAt rs q d k).length (flatF Rec.cells (outAt rs q d k))
  len : (outAt rs q d k).length ≤ m
variable {Y W W' w8 : World} {bo ba : Nat} {q F : Int} {d m : Nat} {rs : List Rec} {k : Nat} {v v' : Value}
theorem FRel.calm (h : FRel Y W bo ba q F d m rs k v) (hc : Calm Y.heap.size W W') : FRel Y W' bo ba q F d m rs k v :=
  ⟨h.only.calm (Nat.le_refl _) hc, h.le, hc.cell h.co, (hc.frozen h.co).trans h.fo, hc.cell h.ca, (hc.frozen h.ca).trans h.fa, ownsRow_calm h.own hc, h.len⟩
theorem FRel.miss (h : FRel Y W bo ba q F d m rs k v) (hk : k < rs.length) (hq : rs[k].q ≠ q) : FRel Y W bo ba q F d m rs (k + 1) v := by
  have e : have_ (rs.take (k + 1)) q = have_ (rs.take k) q := by rw [have_succ rs k hk, if_neg hq]; rfl
  exact ⟨h.only, hk, h.co, h.fo, by rw [e]; exact h.ca, h.fa, by rw [outAt_miss rs q d k hk hq]; exact h.own, by rw [outAt_miss rs q d k hk hq]; exact h.len⟩
theorem own_ne {w : World} {base : Nat} {e : TypeId} {sz n : Nat} {v : Value} {xs : List Value} (h : w.ownsRow base e sz v n xs) {b : Nat} (hb : b < base) : v.ownBlock ≠ some b := fun he => by
  have := (World.ownsRow.lt h b he).1
  omega
theorem FRel.skip (h : FRel Y W bo ba q F d m rs k v) (hk : k < rs.length) (hq : rs[k].q = q) (hd : have_ (rs.take k) q < d) (hba : ba < Y.heap.size) (hne : bo ≠ ba) :
    FRel Y (W.setCell ⟨ba, 0, none⟩ (.int .i64 (F + have_ (rs.take k) q + 1))) bo ba q F d m rs (k + 1) v := by
  have e : have_ (rs.take (k + 1)) q = have_ (rs.take k) q + 1 := by rw [have_succ rs k hk, if_pos hq]
  have eo := outAt_skip rs q d k hk hq hd
  refine ⟨h.only.setCell ⟨ba, 0, none⟩ _ (.inl (.inr rfl)), hk, by rw [cell_set_block _ hne]; exact h.co, by rw [World.frozen?_setCell]; exact h.fo, ?_, by rw [World.frozen?_setCell]; exact h.fa, ?_, by rw [eo]; exact h.len⟩
  · rw [cell_set_same _ h.ca, e]
    simp only [Option.some.injEq, Value.int.injEq, true_and]
    omega
  · rw [eo]
    exact ownsRow_set h.own ⟨ba, 0, none⟩ _ hba
theorem FRel.push (h : FRel Y W bo ba q F d m rs k v) (hk : k < rs.length) (hq : rs[k].q = q) (hd : d ≤ have_ (rs.take k) q) (hm : (outAt rs q d k).length < m) (o : Obj)
    (ho : w8.ownsRow Y.heap.size 33 5 v' ((outAt rs q d k).length + 1) (flatF Rec.cells (outAt rs q d k) ++ flatF Rec.cells [rs[k]])) (hg : (W.alloc o).grownBy w8 v.ownBlock) (hbo : bo < Y.heap.size) (hba : ba < Y.heap.size) (hne : bo ≠ ba) :
    (w8.cell? ⟨bo, 0, none⟩ = some v ∧ w8.frozen? ⟨bo, 0, none⟩ = false ∧ w8.cell? ⟨ba, 0, none⟩ = some (.int .i64 (F + have_ (rs.take k) q)) ∧ w8.frozen? ⟨ba, 0, none⟩ = false) ∧
    FRel Y ((w8.setCell ⟨bo, 0, none⟩ v').setCell ⟨ba, 0, none⟩ (.int .i64 (F + have_ (rs.take k) q + 1))) bo ba q F d m rs (k + 1) v' ∧
    KeepsOthers W ((w8.setCell ⟨bo, 0, none⟩ v').setCell ⟨ba, 0, none⟩ (.int .i64 (F + have_ (rs.take k) q + 1))) := by
  have e : have_ (rs.take (k + 1)) q = have_ (rs.take k) q + 1 := by rw [have_succ rs k hk, if_pos hq]
  have eo := outAt_push rs q d k hk hq hd
  have h8 : Only (fun j => v.ownBlock = some j) W w8 := ((Only.refl _ W).alloc o).trans (Only.of_grown hg) (fun j _ h => h)
  have hbl : bo < W.heap.size := Nat.lt_of_lt_of_le hbo h.only.size
  have hal : ba < W.heap.size := Nat.lt_of_lt_of_le hba h.only.size
  have c1 := h8.cell (own_ne h.own hbo) h.co
  have c2 := (h8.frozen (o := 0) hbl (own_ne h.own hbo)).trans h.fo
  have c3 := h8.cell (own_ne h.own hba) h.ca
  have c4 := (h8.frozen (o := 0) hal (own_ne h.own hba)).trans h.fa
  refine ⟨⟨c1, c2, c3, c4⟩, ⟨?_, hk, ?_, ?_, ?_, ?_, ?_, ?_⟩, ?_⟩
  · refine Only.setCell (Only.setCell (h.only.trans h8 (fun j hj hs => ?_)) ⟨bo, 0, none⟩ _ (.inl (.inl rfl))) ⟨ba, 0, none⟩ _ (.inl (.inr rfl))
    have := (World.ownsRow.lt h.own j hs).1
    omega
  · rw [cell_set_block _ hne, cell_set_same _ c1]
  · rw [World.frozen?_setCell, World.frozen?_setCell]; exact c2
  · rw [cell_set_same _ (by rw [cell_set_block _ (Ne.symm hne)]; exact c3), e]
    simp only [Option.some.injEq, Value.int.injEq, true_and]
    omega
  · rw [World.frozen?_setCell, World.frozen?_setCell]; exact c4
  · rw [eo, List.length_append, flatF_append]
    exact ownsRow_set (ownsRow_set ho ⟨bo, 0, none⟩ _ hbo) ⟨ba, 0, none⟩ _ hba
  · rw [eo, List.length_append]
    simp only [List.length_cons, List.length_nil]
    omega
  · exact ((KeepsOthers.alloc W o).trans (KeepsOthers.of_grownBy hg (own_cells (h.own.alloc o)))).trans ((KeepsOthers.setCell _ _ _).trans (KeepsOthers.setCell _ _ _))
/-- The same, with names for what is read. -/
theorem FRel.push' (h : FRel Y W bo ba q F d m rs k v) (hk : k < rs.length) {R : Rec} (hR : rs[k] = R) (hq : R.q = q) {H n : Nat} (hH : H = have_ (rs.take k) q) (hn : n = (outAt rs q d k).length) (hd : d ≤ H) (hm : n < m) (o : Obj)
    (ho : w8.ownsRow Y.heap.size 33 5 v' (n + 1) (flatF Rec.cells (outAt rs q d k) ++ flatF Rec.cells [R])) (hg : (W.alloc o).grownBy w8 v.ownBlock) (hbo : bo < Y.heap.size) (hba : ba < Y.heap.size) (hne : bo ≠ ba) :
    (w8.cell? ⟨bo, 0, none⟩ = some v ∧ w8.frozen? ⟨bo, 0, none⟩ = false ∧ w8.cell? ⟨ba, 0, none⟩ = some (.int .i64 (F + H)) ∧ w8.frozen? ⟨ba, 0, none⟩ = false) ∧
    FRel Y ((w8.setCell ⟨bo, 0, none⟩ v').setCell ⟨ba, 0, none⟩ (.int .i64 (F + H + 1))) bo ba q F d m rs (k + 1) v' ∧
    KeepsOthers W ((w8.setCell ⟨bo, 0, none⟩ v').setCell ⟨ba, 0, none⟩ (.int .i64 (F + H + 1))) := by
  subst hR hH hn
  exact h.push hk hq hd hm o ho hg hbo hba hne
end Go.Proofs.Ytkabfjbmofpkdaa

/- Layer 14: Fetch, walked. -/
namespace Go.Proofs.Ytkabfjbmofpkdaa
open Go.RowKit Go.Shelf
set_option maxRecDepth 100000
attribute [local go_sem] Oper.semAt_some

set_option maxHeartbeats 8000000 in
theorem fetch_calls (L : Led) (q frm most : Int) (w : World) (hL : LedR w L) (hok : L.Ok) (hsm : L.Small) (hfr : I64 frm) (hms : I64 most) :
    Calls Try.prog 23 #[.agg L.cells.toArray, .int .i64 q, .int .i64 frm, .int .i64 most] w fun e w' => ∃ v, e = .returned (.tuple #[v, .int .i64 (L.fetchOf q frm most).2.1, .int .i64 (L.fetchOf q frm most).2.2]) ∧
      w'.ownsRow w.heap.size 33 5 v (L.fetchOf q frm most).1.length (flatF Rec.cells (L.fetchOf q frm most).1) ∧ Below w.heap.size w w' := by
  obtain ⟨X, hX⟩ : ∃ X, X = (((w.alloc (.cells L.cells.toArray 30)).alloc (.cells #[.int .i64 q] 3)).alloc (.cells #[.int .i64 frm] 3)).alloc (.cells #[.int .i64 most] 3) := ⟨_, rfl⟩
  have hbX : Below w.heap.size w X := by rw [hX]; exact below_box (below_box (below_box (below_alloc _ _) _) _) _
  have hXs : X.heap.size = w.heap.size + 4 := by rw [hX]; simp
  have hbox : BoxL X w.heap.size L := by rw [hX]; exact (((boxL_self w L 30).later (below_alloc _ _)).later (below_alloc _ _)).later (below_alloc _ _)
  have hq : X.cell? ⟨w.heap.size + 1, 0, none⟩ = some (.int .i64 q) := by
    rw [hX, World.cell?_alloc_past _ _ _ (by simp <;> omega), World.cell?_alloc_past _ _ _ (by simp <;> omega), World.cell?_alloc_at _ _ _ _ (by simp)]; rfl
  have hf : X.cell? ⟨w.heap.size + 2, 0, none⟩ = some (.int .i64 frm) := by
    rw [hX, World.cell?_alloc_past _ _ _ (by simp <;> omega), World.cell?_alloc_at _ _ _ _ (by simp)]; rfl
  have hm : X.cell? ⟨w.heap.size + 3, 0, none⟩ = some (.int .i64 most) := by
    rw [hX, World.cell?_alloc_at _ _ _ _ (by simp)]; rfl
  have HL := Lib.hid hL
  have HBX := Lib.hid hbX
  have HOK := Lib.hid hok
  have HSM := Lib.hid hsm
  have HBOX := Lib.hid hbox
  have HX := Lib.hid hX
  have HXS := Lib.hid hXs
  have HFR := Lib.hid hfr
  have HMS := Lib.hid hms
  have HIN := Lib.hid (And.intro hq (And.intro hf hm))
  have c0 := hbox 0 _ rfl
  have c1 := hbox 1 _ rfl
  have c2 := hbox 2 _ rfl
  have c3 := hbox 3 _ rfl
  have c4 := hbox 4 _ rfl
  have c5 := hbox 5 _ rfl
  have c6 := hbox 6 _ rfl
  have c7 := hbox 7 _ rfl
  have c8 := hbox 8 _ rfl
  have c9 := hbox 9 _ rfl
  have c10 := hbox 10 _ rfl
  have c11 := hbox 11 _ rfl
  have c12 := hbox 12 _ rfl
  have c13 := hbox 13 _ rfl
  have c14 := hbox 14 _ rfl
  have c15 := hbox 15 _ rfl
  clear hX hbX hL hok hsm hbox hXs hfr hms hq hf hm
  refine (callsIn_wide (n := 0)).1 ?_
  refine callsIn_of_wp_marks Try.func23 rfl trivial ?_
  simp only [Try.ntmps23, List.size_toArray, List.length_cons, List.length_nil, Nat.reduceAdd, Nat.reduceSub, Array.replicate_succ, Array.replicate_zero, List.push_toArray, List.append_toArray, List.nil_append, List.cons_append]
  have HHX := Lib.hid (show (((w.alloc (.cells #[L.rv, .int .i64 (L.C 0), .int .i64 (L.C 1), .int .i64 (L.C 2), .int .i64 (L.C 3), .int .i64 (L.C 4), .int .i64 (L.C 5), .int .i64 (L.C 6), .int .i64 (L.C 7), L.ov, L.bv, .int .i64 L.sealed, .int .i64 L.decided, .bool L.dep, L.gv, .int .i64 L.keep] 30)).alloc (.cells #[.int .i64 q] 3)).alloc (.cells #[.int .i64 frm] 3)).alloc (.cells #[.int .i64 most] 3) = X from HX.out.symm)
  rw [cells_led_all]
  gi_wp2_with fail
  rw [HHX.out]
  refine (callsIn_wide.2 (pGood_calls L X (HL.out.below HBX.out (Nat.le_refl _)) HOK.out HSM.out)).mono ?_
  rintro e w1 ⟨rfl, hb1⟩
  have HB1 := Lib.hid (below_go HBX.out hb1)
  have HBOX1 := Lib.hid (HBOX.out.later hb1)
  have h1q := cell_later hb1 HIN.out.1
  have h1f := cell_later hb1 HIN.out.2.1
  have h1m := cell_later hb1 HIN.out.2.2
  have HIN1 := Lib.hid (And.intro h1q (And.intro h1f h1m))
  clear hb1 c0 c1 c2 c3 c4 c5 c6 c7 c8 c9 c10 c11 c12 c13 c14 c15
  cases hg : L.good with
  | false =>
    have HF := Lib.hid (show L.fetchOf q frm most = ([], 0, 3) by unfold Led.fetchOf; rw [if_pos hg])
    clear hg
    gi_wp2_with fail
    refine ⟨.tuple #[.slice none 0 0, .int .i64 0, .int .i64 3], ?_, .slice none 0 0, by rw [HF.out], by rw [HF.out]; exact World.ownsRow_nil _ _ _ _, HB1.out⟩
    simp [results, Try.results23, go_sem]
  | true =>
    have HG := Lib.hid hg
    clear hg
    by_cases hbad : q < 0 ∨ 8 ≤ q ∨ most < 0
    · have HF := Lib.hid (show L.fetchOf q frm most = ([], 0, 1) by unfold Led.fetchOf; rw [if_neg (by simp [HG.out]), if_pos hbad])
      have hways : decide (q < 0) = true ∨ (decide (q < 0) = false ∧ decide (8 ≤ q) = true) ∨ (decide (q < 0) = false ∧ decide (8 ≤ q) = false ∧ decide (most < 0) = true) := by
        simp only [decide_eq_true_eq, decide_eq_false_iff_not]
        omega
      clear hbad
      rcases hways with d1 | ⟨d1, d2⟩ | ⟨d1, d2, d3⟩
      all_goals
        gi_wp2_with fail
        refine ⟨.tuple #[.slice none 0 0, .int .i64 0, .int .i64 1], ?_, .slice none 0 0, by rw [HF.out], by rw [HF.out]; exact World.ownsRow_nil _ _ _ _, HB1.out⟩
        simp [results, Try.results23, go_sem]
    · obtain ⟨p, hp⟩ : ∃ p : Nat, q = p := ⟨q.toNat, by omega⟩
      obtain ⟨m, hm⟩ : ∃ m : Nat, most = m := ⟨most.toNat, by omega⟩
      have hp8 : p < 8 := by omega
      subst hp
      subst hm
      have hp8i : (p : Int) < 8 := by omega
      have d1 : decide ((p : Int) < 0) = false := decide_eq_false (by omega)
      have d2 : decide (8 ≤ (p : Int)) = false := decide_eq_false (by omega)
      have d2' : decide (8 ≤ p) = false := decide_eq_false (by omega)
      have d3 : decide ((m : Int) < 0) = false := decide_eq_false (by omega)
      have HF1 := Lib.hid (firstOf_good HG.out p hp8)
      have HGC := Lib.hid (good_C HG.out HOK.out p hp8)
      have HFE := Lib.hid (show L.fetchOf p frm m = if frm < L.firstOf p ∨ L.C p < frm then ([], 0, 8) else (((ofPart L.all p).drop (frm - L.firstOf p).toNat).take m, frm + (((ofPart L.all p).drop (frm - L.firstOf p).toNat).take m).length, 0) by
        unfold Led.fetchOf; rw [if_neg (by simp [HG.out]), if_neg hbad]; rfl)
      clear hbad
      have hcp := HBOX1.out (1 + p) _ (cells_C L p hp8)
      have HCP := Lib.hid hcp
      obtain ⟨F, hF⟩ : ∃ F, F = L.firstOf p := ⟨_, rfl⟩
      rw [← hF] at HF1 HFE
      have HFF := Lib.hid hF
      clear hF
      have hnf0 : 0 ≤ F := by have := HF1.out; have := HGC.out.1; omega
      by_cases hr : frm < F ∨ L.C p < frm
      · have HF := Lib.hid (show L.fetchOf p frm m = ([], 0, 8) by rw [HFE.out, if_pos hr])
        have hways : decide (frm < F) = true ∨ (decide (frm < F) = false ∧ decide (L.C p < frm) = true) := by
          simp only [decide_eq_true_eq, decide_eq_false_iff_not]
          omega
        clear hr
        rcases hways with d4 | ⟨d4, d5⟩
        all_goals
          gi_wp2_with fail
          refine region_mi [(0, false), (1, false), (2, false), (3, true), (4, false), (5, false), (6, false), (7, false), (8, false), (9, false), (10, false), (11, false), (12, false)] 13 (fun V => V.cell? ⟨w.heap.size + 1, 0, none⟩ = some (.int .i64 p) ∧ V.cell? ⟨w.heap.size + 2, 0, none⟩ = some (.int .i64 frm) ∧ V.rangeAt w.heap.size 0 L.cells ∧ V.cell? ⟨w.heap.size, 1 + p, none⟩ = some (.int .i64 (L.C p))) (by kernel_rfl) (by kernel_rfl) ⟨HIN1.out.1, HIN1.out.2.1, HBOX1.out.range, HCP.out⟩ ?_
          iterate 1
            first
            | (refine m_take (v := ?_) rfl rfl ?_ ?_
               rotate_left
               · intro W hW
                 go_simp
                 with_reducible rfl
               simp only [Act.put, List.setIfInBounds_toArray, List.set_cons_zero, List.set_cons_succ])
            | (refine m_skip rfl rfl ?_
               simp only [Act.put, List.setIfInBounds_toArray, List.set_cons_zero, List.set_cons_succ])
          refine m_loadk rfl rfl rfl rfl (fun W hW => hW.2.2.1) Try.underlying30 rfl (by show _ = some 16; kernel_rfl) ?_
          simp only [Act.put, List.setIfInBounds_toArray, List.set_cons_zero, List.set_cons_succ]
          iterate 1
            first
            | (refine m_take (v := ?_) rfl rfl ?_ ?_
               rotate_left
               · intro W hW
                 go_simp
                 with_reducible rfl
               simp only [Act.put, List.setIfInBounds_toArray, List.set_cons_zero, List.set_cons_succ])
            | (refine m_skip rfl rfl ?_
               simp only [Act.put, List.setIfInBounds_toArray, List.set_cons_zero, List.set_cons_succ])
          refine m_loud rfl (fun K hK => ?_)
          have HK := Lib.hid hK
          clear hK
          go_simp
          have hdr := (Below.refl w1.heap.size w1).drew
          refine (first_calls L p _ (HL.out.below (below_go HB1.out hdr) (Nat.le_refl _)) HOK.out HSM.out).mono ?_
          rintro e w2 ⟨rfl, hb2⟩
          have hb2 := hdr.trans hb2
          rw [← HFF.out]
          have HB2 := Lib.hid (below_go HB1.out hb2)
          have HD2 := Lib.hid hb2
          refine HK.out _ _ ⟨cell_later HD2.out HIN1.out.1, cell_later HD2.out HIN1.out.2.1, (HBOX1.out.later HD2.out).range, cell_later HD2.out HCP.out⟩ ?_
          clear HK
          clear hb2
          iterate 9
            first
            | (refine m_take (v := ?_) rfl rfl ?_ ?_
               rotate_left
               · intro W hW
                 go_simp
                 with_reducible rfl
               simp only [Act.put, List.setIfInBounds_toArray, List.set_cons_zero, List.set_cons_succ])
            | (refine m_skip rfl rfl ?_
               simp only [Act.put, List.setIfInBounds_toArray, List.set_cons_zero, List.set_cons_succ])
          refine m_done ?_
          simp only [List.drop_succ_cons, List.drop_zero]
          go_wp2_with fail
          simp only [NP]
          gi_wp2_with fail
          refine ⟨.tuple #[.slice none 0 0, .int .i64 0, .int .i64 8], ?_, .slice none 0 0, by rw [HF.out], by rw [HF.out]; exact World.ownsRow_nil _ _ _ _, HB2.out⟩
          simp [results, Try.results23, go_sem]
      · have d4 : decide (frm < F) = false := decide_eq_false (by omega)
        have d5 : decide (L.C p < frm) = false := decide_eq_false (by omega)
        obtain ⟨d, hd⟩ : ∃ d, d = (frm - F).toNat := ⟨_, rfl⟩
        have hfd : frm = F + d := by omega
        rw [if_neg hr, ← hd] at HFE
        have HFD := Lib.hid hfd
        clear hr hd hfd
        gi_wp2_with fail
        refine region_mi [(0, false), (1, false), (2, false), (3, true), (4, false), (5, false), (6, false), (7, false), (8, false), (9, false), (10, false), (11, false), (12, false)] 13 (fun V => V.cell? ⟨w.heap.size + 1, 0, none⟩ = some (.int .i64 p) ∧ V.cell? ⟨w.heap.size + 2, 0, none⟩ = some (.int .i64 frm) ∧ V.rangeAt w.heap.size 0 L.cells ∧ V.cell? ⟨w.heap.size, 1 + p, none⟩ = some (.int .i64 (L.C p))) (by kernel_rfl) (by kernel_rfl) ⟨HIN1.out.1, HIN1.out.2.1, HBOX1.out.range, HCP.out⟩ ?_
        iterate 1
          first
          | (refine m_take (v := ?_) rfl rfl ?_ ?_
             rotate_left
             · intro W hW
               go_simp
               with_reducible rfl
             simp only [Act.put, List.setIfInBounds_toArray, List.set_cons_zero, List.set_cons_succ])
          | (refine m_skip rfl rfl ?_
             simp only [Act.put, List.setIfInBounds_toArray, List.set_cons_zero, List.set_cons_succ])
        refine m_loadk rfl rfl rfl rfl (fun W hW => hW.2.2.1) Try.underlying30 rfl (by show _ = some 16; kernel_rfl) ?_
        simp only [Act.put, List.setIfInBounds_toArray, List.set_cons_zero, List.set_cons_succ]
        iterate 1
          first
          | (refine m_take (v := ?_) rfl rfl ?_ ?_
             rotate_left
             · intro W hW
               go_simp
               with_reducible rfl
             simp only [Act.put, List.setIfInBounds_toArray, List.set_cons_zero, List.set_cons_succ])
          | (refine m_skip rfl rfl ?_
             simp only [Act.put, List.setIfInBounds_toArray, List.set_cons_zero, List.set_cons_succ])
        refine m_loud rfl (fun K hK => ?_)
        have HK := Lib.hid hK
        clear hK
        go_simp
        have hdr := (Below.refl w1.heap.size w1).drew
        refine (first_calls L p _ (HL.out.below (below_go HB1.out hdr) (Nat.le_refl _)) HOK.out HSM.out).mono ?_
        rintro e w2 ⟨rfl, hb2⟩
        have hb2 := hdr.trans hb2
        rw [← HFF.out]
        have HB2 := Lib.hid (below_go HB1.out hb2)
        have HD2 := Lib.hid hb2
        refine HK.out _ _ ⟨cell_later HD2.out HIN1.out.1, cell_later HD2.out HIN1.out.2.1, (HBOX1.out.later HD2.out).range, cell_later HD2.out HCP.out⟩ ?_
        clear HK
        clear hb2 hdr
        iterate 9
          first
          | (refine m_take (v := ?_) rfl rfl ?_ ?_
             rotate_left
             · intro W hW
               go_simp
               with_reducible rfl
             simp only [Act.put, List.setIfInBounds_toArray, List.set_cons_zero, List.set_cons_succ])
          | (refine m_skip rfl rfl ?_
             simp only [Act.put, List.setIfInBounds_toArray, List.set_cons_zero, List.set_cons_succ])
        refine m_done ?_
        simp only [List.drop_succ_cons, List.drop_zero]
        go_wp2_with fail
        simp only [NP]
        obtain ⟨V1, hV1⟩ : ∃ V1, V1 = w2.alloc (.cells #[.slice none 0 0] 24) := ⟨_, rfl⟩
        have hbV : Below w2.heap.size w2 V1 := by rw [hV1]; exact below_alloc _ _
        have hVs : V1.heap.size = w2.heap.size + 1 := by rw [hV1]; simp
        have hv0 : V1.cell? ⟨w2.heap.size, 0, none⟩ = some (.slice none 0 0) := by rw [hV1]; exact box_self 0 _ rfl
        have hvf : V1.frozen? ⟨w2.heap.size, 0, none⟩ = false := by rw [hV1, World.frozen?_alloc_at _ _ _ _ rfl]
        have HBOX2 := Lib.hid (HBOX1.out.later HD2.out)
        have hlt1 : w.heap.size + 3 < w2.heap.size := by have h : w.heap.size + 3 < w1.heap.size := World.block_lt_of_cell? _ _ HIN1.out.2.2; have := HD2.out.size; omega
        have hlt10 : w.heap.size < w2.heap.size := by omega
        have hlt11 : w.heap.size + 1 < w2.heap.size := by omega
        have c0 := HBOX2.out 0 _ rfl
        have c1 := HBOX2.out 1 _ rfl
        have c2 := HBOX2.out 2 _ rfl
        have c3 := HBOX2.out 3 _ rfl
        have c4 := HBOX2.out 4 _ rfl
        have c5 := HBOX2.out 5 _ rfl
        have c6 := HBOX2.out 6 _ rfl
        have c7 := HBOX2.out 7 _ rfl
        have c8 := HBOX2.out 8 _ rfl
        have c9 := HBOX2.out 9 _ rfl
        have c10 := HBOX2.out 10 _ rfl
        have c11 := HBOX2.out 11 _ rfl
        have c12 := HBOX2.out 12 _ rfl
        have c13 := HBOX2.out 13 _ rfl
        have c14 := HBOX2.out 14 _ rfl
        have c15 := HBOX2.out 15 _ rfl
        have h2q := cell_later HD2.out HIN1.out.1
        have HV1 := Lib.hid hV1
        have HBV := Lib.hid hbV
        have HVS := Lib.hid hVs
        have HV0 := Lib.hid (And.intro hv0 hvf)
        clear hV1 hbV hVs hv0 hvf h1q h1f h1m hcp
        gi_wp2_with fail
        rw [← HV1.out]
        refine (callsIn_wide.2 (first_calls L p V1 (HL.out.below (below_go HB2.out HBV.out) (Nat.le_refl _)) HOK.out HSM.out)).mono ?_
        rintro e w3 ⟨rfl, hb3⟩
        rw [← HFF.out]
        have HD3 := Lib.hid (below_go HBV.out hb3)
        have HB3 := Lib.hid (below_go HB2.out HD3.out)
        have HV3 := Lib.hid (And.intro (cell_later hb3 HV0.out.1) (frozen_later hb3 HV0.out.1 HV0.out.2))
        have HW3 := Lib.hid hb3.size
        clear hb3 c0 c1 c2 c3 c4 c5 c6 c7 c8 c9 c10 c11 c12 c13 c14 c15 h2q hlt10 hlt11
        obtain ⟨Z, hZ⟩ : ∃ Z, Z = w3.alloc (.cells #[.int .i64 F] 3) := ⟨_, rfl⟩
        have hbZ : Below w3.heap.size w3 Z := by rw [hZ]; exact below_alloc _ _
        have hZs : Z.heap.size = w3.heap.size + 1 := by rw [hZ]; simp
        have hz0 : Z.cell? ⟨w3.heap.size, 0, none⟩ = some (.int .i64 F) := by rw [hZ]; exact box_self 0 _ rfl
        have hzf : Z.frozen? ⟨w3.heap.size, 0, none⟩ = false := by rw [hZ, World.frozen?_alloc_at _ _ _ _ rfl]
        have HRECS := Lib.hid (records_calls L Z)
        have HBYX := Lib.hid (boxL_self Z L 30)
        have HBOX3 := Lib.hid (HBOX2.out.later HD3.out)
        have hlt3 : w.heap.size + 3 < w3.heap.size := by have := HD3.out.size; omega
        have hlt30 : w.heap.size < w3.heap.size := by omega
        have c0 := HBOX3.out 0 _ rfl
        have c1 := HBOX3.out 1 _ rfl
        have c2 := HBOX3.out 2 _ rfl
        have c3 := HBOX3.out 3 _ rfl
        have c4 := HBOX3.out 4 _ rfl
        have c5 := HBOX3.out 5 _ rfl
        have c6 := HBOX3.out 6 _ rfl
        have c7 := HBOX3.out 7 _ rfl
        have c8 := HBOX3.out 8 _ rfl
        have c9 := HBOX3.out 9 _ rfl
        have c10 := HBOX3.out 10 _ rfl
        have c11 := HBOX3.out 11 _ rfl
        have c12 := HBOX3.out 12 _ rfl
        have c13 := HBOX3.out 13 _ rfl
        have c14 := HBOX3.out 14 _ rfl
        have c15 := HBOX3.out 15 _ rfl
        have HZ := Lib.hid hZ
        have HBZ := Lib.hid hbZ
        have HZS := Lib.hid hZs
        have HZ0 := Lib.hid (And.intro hz0 hzf)
        clear hZ hbZ hZs hz0 hzf
        gi_wp2_with fail
        rw [← HZ.out]
        refine HRECS.out.mono ?_
        rintro e w4 ⟨rfl, rfl⟩
        obtain ⟨Y, hY⟩ : ∃ Y, Y = Z.alloc (.cells L.cells.toArray 30) := ⟨_, rfl⟩
        rw [← hY] at HBYX ⊢
        have HBY := Lib.hid (show Below Z.heap.size Z Y from by rw [hY]; exact below_alloc _ _)
        have HD4 := Lib.hid (below_go HBZ.out HBY.out)
        have HB4 := Lib.hid (below_go HB3.out HD4.out)
        have HYS := Lib.hid (show Y.heap.size = w3.heap.size + 2 by rw [hY]; simp; have := HZS.out; omega)
        have HIN4 := Lib.hid (And.intro (cell_later (below_go HD3.out HD4.out) (cell_later HD2.out HIN1.out.1)) (And.intro (cell_later (below_go HD3.out HD4.out) (cell_later HD2.out HIN1.out.2.1)) (cell_later (below_go HD3.out HD4.out) (cell_later HD2.out HIN1.out.2.2))))
        have HR0 := Lib.hid (show FRel Y Y w2.heap.size w3.heap.size p F d m L.all 0 (.slice none 0 0) from
          ⟨Only.refl _ _, Nat.zero_le _, cell_later HD4.out HV3.out.1, frozen_later HD4.out HV3.out.1 HV3.out.2, by rw [List.take_zero, have_zero]; simpa using cell_later HBY.out HZ0.out.1, frozen_later HBY.out HZ0.out.1 HZ0.out.2, by rw [outAt_zero]; exact World.ownsRow_nil _ _ _ _, by rw [outAt_zero]; exact Nat.zero_le _⟩)
        have HLT := Lib.hid hlt1
        have HLT3 := Lib.hid (show w2.heap.size < w3.heap.size by have := HW3.out; have := HVS.out; omega)
        clear hY c0 c1 c2 c3 c4 c5 c6 c7 c8 c9 c10 c11 c12 c13 c14 c15 hlt1 hlt3 hlt30
        gi_wp2_with fail
        refine range_w (gf := 71) (lb := #[.pointer (some ⟨Z.heap.size, 0, none⟩)]) rfl (fun args w => enter_of Try.func71 (by kernel_rfl) rfl args w)
          (fun k W => ∃ v, FRel Y W w2.heap.size w3.heap.size p F d m L.all k v)
          (fun c W => c = .exit 1 ∧ ∃ k v, FRel Y W w2.heap.size w3.heap.size p F d m L.all k v ∧ (outAt L.all p d k).length = m) (RStep L) (fun k => k = L.all.length) 0
          (fun s W W' hc h => by obtain ⟨v, h⟩ := h; exact ⟨v, h.calm hc⟩) (fun c W W' hc h => by obtain ⟨h0, k, v, h, h1⟩ := h; exact ⟨h0, k, v, h.calm hc, h1⟩) ⟨_, HR0.out⟩ ?iter ?body ?done ?stop
        case iter =>
          intro l J' Jx' W hm _ hJJ hc hJ0 hy
          refine records1_iter L Z.heap.size l J' Jx' W HSM.out hm (fun s W h => ?_) hy hJ0
          obtain ⟨v, h⟩ := hJJ s W h
          have ho := h.only
          have h3 := ho.below (B := w2.heap.size) (by have := HYS.out; have := HLT3.out; omega) (fun j hj e => by have := HLT3.out; omega)
          exact ⟨HL.out.below (HB4.out.trans (h3.mono (by have := HLT.out; have := HB2.out.size; omega))) (Nat.le_refl _), fun j v hj => ho.cell (by have := HZS.out; have := HLT3.out; omega) (HBYX.out j v hj)⟩
        case body =>
          intro l k args s' W hr hst hsz
          obtain ⟨hlt, rfl, rfl⟩ := hst
          obtain ⟨v, hr⟩ := hr
          have HLTK := Lib.hid hlt
          have hle := have_take_le L.all k p
          have hls := have_take_le L.all (k + 1) p
          rw [have_succ L.all k hlt] at hls
          have hall := HSM.out.all
          have hol := outAt_le L.all p d k
          obtain ⟨n, hn⟩ : ∃ n, n = (outAt L.all p d k).length := ⟨_, rfl⟩
          obtain ⟨va, vc, rfl⟩ := own_slice hr.own
          have HR := Lib.hid hr
          have HNN := Lib.hid hn
          rw [← hn] at hol
          clear hr hn
          generalize hRk : L.all[k] = R at *
          obtain ⟨rp, rs, rq, rkey, rval⟩ := R
          have HRR := Lib.hid hRk
          clear hRk
          refine ⟨rfl, ?_⟩
          gi_wp2_with fail
          refine ⟨KeepsOthers.alloc _ _, fun W₂ hc => ?_⟩
          have hc0 : Calm Y.heap.size W W₂ := (Calm.of_below hsz (below_alloc _ _)).trans hc
          have b0 : W₂.cell? ⟨W.heap.size, 0, none⟩ = some (.int .i64 rp) := hc.cell (box_self 0 _ rfl)
          have b1 : W₂.cell? ⟨W.heap.size, 1, none⟩ = some (.int .i64 rs) := hc.cell (box_self 1 _ rfl)
          have b2 : W₂.cell? ⟨W.heap.size, 2, none⟩ = some (.int .i64 rq) := hc.cell (box_self 2 _ rfl)
          have b3 : W₂.cell? ⟨W.heap.size, 3, none⟩ = some (.string rkey) := hc.cell (box_self 3 _ rfl)
          have b4 : W₂.cell? ⟨W.heap.size, 4, none⟩ = some (.int .u32 rval) := hc.cell (box_self 4 _ rfl)
          have hr2 := HR.out.calm hc0
          rw [← HNN.out] at hr2
          have HR2 := Lib.hid hr2
          clear hc hc0 hr2
          have ho2 := HR2.out.only
          have hbo : w2.heap.size < Y.heap.size := by have := HYS.out; have := HLT3.out; omega
          have hba : w3.heap.size < Y.heap.size := by have := HYS.out; omega
          have hne : w2.heap.size ≠ w3.heap.size := by have := HLT3.out; omega
          have e1 := ho2.cell (by have := HLT.out; have := HLT3.out; omega) HIN4.out.1
          have e2 := ho2.cell (by have := HLT.out; have := HLT3.out; omega) HIN4.out.2.1
          have e3 := ho2.cell (by have := HLT.out; have := HLT3.out; omega) HIN4.out.2.2
          have co := HR2.out.co
          have fo := HR2.out.fo
          have ca := HR2.out.ca
          have fa := HR2.out.fa
          have HNE := Lib.hid (And.intro hbo (And.intro hba hne))
          clear ho2 hbo hba hne
          by_cases hnm : n = m
          · have x1 : ((n : Int) == (m : Int)) = true := beq_iff_eq.2 (by omega)
            have x2 : (n == m) = true := beq_iff_eq.2 hnm
            have HNM := Lib.hid hnm
            clear hnm
            gi_wp2_with fail
            exact ⟨KeepsOthers.refl _, rfl, k, ⟨_, HR2.out⟩, by rw [← HNN.out]; exact HNM.out⟩
          · have x1 : ((n : Int) == (m : Int)) = false := beq_eq_false_iff_ne.2 (by omega)
            have x2 : (n == m) = false := beq_eq_false_iff_ne.2 hnm
            have HNM := Lib.hid hnm
            clear hnm
            by_cases hqq : rq = p
            · have y1 : (rq == (p : Int)) = true := beq_iff_eq.2 hqq
              have HYQ := Lib.hid (show Rec.q ⟨rp, rs, rq, rkey, rval⟩ = p from hqq)
              have HQ := Lib.hid (show L.all[k].q = p from by rw [HRR.out]; exact hqq)
              rw [if_pos hqq] at hls
              clear hqq
              obtain ⟨h, hh⟩ : ∃ h, h = have_ (L.all.take k) p := ⟨_, rfl⟩
              have HH := Lib.hid hh
              rw [← hh] at ca hls
              have hwr : IntKind.i64.wrap (F + (h : Int) + 1) = F + (h : Int) + 1 := by rw [IntKind.wrap_i64]; have := HF1.out; have := HGC.out; omega
              by_cases hge : d ≤ h
              · have z1 : decide (frm ≤ F + (h : Int)) = true := decide_eq_true (by have := HFD.out; omega)
                have HGE := Lib.hid hge
                have hlit := Rd.lit (w := W₂) (cs := #[.int .i64 rp, .int .i64 rs, .int .i64 rq, .string rkey, .int .u32 rval]) (e := 33) (n := 1) (sz := 5) rfl (by omega)
                have HLIT := Lib.hid hlit
                have HOA := Lib.hid (HR2.out.own.alloc (.cells #[.int .i64 rp, .int .i64 rs, .int .i64 rq, .string rkey, .int .u32 rval] 33))
                rw [← HNN.out] at HOA
                have hbs := HR2.out.only.size
                have hn2 : n + 1 ≤ 2000000 := by have := HNN.out; omega
                have HPUSH := Lib.hid (fun (w8 : World) (v' : Value) => FRel.push' (w8 := w8) (v' := v') HR2.out HLTK.out HRR.out HYQ.out HH.out HNN.out HGE.out (by have := HNM.out; have h2 := HR2.out.len; have := HNN.out; omega))
                have hne1 : ¬ (w3.heap.size = w2.heap.size) := fun e => HNE.out.2.2 e.symm
                have hne2 : ¬ (w2.heap.size = w3.heap.size) := HNE.out.2.2
                clear hge hh hlit
                gi_wp2_with (gi_at_builtin; go_loud (refine app_listIn tyRecs HOA.out HLIT.out (recs_one [⟨rp, rs, rq, rkey, rval⟩]) (by omega) (by omega) (by simp; omega) rfl rfl rfl rfl ?_; intro v5 w8 hm5 hb5 hn5; obtain ⟨va5, vc5, rfl⟩ := own_slice hm5; have HEND := Lib.hid (HPUSH.out w8 (.slice va5 (n + 1) vc5) _ hm5 hb5 HNE.out.1 HNE.out.2.1 HNE.out.2.2); clear hm5 hb5 hn5 co fo ca fa; have co := HEND.out.1.1; have fo := HEND.out.1.2.1; have ca := HEND.out.1.2.2.1; have fa := HEND.out.1.2.2.2))
                exact ⟨HEND.out.2.2, _, HEND.out.2.1⟩
              · have z1 : decide (frm ≤ F + (h : Int)) = false := decide_eq_false (by have := HFD.out; omega)
                have HGE := Lib.hid hge
                clear hge hh
                gi_wp2_with fail
                have hsk := HR2.out.skip HLTK.out HQ.out (by have h1 := HGE.out; rw [HH.out] at h1; omega) HNE.out.2.1 HNE.out.2.2
                rw [← HH.out] at hsk
                exact ⟨KeepsOthers.setCell _ _ _, _, hsk⟩
            · have y1 : (rq == (p : Int)) = false := beq_eq_false_iff_ne.2 hqq
              have HQ := Lib.hid (show L.all[k].q ≠ p from by rw [HRR.out]; exact hqq)
              clear hqq
              gi_wp2_with fail
              exact ⟨KeepsOthers.refl _, _, HR2.out.miss HLTK.out HQ.out⟩
        case done =>
          intro D k W hD hs hr hK
          subst hs
          obtain ⟨v, hr⟩ := hr
          have HOUT := Lib.hid (outAt_end L.all p d m hr.len)
          have HR := Lib.hid hr
          have hol := outAt_le L.all p d L.all.length
          have hall := HSM.out.all
          obtain ⟨n, hn⟩ : ∃ n, n = (outAt L.all p d L.all.length).length := ⟨_, rfl⟩
          obtain ⟨va, vc, rfl⟩ := own_slice hr.own
          have HNN := Lib.hid hn
          rw [← hn] at hol
          have ho := hr.only
          have hbB := Lib.hid (ho.below (B := w2.heap.size) (by have := HYS.out; have := HLT3.out; omega) (fun j hj e => by have := HLT3.out; omega))
          have e2 := ho.cell (by have := HLT.out; have := HLT3.out; omega) HIN4.out.2.1
          have co := hr.co
          rw [← hn] at co
          have HKD := Lib.hid hK
          have hfrB := HFR.out
          unfold I64 at hfrB
          have hcb := HGC.out.2
          have hlenb : (n : Int) ≤ have_ L.all p := by
            have h1 : ((ofPart L.all p).drop d).length ≤ (ofPart L.all p).length := by rw [List.length_drop]; omega
            have h2 : (outAt L.all p d L.all.length).length = ((ofPart L.all p).drop d).length := by unfold outAt; rw [List.take_length]
            unfold have_
            omega
          have hsum : frm + (n : Int) ≤ L.C p := by
            have h2 : (outAt L.all p d L.all.length).length = (ofPart L.all p).length - d := by unfold outAt; rw [List.take_length, List.length_drop]
            have h3 : d ≤ (ofPart L.all p).length := by have := HF1.out; have := HFD.out; unfold have_ at *; have := of_decide_eq_false d5; omega
            have := HF1.out
            have := HFD.out
            unfold have_ at *
            omega
          have hwr : IntKind.i64.wrap (frm + (n : Int)) = frm + n := by rw [IntKind.wrap_i64]; omega
          clear ho hr hK hn hsum hcb hfrB hlenb
          gi_wp2_with fail
          refine region_mi [(0, false), (1, false), (2, false), (3, false), (4, false), (5, false)] 6 (fun V => V.cell? ⟨w2.heap.size, 0, none⟩ = some (.slice va n vc) ∧ V.cell? ⟨w.heap.size + 2, 0, none⟩ = some (.int .i64 frm)) (by kernel_rfl) (by kernel_rfl) ⟨co, e2⟩ ?_
          iterate 6
            first
            | (refine m_take (v := ?_) rfl rfl ?_ ?_
               rotate_left
               · intro W hW
                 go_simp
                 with_reducible rfl
               simp only [Act.put, List.setIfInBounds_toArray, List.set_cons_zero, List.set_cons_succ])
            | (refine m_skip rfl rfl ?_
               simp only [Act.put, List.setIfInBounds_toArray, List.set_cons_zero, List.set_cons_succ])
          refine m_done ?_
          simp only [List.drop_succ_cons, List.drop_zero]
          go_wp2_with fail
          simp only [NP]
          gi_wp2_with fail
          refine ⟨by simp, .inl ⟨_, _, rfl, run_takeDeferred HKD.out, ?_⟩⟩
          have hcal := Calm.putObj (W := W.drew) (B := w.heap.size) (.deferred none) (by have := HYS.out; have := HLT3.out; have := HLT.out; omega) HKD.out rfl
          refine ⟨.tuple #[.slice va n vc, .int .i64 (frm + n), .int .i64 0], ?_, .slice va n vc, ?_, ?_, ?_⟩
          · simp [results, Try.results23, go_sem]
          · rw [HFE.out, HOUT.out, ← HNN.out]
          · rw [HFE.out, HOUT.out]
            have ho := ownsRow_calm (w := W.drew) HR.out.own hcal
            rw [← HNN.out] at ho ⊢
            exact ownsRow_mono ho (by have := HYS.out; have := HLT3.out; have := HLT.out; omega)
          · exact (HB4.out.trans (hbB.out.mono (by have := HLT.out; omega))).drew.trans hcal.below
        case stop =>
          intro D c W hD hr hK
          obtain ⟨rfl, k, v, hr, hkm⟩ := hr
          have HOUT := Lib.hid (outAt_full L.all p d k m hkm)
          have HR := Lib.hid hr
          have hol := outAt_le L.all p d k
          have hall := HSM.out.all
          obtain ⟨n, hn⟩ : ∃ n, n = (outAt L.all p d k).length := ⟨_, rfl⟩
          obtain ⟨va, vc, rfl⟩ := own_slice hr.own
          have HNN := Lib.hid hn
          rw [← hn] at hol
          have ho := hr.only
          have hbB := Lib.hid (ho.below (B := w2.heap.size) (by have := HYS.out; have := HLT3.out; omega) (fun j hj e => by have := HLT3.out; omega))
          have e2 := ho.cell (by have := HLT.out; have := HLT3.out; omega) HIN4.out.2.1
          have co := hr.co
          rw [← hn] at co
          have HKD := Lib.hid hK
          have hfrB := HFR.out
          unfold I64 at hfrB
          have hcb := HGC.out.2
          have hlenb : (n : Int) ≤ have_ L.all p := by
            have h1 : ((ofPart L.all p).drop d).length ≤ (ofPart L.all p).length := by rw [List.length_drop]; omega
            obtain ⟨t, ht⟩ := outAt_pre L.all p d k
            have h2 := congrArg List.length ht
            rw [List.length_append] at h2
            unfold have_
            omega
          have hsum : frm + (n : Int) ≤ L.C p := by
            obtain ⟨t, ht⟩ := outAt_pre L.all p d k
            have h2 := congrArg List.length ht
            rw [List.length_append, List.length_drop] at h2
            have h3 : d ≤ (ofPart L.all p).length := by have := HF1.out; have := HFD.out; unfold have_ at *; have := of_decide_eq_false d5; omega
            have := HF1.out
            have := HFD.out
            unfold have_ at *
            omega
          have hwr : IntKind.i64.wrap (frm + (n : Int)) = frm + n := by rw [IntKind.wrap_i64]; omega
          clear ho hr hK hn hsum hcb hfrB hlenb
          gi_wp2_with fail
          refine region_mi [(0, false), (1, false), (2, false), (3, false), (4, false), (5, false)] 6 (fun V => V.cell? ⟨w2.heap.size, 0, none⟩ = some (.slice va n vc) ∧ V.cell? ⟨w.heap.size + 2, 0, none⟩ = some (.int .i64 frm)) (by kernel_rfl) (by kernel_rfl) ⟨co, e2⟩ ?_
          iterate 6
            first
            | (refine m_take (v := ?_) rfl rfl ?_ ?_
               rotate_left
               · intro W hW
                 go_simp
                 with_reducible rfl
               simp only [Act.put, List.setIfInBounds_toArray, List.set_cons_zero, List.set_cons_succ])
            | (refine m_skip rfl rfl ?_
               simp only [Act.put, List.setIfInBounds_toArray, List.set_cons_zero, List.set_cons_succ])
          refine m_done ?_
          simp only [List.drop_succ_cons, List.drop_zero]
          go_wp2_with fail
          simp only [NP]
          gi_wp2_with fail
          refine ⟨by simp, .inl ⟨_, _, rfl, run_takeDeferred HKD.out, ?_⟩⟩
          have hcal := Calm.putObj (W := W.drew) (B := w.heap.size) (.deferred none) (by have := HYS.out; have := HLT3.out; have := HLT.out; omega) HKD.out rfl
          refine ⟨.tuple #[.slice va n vc, .int .i64 (frm + n), .int .i64 0], ?_, .slice va n vc, ?_, ?_, ?_⟩
          · simp [results, Try.results23, go_sem]
          · rw [HFE.out, HOUT.out, ← HNN.out]
          · rw [HFE.out, HOUT.out]
            have ho := ownsRow_calm (w := W.drew) HR.out.own hcal
            rw [← HNN.out] at ho ⊢
            exact ownsRow_mono ho (by have := HYS.out; have := HLT3.out; have := HLT.out; omega)
          · exact (HB4.out.trans (hbB.out.mono (by have := HLT.out; omega))).drew.trans hcal.below
end Go.Proofs.Ytkabfjbmofpkdaa

/- Layer 14: a whole partition that is fetched; a record that is taken, as data. -/
namespace Go.Proofs.Ytkabfjbmofpkdaa
open Go.RowKit Go.Shelf

theorem mod8_nat (n : Int) : ∃ k : Nat, wrap64 ((IntKind.u64.wrap n).tmod 8) = k ∧ k < 8 := by
  have e : IntKind.u64.wrap n = n % 18446744073709551616 := by simp [IntKind.wrap, IntKind.bits, IntKind.signed]
  rw [e, Int.tmod_eq_emod_of_nonneg (by omega)]
  refine ⟨((n % 18446744073709551616) % 8).toNat, ?_, by omega⟩
  unfold wrap64
  omega

def recE (r : Rec) : Ent := ⟨1, r, .slice none 0 0, [], 0⟩
theorem recE_ok {r : Rec} (h : r.ok) : (recE r).Ok ∧ (recE r).Small := ⟨⟨by unfold I64 recE; simp, h, by unfold I64 recE; simp, fun o ho => by cases ho⟩, ⟨by unfold recE; simp, fun o ho => by cases ho⟩⟩
theorem took_of {L : Led} {r : Rec} (h : (applyL L (recE r)).2.1 = true) : L.good = true ∧ goodRec r = true ∧ L.recTook r = true ∧ (applyL L (recE r)).1 = { L with rows := putRowAt ⟨r.p, r.q, r.s⟩ L.rows, C := L.bump r.q.toNat, opn := L.opn ++ [r] } := by
  unfold applyL at h ⊢
  split at h
  · rename_i hg
    rw [if_pos hg]
    have hE := (goodEnt_iff _ _ _ _).1 hg.2
    unfold stepL at h ⊢
    rw [if_pos (show (recE r).k = 1 from rfl)] at h ⊢
    have ht : L.recTook r = true := h
    refine ⟨hg.1, hE.2.2.2.2.2, ht, ?_⟩
    show L.recL r = _
    unfold Led.recL
    rw [if_pos ht]
  · cases h
theorem fetchOf_same {L M : Led} (h : SameL L M) (q frm most : Int) : M.fetchOf q frm most = L.fetchOf q frm most ∧ M.firstOf q = L.firstOf q := by
  have hf : M.firstOf q = L.firstOf q := by unfold Led.firstOf; rw [h.good, h.C, h.all]
  refine ⟨?_, hf⟩
  unfold Led.fetchOf
  rw [hf, h.good, h.C, h.all]
theorem ofPart_len (rs : List Rec) (q : Int) : (ofPart rs q).length ≤ rs.length := List.length_filter_le _ _
theorem fetch_whole {L : Led} (hg : L.good = true) {p : Nat} (hp : p < 8) (hsm : L.Small) : L.fetchOf p (L.firstOf p) 1073741824 = (ofPart L.all p, L.C p, 0) := by
  have hl := ofPart_len L.all p
  have ha := hsm.all
  have hc := counts_at ((good_iff L).1 hg).2.2 p hp
  have ht : ((ofPart L.all p).drop (L.firstOf p - L.firstOf p).toNat).take (1073741824 : Int).toNat = ofPart L.all p := by
    rw [Int.sub_self]
    show ((ofPart L.all p).drop 0).take 1073741824 = _
    rw [List.drop_zero, List.take_of_length_le (by omega)]
  unfold Led.fetchOf
  rw [if_neg (by simp [hg]), if_neg (by omega), if_neg (by rw [firstOf_good hg p hp, show (p : Int).toNat = p from rfl]; omega), ht, firstOf_good hg p hp]
  show (_, L.C p - have_ L.all p + ((have_ L.all p : Nat) : Int), _) = _
  rw [Int.sub_add_cancel]
theorem firstOf_I64 {L : Led} (hg : L.good = true) (hok : L.Ok) {p : Nat} (hp : p < 8) : I64 (L.firstOf p) := by
  have := good_C hg hok p hp
  rw [firstOf_good hg p hp]
  unfold I64
  omega
theorem ofPart_snoc (rs : List Rec) (r : Rec) (q : Int) : ofPart (rs ++ [r]) q = if r.q = q then ofPart rs q ++ [r] else ofPart rs q := by
  unfold ofPart
  rw [List.filter_append]
  by_cases h : r.q = q
  · rw [if_pos h]
    simp [h]
  · rw [if_neg h]
    simp [h]
/-- What is there of a partition behind a record that was taken. -/
theorem took_whole {L M : Led} {r : Rec} (h : (applyL L (recE r)).2.1 = true) (hS : SameL (applyL L (recE r)).1 M) (hgm : M.good = true) {p : Nat} (hp : p < 8) (hsm : M.Small) :
    M.fetchOf p (M.firstOf p) 1073741824 = (if r.q = p then ofPart L.all p ++ [r] else ofPart L.all p, if r.q = p then L.C p + 1 else L.C p, 0) := by
  obtain ⟨hg, hr, ht, hE⟩ := took_of h
  have hpq := goodRec_part hr
  have hall : M.all = L.all ++ [r] := by
    rw [hS.all, hE]
    show L.bats.flatMap (·.recs) ++ (L.opn ++ [r]) = _
    rw [← List.append_assoc]; rfl
  have hC : M.C p = if r.q = p then L.C p + 1 else L.C p := by
    rw [hS.C, hE]
    show L.bump r.q.toNat p = _
    unfold Led.bump
    by_cases e : r.q = p
    · rw [if_pos e, if_pos (by omega)]
    · rw [if_neg e, if_neg (by omega)]
  rw [fetch_whole hgm hp hsm, hall, hC, ofPart_snoc]
theorem rd_front {w : World} {sz n m : Nat} {v : Value} {xs ys : List Value} (h : Rd w sz v n (xs ++ ys)) (hm : m ≤ n) (hx : xs.length = m * sz) : ∃ a c, v = .slice a n c ∧ Rd w sz (.slice a m c) m xs := by
  obtain ⟨a, c, hv, h0, h1, h2, h3⟩ := h
  refine ⟨a, c, hv, a, c, rfl, hx, by omega, h2, ?_⟩
  rcases h3 with h3 | ⟨b, o, ha, hc⟩
  · exact .inl h3
  · exact .inr ⟨b, o, ha, fun j u hj => hc j u (by rw [List.getElem?_append_left (List.getElem?_eq_some_iff.1 hj).1]; exact hj)⟩
end Go.Proofs.Ytkabfjbmofpkdaa

/- Layer 14: Batch, walked. -/
namespace Go.Proofs.Ytkabfjbmofpkdaa
open Go.RowKit Go.Shelf
set_option maxRecDepth 100000

/-- An epoch's records, and the error. -/
def Led.batchOf (L : Led) (ep : Int) : List Rec × Int := if L.good = false then ([], 3) else match L.bats.find? (fun b => b.ep == ep) with
  | some b => (b.recs, 0)
  | none => ([], 7)
theorem batchOf_at {L : Led} (hg : L.good = true) {ep : Int} {i : Nat} (hi : i < L.bats.length) (hne : ∀ b ∈ L.bats.take i, b.ep ≠ ep) (he : L.bats[i].ep = ep) : L.batchOf ep = (L.bats[i].recs, 0) := by
  have h : L.bats.find? (fun b => b.ep == ep) = some L.bats[i] := by
    refine (congrArg (List.find? _) (List.take_append_drop i L.bats).symm).trans ?_
    rw [List.find?_append, List.find?_eq_none.2 (fun b hb => by simpa using hne b hb), Option.none_or, List.drop_eq_getElem_cons hi, List.find?_cons_of_pos (by simpa using he)]
  unfold Led.batchOf
  rw [if_neg (by simp [hg]), h]
theorem batchOf_none {L : Led} (hg : L.good = true) {ep : Int} (hne : ∀ b ∈ L.bats, b.ep ≠ ep) : L.batchOf ep = ([], 7) := by
  unfold Led.batchOf
  rw [if_neg (by simp [hg]), List.find?_eq_none.2 (fun b hb => by simpa using hne b hb)]
theorem ne_succ {bs : List Bt} {ep : Int} {i : Nat} (hi : i < bs.length) (hne : ∀ b ∈ bs.take i, b.ep ≠ ep) (h : bs[i].ep ≠ ep) : ∀ b ∈ bs.take (i + 1), b.ep ≠ ep := by
  intro b hb
  rw [List.take_succ_eq_append_getElem hi] at hb
  rcases List.mem_append.1 hb with hb | hb
  · exact hne b hb
  · rw [List.mem_singleton] at hb; rw [hb]; exact h

set_option maxHeartbeats 8000000 in
theorem batch_calls (L : Led) (ep : Int) (w : World) (hL : LedR w L) (hok : L.Ok) (hsm : L.Small) :
    Calls Try.prog 20 #[.agg L.cells.toArray, .int .i64 ep] w fun e w' => ∃ v, e = .returned (.tuple #[v, .int .i64 (L.batchOf ep).2]) ∧
      w'.ownsRow w.heap.size 33 5 v (L.batchOf ep).1.length (flatF Rec.cells (L.batchOf ep).1) ∧ Below w.heap.size w w' := by
  obtain ⟨X, hX⟩ : ∃ X, X = w.alloc (.cells L.cells.toArray 30) := ⟨_, rfl⟩
  have hbX : Below w.heap.size w X := by rw [hX]; exact below_alloc _ _
  have hBL : BoxL X w.heap.size L := by rw [hX]; exact boxL_self w L 30
  have HX := Lib.hid hX
  have HBL := Lib.hid hBL
  have HBX := Lib.hid hbX
  have HL := Lib.hid hL
  have HOK := Lib.hid hok
  have HSM := Lib.hid hsm
  have HRL := Lib.hid hBL.range
  obtain ⟨ba, bc, hbv, hbc, -⟩ := hL.bats.row.slice
  have HBV := Lib.hid hbv
  clear hX hBL hbX hL hok hsm hbv
  go_enter Try.func20, Try.ntmps20
  go_upto_region 1 with fail
  rw [show w.alloc (.cells L.cells.toArray 30) = X from HX.out.symm]
  go_wp2_with (first | (refine wpList_load_mid rfl 30 _ rfl (w.heap.size) 0 rfl (Led.cells L) _ (by exact HRL.out) Try.underlying30 rfl (by show _ = some 16; kernel_rfl) ?_) | (refine wp_load_mid 30 _ rfl (w.heap.size) 0 rfl (Led.cells L) _ (by exact HRL.out) Try.underlying30 rfl (by show _ = some 16; kernel_rfl) ?_) | (refine list_loadk rfl rfl (b := w.heap.size) (off := 0) rfl (cs := Led.cells L) Try.underlying30 rfl (by show _ = some 16; kernel_rfl) (by exact HRL.out) ?_))
  refine (pGood_calls L X (HL.out.below HBX.out (Nat.le_refl _)) HOK.out HSM.out).mono ?_
  rintro e w1 ⟨rfl, hb1⟩
  have HB1 := Lib.hid (below_go HBX.out hb1)
  have HBL1 := Lib.hid (HBL.out.later hb1)
  clear hb1
  cases hg : L.good with
  | false =>
    have HF := Lib.hid (show L.batchOf ep = ([], 3) by unfold Led.batchOf; rw [if_pos hg])
    clear hg
    go_wp2_with fail
    exact bodyPost_ret (v := .tuple #[.slice none 0 0, .int .i64 3]) (by simp [results, Try.results20, go_sem]) rfl ⟨.slice none 0 0, by rw [HF.out], by rw [HF.out]; exact World.ownsRow_nil _ _ _ _, HB1.out⟩
  | true =>
    have HG := Lib.hid hg
    have hn := HSM.out.bats
    have c10 := HBL1.out 10 _ rfl
    rw [HBV.out] at c10
    clear hg
    go_wp2_with fail
    go_loopw [7, 14] (fun _ iv wr => ∃ i : Nat, i ≤ L.bats.length ∧ iv = .int .i64 i ∧ (∀ b ∈ L.bats.take i, b.ep ≠ ep) ∧ Below w1.heap.size w1 wr) (fun _ iv _ => L.bats.length - (intOf iv).toNat)
    case atStart => exact ⟨0, by omega, rfl, fun b hb => by simp at hb, Below.refl _ _⟩
    case round =>
      obtain ⟨i, hi, rfl, hne, hb⟩ := hrel
      have HNE := Lib.hid hne
      have HB := Lib.hid hb
      have HLR := Lib.hid (HL.out.below (below_go HB1.out hb) (Nat.le_refl _))
      clear hne hb c10
      by_cases hlt : i < L.bats.length
      · have hrow := HLR.out.bats
        rw [HBV.out] at hrow
        obtain ⟨b, o, rfl, c0, c1⟩ := bt_at hrow i hlt
        have hrec := HLR.out.bats.recs L.bats[i] (List.getElem_mem _)
        have HRC := Lib.hid hrec
        have HRN := Lib.hid (HSM.out.recs L.bats[i] (List.getElem_mem _))
        obtain ⟨ra', rc', hrv', hrc', -⟩ := Rd.slice hrec
        have HAT := Lib.hid (batchOf_at HG.out hlt HNE.out)
        have HSU := Lib.hid (ne_succ hlt HNE.out)
        clear hrow hrec
        generalize L.bats[i] = B at *
        obtain ⟨e1, rv', recs⟩ := B
        simp only at HAT HSU HRC HRN c0 c1 hrv'
        subst hrv'
        by_cases hq : e1 = ep
        · have HF := Lib.hid (HAT.out hq)
          have d1 : (e1 == ep) = true := beq_iff_eq.2 hq
          clear hq
          go_wp2_with fail
          refine (clRec_calls _ recs.length (flatF Rec.cells recs) _ (Rd.below HRC.out (below_alloc _ _) (Nat.le_refl _)) (recs_one _) (by have := HRN.out; omega)).mono ?_
          rintro e w3 ⟨v, rfl, ho, hb3⟩
          have HO := Lib.hid ho
          have HB3 := Lib.hid hb3
          clear ho hb3
          go_wp2_with fail
          exact bodyPost_ret (v := .tuple #[v, .int .i64 0]) (by simp [results, Try.results20, go_sem]) rfl ⟨v, by rw [HF.out], by rw [HF.out]; exact ownsRow_mono HO.out (by have := HB1.out.size; have := HB.out.size; simp; omega), below_go (below_go HB1.out HB.out) (below_go (below_alloc _ _) HB3.out)⟩
        · have HN1 := Lib.hid (HSU.out hq)
          have d1 : (e1 == ep) = false := beq_eq_false_iff_ne.2 hq
          clear hq
          go_wp2_with fail
          go_roundw
          case rel => exact ⟨i + 1, by omega, by go_num, HN1.out, below_go HB.out (below_alloc _ _)⟩
          case measure => simp [intOf]; omega
      · obtain rfl : i = L.bats.length := by omega
        have HF := Lib.hid (batchOf_none HG.out (ep := ep) (by have := HNE.out; rwa [List.take_length] at this))
        go_wp2_with fail
        exact bodyPost_ret (v := .tuple #[.slice none 0 0, .int .i64 7]) (by simp [results, Try.results20, go_sem]) rfl ⟨.slice none 0 0, by rw [HF.out], by rw [HF.out]; exact World.ownsRow_nil _ _ _ _, below_go HB1.out HB.out⟩
end Go.Proofs.Ytkabfjbmofpkdaa

/- Layer 14: records once, in order; as data. -/
namespace Go.Proofs.Ytkabfjbmofpkdaa
open Go.RowKit

/-- How many records there are of a producer in a partition. -/
def cnt (rs : List Rec) (p q : Int) : Nat := (rs.filter fun r => r.p == p && r.q == q).length
theorem cnt_nil (p q : Int) : cnt [] p q = 0 := rfl
theorem cnt_append (a b : List Rec) (p q : Int) : cnt (a ++ b) p q = cnt a p q + cnt b p q := by simp [cnt]
theorem cnt_one (r : Rec) (p q : Int) : cnt [r] p q = if r.p = p ∧ r.q = q then 1 else 0 := by
  unfold cnt
  by_cases h : r.p = p ∧ r.q = q
  · rw [if_pos h]; simp [h.1, h.2]
  · rw [if_neg h]
    have : (r.p == p && r.q == q) = false := by
      cases hb : (r.p == p && r.q == q) with
      | false => rfl
      | true => simp at hb; exact absurd hb h
    simp [this]
theorem cnt_le (rs : List Rec) (p q : Int) : cnt rs p q ≤ rs.length := List.length_filter_le _ _

/-- Each record's number is the number of those ahead of it. -/
def InOrder (rs : List Rec) : Prop := ∀ (a : List Rec) (r : Rec) (b : List Rec), rs = a ++ r :: b → r.s = ((cnt a r.p r.q : Nat) : Int)
theorem inOrder_nil : InOrder [] := fun a r b h => by simp at h
theorem inOrder_snoc {rs : List Rec} {r : Rec} (h : InOrder rs) (hr : r.s = cnt rs r.p r.q) : InOrder (rs ++ [r]) := by
  intro a x b e
  rcases List.eq_nil_or_concat b with rfl | ⟨b', y, rfl⟩
  · have := List.append_inj' e rfl
    obtain ⟨rfl, h2⟩ := this
    simp only [List.cons.injEq, and_true] at h2
    subst h2
    exact hr
  · rw [List.concat_eq_append, ← List.cons_append, ← List.append_assoc] at e
    have := List.append_inj' e rfl
    exact h a x b' this.1
def InForm (rs : List Rec) : Prop := ∀ r ∈ rs, 0 ≤ r.p ∧ r.p ≤ 63 ∧ 0 ≤ r.q ∧ r.q < 8

/-- What stands behind any entries from the beginning: the ledger, each sealed epoch's records, how many are open. -/
structure Once (L : Led) (all : List (List Rec)) (n : Int) : Prop where
  good : L.good = true
  len : L.sealed = all.length
  nopn : n = L.opn.length
  lens : ∀ a ∈ all, a.length ≤ 512
  bats : ∀ b ∈ L.bats, ∃ k : Nat, ∃ h : k < all.length, b.ep = k ∧ b.recs = all[k]
  ord : InOrder (all.flatten ++ L.opn)
  form : InForm (all.flatten ++ L.opn)
  last : ∀ p q, rightB p q = true → lastOf L.rows p q + 1 = cnt (all.flatten ++ L.opn) p q
theorem once_zero : Once zeroL [] 0 :=
  ⟨good_zero, rfl, rfl, fun a h => by simp at h, fun b h => by simp [zeroL] at h, inOrder_nil, fun r h => by simp [zeroL] at h, fun p q _ => by simp [zeroL, lastOf_nil, cnt_nil]⟩
theorem Once.same {L M : Led} {all : List (List Rec)} {n : Int} (h : Once L all n) (s : SameL L M) : Once M all n := by
  refine ⟨by rw [s.good]; exact h.good, by rw [s.sealed]; exact h.len, by rw [s.opn]; exact h.nopn, h.lens, fun b hb => ?_, by rw [s.opn]; exact h.ord, by rw [s.opn]; exact h.form, by rw [s.opn, s.rows]; exact h.last⟩
  obtain ⟨b', hb', e1, e2⟩ := s.mem hb
  obtain ⟨k, hk, e3, e4⟩ := h.bats b' hb'
  exact ⟨k, hk, by rw [← e1]; exact e3, by rw [← e2]; exact e4⟩

theorem batchOf_some {L : Led} (hg : L.good = true) {ep : Int} {rs : List Rec} (hx : ∃ b ∈ L.bats, b.ep = ep) (h : ∀ b ∈ L.bats, b.ep = ep → b.recs = rs) : L.batchOf ep = (rs, 0) := by
  unfold Led.batchOf
  rw [if_neg (by simp [hg])]
  cases hf : L.bats.find? (fun b => b.ep == ep) with
  | none =>
    obtain ⟨b, hb, e⟩ := hx
    have := List.find?_eq_none.1 hf b hb
    simp [e] at this
  | some b =>
    have h1 := List.mem_of_find?_eq_some hf
    have h2 := List.find?_some hf
    simp only [beq_iff_eq] at h2
    simp only
    rw [h b h1 h2]
theorem good_bat {L : Led} (hg : L.good = true) (i : Nat) (hi : i < L.bats.length) : L.bats[i].ep = L.sealed - L.bats.length + i := by
  have hto := ((good_iff L).1 hg).1.2.2.1
  have : (match L.bats[i]? with | some b => decide (b.recs.length ≤ 512 ∧ b.ep = L.sealed - L.bats.length + i) | none => true) = true := by
    unfold epochsTo at hto
    exact List.all_eq_true.1 hto i (List.mem_range.2 hi)
  rw [List.getElem?_eq_getElem hi] at this
  simp only [decide_eq_true_eq] at this
  exact this.2
/-- Each epoch that is sealed and not decided is there. -/
theorem Once.batch {L : Led} {all : List (List Rec)} {n : Int} (h : Once L all n) (k : Nat) (hd : L.decided ≤ k) (hk : k < L.sealed) : ∃ hk : k < all.length, L.batchOf k = (all[k], 0) := by
  have hl := h.len
  have hk' : k < all.length := by omega
  refine ⟨hk', ?_⟩
  obtain ⟨⟨-, hn, -, ⟨hb1, hb2⟩, -⟩, -⟩ := (good_iff L).1 h.good
  refine batchOf_some h.good ?_ (fun b hb e => ?_)
  · refine ⟨L.bats[k - (all.length - L.bats.length)]'(by omega), List.getElem_mem _, ?_⟩
    rw [good_bat h.good]
    omega
  · obtain ⟨k', hk'', e1, e2⟩ := h.bats b hb
    have : k' = k := by omega
    subst this
    exact e2
theorem look_one {rs : List Row} {p q s : Int} (h : lookOf rs p q s = 1) : s = lastOf rs p q + 1 := by
  unfold lookOf at h
  split at h
  · cases h
  · split at h
    · cases h
    · split at h
      · assumption
      · cases h
theorem took_iff {L : Led} {r : Rec} (h : L.recTook r = true) : lookOf L.rows r.p r.q r.s = 1 ∧ L.recCode r = 0 := by
  unfold Led.recTook at h
  simp only [decide_eq_true_eq] at h
  refine ⟨h.1, ?_⟩
  unfold Led.recCode
  rw [h.1, if_neg (by omega), if_neg (by omega), if_neg (by intro e; rcases e with e | e; exact e rfl; exact h.2.1 e), if_neg (by omega)]
theorem Once.took {L : Led} {all : List (List Rec)} {n : Int} (h : Once L all n) {r : Rec} (hr : goodRec r = true) (ht : L.recTook r = true) (hg : (L.recL r).good = true) : Once (L.recL r) all (n + 1) := by
  have hk := (took_iff ht).1
  have hrb := goodRec_right hr
  have hs := look_one hk
  have hl := h.last r.p r.q hrb
  have hT := (table_good _).1 ((good_iff L).1 h.good).1.1
  have hsc : r.s = cnt (all.flatten ++ L.opn) r.p r.q := by omega
  have he : L.recL r = { L with rows := putRowAt ⟨r.p, r.q, r.s⟩ L.rows, C := L.bump r.q.toNat, opn := L.opn ++ [r] } := by unfold Led.recL; rw [if_pos ht]
  rw [he] at hg ⊢
  refine ⟨hg, h.len, ?_, h.lens, h.bats, ?_, ?_, fun p q hpq => ?_⟩
  · show n + 1 = ((L.opn ++ [r]).length : Int)
    rw [List.length_append, h.nopn]
    simp
  · show InOrder (all.flatten ++ (L.opn ++ [r]))
    rw [← List.append_assoc]
    exact inOrder_snoc h.ord hsc
  · show InForm (all.flatten ++ (L.opn ++ [r]))
    rw [← List.append_assoc]
    intro x hx
    rcases List.mem_append.1 hx with hx | hx
    · exact h.form x hx
    · rw [List.mem_singleton] at hx
      subst hx
      unfold goodRec at hr
      simp only [decide_eq_true_eq] at hr
      omega
  · show lastOf (putRowAt ⟨r.p, r.q, r.s⟩ L.rows) p q + 1 = (cnt (all.flatten ++ (L.opn ++ [r])) p q : Int)
    rw [← List.append_assoc, cnt_append, cnt_one]
    by_cases e : r.p = p ∧ r.q = q
    · obtain ⟨rfl, rfl⟩ := e
      rw [last_put hT, if_pos ⟨rfl, rfl⟩, hsc]
      simp
    · rw [last_put_other hT r.p r.q r.s p q hrb e, if_neg e]
      exact h.last p q hpq
theorem Once.seal {L : Led} {all : List (List Rec)} {n : Int} (h : Once L all n) (hg : L.sealL.good = true) : Once L.sealL (all ++ [L.opn]) 0 ∧ L.sealL.batchOf L.sealed = (L.opn, 0) := by
  have hl := h.len
  have hb : ∀ b ∈ L.sealL.bats, ∃ k : Nat, ∃ hk : k < (all ++ [L.opn]).length, b.ep = k ∧ b.recs = (all ++ [L.opn])[k] := by
    intro b hb
    rcases List.mem_append.1 (show b ∈ L.bats ++ [⟨L.sealed, L.ov, L.opn⟩] from hb) with hb | hb
    · obtain ⟨k, hk, e1, e2⟩ := h.bats b hb
      exact ⟨k, by rw [List.length_append]; omega, e1, by rw [List.getElem_append_left hk]; exact e2⟩
    · rw [List.mem_singleton] at hb
      subst hb
      exact ⟨all.length, by rw [List.length_append]; simp, hl, by simp⟩
  have hf : (all ++ [L.opn]).flatten ++ L.sealL.opn = all.flatten ++ L.opn := by simp [Led.sealL]
  refine ⟨⟨hg, ?_, rfl, fun a ha => ?_, hb, by rw [hf]; exact h.ord, by rw [hf]; exact h.form, by rw [hf]; exact h.last⟩, ?_⟩
  · show L.sealed + 1 = ((all ++ [L.opn]).length : Int)
    rw [List.length_append, hl]
    simp
  · rcases List.mem_append.1 ha with ha | ha
    · exact h.lens a ha
    · rw [List.mem_singleton] at ha
      rw [ha]
      exact ((good_iff L).1 h.good).1.2.1.1
  · refine batchOf_some hg ⟨⟨L.sealed, L.ov, L.opn⟩, List.mem_append_right _ (by simp), rfl⟩ (fun b hb' e => ?_)
    obtain ⟨k, hk, e1, e2⟩ := hb b hb'
    have hk' : k = all.length := by omega
    subst hk'
    rw [e2]
    simp
/-- What an entry does. -/
theorem Once.step {L : Led} {all : List (List Rec)} {n : Int} (h : Once L all n) (E : Ent) (hc : (applyL L E).2.2 ≠ 3) :
    ((applyL L E).2.1 = false ∧ (applyL L E).1 = L) ∨
    ((applyL L E).2.1 = true ∧ (applyL L E).2.2 = 0 ∧ E.k = 1 ∧ Once (applyL L E).1 all (n + 1) ∧ (applyL L E).1.sealed = L.sealed ∧ (applyL L E).1.decided = L.decided) ∨
    ((applyL L E).2.1 = true ∧ (applyL L E).2.2 = 0 ∧ E.k = 2 ∧ Once (applyL L E).1 (all ++ [L.opn]) 0 ∧ (applyL L E).1.batchOf L.sealed = (L.opn, 0) ∧ (applyL L E).1.sealed = L.sealed + 1 ∧ (applyL L E).1.decided = L.decided) ∨
    ((applyL L E).2.1 = true ∧ (applyL L E).2.2 = 0 ∧ E.k ≠ 1 ∧ E.k ≠ 2 ∧ Once (applyL L E).1 all n ∧ L.sealed ≤ (applyL L E).1.sealed ∧ L.decided ≤ (applyL L E).1.decided) := by
  have hgM := (good_apply L E).resolve_left hc
  unfold applyL at hc hgM ⊢
  split at hc
  · rename_i hg
    rw [if_pos hg] at hgM ⊢
    have hE := (goodEnt_iff _ _ _ _).1 hg.2
    unfold stepL at hc hgM ⊢
    by_cases k1 : E.k = 1
    · simp only [if_pos k1] at hc hgM ⊢
      cases ht : L.recTook E.r with
      | false => exact .inl ⟨rfl, by unfold Led.recL; rw [if_neg (by simp [ht])]⟩
      | true =>
        have hr : goodRec E.r = true := hE.2.2.2.2.2
        refine .inr (.inl ⟨rfl, (took_iff ht).2, k1, h.took hr ht hgM, ?_, ?_⟩) <;> unfold Led.recL <;> rw [if_pos ht]
    · simp only [if_neg k1] at hc hgM ⊢
      by_cases k2 : E.k = 2
      · simp only [if_pos k2] at hc hgM ⊢
        split
        · exact .inl ⟨rfl, rfl⟩
        · rename_i c1
          rw [if_neg c1] at hgM
          split
          · exact .inl ⟨rfl, rfl⟩
          · rename_i c2
            rw [if_neg c2] at hgM
            split
            · exact .inl ⟨rfl, rfl⟩
            · rename_i c3
              rw [if_neg c3] at hgM
              exact .inr (.inr (.inl ⟨rfl, rfl, k2, (h.seal hgM).1, (h.seal hgM).2, rfl, rfl⟩))
      · simp only [if_neg k2] at hc hgM ⊢
        by_cases k3 : E.k = 3
        · simp only [if_pos k3] at hc hgM ⊢
          split
          · exact .inl ⟨rfl, rfl⟩
          · rename_i c1
            rw [if_neg c1] at hgM
            split
            · exact .inl ⟨rfl, rfl⟩
            · rename_i c2
              rw [if_neg c2] at hgM
              exact .inr (.inr (.inr ⟨rfl, rfl, k1, k2, ⟨hgM, h.len, h.nopn, h.lens, h.bats, h.ord, h.form, h.last⟩, Int.le_refl _, Int.le_refl _⟩))
        · simp only [if_neg k3] at hc hgM ⊢
          by_cases k4 : E.k = 4
          · simp only [if_pos k4] at hc hgM ⊢
            split
            · exact .inl ⟨rfl, rfl⟩
            · rename_i c1
              rw [if_neg c1] at hgM
              exact .inr (.inr (.inr ⟨rfl, rfl, k1, k2, ⟨hgM, h.len, h.nopn, h.lens, fun b hb => h.bats b (List.mem_filter.1 hb).1, h.ord, h.form, h.last⟩, Int.le_refl _, by show L.decided ≤ L.decided + 1; omega⟩))
          · simp only [if_neg k4] at hc hgM ⊢
            by_cases k5 : E.k = 5
            · simp only [if_pos k5] at hc hgM ⊢
              split
              · exact .inl ⟨rfl, rfl⟩
              · rename_i c1
                rw [if_neg c1] at hgM
                exact .inr (.inr (.inr ⟨rfl, rfl, k1, k2, ⟨hgM, h.len, h.nopn, h.lens, fun b hb => h.bats b (List.mem_filter.1 hb).1, h.ord, h.form, h.last⟩, Int.le_refl _, Int.le_refl _⟩))
            · simp only [if_neg k5]
              simp
  · simp at hc
end Go.Proofs.Ytkabfjbmofpkdaa

/- A triple of numbers, and rows of entries, read of an argument. -/
namespace Go.Proofs.Ytkabfjbmofpkdaa
open Go.RowKit Go.ChangeShapes Go.WideShapes Go.ChangeAt
set_option maxRecDepth 100000

theorem okWide_array' {P : Program} {w : World} {r : Reach} {base : Nat} {t : TypeId} {v : Value} {n : Nat} {e : TypeId} (ht : P.underlying t = some (.array n e)) (h : Value.okWide P w r base t v) : ∃ cs, v = .agg cs ∧ cs.size = P.cellsOf t := by
  simp only [Value.okWide, ht] at h
  obtain ⟨cs, h1, h2, _⟩ := h
  exact ⟨cs, h1, h2⟩

theorem cells_arr3 {H : Type} {enc : TypeId × Value → H} {W : World} {held : Bool} {fuel : Nat} {cs : List Value} {y : DataW H × List MemPlace} (hf : DataW.trod enc Try.prog W 0 (fun _ => true) held fuel 62 cs = some y) : ∃ p q r : Int, cs = [.int .i64 p, .int .i64 q, .int .i64 r] ∧ I64 p ∧ I64 q ∧ I64 r := by
  obtain ⟨xs, n, -, -, hl, hxl, hx⟩ := DataW.trod_array Try.underlying62 hf
  have hl2 : cs.length = 3 := hl.trans (by kernel_rfl)
  have hc : Try.prog.cellsOf 3 = 1 := by kernel_rfl
  have hex : ∀ i, i < 3 → ∃ k : Int, cs[i]? = some (.int .i64 k) ∧ I64 k := by
    intro i hi
    have h := hx i hi
    rw [hc, Nat.mul_one, List.getElem?_eq_getElem (by omega)] at h
    obtain ⟨k, hk, -, wk⟩ := DataW.trod_int Try.underlying3 h
    have hi2 : i < cs.length := by omega
    rw [List.drop_eq_getElem_cons hi2] at hk
    simp only [List.take_succ_cons, List.take_zero, List.cons.injEq, and_true] at hk
    exact ⟨k, by rw [List.getElem?_eq_getElem hi2, hk], Go.bounds_i64 wk⟩
  obtain ⟨p, hp, bp⟩ := hex 0 (by omega)
  obtain ⟨q, hq, bq⟩ := hex 1 (by omega)
  obtain ⟨r, hr, br⟩ := hex 2 (by omega)
  refine ⟨p, q, r, ?_, bp, bq, br⟩
  match cs, hl2, hp, hq, hr with
  | [v0, v1, v2], _, hp, hq, hr =>
    simp at hp hq hr
    rw [hp, hq, hr]
theorem open_arr3 {H : Type} {enc : TypeId × Value → H} {W : World} {B : Nat} {held : Bool} {v : Value} {d : DataW H} {p : List MemPlace}
    (ok : Value.okWide Try.prog W .any B 62 v) (h : DataW.Trod enc Try.prog W 0 (fun _ => true) held 62 v d p) : ∃ a b c : Int, v = .agg #[.int .i64 a, .int .i64 b, .int .i64 c] ∧ I64 a ∧ I64 b ∧ I64 c := by
  obtain ⟨csA, rfl, hsz⟩ := okWide_array' Try.underlying62 ok
  obtain ⟨fuel, hf⟩ := h
  simp only [Value.cells] at hf
  obtain ⟨a, b, c, hr, hk⟩ := cells_arr3 hf
  refine ⟨a, b, c, ?_, hk⟩
  have : csA = [Value.int .i64 a, .int .i64 b, .int .i64 c].toArray := by rw [← hr]
  rw [this]

/-- Entries that are read. -/
structure EntsR (w : World) (v : Value) (es : List Ent) : Prop where
  row : Rd w 8 v es.length (flatF Ent.cells es)
  ops : ∀ E ∈ es, OpsR w E.gv E.os
instance : Inhabited Ent := ⟨⟨0, ⟨0, 0, 0, ⟨#[]⟩, 0⟩, .slice none 0 0, [], 0⟩⟩
open Classical in
theorem open_entries {H : Type} {enc : TypeId × Value → H} {W : World} {B : Nat} {held : Bool} {v : Value} {d : DataW H} {p : List MemPlace}
    (ok : Value.okWide Try.prog W .any B 49 v) (h : DataW.Trod enc Try.prog W 0 (fun _ => true) held 49 v d p) : ∃ es : List Ent, EntsR W v es ∧ (∀ E ∈ es, E.Ok) ∧ (Rows.uptoBulk d ≤ 1048576 → ∀ E ∈ es, E.Small) := by
  obtain ⟨a, len, cap, rfl⟩ := okWide_slice Try.underlying49 ok
  obtain ⟨fuel, hf⟩ := h
  obtain ⟨v, es, hcs, h1, h2, h3⟩ := cells_structsW (f := Ent.cells) (k := 8) (Q := fun E => OpsR W E.gv E.os ∧ E.Ok) (fun E => if E.Small then 0 else 1048576) Try.underlying49 (by kernel_rfl) (fun _ => rfl) (by omega) (fun fuel cs z h => by
    obtain ⟨E, hE, ho, hk, hs⟩ := cells_ent h
    obtain ⟨xs, n, -, hxy, -⟩ := DataW.trod_struct Try.underlying35 h
    have h1 : 1 ≤ Rows.uptoBulk z.1 := by rw [hxy]; simp only [Rows.uptoBulk]; omega
    refine ⟨E, hE, ⟨ho, hk⟩, ?_⟩
    split
    · omega
    · rename_i hn
      have : ¬ Rows.uptoBulk z.1 ≤ 1048576 := fun h => hn (hs h)
      omega) hf
  simp [Value.cells] at hcs
  subst hcs
  refine ⟨es, ⟨h1, fun E hE => (h2 E hE).1⟩, fun E hE => (h2 E hE).2, fun hb E hE => ?_⟩
  have hm := sum_mem (fun E : Ent => if E.Small then 0 else 1048576) hE
  by_cases hs : E.Small
  · exact hs
  · simp only [if_neg hs] at hm
    have h3 : (es.map (fun E : Ent => if E.Small then 0 else 1048576)).sum + es.length + 1 ≤ Rows.uptoBulk d := h3
    have : 0 < es.length := List.length_pos_of_mem hE
    omega
end Go.Proofs.Ytkabfjbmofpkdaa

/- Layer 14: PartsOnce's state: the ledger's box, the list of the epochs' records. -/
namespace Go.Proofs.Ytkabfjbmofpkdaa
open Go.RowKit Go.Shelf
set_option maxRecDepth 100000

theorem tyRecss : STy Try.prog 50 24 (.slice none 0 0) 1 24 := .of Try.underlying50 (by kernel_rfl) rfl (by omega)

/-- The box S of the ledger, and the list of the epochs' records. -/
structure OSt (S : Nat) (X wr : World) (L : Led) (av : Value) (vs : List Value) (all : List (List Rec)) : Prop where
  box : BoxL wr S L
  bf : ∀ j, wr.frozen? ⟨S, j, none⟩ = false
  led : LedN wr X.heap.size L
  row : wr.ownsRow X.heap.size 24 1 av vs.length vs
  lv : vs.length = all.length
  recs : ∀ k, ∀ h1 : k < vs.length, ∀ h2 : k < all.length, wr.ownsRow X.heap.size 33 5 vs[k] all[k].length (flatF Rec.cells all[k])
  only : Only (fun j => j = S) X wr
theorem OSt.lt {S : Nat} {X wr : World} {L : Led} {av : Value} {vs : List Value} {all : List (List Rec)} (h : OSt S X wr L av vs all) : S < wr.heap.size := World.block_lt_of_cell? wr _ (h.box 0 _ rfl)
theorem OSt.there {S : Nat} {X wr : World} {L : Led} {av : Value} {vs : List Value} {all : List (List Rec)} (h : OSt S X wr L av vs all) : wr.there S 0 16 := fun j hj => by
  have hx : ∃ u, L.cells[j]? = some u := ⟨_, List.getElem?_eq_getElem (by show j < 16; exact hj)⟩
  obtain ⟨u, hu⟩ := hx
  rw [Nat.zero_add]
  exact ⟨by rw [h.box j u hu]; rfl, h.bf j⟩
theorem OSt.later {S : Nat} {X wr W : World} {L : Led} {av : Value} {vs : List Value} {all : List (List Rec)} (h : OSt S X wr L av vs all) (hb : Below wr.heap.size wr W) : OSt S X W L av vs all :=
  ⟨h.box.later hb, fun j => (World.frozen?_of_block (a := ⟨S, j, none⟩) (hb.block S h.lt)).trans (h.bf j), h.led.below hb, ownsRow_below h.row hb (Nat.le_refl _), h.lv, fun k h1 h2 => ownsRow_below (h.recs k h1 h2) hb (Nat.le_refl _), h.only.trans (Only.of_below (S := fun _ => False) hb) (fun _ _ e => e.elim)⟩
theorem OSt.put {S : Nat} {X wr : World} {L M : Led} {av : Value} {vs : List Value} {all : List (List Rec)} (h : OSt S X wr L av vs all) (hS : S < X.heap.size) (hM : LedN wr X.heap.size M) : OSt S X (wr.setCells S 0 M.cells) M av vs all := by
  have ho := only_cells wr S M.cells 0
  have hh : ∀ {e : TypeId} {sz n : Nat} {v : Value} {xs : List Value}, wr.ownsRow X.heap.size e sz v n xs → (wr.setCells S 0 M.cells).ownsRow X.heap.size e sz v n xs := fun h =>
    ownsRow_only h ho (fun g hg hs => by have := (World.ownsRow.lt h g hg).1; omega)
  refine ⟨fun j v hj => ?_, fun j => ?_, hM.only ho (fun j e => by omega), hh h.row, h.lv, fun k h1 h2 => hh (h.recs k h1 h2), h.only.trans ho (fun _ _ e => e)⟩
  · have := World.rangeAt_setCells_same wr S 0 M.cells h.there j v hj
    rwa [Nat.zero_add] at this
  · rw [World.frozen?_setCells]; exact h.bf j
theorem OSt.push {S : Nat} {X wr W : World} {L : Led} {av av' v : Value} {vs : List Value} {all : List (List Rec)} {rs : List Rec} (h : OSt S X wr L av vs all) (hS : S < X.heap.size) (hv : wr.ownsRow X.heap.size 33 5 v rs.length (flatF Rec.cells rs))
    (hm : W.ownsRow X.heap.size 24 1 av' (vs.length + 1) (vs ++ [v])) (hg : wr.grownBy W av.ownBlock) : OSt S X W L av' (vs ++ [v]) (all ++ [rs]) := by
  have ho := Only.of_grown hg
  have hlo : ∀ g, av.ownBlock = some g → X.heap.size ≤ g := fun g e => (World.ownsRow.lt h.row g e).1
  have hno : ¬ av.ownBlock = some S := fun e => by have := hlo _ e; omega
  have hl := h.led
  refine ⟨fun j v hj => ho.cell hno (h.box j v hj), fun j => (ho.frozen h.lt hno).trans (h.bf j), ⟨own_otherT h.row hl.rows (by decide) hg, own_otherT h.row hl.opn (by decide) hg, own_otherT h.row hl.bats (by decide) hg, fun b hb => own_otherT h.row (hl.recs b hb) (by decide) hg, own_otherT h.row hl.ops (by decide) hg, fun o hq => own_otherT h.row (hl.ins o hq) (by decide) hg⟩,
    by rw [List.length_append]; exact hm, by simp [h.lv], fun k h1 h2 => ?_, h.only.trans ho (fun j hj e => by have := hlo j e; omega)⟩
  by_cases hk : k < vs.length
  · have hk' : k < all.length := by have := h.lv; omega
    rw [List.getElem_append_left hk, List.getElem_append_left hk']
    exact own_otherT h.row (h.recs k hk hk') (by decide) hg
  · have e1 : k = vs.length := by rw [List.length_append] at h1; simp at h1; omega
    have e2 : k = all.length := by have := h.lv; omega
    have h3 : (vs ++ [v])[k] = v := by subst e1; simp
    have h4 : (all ++ [rs])[k] = rs := by simp [e2]
    rw [h3, h4]
    exact own_otherT h.row hv (by decide) hg

theorem batchOf_same {L M : Led} (h : SameL L M) (ep : Int) : M.batchOf ep = L.batchOf ep := by
  have hf : (M.bats.find? (fun b => b.ep == ep)).map Bt.con = (L.bats.find? (fun b => b.ep == ep)).map Bt.con := by
    have e : ∀ bs : List Bt, (bs.find? (fun b => b.ep == ep)).map Bt.con = (bs.map Bt.con).find? (fun c => c.1 == ep) := fun bs => by
      rw [List.find?_map]; rfl
    rw [e, e, h.bats]
  unfold Led.batchOf
  rw [h.good]
  cases h1 : M.bats.find? (fun b => b.ep == ep) with
  | none =>
    cases h2 : L.bats.find? (fun b => b.ep == ep) with
    | none => rfl
    | some c => rw [h1, h2] at hf; cases hf
  | some b =>
    cases h2 : L.bats.find? (fun b => b.ep == ep) with
    | none => rw [h1, h2] at hf; cases hf
    | some c =>
      rw [h1, h2] at hf
      have := Option.some.inj hf
      have e2 : b.recs = c.recs := congrArg (·.2) this
      simp only [e2]

theorem ent_at {w : World} {a : Option Addr} {n cap : Nat} {es : List Ent} (h : EntsR w (.slice a n cap) es) (i : Nat) (hi : i < es.length) :
    ∃ b o, a = some ⟨b, o, none⟩ ∧ w.cell? ⟨b, o + i * 8, none⟩ = some (.int .i64 es[i].k) ∧ w.cell? ⟨b, o + i * 8 + 1, none⟩ = some (.int .i64 es[i].r.p) ∧ w.cell? ⟨b, o + i * 8 + 2, none⟩ = some (.int .i64 es[i].r.s) ∧ w.cell? ⟨b, o + i * 8 + 3, none⟩ = some (.int .i64 es[i].r.q) ∧
      w.cell? ⟨b, o + i * 8 + 4, none⟩ = some (.string es[i].r.key) ∧ w.cell? ⟨b, o + i * 8 + 5, none⟩ = some (.int .u32 es[i].r.val) ∧ w.cell? ⟨b, o + i * 8 + 6, none⟩ = some es[i].gv ∧ w.cell? ⟨b, o + i * 8 + 7, none⟩ = some (.int .i64 es[i].n) := by
  obtain ⟨b, o, rfl, hc⟩ := rdF_at (k := 8) (f := Ent.cells) (fun _ => rfl) h.row i hi
  exact ⟨b, o, rfl, hc 0 _ (by omega) rfl, hc 1 _ (by omega) rfl, hc 2 _ (by omega) rfl, hc 3 _ (by omega) rfl, hc 4 _ (by omega) rfl, hc 5 _ (by omega) rfl, hc 6 _ (by omega) rfl, hc 7 _ (by omega) rfl⟩
end Go.Proofs.Ytkabfjbmofpkdaa

/- Layer 14: PartsOnce: what a round's Apply leaves; the row of numbers. -/
namespace Go.Proofs.Ytkabfjbmofpkdaa
open Go.RowKit Go.Shelf
set_option maxRecDepth 100000

theorem EntsR.below {w w' : World} {v : Value} {es : List Ent} (h : EntsR w v es) {B : Nat} (hb : Below B w w') (hB : w.heap.size ≤ B) : EntsR w' v es := ⟨h.row.below hb hB, fun E hE => (h.ops E hE).below hb hB⟩
theorem LedN.one {w : World} {base : Nat} {L : Led} (h : LedN w base L) : L.cells.toArray.all (·.oneCell') = true := led_all L (own_one h.rows) (own_one h.opn) (own_one h.bats) (own_one h.ops)
theorem there_later {w w' : World} {b n : Nat} (h : w.there b 0 n) (hb : Below w.heap.size w w') (hlt : b < w.heap.size) : w'.there b 0 n := fun j hj => by
  obtain ⟨h1, h2⟩ := h j hj
  exact ⟨by rw [World.cell?_of_block (hb.block _ hlt)]; exact h1, by rw [World.frozen?_of_block (hb.block _ hlt)]; exact h2⟩
theorem boxL_set {w : World} {b : Nat} (h : w.there b 0 16) (M : Led) : BoxL (w.setCells b 0 M.cells) b M := fun j v hj => by
  have := World.rangeAt_setCells_same w b 0 M.cells h j v hj
  rwa [Nat.zero_add] at this

/-- What stands behind the round's Apply, in a box of its own. -/
structure AA (X wr W : World) (L : Led) (E : Ent) (T : Nat) (M : Led) : Prop where
  same : SameL (applyL L E).1 M
  led : LedN W X.heap.size M
  box : BoxL W T M
  b : Below wr.heap.size wr W
  hT : wr.heap.size ≤ T
theorem LedN.grown {w W : World} {base base' n : Nat} {av : Value} {vs : List Value} {M : Led} (hr : w.ownsRow base' 24 1 av n vs) (hl : LedN w base M) (hg : w.grownBy W av.ownBlock) : LedN W base M :=
  ⟨own_otherT hr hl.rows (by decide) hg, own_otherT hr hl.opn (by decide) hg, own_otherT hr hl.bats (by decide) hg, fun b hb => own_otherT hr (hl.recs b hb) (by decide) hg, own_otherT hr hl.ops (by decide) hg, fun o hq => own_otherT hr (hl.ins o hq) (by decide) hg⟩
theorem AA.first {X wr w3 : World} {L M : Led} {E : Ent} (hx : X.heap.size ≤ wr.heap.size) (hs : SameL (applyL L E).1 M) (hN : LedN w3 wr.heap.size M) (hb : Below wr.heap.size wr w3) :
    AA X wr ((w3.alloc (.cells zero16 30)).setCells w3.heap.size 0 M.cells) L E w3.heap.size M :=
  ⟨hs, (hN.below (box_new w3 M).2).mono hx, (box_new w3 M).1, below_go hb (box_new w3 M).2, hb.size⟩
theorem AA.last {X wr w3 : World} {L M : Led} {E : Ent} (hx : X.heap.size ≤ wr.heap.size) (hs : SameL (applyL L E).1 M) (hN : LedN w3 (wr.alloc (.cells zero16 30)).heap.size M) (hb : Below (wr.alloc (.cells zero16 30)).heap.size (wr.alloc (.cells zero16 30)) w3) :
    AA X wr (w3.setCells wr.heap.size 0 M.cells) L E wr.heap.size M := by
  have ho := only_cells w3 wr.heap.size M.cells 0
  have ht : w3.there wr.heap.size 0 16 := there_later (there_new wr) hb (by simp)
  refine ⟨hs, (hN.only ho (fun j e => by subst e; simp)).mono (by simp; omega), boxL_set ht M, ?_, Nat.le_refl _⟩
  have h1 := below_go (below_alloc wr (.cells zero16 30)) hb
  exact h1.trans (ho.below h1.size (fun j hj e => by omega))

/-- How often each number was seen. -/
def seen (d : List Rec) : List Value := (List.range 512).map fun j => .int .i64 (cnt d (j / 8 : Nat) (j % 8 : Nat))
theorem seen_length (d : List Rec) : (seen d).length = 512 := by simp [seen]
theorem seen_at (d : List Rec) (p q : Int) (j : Nat) (hp : 0 ≤ p) (hp2 : p ≤ 63) (hq : 0 ≤ q) (hq2 : q < 8) (hj : (j : Int) = 8 * p + q) : j < 512 ∧ (seen d)[j]? = some (.int .i64 (cnt d p q)) := by
  have h1 : ((j / 8 : Nat) : Int) = p := by omega
  have h2 : ((j % 8 : Nat) : Int) = q := by omega
  have h3 : j < 512 := by omega
  refine ⟨h3, ?_⟩
  unfold seen
  rw [List.getElem?_map, List.getElem?_range h3, Option.map_some, h1, h2]
theorem seen_set (d : List Rec) (r : Rec) (j : Nat) (hp : 0 ≤ r.p) (hp2 : r.p ≤ 63) (hq : 0 ≤ r.q) (hq2 : r.q < 8) (hj : (j : Int) = 8 * r.p + r.q) : (seen d).set j (.int .i64 ((cnt d r.p r.q : Int) + 1)) = seen (d ++ [r]) := by
  apply List.ext_getElem?
  intro k
  rw [List.getElem?_set, seen_length]
  by_cases hk : k < 512
  · have hR : (seen (d ++ [r]))[k]? = some (.int .i64 (cnt (d ++ [r]) (k / 8 : Nat) (k % 8 : Nat))) := by
      unfold seen
      rw [List.getElem?_map, List.getElem?_range hk, Option.map_some]
    have hL : (seen d)[k]? = some (.int .i64 (cnt d (k / 8 : Nat) (k % 8 : Nat))) := by
      unfold seen
      rw [List.getElem?_map, List.getElem?_range hk, Option.map_some]
    rw [hR, cnt_append, cnt_one]
    by_cases e : j = k
    · subst e
      have h1 : ((j / 8 : Nat) : Int) = r.p := by omega
      have h2 : ((j % 8 : Nat) : Int) = r.q := by omega
      rw [if_pos rfl, if_pos hk, h1, h2, if_pos ⟨rfl, rfl⟩]
      simp
    · rw [if_neg e, hL, if_neg (by omega)]
      simp
  · rw [if_neg (by omega), List.getElem?_eq_none (by rw [seen_length]; omega), List.getElem?_eq_none (by rw [seen_length]; omega)]
theorem seen_nil : seen [] = List.replicate 512 (.int .i64 0) := by
  apply List.ext_getElem?
  intro k
  unfold seen
  rw [List.getElem?_map, List.getElem?_replicate]
  by_cases hk : k < 512
  · rw [List.getElem?_range hk, if_pos hk]; rfl
  · rw [List.getElem?_eq_none (by simp; omega), if_neg hk]; rfl

/-- What stands ahead of place k of row i. -/
def ahead (all : List (List Rec)) (i k : Nat) : List Rec := (all.take i).flatten ++ (all[i]?.getD []).take k
theorem ahead_zero (all : List (List Rec)) : ahead all 0 0 = [] := by simp [ahead]
theorem ahead_succ {all : List (List Rec)} {i k : Nat} (hi : i < all.length) (hk : k < all[i].length) : ahead all i (k + 1) = ahead all i k ++ [all[i][k]] := by
  unfold ahead
  rw [List.getElem?_eq_getElem hi, Option.getD_some, List.take_succ_eq_append_getElem hk, List.append_assoc]
theorem ahead_next {all : List (List Rec)} {i : Nat} (hi : i < all.length) : ahead all (i + 1) 0 = ahead all i all[i].length := by
  unfold ahead
  rw [List.getElem?_eq_getElem hi, Option.getD_some, List.take_length, List.take_zero, List.append_nil, List.take_succ_eq_append_getElem hi, List.flatten_append]
  simp
theorem ahead_split {all : List (List Rec)} {i k : Nat} (hi : i < all.length) (hk : k < all[i].length) : ∃ b, all.flatten = ahead all i k ++ all[i][k] :: b := by
  refine ⟨all[i].drop (k + 1) ++ (all.drop (i + 1)).flatten, ?_⟩
  have h1 : all = all.take i ++ all[i] :: all.drop (i + 1) := by
    rw [← List.drop_eq_getElem_cons hi, List.take_append_drop]
  have h2 : all[i] = all[i].take k ++ all[i][k] :: all[i].drop (k + 1) := by
    rw [← List.drop_eq_getElem_cons hk, List.take_append_drop]
  have h3 : all.flatten = (all.take i).flatten ++ (all[i] ++ (all.drop (i + 1)).flatten) := by
    conv => lhs; rw [h1]
    rw [List.flatten_append, List.flatten_cons]
  unfold ahead
  rw [List.getElem?_eq_getElem hi, Option.getD_some, h3]
  have h4 : ∀ F : List Rec, all[i] ++ F = all[i].take k ++ all[i][k] :: (all[i].drop (k + 1) ++ F) := fun F => by
    rw [← List.cons_append, ← List.append_assoc, ← h2]
  rw [h4, List.append_assoc]
theorem ahead_order {all : List (List Rec)} (ho : InOrder all.flatten) (hf : InForm all.flatten) {i k : Nat} (hi : i < all.length) (hk : k < all[i].length) :
    all[i][k].s = cnt (ahead all i k) all[i][k].p all[i][k].q ∧ 0 ≤ all[i][k].p ∧ all[i][k].p ≤ 63 ∧ 0 ≤ all[i][k].q ∧ all[i][k].q < 8 := by
  obtain ⟨b, hb⟩ := ahead_split hi hk
  refine ⟨ho _ _ _ hb, hf _ ?_⟩
  rw [hb]
  simp
theorem flatten_le : ∀ (all : List (List Rec)), (∀ a ∈ all, a.length ≤ 512) → all.flatten.length ≤ all.length * 512
  | [], _ => by simp
  | a :: r, h => by
    have h1 := h a (by simp)
    have h2 := flatten_le r (fun x hx => h x (by simp [hx]))
    simp only [List.flatten_cons, List.length_append, List.length_cons]
    omega
theorem ahead_len {all : List (List Rec)} (h : ∀ a ∈ all, a.length ≤ 512) {i k : Nat} (hi : i < all.length) (hk : k < all[i].length) : (ahead all i k).length ≤ all.length * 512 := by
  obtain ⟨b, hb⟩ := ahead_split hi hk
  have := flatten_le all h
  rw [hb] at this
  simp at this
  omega
theorem made_one (z : Value) (n : Nat) : (madeCells #[z] n).toList = List.replicate n z := by
  apply List.ext_getElem?
  intro k
  rw [List.getElem?_replicate]
  by_cases hk : k < n
  · rw [if_pos hk]; simp [madeCells, hk, Nat.mod_one]
  · rw [if_neg hk, List.getElem?_eq_none (by simp [madeCells]; omega)]
/-- make of n elements. -/
theorem make_full {P : Program} {ops : Array Oper} {rest : List Oper} {o : Oper} {a : Act} {Q : Exit → Act → World → Prop} {w : World} {x y : Operand} {t e : TypeId} {z : Value} {bytes base n : Nat} (T : STy P t e z 1 bytes) (hz1 : z.cells = #[z])
    (hgd : Region.wanted o (yielded ops a.tmps) = true) (ho : o.op = .makeSlice t x y) (hx : a.eval x = .int .i64 (n : Int)) (hy : a.eval y = .int .i64 (n : Int)) (hb : bytes * n ≤ 281474976710656) (hm : n ≤ 9223372036854775807) (hbase : base ≤ w.heap.size)
    (h : ∀ w', w'.ownsRow base e 1 (.slice (some ⟨w.heap.size, 0, none⟩) n n) n (List.replicate n z) → w.grownBy w' none → wpList P ops Q rest (a.put o.dst (.slice (some ⟨w.heap.size, 0, none⟩) n n)) w') : wpList P ops Q (o :: rest) a w := by
  obtain ⟨i, hi, hz, hsz, hby⟩ := T.hi
  obtain ⟨w', hrun, h1, h2⟩ := run_make_full (P := P) w base t e i z 1 T.ht hi hz hsz .i64 .i64 n (by rw [hby]; exact hb) (by unfold maxLen; omega) hbase
  rw [Nat.mul_one, hz1, made_one] at h1
  refine list_value hgd ?_ (h w' h1 h2)
  simp [execOp, ho, hx, hy, hrun, Result.andThen]
theorem own_at {w : World} {base e sz n : Nat} {v : Value} {xs : List Value} (h : w.ownsRow base e sz v n xs) (hn : 0 < n) : ∃ g cap, v = .slice (some ⟨g, 0, none⟩) n cap ∧ ∀ j u, xs[j]? = some u → w.cell? ⟨g, j, none⟩ = some u := by
  have h' := h
  rcases h.2 with ⟨_, h0⟩ | ⟨g, cap, cur, rfl, _⟩
  · omega
  · refine ⟨g, cap, rfl, fun j u hj => ?_⟩
    have := World.ownsRow.cells h' (g := g) rfl j _ hj
    rwa [add_off, Nat.zero_add] at this
theorem LedIn.mono {P Q : Nat → Prop} {L : Led} (h : LedIn P L) (hPQ : ∀ j, P j → Q j) : LedIn Q L :=
  ⟨fun g e => hPQ g (h.rows g e), fun g e => hPQ g (h.opn g e), fun g e => hPQ g (h.bats g e), fun b hb g e => hPQ g (h.recs b hb g e), fun g e => hPQ g (h.ops g e), fun o ho g e => hPQ g (h.ins o ho g e)⟩
theorem LedN.off {w w' : World} {base : Nat} {L : Led} {P T : Nat → Prop} (h : LedN w base L) (hi : LedIn P L) (ho : Only T w w') (hT : ∀ j, P j → ¬ T j) : LedN w' base L :=
  ⟨ownsRow_only h.rows ho (fun g e => hT g (hi.rows g e)), ownsRow_only h.opn ho (fun g e => hT g (hi.opn g e)), ownsRow_only h.bats ho (fun g e => hT g (hi.bats g e)), fun b hb => ownsRow_only (h.recs b hb) ho (fun g e => hT g (hi.recs b hb g e)), ownsRow_only h.ops ho (fun g e => hT g (hi.ops g e)), fun o hq => ownsRow_only (h.ins o hq) ho (fun g e => hT g (hi.ins o hq g e))⟩

/-- What is read while the numbers are counted. -/
structure FSt (S : Nat) (X W : World) (L : Led) (av : Value) (vs : List Value) (all : List (List Rec)) : Prop where
  box : BoxL W S L
  led : LedR W L
  row : W.ownsRow X.heap.size 24 1 av vs.length vs
  recs : ∀ k, ∀ h1 : k < vs.length, ∀ h2 : k < all.length, Recs W vs[k] all[k]
theorem FSt.at {S g n c : Nat} {X W : World} {L : Led} {vs : List Value} {all : List (List Rec)} (h : FSt S X W L (.slice (some ⟨g, 0, none⟩) n c) vs all) {k : Nat} (hk : k < vs.length) : W.cell? ⟨g, k, none⟩ = some vs[k] := by
  have := World.ownsRow.cells h.row rfl k _ (List.getElem?_eq_getElem hk)
  rwa [add_off, Nat.zero_add] at this
theorem OSt.final {S g0 G : Nat} {X V W : World} {L : Led} {av lv : Value} {vs xs : List Value} {all : List (List Rec)} (h : OSt S X V L av vs all) (hS : S < X.heap.size) (hX : X.heap.size ≤ g0) (hl : V.ownsRow G 3 1 lv 512 xs) (hg : lv.ownBlock = some g0)
    (hin : LedIn (fun j => j < g0) L) (hvs : ∀ k (h1 : k < vs.length) g, vs[k].ownBlock = some g → g < g0) (ho : Only (fun j => j = g0) V W) : FSt S X W L av vs all := by
  refine ⟨fun j v hj => ho.cell (by omega) (h.box j v hj), (h.led.off hin ho (fun j h1 e => by omega)).reads, ownsRow_only h.row ho (fun g e1 e2 => ?_), fun k h1 h2 => Rd.of_own (ownsRow_only (h.recs k h1 h2) ho (fun g e1 e2 => by have := hvs k h1 g e1; omega))⟩
  subst e2
  exact own_apart h.row hl (by decide) g e1 hg
/-- The numbers, counted. -/
def Seen (w : World) (g0 : Nat) (d : List Rec) : Prop := w.ownsRow g0 3 1 (.slice (some ⟨g0, 0, none⟩) 512 512) 512 (seen d)
theorem Seen.cell {w : World} {g0 : Nat} {d : List Rec} (h : Seen w g0 d) {p q : Nat} (hp : p ≤ 63) (hq : q < 8) : w.cell? ⟨g0, 8 * p + q, none⟩ = some (.int .i64 (cnt d p q)) ∧ w.frozen? ⟨g0, 8 * p + q, none⟩ = false := by
  have := World.ownsRow.cells h rfl _ _ (seen_at d p q (8 * p + q) (by omega) (by omega) (by omega) (by omega) (by omega)).2
  rw [add_off, Nat.zero_add] at this
  exact ⟨this, World.ownsRow.frozenAt h _⟩
theorem Seen.below {w w' : World} {g0 : Nat} {d : List Rec} (h : Seen w g0 d) (hb : Below w.heap.size w w') : Seen w' g0 d := ownsRow_below h hb (Nat.le_refl _)
theorem Seen.put {w : World} {g0 : Nat} {d : List Rec} {r : Rec} (h : Seen w g0 d) {p q : Nat} (hp : p ≤ 63) (hq : q < 8) (ep : r.p = p) (eq : r.q = q) : Seen (w.setCell ⟨g0, 8 * p + q, none⟩ (.int .i64 ((cnt d p q : Int) + 1))) g0 (d ++ [r]) := by
  have := (World.ownsRow.stored h (8 * p + q) (.int .i64 ((cnt d p q : Int) + 1))).1
  unfold Seen
  rw [← seen_set d r (8 * p + q) (by omega) (by omega) (by omega) (by omega) (by omega), ep, eq]
  exact this
theorem Seen.first {w : World} {g0 : Nat} (h : w.ownsRow g0 3 1 (.slice (some ⟨g0, 0, none⟩) 512 512) 512 (List.replicate 512 (.int .i64 0))) : Seen w g0 [] := by
  unfold Seen; rw [seen_nil]; exact h
end Go.Proofs.Ytkabfjbmofpkdaa

/- Layer 14: PartsOnce walked. -/
namespace Go.Proofs.Ytkabfjbmofpkdaa
open Go.RowKit Go.Shelf
set_option maxRecDepth 100000
set_option linter.unusedSimpArgs false

theorem tyIntsO : STy Try.prog 54 3 (.int .i64 0) 1 8 := .of Try.underlying54 (by kernel_rfl) rfl (by omega)
theorem t_loadk {P : Program} {l : List Oper} {Q : Exit → Act → World → Prop} {S : World → Prop} {T : Act → World → Prop} {i : Nat} {o : Oper} {r : Ord} {a : Act} {w : World} {t : TypeId} {x : Operand} {b off : Nat} {cs : List Value} {d : TypeDesc}
    (ho : l[i]? = some o) (hw : Region.wanted o (yielded l.toArray a.tmps) = true) (hop : o.op = .load t x) (hx : a.eval x = .pointer (some ⟨b, off, none⟩)) (hc : ∀ W, S W → W.rangeAt b off cs)
    (hu : P.underlying t = some d) (hd : d.isRow = true) (hi : (P.info? t).map (·.size) = some cs.length) (h : wpT P l.toArray Q S T r (a.put o.dst (.agg cs.toArray)) w) : wpT P l.toArray Q S T (.take i r) a w := by
  refine t_take ho hw (fun W hW => ?_) h
  have hl := run_loadAt_mid (P := P) W b off t cs d (hc W hW) hu hd hi
  simp [execOp, hop, hx, hl, Result.andThen]

/-- A struct that is stored whole. -/
theorem t_storek {P : Program} {l : List Oper} {Q : Exit → Act → World → Prop} {S : World → Prop} {T : Act → World → Prop} {i : Nat} {o : Oper} {r : Ord} {a : Act} {w : World} {t : TypeId} {x y : Operand} {b : Nat} {cs : List Value}
    (ho : l[i]? = some o) (hw : Region.wanted o (yielded l.toArray a.tmps) = true) (hop : o.op = .store t x y) (hx : a.eval x = .pointer (some ⟨b, 0, none⟩)) (hy : a.eval y = .agg cs.toArray) (ht : w.there b 0 cs.length)
    (hi : (P.info? t).map (·.size) = some cs.length) (h1 : cs.toArray.all (·.oneCell') = true) (hS : S (w.setCells b 0 cs)) (h : wpT P l.toArray Q S T r (a.put o.dst undef) (w.setCells b 0 cs)) : wpT P l.toArray Q S T (.loud i r) a w := by
  refine t_loud ho fun K hK => ?_
  rw [if_pos hw]
  exact wp_store_mid t x y hop b 0 cs.toArray hx hy (by simpa using ht) (by simpa using hi) h1 (by simpa using hK _ _ hS h)

set_option maxHeartbeats 8000000 in
theorem once_core (v : Value) (es : List Ent) (w : World) (hE : EntsR w v es) (hok : ∀ E ∈ es, E.Ok) (hsm : ∀ E ∈ es, E.Small) :
    Calls Try.prog 5 #[v] w fun e w' => e = .returned (.bool true) ∧ Below w.heap.size w w' := by
  have HE := Lib.hid hE
  have HOK := Lib.hid hok
  have HSM := Lib.hid hsm
  obtain ⟨a, cap, rfl, hle, hcap⟩ := Rd.slice hE.row
  clear hE hok hsm
  go_enter Try.func5, Try.ntmps5
  go_wp2_with fail
  refine (known14_calls _).mono ?_
  rintro e w0 ⟨rfl, hb0⟩
  have HB0 := Lib.hid hb0
  obtain ⟨S, hS⟩ : ∃ S, S = w0.heap.size := ⟨_, rfl⟩
  have hwS : w.heap.size ≤ S := by rw [hS]; exact hb0.size
  have HS := Lib.hid hS
  clear hb0 hS
  go_upto_region 6 with fail
  obtain ⟨X, hX⟩ : ∃ X, X = w0.alloc (.cells zero16 30) := ⟨_, rfl⟩
  have hXX := hX
  unfold zero16 at hXX
  rw [← hXX, ← HS.out]
  have HX := Lib.hid hX
  have hSX : S < X.heap.size := by rw [hX, HS.out]; simp
  have HBX := Lib.hid (show Below w.heap.size w X by rw [hX]; exact below_go HB0.out (below_alloc w0 (.cells zero16 30)))
  have HST := Lib.hid (show OSt S X X zeroL (.slice none 0 0) [] [] by
    refine ⟨?_, fun j => ?_, (ledO_zero X X.heap.size).toN, World.ownsRow_nil _ _ _ _, rfl, fun k h => by simp at h, Only.refl _ _⟩
    · rw [hX, HS.out]; exact boxL_self w0 zeroL 30
    · rw [hX, HS.out]; exact World.frozen?_alloc_at _ _ _ _ rfl)
  clear hX hXX
  go_wp2_with fail
  go_loopw [4, 5, 6, 7, 8, 9, 10, 11, 12, 13, 14] (fun av nv iv _ _ _ _ _ _ _ _ wr => ∃ (i : Nat) (n : Int) (L : Led) (vs : List Value) (all : List (List Rec)), i ≤ 200 ∧ i ≤ es.length ∧ iv = .int .i64 i ∧ nv = .int .i64 n ∧ Once L all n ∧ L.Ok ∧ L.Sz (16 * i) ∧ all.length ≤ i ∧ OSt S X wr L av vs all) (fun _ _ iv _ _ _ _ _ _ _ _ _ => 200 - (intOf iv).toNat)
  case atStart => exact ⟨0, 0, zeroL, [], [], by omega, by omega, rfl, rfl, once_zero, zeroL_ok', zeroL_sz, by simp, HST.out⟩
  case round =>
    clear HST
    obtain ⟨i, n, L, vs, all, hi200, hi, rfl, rfl, ho, hok, hsz, hall, hst⟩ := hrel
    have HO := Lib.hid ho
    have HLK := Lib.hid hok
    have HSZ := Lib.hid hsz
    have HALL := Lib.hid hall
    have HST := Lib.hid hst
    have HBW := Lib.hid (show Below w.heap.size w wr from HBX.out.trans (hst.only.below (by have := HBX.out.size; omega) (fun j hj e => by omega)))
    have HER := Lib.hid (HE.out.below HBW.out (Nat.le_refl _))
    have hxw := hst.only.size
    have hn := ho.nopn
    have hnl : L.opn.length ≤ 512 := ((good_iff L).1 ho.good).1.2.1.1
    clear ho hok hsz hall hst
    subst hn
    by_cases hlt : i < es.length ∧ i < 200
    · obtain ⟨hl1, hl2⟩ := hlt
      obtain ⟨eb, eo, rfl, c0, c1, c2, c3, c4, c5, c6, c7⟩ := ent_at HER.out i hl1
      have hEO := HER.out.ops es[i] (List.getElem_mem _)
      have hEK := HOK.out es[i] (List.getElem_mem _)
      have hES := HSM.out es[i] (List.getElem_mem _)
      have HEO := Lib.hid hEO
      have HEK := Lib.hid hEK
      have HES := Lib.hid hES
      have CC := Lib.hid (show ∀ V, Below wr.heap.size wr V → V.rangeAt S 0 L.cells ∧ V.cell? ⟨eb, eo + i * 8, none⟩ = some (.int .i64 es[i].k) ∧ V.cell? ⟨eb, eo + i * 8 + 1, none⟩ = some (.int .i64 es[i].r.p) ∧ V.cell? ⟨eb, eo + i * 8 + 2, none⟩ = some (.int .i64 es[i].r.s) ∧ V.cell? ⟨eb, eo + i * 8 + 3, none⟩ = some (.int .i64 es[i].r.q) ∧ V.cell? ⟨eb, eo + i * 8 + 4, none⟩ = some (.string es[i].r.key) ∧ V.cell? ⟨eb, eo + i * 8 + 5, none⟩ = some (.int .u32 es[i].r.val) ∧ V.cell? ⟨eb, eo + i * 8 + 6, none⟩ = some es[i].gv ∧ V.cell? ⟨eb, eo + i * 8 + 7, none⟩ = some (.int .i64 es[i].n) from fun V hb => ⟨(HST.out.box.later hb).range, cell_later hb c0, cell_later hb c1, cell_later hb c2, cell_later hb c3, cell_later hb c4, cell_later hb c5, cell_later hb c6, cell_later hb c7⟩)
      clear c0 c1 c2 c3 c4 c5 c6 c7 hEO hEK hES
      generalize hEE : es[i] = E at *
      clear hEE
      go_upto_region 9 with fail
      go_cut [7, 8, 9] from 21 to 132 (fun mv cv ev wx => ∃ (M : Led) (T : Nat), mv = .pointer (some ⟨T, 0, none⟩) ∧ cv = .bool (applyL L E).2.1 ∧ ev = .int .i64 (applyL L E).2.2 ∧ AA X wr wx L E T M)
      case first =>
        refine region_t (.take 0 (.take 1 (.take 2 (.take 3 (.take 4 (.two 5 (.take 6 (.take 7 (.take 8 (.take 9 (.loud 10 (.loud 11 (.take 12 (.take 13 .done)))))))) 10 (.loud 5 (.take 6 (.take 7 (.take 8 (.take 9 (.loud 11 (.take 12 (.take 13 .done)))))))))))))) 14 (fun V => V.rangeAt S 0 L.cells ∧ V.cell? ⟨eb, eo + i * 8, none⟩ = some (.int .i64 E.k) ∧ V.cell? ⟨eb, eo + i * 8 + 1, none⟩ = some (.int .i64 E.r.p) ∧ V.cell? ⟨eb, eo + i * 8 + 2, none⟩ = some (.int .i64 E.r.s) ∧ V.cell? ⟨eb, eo + i * 8 + 3, none⟩ = some (.int .i64 E.r.q) ∧ V.cell? ⟨eb, eo + i * 8 + 4, none⟩ = some (.string E.r.key) ∧ V.cell? ⟨eb, eo + i * 8 + 5, none⟩ = some (.int .u32 E.r.val) ∧ V.cell? ⟨eb, eo + i * 8 + 6, none⟩ = some E.gv ∧ V.cell? ⟨eb, eo + i * 8 + 7, none⟩ = some (.int .i64 E.n)) (by kernel_rfl) (by kernel_rfl) (CC.out _ (Below.refl wr.heap.size wr).drew) ?_
        refine t_loadk rfl rfl rfl rfl (fun W hW => hW.1) Try.underlying30 rfl (by show _ = some 16; kernel_rfl) ?_
        simp only [Act.put, List.setIfInBounds_toArray, List.set_cons_zero, List.set_cons_succ]
        iterate 4
          first
          | (refine t_take (v := ?_) rfl rfl ?_ ?_
             rotate_left
             · intro W hW
               go_simp
               with_reducible rfl
             simp only [Act.put, List.setIfInBounds_toArray, List.set_cons_zero, List.set_cons_succ])
          | (refine t_skip rfl rfl ?_
             simp only [Act.put, List.setIfInBounds_toArray, List.set_cons_zero, List.set_cons_succ])
        refine t_two ?_ ?_
        · skip
          refine t_loud rfl (fun K hK => ?_)
          have HK := Lib.hid hK
          clear hK
          go_simp
          have hdr := (Below.refl wr.heap.size wr).drew
          refine (apply_calls L E wr.drew (HST.out.led.reads.below hdr (Nat.le_refl _)) HLK.out (HSZ.out.small (by omega)) (HEO.out.below hdr (Nat.le_refl _)) HEK.out HES.out).mono ?_
          rintro e w3 ⟨M, rfl, hS, hN, hb3⟩
          have hb3 : Below wr.heap.size wr w3 := hdr.trans hb3
          have HAA := Lib.hid (AA.first hxw hS hN.toN hb3)
          have HN1 := Lib.hid hN.toN.one
          refine HK.out _ _ (CC.out _ hb3) ?_
          clear HK
          clear hS hN hdr
          iterate 4
            first
            | (refine t_take (v := ?_) rfl rfl ?_ ?_
               rotate_left
               · intro W hW
                 go_simp
                 with_reducible rfl
               simp only [Act.put, List.setIfInBounds_toArray, List.set_cons_zero, List.set_cons_succ])
            | (refine t_skip rfl rfl ?_
               simp only [Act.put, List.setIfInBounds_toArray, List.set_cons_zero, List.set_cons_succ])
          refine t_loud rfl (fun K hK => ?_)
          have HK := Lib.hid hK
          clear hK
          go_simp
          refine HK.out _ _ (CC.out _ (below_box hb3 _)) ?_
          clear HK
          refine t_storek rfl rfl rfl rfl rfl (there_new w3) (by show _ = some 16; kernel_rfl) HN1.out (CC.out _ HAA.out.b) ?_
          simp only [Act.put, List.setIfInBounds_toArray, List.set_cons_zero, List.set_cons_succ]
          iterate 2
            first
            | (refine t_take (v := ?_) rfl rfl ?_ ?_
               rotate_left
               · intro W hW
                 go_simp
                 with_reducible rfl
               simp only [Act.put, List.setIfInBounds_toArray, List.set_cons_zero, List.set_cons_succ])
            | (refine t_skip rfl rfl ?_
               simp only [Act.put, List.setIfInBounds_toArray, List.set_cons_zero, List.set_cons_succ])
          refine t_done ?_
          simp only [List.drop_succ_cons, List.drop_zero]
          go_wp2_with fail
          simp only [NP]
          go_wp2_with fail
          go_meet
          case rel => exact ⟨M, _, rfl, rfl, rfl, HAA.out⟩
        · skip
          refine t_loud rfl (fun K hK => ?_)
          have HK := Lib.hid hK
          clear hK
          go_simp
          have hdr := (Below.refl wr.heap.size wr).drew
          refine HK.out _ _ (CC.out _ (hdr.trans (below_alloc wr.drew _))) ?_
          clear HK
          refine t_loud rfl (fun K hK => ?_)
          have HK := Lib.hid hK
          clear hK
          go_simp
          have hb1 : Below wr.heap.size wr (wr.drew.alloc (.cells zero16 30)) := hdr.trans (below_alloc wr.drew _)
          refine (apply_calls L E (wr.drew.alloc (.cells zero16 30)) (HST.out.led.reads.below hb1 (Nat.le_refl _)) HLK.out (HSZ.out.small (by omega)) (HEO.out.below hb1 (Nat.le_refl _)) HEK.out HES.out).mono ?_
          rintro e w3 ⟨M, rfl, hS, hN, hb3⟩
          have HAA := Lib.hid (AA.last (wr := wr.drew) hxw hS hN.toN hb3)
          have HAB := Lib.hid (show Below wr.heap.size wr (w3.setCells wr.heap.size 0 M.cells) from hdr.trans HAA.out.b)
          have HN1 := Lib.hid hN.toN.one
          have HTH := Lib.hid (there_later (there_new wr.drew) hb3 (by simp))
          refine HK.out _ _ (CC.out _ (hb1.trans (hb3.mono hb1.size))) ?_
          clear HK
          clear hS hN hdr hb1 hb3
          iterate 4
            first
            | (refine t_take (v := ?_) rfl rfl ?_ ?_
               rotate_left
               · intro W hW
                 go_simp
                 with_reducible rfl
               simp only [Act.put, List.setIfInBounds_toArray, List.set_cons_zero, List.set_cons_succ])
            | (refine t_skip rfl rfl ?_
               simp only [Act.put, List.setIfInBounds_toArray, List.set_cons_zero, List.set_cons_succ])
          refine t_storek rfl rfl rfl rfl rfl HTH.out (by show _ = some 16; kernel_rfl) HN1.out (CC.out _ HAB.out) ?_
          simp only [Act.put, List.setIfInBounds_toArray, List.set_cons_zero, List.set_cons_succ]
          iterate 2
            first
            | (refine t_take (v := ?_) rfl rfl ?_ ?_
               rotate_left
               · intro W hW
                 go_simp
                 with_reducible rfl
               simp only [Act.put, List.setIfInBounds_toArray, List.set_cons_zero, List.set_cons_succ])
            | (refine t_skip rfl rfl ?_
               simp only [Act.put, List.setIfInBounds_toArray, List.set_cons_zero, List.set_cons_succ])
          refine t_done ?_
          simp only [List.drop_succ_cons, List.drop_zero]
          go_wp2_with fail
          simp only [NP]
          go_wp2_with fail
          go_meet
          case rel => exact ⟨M, _, rfl, rfl, rfl, ⟨HAA.out.same, HAA.out.led, HAA.out.box, HAB.out, HAA.out.hT⟩⟩
      case rest =>
        obtain ⟨M, T, rfl, rfl, rfl, haa⟩ := hcut
        have HAA := Lib.hid haa
        have HW := Lib.hid (HST.out.later haa.b)
        have HK := Lib.hid (CC.out wc haa.b).2.1
        have HKB := Lib.hid (show ∀ V, Below wc.heap.size wc V → V.cell? ⟨eb, eo + i * 8, none⟩ = some (.int .i64 E.k) from fun V hb => cell_later hb (CC.out wc haa.b).2.1)
        have HMK := Lib.hid (haa.same.ok (apply_ok L E HLK.out HEK.out))
        have HMZ := Lib.hid (show M.Sz (16 * (i + 1)) from (haa.same.sz (apply_sz L E HSZ.out)).mono (by omega))
        have HMS := Lib.hid (show M.Small from HMZ.out.small (by omega))
        have HB0 := Lib.hid (Below.refl wc.heap.size wc)
        have HNX := Lib.hid haa.b.size
        have hgood := good_apply L E
        clear haa
        by_cases h3 : (applyL L E).2.2 = 3
        · have b3 : ((applyL L E).2.2 == 3) = true := beq_iff_eq.2 h3
          generalize (applyL L E).2.2 = GC at *
          generalize (applyL L E).2.1 = CH at *
          clear h3 hgood
          go_wp2_with fail
          go_roundw
          case rel =>
            exact ⟨i + 1, _, L, vs, all, by omega, by omega, by go_num, rfl, HO.out, HLK.out, HSZ.out.mono (by omega), by have := HALL.out; omega, HW.out⟩
          case measure => simp [intOf]; omega
        · have b3 : ((applyL L E).2.2 == 3) = false := beq_eq_false_iff_ne.2 h3
          have HGM := Lib.hid (show M.good = true by rw [HAA.out.same.good]; exact hgood.resolve_left h3)
          have hstep := HO.out.step E h3
          have HSAME := Lib.hid HAA.out.same
          have HBOX := Lib.hid HAA.out.box
          have HLED := Lib.hid HAA.out.led
          have m11 := HAA.out.box 11 _ rfl
          have m12 := HAA.out.box 12 _ rfl
          have l11 := HW.out.box 11 _ rfl
          have l12 := HW.out.box 12 _ rfl
          have hk := HK.out
          have hse := HSAME.out.sealed
          have hde := HSAME.out.decided
          obtain ⟨aa, ac, rfl⟩ := own_slice HW.out.row
          have HAB := Lib.hid (fun g e => (World.ownsRow.lt HST.out.row g e).2)
          have HTT := Lib.hid HAA.out.hT
          clear h3 hgood HST HAA CC HER
          rcases hstep with ⟨e1, e2⟩ | ⟨e1, e2, e3, o4, e5, e6⟩ | ⟨e1, e2, e3, o4, o5, e6, e7⟩ | ⟨e1, e2, e3, e4, o4, e5, e6⟩
          · rw [e2] at hse hde
            have HONC := Lib.hid (HO.out.same (e2 ▸ HSAME.out))
            have HSM := Lib.hid (show SameL M L from SameL.symm (e2 ▸ HSAME.out))
            have d1 : decide (M.sealed < L.sealed) = false := decide_eq_false (by omega)
            have d2 : decide (M.decided < L.decided) = false := decide_eq_false (by omega)
            have HAV := Lib.hid (show all.length ≤ i + 1 by have := HALL.out; omega)
            rw [e1]
            clear e1 e2 hse hde
            by_cases hc0 : (applyL L E).2.2 = 0
            · rw [hc0]
              clear hc0 b3
              go_upto_region 21 with fail
              have HWV := Lib.hid HW.out
              have HBV := Lib.hid HBOX.out
              have HLV := Lib.hid HLED.out
              clear m11 m12 l11 l12 HW HBOX HLED
              obtain ⟨V, rfl⟩ : ∃ V, V = wc := ⟨_, rfl⟩
              obtain ⟨aa2, rfl⟩ : ∃ x, x = aa := ⟨_, rfl⟩
              obtain ⟨ac2, rfl⟩ : ∃ x, x = ac := ⟨_, rfl⟩
              obtain ⟨vs2, rfl⟩ : ∃ vs2, vs2 = vs := ⟨_, rfl⟩
              obtain ⟨all2, rfl⟩ : ∃ all2, all2 = all := ⟨_, rfl⟩
              have HRT := Lib.hid HBV.out.range
              have HTS := Lib.hid HWV.out.there
              have HM1 := Lib.hid HLV.out.one
              have HWW := Lib.hid (HWV.out.put hSX HLV.out)
              go_upto_region 22 with (first | (refine wpList_load_mid rfl 30 _ rfl (T) 0 rfl (Led.cells M) _ HRT.out Try.underlying30 rfl (by show _ = some 16; kernel_rfl) ?_) | (refine wp_load_mid 30 _ rfl (T) 0 rfl (Led.cells M) _ HRT.out Try.underlying30 rfl (by show _ = some 16; kernel_rfl) ?_) | (refine wpList_store_mid rfl 30 _ _ rfl (S) 0 (Led.cells M).toArray rfl rfl HTS.out (by show _ = some 16; kernel_rfl) HM1.out ?_) | (refine wp_store_mid 30 _ _ rfl (S) 0 (Led.cells M).toArray rfl rfl HTS.out (by show _ = some 16; kernel_rfl) HM1.out ?_))
              generalize hVV : World.setCells V S 0 M.cells = V2 at *
              clear hVV
              have hd0 : 0 ≤ M.decided := ((good_iff M).1 HGM.out).1.2.1.2.1
              obtain ⟨d, hd⟩ : ∃ d : Nat, M.decided = d := ⟨M.decided.toNat, by omega⟩
              have HD := Lib.hid hd
              have m12 := HWW.out.box 12 _ rfl
              rw [hd] at m12
              clear hd hd0
              go_wp2_with fail
              clear m12
              go_loopw [12, 13, 14] (fun kv _ _ wq => ∃ k : Nat, d ≤ k ∧ kv = .int .i64 k ∧ OSt S X wq M (.slice aa2 vs2.length ac2) vs2 all2) (fun kv _ _ _ => (M.sealed - intOf kv).toNat)
              case atStart => exact ⟨d, Nat.le_refl _, rfl, HWW.out⟩
              case round =>
                obtain ⟨k, hdk, rfl, hq⟩ := hrel
                have HQ := Lib.hid hq
                have q11 := hq.box 11 _ rfl
                by_cases hlk : (k : Int) < M.sealed
                · have d3 : decide ((k : Int) < M.sealed) = true := decide_eq_true hlk
                  have hkb : (k : Int) + 1 ≤ 9223372036854775807 := by have := HMK.out.nums.1.2; omega
                  obtain ⟨hka, hbt⟩ := HONC.out.batch k (by have := HD.out; omega) hlk
                  have HBT := Lib.hid hbt
                  have hkv : k < vs2.length := by have := hq.lv; omega
                  have HRQ := Lib.hid hq.box.range
                  obtain ⟨ga, gc, hgv, hcells⟩ := own_at hq.row (by omega)
                  simp only [Value.slice.injEq, true_and] at hgv
                  obtain ⟨rfl, rfl⟩ := hgv
                  obtain ⟨xa, xc, hxv⟩ := own_slice (hq.recs k hkv hka)
                  have hck := hcells k _ (List.getElem?_eq_getElem hkv)
                  rw [hxv] at hck
                  have HXV := Lib.hid hxv
                  clear hq hcells hxv hbt
                  go_wp2_with (first | (refine wpList_load_mid rfl 30 _ rfl (S) 0 rfl (Led.cells M) _ (by exact HRQ.out) Try.underlying30 rfl (by show _ = some 16; kernel_rfl) ?_) | (refine wp_load_mid 30 _ rfl (S) 0 rfl (Led.cells M) _ (by exact HRQ.out) Try.underlying30 rfl (by show _ = some 16; kernel_rfl) ?_) | (refine list_loadk rfl rfl (b := S) (off := 0) rfl (cs := Led.cells M) Try.underlying30 rfl (by show _ = some 16; kernel_rfl) (by exact HRQ.out) ?_))
                  have hF := batch_calls M k wr HQ.out.led.reads HMK.out HMS.out
                  rw [HBT.out] at hF
                  refine hF.mono ?_
                  clear hF
                  rintro e w5 ⟨vb, rfl, hob, hb5⟩
                  obtain ⟨ba, bc, rfl⟩ := own_slice hob
                  have HVB := Lib.hid (show Recs w5 _ all2[k] from Rd.of_own hob)
                  have HQ5 := Lib.hid (HQ.out.later hb5)
                  have hck := cell_later hb5 hck
                  have q11 := cell_later hb5 q11
                  have HXR := Lib.hid (show Recs w5 (.slice xa all2[k].length xc) all2[k] by
                    have := Rd.of_own (HQ5.out.recs k hkv hka)
                    rwa [HXV.out] at this)
                  clear hob hb5
                  go_wp2_with fail
                  refine (sameRecs_calls _ _ all2[k] w5 HVB.out HXR.out).mono ?_
                  rintro e w6 ⟨rfl, hb6⟩
                  have HQ6 := Lib.hid (HQ5.out.later hb6)
                  clear hb6
                  go_wp2_with fail
                  go_roundw
                  case rel => exact ⟨k + 1, by omega, by go_num, HQ6.out⟩
                  case measure => simp [intOf]; omega
                · have d3 : decide ((k : Int) < M.sealed) = false := decide_eq_false hlk
                  clear hq
                  go_wp2_with fail
                  go_roundw
                  case rel => exact ⟨i + 1, _, M, vs2, all2, by omega, by omega, by go_num, rfl, HONC.out, HMK.out, HMZ.out, HAV.out, HQ.out⟩
                  case measure => simp [intOf]; omega
            · have b0 : ((applyL L E).2.2 != 0) = true := by simp [hc0]
              generalize (applyL L E).2.2 = GC at *
              have HRM := Lib.hid HBOX.out.range
              have HRL := Lib.hid HW.out.box.range
              clear hc0
              go_wp2_with (first | (refine wpList_load_mid rfl 30 _ rfl (T) 0 rfl (Led.cells M) _ (by exact HRM.out) Try.underlying30 rfl (by show _ = some 16; kernel_rfl) ?_) | (refine wp_load_mid 30 _ rfl (T) 0 rfl (Led.cells M) _ (by exact HRM.out) Try.underlying30 rfl (by show _ = some 16; kernel_rfl) ?_) | (refine list_loadk rfl rfl (b := T) (off := 0) rfl (cs := Led.cells M) Try.underlying30 rfl (by show _ = some 16; kernel_rfl) (by exact HRM.out) ?_) | (refine wpList_load_mid rfl 30 _ rfl (S) 0 rfl (Led.cells L) _ (by exact HRL.out) Try.underlying30 rfl (by show _ = some 16; kernel_rfl) ?_) | (refine wp_load_mid 30 _ rfl (S) 0 rfl (Led.cells L) _ (by exact HRL.out) Try.underlying30 rfl (by show _ = some 16; kernel_rfl) ?_) | (refine list_loadk rfl rfl (b := S) (off := 0) rfl (cs := Led.cells L) Try.underlying30 rfl (by show _ = some 16; kernel_rfl) (by exact HRL.out) ?_))
              refine (same14_calls M L wc HLED.out.reads HW.out.led.reads HSM.out).mono ?_
              rintro e V ⟨rfl, hb4⟩
              have m11 := cell_later hb4 m11
              have m12 := cell_later hb4 m12
              have l11 := cell_later hb4 l11
              have l12 := cell_later hb4 l12
              have HWV := Lib.hid (HW.out.later hb4)
              have HBV := Lib.hid (HBOX.out.later hb4)
              have HLV := Lib.hid (HLED.out.below hb4)
              clear hb4
              go_upto_region 21 with fail
              clear m11 m12 l11 l12 HW HBOX HLED
              obtain ⟨aa2, rfl⟩ : ∃ x, x = aa := ⟨_, rfl⟩
              obtain ⟨ac2, rfl⟩ : ∃ x, x = ac := ⟨_, rfl⟩
              obtain ⟨vs2, rfl⟩ : ∃ vs2, vs2 = vs := ⟨_, rfl⟩
              obtain ⟨all2, rfl⟩ : ∃ all2, all2 = all := ⟨_, rfl⟩
              have HRT := Lib.hid HBV.out.range
              have HTS := Lib.hid HWV.out.there
              have HM1 := Lib.hid HLV.out.one
              have HWW := Lib.hid (HWV.out.put hSX HLV.out)
              go_upto_region 22 with (first | (refine wpList_load_mid rfl 30 _ rfl (T) 0 rfl (Led.cells M) _ HRT.out Try.underlying30 rfl (by show _ = some 16; kernel_rfl) ?_) | (refine wp_load_mid 30 _ rfl (T) 0 rfl (Led.cells M) _ HRT.out Try.underlying30 rfl (by show _ = some 16; kernel_rfl) ?_) | (refine wpList_store_mid rfl 30 _ _ rfl (S) 0 (Led.cells M).toArray rfl rfl HTS.out (by show _ = some 16; kernel_rfl) HM1.out ?_) | (refine wp_store_mid 30 _ _ rfl (S) 0 (Led.cells M).toArray rfl rfl HTS.out (by show _ = some 16; kernel_rfl) HM1.out ?_))
              generalize hVV : World.setCells V S 0 M.cells = V2 at *
              clear hVV
              have hd0 : 0 ≤ M.decided := ((good_iff M).1 HGM.out).1.2.1.2.1
              obtain ⟨d, hd⟩ : ∃ d : Nat, M.decided = d := ⟨M.decided.toNat, by omega⟩
              have HD := Lib.hid hd
              have m12 := HWW.out.box 12 _ rfl
              rw [hd] at m12
              clear hd hd0
              go_wp2_with fail
              clear m12
              go_loopw [12, 13, 14] (fun kv _ _ wq => ∃ k : Nat, d ≤ k ∧ kv = .int .i64 k ∧ OSt S X wq M (.slice aa2 vs2.length ac2) vs2 all2) (fun kv _ _ _ => (M.sealed - intOf kv).toNat)
              case atStart => exact ⟨d, Nat.le_refl _, rfl, HWW.out⟩
              case round =>
                obtain ⟨k, hdk, rfl, hq⟩ := hrel
                have HQ := Lib.hid hq
                have q11 := hq.box 11 _ rfl
                by_cases hlk : (k : Int) < M.sealed
                · have d3 : decide ((k : Int) < M.sealed) = true := decide_eq_true hlk
                  have hkb : (k : Int) + 1 ≤ 9223372036854775807 := by have := HMK.out.nums.1.2; omega
                  obtain ⟨hka, hbt⟩ := HONC.out.batch k (by have := HD.out; omega) hlk
                  have HBT := Lib.hid hbt
                  have hkv : k < vs2.length := by have := hq.lv; omega
                  have HRQ := Lib.hid hq.box.range
                  obtain ⟨ga, gc, hgv, hcells⟩ := own_at hq.row (by omega)
                  simp only [Value.slice.injEq, true_and] at hgv
                  obtain ⟨rfl, rfl⟩ := hgv
                  obtain ⟨xa, xc, hxv⟩ := own_slice (hq.recs k hkv hka)
                  have hck := hcells k _ (List.getElem?_eq_getElem hkv)
                  rw [hxv] at hck
                  have HXV := Lib.hid hxv
                  clear hq hcells hxv hbt
                  go_wp2_with (first | (refine wpList_load_mid rfl 30 _ rfl (S) 0 rfl (Led.cells M) _ (by exact HRQ.out) Try.underlying30 rfl (by show _ = some 16; kernel_rfl) ?_) | (refine wp_load_mid 30 _ rfl (S) 0 rfl (Led.cells M) _ (by exact HRQ.out) Try.underlying30 rfl (by show _ = some 16; kernel_rfl) ?_) | (refine list_loadk rfl rfl (b := S) (off := 0) rfl (cs := Led.cells M) Try.underlying30 rfl (by show _ = some 16; kernel_rfl) (by exact HRQ.out) ?_))
                  have hF := batch_calls M k wr HQ.out.led.reads HMK.out HMS.out
                  rw [HBT.out] at hF
                  refine hF.mono ?_
                  clear hF
                  rintro e w5 ⟨vb, rfl, hob, hb5⟩
                  obtain ⟨ba, bc, rfl⟩ := own_slice hob
                  have HVB := Lib.hid (show Recs w5 _ all2[k] from Rd.of_own hob)
                  have HQ5 := Lib.hid (HQ.out.later hb5)
                  have hck := cell_later hb5 hck
                  have q11 := cell_later hb5 q11
                  have HXR := Lib.hid (show Recs w5 (.slice xa all2[k].length xc) all2[k] by
                    have := Rd.of_own (HQ5.out.recs k hkv hka)
                    rwa [HXV.out] at this)
                  clear hob hb5
                  go_wp2_with fail
                  refine (sameRecs_calls _ _ all2[k] w5 HVB.out HXR.out).mono ?_
                  rintro e w6 ⟨rfl, hb6⟩
                  have HQ6 := Lib.hid (HQ5.out.later hb6)
                  clear hb6
                  go_wp2_with fail
                  go_roundw
                  case rel => exact ⟨k + 1, by omega, by go_num, HQ6.out⟩
                  case measure => simp [intOf]; omega
                · have d3 : decide ((k : Int) < M.sealed) = false := decide_eq_false hlk
                  clear hq
                  go_wp2_with fail
                  go_roundw
                  case rel => exact ⟨i + 1, _, M, vs2, all2, by omega, by omega, by go_num, rfl, HONC.out, HMK.out, HMZ.out, HAV.out, HQ.out⟩
                  case measure => simp [intOf]; omega
          · have HONC := Lib.hid (o4.same HSAME.out)
            have d1 : decide (M.sealed < L.sealed) = false := decide_eq_false (by omega)
            have d2 : decide (M.decided < L.decided) = false := decide_eq_false (by omega)
            have HAV := Lib.hid (show all.length ≤ i + 1 by have := HALL.out; omega)
            have k1 : (E.k == 1) = true := beq_iff_eq.2 e3
            have k2 : (E.k == 2) = false := beq_eq_false_iff_ne.2 (by omega)
            rw [e1, e2]
            clear e1 e2 e3 hse hde o4 b3
            go_upto_region 21 with fail
            have HWV := Lib.hid HW.out
            have HBV := Lib.hid HBOX.out
            have HLV := Lib.hid HLED.out
            clear m11 m12 l11 l12 HW HBOX HLED
            obtain ⟨V, rfl⟩ : ∃ V, V = wc := ⟨_, rfl⟩
            obtain ⟨aa2, rfl⟩ : ∃ x, x = aa := ⟨_, rfl⟩
            obtain ⟨ac2, rfl⟩ : ∃ x, x = ac := ⟨_, rfl⟩
            obtain ⟨vs2, rfl⟩ : ∃ vs2, vs2 = vs := ⟨_, rfl⟩
            obtain ⟨all2, rfl⟩ : ∃ all2, all2 = all := ⟨_, rfl⟩
            have HRT := Lib.hid HBV.out.range
            have HTS := Lib.hid HWV.out.there
            have HM1 := Lib.hid HLV.out.one
            have HWW := Lib.hid (HWV.out.put hSX HLV.out)
            go_upto_region 22 with (first | (refine wpList_load_mid rfl 30 _ rfl (T) 0 rfl (Led.cells M) _ HRT.out Try.underlying30 rfl (by show _ = some 16; kernel_rfl) ?_) | (refine wp_load_mid 30 _ rfl (T) 0 rfl (Led.cells M) _ HRT.out Try.underlying30 rfl (by show _ = some 16; kernel_rfl) ?_) | (refine wpList_store_mid rfl 30 _ _ rfl (S) 0 (Led.cells M).toArray rfl rfl HTS.out (by show _ = some 16; kernel_rfl) HM1.out ?_) | (refine wp_store_mid 30 _ _ rfl (S) 0 (Led.cells M).toArray rfl rfl HTS.out (by show _ = some 16; kernel_rfl) HM1.out ?_))
            generalize hVV : World.setCells V S 0 M.cells = V2 at *
            clear hVV
            have hd0 : 0 ≤ M.decided := ((good_iff M).1 HGM.out).1.2.1.2.1
            obtain ⟨d, hd⟩ : ∃ d : Nat, M.decided = d := ⟨M.decided.toNat, by omega⟩
            have HD := Lib.hid hd
            have m12 := HWW.out.box 12 _ rfl
            rw [hd] at m12
            clear hd hd0
            go_wp2_with fail
            clear m12
            go_loopw [12, 13, 14] (fun kv _ _ wq => ∃ k : Nat, d ≤ k ∧ kv = .int .i64 k ∧ OSt S X wq M (.slice aa2 vs2.length ac2) vs2 all2) (fun kv _ _ _ => (M.sealed - intOf kv).toNat)
            case atStart => exact ⟨d, Nat.le_refl _, rfl, HWW.out⟩
            case round =>
              obtain ⟨k, hdk, rfl, hq⟩ := hrel
              have HQ := Lib.hid hq
              have q11 := hq.box 11 _ rfl
              by_cases hlk : (k : Int) < M.sealed
              · have d3 : decide ((k : Int) < M.sealed) = true := decide_eq_true hlk
                have hkb : (k : Int) + 1 ≤ 9223372036854775807 := by have := HMK.out.nums.1.2; omega
                obtain ⟨hka, hbt⟩ := HONC.out.batch k (by have := HD.out; omega) hlk
                have HBT := Lib.hid hbt
                have hkv : k < vs2.length := by have := hq.lv; omega
                have HRQ := Lib.hid hq.box.range
                obtain ⟨ga, gc, hgv, hcells⟩ := own_at hq.row (by omega)
                simp only [Value.slice.injEq, true_and] at hgv
                obtain ⟨rfl, rfl⟩ := hgv
                obtain ⟨xa, xc, hxv⟩ := own_slice (hq.recs k hkv hka)
                have hck := hcells k _ (List.getElem?_eq_getElem hkv)
                rw [hxv] at hck
                have HXV := Lib.hid hxv
                clear hq hcells hxv hbt
                go_wp2_with (first | (refine wpList_load_mid rfl 30 _ rfl (S) 0 rfl (Led.cells M) _ (by exact HRQ.out) Try.underlying30 rfl (by show _ = some 16; kernel_rfl) ?_) | (refine wp_load_mid 30 _ rfl (S) 0 rfl (Led.cells M) _ (by exact HRQ.out) Try.underlying30 rfl (by show _ = some 16; kernel_rfl) ?_) | (refine list_loadk rfl rfl (b := S) (off := 0) rfl (cs := Led.cells M) Try.underlying30 rfl (by show _ = some 16; kernel_rfl) (by exact HRQ.out) ?_))
                have hF := batch_calls M k wr HQ.out.led.reads HMK.out HMS.out
                rw [HBT.out] at hF
                refine hF.mono ?_
                clear hF
                rintro e w5 ⟨vb, rfl, hob, hb5⟩
                obtain ⟨ba, bc, rfl⟩ := own_slice hob
                have HVB := Lib.hid (show Recs w5 _ all2[k] from Rd.of_own hob)
                have HQ5 := Lib.hid (HQ.out.later hb5)
                have hck := cell_later hb5 hck
                have q11 := cell_later hb5 q11
                have HXR := Lib.hid (show Recs w5 (.slice xa all2[k].length xc) all2[k] by
                  have := Rd.of_own (HQ5.out.recs k hkv hka)
                  rwa [HXV.out] at this)
                clear hob hb5
                go_wp2_with fail
                refine (sameRecs_calls _ _ all2[k] w5 HVB.out HXR.out).mono ?_
                rintro e w6 ⟨rfl, hb6⟩
                have HQ6 := Lib.hid (HQ5.out.later hb6)
                clear hb6
                go_wp2_with fail
                go_roundw
                case rel => exact ⟨k + 1, by omega, by go_num, HQ6.out⟩
                case measure => simp [intOf]; omega
              · have d3 : decide ((k : Int) < M.sealed) = false := decide_eq_false hlk
                clear hq
                go_wp2_with fail
                go_roundw
                case rel => exact ⟨i + 1, _, M, vs2, all2, by omega, by omega, by go_num, rfl, HONC.out, HMK.out, HMZ.out, HAV.out, HQ.out⟩
                case measure => simp [intOf]; omega
          · have HONC := Lib.hid (o4.same HSAME.out)
            have HBT := Lib.hid (show M.batchOf L.sealed = (L.opn, 0) by rw [batchOf_same HSAME.out]; exact o5)
            have d1 : decide (M.sealed < L.sealed) = false := decide_eq_false (by omega)
            have d2 : decide (M.decided < L.decided) = false := decide_eq_false (by omega)
            have HAV := Lib.hid (show (all ++ [L.opn]).length ≤ i + 1 by have := HALL.out; rw [List.length_append]; simp; omega)
            have k1 : (E.k == 1) = false := beq_eq_false_iff_ne.2 (by omega)
            have k2 : (E.k == 2) = true := beq_iff_eq.2 e3
            have HRM := Lib.hid HBOX.out.range
            have hvl : vs.length ≤ 200 := by have := HW.out.lv; have := HALL.out; omega
            have hal := HALL.out
            rw [e1, e2]
            clear e1 e2 e3 hse hde o4 o5 b3
            go_wp2_with (first | (refine wpList_load_mid rfl 30 _ rfl (T) 0 rfl (Led.cells M) _ (by exact HRM.out) Try.underlying30 rfl (by show _ = some 16; kernel_rfl) ?_) | (refine wp_load_mid 30 _ rfl (T) 0 rfl (Led.cells M) _ (by exact HRM.out) Try.underlying30 rfl (by show _ = some 16; kernel_rfl) ?_) | (refine list_loadk rfl rfl (b := T) (off := 0) rfl (cs := Led.cells M) Try.underlying30 rfl (by show _ = some 16; kernel_rfl) (by exact HRM.out) ?_))
            have hF := batch_calls M L.sealed wc HLED.out.reads HMK.out HMS.out
            rw [HBT.out] at hF
            refine hF.mono ?_
            clear hF
            rintro e w5 ⟨vb, rfl, hob, hb5⟩
            obtain ⟨ba, bc, rfl⟩ := own_slice hob
            have HVB := Lib.hid (ownsRow_mono hob (Nat.le_trans hxw HNX.out))
            have HW5 := Lib.hid (HW.out.later hb5)
            have HB5 := Lib.hid (HBOX.out.later hb5)
            have HL5 := Lib.hid (HLED.out.below hb5)
            clear hob hb5 m11 m12 l11 l12 HW HBOX HLED
            go_upto_region 21 with (at_builtin; go_loud (refine app_list tyRecss (HW5.out.row.alloc _) (Rd.lit (n := 1) rfl (by omega)) (by simp [Value.oneCell']) (by omega) (by omega) (by have := HW5.out.only.size; simp; omega) rfl rfl rfl rfl ?_; intro v6 V hm6 hg6 hn6))
            have h5a := below_alloc w5 (.cells #[.slice ba L.opn.length bc] 24)
            have HWV := Lib.hid ((HW5.out.later h5a).push hSX (ownsRow_below HVB.out h5a (Nat.le_refl _)) hm6 hg6)
            have HLV := Lib.hid ((HL5.out.below h5a).grown (HW5.out.later h5a).row hg6)
            have HBV := Lib.hid (show BoxL V T M from fun j v hj => (Only.of_grown hg6).cell (fun e => by have := HAB.out T e; have := HTT.out; omega) ((HB5.out.later h5a) j v hj))
            obtain ⟨aa2, ac2, rfl⟩ := own_slice hm6
            have hl6 : (vs ++ [Value.slice ba L.opn.length bc]).length = vs.length + 1 := by simp
            rw [← hl6] at HWV ⊢
            clear hm6 hg6 hn6 h5a HW5 HL5 HB5 HVB hl6
            generalize vs ++ [Value.slice ba L.opn.length bc] = vs2 at *
            generalize all ++ [L.opn] = all2 at *
            have HRT := Lib.hid HBV.out.range
            have HTS := Lib.hid HWV.out.there
            have HM1 := Lib.hid HLV.out.one
            have HWW := Lib.hid (HWV.out.put hSX HLV.out)
            go_upto_region 22 with (first | (refine wpList_load_mid rfl 30 _ rfl (T) 0 rfl (Led.cells M) _ HRT.out Try.underlying30 rfl (by show _ = some 16; kernel_rfl) ?_) | (refine wp_load_mid 30 _ rfl (T) 0 rfl (Led.cells M) _ HRT.out Try.underlying30 rfl (by show _ = some 16; kernel_rfl) ?_) | (refine wpList_store_mid rfl 30 _ _ rfl (S) 0 (Led.cells M).toArray rfl rfl HTS.out (by show _ = some 16; kernel_rfl) HM1.out ?_) | (refine wp_store_mid 30 _ _ rfl (S) 0 (Led.cells M).toArray rfl rfl HTS.out (by show _ = some 16; kernel_rfl) HM1.out ?_))
            generalize hVV : World.setCells V S 0 M.cells = V2 at *
            clear hVV
            have hd0 : 0 ≤ M.decided := ((good_iff M).1 HGM.out).1.2.1.2.1
            obtain ⟨d, hd⟩ : ∃ d : Nat, M.decided = d := ⟨M.decided.toNat, by omega⟩
            have HD := Lib.hid hd
            have m12 := HWW.out.box 12 _ rfl
            rw [hd] at m12
            clear hd hd0
            go_wp2_with fail
            clear m12
            go_loopw [12, 13, 14] (fun kv _ _ wq => ∃ k : Nat, d ≤ k ∧ kv = .int .i64 k ∧ OSt S X wq M (.slice aa2 vs2.length ac2) vs2 all2) (fun kv _ _ _ => (M.sealed - intOf kv).toNat)
            case atStart => exact ⟨d, Nat.le_refl _, rfl, HWW.out⟩
            case round =>
              obtain ⟨k, hdk, rfl, hq⟩ := hrel
              have HQ := Lib.hid hq
              have q11 := hq.box 11 _ rfl
              by_cases hlk : (k : Int) < M.sealed
              · have d3 : decide ((k : Int) < M.sealed) = true := decide_eq_true hlk
                have hkb : (k : Int) + 1 ≤ 9223372036854775807 := by have := HMK.out.nums.1.2; omega
                obtain ⟨hka, hbt⟩ := HONC.out.batch k (by have := HD.out; omega) hlk
                have HBT := Lib.hid hbt
                have hkv : k < vs2.length := by have := hq.lv; omega
                have HRQ := Lib.hid hq.box.range
                obtain ⟨ga, gc, hgv, hcells⟩ := own_at hq.row (by omega)
                simp only [Value.slice.injEq, true_and] at hgv
                obtain ⟨rfl, rfl⟩ := hgv
                obtain ⟨xa, xc, hxv⟩ := own_slice (hq.recs k hkv hka)
                have hck := hcells k _ (List.getElem?_eq_getElem hkv)
                rw [hxv] at hck
                have HXV := Lib.hid hxv
                clear hq hcells hxv hbt
                go_wp2_with (first | (refine wpList_load_mid rfl 30 _ rfl (S) 0 rfl (Led.cells M) _ (by exact HRQ.out) Try.underlying30 rfl (by show _ = some 16; kernel_rfl) ?_) | (refine wp_load_mid 30 _ rfl (S) 0 rfl (Led.cells M) _ (by exact HRQ.out) Try.underlying30 rfl (by show _ = some 16; kernel_rfl) ?_) | (refine list_loadk rfl rfl (b := S) (off := 0) rfl (cs := Led.cells M) Try.underlying30 rfl (by show _ = some 16; kernel_rfl) (by exact HRQ.out) ?_))
                have hF := batch_calls M k wr HQ.out.led.reads HMK.out HMS.out
                rw [HBT.out] at hF
                refine hF.mono ?_
                clear hF
                rintro e w5 ⟨vb, rfl, hob, hb5⟩
                obtain ⟨ba, bc, rfl⟩ := own_slice hob
                have HVB := Lib.hid (show Recs w5 _ all2[k] from Rd.of_own hob)
                have HQ5 := Lib.hid (HQ.out.later hb5)
                have hck := cell_later hb5 hck
                have q11 := cell_later hb5 q11
                have HXR := Lib.hid (show Recs w5 (.slice xa all2[k].length xc) all2[k] by
                  have := Rd.of_own (HQ5.out.recs k hkv hka)
                  rwa [HXV.out] at this)
                clear hob hb5
                go_wp2_with fail
                refine (sameRecs_calls _ _ all2[k] w5 HVB.out HXR.out).mono ?_
                rintro e w6 ⟨rfl, hb6⟩
                have HQ6 := Lib.hid (HQ5.out.later hb6)
                clear hb6
                go_wp2_with fail
                go_roundw
                case rel => exact ⟨k + 1, by omega, by go_num, HQ6.out⟩
                case measure => simp [intOf]; omega
              · have d3 : decide ((k : Int) < M.sealed) = false := decide_eq_false hlk
                clear hq
                go_wp2_with fail
                go_roundw
                case rel => exact ⟨i + 1, _, M, vs2, all2, by omega, by omega, by go_num, rfl, HONC.out, HMK.out, HMZ.out, HAV.out, HQ.out⟩
                case measure => simp [intOf]; omega
          · have HONC := Lib.hid (o4.same HSAME.out)
            have d1 : decide (M.sealed < L.sealed) = false := decide_eq_false (by omega)
            have d2 : decide (M.decided < L.decided) = false := decide_eq_false (by omega)
            have HAV := Lib.hid (show all.length ≤ i + 1 by have := HALL.out; omega)
            have k1 : (E.k == 1) = false := beq_eq_false_iff_ne.2 e3
            have k2 : (E.k == 2) = false := beq_eq_false_iff_ne.2 e4
            rw [e1, e2]
            clear e1 e2 e3 e4 hse hde o4 b3
            go_upto_region 21 with fail
            have HWV := Lib.hid HW.out
            have HBV := Lib.hid HBOX.out
            have HLV := Lib.hid HLED.out
            clear m11 m12 l11 l12 HW HBOX HLED
            obtain ⟨V, rfl⟩ : ∃ V, V = wc := ⟨_, rfl⟩
            obtain ⟨aa2, rfl⟩ : ∃ x, x = aa := ⟨_, rfl⟩
            obtain ⟨ac2, rfl⟩ : ∃ x, x = ac := ⟨_, rfl⟩
            obtain ⟨vs2, rfl⟩ : ∃ vs2, vs2 = vs := ⟨_, rfl⟩
            obtain ⟨all2, rfl⟩ : ∃ all2, all2 = all := ⟨_, rfl⟩
            have HRT := Lib.hid HBV.out.range
            have HTS := Lib.hid HWV.out.there
            have HM1 := Lib.hid HLV.out.one
            have HWW := Lib.hid (HWV.out.put hSX HLV.out)
            go_upto_region 22 with (first | (refine wpList_load_mid rfl 30 _ rfl (T) 0 rfl (Led.cells M) _ HRT.out Try.underlying30 rfl (by show _ = some 16; kernel_rfl) ?_) | (refine wp_load_mid 30 _ rfl (T) 0 rfl (Led.cells M) _ HRT.out Try.underlying30 rfl (by show _ = some 16; kernel_rfl) ?_) | (refine wpList_store_mid rfl 30 _ _ rfl (S) 0 (Led.cells M).toArray rfl rfl HTS.out (by show _ = some 16; kernel_rfl) HM1.out ?_) | (refine wp_store_mid 30 _ _ rfl (S) 0 (Led.cells M).toArray rfl rfl HTS.out (by show _ = some 16; kernel_rfl) HM1.out ?_))
            generalize hVV : World.setCells V S 0 M.cells = V2 at *
            clear hVV
            have hd0 : 0 ≤ M.decided := ((good_iff M).1 HGM.out).1.2.1.2.1
            obtain ⟨d, hd⟩ : ∃ d : Nat, M.decided = d := ⟨M.decided.toNat, by omega⟩
            have HD := Lib.hid hd
            have m12 := HWW.out.box 12 _ rfl
            rw [hd] at m12
            clear hd hd0
            go_wp2_with fail
            clear m12
            go_loopw [12, 13, 14] (fun kv _ _ wq => ∃ k : Nat, d ≤ k ∧ kv = .int .i64 k ∧ OSt S X wq M (.slice aa2 vs2.length ac2) vs2 all2) (fun kv _ _ _ => (M.sealed - intOf kv).toNat)
            case atStart => exact ⟨d, Nat.le_refl _, rfl, HWW.out⟩
            case round =>
              obtain ⟨k, hdk, rfl, hq⟩ := hrel
              have HQ := Lib.hid hq
              have q11 := hq.box 11 _ rfl
              by_cases hlk : (k : Int) < M.sealed
              · have d3 : decide ((k : Int) < M.sealed) = true := decide_eq_true hlk
                have hkb : (k : Int) + 1 ≤ 9223372036854775807 := by have := HMK.out.nums.1.2; omega
                obtain ⟨hka, hbt⟩ := HONC.out.batch k (by have := HD.out; omega) hlk
                have HBT := Lib.hid hbt
                have hkv : k < vs2.length := by have := hq.lv; omega
                have HRQ := Lib.hid hq.box.range
                obtain ⟨ga, gc, hgv, hcells⟩ := own_at hq.row (by omega)
                simp only [Value.slice.injEq, true_and] at hgv
                obtain ⟨rfl, rfl⟩ := hgv
                obtain ⟨xa, xc, hxv⟩ := own_slice (hq.recs k hkv hka)
                have hck := hcells k _ (List.getElem?_eq_getElem hkv)
                rw [hxv] at hck
                have HXV := Lib.hid hxv
                clear hq hcells hxv hbt
                go_wp2_with (first | (refine wpList_load_mid rfl 30 _ rfl (S) 0 rfl (Led.cells M) _ (by exact HRQ.out) Try.underlying30 rfl (by show _ = some 16; kernel_rfl) ?_) | (refine wp_load_mid 30 _ rfl (S) 0 rfl (Led.cells M) _ (by exact HRQ.out) Try.underlying30 rfl (by show _ = some 16; kernel_rfl) ?_) | (refine list_loadk rfl rfl (b := S) (off := 0) rfl (cs := Led.cells M) Try.underlying30 rfl (by show _ = some 16; kernel_rfl) (by exact HRQ.out) ?_))
                have hF := batch_calls M k wr HQ.out.led.reads HMK.out HMS.out
                rw [HBT.out] at hF
                refine hF.mono ?_
                clear hF
                rintro e w5 ⟨vb, rfl, hob, hb5⟩
                obtain ⟨ba, bc, rfl⟩ := own_slice hob
                have HVB := Lib.hid (show Recs w5 _ all2[k] from Rd.of_own hob)
                have HQ5 := Lib.hid (HQ.out.later hb5)
                have hck := cell_later hb5 hck
                have q11 := cell_later hb5 q11
                have HXR := Lib.hid (show Recs w5 (.slice xa all2[k].length xc) all2[k] by
                  have := Rd.of_own (HQ5.out.recs k hkv hka)
                  rwa [HXV.out] at this)
                clear hob hb5
                go_wp2_with fail
                refine (sameRecs_calls _ _ all2[k] w5 HVB.out HXR.out).mono ?_
                rintro e w6 ⟨rfl, hb6⟩
                have HQ6 := Lib.hid (HQ5.out.later hb6)
                clear hb6
                go_wp2_with fail
                go_roundw
                case rel => exact ⟨k + 1, by omega, by go_num, HQ6.out⟩
                case measure => simp [intOf]; omega
              · have d3 : decide ((k : Int) < M.sealed) = false := decide_eq_false hlk
                clear hq
                go_wp2_with fail
                go_roundw
                case rel => exact ⟨i + 1, _, M, vs2, all2, by omega, by omega, by go_num, rfl, HONC.out, HMK.out, HMZ.out, HAV.out, HQ.out⟩
                case measure => simp [intOf]; omega
    · have hway : (¬ i < es.length) ∨ (i < es.length ∧ ¬ (i : Int) < 200) := by omega
      have HIN := Lib.hid (HST.out.led.within.mono (Q := fun j => j < wr.heap.size) (fun j h => h.2))
      have HVS := Lib.hid (show ∀ k (h1 : k < (vs ++ [L.ov]).length) g, (vs ++ [L.ov])[k].ownBlock = some g → g < wr.heap.size from fun k h1 g e => by
        by_cases hk : k < vs.length
        · rw [List.getElem_append_left hk] at e
          exact (World.ownsRow.lt (HST.out.recs k hk (by have := HST.out.lv; omega)) g e).2
        · have h3 : (vs ++ [L.ov])[k] = L.ov := by
            have e1 : k = vs.length := by rw [List.length_append] at h1; simp at h1; omega
            subst e1; simp
          rw [h3] at e
          exact (World.ownsRow.lt HST.out.led.opn g e).2)
      have hvl : vs.length ≤ 200 := by have := HST.out.lv; have := HALL.out; omega
      have hal := HALL.out
      have HORD := Lib.hid (show InOrder (all ++ [L.opn]).flatten by have := HO.out.ord; simpa using this)
      have HFRM := Lib.hid (show InForm (all ++ [L.opn]).flatten by have := HO.out.form; simpa using this)
      have HLEN := Lib.hid (show ∀ a ∈ all ++ [L.opn], a.length ≤ 512 from fun a ha => by
        rcases List.mem_append.1 ha with h | h
        · exact HO.out.lens a h
        · rw [List.mem_singleton] at h; rw [h]; exact ((good_iff L).1 HO.out.good).1.2.1.1)
      have HGD := Lib.hid HO.out.good
      have HLS := Lib.hid (show L.Small from HSZ.out.small (by omega))
      obtain ⟨aa, ac, rfl⟩ := own_slice HST.out.row
      have l9 := HST.out.box 9 _ rfl
      obtain ⟨oa, oc, hov⟩ := own_slice HST.out.led.opn
      have HOV := Lib.hid hov
      rw [hov] at l9
      obtain ⟨Z, rfl⟩ : ∃ Z, Z = wr := ⟨_, rfl⟩
      clear hlt hi hov HE HER
      rcases hway with h1 | ⟨h1, h2⟩
      all_goals
        go_upto_region 29 with (at_make; go_loud (refine make_full (base := Z.heap.size) (n := 512) tyIntsO rfl rfl rfl rfl rfl (by omega) (by omega) (Nat.le_refl _) ?_; intro w2 hm2 hg2))
        have hb2 : Below Z.heap.size Z w2 := (Below.refl Z.heap.size Z).grown hg2 (Nat.le_refl _) (by simp)
        have HSN := Lib.hid (Seen.first hm2)
        have HST2 := Lib.hid (HST.out.later hb2)
        have HB2 := Lib.hid hb2
        have l9 := cell_later hb2 l9
        clear hm2 hg2 hb2
        go_upto_region 30 with (at_builtin; go_loud (refine app_list tyRecss (HST2.out.row.alloc _) (Rd.lit (n := 1) rfl (by omega)) (by simp [Value.oneCell']) (by omega) (by omega) (by have := HST2.out.only.size; simp; omega) rfl rfl rfl rfl ?_; intro v3 V hm3 hg3 hn3))
        have hg0 : X.heap.size ≤ Z.heap.size := hxw
        have h2a := below_alloc w2 (.cells #[.slice oa L.opn.length oc] 24)
        have HST3 := Lib.hid (HST2.out.later h2a)
        have HSN3 := Lib.hid (HSN.out.below h2a)
        rw [← HOV.out] at hm3
        have HP := Lib.hid (HST3.out.push hSX HST3.out.led.opn hm3 hg3)
        have HSV := Lib.hid (show Seen V Z.heap.size [] from own_otherT HST3.out.row HSN3.out (by decide) hg3)
        have HFW := Lib.hid (fun W ho => HP.out.final (W := W) hSX hg0 HSV.out rfl HIN.out HVS.out ho)
        have HBV := Lib.hid (show Below w.heap.size w V from HBX.out.trans (HP.out.only.below (by have := HBX.out.size; omega) (fun j hj e => by omega)))
        have hl2 : (vs ++ [L.ov]).length = (all ++ [L.opn]).length := HP.out.lv
        have hl3 : (vs ++ [L.ov]).length = vs.length + 1 := by simp
        have hal2 : (all ++ [L.opn]).length ≤ 201 := by rw [List.length_append]; simp; omega
        obtain ⟨ga, gc, rfl, -⟩ := own_at hm3 (by omega)
        clear hm3 hg3 hn3 h2a HST3 HSN3 HST2 HSN HST HP HIN HVS hg0 l9 HOV HO HALL
        generalize vs ++ [L.ov] = vs2 at *
        generalize all ++ [L.opn] = all2 at *
        rw [← hl3] at HFW ⊢
        obtain ⟨m, hm⟩ : ∃ m, m = vs2.length := ⟨_, rfl⟩
        rw [← hm] at HFW hl2 ⊢
        have HMV := Lib.hid hm
        clear hl3 hvl hal hm
        go_wp2_with fail
        go_loopw [16, 17, 18] (fun iv _ _ wq => ∃ i' : Nat, i' ≤ m ∧ iv = .int .i64 i' ∧ Only (fun j => j = Z.heap.size) V wq ∧ Seen wq Z.heap.size (ahead all2 i' 0)) (fun iv _ _ _ => m - (intOf iv).toNat)
        case atStart => exact ⟨0, by omega, rfl, Only.refl _ _, by rw [ahead_zero]; exact HSV.out⟩
        case round =>
          obtain ⟨i', hi', rfl, hon, hsn⟩ := hrel
          have HON := Lib.hid hon
          have HSN := Lib.hid hsn
          have HFS := Lib.hid (HFW.out _ hon)
          clear hon hsn
          by_cases hlt : i' < m
          · have hi2 : i' < all2.length := by omega
            have hi3 : i' < vs2.length := by have := HMV.out; omega
            have hno := ahead_next hi2
            have HAO := Lib.hid (fun k => ahead_order HORD.out HFRM.out (k := k) hi2)
            have HAS := Lib.hid (fun k => ahead_succ (k := k) hi2)
            have HAL := Lib.hid (fun k => ahead_len HLEN.out (k := k) hi2)
            have hrl := HLEN.out all2[i'] (List.getElem_mem _)
            have HCE := Lib.hid (fun W ho => (HFW.out W ho).at hi3)
            have HRE := Lib.hid (fun W ho => (HFW.out W ho).recs i' hi3 hi2)
            generalize vs2[i'] = vr at *
            generalize all2[i'] = rr at *
            obtain ⟨xa, xc, rfl, -⟩ := Rd.slice (HRE.out _ HON.out)
            have HNO := Lib.hid hno
            have c0 := HCE.out _ HON.out
            clear hno
            go_upto_region 34 with fail
            generalize wr = wo at *
            clear c0
            go_loopw [17, 18] (fun kv _ wq => ∃ k : Nat, k ≤ rr.length ∧ kv = .int .i64 k ∧ Only (fun j => j = Z.heap.size) V wq ∧ Seen wq Z.heap.size (ahead all2 i' k)) (fun kv _ _ => rr.length - (intOf kv).toNat)
            case atStart => exact ⟨0, by omega, rfl, HON.out, HSN.out⟩
            case round =>
              obtain ⟨k, hk, rfl, hon, hsn⟩ := hrel
              have HON := Lib.hid hon
              have HSN := Lib.hid hsn
              have c0 := HCE.out _ hon
              have hre := HRE.out _ hon
              clear hon hsn
              by_cases hlk : k < rr.length
              · obtain ⟨rb, ro, rfl, r0, r1, r2, r3, r4⟩ := rec_at hre k hlk
                have hao := HAO.out k hlk
                have HAS1 := Lib.hid (HAS.out k hlk)
                have hcl := HAL.out k hlk
                have hcn := cnt_le (ahead all2 i' k) rr[k].p rr[k].q
                generalize rr[k] = R at *
                obtain ⟨rp, rs, rq, key, val⟩ := R
                simp only at r0 r1 r2 r3 r4 hao hcn
                obtain ⟨h5, h6, h7, h8, h9⟩ := hao
                obtain ⟨p, rfl⟩ : ∃ p : Nat, rp = p := ⟨rp.toNat, by omega⟩
                obtain ⟨q, rfl⟩ : ∃ q : Nat, rq = q := ⟨rq.toNat, by omega⟩
                have hp : p ≤ 63 := by omega
                have hq : q < 8 := by omega
                have HPUT := Lib.hid (fun (W : World) (h : Seen W Z.heap.size (ahead all2 i' k)) => h.put (r := ⟨p, rs, q, key, val⟩) hp hq rfl rfl)
                have HBR := Lib.hid (below_alloc wr (.cells #[.int .i64 p, .int .i64 rs, .int .i64 q, .string key, .int .u32 val] 33))
                have HSN2 := Lib.hid (HSN.out.below HBR.out)
                obtain ⟨m0, f0⟩ := HSN2.out.cell hp hq
                have q1 : IntKind.i64.wrap (8 * (p : Int)) = 8 * (p : Int) := by rw [IntKind.wrap_i64]; omega
                have q2 : IntKind.i64.wrap (8 * (p : Int) + (q : Int)) = 8 * (p : Int) + (q : Int) := by rw [IntKind.wrap_i64]; omega
                have q3 : (0 : Int) ≤ 8 * (p : Int) + (q : Int) := by omega
                have q4 : 8 * (p : Int) + (q : Int) < 512 := by omega
                have q5 : (8 * (p : Int) + (q : Int)).toNat = 8 * p + q := by omega
                have hcb : cnt (ahead all2 i' k) p q ≤ 1000000 := by omega
                generalize cnt (ahead all2 i' k) p q = C at *
                subst h5
                have q7 : IntKind.i64.wrap ((C : Int) + 1) = (C : Int) + 1 := by rw [IntKind.wrap_i64]; omega
                have q8 : ((C : Int) != (C : Int)) = false := by simp
                clear h6 h7 h8 h9 hp hq hcn hcl hre HSN HRE HAO HAS HAL
                go_upto_region 37 with fail
                have b0 := box_self (w := wr) (cs := #[.int .i64 p, .int .i64 C, .int .i64 q, .string key, .int .u32 val]) (e := 33) 0 _ rfl
                have b1 := box_self (w := wr) (cs := #[.int .i64 p, .int .i64 C, .int .i64 q, .string key, .int .u32 val]) (e := 33) 1 _ rfl
                have b2 := box_self (w := wr) (cs := #[.int .i64 p, .int .i64 C, .int .i64 q, .string key, .int .u32 val]) (e := 33) 2 _ rfl
                refine region_m [(0, false), (1, false), (2, false), (3, false), (4, false), (5, false), (6, false), (7, false), (8, false), (9, false), (10, false), (11, false)] 12 (fun V => V.cell? ⟨wr.heap.size, 0, none⟩ = some (.int .i64 p) ∧ V.cell? ⟨wr.heap.size, 1, none⟩ = some (.int .i64 C) ∧ V.cell? ⟨wr.heap.size, 2, none⟩ = some (.int .i64 q) ∧ V.cell? ⟨Z.heap.size, 8 * p + q, none⟩ = some (.int .i64 C)) (by kernel_rfl) (by kernel_rfl) ⟨b0, b1, b2, m0⟩ ?_
                iterate 12
                  first
                  | (refine m_take (v := ?_) rfl rfl ?_ ?_
                     rotate_left
                     · intro W hW
                       go_simp
                       with_reducible rfl
                     simp only [Act.put, List.setIfInBounds_toArray, List.set_cons_zero, List.set_cons_succ])
                  | (refine m_skip rfl rfl ?_
                     simp only [Act.put, List.setIfInBounds_toArray, List.set_cons_zero, List.set_cons_succ])
                refine m_done ?_
                simp only [List.drop_succ_cons, List.drop_zero]
                go_wp2_with fail
                simp only [NP]
                go_wp2_with fail
                go_roundw
                case rel => exact ⟨k + 1, by omega, by go_num, ((HON.out.alloc _).drew).setCell ⟨Z.heap.size, 8 * p + q, none⟩ _ (.inl rfl), by rw [HAS1.out]; exact HPUT.out _ HSN2.out⟩
                case measure => simp [intOf]; omega
              · obtain rfl : k = rr.length := by omega
                clear c0 hre
                have c0 := HCE.out _ HON.out
                go_wp2_with fail
                go_roundw
                case rel => exact ⟨i' + 1, by omega, by go_num, HON.out, by rw [HNO.out]; exact HSN.out⟩
                case measure => simp [intOf]; omega
          · have HRL := Lib.hid HFS.out.box.range
            go_wp2_with (first | (refine wpList_load_mid rfl 30 _ rfl (S) 0 rfl (Led.cells L) _ (by exact HRL.out) Try.underlying30 rfl (by show _ = some 16; kernel_rfl) ?_) | (refine wp_load_mid 30 _ rfl (S) 0 rfl (Led.cells L) _ (by exact HRL.out) Try.underlying30 rfl (by show _ = some 16; kernel_rfl) ?_) | (refine list_loadk rfl rfl (b := S) (off := 0) rfl (cs := Led.cells L) Try.underlying30 rfl (by show _ = some 16; kernel_rfl) (by exact HRL.out) ?_))
            refine (pGood_calls L wr HFS.out.led HLK.out HLS.out).mono ?_
            rintro e w9 ⟨rfl, hb9⟩
            have HB9 := Lib.hid hb9
            rw [HGD.out]
            clear hb9
            go_wp2_with fail
            go_ret
            have hbv := HBV.out.size
            have hxs := HBX.out.size
            have hbz := HON.out.below (B := w.heap.size) hbv (fun j hj e => by omega)
            exact ⟨rfl, (HBV.out.trans hbz).trans (HB9.out.mono (by have := hbz.size; omega))⟩
end Go.Proofs.Ytkabfjbmofpkdaa
