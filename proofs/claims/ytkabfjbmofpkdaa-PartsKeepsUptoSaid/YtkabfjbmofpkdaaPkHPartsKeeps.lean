/- Walks and plain laws of the chapter, laid together; each part says what it proves. -/
import Derived.Test.YtkabfjbmofpkdaaPkF
import Derived.Test.YtkabfjbmofpkdaaPkG
/- Layer 9: CopyGraph, walked. -/
namespace Go.Proofs.Ytkabfjbmofpkdaa
open Go.RowKit Go.Shelf
set_option maxRecDepth 100000

/-- The operators that are copied so far. -/
structure CGS (w X wr : World) (os : List Opr) (i : Nat) (v : Value) (ys : List Opr) : Prop where
  con : ys.map Opr.con = (os.take i).map Opr.con
  row : wr.ownsRow X.heap.size 90 7 v ys.length (flatF Opr.cells ys)
  ins : ∀ o ∈ ys, wr.ownsRow X.heap.size 3 1 o.iv o.ins.length (ints o.ins)
  only : Only (fun j => j = w.heap.size + 1 + 1) X wr
  out : wr.cell? ⟨w.heap.size + 1 + 1, 0, none⟩ = some v
  fr : wr.frozen? ⟨w.heap.size + 1 + 1, 0, none⟩ = false
theorem CGS.below {w X wr W : World} {os ys : List Opr} {i : Nat} {v : Value} (h : CGS w X wr os i v ys) (hb : Below wr.heap.size wr W) : CGS w X W os i v ys :=
  ⟨h.con, ownsRow_below h.row hb (Nat.le_refl _), fun o ho => ownsRow_below (h.ins o ho) hb (Nat.le_refl _), h.only.trans (Only.of_below (S := fun _ => False) hb) (fun _ _ h => h.elim), cell_later hb h.out, frozen_later hb h.out h.fr⟩
theorem CGS.len {w X wr : World} {os ys : List Opr} {i : Nat} {v : Value} (h : CGS w X wr os i v ys) (hi : i ≤ os.length) : ys.length = i := by
  have := congrArg List.length h.con
  simp only [List.length_map, List.length_take] at this
  omega
theorem CGS.more {w X W w5 : World} {os ys : List Opr} {i : Nat} {v v5 : Value} {o' : Opr} (h : CGS w X W os i v ys) (hX : X.heap.size = w.heap.size + 3) (hi : i < os.length) (hc : o'.con = os[i].con)
    (hin : W.ownsRow X.heap.size 3 1 o'.iv o'.ins.length (ints o'.ins)) (hm : w5.ownsRow X.heap.size 90 7 v5 (ys.length + 1) (flatF Opr.cells ys ++ Opr.cells o')) (hg : W.grownBy w5 v.ownBlock) :
    CGS w X (w5.setCell ⟨w.heap.size + 1 + 1, 0, none⟩ v5) os (i + 1) v5 (ys ++ [o']) := by
  have hlt : w.heap.size + 1 + 1 < W.heap.size := World.block_lt_of_cell? W _ h.out
  have hno : ¬ v.ownBlock = some (w.heap.size + 1 + 1) := fun e => by have := (World.ownsRow.lt h.row _ e).1; omega
  have hone := Only.of_grown hg
  have h5 := hone.cell hno h.out
  refine ⟨?_, ?_, fun o ho => ?_, ?_, cell_set_same v5 h5, ?_⟩
  · rw [List.map_append, h.con, List.take_succ_eq_append_getElem hi, List.map_append]
    simp [hc]
  · refine ownsRow_set ?_ _ _ (by show w.heap.size + 1 + 1 < X.heap.size; omega)
    rw [List.length_append, flatF_append, flatF_one]
    exact hm
  · refine ownsRow_set ?_ _ _ (by show w.heap.size + 1 + 1 < X.heap.size; omega)
    rcases List.mem_append.1 ho with ho | ho
    · exact own_otherT h.row (h.ins o ho) (by decide) hg
    · rw [List.mem_singleton] at ho
      rw [ho]
      exact own_otherT h.row hin (by decide) hg
  · exact (h.only.trans hone (fun j hj e => by have := (World.ownsRow.lt h.row j e).1; omega)).setCell ⟨w.heap.size + 1 + 1, 0, none⟩ v5 (.inl rfl)
  · rw [World.frozen?_setCell]
    exact (hone.frozen hlt hno).trans h.fr

theorem CGS.grown {w X W w5 : World} {os ys : List Opr} {i : Nat} {v : Value} (h : CGS w X W os i v ys) (hX : X.heap.size = w.heap.size + 3) (hg : W.grownBy w5 v.ownBlock) : w5.cell? ⟨w.heap.size + 1 + 1, 0, none⟩ = some v ∧ w5.frozen? ⟨w.heap.size + 1 + 1, 0, none⟩ = false := by
  have hlt : w.heap.size + 1 + 1 < W.heap.size := World.block_lt_of_cell? W _ h.out
  have hno : ¬ v.ownBlock = some (w.heap.size + 1 + 1) := fun e => by have := (World.ownsRow.lt h.row _ e).1; omega
  exact ⟨(Only.of_grown hg).cell hno h.out, ((Only.of_grown hg).frozen hlt hno).trans h.fr⟩

theorem cell_later' {B : Nat} {w w' : World} {b o : Nat} {v : Value} (hb : Below B w w') (hc : w.cell? ⟨b, o, none⟩ = some v) (h : b < B := by omega) : w'.cell? ⟨b, o, none⟩ = some v :=
  (World.cell?_of_block (a := ⟨b, o, none⟩) (hb.block b h)).trans hc
theorem frozen_later' {B : Nat} {w w' : World} {b o : Nat} {v : Value} (hb : Below B w w') (_ : w.cell? ⟨b, o, none⟩ = some v) (hf : w.frozen? ⟨b, o, none⟩ = false) (h : b < B := by omega) : w'.frozen? ⟨b, o, none⟩ = false :=
  (World.frozen?_of_block (a := ⟨b, o, none⟩) (hb.block b h)).trans hf

set_option maxHeartbeats 4000000 in
theorem copyG_calls (gv : Value) (os : List Opr) (w : World) (hO : OpsR w gv os) (hl : os.length ≤ 1100000) (hi : ∀ o ∈ os, o.ins.length ≤ 1100000) :
    Calls Try.prog 17 #[.agg #[gv]] w fun e w' => ∃ v ys, e = .returned (.agg #[v]) ∧ ys.map Opr.con = os.map Opr.con ∧ w'.ownsRow w.heap.size 90 7 v ys.length (flatF Opr.cells ys) ∧ (∀ o ∈ ys, w'.ownsRow w.heap.size 3 1 o.iv o.ins.length (ints o.ins)) ∧ Below w.heap.size w w' := by
  obtain ⟨ga, gc, hgv, hgc, -⟩ := hO.row.slice
  subst hgv
  obtain ⟨X, hX⟩ : ∃ X, X = ((w.alloc (.cells #[.slice ga os.length gc] 28)).alloc (.cells #[.slice none 0 0] 28)).alloc (.cells #[.slice none 0 0] 28) := ⟨_, rfl⟩
  have hbX : Below w.heap.size w X := by rw [hX]; exact below_box (below_box (below_alloc _ _) _) _
  have hXs : X.heap.size = w.heap.size + 3 := by rw [hX]; simp
  have g0 : X.cell? ⟨w.heap.size, 0, none⟩ = some (.slice ga os.length gc) := by
    rw [hX, World.cell?_alloc_past _ _ _ (by simp <;> omega), World.cell?_alloc_past _ _ _ (by simp <;> omega), World.cell?_alloc_at _ _ _ _ (by simp)]; rfl
  have g1 : X.cell? ⟨w.heap.size + 1, 0, none⟩ = some (.slice none 0 0) ∧ X.frozen? ⟨w.heap.size + 1, 0, none⟩ = false := by
    rw [hX]
    refine ⟨?_, ?_⟩
    · rw [World.cell?_alloc_past _ _ _ (by simp <;> omega), World.cell?_alloc_at _ _ _ _ (by simp)]; rfl
    · rw [World.frozen?_alloc_past _ _ _ (by simp <;> omega), World.frozen?_alloc_at _ _ _ _ (by simp)]
  have g2 : X.cell? ⟨w.heap.size + 1 + 1, 0, none⟩ = some (.slice none 0 0) ∧ X.frozen? ⟨w.heap.size + 1 + 1, 0, none⟩ = false := by
    rw [hX]
    refine ⟨?_, ?_⟩
    · rw [World.cell?_alloc_at _ _ _ _ (by simp)]; rfl
    · rw [World.frozen?_alloc_at _ _ _ _ (by simp)]
  have HX := Lib.hid hX
  have HBX := Lib.hid hbX
  have HXS := Lib.hid hXs
  have HO := Lib.hid hO
  have HI := Lib.hid hi
  have HG0 := Lib.hid g0
  have HG1 := Lib.hid g1
  have HG2 := Lib.hid g2
  clear hX hbX hXs hO hi g0 g1 g2
  go_enter Try.func17, Try.ntmps17
  go_upto_region 3 with fail
  rw [show ((w.alloc (.cells #[.slice ga os.length gc] 28)).alloc (.cells #[.slice none 0 0] 28)).alloc (.cells #[.slice none 0 0] 28) = X from HX.out.symm]
  go_loopw [4, 5] (fun iv _ wr => ∃ (i : Nat) (v : Value) (ys : List Opr), i ≤ os.length ∧ iv = .int .i64 i ∧ CGS w X wr os i v ys) (fun iv _ _ => os.length - (intOf iv).toNat)
  case atStart => exact ⟨0, _, [], by omega, rfl, rfl, World.ownsRow_nil _ _ _ _, fun o ho => by simp at ho, Only.refl _ _, HG2.out.1, HG2.out.2⟩
  case round =>
    obtain ⟨i, v, ys, hin, rfl, hs⟩ := hrel
    have HS := Lib.hid hs
    have g0 := hs.only.cell (by show ¬ w.heap.size = w.heap.size + 1 + 1; omega) HG0.out
    have HBR := Lib.hid (hs.only.below (B := w.heap.size + 1 + 1) (by have := HXS.out; omega) (fun j hj e => by omega))
    have HOR := Lib.hid (HO.out.below (HBX.out.trans (HBR.out.mono (by omega))) (Nat.le_refl _))
    have HYL := Lib.hid (hs.len hin)
    have hsz : w.heap.size + 1 + 1 < wr.heap.size := World.block_lt_of_cell? wr _ hs.out
    have hne1 : ¬ (w.heap.size + 1 + 1 = wr.heap.size) := by omega
    have hne2 : ¬ (wr.heap.size = w.heap.size + 1 + 1) := by omega
    obtain ⟨va, vc, rfl⟩ := own_slice hs.row
    clear hs
    by_cases hlt : i < os.length
    · obtain ⟨b, o, rfl, e0, e1, e2, e3, e4, e5, e6⟩ := op_at HOR.out i hlt
      have hins := HOR.out.ins os[i] (List.getElem_mem _)
      have HIL := Lib.hid (HI.out os[i] (List.getElem_mem _))
      obtain ⟨ia, ic, hiv, hic, -⟩ := Rd.slice hins
      rw [hiv] at e1 hins
      have HINS := Lib.hid hins
      have HCON := Lib.hid (fun (h : CGS w X wr os i (.slice va ys.length vc) ys) (W w5 : World) (v5 : Value) (o' : Opr) (hb : Below wr.heap.size wr W) (hc : o'.con = os[i].con) (hin : W.ownsRow X.heap.size 3 1 o'.iv o'.ins.length (ints o'.ins))
        (hm : w5.ownsRow X.heap.size 90 7 v5 (ys.length + 1) (flatF Opr.cells ys ++ Opr.cells o')) (hg : W.grownBy w5 (Value.slice va ys.length vc).ownBlock) => (h.below hb).more HXS.out hlt hc hin hm hg)
      clear hins hiv
      generalize os[i] = O at *
      obtain ⟨kind, iv, ins, arg, num, rounds, test, lim⟩ := O
      simp only at e0 e1 e2 e3 e4 e5 e6 hic HIL HINS
      obtain ⟨V0, hV0⟩ : ∃ V0, V0 = wr.alloc (.cells #[.int .i64 kind, .slice ia ins.length ic, .int .i64 arg, .int .u32 num, .int .i64 rounds, .int .i64 test, .int .u32 lim] 90) := ⟨_, rfl⟩
      have hb0 : Below wr.heap.size wr V0 := by rw [hV0]; exact below_alloc _ _
      have hs0 : V0.heap.size = wr.heap.size + 1 := by rw [hV0]; simp
      have v0 : V0.cell? ⟨wr.heap.size, 0, none⟩ = some (.int .i64 kind) := by rw [hV0]; exact box_self 0 _ rfl
      have v1 : V0.cell? ⟨wr.heap.size, 1, none⟩ = some (.slice ia ins.length ic) := by rw [hV0]; exact box_self 1 _ rfl
      have v2 : V0.cell? ⟨wr.heap.size, 2, none⟩ = some (.int .i64 arg) := by rw [hV0]; exact box_self 2 _ rfl
      have v3 : V0.cell? ⟨wr.heap.size, 3, none⟩ = some (.int .u32 num) := by rw [hV0]; exact box_self 3 _ rfl
      have v4 : V0.cell? ⟨wr.heap.size, 4, none⟩ = some (.int .i64 rounds) := by rw [hV0]; exact box_self 4 _ rfl
      have v5 : V0.cell? ⟨wr.heap.size, 5, none⟩ = some (.int .i64 test) := by rw [hV0]; exact box_self 5 _ rfl
      have v6 : V0.cell? ⟨wr.heap.size, 6, none⟩ = some (.int .u32 lim) := by rw [hV0]; exact box_self 6 _ rfl
      have vf : V0.frozen? ⟨wr.heap.size, 1, none⟩ = false := by rw [hV0, World.frozen?_alloc_at _ _ _ _ rfl]
      have HV0 := Lib.hid hV0
      have HB0 := Lib.hid hb0
      have HS0 := Lib.hid hs0
      have HVF := Lib.hid vf
      have HVC := Lib.hid (And.intro v0 (And.intro v1 (And.intro v2 (And.intro v3 (And.intro v4 (And.intro v5 v6))))))
      clear hV0 hb0 hs0 v0 v2 v3 v4 v5 v6 vf v1
      go_upto_region 6 with fail
      rw [show wr.alloc (.cells #[.int .i64 kind, .slice ia ins.length ic, .int .i64 arg, .int .u32 num, .int .i64 rounds, .int .i64 test, .int .u32 lim] 90) = V0 from HV0.out.symm]
      have v1 := HVC.out.2.1
      have hlt0 : wr.heap.size < V0.heap.size := by have := HS0.out; omega
      have HOWN := Lib.hid (World.ownsRow_lit (base := V0.heap.size) (size := 1) (e := 3) V0 #[] 0 (Nat.le_refl _) (by unfold maxLen; omega) (by simp))
      have HIN1 := Lib.hid (Rd.below HINS.out (below_go HB0.out (below_alloc V0 (.cells #[] 3))) (Nat.le_refl _))
      have hcv := HS.out.out
      have hil := HIL.out
      have hA : ∀ xa xc w2, Below V0.heap.size V0 w2 → w2.ownsRow V0.heap.size 3 1 (.slice xa ins.length xc) ins.length (ints ins) →
          ∃ W3, W3 = w2.setCell ⟨wr.heap.size, 1, none⟩ (.slice xa ins.length xc) ∧ Below wr.heap.size wr W3 ∧ W3.ownsRow V0.heap.size 3 1 (.slice xa ins.length xc) ins.length (ints ins) := fun xa xc w2 hb ho =>
        ⟨_, rfl, (below_go HB0.out hb).setCell (p := ⟨wr.heap.size, 1, none⟩) (Nat.le_refl _) _, ownsRow_set ho _ _ (by show wr.heap.size < V0.heap.size; omega)⟩
      have HA := Lib.hid hA
      clear hA
      have hyl : ys.length ≤ 1100000 := by have := HYL.out; omega
      go_upto_region 7 with (at_builtin; go_loud (refine app_list tyInts HOWN.out HIN1.out (ints_one _) (by omega) (by omega) (by simp) rfl rfl rfl rfl ?_; intro x2 w2 hm2 hg2 hn2; rw [Nat.zero_add] at hm2; obtain ⟨xa, xc, rfl⟩ := own_slice hm2; have HB2 := Lib.hid (Below.grown (below_alloc V0 (.cells #[] 3)) hg2 (by simp) (fun k e => (World.ownsRow.lt HOWN.out k e).1)); obtain ⟨W3, rfl, hbW, hoW⟩ := HA.out xa xc w2 HB2.out hm2; have HBW := Lib.hid hbW; have HOW := Lib.hid hoW; have y0 := cell_later HB2.out HVC.out.1; have y1 := cell_later HB2.out HVC.out.2.1; have y2 := cell_later HB2.out HVC.out.2.2.1; have y3 := cell_later HB2.out HVC.out.2.2.2.1; have y4 := cell_later HB2.out HVC.out.2.2.2.2.1; have y5 := cell_later HB2.out HVC.out.2.2.2.2.2.1; have y6 := cell_later HB2.out HVC.out.2.2.2.2.2.2; have yf := frozen_later HB2.out HVC.out.2.1 HVF.out; have yv := cell_later (below_go HB0.out HB2.out) HS.out.out; clear hm2 hg2 hn2 hbW hoW))
      have HS4 := Lib.hid (HS.out.below (below_go HBW.out (below_alloc (w2.setCell ⟨wr.heap.size, 1, none⟩ (.slice xa ins.length xc)) (.cells #[.int .i64 kind, .slice xa ins.length xc, .int .i64 arg, .int .u32 num, .int .i64 rounds, .int .i64 test, .int .u32 lim] 90))))
      have HOW4 := Lib.hid (ownsRow_below HOW.out (below_alloc (w2.setCell ⟨wr.heap.size, 1, none⟩ (.slice xa ins.length xc)) (.cells #[.int .i64 kind, .slice xa ins.length xc, .int .i64 arg, .int .u32 num, .int .i64 rounds, .int .i64 test, .int .u32 lim] 90)) (Nat.le_refl _))
      have hlit := Rd.lit (w := (w2.setCell ⟨wr.heap.size, 1, none⟩ (.slice xa ins.length xc))) (cs := #[.int .i64 kind, .slice xa ins.length xc, .int .i64 arg, .int .u32 num, .int .i64 rounds, .int .i64 test, .int .u32 lim]) (e := 90) (n := 1) (sz := 7) rfl (by omega)
      rw [show (w2.setCell ⟨wr.heap.size, 1, none⟩ (.slice xa ins.length xc)).heap.size = w2.heap.size by simp] at hlit
      have HLIT := Lib.hid hlit
      clear hlit
      have hbs4 := HS4.out.only.size
      go_wp2_with (at_builtin; go_loud (refine app_list tyOps HS4.out.row HLIT.out (by intro u hu; simp at hu; rcases hu with rfl | rfl | rfl | rfl | rfl | rfl | rfl <;> rfl) (by omega) (by omega) hbs4 rfl rfl rfl rfl ?_; intro x5 w5 hm5 hg5 hn5; obtain ⟨xa5, xc5, rfl⟩ := own_slice hm5; have HM5 := Lib.hid hm5; have HG5 := Lib.hid hg5; have z1 := (HS4.out.grown HXS.out hg5).1; have z2 := (HS4.out.grown HXS.out hg5).2; clear hm5 hg5 hn5))
      go_roundw
      case rel =>
        exact ⟨i + 1, _, ys ++ [⟨kind, .slice xa ins.length xc, ins, arg, num, rounds, test, lim⟩], by omega, by go_num, HCON.out HS.out _ _ _ ⟨kind, .slice xa ins.length xc, ins, arg, num, rounds, test, lim⟩ (below_go HBW.out (below_alloc _ _)) rfl (ownsRow_mono HOW4.out (by have := HS0.out; have := HXS.out; omega)) HM5.out HG5.out⟩
      case measure => simp [intOf]; omega
    · obtain rfl : i = os.length := by omega
      have hcv := HS.out.out
      have h1 := cell_later' HBR.out HG1.out.1
      have h1f := frozen_later' HBR.out HG1.out.1 HG1.out.2
      have hs1 : w.heap.size + 1 < wr.heap.size := by omega
      go_wp2_with fail
      have hr : (wr.setCell ⟨w.heap.size + 1, 0, none⟩ (.slice va ys.length vc)).rangeAt (w.heap.size + 1) 0 [.slice va ys.length vc] := fun j v hj => by
        match j, hj with
        | 0, hj =>
          simp only [List.getElem?_cons_zero, Option.some.injEq] at hj
          rw [← hj]
          exact cell_set_same _ h1
      refine bodyPost_ret (v := .agg #[.slice va ys.length vc]) (results_cell Try.results17 rfl (run_loadVar_mid (P := Try.prog) _ (w.heap.size + 1) 0 28 [.slice va ys.length vc] _ hr Try.underlying28 rfl (by show _ = some 1; kernel_rfl))) rfl
        ⟨_, ys, rfl, by have := HS.out.con; rwa [List.take_length] at this, ownsRow_mono (ownsRow_set HS.out.row _ _ (by show w.heap.size + 1 < X.heap.size; have := HXS.out; omega)) (by have := HXS.out; omega), fun o ho => ownsRow_mono (ownsRow_set (HS.out.ins o ho) _ _ (by show w.heap.size + 1 < X.heap.size; have := HXS.out; omega)) (by have := HXS.out; omega), (HBX.out.trans (HBR.out.mono (by omega))).setCell (p := ⟨w.heap.size + 1, 0, none⟩) (by show w.heap.size ≤ w.heap.size + 1; omega) _⟩
end Go.Proofs.Ytkabfjbmofpkdaa

/- Layer 14: the document's Copy, walked. -/
namespace Go.Proofs.Ytkabfjbmofpkdaa
open Go.RowKit Go.Shelf
set_option maxRecDepth 100000

/-- A ledger whose rows are new memory. -/
structure LedN (w : World) (base : Nat) (L : Led) : Prop where
  rows : w.ownsRow base 92 3 L.rv L.rows.length (flatF Row.cells L.rows)
  opn : w.ownsRow base 33 5 L.ov L.opn.length (flatF Rec.cells L.opn)
  bats : w.ownsRow base 67 2 L.bv L.bats.length (flatF Bt.cells L.bats)
  recs : ∀ b ∈ L.bats, w.ownsRow base 33 5 b.rv b.recs.length (flatF Rec.cells b.recs)
  ops : w.ownsRow base 90 7 L.gv L.ops.length (flatF Opr.cells L.ops)
  ins : ∀ o ∈ L.ops, w.ownsRow base 3 1 o.iv o.ins.length (ints o.ins)
theorem LedO.toN {w : World} {base : Nat} {L : Led} (h : LedO w base L) : LedN w base L := ⟨h.rows, h.opn, h.bats, h.recs, h.ops, h.ins⟩
theorem LedN.reads {w : World} {base : Nat} {L : Led} (h : LedN w base L) : LedR w L :=
  ⟨Rd.of_own h.rows, Rd.of_own h.opn, ⟨Rd.of_own h.bats, fun b hb => Rd.of_own (h.recs b hb)⟩, ⟨Rd.of_own h.ops, fun o ho => Rd.of_own (h.ins o ho)⟩⟩
theorem LedN.only {S : Nat → Prop} {w w' : World} {base : Nat} {L : Led} (h : LedN w base L) (ho : Only S w w') (hS : ∀ j, S j → j < base) : LedN w' base L := by
  have hh : ∀ {e : TypeId} {sz n : Nat} {v : Value} {xs : List Value}, w.ownsRow base e sz v n xs → w'.ownsRow base e sz v n xs := fun h =>
    ownsRow_only h ho (fun g hg hs => by have := (World.ownsRow.lt h g hg).1; have := hS g hs; omega)
  exact ⟨hh h.rows, hh h.opn, hh h.bats, fun b hb => hh (h.recs b hb), hh h.ops, fun o ho => hh (h.ins o ho)⟩
theorem LedN.below {w w' : World} {base : Nat} {L : Led} (h : LedN w base L) (hb : Below w.heap.size w w') : LedN w' base L :=
  h.only (Only.of_below (S := fun _ => False) hb) (fun _ e => e.elim)
theorem LedN.mono {w : World} {base base' : Nat} {L : Led} (h : LedN w base L) (hb : base' ≤ base) : LedN w base' L :=
  ⟨ownsRow_mono h.rows hb, ownsRow_mono h.opn hb, ownsRow_mono h.bats hb, fun b hb' => ownsRow_mono (h.recs b hb') hb, ownsRow_mono h.ops hb, fun o ho => ownsRow_mono (h.ins o ho) hb⟩

/-- The batches that are copied so far. -/
structure CBS (X wr : World) (bs : List Bt) (i : Nat) (v : Value) (ys : List Bt) : Prop where
  con : ys.map Bt.con = (bs.take i).map Bt.con
  row : wr.ownsRow X.heap.size 67 2 v ys.length (flatF Bt.cells ys)
  recs : ∀ b ∈ ys, wr.ownsRow X.heap.size 33 5 b.rv b.recs.length (flatF Rec.cells b.recs)
  below : Below X.heap.size X wr
theorem CBS.later {X wr W : World} {bs ys : List Bt} {i : Nat} {v : Value} (h : CBS X wr bs i v ys) (hb : Below wr.heap.size wr W) : CBS X W bs i v ys :=
  ⟨h.con, ownsRow_below h.row hb (Nat.le_refl _), fun o ho => ownsRow_below (h.recs o ho) hb (Nat.le_refl _), below_go h.below hb⟩
theorem CBS.len {X wr : World} {bs ys : List Bt} {i : Nat} {v : Value} (h : CBS X wr bs i v ys) (hi : i ≤ bs.length) : ys.length = i := by
  have := congrArg List.length h.con
  simp only [List.length_map, List.length_take] at this
  omega
theorem CBS.more {X W w5 : World} {bs ys : List Bt} {i : Nat} {v v5 : Value} {b' : Bt} (h : CBS X W bs i v ys) (hi : i < bs.length) (hc : b'.con = bs[i].con)
    (hin : W.ownsRow X.heap.size 33 5 b'.rv b'.recs.length (flatF Rec.cells b'.recs)) (hm : w5.ownsRow X.heap.size 67 2 v5 (ys.length + 1) (flatF Bt.cells ys ++ Bt.cells b')) (hg : W.grownBy w5 v.ownBlock) :
    CBS X w5 bs (i + 1) v5 (ys ++ [b']) := by
  refine ⟨?_, ?_, fun o ho => ?_, h.below.grown hg h.below.size (fun k e => (World.ownsRow.lt h.row k e).1)⟩
  · rw [List.map_append, h.con, List.take_succ_eq_append_getElem hi, List.map_append]
    simp [hc]
  · rw [List.length_append, flatF_append, flatF_one]
    exact hm
  · rcases List.mem_append.1 ho with ho | ho
    · exact own_otherT h.row (h.recs o ho) (by decide) hg
    · rw [List.mem_singleton] at ho
      rw [ho]
      exact own_otherT h.row hin (by decide) hg

set_option maxHeartbeats 8000000 in
theorem copy_calls (L : Led) (w : World) (hL : LedR w L) (hsm : L.Small) :
    Calls Try.prog 16 #[.agg L.cells.toArray] w fun e w' => ∃ M, e = .returned (.agg M.cells.toArray) ∧ SameL L M ∧ LedN w' w.heap.size M ∧ Below w.heap.size w w' := by
  obtain ⟨X, hX⟩ : ∃ X, X = (w.alloc (.cells L.cells.toArray 30)).alloc (.cells zero16 30) := ⟨_, rfl⟩
  have hbX : Below w.heap.size w X := by rw [hX]; exact below_box (below_alloc _ _) _
  have hBC : BoxC w.heap.size (w.heap.size + 1) X L := by rw [hX]; exact boxC_two w L
  have hXs : X.heap.size = w.heap.size + 2 := by rw [hX]; simp
  obtain ⟨ra, rc, hrv, hrc, -⟩ := Rd.slice hL.rows
  obtain ⟨oa, oc, hov, hoc, -⟩ := Rd.slice hL.opn
  obtain ⟨ba, bc, hbv, hbc, -⟩ := hL.bats.row.slice
  obtain ⟨ga, gc, hgv, hgc, -⟩ := hL.ops.row.slice
  have hsr := hsm.rows
  have hso := hsm.opn
  have hsb := hsm.bats
  have HX := Lib.hid hX
  have HBC := Lib.hid hBC
  have HBX := Lib.hid hbX
  have HXS := Lib.hid hXs
  have HL := Lib.hid hL
  have HSM := Lib.hid hsm
  have HV := Lib.hid (And.intro hrv (And.intro hov (And.intro hbv hgv)))
  have HR0 := Lib.hid (show Rows X (.slice ra L.rows.length rc) L.rows by have := (hL.below hbX (Nat.le_refl _)).rows; rwa [hrv] at this)
  have HO0 := Lib.hid (show Recs X (.slice oa L.opn.length oc) L.opn by have := (hL.below hbX (Nat.le_refl _)).opn; rwa [hov] at this)
  have HB0 := Lib.hid (show BtsR X (.slice ba L.bats.length bc) L.bats by have := (hL.below hbX (Nat.le_refl _)).bats; rwa [hbv] at this)
  have HG0 := Lib.hid (show OpsR X (.slice ga L.ops.length gc) L.ops by have := (hL.below hbX (Nat.le_refl _)).ops; rwa [hgv] at this)
  clear hX hBC hbX hXs hL hsm hrv hov hbv hgv
  go_enter Try.func16, Try.ntmps16
  go_upto_region 1 with fail
  rw [show (w.alloc (.cells L.cells.toArray 30)).alloc (.cells #[.slice none 0 0, .int .i64 0, .int .i64 0, .int .i64 0, .int .i64 0, .int .i64 0, .int .i64 0, .int .i64 0, .int .i64 0, .slice none 0 0, .slice none 0 0, .int .i64 0, .int .i64 0, .bool false, .slice none 0 0, .int .i64 0] 30) = X from HX.out.symm]
  have c0 := HBC.out.box 0 _ rfl
  rw [HV.out.1] at c0
  have bf0 := HBC.out.bf 0
  have hlt := HBC.out.hS
  have HOWN := Lib.hid (World.ownsRow_lit (base := X.heap.size) (size := 3) (e := 92) X #[] 0 (Nat.le_refl _) (by unfold maxLen; omega) (by simp))
  have HRD := Lib.hid (Rd.below HR0.out (below_alloc X (.cells #[] 92)) (Nat.le_refl _))
  go_upto_region 2 with (at_builtin; go_loud (refine app_list tyRows HOWN.out HRD.out (rows_one _) (by omega) (by omega) (by simp) rfl rfl rfl rfl ?_; intro x2 w2 hm2 hg2 hn2; rw [Nat.zero_add] at hm2; obtain ⟨xa, xc, rfl⟩ := own_slice hm2; have HB2 := Lib.hid (Below.grown (below_alloc X (.cells #[] 92)) hg2 (by simp) (fun k e => (World.ownsRow.lt HOWN.out k e).1)); have HM2 := Lib.hid hm2; have y0 := cell_later HB2.out c0; have yf := frozen_later HB2.out c0 bf0; clear hm2 hg2 hn2))
  have hB1 := (HBC.out.later HB2.out).set (cur' := { L with rv := .slice xa L.rows.length xc }) 0 (.slice xa L.rows.length xc) rfl (by omega)
  have HW1 := Lib.hid (show Below w.heap.size w (w2.setCell ⟨w.heap.size, 0, none⟩ (.slice xa L.rows.length xc)) from (HBX.out.trans (HB2.out.mono (by have := HXS.out; omega))).setCell (p := ⟨w.heap.size, 0, none⟩) (Nat.le_refl _) _)
  have HN1 := Lib.hid (show (w2.setCell ⟨w.heap.size, 0, none⟩ (.slice xa L.rows.length xc)).ownsRow X.heap.size 92 3 (.slice xa L.rows.length xc) L.rows.length (flatF Row.cells L.rows) from ownsRow_set HM2.out _ _ (by show w.heap.size < X.heap.size; exact hlt))
  have HS1 := Lib.hid (show X.heap.size ≤ (w2.setCell ⟨w.heap.size, 0, none⟩ (.slice xa L.rows.length xc)).heap.size by have := HB2.out.size; simpa using this)
  have HB1 := Lib.hid hB1
  clear hB1 y0 yf c0 bf0 hlt
  generalize w2.setCell _ _ = X1 at *
  clear HB2 HM2 HOWN HRD
  have c9 := HB1.out.box 9 _ rfl
  simp only [HV.out.2.1] at c9
  have bf9 := HB1.out.bf 9
  have hlt := HB1.out.hS
  have HOWN := Lib.hid (World.ownsRow_lit (base := X1.heap.size) (size := 5) (e := 33) X1 #[] 0 (Nat.le_refl _) (by unfold maxLen; omega) (by simp))
  have HRD := Lib.hid (show Recs (X1.alloc (.cells #[] 33)) (.slice oa L.opn.length oc) L.opn by
    have := (HL.out.below HW1.out (Nat.le_refl _)).opn
    rw [HV.out.2.1] at this
    exact Rd.below this (below_alloc X1 (.cells #[] 33)) (Nat.le_refl _))
  go_upto_region 3 with (at_builtin; go_loud (refine app_list tyRecs HOWN.out HRD.out (recs_one _) (by omega) (by omega) (by simp) rfl rfl rfl rfl ?_; intro x2 w2 hm2 hg2 hn2; rw [Nat.zero_add] at hm2; obtain ⟨ya, yc, rfl⟩ := own_slice hm2; have HB2 := Lib.hid (Below.grown (below_alloc X1 (.cells #[] 33)) hg2 (by simp) (fun k e => (World.ownsRow.lt HOWN.out k e).1)); have HM2 := Lib.hid hm2; have y0 := cell_later HB2.out c9; have yf := frozen_later HB2.out c9 bf9; clear hm2 hg2 hn2))
  have hB1 := (HB1.out.later HB2.out).set (cur' := { L with rv := .slice xa L.rows.length xc, ov := .slice ya L.opn.length yc }) 9 (.slice ya L.opn.length yc) rfl (by omega)
  have HW2 := Lib.hid (show Below w.heap.size w (w2.setCell ⟨w.heap.size, 9, none⟩ (.slice ya L.opn.length yc)) from (HW1.out.trans (HB2.out.mono (by have := HS1.out; have := HXS.out; omega))).setCell (p := ⟨w.heap.size, 9, none⟩) (Nat.le_refl _) _)
  have HN2 := Lib.hid (show (w2.setCell ⟨w.heap.size, 9, none⟩ (.slice ya L.opn.length yc)).ownsRow X.heap.size 33 5 (.slice ya L.opn.length yc) L.opn.length (flatF Rec.cells L.opn) from ownsRow_mono (ownsRow_set HM2.out _ _ (by show w.heap.size < X1.heap.size; exact hlt)) HS1.out)
  have HN1' := Lib.hid (show (w2.setCell ⟨w.heap.size, 9, none⟩ (.slice ya L.opn.length yc)).ownsRow X.heap.size 92 3 (.slice xa L.rows.length xc) L.rows.length (flatF Row.cells L.rows) from ownsRow_set (ownsRow_below HN1.out HB2.out (Nat.le_refl _)) _ _ (by show w.heap.size < X.heap.size; have := HXS.out; omega))
  have HS2 := Lib.hid (show X.heap.size ≤ (w2.setCell ⟨w.heap.size, 9, none⟩ (.slice ya L.opn.length yc)).heap.size by have := HB2.out.size; have := HS1.out; simp; omega)
  have HB3 := Lib.hid hB1
  clear hB1 y0 yf c9 bf9 hlt
  generalize w2.setCell _ _ = X2 at *
  clear HB2 HM2 HOWN HRD HN1 HS1 HW1 HB1
  have c10 := HB3.out.box 10 _ rfl
  simp only [HV.out.2.2.1] at c10
  go_wp2_with fail
  go_loopw [3, 4] (fun lv iv wr => ∃ (i : Nat) (ys : List Bt), i ≤ L.bats.length ∧ iv = .int .i64 i ∧ CBS X2 wr L.bats i lv ys) (fun _ iv _ => L.bats.length - (intOf iv).toNat)
  case atStart => exact ⟨0, [], by omega, rfl, rfl, World.ownsRow_nil _ _ _ _, fun o ho => by simp at ho, Below.refl _ _⟩
  case round =>
    obtain ⟨i, ys, hin, rfl, hs⟩ := hrel
    have HS := Lib.hid hs
    have HYL := Lib.hid (hs.len hin)
    obtain ⟨va, vc, rfl⟩ := own_slice hs.row
    have hbel := hs.below
    clear hs
    by_cases hlt : i < L.bats.length
    · have hbr := (HL.out.below HW2.out (Nat.le_refl _)).bats
      rw [HV.out.2.2.1] at hbr
      obtain ⟨b, o, rfl, e0, e1⟩ := bt_at hbr i hlt
      have hrec := hbr.recs L.bats[i] (List.getElem_mem _)
      have HRN := Lib.hid (HSM.out.recs L.bats[i] (List.getElem_mem _))
      obtain ⟨ia, ic, hiv, hic, -⟩ := Rd.slice hrec
      rw [hiv] at e1 hrec
      have HRC := Lib.hid hrec
      have HCON := Lib.hid (fun (h : CBS X2 wr L.bats i (.slice va ys.length vc) ys) (W w5 : World) (v5 : Value) (o' : Bt) (hb : Below wr.heap.size wr W) (hc : o'.con = L.bats[i].con) (hin : W.ownsRow X2.heap.size 33 5 o'.rv o'.recs.length (flatF Rec.cells o'.recs))
        (hm : w5.ownsRow X2.heap.size 67 2 v5 (ys.length + 1) (flatF Bt.cells ys ++ Bt.cells o')) (hg : W.grownBy w5 (Value.slice va ys.length vc).ownBlock) => (h.later hb).more hlt hc hin hm hg)
      clear hrec hiv hbr
      generalize L.bats[i] = O at *
      obtain ⟨ep, rv, recs⟩ := O
      simp only at e0 e1 hic HRN HRC
      have hfs : ∀ V, Below X2.heap.size X2 V → V.cell? ⟨w.heap.size, 10, none⟩ = some (.slice (some ⟨b, o, none⟩) L.bats.length bc) ∧ V.cell? ⟨b, o + i * 2, none⟩ = some (.int .i64 ep) ∧ V.cell? ⟨b, o + i * 2 + 1, none⟩ = some (.slice ia recs.length ic) := fun V hb => ⟨cell_later hb c10, cell_later hb e0, cell_later hb e1⟩
      have HFS := Lib.hid hfs
      have c10' := (hfs _ hbel).1
      have HC10 := Lib.hid c10
      have hxw := hbel.size
      clear hfs c10 e0 e1
      go_wp2_with fail
      have hrn := HRN.out
      have hyl : ys.length ≤ 1100000 := by have := HYL.out; omega
      refine region_t (.take 0 (.take 1 (.take 2 (.take 3 (.take 4 (.take 5 (.take 6 (.take 8 (.take 9 (.take 10 (.take 11 (.take 12 (.take 13 (.loud 7 (.loud 14 (.take 15 (.loud 16 (.loud 17 .done)))))))))))))))))) 18 (fun V => V.cell? ⟨w.heap.size, 10, none⟩ = some (.slice (some ⟨b, o, none⟩) L.bats.length bc) ∧ V.cell? ⟨b, o + i * 2, none⟩ = some (.int .i64 ep) ∧ V.cell? ⟨b, o + i * 2 + 1, none⟩ = some (.slice ia recs.length ic)) (by kernel_rfl) (by kernel_rfl) (HFS.out _ hbel.drew) ?_
      iterate 13
        first
        | (refine t_take (v := ?_) rfl rfl ?_ ?_
           rotate_left
           · intro W hW
             go_simp
             with_reducible rfl
           simp only [Act.put, List.setIfInBounds_toArray, List.set_cons_zero, List.set_cons_succ])
        | (refine t_skip rfl rfl ?_
           simp only [Act.put, List.setIfInBounds_toArray, List.set_cons_zero, List.set_cons_succ])
      have hbx0 := hbel.drew
      have hbw0 := (Below.refl wr.heap.size wr).drew
      generalize wr.drew = Wd at *
      refine t_loud rfl (fun K hK => ?_)
      have HK := Lib.hid hK
      clear hK
      go_simp
      have hbx1 := hbx0.alloc hbx0.size (.cells #[] 33)
      have hbw1 := hbw0.alloc hbw0.size (.cells #[] 33)
      have HW1 := Lib.hid (World.ownsRow_lit (base := wr.heap.size) (size := 5) (e := 33) Wd #[] 0 hbw0.size (by unfold maxLen; omega) (by simp))
      refine HK.out _ _ (HFS.out _ hbx1) ?_
      clear HK
      generalize hG : World.alloc Wd _ = V1 at *
      clear hG
      refine t_app tyRecs HW1.out (Rd.below HRC.out hbx1 (Nat.le_refl _)) (recs_one recs) (by omega) (by omega) hbw1.size rfl rfl rfl rfl rfl ?_
      intro v2 V2 hm2 hg2
      have hbx2 := hbx1.grown hg2 hbx1.size (fun k e => by have := (World.ownsRow.lt HW1.out k e).1; omega)
      have hbw2 := hbw1.grown hg2 hbw1.size (fun k e => (World.ownsRow.lt HW1.out k e).1)
      rw [Nat.zero_add] at hm2
      obtain ⟨xa5, xc5, rfl⟩ := own_slice hm2
      have HW2' := Lib.hid hm2
      refine ⟨HFS.out _ hbx2, ?_⟩
      clear hm2 hg2
      iterate 1
        first
        | (refine t_take (v := ?_) rfl rfl ?_ ?_
           rotate_left
           · intro W hW
             go_simp
             with_reducible rfl
           simp only [Act.put, List.setIfInBounds_toArray, List.set_cons_zero, List.set_cons_succ])
        | (refine t_skip rfl rfl ?_
           simp only [Act.put, List.setIfInBounds_toArray, List.set_cons_zero, List.set_cons_succ])
      refine t_loud rfl (fun K hK => ?_)
      have HK := Lib.hid hK
      clear hK
      go_simp
      have hbx3 := hbx2.alloc hbx2.size (.cells #[.int .i64 ep, .slice xa5 recs.length xc5] 67)
      have hbw3 := hbw2.alloc hbw2.size (.cells #[.int .i64 ep, .slice xa5 recs.length xc5] 67)
      have HL3 := Lib.hid (Rd.lit (w := V2) (cs := #[.int .i64 ep, .slice xa5 recs.length xc5]) (e := 67) (n := 1) (sz := 2) rfl (by omega))
      refine HK.out _ _ (HFS.out _ hbx3) ?_
      clear HK
      have HW3 := Lib.hid (ownsRow_below HW2'.out (below_alloc _ (.cells #[.int .i64 ep, .slice xa5 recs.length xc5] 67)) (Nat.le_refl _))
      generalize hG : World.alloc V2 _ = V3 at *
      clear hG
      have HS3 := Lib.hid (HS.out.later hbw3)
      refine t_app tyBats HS3.out.row HL3.out (by intro u hu; simp at hu; rcases hu with rfl | rfl <;> rfl) (by omega) (by omega) hbx3.size rfl rfl rfl rfl rfl ?_
      intro v4 V4 hm4 hg4
      have hbe := hbx3.grown hg4 hbx3.size (fun k e => (World.ownsRow.lt HS3.out.row k e).1)
      refine ⟨HFS.out _ hbe, ?_⟩
      obtain ⟨za, zc, rfl⟩ := own_slice hm4
      have HE := Lib.hid (HCON.out HS.out V3 V4 _ ⟨ep, .slice xa5 recs.length xc5, recs⟩ hbw3 rfl (ownsRow_mono HW3.out hxw) hm4 hg4)
      clear hm4 hg4 hbe hbx3 hbw3 hbx2 hbw2 hbx1 hbw1 hbx0 hbw0
      refine t_done ?_
      simp only [List.drop_succ_cons, List.drop_zero]
      go_wp2_with fail
      simp only [NP]
      go_wp2_with fail
      go_roundw
      case rel => exact ⟨i + 1, _, by omega, by go_num, HE.out⟩
      case measure => simp [intOf]; omega
    · obtain rfl : i = L.bats.length := by omega
      have hB4 := (HB3.out.later hbel).set (cur' := { L with rv := .slice xa L.rows.length xc, ov := .slice ya L.opn.length yc, bv := .slice va ys.length vc, bats := ys }) 10 (.slice va ys.length vc) rfl (by omega)
      have bf10 := (HB3.out.later hbel).bf 10
      have c10' := cell_later hbel c10
      have hlts := (HB3.out.later hbel).hS
      have hsx : w.heap.size < X.heap.size := by have := HXS.out; omega
      have hsx2 : w.heap.size < X2.heap.size := by have := HS2.out; omega
      have HN4 := Lib.hid (show (wr.setCell ⟨w.heap.size, 10, none⟩ (.slice va ys.length vc)).ownsRow X.heap.size 92 3 (.slice xa L.rows.length xc) L.rows.length (flatF Row.cells L.rows) from ownsRow_set (ownsRow_below HN1'.out hbel (Nat.le_refl _)) _ _ hsx)
      have HP4 := Lib.hid (show (wr.setCell ⟨w.heap.size, 10, none⟩ (.slice va ys.length vc)).ownsRow X.heap.size 33 5 (.slice ya L.opn.length yc) L.opn.length (flatF Rec.cells L.opn) from ownsRow_set (ownsRow_below HN2.out hbel (Nat.le_refl _)) _ _ hsx)
      have HQ4 := Lib.hid (show (wr.setCell ⟨w.heap.size, 10, none⟩ (.slice va ys.length vc)).ownsRow X.heap.size 67 2 (.slice va ys.length vc) ys.length (flatF Bt.cells ys) from ownsRow_mono (ownsRow_set HS.out.row _ _ hsx2) HS2.out)
      have HK4 := Lib.hid (show ∀ b ∈ ys, (wr.setCell ⟨w.heap.size, 10, none⟩ (.slice va ys.length vc)).ownsRow X.heap.size 33 5 b.rv b.recs.length (flatF Rec.cells b.recs) from fun b hb => ownsRow_mono (ownsRow_set (HS.out.recs b hb) _ _ hsx2) HS2.out)
      have HW4 := Lib.hid (show Below w.heap.size w (wr.setCell ⟨w.heap.size, 10, none⟩ (.slice va ys.length vc)) from (below_then HW2.out hbel (by omega)).setCell (p := ⟨w.heap.size, 10, none⟩) (Nat.le_refl _) _)
      have HB4 := Lib.hid hB4
      have HZ4 := Lib.hid (show X.heap.size ≤ (wr.setCell ⟨w.heap.size, 10, none⟩ (.slice va ys.length vc)).heap.size by have := hbel.size; have := HS2.out; simp; omega)
      have HCN := Lib.hid (show ys.map Bt.con = L.bats.map Bt.con by have := HS.out.con; rwa [List.take_length] at this)
      clear hB4 c10
      go_upto_region 9 with fail
      clear bf10 c10' hlts hbel HS
      generalize wr.setCell _ _ = X4 at *
      have c14 := HB4.out.box 14 _ rfl
      simp only [HV.out.2.2.2] at c14
      have HOP := Lib.hid (show OpsR X4 (.slice ga L.ops.length gc) L.ops by have := (HL.out.below HW4.out (Nat.le_refl _)).ops; rwa [HV.out.2.2.2] at this)
      go_wp2_with fail
      refine (copyG_calls _ L.ops X4 HOP.out HSM.out.ops HSM.out.ins).mono ?_
      rintro e X5 ⟨gv', zs, rfl, hcon, hrow, hins, hb5⟩
      obtain ⟨za, zc, rfl⟩ := own_slice hrow
      have hB5 := (HB4.out.later hb5).set (cur' := { L with rv := .slice xa L.rows.length xc, ov := .slice ya L.opn.length yc, bv := .slice va ys.length vc, bats := ys, gv := .slice za zs.length zc, ops := zs }) 14 (.slice za zs.length zc) rfl (by omega)
      have bf14 := (HB4.out.later hb5).bf 14
      have c14' := cell_later hb5 c14
      have hlts := (HB4.out.later hb5).hS
      have hsx4 : w.heap.size < X4.heap.size := HB4.out.hS
      have hz4 := HZ4.out
      have HN5 := Lib.hid (show LedN (X5.setCell ⟨w.heap.size, 14, none⟩ (.slice za zs.length zc)) X.heap.size { L with rv := .slice xa L.rows.length xc, ov := .slice ya L.opn.length yc, bv := .slice va ys.length vc, bats := ys, gv := .slice za zs.length zc, ops := zs } from
        ⟨ownsRow_set (ownsRow_below HN4.out hb5 (Nat.le_refl _)) _ _ hsx, ownsRow_set (ownsRow_below HP4.out hb5 (Nat.le_refl _)) _ _ hsx, ownsRow_set (ownsRow_below HQ4.out hb5 (Nat.le_refl _)) _ _ hsx, fun b hb => ownsRow_set (ownsRow_below (HK4.out b hb) hb5 (Nat.le_refl _)) _ _ hsx, ownsRow_mono (ownsRow_set hrow _ _ hsx4) hz4, fun o ho => ownsRow_mono (ownsRow_set (hins o ho) _ _ hsx4) hz4⟩)
      have HSL := Lib.hid (show SameL L { L with rv := .slice xa L.rows.length xc, ov := .slice ya L.opn.length yc, bv := .slice va ys.length vc, bats := ys, gv := .slice za zs.length zc, ops := zs } from ⟨rfl, rfl, rfl, HCN.out, rfl, rfl, rfl, hcon, rfl⟩)
      have HW5 := Lib.hid (show Below w.heap.size w (X5.setCell ⟨w.heap.size, 14, none⟩ (.slice za zs.length zc)) from (below_go HW4.out hb5).setCell (p := ⟨w.heap.size, 14, none⟩) (Nat.le_refl _) _)
      have HR5 := Lib.hid hB5.box.range
      have HT5 := Lib.hid hB5.res
      have HT1 := Lib.hid hB5.hR
      have H15 := Lib.hid (led_all { L with rv := .slice xa L.rows.length xc, ov := .slice ya L.opn.length yc, bv := .slice va ys.length vc, bats := ys, gv := .slice za zs.length zc, ops := zs } rfl rfl rfl rfl)
      clear hB5 hrow hins hcon hb5 hz4
      go_upto_region 10 with fail
      clear bf14 c14' hlts c14
      generalize X5.setCell _ _ = X6 at *
      go_wp2_with (first | (refine wpList_load_mid rfl 30 _ rfl (w.heap.size) 0 rfl (Led.cells { L with rv := .slice xa L.rows.length xc, ov := .slice ya L.opn.length yc, bv := .slice va ys.length vc, bats := ys, gv := .slice za zs.length zc, ops := zs }) _ HR5.out Try.underlying30 rfl (by show _ = some 16; kernel_rfl) ?_) | (refine wp_load_mid 30 _ rfl (w.heap.size) 0 rfl (Led.cells { L with rv := .slice xa L.rows.length xc, ov := .slice ya L.opn.length yc, bv := .slice va ys.length vc, bats := ys, gv := .slice za zs.length zc, ops := zs }) _ HR5.out Try.underlying30 rfl (by show _ = some 16; kernel_rfl) ?_) | (refine wpList_store_mid rfl 30 _ _ rfl (w.heap.size + 1) 0 (Led.cells { L with rv := .slice xa L.rows.length xc, ov := .slice ya L.opn.length yc, bv := .slice va ys.length vc, bats := ys, gv := .slice za zs.length zc, ops := zs }).toArray rfl rfl HT5.out (by show _ = some 16; kernel_rfl) H15.out ?_) | (refine wp_store_mid 30 _ _ rfl (w.heap.size + 1) 0 (Led.cells { L with rv := .slice xa L.rows.length xc, ov := .slice ya L.opn.length yc, bv := .slice va ys.length vc, bats := ys, gv := .slice za zs.length zc, ops := zs }).toArray rfl rfl HT5.out (by show _ = some 16; kernel_rfl) H15.out ?_))
      refine bodyPost_ret (v := .agg (Led.cells { L with rv := .slice xa L.rows.length xc, ov := .slice ya L.opn.length yc, bv := .slice va ys.length vc, bats := ys, gv := .slice za zs.length zc, ops := zs }).toArray) (results_cell Try.results16 rfl (resR_run HT5.out)) rfl ?_
      have hall := only_cells X6 (w.heap.size + 1) (Led.cells { L with rv := .slice xa L.rows.length xc, ov := .slice ya L.opn.length yc, bv := .slice va ys.length vc, bats := ys, gv := .slice za zs.length zc, ops := zs }) 0
      have hXs := HXS.out
      exact ⟨_, rfl, HSL.out, (HN5.out.only hall (fun j e => by omega)).mono (by omega), HW5.out.trans (hall.below (by have := HW5.out.size; omega) (fun j hj e => by omega))⟩
end Go.Proofs.Ytkabfjbmofpkdaa

/- Layer 14: all lists of a ledger written over (PartsKeeps's wipe), walked. -/
namespace Go.Proofs.Ytkabfjbmofpkdaa
open Go.RowKit Go.Shelf
set_option maxRecDepth 100000

/-- Where a ledger's rows lie. -/
structure LedIn (S : Nat → Prop) (M : Led) : Prop where
  rows : ∀ g, M.rv.ownBlock = some g → S g
  opn : ∀ g, M.ov.ownBlock = some g → S g
  bats : ∀ g, M.bv.ownBlock = some g → S g
  recs : ∀ b ∈ M.bats, ∀ g, b.rv.ownBlock = some g → S g
  ops : ∀ g, M.gv.ownBlock = some g → S g
  ins : ∀ o ∈ M.ops, ∀ g, o.iv.ownBlock = some g → S g
theorem LedN.within {w : World} {base : Nat} {M : Led} (h : LedN w base M) : LedIn (fun j => base ≤ j ∧ j < w.heap.size) M :=
  ⟨fun g e => World.ownsRow.lt h.rows g e, fun g e => World.ownsRow.lt h.opn g e, fun g e => World.ownsRow.lt h.bats g e, fun b hb g e => World.ownsRow.lt (h.recs b hb) g e, fun g e => World.ownsRow.lt h.ops g e, fun o ho g e => World.ownsRow.lt (h.ins o ho) g e⟩

theorem own_slice' {w : World} {base : Nat} {e : TypeId} {sz n : Nat} {v : Value} {xs : List Value} (h : w.ownsRow base e sz v n xs) : ∃ a c, v = .slice a n c := own_slice h
theorem own_pos {w : World} {base e sz n : Nat} {v : Value} {xs : List Value} (h : w.ownsRow base e sz v n xs) (hn : 0 < n) : ∃ g cap, v = .slice (some ⟨g, 0, none⟩) n cap ∧ v.ownBlock = some g ∧ (∀ j, j < n * sz → ∃ u, w.cell? ⟨g, j, none⟩ = some u) ∧ ∀ j, w.frozen? ⟨g, j, none⟩ = false := by
  have hl := h.1
  rcases h.2 with ⟨_, h0⟩ | ⟨g, cap, cur, rfl, _⟩
  · omega
  · refine ⟨g, cap, rfl, rfl, fun j hj => ?_, World.ownsRow.frozenAt h⟩
    have hx : xs[j]? = some xs[j] := List.getElem?_eq_getElem (by omega)
    have := World.ownsRow.cells h (g := g) rfl j _ hx
    rw [add_off, Nat.zero_add] at this
    exact ⟨_, this⟩

/-- What stands while a ledger's lists are written over. -/
structure Wp (S : Nat → Prop) (X wr : World) (M : Led) : Prop where
  only : Only S X wr
  frz : ∀ a, wr.frozen? a = X.frozen? a
  alv : ∀ a u, X.cell? a = some u → ∃ u', wr.cell? a = some u'
  hb : ∀ g n c, M.bv = .slice (some ⟨g, 0, none⟩) n c → ∀ i (h : i < M.bats.length), wr.cell? ⟨g, i * 2 + 1, none⟩ = some M.bats[i].rv
  ho : ∀ g n c, M.gv = .slice (some ⟨g, 0, none⟩) n c → ∀ i (h : i < M.ops.length), wr.cell? ⟨g, i * 7 + 1, none⟩ = some M.ops[i].iv
theorem Wp.set {S : Nat → Prop} {X wr : World} {M : Led} (h : Wp S X wr M) (b o : Nat) (v : Value) (hS : S b) (n1 : ∀ n c, M.bv = .slice (some ⟨b, 0, none⟩) n c → ∀ j, o ≠ j * 2 + 1) (n2 : ∀ n c, M.gv = .slice (some ⟨b, 0, none⟩) n c → ∀ j, o ≠ j * 7 + 1) : Wp S X (wr.setCell ⟨b, o, none⟩ v) M := by
  refine ⟨h.only.setCell ⟨b, o, none⟩ _ (.inl hS), fun a => by rw [World.frozen?_setCell]; exact h.frz a, fun a u ha => ?_, fun g n c hg i hi => ?_, fun g n c hg i hi => ?_⟩
  · obtain ⟨u', hu'⟩ := h.alv a u ha
    by_cases e : a = ⟨b, o, none⟩
    · subst e; exact ⟨v, cell_set_same v hu'⟩
    · exact ⟨u', by rw [World.cell?_setCell_other _ _ _ _ (by first | exact e | exact fun h => e h.symm)]; exact hu'⟩
  · by_cases e : g = b
    · subst e; rw [cell_set_off v (fun e => n1 n c hg i e.symm)]; exact h.hb g n c hg i hi
    · rw [cell_set_block v e]; exact h.hb g n c hg i hi
  · by_cases e : g = b
    · subst e; rw [cell_set_off v (fun e => n2 n c hg i e.symm)]; exact h.ho g n c hg i hi
    · rw [cell_set_block v e]; exact h.ho g n c hg i hi
theorem no_head {v : Value} {b : Nat} (h : v.ownBlock ≠ some b) (P : Prop) : ∀ n c, v = .slice (some ⟨b, 0, none⟩) n c → P := fun n c e => absurd (by rw [e]; rfl) h
theorem Wp.start {S : Nat → Prop} {X : World} {base : Nat} {M : Led} (h : LedN X base M) : Wp S X X M := by
  refine ⟨Only.refl _ _, fun _ => rfl, fun a u ha => ⟨u, ha⟩, fun g n c hg i hi => ?_, fun g n c hg i hi => ?_⟩
  · have hr := h.reads.bats
    rw [hg] at hr
    have hn : n = M.bats.length := by
      obtain ⟨a, c', e, -⟩ := hr.row.slice
      simp only [Value.slice.injEq] at e
      exact e.2.1
    rw [hn] at hr
    obtain ⟨b, o, e, _, h1⟩ := bt_at hr i hi
    simp only [Option.some.injEq, Addr.mk.injEq, and_true] at e
    obtain ⟨rfl, rfl⟩ := e
    rw [Nat.zero_add] at h1
    exact h1
  · have hr := h.reads.ops
    rw [hg] at hr
    have hn : n = M.ops.length := by
      obtain ⟨a, c', e, -⟩ := hr.row.slice
      simp only [Value.slice.injEq] at e
      exact e.2.1
    rw [hn] at hr
    obtain ⟨b, o, e, _, h1, _⟩ := op_at hr i hi
    simp only [Option.some.injEq, Addr.mk.injEq, and_true] at e
    obtain ⟨rfl, rfl⟩ := e
    rw [Nat.zero_add] at h1
    exact h1

set_option maxHeartbeats 8000000 in
theorem wipe_calls (M : Led) (base : Nat) (S : Nat → Prop) (w : World) (hO : LedN w base M) (hS : LedIn S M) (hw : ∀ j, S j → j < w.heap.size) (hsm : M.Small) :
    Calls Try.prog 19 #[.agg M.cells.toArray] w fun e w' => e = .returned (.tuple #[]) ∧ Only S w w' := by
  obtain ⟨X, hX⟩ : ∃ X, X = w.alloc (.cells M.cells.toArray 30) := ⟨_, rfl⟩
  have hbX : Below w.heap.size w X := by rw [hX]; exact below_alloc _ _
  have hBL : BoxL X w.heap.size M := by rw [hX]; exact boxL_self w M 30
  have hN := hO.below hbX
  obtain ⟨ra, rc, hrv⟩ := own_slice' hN.rows
  obtain ⟨oa, oc, hov⟩ := own_slice' hN.opn
  obtain ⟨ba, bc, hbv⟩ := own_slice' hN.bats
  obtain ⟨ga, gc, hgv⟩ := own_slice' hN.ops
  have hsr := hsm.rows
  have hso := hsm.opn
  have hsb := hsm.bats
  have hsp := hsm.ops
  have HX := Lib.hid hX
  have HBX := Lib.hid hbX
  have HBOX := Lib.hid (show ∀ wr, Wp S X wr M → BoxL wr w.heap.size M from fun wr h j v hj => h.only.cell (fun e => by have := hw _ e; omega) (hBL j v hj))
  have HN := Lib.hid hN
  have HS := Lib.hid hS
  have HW := Lib.hid hw
  have HSM := Lib.hid hsm
  have HV := Lib.hid (And.intro hrv (And.intro hov (And.intro hbv hgv)))
  clear hX hbX hBL hN hO hS hw hsm hrv hov hbv hgv
  go_enter Try.func19, Try.ntmps19
  go_upto_region 2 with fail
  rw [show w.alloc (.cells M.cells.toArray 30) = X from HX.out.symm]
  go_loopw [2] (fun iv wr => ∃ i : Nat, i ≤ M.rows.length ∧ iv = .int .i64 i ∧ Wp S X wr M) (fun iv _ => M.rows.length - (intOf iv).toNat)
  case atStart => exact ⟨0, by omega, rfl, Wp.start HN.out⟩
  case round =>
    obtain ⟨i, hi, rfl, hp⟩ := hrel
    have HP := Lib.hid hp
    have c0 := HBOX.out _ hp 0 _ rfl
    rw [HV.out.1] at c0
    by_cases hlt : i < M.rows.length
    · obtain ⟨g, cap, hv, hob, hcl, hfr⟩ := own_pos HN.out.rows (by omega)
      obtain ⟨u, hu⟩ := hcl (i * 3 + 2) (by omega)
      obtain ⟨u', hu'⟩ := hp.alv _ _ hu
      have hf : wr.frozen? ⟨g, i * 3 + 2, none⟩ = false := (hp.frz _).trans (hfr _)
      have HOB := Lib.hid hob
      rw [HV.out.1] at hv
      simp only [Value.slice.injEq, true_and] at hv
      obtain ⟨rfl, rfl⟩ := hv
      clear hp hcl hfr hu hob
      go_wp2_with fail
      go_roundw
      case rel => exact ⟨i + 1, by omega, by go_num, HP.out.set g (i * 3 + 2) _ (HS.out.rows g HOB.out) (no_head (own_apart HN.out.rows HN.out.bats (by decide) g HOB.out) _) (no_head (own_apart HN.out.rows HN.out.ops (by decide) g HOB.out) _)⟩
      case measure => simp [intOf]; omega
    · obtain rfl : i = M.rows.length := by omega
      clear hp
      go_wp2_with fail
      clear c0
      go_loopw [3] (fun iv wr => ∃ i : Nat, i ≤ M.opn.length ∧ iv = .int .i64 i ∧ Wp S X wr M) (fun iv _ => M.opn.length - (intOf iv).toNat)
      case atStart => exact ⟨0, by omega, rfl, HP.out⟩
      case round =>
        obtain ⟨i, hi, rfl, hp⟩ := hrel
        have HP := Lib.hid hp
        have c0 := HBOX.out _ hp 9 _ rfl
        rw [HV.out.2.1] at c0
        by_cases hlt : i < M.opn.length
        · obtain ⟨g, cap, hv, hob, hcl, hfr⟩ := own_pos HN.out.opn (by omega)
          obtain ⟨u, hu⟩ := hcl (i * 5 + 1) (by omega)
          obtain ⟨u', hu'⟩ := hp.alv _ _ hu
          have hf : wr.frozen? ⟨g, i * 5 + 1, none⟩ = false := (hp.frz _).trans (hfr _)
          have HOB := Lib.hid hob
          rw [HV.out.2.1] at hv
          simp only [Value.slice.injEq, true_and] at hv
          obtain ⟨rfl, rfl⟩ := hv
          clear hp hcl hfr hu hob
          go_wp2_with fail
          go_roundw
          case rel => exact ⟨i + 1, by omega, by go_num, HP.out.set g (i * 5 + 1) _ (HS.out.opn g HOB.out) (no_head (own_apart HN.out.opn HN.out.bats (by decide) g HOB.out) _) (no_head (own_apart HN.out.opn HN.out.ops (by decide) g HOB.out) _)⟩
          case measure => simp [intOf]; omega
        · obtain rfl : i = M.opn.length := by omega
          clear hp
          go_wp2_with fail
          clear c0
          go_loopw [4, 5] (fun iv _ wr => ∃ i : Nat, i ≤ M.bats.length ∧ iv = .int .i64 i ∧ Wp S X wr M) (fun iv _ _ => M.bats.length - (intOf iv).toNat)
          case atStart => exact ⟨0, by omega, rfl, HP.out⟩
          case round =>
            obtain ⟨i, hi, rfl, hp⟩ := hrel
            have HP := Lib.hid hp
            have c0 := HBOX.out _ hp 10 _ rfl
            rw [HV.out.2.2.1] at c0
            by_cases hlt : i < M.bats.length
            · obtain ⟨g, cap, hv, hob, hcl, hfr⟩ := own_pos HN.out.bats (by omega)
              have HHD := Lib.hid (fun wq (h : Wp S X wq M) => h.hb _ _ _ hv i hlt)
              have HOB := Lib.hid hob
              have HCL := Lib.hid (hcl (i * 2) (by omega))
              have HFR := Lib.hid hfr
              rw [HV.out.2.2.1] at hv
              simp only [Value.slice.injEq, true_and] at hv
              obtain ⟨rfl, rfl⟩ := hv
              have HIN := Lib.hid (HS.out.recs M.bats[i] (List.getElem_mem _))
              have HSO := Lib.hid (HN.out.recs M.bats[i] (List.getElem_mem _))
              have hrn := HSM.out.recs M.bats[i] (List.getElem_mem _)
              clear hp hcl hfr hob
              generalize M.bats[i] = O at *
              obtain ⟨ep, rv, recs⟩ := O
              simp only at HHD HIN HSO hrn
              obtain ⟨xa, xc, rfl⟩ := own_slice HSO.out
              go_wp2_with fail
              clear c0
              generalize wr = wo at *
              go_loopw [5] (fun kv wq => ∃ k : Nat, k ≤ recs.length ∧ kv = .int .i64 k ∧ Wp S X wq M) (fun kv _ => recs.length - (intOf kv).toNat)
              case atStart => exact ⟨0, by omega, rfl, HP.out⟩
              case round =>
                obtain ⟨k, hk, rfl, hq⟩ := hrel
                have HQ := Lib.hid hq
                have c0 := HBOX.out _ hq 10 _ rfl
                rw [HV.out.2.2.1] at c0
                have e1 := HHD.out _ hq
                by_cases hlk : k < recs.length
                · obtain ⟨g2, cap2, hv2, hob2, hcl2, hfr2⟩ := own_pos HSO.out (by omega)
                  obtain ⟨u, hu⟩ := hcl2 (k * 5 + 1) (by omega)
                  obtain ⟨u', hu'⟩ := hq.alv _ _ hu
                  have hf : wr.frozen? ⟨g2, k * 5 + 1, none⟩ = false := (hq.frz _).trans (hfr2 _)
                  have HOB2 := Lib.hid hob2
                  simp only [Value.slice.injEq, true_and] at hv2
                  obtain ⟨rfl, rfl⟩ := hv2
                  clear hq hcl2 hfr2 hu hob2
                  go_wp2_with fail
                  go_roundw
                  case rel => exact ⟨k + 1, by omega, by go_num, HQ.out.set g2 (k * 5 + 1) _ (HIN.out g2 HOB2.out) (no_head (own_apart HSO.out HN.out.bats (by decide) g2 HOB2.out) _) (no_head (own_apart HSO.out HN.out.ops (by decide) g2 HOB2.out) _)⟩
                  case measure => simp [intOf]; omega
                · obtain rfl : k = recs.length := by omega
                  obtain ⟨u, hu⟩ := HCL.out
                  obtain ⟨u', hu'⟩ := hq.alv _ _ hu
                  have hf : wr.frozen? ⟨g, i * 2, none⟩ = false := (hq.frz _).trans (HFR.out _)
                  clear hq hu
                  go_wp2_with fail
                  go_roundw
                  case rel => exact ⟨i + 1, by omega, by go_num, HQ.out.set g (i * 2) _ (HS.out.bats g HOB.out) (fun n c _ j => by omega) (no_head (own_apart HN.out.bats HN.out.ops (by decide) g HOB.out) _)⟩
                  case measure => simp [intOf]; omega
            · obtain rfl : i = M.bats.length := by omega
              clear hp
              go_wp2_with fail
              clear c0
              go_loopw [6, 7] (fun iv _ wr => ∃ i : Nat, i ≤ M.ops.length ∧ iv = .int .i64 i ∧ Wp S X wr M) (fun iv _ _ => M.ops.length - (intOf iv).toNat)
              case atStart => exact ⟨0, by omega, rfl, HP.out⟩
              case round =>
                obtain ⟨i, hi, rfl, hp⟩ := hrel
                have HP := Lib.hid hp
                have c0 := HBOX.out _ hp 14 _ rfl
                rw [HV.out.2.2.2] at c0
                by_cases hlt : i < M.ops.length
                · obtain ⟨g, cap, hv, hob, hcl, hfr⟩ := own_pos HN.out.ops (by omega)
                  have HHD := Lib.hid (fun wq (h : Wp S X wq M) => h.ho _ _ _ hv i hlt)
                  have HOB := Lib.hid hob
                  have HCL := Lib.hid (hcl (i * 7) (by omega))
                  have HFR := Lib.hid hfr
                  rw [HV.out.2.2.2] at hv
                  simp only [Value.slice.injEq, true_and] at hv
                  obtain ⟨rfl, rfl⟩ := hv
                  have HIN := Lib.hid (HS.out.ins M.ops[i] (List.getElem_mem _))
                  have HSO := Lib.hid (HN.out.ins M.ops[i] (List.getElem_mem _))
                  have hrn := HSM.out.ins M.ops[i] (List.getElem_mem _)
                  clear hp hcl hfr hob
                  generalize M.ops[i] = O at *
                  obtain ⟨kind, iv, ins, arg, num, rounds, test, lim⟩ := O
                  simp only at HHD HIN HSO hrn
                  obtain ⟨xa, xc, rfl⟩ := own_slice HSO.out
                  go_wp2_with fail
                  clear c0
                  generalize wr = wo at *
                  go_loopw [7] (fun kv wq => ∃ k : Nat, k ≤ ins.length ∧ kv = .int .i64 k ∧ Wp S X wq M) (fun kv _ => ins.length - (intOf kv).toNat)
                  case atStart => exact ⟨0, by omega, rfl, HP.out⟩
                  case round =>
                    obtain ⟨k, hk, rfl, hq⟩ := hrel
                    have HQ := Lib.hid hq
                    have c0 := HBOX.out _ hq 14 _ rfl
                    rw [HV.out.2.2.2] at c0
                    have e1 := HHD.out _ hq
                    by_cases hlk : k < ins.length
                    · obtain ⟨g2, cap2, hv2, hob2, hcl2, hfr2⟩ := own_pos HSO.out (by omega)
                      obtain ⟨u, hu⟩ := hcl2 (k) (by omega)
                      obtain ⟨u', hu'⟩ := hq.alv _ _ hu
                      have hf : wr.frozen? ⟨g2, k, none⟩ = false := (hq.frz _).trans (hfr2 _)
                      have HOB2 := Lib.hid hob2
                      simp only [Value.slice.injEq, true_and] at hv2
                      obtain ⟨rfl, rfl⟩ := hv2
                      clear hq hcl2 hfr2 hu hob2
                      go_wp2_with fail
                      go_roundw
                      case rel => exact ⟨k + 1, by omega, by go_num, HQ.out.set g2 (k) _ (HIN.out g2 HOB2.out) (no_head (own_apart HSO.out HN.out.bats (by decide) g2 HOB2.out) _) (no_head (own_apart HSO.out HN.out.ops (by decide) g2 HOB2.out) _)⟩
                      case measure => simp [intOf]; omega
                    · obtain rfl : k = ins.length := by omega
                      obtain ⟨u, hu⟩ := HCL.out
                      obtain ⟨u', hu'⟩ := hq.alv _ _ hu
                      have hf : wr.frozen? ⟨g, i * 7, none⟩ = false := (hq.frz _).trans (HFR.out _)
                      clear hq hu
                      go_wp2_with fail
                      go_roundw
                      case rel => exact ⟨i + 1, by omega, by go_num, HQ.out.set g (i * 7) _ (HS.out.ops g HOB.out) (no_head (own_apart HN.out.ops HN.out.bats (by decide) g HOB.out) _) (fun n c _ j => by omega)⟩
                      case measure => simp [intOf]; omega
                · obtain rfl : i = M.ops.length := by omega
                  clear hp
                  go_wp2_with fail
                  refine bodyPost_end (results_none rfl _ _ _) rfl ?_
                  exact ⟨rfl, (Only.of_below (S := S) HBX.out).trans HP.out.only (fun j _ h => h)⟩
end Go.Proofs.Ytkabfjbmofpkdaa

/- Layer 14: PartsApplies walked. -/
namespace Go.Proofs.Ytkabfjbmofpkdaa
open Go.RowKit Go.Shelf
set_option maxRecDepth 100000

theorem range_later {w w' : World} {b : Nat} {cs : List Value} (hb : Below w.heap.size w w') (h : w.rangeAt b 0 cs) : w'.rangeAt b 0 cs := fun j v hj => cell_later hb (h j v hj)
theorem rd_one {w : World} {sz n : Nat} {v : Value} {cs : List Value} (h : Rd w sz v n cs) : v.oneCell' = true := by
  obtain ⟨a, c, rfl, -⟩ := Rd.slice h
  rfl

set_option maxHeartbeats 4000000 in
theorem applies_core (L : Led) (E : Ent) (w : World) (hL : LedR w L) (hok : L.Ok) (hsz : L.Sz 1048576) (hG : OpsR w E.gv E.os) (hek : E.Ok) (hes : E.Small) :
    Calls Try.prog 3 #[.agg L.cells.toArray, .agg E.cells.toArray] w fun e w' => e = .returned (.bool true) ∧ Below w.heap.size w w' := by
  obtain ⟨X, hX⟩ : ∃ X, X = (w.alloc (.cells L.cells.toArray 30)).alloc (.cells E.cells.toArray 35) := ⟨_, rfl⟩
  have hbX : Below w.heap.size w X := by rw [hX]; exact below_box (below_alloc _ _) _
  have hBL : BoxL X w.heap.size L := by rw [hX]; exact (boxL_self w L 30).later (below_alloc _ _)
  have hBE : BoxE X (w.heap.size + 1) E := by
    rw [hX]
    have := boxE_self (w.alloc (.cells L.cells.toArray 30)) E 35
    rwa [World.size_alloc] at this
  have HX := Lib.hid hX
  have HBL := Lib.hid hBL
  have HBE := Lib.hid hBE
  have HBX := Lib.hid hbX
  have HL := Lib.hid hL
  have HOK := Lib.hid hok
  have HSM := Lib.hid (hsz.small (by omega))
  have HAOK := Lib.hid (apply_ok L E hok hek)
  have HASM := Lib.hid ((apply_sz L E hsz).small (by omega))
  have HG := Lib.hid hG
  have HEK := Lib.hid hek
  have HES := Lib.hid hes
  have HRL := Lib.hid hBL.range
  have HGA := Lib.hid (good_apply L E)
  clear hX hBL hBE hbX hL hok hsz hG hek hes
  go_enter Try.func3, Try.ntmps3
  go_upto_region 1 with fail
  rw [show (w.alloc (.cells L.cells.toArray 30)).alloc (.cells E.cells.toArray 35) = X from HX.out.symm]
  have e0 := HBE.out 0 _ rfl
  have e1 := HBE.out 1 _ rfl
  have e2 := HBE.out 2 _ rfl
  have e3 := HBE.out 3 _ rfl
  have e4 := HBE.out 4 _ rfl
  have e5 := HBE.out 5 _ rfl
  have e6 := HBE.out 6 _ rfl
  have e7 := HBE.out 7 _ rfl
  go_wp2_with (first | (refine wpList_load_mid rfl 30 _ rfl (w.heap.size) 0 rfl (Led.cells L) _ (by exact HRL.out) Try.underlying30 rfl (by show _ = some 16; kernel_rfl) ?_) | (refine wp_load_mid 30 _ rfl (w.heap.size) 0 rfl (Led.cells L) _ (by exact HRL.out) Try.underlying30 rfl (by show _ = some 16; kernel_rfl) ?_) | (refine list_loadk rfl rfl (b := w.heap.size) (off := 0) rfl (cs := Led.cells L) Try.underlying30 rfl (by show _ = some 16; kernel_rfl) (by exact HRL.out) ?_))
  clear e0 e1 e2 e3 e4 e5 e6 e7
  refine (apply_calls L E X (HL.out.below HBX.out (Nat.le_refl _)) HOK.out HSM.out (HG.out.below HBX.out (Nat.le_refl _)) HEK.out HES.out).mono ?_
  rintro e w1 ⟨M, rfl, hS, hO, hb1⟩
  have HS := Lib.hid hS
  have HO := Lib.hid hO
  have HB1 := Lib.hid (below_go HBX.out hb1)
  have HE1 := Lib.hid (HBE.out.later hb1)
  have HR1 := Lib.hid (range_later hb1 HRL.out)
  have hT := there_new w1
  unfold zero16 at hT
  have HT := Lib.hid hT
  clear hT
  have H1 := Lib.hid (led_all M (own_one hO.rows) (own_one hO.opn) (own_one hO.bats) (own_one hO.ops))
  clear hS hO hb1
  have hbn := box_new w1 M
  unfold zero16 at hbn
  have HBN := Lib.hid hbn
  clear hbn
  go_upto_region 2 with (first | (refine wpList_store_mid rfl 30 _ _ rfl (w1.heap.size) 0 (Led.cells M).toArray rfl rfl (by exact HT.out) (by show _ = some 16; kernel_rfl) H1.out ?_; generalize hWgen : World.setCells _ _ _ _ = W2 at *; clear hWgen) | (refine wp_store_mid 30 _ _ rfl (w1.heap.size) 0 (Led.cells M).toArray rfl rfl (by exact HT.out) (by show _ = some 16; kernel_rfl) H1.out ?_; generalize hWgen : World.setCells _ _ _ _ = W2 at *; clear hWgen))
  have HB2 := Lib.hid (below_go HB1.out HBN.out.2)
  have HE2 := Lib.hid (HE1.out.later HBN.out.2)
  have HR2 := Lib.hid (range_later HBN.out.2 HR1.out)
  have HRM := Lib.hid HBN.out.1.range
  have HM2 := Lib.hid (HO.out.below HBN.out.2).reads
  clear HO HT H1 HB1 HE1 HR1
  have e0 := HE2.out 0 _ rfl
  have e1 := HE2.out 1 _ rfl
  have e2 := HE2.out 2 _ rfl
  have e3 := HE2.out 3 _ rfl
  have e4 := HE2.out 4 _ rfl
  have e5 := HE2.out 5 _ rfl
  have e6 := HE2.out 6 _ rfl
  have e7 := HE2.out 7 _ rfl
  go_wp2_with (first | (refine wpList_load_mid rfl 30 _ rfl (w.heap.size) 0 rfl (Led.cells L) _ (by exact HR2.out) Try.underlying30 rfl (by show _ = some 16; kernel_rfl) ?_) | (refine wp_load_mid 30 _ rfl (w.heap.size) 0 rfl (Led.cells L) _ (by exact HR2.out) Try.underlying30 rfl (by show _ = some 16; kernel_rfl) ?_) | (refine list_loadk rfl rfl (b := w.heap.size) (off := 0) rfl (cs := Led.cells L) Try.underlying30 rfl (by show _ = some 16; kernel_rfl) (by exact HR2.out) ?_))
  clear e0 e1 e2 e3 e4 e5 e6 e7
  refine (rapply_calls L E W2 (HL.out.below HB2.out (Nat.le_refl _)) HOK.out HSM.out (HG.out.below HB2.out (Nat.le_refl _)) HEK.out HES.out).mono ?_
  rintro e w3 ⟨N, rfl, hS3, hR3, hb3⟩
  have HS3 := Lib.hid hS3
  have HN3 := Lib.hid hR3
  have HB3 := Lib.hid (below_go HB2.out hb3)
  have HR3 := Lib.hid (range_later hb3 HR2.out)
  have HRM3 := Lib.hid (range_later hb3 HRM.out)
  have HM3 := Lib.hid (HM2.out.below hb3 (Nat.le_refl _))
  have hT := there_new w3
  unfold zero16 at hT
  have HT := Lib.hid hT
  clear hT
  have H1 := Lib.hid (led_allR hR3)
  clear hS3 hR3 hb3
  have hbn := box_new w3 N
  unfold zero16 at hbn
  have HBN3 := Lib.hid hbn
  clear hbn
  go_upto_region 3 with (first | (refine wpList_store_mid rfl 30 _ _ rfl (w3.heap.size) 0 (Led.cells N).toArray rfl rfl (by exact HT.out) (by show _ = some 16; kernel_rfl) H1.out ?_; generalize hWgen : World.setCells _ _ _ _ = W4 at *; clear hWgen) | (refine wp_store_mid 30 _ _ rfl (w3.heap.size) 0 (Led.cells N).toArray rfl rfl (by exact HT.out) (by show _ = some 16; kernel_rfl) H1.out ?_; generalize hWgen : World.setCells _ _ _ _ = W4 at *; clear hWgen))
  have HB4 := Lib.hid (below_go HB3.out HBN3.out.2)
  have HR4 := Lib.hid (range_later HBN3.out.2 HR3.out)
  have HRM4 := Lib.hid (range_later HBN3.out.2 HRM3.out)
  have HRN4 := Lib.hid HBN3.out.1.range
  have HM4 := Lib.hid (HM3.out.below HBN3.out.2 (Nat.le_refl _))
  have HN4 := Lib.hid (HN3.out.below HBN3.out.2 (Nat.le_refl _))
  have HGM := Lib.hid HS.out.good
  generalize hga : (applyL L E).2.1 = GA at *
  generalize hgc : (applyL L E).2.2 = GC at *
  clear hga hgc HT H1 HN3 HM3 HRM3 HR3 HB3 HE2 HR2 HRM HM2
  by_cases hc : GC = 3
  · have hc1 : (GC == 3) = true := beq_iff_eq.2 hc
    clear hc HGA
    refine region_m [(0, true), (1, false), (2, false), (4, false), (3, true), (5, true), (6, false), (7, false), (8, false), (9, false), (10, false), (11, true), (12, false), (13, false), (14, false), (15, false), (16, false), (17, false), (18, false), (19, false), (20, false), (21, false), (22, false), (23, false), (24, false), (25, false), (26, false), (27, false), (28, true), (29, false), (30, false)] 31 (fun V => V.rangeAt w.heap.size 0 L.cells ∧ V.rangeAt w1.heap.size 0 M.cells ∧ V.rangeAt w3.heap.size 0 N.cells) (by kernel_rfl) (by kernel_rfl) ⟨HR4.out, HRM4.out, HRN4.out⟩ ?_
    refine m_loud rfl (fun K hK => ?_)
    have HK := Lib.hid hK
    clear hK
    go_simp
    refine (known14_calls _).mono ?_
    rintro e w5 ⟨rfl, hb5⟩
    have hb5 : Below W4.heap.size W4 w5 := ((Below.refl W4.heap.size W4).drew).trans hb5
    have HB5 := Lib.hid hb5
    clear hb5
    refine HK.out _ _ ⟨range_later HB5.out HR4.out, range_later HB5.out HRM4.out, range_later HB5.out HRN4.out⟩ ?_
    clear HK
    iterate 1
      first
      | (refine m_take (v := ?_) rfl rfl ?_ ?_
         rotate_left
         · intro W hW
           go_simp
           with_reducible rfl
         simp only [Act.put, List.setIfInBounds_toArray, List.set_cons_zero, List.set_cons_succ])
      | (refine m_skip rfl rfl ?_
         simp only [Act.put, List.setIfInBounds_toArray, List.set_cons_zero, List.set_cons_succ])
    refine m_loadk rfl rfl rfl rfl (fun W hW => hW.1) Try.underlying30 rfl (by show _ = some 16; kernel_rfl) ?_
    refine m_loadk rfl rfl rfl rfl (fun W hW => hW.1) Try.underlying30 rfl (by show _ = some 16; kernel_rfl) ?_
    simp only [Act.put, List.setIfInBounds_toArray, List.set_cons_zero, List.set_cons_succ]
    refine m_loud rfl (fun K hK => ?_)
    have HK := Lib.hid hK
    clear hK
    go_simp
    refine (pGood_calls L w5 (HL.out.below (below_go HB4.out HB5.out) (Nat.le_refl _)) HOK.out HSM.out).mono ?_
    rintro e w6 ⟨rfl, hb6⟩
    have HB6 := Lib.hid (below_go HB5.out hb6)
    clear hb6
    refine HK.out _ _ ⟨range_later HB6.out HR4.out, range_later HB6.out HRM4.out, range_later HB6.out HRN4.out⟩ ?_
    clear HK
    refine m_loud rfl (fun K hK => ?_)
    have HK := Lib.hid hK
    clear hK
    go_simp
    refine (rGood_calls L w6 (HL.out.below (below_go HB4.out HB6.out) (Nat.le_refl _)) HOK.out HSM.out).mono ?_
    rintro e w7 ⟨rfl, hb7⟩
    have HB7 := Lib.hid (below_go HB6.out hb7)
    clear hb7
    refine HK.out _ _ ⟨range_later HB7.out HR4.out, range_later HB7.out HRM4.out, range_later HB7.out HRN4.out⟩ ?_
    clear HK
    generalize L.good = G
    iterate 3
      first
      | (refine m_take (v := ?_) rfl rfl ?_ ?_
         rotate_left
         · intro W hW
           go_simp
           with_reducible rfl
         simp only [Act.put, List.setIfInBounds_toArray, List.set_cons_zero, List.set_cons_succ])
      | (refine m_skip rfl rfl ?_
         simp only [Act.put, List.setIfInBounds_toArray, List.set_cons_zero, List.set_cons_succ])
    refine m_loadk rfl rfl rfl rfl (fun W hW => hW.2.1) Try.underlying30 rfl (by show _ = some 16; kernel_rfl) ?_
    refine m_loadk rfl rfl rfl rfl (fun W hW => hW.2.2) Try.underlying30 rfl (by show _ = some 16; kernel_rfl) ?_
    simp only [Act.put, List.setIfInBounds_toArray, List.set_cons_zero, List.set_cons_succ]
    refine m_loud rfl (fun K hK => ?_)
    have HK := Lib.hid hK
    clear hK
    go_simp
    refine (same14_calls M N w7 (HM4.out.below HB7.out (Nat.le_refl _)) (HN4.out.below HB7.out (Nat.le_refl _)) (HS.out.symm.trans HS3.out)).mono ?_
    rintro e w8 ⟨rfl, hb8⟩
    have HB8 := Lib.hid (below_go HB7.out hb8)
    clear hb8
    refine HK.out _ _ ⟨range_later HB8.out HR4.out, range_later HB8.out HRM4.out, range_later HB8.out HRN4.out⟩ ?_
    clear HK
    iterate 16
      first
      | (refine m_take (v := ?_) rfl rfl ?_ ?_
         rotate_left
         · intro W hW
           go_simp
           with_reducible rfl
         simp only [Act.put, List.setIfInBounds_toArray, List.set_cons_zero, List.set_cons_succ])
      | (refine m_skip rfl rfl ?_
         simp only [Act.put, List.setIfInBounds_toArray, List.set_cons_zero, List.set_cons_succ])
    refine m_loud rfl (fun K hK => ?_)
    have HK := Lib.hid hK
    clear hK
    go_simp
    refine HK.out _ _ ⟨range_later HB8.out HR4.out, range_later HB8.out HRM4.out, range_later HB8.out HRN4.out⟩ ?_
    clear HK
    iterate 2
      first
      | (refine m_take (v := ?_) rfl rfl ?_ ?_
         rotate_left
         · intro W hW
           go_simp
           with_reducible rfl
         simp only [Act.put, List.setIfInBounds_toArray, List.set_cons_zero, List.set_cons_succ])
      | (refine m_skip rfl rfl ?_
         simp only [Act.put, List.setIfInBounds_toArray, List.set_cons_zero, List.set_cons_succ])
    refine m_done ?_
    simp only [List.drop_succ_cons, List.drop_zero]
    go_wp2_with fail
    simp only [NP]
    go_wp2_with fail
    go_ret
    exact ⟨rfl, below_go HB4.out HB8.out⟩
  · have hc1 : (GC == 3) = false := beq_eq_false_iff_ne.2 hc
    have hgm : M.good = true := by rw [HGM.out]; exact HGA.out.resolve_left hc
    have HGM := Lib.hid hgm
    clear hc HGA hgm
    refine region_m [(0, true), (1, false), (2, false), (4, false), (3, true), (5, true), (6, false), (7, false), (8, false), (9, false), (10, false), (11, true), (12, false), (13, false), (14, false), (15, false), (16, false), (17, false), (18, false), (19, false), (20, false), (21, false), (22, false), (23, false), (24, false), (25, false), (26, false), (27, false), (28, true), (29, false), (30, false)] 31 (fun V => V.rangeAt w.heap.size 0 L.cells ∧ V.rangeAt w1.heap.size 0 M.cells ∧ V.rangeAt w3.heap.size 0 N.cells) (by kernel_rfl) (by kernel_rfl) ⟨HR4.out, HRM4.out, HRN4.out⟩ ?_
    refine m_loud rfl (fun K hK => ?_)
    have HK := Lib.hid hK
    clear hK
    go_simp
    refine (known14_calls _).mono ?_
    rintro e w5 ⟨rfl, hb5⟩
    have hb5 : Below W4.heap.size W4 w5 := ((Below.refl W4.heap.size W4).drew).trans hb5
    have HB5 := Lib.hid hb5
    clear hb5
    refine HK.out _ _ ⟨range_later HB5.out HR4.out, range_later HB5.out HRM4.out, range_later HB5.out HRN4.out⟩ ?_
    clear HK
    iterate 1
      first
      | (refine m_take (v := ?_) rfl rfl ?_ ?_
         rotate_left
         · intro W hW
           go_simp
           with_reducible rfl
         simp only [Act.put, List.setIfInBounds_toArray, List.set_cons_zero, List.set_cons_succ])
      | (refine m_skip rfl rfl ?_
         simp only [Act.put, List.setIfInBounds_toArray, List.set_cons_zero, List.set_cons_succ])
    refine m_loadk rfl rfl rfl rfl (fun W hW => hW.1) Try.underlying30 rfl (by show _ = some 16; kernel_rfl) ?_
    refine m_loadk rfl rfl rfl rfl (fun W hW => hW.1) Try.underlying30 rfl (by show _ = some 16; kernel_rfl) ?_
    simp only [Act.put, List.setIfInBounds_toArray, List.set_cons_zero, List.set_cons_succ]
    refine m_loud rfl (fun K hK => ?_)
    have HK := Lib.hid hK
    clear hK
    go_simp
    refine (pGood_calls L w5 (HL.out.below (below_go HB4.out HB5.out) (Nat.le_refl _)) HOK.out HSM.out).mono ?_
    rintro e w6 ⟨rfl, hb6⟩
    have HB6 := Lib.hid (below_go HB5.out hb6)
    clear hb6
    refine HK.out _ _ ⟨range_later HB6.out HR4.out, range_later HB6.out HRM4.out, range_later HB6.out HRN4.out⟩ ?_
    clear HK
    refine m_loud rfl (fun K hK => ?_)
    have HK := Lib.hid hK
    clear hK
    go_simp
    refine (rGood_calls L w6 (HL.out.below (below_go HB4.out HB6.out) (Nat.le_refl _)) HOK.out HSM.out).mono ?_
    rintro e w7 ⟨rfl, hb7⟩
    have HB7 := Lib.hid (below_go HB6.out hb7)
    clear hb7
    refine HK.out _ _ ⟨range_later HB7.out HR4.out, range_later HB7.out HRM4.out, range_later HB7.out HRN4.out⟩ ?_
    clear HK
    generalize L.good = G
    iterate 3
      first
      | (refine m_take (v := ?_) rfl rfl ?_ ?_
         rotate_left
         · intro W hW
           go_simp
           with_reducible rfl
         simp only [Act.put, List.setIfInBounds_toArray, List.set_cons_zero, List.set_cons_succ])
      | (refine m_skip rfl rfl ?_
         simp only [Act.put, List.setIfInBounds_toArray, List.set_cons_zero, List.set_cons_succ])
    refine m_loadk rfl rfl rfl rfl (fun W hW => hW.2.1) Try.underlying30 rfl (by show _ = some 16; kernel_rfl) ?_
    refine m_loadk rfl rfl rfl rfl (fun W hW => hW.2.2) Try.underlying30 rfl (by show _ = some 16; kernel_rfl) ?_
    simp only [Act.put, List.setIfInBounds_toArray, List.set_cons_zero, List.set_cons_succ]
    refine m_loud rfl (fun K hK => ?_)
    have HK := Lib.hid hK
    clear hK
    go_simp
    refine (same14_calls M N w7 (HM4.out.below HB7.out (Nat.le_refl _)) (HN4.out.below HB7.out (Nat.le_refl _)) (HS.out.symm.trans HS3.out)).mono ?_
    rintro e w8 ⟨rfl, hb8⟩
    have HB8 := Lib.hid (below_go HB7.out hb8)
    clear hb8
    refine HK.out _ _ ⟨range_later HB8.out HR4.out, range_later HB8.out HRM4.out, range_later HB8.out HRN4.out⟩ ?_
    clear HK
    iterate 15
      first
      | (refine m_take (v := ?_) rfl rfl ?_ ?_
         rotate_left
         · intro W hW
           go_simp
           with_reducible rfl
         simp only [Act.put, List.setIfInBounds_toArray, List.set_cons_zero, List.set_cons_succ])
      | (refine m_skip rfl rfl ?_
         simp only [Act.put, List.setIfInBounds_toArray, List.set_cons_zero, List.set_cons_succ])
    refine m_loadk rfl rfl rfl rfl (fun W hW => hW.2.1) Try.underlying30 rfl (by show _ = some 16; kernel_rfl) ?_
    simp only [Act.put, List.setIfInBounds_toArray, List.set_cons_zero, List.set_cons_succ]
    refine m_loud rfl (fun K hK => ?_)
    have HK := Lib.hid hK
    clear hK
    go_simp
    refine (pGood_calls M w8 (HM4.out.below HB8.out (Nat.le_refl _)) (HS.out.ok HAOK.out) (HS.out.small HASM.out)).mono ?_
    rintro e w9 ⟨rfl, hb9⟩
    have HB9 := Lib.hid (below_go HB8.out hb9)
    clear hb9
    rw [HGM.out]
    refine HK.out _ _ ⟨range_later HB9.out HR4.out, range_later HB9.out HRM4.out, range_later HB9.out HRN4.out⟩ ?_
    clear HK
    iterate 2
      first
      | (refine m_take (v := ?_) rfl rfl ?_ ?_
         rotate_left
         · intro W hW
           go_simp
           with_reducible rfl
         simp only [Act.put, List.setIfInBounds_toArray, List.set_cons_zero, List.set_cons_succ])
      | (refine m_skip rfl rfl ?_
         simp only [Act.put, List.setIfInBounds_toArray, List.set_cons_zero, List.set_cons_succ])
    refine m_done ?_
    simp only [List.drop_succ_cons, List.drop_zero]
    go_wp2_with fail
    simp only [NP]
    go_wp2_with fail
    go_ret
    exact ⟨rfl, below_go HB4.out HB9.out⟩
end Go.Proofs.Ytkabfjbmofpkdaa

/- Layer 14: PartsKeeps walked. -/
namespace Go.Proofs.Ytkabfjbmofpkdaa
open Go.RowKit Go.Shelf
set_option maxRecDepth 100000

theorem range_only {S : Nat → Prop} {w w' : World} {b : Nat} {cs : List Value} (ho : Only S w w') (hS : ¬ S b) (h : w.rangeAt b 0 cs) : w'.rangeAt b 0 cs := fun j v hj => ho.cell hS (h j v hj)

/-- What stands from the second copy on. -/
structure KSt (w w1 w2 W : World) (L A : Led) (E : Ent) (gv : Value) : Prop where
  s1 : w.heap.size + 1 < w1.heap.size
  s2 : w1.heap.size < w2.heap.size
  b : Below w.heap.size w W
  d1 : Below w1.heap.size w1 W
  d2 : Below w2.heap.size w2 W
  e : BoxE W (w.heap.size + 1) E
  rl : W.rangeAt w.heap.size 0 L.cells
  ra : W.rangeAt w1.heap.size 0 A.cells
  g : W.cell? ⟨w2.heap.size, 0, none⟩ = some gv
theorem KSt.size {w w1 w2 W : World} {L A : Led} {E : Ent} {gv : Value} (h : KSt w w1 w2 W L A E gv) : w2.heap.size < W.heap.size := World.block_lt_of_cell? W _ h.g
theorem KSt.only {S : Nat → Prop} {w w1 w2 W W' : World} {L A : Led} {E : Ent} {gv : Value} (h : KSt w w1 w2 W L A E gv) (ho : Only S W W') (hS : ∀ j, S j → w2.heap.size < j) : KSt w w1 w2 W' L A E gv := by
  have hz := h.size
  have h1 := h.s1
  have h2 := h.s2
  exact ⟨h1, h2, h.b.trans (ho.below (by omega) (fun j hj e => by have := hS j e; omega)), h.d1.trans (ho.below (by omega) (fun j hj e => by have := hS j e; omega)), h.d2.trans (ho.below (by omega) (fun j hj e => by have := hS j e; omega)),
    h.e.only ho (fun e => by have := hS _ e; omega), range_only ho (fun e => by have := hS _ e; omega) h.rl, range_only ho (fun e => by have := hS _ e; omega) h.ra, ho.cell (fun e => by have := hS _ e; omega) h.g⟩
theorem KSt.later {w w1 w2 W W' : World} {L A : Led} {E : Ent} {gv : Value} (h : KSt w w1 w2 W L A E gv) (hb : Below W.heap.size W W') : KSt w w1 w2 W' L A E gv :=
  h.only (Only.of_below (S := fun _ => False) hb) (fun _ e => e.elim)

set_option maxHeartbeats 8000000 in
theorem keeps_core (L : Led) (E : Ent) (w : World) (hL : LedR w L) (hok : L.Ok) (hsz : L.Sz 1048576) (hG : OpsR w E.gv E.os) (hek : E.Ok) (hes : E.Small) :
    Calls Try.prog 4 #[.agg L.cells.toArray, .agg E.cells.toArray] w fun e w' => e = .returned (.bool true) ∧ Below w.heap.size w w' := by
  obtain ⟨X, hX⟩ : ∃ X, X = (w.alloc (.cells L.cells.toArray 30)).alloc (.cells E.cells.toArray 35) := ⟨_, rfl⟩
  have hbX : Below w.heap.size w X := by rw [hX]; exact below_box (below_alloc _ _) _
  have hBL : BoxL X w.heap.size L := by rw [hX]; exact (boxL_self w L 30).later (below_alloc _ _)
  have hBE : BoxE X (w.heap.size + 1) E := by
    rw [hX]
    have := boxE_self (w.alloc (.cells L.cells.toArray 30)) E 35
    rwa [World.size_alloc] at this
  have HX := Lib.hid hX
  have HBL := Lib.hid hBL
  have HBE := Lib.hid hBE
  have HBX := Lib.hid hbX
  have HL := Lib.hid hL
  have HOK := Lib.hid hok
  have HSM := Lib.hid (hsz.small (by omega))
  have HASM := Lib.hid ((apply_sz L E hsz).small (by omega))
  have HG := Lib.hid hG
  have HEK := Lib.hid hek
  have HES := Lib.hid hes
  clear hX hBL hBE hbX hL hok hsz hG hek hes
  go_enter Try.func4, Try.ntmps4
  go_upto_region 1 with fail
  rw [show (w.alloc (.cells L.cells.toArray 30)).alloc (.cells E.cells.toArray 35) = X from HX.out.symm]
  go_wp2_with fail
  refine (known14_calls _).mono ?_
  rintro e w0 ⟨rfl, hb0⟩
  have HB0 := Lib.hid (below_go HBX.out hb0)
  have HR0 := Lib.hid (HBL.out.later hb0).range
  have HE0 := Lib.hid (HBE.out.later hb0)
  clear hb0
  go_wp2_with (first | (refine wpList_load_mid rfl 30 _ rfl (w.heap.size) 0 rfl (Led.cells L) _ (by exact HR0.out) Try.underlying30 rfl (by show _ = some 16; kernel_rfl) ?_) | (refine wp_load_mid 30 _ rfl (w.heap.size) 0 rfl (Led.cells L) _ (by exact HR0.out) Try.underlying30 rfl (by show _ = some 16; kernel_rfl) ?_) | (refine list_loadk rfl rfl (b := w.heap.size) (off := 0) rfl (cs := Led.cells L) Try.underlying30 rfl (by show _ = some 16; kernel_rfl) (by exact HR0.out) ?_))
  refine (copy_calls L w0 (HL.out.below HB0.out (Nat.le_refl _)) HSM.out).mono ?_
  rintro e w1 ⟨A, rfl, hSA, hNA, hb1⟩
  have HSA := Lib.hid hSA
  have HNA := Lib.hid hNA.reads
  have HB1 := Lib.hid (below_go HB0.out hb1)
  have HE1 := Lib.hid (HE0.out.later hb1)
  have HR1 := Lib.hid (range_later hb1 HR0.out)
  have hT := there_new w1
  unfold zero16 at hT
  have HT := Lib.hid hT
  have H1 := Lib.hid (led_all A (own_one hNA.rows) (own_one hNA.opn) (own_one hNA.bats) (own_one hNA.ops))
  clear hSA hNA hb1 hT
  have hbn := box_new w1 A
  unfold zero16 at hbn
  have HBN := Lib.hid hbn
  clear hbn
  go_upto_region 4 with (first | (refine wpList_store_mid rfl 30 _ _ rfl (w1.heap.size) 0 (Led.cells A).toArray rfl rfl (by exact HT.out) (by show _ = some 16; kernel_rfl) H1.out ?_; generalize hWgen : World.setCells _ _ _ _ = W1 at *; clear hWgen) | (refine wp_store_mid 30 _ _ rfl (w1.heap.size) 0 (Led.cells A).toArray rfl rfl (by exact HT.out) (by show _ = some 16; kernel_rfl) H1.out ?_; generalize hWgen : World.setCells _ _ _ _ = W1 at *; clear hWgen))
  have HB1' := Lib.hid (below_go HB1.out HBN.out.2)
  have HD1 := Lib.hid HBN.out.2
  have HE1' := Lib.hid (HE1.out.later HBN.out.2)
  have HR1' := Lib.hid (range_later HBN.out.2 HR1.out)
  have HRA := Lib.hid HBN.out.1.range
  have SZ1 := Lib.hid (show w.heap.size + 1 < w1.heap.size from by
    have h := World.block_lt_of_cell? _ _ (HE1.out 0 _ rfl)
    exact h)
  clear HBN HT H1 HE1 HR1 HB1 HE0 HR0 HB0
  have e6 := HE1'.out 6 _ rfl
  go_wp2_with fail
  have hes := HES.out
  refine (copyG_calls E.gv E.os W1 (HG.out.below HB1'.out (Nat.le_refl _)) hes.1 hes.2).mono ?_
  rintro e w2 ⟨gv', zs, rfl, hcon, hrow, hins, hb2⟩
  have HZ := Lib.hid (show OpsR w2 gv' zs from ⟨Rd.of_own hrow, fun o ho => Rd.of_own (hins o ho)⟩)
  have HCON := Lib.hid hcon
  have HB2 := Lib.hid hb2
  obtain ⟨za, zc, rfl⟩ := own_slice hrow
  clear hcon hrow hins hb2 e6 hes
  go_upto_region 5 with fail
  have HK2 := Lib.hid (show KSt w w1 w2 (w2.alloc (.cells #[.slice za zs.length zc] 28)) L A E (.slice za zs.length zc) from by
    have hab : Below W1.heap.size W1 (w2.alloc (.cells #[.slice za zs.length zc] 28)) := below_box HB2.out _
    have h1 := World.block_lt_of_cell? _ _ (HRA.out 0 _ rfl)
    simp only at h1
    have h2 := HB2.out.size
    exact ⟨SZ1.out, by omega, below_go HB1'.out hab, below_go HD1.out hab, below_alloc _ _, HE1'.out.later hab, range_later hab HR1'.out, range_later hab HRA.out, box_self 0 _ rfl⟩)
  generalize w2.alloc (.cells #[.slice za zs.length zc] 28) = W2 at *
  clear HB1' HD1 HE1' HR1' HRA
  have e0 := HK2.out.e 0 _ rfl
  have e1 := HK2.out.e 1 _ rfl
  have e2 := HK2.out.e 2 _ rfl
  have e3 := HK2.out.e 3 _ rfl
  have e4 := HK2.out.e 4 _ rfl
  have e5 := HK2.out.e 5 _ rfl
  have e6 := HK2.out.e 6 _ rfl
  have e7 := HK2.out.e 7 _ rfl
  have rl := Lib.hid HK2.out.rl
  go_wp2_with (first | (refine wpList_load_mid rfl 30 _ rfl (w.heap.size) 0 rfl (Led.cells L) _ (by exact rl.out) Try.underlying30 rfl (by show _ = some 16; kernel_rfl) ?_) | (refine wp_load_mid 30 _ rfl (w.heap.size) 0 rfl (Led.cells L) _ (by exact rl.out) Try.underlying30 rfl (by show _ = some 16; kernel_rfl) ?_) | (refine list_loadk rfl rfl (b := w.heap.size) (off := 0) rfl (cs := Led.cells L) Try.underlying30 rfl (by show _ = some 16; kernel_rfl) (by exact rl.out) ?_))
  clear e0 e1 e2 e3 e4 e5 e6 e7
  refine (apply_calls L E W2 (HL.out.below HK2.out.b (Nat.le_refl _)) HOK.out HSM.out (HG.out.below HK2.out.b (Nat.le_refl _)) HEK.out HES.out).mono ?_
  rintro e w3 ⟨M, rfl, hS, hO, hb3⟩
  have HMS := Lib.hid (hS.small HASM.out)
  have HM := Lib.hid hO.toN
  have HB3 := Lib.hid hb3
  have hT := there_new w3
  unfold zero16 at hT
  have HT := Lib.hid hT
  have H1 := Lib.hid (led_all M (own_one hO.rows) (own_one hO.opn) (own_one hO.bats) (own_one hO.ops))
  clear hS hO hb3 hT
  have hbn := box_new w3 M
  unfold zero16 at hbn
  have HBN := Lib.hid hbn
  clear hbn
  go_upto_region 6 with (first | (refine wpList_store_mid rfl 30 _ _ rfl (w3.heap.size) 0 (Led.cells M).toArray rfl rfl (by exact HT.out) (by show _ = some 16; kernel_rfl) H1.out ?_; generalize hWgen : World.setCells _ _ _ _ = W3 at *; clear hWgen) | (refine wp_store_mid 30 _ _ rfl (w3.heap.size) 0 (Led.cells M).toArray rfl rfl (by exact HT.out) (by show _ = some 16; kernel_rfl) H1.out ?_; generalize hWgen : World.setCells _ _ _ _ = W3 at *; clear hWgen))
  have HK3 := Lib.hid (HK2.out.later (below_go HB3.out HBN.out.2))
  have HRM3 := Lib.hid HBN.out.1.range
  have HM3 := Lib.hid (HM.out.below HBN.out.2)
  have SZ3 := Lib.hid (And.intro HB3.out.size (World.block_lt_of_cell? _ _ (HBN.out.1.range 0 _ rfl)))
  have HIN := Lib.hid HM.out.within
  clear HT H1 HBN rl HM
  have e0 := HK3.out.e 0 _ rfl
  have e1 := HK3.out.e 1 _ rfl
  have e2 := HK3.out.e 2 _ rfl
  have e3 := HK3.out.e 3 _ rfl
  have e4 := HK3.out.e 4 _ rfl
  have e5 := HK3.out.e 5 _ rfl
  have e6 := HK3.out.e 6 _ rfl
  have e7 := HK3.out.e 7 _ rfl
  have rl := Lib.hid HK3.out.rl
  go_wp2_with (first | (refine wpList_load_mid rfl 30 _ rfl (w.heap.size) 0 rfl (Led.cells L) _ (by exact rl.out) Try.underlying30 rfl (by show _ = some 16; kernel_rfl) ?_) | (refine wp_load_mid 30 _ rfl (w.heap.size) 0 rfl (Led.cells L) _ (by exact rl.out) Try.underlying30 rfl (by show _ = some 16; kernel_rfl) ?_) | (refine list_loadk rfl rfl (b := w.heap.size) (off := 0) rfl (cs := Led.cells L) Try.underlying30 rfl (by show _ = some 16; kernel_rfl) (by exact rl.out) ?_))
  clear e0 e1 e2 e3 e4 e5 e6 e7
  refine (apply_calls L E W3 (HL.out.below HK3.out.b (Nat.le_refl _)) HOK.out HSM.out (HG.out.below HK3.out.b (Nat.le_refl _)) HEK.out HES.out).mono ?_
  rintro e w4 ⟨N, rfl, hS, hO, hb4⟩
  have HNS := Lib.hid (hS.small HASM.out)
  have HN := Lib.hid hO.toN
  have HB4 := Lib.hid hb4
  have hT := there_new w4
  unfold zero16 at hT
  have HT := Lib.hid hT
  have H1 := Lib.hid (led_all N (own_one hO.rows) (own_one hO.opn) (own_one hO.bats) (own_one hO.ops))
  clear hS hO hb4 hT
  have hbn := box_new w4 N
  unfold zero16 at hbn
  have HBN := Lib.hid hbn
  clear hbn
  go_upto_region 7 with (first | (refine wpList_store_mid rfl 30 _ _ rfl (w4.heap.size) 0 (Led.cells N).toArray rfl rfl (by exact HT.out) (by show _ = some 16; kernel_rfl) H1.out ?_; generalize hWgen : World.setCells _ _ _ _ = W4 at *; clear hWgen) | (refine wp_store_mid 30 _ _ rfl (w4.heap.size) 0 (Led.cells N).toArray rfl rfl (by exact HT.out) (by show _ = some 16; kernel_rfl) H1.out ?_; generalize hWgen : World.setCells _ _ _ _ = W4 at *; clear hWgen))
  have HK4 := Lib.hid (HK3.out.later (below_go HB4.out HBN.out.2))
  have HRM4 := Lib.hid (range_later (below_go HB4.out HBN.out.2) HRM3.out)
  have HM4 := Lib.hid (HM3.out.below (below_go HB4.out HBN.out.2))
  have HRN4 := Lib.hid HBN.out.1.range
  have HN4 := Lib.hid (HN.out.below HBN.out.2)
  have SZ4 := Lib.hid (And.intro HB4.out.size (World.block_lt_of_cell? _ _ (HBN.out.1.range 0 _ rfl)))
  clear HT H1 HBN rl HN HRM3 HM3
  generalize (applyL L E).2.1 = GA at *
  generalize (applyL L E).2.2 = GC at *
  have rl := Lib.hid HK4.out.rl
  have ra := Lib.hid HK4.out.ra
  go_wp2_with (first | (refine wpList_load_mid rfl 30 _ rfl (w.heap.size) 0 rfl (Led.cells L) _ (by exact rl.out) Try.underlying30 rfl (by show _ = some 16; kernel_rfl) ?_) | (refine wp_load_mid 30 _ rfl (w.heap.size) 0 rfl (Led.cells L) _ (by exact rl.out) Try.underlying30 rfl (by show _ = some 16; kernel_rfl) ?_) | (refine list_loadk rfl rfl (b := w.heap.size) (off := 0) rfl (cs := Led.cells L) Try.underlying30 rfl (by show _ = some 16; kernel_rfl) (by exact rl.out) ?_) | (refine wpList_load_mid rfl 30 _ rfl (w1.heap.size) 0 rfl (Led.cells A) _ (by exact ra.out) Try.underlying30 rfl (by show _ = some 16; kernel_rfl) ?_) | (refine wp_load_mid 30 _ rfl (w1.heap.size) 0 rfl (Led.cells A) _ (by exact ra.out) Try.underlying30 rfl (by show _ = some 16; kernel_rfl) ?_) | (refine list_loadk rfl rfl (b := w1.heap.size) (off := 0) rfl (cs := Led.cells A) Try.underlying30 rfl (by show _ = some 16; kernel_rfl) (by exact ra.out) ?_))
  refine (same14_calls L A W4 (HL.out.below HK4.out.b (Nat.le_refl _)) (HNA.out.below HK4.out.d1 (Nat.le_refl _)) HSA.out).mono ?_
  rintro e w5 ⟨rfl, hb5⟩
  have HK5 := Lib.hid (HK4.out.later hb5)
  have HRM5 := Lib.hid (range_later hb5 HRM4.out)
  have HM5 := Lib.hid (HM4.out.below hb5)
  have HRN5 := Lib.hid (range_later hb5 HRN4.out)
  have HN5 := Lib.hid (HN4.out.below hb5)
  clear hb5 rl ra HRM4 HM4 HRN4 HN4
  have e6 := HK5.out.e 6 _ rfl
  have g0 := HK5.out.g
  go_wp2_with fail
  refine (sameGraph_calls _ _ E.os zs w5 (HG.out.below HK5.out.b (Nat.le_refl _)) (HZ.out.below HK5.out.d2 (Nat.le_refl _)) HCON.out).mono ?_
  rintro e w6 ⟨rfl, hb6⟩
  have HK6 := Lib.hid (HK5.out.later hb6)
  have HRM6 := Lib.hid (range_later hb6 HRM5.out)
  have HM6 := Lib.hid (HM5.out.below hb6)
  have HRN6 := Lib.hid (range_later hb6 HRN5.out)
  have HN6 := Lib.hid (HN5.out.below hb6)
  clear hb6 e6 g0 HRM5 HM5 HRN5 HN5
  have rl := Lib.hid HK6.out.rl
  have ra := Lib.hid HK6.out.ra
  by_cases hc : GC = 3
  · have hc1 : (GC == 3) = true := beq_iff_eq.2 hc
    clear hc
    go_wp2_with (first | (refine wpList_load_mid rfl 30 _ rfl (w.heap.size) 0 rfl (Led.cells L) _ (by exact rl.out) Try.underlying30 rfl (by show _ = some 16; kernel_rfl) ?_) | (refine wp_load_mid 30 _ rfl (w.heap.size) 0 rfl (Led.cells L) _ (by exact rl.out) Try.underlying30 rfl (by show _ = some 16; kernel_rfl) ?_) | (refine list_loadk rfl rfl (b := w.heap.size) (off := 0) rfl (cs := Led.cells L) Try.underlying30 rfl (by show _ = some 16; kernel_rfl) (by exact rl.out) ?_) | (refine wpList_load_mid rfl 30 _ rfl (w1.heap.size) 0 rfl (Led.cells A) _ (by exact ra.out) Try.underlying30 rfl (by show _ = some 16; kernel_rfl) ?_) | (refine wp_load_mid 30 _ rfl (w1.heap.size) 0 rfl (Led.cells A) _ (by exact ra.out) Try.underlying30 rfl (by show _ = some 16; kernel_rfl) ?_) | (refine list_loadk rfl rfl (b := w1.heap.size) (off := 0) rfl (cs := Led.cells A) Try.underlying30 rfl (by show _ = some 16; kernel_rfl) (by exact ra.out) ?_))
    refine (same14_calls L A w6 (HL.out.below HK6.out.b (Nat.le_refl _)) (HNA.out.below HK6.out.d1 (Nat.le_refl _)) HSA.out).mono ?_
    rintro e w7 ⟨rfl, hb7⟩
    have HK7 := Lib.hid (HK6.out.later hb7)
    clear hb7
    go_wp2_with fail
    go_ret
    exact ⟨rfl, HK7.out.b⟩
  · have hc1 : (GC == 3) = false := beq_eq_false_iff_ne.2 hc
    clear hc
    go_wp2_with (first | (refine wpList_load_mid rfl 30 _ rfl (w4.heap.size) 0 rfl (Led.cells N) _ (by exact HRN6.out) Try.underlying30 rfl (by show _ = some 16; kernel_rfl) ?_) | (refine wp_load_mid 30 _ rfl (w4.heap.size) 0 rfl (Led.cells N) _ (by exact HRN6.out) Try.underlying30 rfl (by show _ = some 16; kernel_rfl) ?_) | (refine list_loadk rfl rfl (b := w4.heap.size) (off := 0) rfl (cs := Led.cells N) Try.underlying30 rfl (by show _ = some 16; kernel_rfl) (by exact HRN6.out) ?_))
    refine (copy_calls N w6 HN6.out.reads HNS.out).mono ?_
    rintro e w7 ⟨C, rfl, hSC, hNC, hb7⟩
    have HSC := Lib.hid hSC
    have HC7 := Lib.hid hNC
    have HB7 := Lib.hid hb7
    have hT := there_new w7
    unfold zero16 at hT
    have HT := Lib.hid hT
    have H1 := Lib.hid (led_all C (own_one hNC.rows) (own_one hNC.opn) (own_one hNC.bats) (own_one hNC.ops))
    clear hSC hNC hb7 hT
    have hbn := box_new w7 C
    unfold zero16 at hbn
    have HBN := Lib.hid hbn
    clear hbn
    go_upto_region 10 with (first | (refine wpList_store_mid rfl 30 _ _ rfl (w7.heap.size) 0 (Led.cells C).toArray rfl rfl (by exact HT.out) (by show _ = some 16; kernel_rfl) H1.out ?_; generalize hWgen : World.setCells _ _ _ _ = W7 at *; clear hWgen) | (refine wp_store_mid 30 _ _ rfl (w7.heap.size) 0 (Led.cells C).toArray rfl rfl (by exact HT.out) (by show _ = some 16; kernel_rfl) H1.out ?_; generalize hWgen : World.setCells _ _ _ _ = W7 at *; clear hWgen))
    have HD7 := Lib.hid (below_go HB7.out HBN.out.2)
    have HK7 := Lib.hid (HK6.out.later HD7.out)
    have HRM7 := Lib.hid (range_later HD7.out HRM6.out)
    have HM7 := Lib.hid (HM6.out.below HD7.out)
    have HRN7 := Lib.hid (range_later HD7.out HRN6.out)
    have HN7 := Lib.hid (HN6.out.below HD7.out)
    have HRC7 := Lib.hid HBN.out.1.range
    have HCC7 := Lib.hid (HC7.out.below HBN.out.2)
    have SZ7 := Lib.hid (show w4.heap.size < w6.heap.size ∧ w6.heap.size ≤ w7.heap.size ∧ w7.heap.size < W7.heap.size from ⟨World.block_lt_of_cell? _ _ (HRN6.out 0 _ rfl), HB7.out.size, World.block_lt_of_cell? _ _ (HRC7.out 0 _ rfl)⟩)
    clear HT H1 HBN rl ra HRM6 HM6 HRN6 HN6 HD7
    go_wp2_with (first | (refine wpList_load_mid rfl 30 _ rfl (w3.heap.size) 0 rfl (Led.cells M) _ (by exact HRM7.out) Try.underlying30 rfl (by show _ = some 16; kernel_rfl) ?_) | (refine wp_load_mid 30 _ rfl (w3.heap.size) 0 rfl (Led.cells M) _ (by exact HRM7.out) Try.underlying30 rfl (by show _ = some 16; kernel_rfl) ?_) | (refine list_loadk rfl rfl (b := w3.heap.size) (off := 0) rfl (cs := Led.cells M) Try.underlying30 rfl (by show _ = some 16; kernel_rfl) (by exact HRM7.out) ?_))
    refine (wipe_calls M W2.heap.size (fun j => W2.heap.size ≤ j ∧ j < w3.heap.size) W7 HM7.out HIN.out (fun j h => by have := SZ7.out; have := SZ3.out; have := SZ4.out; omega) HMS.out).mono ?_
    rintro e w8 ⟨rfl, ho⟩
    have hz2 := HK2.out.size
    have hz3 := SZ3.out
    have hz4 := SZ4.out
    have hz7 := SZ7.out
    have HK8 := Lib.hid (HK7.out.only ho (fun j h => by omega))
    have HRN8 := Lib.hid (range_only ho (by omega) HRN7.out)
    have HN8 := Lib.hid (HN7.out.only ho (fun j h => by omega))
    have HRC8 := Lib.hid (range_only ho (by omega) HRC7.out)
    have HC8 := Lib.hid (HCC7.out.only ho (fun j h => by omega))
    clear ho hz2 hz3 hz4 hz7 HK7 HRN7 HN7 HRC7 HCC7 HRM7 HM7
    go_wp2_with (first | (refine wpList_load_mid rfl 30 _ rfl (w4.heap.size) 0 rfl (Led.cells N) _ (by exact HRN8.out) Try.underlying30 rfl (by show _ = some 16; kernel_rfl) ?_) | (refine wp_load_mid 30 _ rfl (w4.heap.size) 0 rfl (Led.cells N) _ (by exact HRN8.out) Try.underlying30 rfl (by show _ = some 16; kernel_rfl) ?_) | (refine list_loadk rfl rfl (b := w4.heap.size) (off := 0) rfl (cs := Led.cells N) Try.underlying30 rfl (by show _ = some 16; kernel_rfl) (by exact HRN8.out) ?_) | (refine wpList_load_mid rfl 30 _ rfl (w7.heap.size) 0 rfl (Led.cells C) _ (by exact HRC8.out) Try.underlying30 rfl (by show _ = some 16; kernel_rfl) ?_) | (refine wp_load_mid 30 _ rfl (w7.heap.size) 0 rfl (Led.cells C) _ (by exact HRC8.out) Try.underlying30 rfl (by show _ = some 16; kernel_rfl) ?_) | (refine list_loadk rfl rfl (b := w7.heap.size) (off := 0) rfl (cs := Led.cells C) Try.underlying30 rfl (by show _ = some 16; kernel_rfl) (by exact HRC8.out) ?_))
    refine (same14_calls N C w8 HN8.out.reads HC8.out.reads HSC.out).mono ?_
    rintro e w9 ⟨rfl, hb9⟩
    have HK9 := Lib.hid (HK8.out.later hb9)
    clear hb9
    have rl := Lib.hid HK9.out.rl
    have ra := Lib.hid HK9.out.ra
    go_wp2_with (first | (refine wpList_load_mid rfl 30 _ rfl (w.heap.size) 0 rfl (Led.cells L) _ (by exact rl.out) Try.underlying30 rfl (by show _ = some 16; kernel_rfl) ?_) | (refine wp_load_mid 30 _ rfl (w.heap.size) 0 rfl (Led.cells L) _ (by exact rl.out) Try.underlying30 rfl (by show _ = some 16; kernel_rfl) ?_) | (refine list_loadk rfl rfl (b := w.heap.size) (off := 0) rfl (cs := Led.cells L) Try.underlying30 rfl (by show _ = some 16; kernel_rfl) (by exact rl.out) ?_) | (refine wpList_load_mid rfl 30 _ rfl (w1.heap.size) 0 rfl (Led.cells A) _ (by exact ra.out) Try.underlying30 rfl (by show _ = some 16; kernel_rfl) ?_) | (refine wp_load_mid 30 _ rfl (w1.heap.size) 0 rfl (Led.cells A) _ (by exact ra.out) Try.underlying30 rfl (by show _ = some 16; kernel_rfl) ?_) | (refine list_loadk rfl rfl (b := w1.heap.size) (off := 0) rfl (cs := Led.cells A) Try.underlying30 rfl (by show _ = some 16; kernel_rfl) (by exact ra.out) ?_))
    refine (same14_calls L A w9 (HL.out.below HK9.out.b (Nat.le_refl _)) (HNA.out.below HK9.out.d1 (Nat.le_refl _)) HSA.out).mono ?_
    rintro e w10 ⟨rfl, hb10⟩
    have HK10 := Lib.hid (HK9.out.later hb10)
    clear hb10
    have e6 := HK10.out.e 6 _ rfl
    have g0 := HK10.out.g
    go_wp2_with fail
    refine (sameGraph_calls _ _ E.os zs w10 (HG.out.below HK10.out.b (Nat.le_refl _)) (HZ.out.below HK10.out.d2 (Nat.le_refl _)) HCON.out).mono ?_
    rintro e w11 ⟨rfl, hb11⟩
    have HK11 := Lib.hid (HK10.out.later hb11)
    clear hb11
    go_wp2_with fail
    go_ret
    exact ⟨rfl, HK11.out.b⟩
end Go.Proofs.Ytkabfjbmofpkdaa
