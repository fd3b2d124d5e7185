/- Walks and plain laws of the chapter, laid together; each part says what it proves. -/
import Derived.Test.YthgmligpconhhaaGreatDoorPkA
import Derived.Test.YthgmligpconhhaaGreatDoorPkC
import Derived.Test.YthgmligpconhhaaGreatDoorPkD
import Derived.Test.YthgmligpconhhaaGreatDoorPkL
import Derived.Test.YthgmligpconhhaaGreatDoorPkM
/- Layer 24: Open on a new disk, walked. -/
namespace Go.Proofs.YthgmligpconhhaaGreatDoor
open Go.RowKit Go.Shelf
set_option linter.unusedVariables false
set_option linter.unusedSimpArgs false
set_option maxRecDepth 100000
attribute [local go_sem] Oper.semAt_some

def newS (l : Nat) : Sk := ⟨l, false, 0, .slice none 0 0, [], .slice none 0 0, [], .slice none 0 0, [], false⟩
def snm : ByteArray := ⟨#[115, 105, 110, 107]⟩
theorem snm_right : rightNm snm.data.toList = true := by decide
theorem SkAt.new {w : World} {B l : Nat} (hB : B ≤ w.heap.size) : SkAt (w.alloc (.cells #[.pointer (some ⟨l, 0, none⟩), .bool false, .int .i64 0, .slice none 0 0, .slice none 0 0, .slice none 0 0, .bool false] 59)) B w.heap.size (newS l) :=
  ⟨World.ownsRow_lit w _ 1 hB (by unfold maxLen; omega) rfl, World.ownsRow_nil _ _ _ _, fun x hx => by simp [newS] at hx, PRow.nil _ _, PRow.nil _ _, fun g hg => by simp [newS, Value.ownBlock] at hg⟩
theorem sopen_nil (w : World) : Calls Tryz.prog 8 #[.pointer none] w fun e w' => e = .returned (.tuple #[.pointer none, .int .i64 9]) ∧ Below w.heap.size w w' := by
  refine (callsIn_wide (n := 0)).1 ?_
  refine callsIn_of_wp_marks Tryz.func8 rfl trivial ?_
  simp only [Tryz.ntmps8, List.size_toArray, List.length_cons, List.length_nil, Nat.reduceAdd, Nat.reduceSub, Array.replicate_succ, Array.replicate_zero, List.push_toArray, List.append_toArray, List.nil_append, List.cons_append]
  gi_wp2_with (gi_at_call 18; refine (callsIn_wide.2 (lopen_nil _ _ _)).mono ?_; rintro e w3 ⟨rfl, rfl⟩)
  refine ⟨.tuple #[.pointer none, .int .i64 9], by simp [results, Tryz.results8, go_sem], rfl, ((Below.refl _ _).alloc (Nat.le_refl _) _).alloc (by simp) _⟩
set_option maxHeartbeats 4000000 in
theorem sopen_new (d B : Nat) (D : Dk) (w : World) (h : DiskAt w B d D) (h0 : D.now = []) (hB : B ≤ w.heap.size) :
    Calls Tryz.prog 8 #[.pointer (some ⟨d, 0, none⟩)] w fun e w' => ∃ s l, e = .returned (.tuple #[.pointer (some ⟨s, 0, none⟩), .int .i64 0]) ∧ Below w.heap.size w w' ∧ SD w' B s (newS l) (newL d snm 65536) D ∧ w.heap.size ≤ s ∧ w.heap.size ≤ l := by
  have HD := Lib.hid h
  refine (callsIn_wide (n := 0)).1 ?_
  refine callsIn_of_wp_marks Tryz.func8 rfl trivial ?_
  simp only [Tryz.ntmps8, List.size_toArray, List.length_cons, List.length_nil, Nat.reduceAdd, Nat.reduceSub, Array.replicate_succ, Array.replicate_zero, List.push_toArray, List.append_toArray, List.nil_append, List.cons_append]
  have hb2 : Below w.heap.size w ((w.alloc (.cells #[.pointer none] 29)).alloc (.cells #[.int .i64 0] 26)) := ((Below.refl _ _).alloc (Nat.le_refl _) _).alloc (by simp) _
  have rc0 : ((w.alloc (.cells #[.pointer none] 29)).alloc (.cells #[.int .i64 0] 26)).cell? ⟨w.heap.size, 0, none⟩ = some (.pointer none) ∧ ((w.alloc (.cells #[.pointer none] 29)).alloc (.cells #[.int .i64 0] 26)).frozen? ⟨w.heap.size, 0, none⟩ = false := by
    refine ⟨?_, ?_⟩
    · rw [World.cell?_alloc_past _ _ _ (by simp), World.cell?_alloc_at _ _ _ _ rfl]; rfl
    · rw [World.frozen?_alloc_past _ _ _ (by simp), World.frozen?_alloc_at _ _ _ _ rfl]
  have rc1 : ((w.alloc (.cells #[.pointer none] 29)).alloc (.cells #[.int .i64 0] 26)).cell? ⟨w.heap.size + 1, 0, none⟩ = some (.int .i64 0) ∧ ((w.alloc (.cells #[.pointer none] 29)).alloc (.cells #[.int .i64 0] 26)).frozen? ⟨w.heap.size + 1, 0, none⟩ = false := by
    refine ⟨?_, ?_⟩
    · rw [World.cell?_alloc_at _ _ _ _ (by simp)]; rfl
    · rw [World.frozen?_alloc_at _ _ _ _ (by simp)]
  have rt0 : TyAt ((w.alloc (.cells #[.pointer none] 29)).alloc (.cells #[.int .i64 0] 26)) w.heap.size 29 := ⟨_, _, (Below.heap_alloc _ _ _ (by simp)).trans (World.alloc_heap_new w _)⟩
  have rt1 : TyAt ((w.alloc (.cells #[.pointer none] 29)).alloc (.cells #[.int .i64 0] 26)) (w.heap.size + 1) 26 := ⟨_, _, by have := World.alloc_heap_new (w.alloc (.cells #[.pointer none] 29)) (.cells #[.int .i64 0] 26); rwa [World.size_alloc] at this⟩
  obtain ⟨W2, hW2⟩ : ∃ W2, W2 = (w.alloc (.cells #[.pointer none] 29)).alloc (.cells #[.int .i64 0] 26) := ⟨_, rfl⟩
  have hs2 : W2.heap.size = w.heap.size + 2 := by rw [hW2]; simp
  rw [← hW2] at rc0 rc1 rt0 rt1 hb2
  have HRT := Lib.hid (And.intro rt0 rt1)
  have HRC := Lib.hid (And.intro rc0 rc1)
  have HW2 := Lib.hid hW2
  have HS2 := Lib.hid hs2
  clear rc0 rc1 rt0 rt1 hW2 hs2
  gi_wp2_with (gi_at_call 18; rw [← HW2.out]; refine (callsIn_wide.2 (lopen_new d B D snm 65536 _ (HD.out.below hb2) h0 (Nat.le_trans hB hb2.size) snm_right (by omega))).mono ?_; rintro e w3 ⟨l, rfl, hl, hlog, hb3⟩; have HB23 := Lib.hid hb3; have HLL := Lib.hid hl; have HLOG := Lib.hid hlog; have HB3 := Lib.hid (hb2.trans (hb3.mono hb2.size)); clear hlog hb3 hl)
  gi_wp2_with (gi_at_call 19; refine (lall_calls (some ⟨l, 0, none⟩) 0 _).mono ?_; rintro e w4 ⟨rfl, rfl⟩)
  obtain ⟨T, hT⟩ : ∃ T, T = w3.heap.size := ⟨_, rfl⟩
  have hsk := SkAt.new (l := l) (B := B) (w := w3) (by have := HB3.out.size; omega)
  obtain ⟨X, hX⟩ : ∃ X, X = w3.alloc (.cells #[.pointer (some ⟨l, 0, none⟩), .bool false, .int .i64 0, .slice none 0 0, .slice none 0 0, .slice none 0 0, .bool false] 59) := ⟨_, rfl⟩
  have hXs : X.heap.size = T + 1 := by rw [hX, hT]; simp
  have hbX : Below w3.heap.size w3 X := by rw [hX]; exact below_alloc _ _
  rw [← hX] at hsk
  obtain ⟨Y, hY⟩ : ∃ Y, Y = ((X.alloc (.cells #[.pointer (some ⟨w3.heap.size, 0, none⟩)] 29)).alloc (.cells #[.pointer (some ⟨l, 0, none⟩)] 55)).alloc (.cells #[.int .i64 0] 3) := ⟨_, rfl⟩
  have hYs : Y.heap.size = T + 4 := by rw [hY]; simp [hXs]
  have hbY : Below X.heap.size X Y := by rw [hY]; exact (((Below.refl _ _).alloc (Nat.le_refl _) _).alloc (by simp) _).alloc (by simp; omega) _
  have hys : Y.cell? ⟨T + 1, 0, none⟩ = some (.pointer (some ⟨T, 0, none⟩)) := by
    rw [hY, ← hXs, World.cell?_alloc_past _ _ _ (by simp; omega), World.cell?_alloc_past _ _ _ (by simp), World.cell?_alloc_at _ _ _ _ rfl, hT]; rfl
  have hyl : Y.cell? ⟨T + 2, 0, none⟩ = some (.pointer (some ⟨l, 0, none⟩)) := by
    rw [hY, show T + 2 = X.heap.size + 1 by omega, World.cell?_alloc_past _ _ _ (by simp), World.cell?_alloc_at _ _ _ _ (by simp)]; rfl
  have hyf : Y.cell? ⟨T + 3, 0, none⟩ = some (.int .i64 (0 : Nat)) := by
    rw [hY, show T + 3 = X.heap.size + 2 by omega, World.cell?_alloc_at _ _ _ _ (by simp)]; rfl
  obtain ⟨r0, hr0⟩ : ∃ r, r = w.heap.size := ⟨_, rfl⟩
  obtain ⟨r1, hr1⟩ : ∃ r, r = r0 + 1 := ⟨_, rfl⟩
  have HRC2 := Lib.hid (show (Y.cell? ⟨r0, 0, none⟩ = some (.pointer none) ∧ Y.frozen? ⟨r0, 0, none⟩ = false) ∧ (Y.cell? ⟨r1, 0, none⟩ = some (.int .i64 0) ∧ Y.frozen? ⟨r1, 0, none⟩ = false) from by
    have hb := (HB23.out.trans (hbX.mono HB23.out.size)).trans (hbY.mono (by have := HB23.out.size; omega))
    have hs2 := HS2.out
    obtain ⟨⟨a1, a2⟩, a3, a4⟩ := HRC.out
    rw [hr1, hr0]
    exact ⟨⟨cell_later hb a1, frozen_later hb a1 a2⟩, cell_later hb a3, frozen_later hb a3 a4⟩)
  have HRT2 := Lib.hid (show TyAt Y r0 29 ∧ TyAt Y r1 26 from by
    have hb := (HB23.out.trans (hbX.mono HB23.out.size)).trans (hbY.mono (by have := HB23.out.size; omega))
    obtain ⟨⟨c0, x0, e0⟩, c1, x1, e1⟩ := HRT.out
    rw [hr1, hr0]
    exact ⟨⟨c0, x0, (hb.block _ (Array.getElem?_eq_some_iff.1 e0).1).trans e0⟩, c1, x1, (hb.block _ (Array.getElem?_eq_some_iff.1 e1).1).trans e1⟩)
  rw [← hX, ← hY, ← hT]
  rw [← hr0]
  rw [← hr1]
  have HR0 := Lib.hid hr0
  have HR1 := Lib.hid hr1
  have HR2 := Lib.hid (show r1 < T by have := HB23.out.size; have := HS2.out; omega)
  clear hr1 hr0
  have hbB := (HB3.out.trans (hbX.mono HB3.out.size)).trans (hbY.mono (by have := HB3.out.size; omega))
  have HSD := Lib.hid (show SD Y B T (newS l) (newL d snm 65536) D from
    ⟨by rw [hT]; exact hsk.below hbY, (HLOG.out.below hbX).below hbY, HD.out.below hbB⟩)
  have HBY := Lib.hid hbB
  have hres := HB3.out
  have HYS := Lib.hid hys
  have HYL := Lib.hid hyl
  have HYF := Lib.hid hyf
  have HT := Lib.hid hT
  obtain ⟨tb, htb⟩ : ∃ tb, tb = T + 1 := ⟨_, rfl⟩
  rw [← htb] at HYS ⊢
  rw [show T + 2 = tb + 1 by omega] at HYL
  rw [show T + 3 = tb + 1 + 1 by omega] at HYF
  have HTB := Lib.hid htb
  clear hbB hbX hbY hsk hX hY hys hyl hyf htb hT
  refine range_w (σ := LSt) (gf := 41) (lb := #[.pointer (some ⟨tb + 1, 0, none⟩), .pointer (some ⟨tb + 1 + 1, 0, none⟩)]) rfl (fun args w => disk_enter Tryz.func41 (by kernel_rfl) rfl args w)
    (fun s W => Calm Y.heap.size Y W ∧ s.2 = []) (fun _ _ => False) (LStep 0 [] Y.heap.size) (fun _ => True) (0, [])
    (fun s W W' hc h => ⟨h.1.trans hc, h.2⟩) (fun _ _ _ _ h => h) ⟨Calm.refl _ _, rfl⟩ ?iter ?body ?done (fun _ _ _ _ h => h.elim)
  case iter =>
    intro ly J' Jx' W hm _ hJJ hc hJ0 hy
    refine (lall1_iter B l (tb + 1) (tb + 1 + 1) 0 0 Y.heap.size ly (newL d snm 65536) [] J' Jx' W trivial rfl (by simp) (by simp) (by simp [newL]) (by omega) (fun s hs => by cases hs) hm (fun s W2 hj => ?_) hy hJ0).mono ?_
    · obtain ⟨h1, h2⟩ := hJJ s W2 hj
      refine ⟨HSD.out.ld.log.below h1.below, h1.cell HYL.out, h1.cell HYF.out, h1.size, fun p hp => by rw [h2] at hp; cases hp⟩
    · rintro e W' ⟨hv, (⟨s, hs, hj⟩ | hj)⟩
      · exact ⟨hv, .inl ⟨s, trivial, hj⟩⟩
      · exact ⟨hv, .inr hj⟩
  case body =>
    intro l s args s' W hr hst hsz
    exact absurd hst.2.1 (by simp)
  case done =>
    intro D2 s V hD2 hs hr hK2
    obtain ⟨hc, -⟩ := hr
    have HSV := Lib.hid (HSD.out.below hc.below)
    have HBV := Lib.hid (HBY.out.trans (hc.below.mono HBY.out.size))
    have c1 := hc.cell HYS.out
    have HK2 := Lib.hid hK2
    have cl := hc
    have HCL := Lib.hid hc
    clear hc hK2
    obtain ⟨⟨rc0, rf0⟩, rc1, rf1⟩ := HRC2.out
    have rc0 := cl.cell rc0
    have rc1 := cl.cell rc1
    have rf0 := (cl.frozen HRC2.out.1.1).trans rf0
    have rf1 := (cl.frozen HRC2.out.2.1).trans rf1
    have n01 : ¬ r0 = r1 := by have := HR1.out; omega
    have n10 : ¬ r1 = r0 := by omega
    have hVs := cl.size
    clear cl
    gi_wp2_with fail
    have hDl : D2 < V.heap.size := (Array.getElem?_eq_some_iff.1 HK2.out).1
    have hr01 := HR1.out
    have hr2 := HR2.out
    have hYs4 : T < Y.heap.size := (HSD.out.sk.foot_lt (.inl rfl)).2
    have hVB := HBV.out.size
    have hrw := HR0.out
    obtain ⟨V3, hV3⟩ : ∃ V3, V3 = (V.setCell ⟨r0, 0, none⟩ (.pointer (some ⟨T, 0, none⟩))).setCell ⟨r1, 0, none⟩ (.int .i64 0) := ⟨_, rfl⟩
    rw [← hV3]
    have k2 : V3.heap[D2]? = some (.deferred (some [])) := by
      rw [hV3, heap_setCell_other _ ⟨r1, 0, none⟩ D2 _ (by simp; omega), heap_setCell_other _ ⟨r0, 0, none⟩ D2 _ (by simp; omega)]
      exact HK2.out
    have hoS : Only (fun j => j = r0 ∨ j = r1 ∨ j = D2) V V3 := by rw [hV3]; exact ((Only.refl _ _).setCell _ _ (.inl (.inl rfl))).setCell _ _ (.inl (.inr (.inl rfl)))
    have ho : Only (fun j => j = D2) V3 (V3.putObj D2 (.deferred none)) := ⟨rfl, rfl, rfl, by simp, fun k hk hs => World.putObj_heap_other (fun e => hs e)⟩
    have hoA := hoS.trans ho (fun j _ e => .inr (.inr e))
    have q0 : (V3.putObj D2 (.deferred none)).cell? ⟨r0, 0, none⟩ = some (.pointer (some ⟨T, 0, none⟩)) := ho.cell (b := r0) (by omega) (by rw [hV3, cell_set_block _ n01]; exact cell_set_same _ rc0)
    have q1 : (V3.putObj D2 (.deferred none)).cell? ⟨r1, 0, none⟩ = some (.int .i64 0) := ho.cell (b := r1) (by omega) (by rw [hV3]; exact cell_set_same _ (by rw [cell_set_block _ n10]; exact rc1))
    have t0 : TyAt V r0 29 := by obtain ⟨⟨c, x, e⟩, -⟩ := HRT2.out; exact ⟨c, x, (HCL.out.cells _ _ e rfl).trans rfl⟩
    have t1 : TyAt V r1 26 := by obtain ⟨-, c, x, e⟩ := HRT2.out; exact ⟨c, x, (HCL.out.cells _ _ e rfl).trans rfl⟩
    have hnu : ∀ j, (j = r0 ∨ j = r1 ∨ j = D2) → ¬ IsU8 V j := by
      rintro j (rfl | rfl | rfl) hu
      · exact absurd ((show TyAt V _ 5 from hu).eq t0) (by decide)
      · exact absurd ((show TyAt V _ 5 from hu).eq t1) (by decide)
      · obtain ⟨cs, x, hx⟩ := hu
        rw [HK2.out] at hx
        cases hx
    have hnf : ∀ j, (j = r0 ∨ j = r1 ∨ j = D2) → ¬ skFoot T (newS l) (newL d snm 65536) D j := by
      rintro j (rfl | rfl | rfl) hf
      · exact HSV.out.foot_not hf ⟨by decide, by decide, fun h => by rcases h with h | h | h | h <;> exact absurd h (by decide)⟩ (fun h => by rcases h with h | h | h <;> exact absurd h (by decide)) t0
      · exact HSV.out.foot_not hf ⟨by decide, by decide, fun h => by rcases h with h | h | h | h <;> exact absurd h (by decide)⟩ (fun h => by rcases h with h | h | h <;> exact absurd h (by decide)) t1
      · have := (HSD.out.foot_lt hf).2
        omega
    refine ⟨by simp, .inl ⟨_, _, rfl, run_takeDeferred k2, ?_⟩⟩
    refine ⟨.tuple #[.pointer (some ⟨T, 0, none⟩), .int .i64 0], by simp [results, Tryz.results8, go_sem, q0, q1], T, l, rfl, ?_, ?_, by omega, by have := HLL.out; have := HS2.out; omega⟩
    · exact HBV.out.trans (hoA.below hVB (fun j hj e => by omega))
    · exact ⟨HSV.out.sk.only hoA (fun j hj hf => hnf j hj (.inl hf)), HSV.out.ld.only hoA (fun j hj hf => hnf j hj (.inr hf)) hnu⟩
end Go.Proofs.YthgmligpconhhaaGreatDoor

/- Layer 24: pairs that are alike; the chapter's example; walked. -/
namespace Go.Proofs.YthgmligpconhhaaGreatDoor
open Go.RowKit Go.Shelf
set_option linter.unusedVariables false
set_option linter.unusedSimpArgs false
set_option maxRecDepth 100000

set_option maxHeartbeats 2000000 in
/-- The same pairs are the same. -/
theorem samep_calls (v u : Value) (xs : List Pr) (w : World) (h1 : Rd w 2 v xs.length (flatF Pr.cells xs)) (h2 : Rd w 2 u xs.length (flatF Pr.cells xs)) :
    Calls Tryz.prog 13 #[v, u] w fun e w' => e = .returned (.bool true) ∧ Below w.heap.size w w' := by
  have H1 := Lib.hid h1
  have H2 := Lib.hid h2
  obtain ⟨a, ac, rfl, hal, hac⟩ := h1.slice
  obtain ⟨b, bc, rfl, hbl, hbc⟩ := h2.slice
  clear h1 h2
  have d0 : ((xs.length : Int) != (xs.length : Int)) = false := by simp
  go_enter Tryz.func13, Tryz.ntmps13
  go_wp2_with fail
  go_loopw [5] (fun i wr => ∃ k : Nat, k ≤ xs.length ∧ i = .int .i64 k ∧ Below w.heap.size w wr) (fun i _ => xs.length - (intOf i).toNat)
  case atStart => exact ⟨0, by omega, rfl, Below.refl _ _⟩
  case round =>
    obtain ⟨k, hk, rfl, hb⟩ := hrel
    have HB := Lib.hid hb
    by_cases hlt : k < xs.length
    · obtain ⟨ab, ao, ha, c0, c1⟩ := pr_at H1.out k hlt
      obtain ⟨bb, bo, hb', e0, e1⟩ := pr_at H2.out k hlt
      subst ha hb'
      have c0 := cell_later hb c0
      have c1 := cell_later hb c1
      have e0 := cell_later hb e0
      have e1 := cell_later hb e1
      clear hb
      generalize xs[k] = R at *
      obtain ⟨rk, rv⟩ := R
      simp only at c0 c1 e0 e1
      have z1 : (k : Int) < (xs.length : Int) := by omega
      have z2 : (0 : Int) ≤ (k : Int) := by omega
      go_upto_region 6 with fail
      refine region_m [(0, false), (1, false), (2, false), (3, false), (4, false), (5, false), (6, false), (7, false), (8, false), (9, false), (10, false), (11, false), (12, false), (13, false), (14, false), (15, false), (16, false), (17, false), (18, false), (19, false), (20, false), (21, false), (22, false), (23, false)] 24 (fun X => X.cell? ⟨ab, ao + k * 2, none⟩ = some (.string rk) ∧ X.cell? ⟨ab, ao + k * 2 + 1, none⟩ = some (.int .u32 rv) ∧ X.cell? ⟨bb, bo + k * 2, none⟩ = some (.string rk) ∧ X.cell? ⟨bb, bo + k * 2 + 1, none⟩ = some (.int .u32 rv)) (by kernel_rfl) (by kernel_rfl) ⟨c0, c1, e0, e1⟩ ?_
      iterate 24
        first
        | (refine m_take (v := ?_) rfl rfl ?_ ?_
           rotate_left
           · intro W hW
             go_simp
             with_reducible rfl
           simp only [Act.put, List.setIfInBounds_toArray, List.set_cons_zero, List.set_cons_succ])
        | (refine m_skip rfl rfl ?_
           simp only [Act.put, List.setIfInBounds_toArray, List.set_cons_zero, List.set_cons_succ])
      refine m_done ?_
      simp only [List.drop_succ_cons, List.drop_zero]
      go_wp2_with fail
      simp only [NP]
      go_wp2_with fail
      go_roundw
      case rel => exact ⟨k + 1, by omega, by go_num, HB.out.drew⟩
      case measure => simp [intOf]; omega
    · obtain rfl : k = xs.length := by omega
      clear hb
      go_wp2_with fail
      go_ret
      exact ⟨rfl, HB.out⟩

theorem newS_m (l : Nat) : (newS l).m = SM.new := rfl
theorem sg_new (l d : Nat) (room : Int) (n : Nat) : SG (newS l) (newL d snm 65536) (newD room n) [] :=
  ⟨⟨rfl, rfl, snm_right, fun _ => rfl, trivial, rfl, by show (0:Int) ≤ 65536 ∧ (65536:Int) ≤ 4294967296; omega, (fun s hs => by cases hs), (by simp [newD, usedOf]), (by simp [newD, newL]), (fun s hs => by cases hs)⟩, (fun b hb => by cases hb), GS.new _ _ _ _ _, rfl, (fun x hx => by cases hx), rfl⟩
theorem kin_new {w : World} {B s l d : Nat} {room : Int} {n k : Nat} (h : SD w B s (newS l) (newL d snm 65536) (newD room n)) (hk : k ≤ 900) (hc : ((k : Int) * 65548) ≤ room) (hr : room ≤ 1073741824) (hv : VarsIn w) (h5 : 5 ≤ B) : KIn w B s (newS l) (newL d snm 65536) (newD room n) [] k :=
  ⟨h, sg_new l d room n, by simpa using hk, by simpa [newD] using hc, by simpa [newD] using hr, hv, h5⟩
theorem ST.lo {w w' : World} {B s : Nat} {S S' : Sk} {L L' : Lg} {D D' : Dk} (h : ST w w' B s S L D S' L' D') (h0 : SD w B s S L D) : Below B w w' :=
  h.only.below (by have := (h0.foot_lt (.inl (.inl rfl) : skFoot s S L D s)); omega) (fun j hj hf => by have := (h0.foot_lt hf).1; omega)
theorem eps_at {S : Sk} {i : Nat} {l : List Pr} (h : S.m.eps[i]? = some l) : ∃ x, S.eps[i]? = some x ∧ x.2 = l := by
  have h : (S.eps.map Prod.snd)[i]? = some l := h
  rw [List.getElem?_map] at h
  cases hq : S.eps[i]? with
  | none => rw [hq] at h; cases h
  | some x =>
    rw [hq] at h
    exact ⟨x, rfl, Option.some.inj h⟩
def pA : Pr := ⟨⟨#[97]⟩, 1⟩
set_option maxHeartbeats 2000000 in
theorem known_calls (w : World) (hv : VarsIn w) (h5 : 5 ≤ w.heap.size) : Calls Tryz.prog 6 #[] w fun e w' => e = .returned (.bool true) ∧ Below w.heap.size w w' := by
  have HV := Lib.hid hv
  clear hv
  go_enter Tryz.func6, Tryz.ntmps6
  go_wp2_with fail
  refine (dnew_calls 1048576 w (by omega) (by omega)).mono ?_
  rintro e w1 ⟨rfl, hd1, hb1⟩
  have HB1 := Lib.hid hb1
  have HD1 := Lib.hid hd1
  clear hd1
  go_wp2_with fail
  refine (sopen_new (w.heap.size + 2) w.heap.size (newD 1048576 w.heap.size) w1 HD1.out rfl hb1.size).mono ?_
  rintro e w2 ⟨s, l, rfl, hb2, hsd2, hs2, hl2⟩
  have HB2 := Lib.hid (hb1.trans (hb2.mono hb1.size))
  have HK2 := Lib.hid (kin_new hsd2 (k := 15) (by omega) (by omega) (by omega) (HV.out.below HB2.out h5) h5)
  have hsz2 := HB2.out.size
  clear hb1 hb2 hsd2
  have hb3 : Below w2.heap.size w2 (w2.alloc (.cells #[.string ⟨#[97]⟩, .int .u32 1] 39)) := below_alloc _ _
  have HLIT := Lib.hid (show Rd (w2.alloc (.cells #[.string ⟨#[97]⟩, .int .u32 1] 39)) 2 (.slice (some ⟨w2.heap.size, 0, none⟩) 1 1) [pA].length (flatF Pr.cells [pA]) from Rd.lit (w := w2) (cs := #[.string ⟨#[97]⟩, .int .u32 1]) (e := 39) (n := 1) (sz := 2) rfl (by omega))
  have HK3 := Lib.hid (HK2.out.below hb3)
  go_wp2_with fail
  refine (prepare_calls w.heap.size s _ _ _ [] 12 2 1 0 _ [pA] _ (by simp) HK3.out (by omega) HLIT.out ?_ ?_ ?_).mono ?_
  · intro a n c e _ hf
    simp only [Value.slice.injEq, Option.some.injEq] at e
    obtain ⟨rfl, -, -⟩ := e
    have := (HK2.out.sd.foot_lt hf).2
    simp at this
  · intro p hp; rw [List.mem_singleton.1 hp]; decide
  · intro p hp; rw [List.mem_singleton.1 hp]; exact ⟨by decide, by decide⟩
  rintro e w4 ⟨rfl, S4, L4, D4, xs4, hst4, hk4, hm4, hsame4⟩
  have HST4 := Lib.hid (hst4.after hb3 HK2.out.sd)
  have e4 : prE (newS l).m 1 0 [pA] = 0 := by rw [newS_m]; decide
  have HM4 := Lib.hid (show S4.m = ⟨1, [], [], [pA], true⟩ from hm4.trans (by rfl))
  have HK4 := Lib.hid (show KIn w4 w.heap.size s S4 L4 D4 xs4 12 from hk4)
  rw [e4]
  have hsz4 := (hst4.after hb3 HK2.out.sd).only.size
  clear hst4 hk4 hm4 hsame4 hb3
  go_wp2_with fail
  refine (commit_calls w.heap.size s S4 L4 D4 xs4 10 1 0 w4 HK4.out (by omega)).mono ?_
  rintro e w5 ⟨rfl, S5, L5, D5, xs5, hst5, hk5, hm5, hsame5⟩
  have e5 : cmE S4.m 1 0 = 0 := by rw [HM4.out]; decide
  have HM5 := Lib.hid (show S5.m = ⟨1, [[pA]], [], [], false⟩ from hm5.trans (by rw [HM4.out]; rfl))
  have HK5 := Lib.hid (show KIn w5 w.heap.size s S5 L5 D5 xs5 10 from hk5)
  have HST5 := Lib.hid (HST4.out.trans hst5)
  rw [e5]
  clear hst5 hk5 hm5 hsame5
  go_wp2_with fail
  obtain ⟨x, hx, hxp⟩ := eps_at (S := S5) (i := 0) (l := [pA]) (by rw [HM5.out]; rfl)
  refine (epoch_calls w.heap.size s 0 S5 w5 HK5.out.sd.sk x hx (by rw [hxp]; simp)).mono ?_
  rintro e w6 ⟨v6, rfl, hr6, hb6⟩
  rw [hxp] at hr6
  obtain ⟨a6, c6, rfl⟩ := own_slice hr6
  have hb7 : Below w6.heap.size w6 (w6.alloc (.cells #[.string ⟨#[97]⟩, .int .u32 1] 39)) := below_alloc _ _
  have HLIT7 := Lib.hid (show Rd (w6.alloc (.cells #[.string ⟨#[97]⟩, .int .u32 1] 39)) 2 (.slice (some ⟨w6.heap.size, 0, none⟩) 1 1) [pA].length (flatF Pr.cells [pA]) from Rd.lit (w := w6) (cs := #[.string ⟨#[97]⟩, .int .u32 1]) (e := 39) (n := 1) (sz := 2) rfl (by omega))
  have HR7 := Lib.hid ((Rd.of_own hr6).below hb7 (Nat.le_refl _))
  have HB7 := Lib.hid (hb6.trans (hb7.mono hb6.size))
  clear hb6 hr6 hb7 hx hxp
  go_wp2_with fail
  refine (samep_calls _ _ [pA] _ HR7.out HLIT7.out).mono ?_
  rintro e w8 ⟨rfl, hb8⟩
  have HB8 := Lib.hid (HB7.out.trans (hb8.mono HB7.out.size))
  have HK8 := Lib.hid (HK5.out.below HB8.out)
  clear hb8
  go_wp2_with fail
  refine (commit_calls w.heap.size s S5 L5 D5 xs5 8 1 1 w8 HK8.out (by omega)).mono ?_
  rintro e w9 ⟨rfl, S9, L9, D9, xs9, hst9, hk9, hm9, hsame9⟩
  have e9 : cmE S5.m 1 1 = 9 := by rw [HM5.out]; decide
  have HM9 := Lib.hid (show S9.m = ⟨1, [[pA]], [], [], false⟩ from hm9.trans (by rw [HM5.out]; rfl))
  have HK9 := Lib.hid (show KIn w9 w.heap.size s S9 L9 D9 xs9 8 from hk9)
  have HL9 := Lib.hid (hst9.lo HK8.out.sd)
  rw [e9]
  clear hst9 hk9 hm9 hsame9
  go_wp2_with fail
  refine (prepare_calls w.heap.size s S9 L9 D9 xs9 5 2 0 1 (.slice none 0 0) [] w9 (by simp) HK9.out (by omega) (Rd.nil _ _) (fun a n c e => by cases e) (fun p hp => by cases hp) (fun p hp => by cases hp)).mono ?_
  rintro e w10 ⟨rfl, S10, L10, D10, xs10, hst10, hk10, hm10, hsame10⟩
  have e10 : prE S9.m 0 1 [] = 15 := by rw [HM9.out]; decide
  have HL10 := Lib.hid (hst10.lo HK9.out.sd)
  rw [e10]
  clear hst10 hk10 hm10 hsame10
  go_wp2_with fail
  go_ret
  refine ⟨rfl, ?_⟩
  have h25 : Below w.heap.size w w5 := HB2.out.trans (HST5.out.lo HK2.out.sd)
  have h8 := h25.trans (HB8.out.mono h25.size)
  exact (h8.trans HL9.out).trans HL10.out
end Go.Proofs.YthgmligpconhhaaGreatDoor

/- Layer 24: SinkKeeps, walked. -/
namespace Go.Proofs.YthgmligpconhhaaGreatDoor
open Go.RowKit Go.Shelf
set_option linter.unusedVariables false
set_option linter.unusedSimpArgs false
set_option maxRecDepth 100000

/-- Cells of pairs that may be written. -/
def Wr (w : World) (a : Option Addr) (n : Nat) : Prop := ∀ q, q < n → ∃ g, a = some ⟨g, 0, none⟩ ∧ (∃ s, w.cell? ⟨g, q * 2, none⟩ = some (.string s)) ∧ (∃ v, w.cell? ⟨g, q * 2 + 1, none⟩ = some (.int .u32 v)) ∧ ∀ o, w.frozen? ⟨g, o, none⟩ = false
theorem Wr.of {w : World} {B n c : Nat} {a : Option Addr} {es : List Pr} (h : PRow w B (.slice a n c) es) : Wr w a es.length := fun q hq => by
  rcases h.2 with ⟨_, h0⟩ | ⟨g, cap, cur, hv, hb, hg, hn, hm, -⟩
  · omega
  · simp only [Value.slice.injEq] at hv
    obtain ⟨rfl, rfl, rfl⟩ := hv
    obtain ⟨b', o', hb', c0, c1⟩ := pr_at (Rd.of_own h) q hq
    simp only [Option.some.injEq, Addr.mk.injEq, and_true] at hb'
    obtain ⟨rfl, rfl⟩ := hb'
    refine ⟨g, rfl, ⟨_, by simpa using c0⟩, ⟨_, by simpa using c1⟩, fun o => World.ownsRow.frozenAt h o⟩
theorem Wr.key {w : World} {g n q : Nat} {s : ByteArray} (h : Wr w (some ⟨g, 0, none⟩) n) (hq : q < n) : Wr (w.setCell ⟨g, q * 2, none⟩ (.string s)) (some ⟨g, 0, none⟩) n := fun r hr => by
  obtain ⟨g', hg, ⟨t, ht⟩, ⟨v, hv⟩, hf⟩ := h r hr
  simp only [Option.some.injEq, Addr.mk.injEq, and_true] at hg
  subst hg
  refine ⟨g, rfl, ?_, ⟨v, by rw [cell_set_off _ (by omega)]; exact hv⟩, fun o => by rw [frozen_set]; exact hf o⟩
  by_cases e : r = q
  · subst e
    exact ⟨s, cell_set_same _ ht⟩
  · exact ⟨t, by rw [cell_set_off _ (by omega)]; exact ht⟩
theorem Wr.val {w : World} {g n q : Nat} {u : Int} (h : Wr w (some ⟨g, 0, none⟩) n) (hq : q < n) : Wr (w.setCell ⟨g, q * 2 + 1, none⟩ (.int .u32 u)) (some ⟨g, 0, none⟩) n := fun r hr => by
  obtain ⟨g', hg, ⟨t, ht⟩, ⟨v, hv⟩, hf⟩ := h r hr
  simp only [Option.some.injEq, Addr.mk.injEq, and_true] at hg
  subst hg
  refine ⟨g, rfl, ⟨t, by rw [cell_set_off _ (by omega)]; exact ht⟩, ?_, fun o => by rw [frozen_set]; exact hf o⟩
  by_cases e : r = q
  · subst e
    exact ⟨u, cell_set_same _ hv⟩
  · exact ⟨v, by rw [cell_set_off _ (by omega)]; exact hv⟩
theorem prE_zero {M : SM} {out : List Pr} (hM : M = SM.new) (h : prE M 0 0 out = 0) : prM M 0 0 out = ⟨0, [], [], out, true⟩ := by
  subst hM
  have hz : hdE SM.new 0 0 = 0 := by decide
  have hh : hdM SM.new 0 0 = SM.new := by unfold hdM; rw [if_neg (by decide)]
  unfold prE at h
  rw [if_neg (by rw [hz]; simp)] at h
  split at h
  · omega
  · rename_i hl
    split at h
    · omega
    · rename_i hn
      unfold prM
      rw [if_pos ⟨hz, by simpa using hl, by omega, rfl⟩, hh]
      rfl

theorem prE_len {M : SM} {out : List Pr} (h : prE M 0 0 out = 0) : out.length ≤ 4096 := by
  unfold prE at h
  split at h
  · contradiction
  · split at h
    · omega
    · split at h
      · omega
      · omega
theorem KIn.other {T : Nat → Prop} {w w' : World} {B s : Nat} {S : Sk} {L : Lg} {D : Dk} {xs : List Ln} {k : Nat} (h : KIn w B s S L D xs k) (ho : Only T w w') (hT : ∀ j, T j → ¬ skFoot s S L D j) (hu : ∀ j, T j → ¬ IsU8 w j) (hlo : ∀ j, T j → B ≤ j) : KIn w' B s S L D xs k :=
  ⟨⟨h.sd.sk.only ho (fun j hj hf => hT j hj (.inl hf)), h.sd.ld.only ho (fun j hj hf => hT j hj (.inr hf)) hu⟩, h.sg, h.cnt, h.cap, h.room, h.vars.below (ho.below h.size (fun j hj hf => by have := hlo j hf; omega)) h.b5, h.b5⟩
def at_ (a : Option Addr) (j : Nat) : Prop := ∃ o, a = some ⟨j, o, none⟩
set_option maxHeartbeats 4000000 in
theorem keeps_calls (ov : Value) (out : List Pr) (w : World) (ho : Rd w 2 ov out.length (flatF Pr.cells out)) (hks : ∀ p ∈ out, p.key.size ≤ 9223372036854775807) (hvs : ∀ p ∈ out, U32 p.val) (hlen : out.length * 24 ≤ 140737488351232) (hv : VarsIn w) (h5 : 5 ≤ w.heap.size) :
    Calls Tryz.prog 4 #[ov] w fun e w' => e = .returned (.bool true) ∧ Below w.heap.size w w' := by
  have HO := Lib.hid ho
  have HKS := Lib.hid hks
  have HVS := Lib.hid hvs
  obtain ⟨oa, oc, rfl, hol, hoc⟩ := ho.slice
  have HV := Lib.hid hv
  clear ho hks hvs hv
  go_enter Tryz.func4, Tryz.ntmps4
  go_wp2_with fail
  refine (known_calls w HV.out h5).mono ?_
  rintro e w1 ⟨rfl, hb1⟩
  have HBW := Lib.hid hb1
  have HV1 := Lib.hid (HV.out.below hb1 h5)
  have H51 := Lib.hid (show 5 ≤ w1.heap.size by have := hb1.size; omega)
  clear hb1
  go_wp2_with fail
  refine (dnew_calls 1073741824 w1 (by omega) (by omega)).mono ?_
  rintro e w2 ⟨rfl, hd2, hb2⟩
  have HD2 := Lib.hid hd2
  clear hd2
  go_wp2_with fail
  refine (sopen_new (w1.heap.size + 2) w1.heap.size (newD 1073741824 w1.heap.size) w2 HD2.out rfl hb2.size).mono ?_
  rintro e w3 ⟨s, l, rfl, hb3, hsd3, hs3, hl3⟩
  have HB13 := Lib.hid (hb2.trans (hb3.mono hb2.size))
  have HK3 := Lib.hid (kin_new hsd3 (k := 20) (by omega) (by omega) (by omega) (HV1.out.below HB13.out H51.out) H51.out)
  clear hb2 hb3 hsd3
  have hlit := World.ownsRow_lit (base := w3.heap.size) (size := 2) (e := 39) w3 #[] 0 (Nat.le_refl _) (by unfold maxLen; omega) (by simp)
  have hal4 := below_alloc w3 (.cells #[] 39)
  have HLIT := Lib.hid hlit
  have HO4 := Lib.hid ((HO.out.below HBW.out (Nat.le_refl _)).below (HB13.out.trans (hal4.mono HB13.out.size)) (Nat.le_refl _))
  obtain ⟨W4, hW4⟩ : ∃ W, W = w3.alloc (.cells #[] 39) := ⟨_, rfl⟩
  rw [← hW4] at HLIT HO4 hal4
  have HAL4 := Lib.hid hal4
  have HW4 := Lib.hid hW4
  have hb4 : w3.heap.size ≤ W4.heap.size := hal4.size
  have hone := pr_one out
  clear hlit hal4 hW4
  go_wp2_with (at_builtin; rw [← HW4.out]; go_loud (refine app_list tyPairs HLIT.out HO4.out hone (by omega) (by omega) hb4 rfl rfl rfl rfl ?_; intro iv w5 h2 h3 h4; have H2 := Lib.hid h2; have H3 := Lib.hid h3; clear h2 h3 h4))
  obtain ⟨ia, ic, rfl⟩ := own_slice H2.out
  have hown : w3.ownsRow w3.heap.size 39 2 (.slice none 0 0) 0 [] := World.ownsRow_nil _ _ _ _
  have hb45 : Below w3.heap.size w3 w5 := (HAL4.out).grown H3.out hb4 (fun i hi => by simp only [Value.ownBlock, Option.some.injEq] at hi; omega)
  have HB45 := Lib.hid hb45
  have hir : PRow w5 w3.heap.size (.slice ia (0 + out.length) ic) out := by
    have := H2.out
    unfold PRow
    simpa using this
  rw [Nat.zero_add] at hir ⊢
  have HIR := Lib.hid hir
  have HK5 := Lib.hid (HK3.out.below hb45)
  have HO5 := Lib.hid ((HO.out.below HBW.out (Nat.le_refl _)).below (HB13.out.trans (hb45.mono HB13.out.size)) (Nat.le_refl _))
  clear hown hb45 hir HO4 HLIT HW4
  refine (prepare_calls w1.heap.size s _ _ _ [] 12 7 0 0 _ out w5 (by omega) HK5.out (by omega) (Rd.of_own HIR.out) ?_ HKS.out HVS.out).mono ?_
  · intro a m c e h0 hf
    have h1 := (HK3.out.sd.foot_lt hf).2
    have := HIR.out.lt (g := a.block) (by rw [e]; rfl)
    omega
  rintro e w6 ⟨rfl, S6, L6, D6, xs6, hst6, hk6, hm6, -⟩
  rw [newS_m] at hm6 ⊢
  have hlo6 := hst6.lo HK5.out.sd
  have HB16 := Lib.hid ((HB13.out.trans (HB45.out.mono HB13.out.size)).trans hlo6)
  have HF6 := Lib.hid (show ∀ j, at_ ia j → ¬ skFoot s S6 L6 D6 j from fun j hj hf => by
    obtain ⟨o, ho⟩ := hj
    have h1 := HIR.out.lt (g := j) (by rw [ho]; rfl)
    rcases hst6.foot j hf with h | h
    · have := (HK3.out.sd.foot_lt h).2; omega
    · omega)
  have HIR6 := Lib.hid (HIR.out.only hst6.only (fun g hg hf => by have := (HK3.out.sd.foot_lt hf).2; have := HIR.out.lt hg; omega))
  have HK6 := Lib.hid hk6
  have HM6 := Lib.hid hm6
  obtain ⟨E, hE⟩ : ∃ E, prE SM.new 0 0 out = E := ⟨_, rfl⟩
  have HE := Lib.hid hE
  rw [hE]
  clear hst6 hk6 hm6 hlo6 hE
  by_cases hE0 : E = 0
  · subst hE0
    have HP6 := Lib.hid (HM6.out.trans (prE_zero rfl HE.out))
    go_wp2_with fail
    have HO6 := Lib.hid ((HO.out.below HBW.out (Nat.le_refl _)).below HB16.out (Nat.le_refl _))
    refine (samep_calls _ _ out w6 (Rd.of_own HIR6.out) HO6.out).mono ?_
    rintro r w7 ⟨rfl, hb7⟩
    have HB7 := Lib.hid hb7
    have HWR := Lib.hid (Wr.of (ownsRow_below HIR6.out hb7 (Nat.le_refl _)))
    have HK7 := Lib.hid (HK6.out.below hb7)
    have hsz7 := hb7.size
    clear hb7
    have HT7 := Lib.hid (show ∀ j, at_ ia j → TyAt w7 j 39 ∧ w3.heap.size ≤ j from fun j hj => by
      obtain ⟨o, ho⟩ := hj
      exact ⟨own_ty (ownsRow_below HIR6.out HB7.out (Nat.le_refl _)) (by rw [ho]; rfl), (HIR.out.lt (g := j) (by rw [ho]; rfl)).1⟩)
    have hl4 := prE_len HE.out
    go_wp2_with fail
    go_loopw [8] (fun iv wr => ∃ i : Nat, i ≤ out.length ∧ iv = .int .i64 i ∧ Wr wr ia out.length ∧ Only (at_ ia) w7 wr) (fun iv _ => out.length - (intOf iv).toNat)
    case atStart => exact ⟨0, by omega, rfl, HWR.out, Only.refl _ _⟩
    case round =>
      obtain ⟨i, hi, rfl, hwr, hon⟩ := hrel
      have HWX := Lib.hid hwr
      have HON := Lib.hid hon
      clear hwr hon
      by_cases hlt : i < out.length
      · obtain ⟨g, hg, ⟨t, ht⟩, ⟨u, hu⟩, hf⟩ := HWX.out i hlt
        subst hg
        have hfz := hf (i * 2 + 1)
        clear hf ht
        go_wp2_with fail
        go_roundw
        case rel => exact ⟨i + 1, by omega, by go_num, HWX.out.val hlt, HON.out.setCell _ _ (.inl ⟨0, rfl⟩)⟩
        case measure => simp [intOf]; omega
      · have hB8 : Below w1.heap.size w7 wr := HON.out.below (by have := HB16.out.size; omega) (fun j hj e => by have := (HT7.out j e).2; have := HB13.out.size; omega)
        have HB18 := Lib.hid ((HB16.out.trans (HB7.out.mono HB16.out.size)).trans hB8)
        have HK8 := Lib.hid (HK7.out.other HON.out HF6.out (fun j hj hu => absurd ((show TyAt w7 j 5 from hu).eq (HT7.out j hj).1) (by decide)) (fun j hj => by have := (HT7.out j hj).2; have := HB13.out.size; omega))
        obtain ⟨w8, hw8⟩ : ∃ x, x = wr := ⟨_, rfl⟩
        subst hw8
        clear hB8
        go_wp2_with fail
        refine (commit_calls w1.heap.size s S6 L6 D6 xs6 10 0 0 w8 HK8.out (by omega)).mono ?_
        rintro r w9 ⟨rfl, S9, L9, D9, xs9, hst9, hk9, hm9, -⟩
        rw [HP6.out] at hm9 ⊢
        have hm9 : S9.m = ⟨0, [out], [], [], false⟩ := hm9.trans (by rfl)
        have e9 : cmE ⟨0, [], [], out, true⟩ 0 0 = 0 := by rfl
        rw [e9]
        have HM9 := Lib.hid hm9
        have HK9 := Lib.hid (show KIn w9 w1.heap.size s S9 L9 D9 xs9 10 from hk9)
        have HB19 := Lib.hid (HB18.out.trans (hst9.lo HK8.out.sd))
        clear hst9 hk9 hm9 e9
        obtain ⟨x, hx, hxp⟩ := eps_at (S := S9) (i := 0) (l := out) (by rw [HM9.out]; rfl)
        have HX := Lib.hid (And.intro hx hxp)
        clear hx hxp
        go_wp2_with fail
        refine (epoch_calls w1.heap.size s 0 S9 w9 HK9.out.sd.sk x HX.out.1 (by rw [HX.out.2]; omega)).mono ?_
        rintro r w10 ⟨av, rfl, hr10, hb10⟩
        rw [HX.out.2] at hr10
        obtain ⟨aa, ac, rfl⟩ := own_slice hr10
        have HWA := Lib.hid (Wr.of hr10)
        have HK10 := Lib.hid (HK9.out.below hb10)
        have HTA := Lib.hid (show ∀ j, at_ aa j → TyAt w10 j 39 ∧ w9.heap.size ≤ j from fun j hj => by
          obtain ⟨o, ho⟩ := hj
          exact ⟨hr10.ty (by rw [ho]; rfl), (hr10.lt (g := j) (by rw [ho]; rfl)).1⟩)
        have HB110 := Lib.hid (HB19.out.trans (hb10.mono HB19.out.size))
        have hsz10 := hb10.size
        clear hr10 hb10
        go_wp2_with fail
        go_loopw [11] (fun iv wr => ∃ i : Nat, i ≤ out.length ∧ iv = .int .i64 i ∧ Wr wr aa out.length ∧ Only (at_ aa) w10 wr) (fun iv _ => out.length - (intOf iv).toNat)
        case atStart => exact ⟨0, by omega, rfl, HWA.out, Only.refl _ _⟩
        case round =>
          obtain ⟨i2, hi2, rfl, hwr, hon⟩ := hrel
          have HWX2 := Lib.hid hwr
          have HON2 := Lib.hid hon
          clear hwr hon
          by_cases hlt2 : i2 < out.length
          · obtain ⟨g, hg, ⟨t, ht⟩, ⟨u, hu⟩, hf⟩ := HWX2.out i2 hlt2
            subst hg
            have hfz := hf (i2 * 2)
            clear hf hu
            go_wp2_with fail
            go_roundw
            case rel => exact ⟨i2 + 1, by omega, by go_num, HWX2.out.key hlt2, HON2.out.setCell _ _ (.inl ⟨0, rfl⟩)⟩
            case measure => simp [intOf]; omega
          · have hB11 : Below w1.heap.size w10 wr := HON2.out.below HB110.out.size (fun j hj e => by have := (HTA.out j e).2; have := HB19.out.size; omega)
            have HB111 := Lib.hid (HB110.out.trans hB11)
            have HK11 := Lib.hid (HK10.out.other HON2.out (fun j hj hf => by have h1 := (HTA.out j hj).2; have h2 := (HK9.out.sd.foot_lt hf).2; omega) (fun j hj hu => absurd ((show TyAt w10 j 5 from hu).eq (HTA.out j hj).1) (by decide)) (fun j hj => by have := (HTA.out j hj).2; have := HB19.out.size; omega))
            obtain ⟨w11, hw11⟩ : ∃ x, x = wr := ⟨_, rfl⟩
            subst hw11
            clear hB11
            go_wp2_with fail
            refine (epoch_calls w1.heap.size s 0 S9 w11 HK11.out.sd.sk x HX.out.1 (by rw [HX.out.2]; omega)).mono ?_
            rintro r w12 ⟨bv, rfl, hr12, hb12⟩
            rw [HX.out.2] at hr12
            obtain ⟨ba, bc, rfl⟩ := own_slice hr12
            have HR12 := Lib.hid hr12
            have HB112 := Lib.hid (HB111.out.trans (hb12.mono HB111.out.size))
            have HO12 := Lib.hid ((HO.out.below HBW.out (Nat.le_refl _)).below HB112.out (Nat.le_refl _))
            clear hr12 hb12
            go_wp2_with fail
            refine (samep_calls _ _ out w12 (Rd.of_own HR12.out) HO12.out).mono ?_
            rintro r W9 ⟨rfl, hb13⟩
            have HB9 := Lib.hid (show Below w.heap.size w W9 from HBW.out.trans ((HB112.out.trans (hb13.mono HB112.out.size)).mono HBW.out.size))
            clear hb13
            -- the nil sink and no disk; base: what was written lies at or behind w.heap.size
            go_wp2_with fail
            refine (epoch_nil 0 _).mono ?_
            rintro r v1 ⟨rfl, hv1⟩
            obtain rfl : W9 = v1 := hv1.symm
            go_wp2_with fail
            refine (sopen_nil _).mono ?_
            rintro r v2 ⟨rfl, hbv2⟩
            have HBV2 := Lib.hid (HB9.out.trans (hbv2.mono HB9.out.size))
            clear hbv2
            go_wp2_with fail
            refine (prepared_nil _).mono ?_
            rintro r v3 ⟨rfl, hv3⟩
            obtain rfl : v2 = v3 := hv3.symm
            go_wp2_with fail
            refine (prepare_nil _ _ _ _).mono ?_
            rintro r v3 ⟨rfl, hv3⟩
            obtain rfl : v2 = v3 := hv3.symm
            go_wp2_with fail
            refine (commit_nil _ _ _).mono ?_
            rintro r v3 ⟨rfl, hv3⟩
            obtain rfl : v2 = v3 := hv3.symm
            go_wp2_with fail
            refine (abort_nil _ _ _).mono ?_
            rintro r v3 ⟨rfl, hv3⟩
            obtain rfl : v2 = v3 := hv3.symm
            go_wp2_with fail
            refine (count_nil _).mono ?_
            rintro r v3 ⟨rfl, hv3⟩
            obtain rfl : v2 = v3 := hv3.symm
            go_wp2_with fail
            refine (gen_nil _).mono ?_
            rintro r v3 ⟨rfl, hv3⟩
            obtain rfl : v2 = v3 := hv3.symm
            go_wp2_with fail
            go_ret
            exact ⟨rfl, HBV2.out⟩
  · have b0 : (E == 0) = false := by simpa using hE0
    obtain ⟨W9, hW9⟩ : ∃ W, W = w6 := ⟨_, rfl⟩
    have HB9 := Lib.hid (show Below w.heap.size w W9 by rw [hW9]; exact HBW.out.trans (HB16.out.mono HBW.out.size))
    subst hW9
    go_wp2_with fail
    -- the nil sink and no disk; base: what was written lies at or behind w.heap.size
    go_wp2_with fail
    refine (epoch_nil 0 _).mono ?_
    rintro r v1 ⟨rfl, hv1⟩
    obtain rfl : W9 = v1 := hv1.symm
    go_wp2_with fail
    refine (sopen_nil _).mono ?_
    rintro r v2 ⟨rfl, hbv2⟩
    have HBV2 := Lib.hid (HB9.out.trans (hbv2.mono HB9.out.size))
    clear hbv2
    go_wp2_with fail
    refine (prepared_nil _).mono ?_
    rintro r v3 ⟨rfl, hv3⟩
    obtain rfl : v2 = v3 := hv3.symm
    go_wp2_with fail
    refine (prepare_nil _ _ _ _).mono ?_
    rintro r v3 ⟨rfl, hv3⟩
    obtain rfl : v2 = v3 := hv3.symm
    go_wp2_with fail
    refine (commit_nil _ _ _).mono ?_
    rintro r v3 ⟨rfl, hv3⟩
    obtain rfl : v2 = v3 := hv3.symm
    go_wp2_with fail
    refine (abort_nil _ _ _).mono ?_
    rintro r v3 ⟨rfl, hv3⟩
    obtain rfl : v2 = v3 := hv3.symm
    go_wp2_with fail
    refine (count_nil _).mono ?_
    rintro r v3 ⟨rfl, hv3⟩
    obtain rfl : v2 = v3 := hv3.symm
    go_wp2_with fail
    refine (gen_nil _).mono ?_
    rintro r v3 ⟨rfl, hv3⟩
    obtain rfl : v2 = v3 := hv3.symm
    go_wp2_with fail
    go_ret
    exact ⟨rfl, HBV2.out⟩
end Go.Proofs.YthgmligpconhhaaGreatDoor

/- From a reading of []api.Pair to what the walks ask. -/
namespace Go.Proofs.YthgmligpconhhaaGreatDoor
open Go.RowKit Go.ChangeShapes Go.WideShapes Go.ChangeAt
set_option linter.unusedVariables false
set_option maxRecDepth 100000
theorem cells_pair {H : Type} {enc : TypeId × Value → H} {W : World} {held : Bool} {fuel : Nat} {cs : List Value} {y : DataW H × List MemPlace}
    (hf : DataW.trod enc Tryz.prog W 0 (fun _ => true) held fuel 39 cs = some y) : ∃ p : Pr, cs = Pr.cells p ∧ p.key.size ≤ 9223372036854775807 ∧ U32 p.val := by
  obtain ⟨xs, n, -, -, hl, hxl, hx⟩ := DataW.trod_struct Tryz.underlying39 hf
  have hlN : cs.length = 2 := hl.trans (by kernel_rfl)
  have hc_tStr : Tryz.prog.cellsOf 9 = 1 := by kernel_rfl
  have hc_tU32 : Tryz.prog.cellsOf 37 = 1 := by kernel_rfl
  match cs, hlN with
  | [v0, v1], _ =>
    have h0 : DataW.trod enc Tryz.prog W 0 (fun _ => true) held n 9 (([v0, v1].drop 0).take (Tryz.prog.cellsOf 9)) = xs[0]? := hx 0 _ rfl
    have h1 : DataW.trod enc Tryz.prog W 0 (fun _ => true) held n 37 (([v0, v1].drop 1).take (Tryz.prog.cellsOf 37)) = xs[1]? := hx 1 _ rfl
    simp only [hc_tStr, hc_tU32, List.drop_zero, List.drop_succ_cons, List.take_succ_cons, List.take_zero] at h0 h1
    have hs : ∀ i, i < 2 → ∃ z, xs[i]? = some z := fun i hi => ⟨_, List.getElem?_eq_getElem (by rw [hxl]; exact hi)⟩
    obtain ⟨z0, e0⟩ := hs 0 (by omega)
    rw [e0] at h0
    obtain ⟨z1, e1⟩ := hs 1 (by omega)
    rw [e1] at h1
    obtain ⟨a, q0, -, wa⟩ := DataW.trod_string Tryz.underlying9 h0
    obtain ⟨b, q1, -, wb⟩ := DataW.trod_int Tryz.underlying37 h1
    cases q0
    cases q1
    have hb := Go.bounds_u32 wb
    refine ⟨⟨a, b⟩, rfl, ?_, ?_⟩
    · show a.size ≤ _
      unfold maxLen at wa
      omega
    · show 0 ≤ b ∧ b < 4294967296
      omega
/-- []api.Pair -/
theorem open_pairs {H : Type} {enc : TypeId × Value → H} {W : World} {B : Nat} {held : Bool} {v : Value} {d : DataW H} {p : List MemPlace}
    (ok : Value.okWide Tryz.prog W .any B 23 v) (h : DataW.Trod enc Tryz.prog W 0 (fun _ => true) held 23 v d p) : ∃ ps : List Pr, Rd W 2 v ps.length (flatF Pr.cells ps) ∧ (∀ p ∈ ps, p.key.size ≤ 9223372036854775807) ∧ (∀ p ∈ ps, U32 p.val) ∧ Shape d ps.length := by
  obtain ⟨a, len, cap, rfl⟩ := okWide_slice Tryz.underlying23 ok
  obtain ⟨fuel, hf⟩ := h
  obtain ⟨v, ps, hcs, h1, h2, -, h3⟩ := cells_structs (f := Pr.cells) (Q := fun p => p.key.size ≤ 9223372036854775807 ∧ U32 p.val) Tryz.underlying23 (by kernel_rfl) pr2 (by omega) (fun _ _ _ h => cells_pair h) hf
  simp [Value.cells] at hcs
  subst hcs
  exact ⟨ps, h1, fun p hp => (h2 p hp).1, fun p hp => (h2 p hp).2, h3⟩
theorem reach_pairs {H : Type} {ts : List TypeId} {ds : List (DataW H)} {d : DataW H} {n j : Nat} (h : (DataW.weightsEach Tryz.prog ts ds).all (· ≤ reachBytes) = true) (ht : ts[j]? = some 23) (hd : ds[j]? = some d) (hs : Shape d n) : n * 24 ≤ 140737488351232 := by
  rcases hs with rfl | ⟨es, sp, rfl, rfl⟩
  · omega
  · have := sized_slice h ht hd Tryz.underlying23
    have hb : Tryz.prog.bytesOf 39 = 24 := by kernel_rfl
    have hr : reachBytes = 140737488351232 := rfl
    rw [hb, hr] at this
    omega
end Go.Proofs.YthgmligpconhhaaGreatDoor
