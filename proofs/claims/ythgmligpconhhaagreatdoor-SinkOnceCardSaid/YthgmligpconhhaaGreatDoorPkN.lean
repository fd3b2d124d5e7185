/- Walks and plain laws of the chapter, laid together; each part says what it proves. -/
import Derived.Test.YthgmligpconhhaaGreatDoorPkA
import Derived.Test.YthgmligpconhhaaGreatDoorPkC
import Derived.Test.YthgmligpconhhaaGreatDoorPkD
import Derived.Test.YthgmligpconhhaaGreatDoorPkL
import Derived.Test.YthgmligpconhhaaGreatDoorPkM
/- Layer 24: Open on a new disk, walked. -/
namespace Go.Proofs.YthgmligpconhhaaGreatDoor
open Go.RowKit Go.Shelf
set_option linter.unusedVariables false
set_option linter.unusedSimpArgs false
set_option maxRecDepth 100000
attribute [local go_sem] Oper.semAt_some

def newS (l : Nat) : Sk := ⟨l, false, 0, .slice none 0 0, [], .slice none 0 0, [], .slice none 0 0, [], false⟩
def snm : ByteArray := ⟨#[115, 105, 110, 107]⟩
theorem snm_right : rightNm snm.data.toList = true := by decide
theorem SkAt.new {w : World} {B l : Nat} (hB : B ≤ w.heap.size) : SkAt (w.alloc (.cells #[.pointer (some ⟨l, 0, none⟩), .bool false, .int .i64 0, .slice none 0 0, .slice none 0 0, .slice none 0 0, .bool false] 59)) B w.heap.size (newS l) :=
  ⟨World.ownsRow_lit w _ 1 hB (by unfold maxLen; omega) rfl, World.ownsRow_nil _ _ _ _, fun x hx => by simp [newS] at hx, PRow.nil _ _, PRow.nil _ _, fun g hg => by simp [newS, Value.ownBlock] at hg⟩
theorem sopen_nil (w : World) : Calls Tryz.prog 8 #[.pointer none] w fun e w' => e = .returned (.tuple #[.pointer none, .int .i64 9]) ∧ Below w.heap.size w w' := by
  refine (callsIn_wide (n := 0)).1 ?_
  refine callsIn_of_wp_marks Tryz.func8 rfl trivial ?_
  simp only [Tryz.ntmps8, List.size_toArray, List.length_cons, List.length_nil, Nat.reduceAdd, Nat.reduceSub, Array.replicate_succ, Array.replicate_zero, List.push_toArray, List.append_toArray, List.nil_append, List.cons_append]
  gi_wp2_with (gi_at_call 18; refine (callsIn_wide.2 (lopen_nil _ _ _)).mono ?_; rintro e w3 ⟨rfl, rfl⟩)
  refine ⟨.tuple #[.pointer none, .int .i64 9], by simp [results, Tryz.results8, go_sem], rfl, ((Below.refl _ _).alloc (Nat.le_refl _) _).alloc (by simp) _⟩
set_option maxHeartbeats 4000000 in
theorem sopen_new (d B : Nat) (D : Dk) (w : World) (h : DiskAt w B d D) (h0 : D.now = []) (hB : B ≤ w.heap.size) :
    Calls Tryz.prog 8 #[.pointer (some ⟨d, 0, none⟩)] w fun e w' => ∃ s l, e = .returned (.tuple #[.pointer (some ⟨s, 0, none⟩), .int .i64 0]) ∧ Below w.heap.size w w' ∧ SD w' B s (newS l) (newL d snm 65536) D ∧ w.heap.size ≤ s ∧ w.heap.size ≤ l := by
  have HD := Lib.hid h
  refine (callsIn_wide (n := 0)).1 ?_
  refine callsIn_of_wp_marks Tryz.func8 rfl trivial ?_
  simp only [Tryz.ntmps8, List.size_toArray, List.length_cons, List.length_nil, Nat.reduceAdd, Nat.reduceSub, Array.replicate_succ, Array.replicate_zero, List.push_toArray, List.append_toArray, List.nil_append, List.cons_append]
  have hb2 : Below w.heap.size w ((w.alloc (.cells #[.pointer none] 29)).alloc (.cells #[.int .i64 0] 26)) := ((Below.refl _ _).alloc (Nat.le_refl _) _).alloc (by simp) _
  have rc0 : ((w.alloc (.cells #[.pointer none] 29)).alloc (.cells #[.int .i64 0] 26)).cell? ⟨w.heap.size, 0, none⟩ = some (.pointer none) ∧ ((w.alloc (.cells #[.pointer none] 29)).alloc (.cells #[.int .i64 0] 26)).frozen? ⟨w.heap.size, 0, none⟩ = false := by
    refine ⟨?_, ?_⟩
    · rw [World.cell?_alloc_past _ _ _ (by simp), World.cell?_alloc_at _ _ _ _ rfl]; rfl
    · rw [World.frozen?_alloc_past _ _ _ (by simp), World.frozen?_alloc_at _ _ _ _ rfl]
  have rc1 : ((w.alloc (.cells #[.pointer none] 29)).alloc (.cells #[.int .i64 0] 26)).cell? ⟨w.heap.size + 1, 0, none⟩ = some (.int .i64 0) ∧ ((w.alloc (.cells #[.pointer none] 29)).alloc (.cells #[.int .i64 0] 26)).frozen? ⟨w.heap.size + 1, 0, none⟩ = false := by
    refine ⟨?_, ?_⟩
    · rw [World.cell?_alloc_at _ _ _ _ (by simp)]; rfl
    · rw [World.frozen?_alloc_at _ _ _ _ (by simp)]
  have rt0 : TyAt ((w.alloc (.cells #[.pointer none] 29)).alloc (.cells #[.int .i64 0] 26)) w.heap.size 29 := ⟨_, _, (Below.heap_alloc _ _ _ (by simp)).trans (World.alloc_heap_new w _)⟩
  have rt1 : TyAt ((w.alloc (.cells #[.pointer none] 29)).alloc (.cells #[.int .i64 0] 26)) (w.heap.size + 1) 26 := ⟨_, _, by have := World.alloc_heap_new (w.alloc (.cells #[.pointer none] 29)) (.cells #[.int .i64 0] 26); rwa [World.size_alloc] at this⟩
  obtain ⟨W2, hW2⟩ : ∃ W2, W2 = (w.alloc (.cells #[.pointer none] 29)).alloc (.cells #[.int .i64 0] 26) := ⟨_, rfl⟩
  have hs2 : W2.heap.size = w.heap.size + 2 := by rw [hW2]; simp
  rw [← hW2] at rc0 rc1 rt0 rt1 hb2
  have HRT := Lib.hid (And.intro rt0 rt1)
  have HRC := Lib.hid (And.intro rc0 rc1)
  have HW2 := Lib.hid hW2
  have HS2 := Lib.hid hs2
  clear rc0 rc1 rt0 rt1 hW2 hs2
  gi_wp2_with (gi_at_call 18; rw [← HW2.out]; refine (callsIn_wide.2 (lopen_new d B D snm 65536 _ (HD.out.below hb2) h0 (Nat.le_trans hB hb2.size) snm_right (by omega))).mono ?_; rintro e w3 ⟨l, rfl, hl, hlog, hb3⟩; have HB23 := Lib.hid hb3; have HLL := Lib.hid hl; have HLOG := Lib.hid hlog; have HB3 := Lib.hid (hb2.trans (hb3.mono hb2.size)); clear hlog hb3 hl)
  gi_wp2_with (gi_at_call 19; refine (lall_calls (some ⟨l, 0, none⟩) 0 _).mono ?_; rintro e w4 ⟨rfl, rfl⟩)
  obtain ⟨T, hT⟩ : ∃ T, T = w3.heap.size := ⟨_, rfl⟩
  have hsk := SkAt.new (l := l) (B := B) (w := w3) (by have := HB3.out.size; omega)
  obtain ⟨X, hX⟩ : ∃ X, X = w3.alloc (.cells #[.pointer (some ⟨l, 0, none⟩), .bool false, .int .i64 0, .slice none 0 0, .slice none 0 0, .slice none 0 0, .bool false] 59) := ⟨_, rfl⟩
  have hXs : X.heap.size = T + 1 := by rw [hX, hT]; simp
  have hbX : Below w3.heap.size w3 X := by rw [hX]; exact below_alloc _ _
  rw [← hX] at hsk
  obtain ⟨Y, hY⟩ : ∃ Y, Y = ((X.alloc (.cells #[.pointer (some ⟨w3.heap.size, 0, none⟩)] 29)).alloc (.cells #[.pointer (some ⟨l, 0, none⟩)] 55)).alloc (.cells #[.int .i64 0] 3) := ⟨_, rfl⟩
  have hYs : Y.heap.size = T + 4 := by rw [hY]; simp [hXs]
  have hbY : Below X.heap.size X Y := by rw [hY]; exact (((Below.refl _ _).alloc (Nat.le_refl _) _).alloc (by simp) _).alloc (by simp; omega) _
  have hys : Y.cell? ⟨T + 1, 0, none⟩ = some (.pointer (some ⟨T, 0, none⟩)) := by
    rw [hY, ← hXs, World.cell?_alloc_past _ _ _ (by simp; omega), World.cell?_alloc_past _ _ _ (by simp), World.cell?_alloc_at _ _ _ _ rfl, hT]; rfl
  have hyl : Y.cell? ⟨T + 2, 0, none⟩ = some (.pointer (some ⟨l, 0, none⟩)) := by
    rw [hY, show T + 2 = X.heap.size + 1 by omega, World.cell?_alloc_past _ _ _ (by simp), World.cell?_alloc_at _ _ _ _ (by simp)]; rfl
  have hyf : Y.cell? ⟨T + 3, 0, none⟩ = some (.int .i64 (0 : Nat)) := by
    rw [hY, show T + 3 = X.heap.size + 2 by omega, World.cell?_alloc_at _ _ _ _ (by simp)]; rfl
  obtain ⟨r0, hr0⟩ : ∃ r, r = w.heap.size := ⟨_, rfl⟩
  obtain ⟨r1, hr1⟩ : ∃ r, r = r0 + 1 := ⟨_, rfl⟩
  have HRC2 := Lib.hid (show (Y.cell? ⟨r0, 0, none⟩ = some (.pointer none) ∧ Y.frozen? ⟨r0, 0, none⟩ = false) ∧ (Y.cell? ⟨r1, 0, none⟩ = some (.int .i64 0) ∧ Y.frozen? ⟨r1, 0, none⟩ = false) from by
    have hb := (HB23.out.trans (hbX.mono HB23.out.size)).trans (hbY.mono (by have := HB23.out.size; omega))
    have hs2 := HS2.out
    obtain ⟨⟨a1, a2⟩, a3, a4⟩ := HRC.out
    rw [hr1, hr0]
    exact ⟨⟨cell_later hb a1, frozen_later hb a1 a2⟩, cell_later hb a3, frozen_later hb a3 a4⟩)
  have HRT2 := Lib.hid (show TyAt Y r0 29 ∧ TyAt Y r1 26 from by
    have hb := (HB23.out.trans (hbX.mono HB23.out.size)).trans (hbY.mono (by have := HB23.out.size; omega))
    obtain ⟨⟨c0, x0, e0⟩, c1, x1, e1⟩ := HRT.out
    rw [hr1, hr0]
    exact ⟨⟨c0, x0, (hb.block _ (Array.getElem?_eq_some_iff.1 e0).1).trans e0⟩, c1, x1, (hb.block _ (Array.getElem?_eq_some_iff.1 e1).1).trans e1⟩)
  rw [← hX, ← hY, ← hT]
  rw [← hr0]
  rw [← hr1]
  have HR0 := Lib.hid hr0
  have HR1 := Lib.hid hr1
  have HR2 := Lib.hid (show r1 < T by have := HB23.out.size; have := HS2.out; omega)
  clear hr1 hr0
  have hbB := (HB3.out.trans (hbX.mono HB3.out.size)).trans (hbY.mono (by have := HB3.out.size; omega))
  have HSD := Lib.hid (show SD Y B T (newS l) (newL d snm 65536) D from
    ⟨by rw [hT]; exact hsk.below hbY, (HLOG.out.below hbX).below hbY, HD.out.below hbB⟩)
  have HBY := Lib.hid hbB
  have hres := HB3.out
  have HYS := Lib.hid hys
  have HYL := Lib.hid hyl
  have HYF := Lib.hid hyf
  have HT := Lib.hid hT
  obtain ⟨tb, htb⟩ : ∃ tb, tb = T + 1 := ⟨_, rfl⟩
  rw [← htb] at HYS ⊢
  rw [show T + 2 = tb + 1 by omega] at HYL
  rw [show T + 3 = tb + 1 + 1 by omega] at HYF
  have HTB := Lib.hid htb
  clear hbB hbX hbY hsk hX hY hys hyl hyf htb hT
  refine range_w (σ := LSt) (gf := 41) (lb := #[.pointer (some ⟨tb + 1, 0, none⟩), .pointer (some ⟨tb + 1 + 1, 0, none⟩)]) rfl (fun args w => disk_enter Tryz.func41 (by kernel_rfl) rfl args w)
    (fun s W => Calm Y.heap.size Y W ∧ s.2 = []) (fun _ _ => False) (LStep 0 [] Y.heap.size) (fun _ => True) (0, [])
    (fun s W W' hc h => ⟨h.1.trans hc, h.2⟩) (fun _ _ _ _ h => h) ⟨Calm.refl _ _, rfl⟩ ?iter ?body ?done (fun _ _ _ _ h => h.elim)
  case iter =>
    intro ly J' Jx' W hm _ hJJ hc hJ0 hy
    refine (lall1_iter B l (tb + 1) (tb + 1 + 1) 0 0 Y.heap.size ly (newL d snm 65536) [] J' Jx' W trivial rfl (by simp) (by simp) (by simp [newL]) (by omega) (fun s hs => by cases hs) hm (fun s W2 hj => ?_) hy hJ0).mono ?_
    · obtain ⟨h1, h2⟩ := hJJ s W2 hj
      refine ⟨HSD.out.ld.log.below h1.below, h1.cell HYL.out, h1.cell HYF.out, h1.size, fun p hp => by rw [h2] at hp; cases hp⟩
    · rintro e W' ⟨hv, (⟨s, hs, hj⟩ | hj)⟩
      · exact ⟨hv, .inl ⟨s, trivial, hj⟩⟩
      · exact ⟨hv, .inr hj⟩
  case body =>
    intro l s args s' W hr hst hsz
    exact absurd hst.2.1 (by simp)
  case done =>
    intro D2 s V hD2 hs hr hK2
    obtain ⟨hc, -⟩ := hr
    have HSV := Lib.hid (HSD.out.below hc.below)
    have HBV := Lib.hid (HBY.out.trans (hc.below.mono HBY.out.size))
    have c1 := hc.cell HYS.out
    have HK2 := Lib.hid hK2
    have cl := hc
    have HCL := Lib.hid hc
    clear hc hK2
    obtain ⟨⟨rc0, rf0⟩, rc1, rf1⟩ := HRC2.out
    have rc0 := cl.cell rc0
    have rc1 := cl.cell rc1
    have rf0 := (cl.frozen HRC2.out.1.1).trans rf0
    have rf1 := (cl.frozen HRC2.out.2.1).trans rf1
    have n01 : ¬ r0 = r1 := by have := HR1.out; omega
    have n10 : ¬ r1 = r0 := by omega
    have hVs := cl.size
    clear cl
    gi_wp2_with fail
    have hDl : D2 < V.heap.size := (Array.getElem?_eq_some_iff.1 HK2.out).1
    have hr01 := HR1.out
    have hr2 := HR2.out
    have hYs4 : T < Y.heap.size := (HSD.out.sk.foot_lt (.inl rfl)).2
    have hVB := HBV.out.size
    have hrw := HR0.out
    obtain ⟨V3, hV3⟩ : ∃ V3, V3 = (V.setCell ⟨r0, 0, none⟩ (.pointer (some ⟨T, 0, none⟩))).setCell ⟨r1, 0, none⟩ (.int .i64 0) := ⟨_, rfl⟩
    rw [← hV3]
    have k2 : V3.heap[D2]? = some (.deferred (some [])) := by
      rw [hV3, heap_setCell_other _ ⟨r1, 0, none⟩ D2 _ (by simp; omega), heap_setCell_other _ ⟨r0, 0, none⟩ D2 _ (by simp; omega)]
      exact HK2.out
    have hoS : Only (fun j => j = r0 ∨ j = r1 ∨ j = D2) V V3 := by rw [hV3]; exact ((Only.refl _ _).setCell _ _ (.inl (.inl rfl))).setCell _ _ (.inl (.inr (.inl rfl)))
    have ho : Only (fun j => j = D2) V3 (V3.putObj D2 (.deferred none)) := ⟨rfl, rfl, rfl, by simp, fun k hk hs => World.putObj_heap_other (fun e => hs e)⟩
    have hoA := hoS.trans ho (fun j _ e => .inr (.inr e))
    have q0 : (V3.putObj D2 (.deferred none)).cell? ⟨r0, 0, none⟩ = some (.pointer (some ⟨T, 0, none⟩)) := ho.cell (b := r0) (by omega) (by rw [hV3, cell_set_block _ n01]; exact cell_set_same _ rc0)
    have q1 : (V3.putObj D2 (.deferred none)).cell? ⟨r1, 0, none⟩ = some (.int .i64 0) := ho.cell (b := r1) (by omega) (by rw [hV3]; exact cell_set_same _ (by rw [cell_set_block _ n10]; exact rc1))
    have t0 : TyAt V r0 29 := by obtain ⟨⟨c, x, e⟩, -⟩ := HRT2.out; exact ⟨c, x, (HCL.out.cells _ _ e rfl).trans rfl⟩
    have t1 : TyAt V r1 26 := by obtain ⟨-, c, x, e⟩ := HRT2.out; exact ⟨c, x, (HCL.out.cells _ _ e rfl).trans rfl⟩
    have hnu : ∀ j, (j = r0 ∨ j = r1 ∨ j = D2) → ¬ IsU8 V j := by
      rintro j (rfl | rfl | rfl) hu
      · exact absurd ((show TyAt V _ 5 from hu).eq t0) (by decide)
      · exact absurd ((show TyAt V _ 5 from hu).eq t1) (by decide)
      · obtain ⟨cs, x, hx⟩ := hu
        rw [HK2.out] at hx
        cases hx
    have hnf : ∀ j, (j = r0 ∨ j = r1 ∨ j = D2) → ¬ skFoot T (newS l) (newL d snm 65536) D j := by
      rintro j (rfl | rfl | rfl) hf
      · exact HSV.out.foot_not hf ⟨by decide, by decide, fun h => by rcases h with h | h | h | h <;> exact absurd h (by decide)⟩ (fun h => by rcases h with h | h | h <;> exact absurd h (by decide)) t0
      · exact HSV.out.foot_not hf ⟨by decide, by decide, fun h => by rcases h with h | h | h | h <;> exact absurd h (by decide)⟩ (fun h => by rcases h with h | h | h <;> exact absurd h (by decide)) t1
      · have := (HSD.out.foot_lt hf).2
        omega
    refine ⟨by simp, .inl ⟨_, _, rfl, run_takeDeferred k2, ?_⟩⟩
    refine ⟨.tuple #[.pointer (some ⟨T, 0, none⟩), .int .i64 0], by simp [results, Tryz.results8, go_sem, q0, q1], T, l, rfl, ?_, ?_, by omega, by have := HLL.out; have := HS2.out; omega⟩
    · exact HBV.out.trans (hoA.below hVB (fun j hj e => by omega))
    · exact ⟨HSV.out.sk.only hoA (fun j hj hf => hnf j hj (.inl hf)), HSV.out.ld.only hoA (fun j hj hf => hnf j hj (.inr hf)) hnu⟩
end Go.Proofs.YthgmligpconhhaaGreatDoor

/- Layer 24: pairs that are alike; the chapter's example; walked. -/
namespace Go.Proofs.YthgmligpconhhaaGreatDoor
open Go.RowKit Go.Shelf
set_option linter.unusedVariables false
set_option linter.unusedSimpArgs false
set_option maxRecDepth 100000

set_option maxHeartbeats 2000000 in
/-- The same pairs are the same. -/
theorem samep_calls (v u : Value) (xs : List Pr) (w : World) (h1 : Rd w 2 v xs.length (flatF Pr.cells xs)) (h2 : Rd w 2 u xs.length (flatF Pr.cells xs)) :
    Calls Tryz.prog 13 #[v, u] w fun e w' => e = .returned (.bool true) ∧ Below w.heap.size w w' := by
  have H1 := Lib.hid h1
  have H2 := Lib.hid h2
  obtain ⟨a, ac, rfl, hal, hac⟩ := h1.slice
  obtain ⟨b, bc, rfl, hbl, hbc⟩ := h2.slice
  clear h1 h2
  have d0 : ((xs.length : Int) != (xs.length : Int)) = false := by simp
  go_enter Tryz.func13, Tryz.ntmps13
  go_wp2_with fail
  go_loopw [5] (fun i wr => ∃ k : Nat, k ≤ xs.length ∧ i = .int .i64 k ∧ Below w.heap.size w wr) (fun i _ => xs.length - (intOf i).toNat)
  case atStart => exact ⟨0, by omega, rfl, Below.refl _ _⟩
  case round =>
    obtain ⟨k, hk, rfl, hb⟩ := hrel
    have HB := Lib.hid hb
    by_cases hlt : k < xs.length
    · obtain ⟨ab, ao, ha, c0, c1⟩ := pr_at H1.out k hlt
      obtain ⟨bb, bo, hb', e0, e1⟩ := pr_at H2.out k hlt
      subst ha hb'
      have c0 := cell_later hb c0
      have c1 := cell_later hb c1
      have e0 := cell_later hb e0
      have e1 := cell_later hb e1
      clear hb
      generalize xs[k] = R at *
      obtain ⟨rk, rv⟩ := R
      simp only at c0 c1 e0 e1
      have z1 : (k : Int) < (xs.length : Int) := by omega
      have z2 : (0 : Int) ≤ (k : Int) := by omega
      go_upto_region 6 with fail
      refine region_m [(0, false), (1, false), (2, false), (3, false), (4, false), (5, false), (6, false), (7, false), (8, false), (9, false), (10, false), (11, false), (12, false), (13, false), (14, false), (15, false), (16, false), (17, false), (18, false), (19, false), (20, false), (21, false), (22, false), (23, false)] 24 (fun X => X.cell? ⟨ab, ao + k * 2, none⟩ = some (.string rk) ∧ X.cell? ⟨ab, ao + k * 2 + 1, none⟩ = some (.int .u32 rv) ∧ X.cell? ⟨bb, bo + k * 2, none⟩ = some (.string rk) ∧ X.cell? ⟨bb, bo + k * 2 + 1, none⟩ = some (.int .u32 rv)) (by kernel_rfl) (by kernel_rfl) ⟨c0, c1, e0, e1⟩ ?_
      iterate 24
        first
        | (refine m_take (v := ?_) rfl rfl ?_ ?_
           rotate_left
           · intro W hW
             go_simp
             with_reducible rfl
           simp only [Act.put, List.setIfInBounds_toArray, List.set_cons_zero, List.set_cons_succ])
        | (refine m_skip rfl rfl ?_
           simp only [Act.put, List.setIfInBounds_toArray, List.set_cons_zero, List.set_cons_succ])
      refine m_done ?_
      simp only [List.drop_succ_cons, List.drop_zero]
      go_wp2_with fail
      simp only [NP]
      go_wp2_with fail
      go_roundw
      case rel => exact ⟨k + 1, by omega, by go_num, HB.out.drew⟩
      case measure => simp [intOf]; omega
    · obtain rfl : k = xs.length := by omega
      clear hb
      go_wp2_with fail
      go_ret
      exact ⟨rfl, HB.out⟩

theorem newS_m (l : Nat) : (newS l).m = SM.new := rfl
theorem sg_new (l d : Nat) (room : Int) (n : Nat) : SG (newS l) (newL d snm 65536) (newD room n) [] :=
  ⟨⟨rfl, rfl, snm_right, fun _ => rfl, trivial, rfl, by show (0:Int) ≤ 65536 ∧ (65536:Int) ≤ 4294967296; omega, (fun s hs => by cases hs), (by simp [newD, usedOf]), (by simp [newD, newL]), (fun s hs => by cases hs)⟩, (fun b hb => by cases hb), GS.new _ _ _ _ _, rfl, (fun x hx => by cases hx), rfl⟩
theorem kin_new {w : World} {B s l d : Nat} {room : Int} {n k : Nat} (h : SD w B s (newS l) (newL d snm 65536) (newD room n)) (hk : k ≤ 900) (hc : ((k : Int) * 65548) ≤ room) (hr : room ≤ 1073741824) (hv : VarsIn w) (h5 : 5 ≤ B) : KIn w B s (newS l) (newL d snm 65536) (newD room n) [] k :=
  ⟨h, sg_new l d room n, by simpa using hk, by simpa [newD] using hc, by simpa [newD] using hr, hv, h5⟩
theorem ST.lo {w w' : World} {B s : Nat} {S S' : Sk} {L L' : Lg} {D D' : Dk} (h : ST w w' B s S L D S' L' D') (h0 : SD w B s S L D) : Below B w w' :=
  h.only.below (by have := (h0.foot_lt (.inl (.inl rfl) : skFoot s S L D s)); omega) (fun j hj hf => by have := (h0.foot_lt hf).1; omega)
theorem eps_at {S : Sk} {i : Nat} {l : List Pr} (h : S.m.eps[i]? = some l) : ∃ x, S.eps[i]? = some x ∧ x.2 = l := by
  have h : (S.eps.map Prod.snd)[i]? = some l := h
  rw [List.getElem?_map] at h
  cases hq : S.eps[i]? with
  | none => rw [hq] at h; cases h
  | some x =>
    rw [hq] at h
    exact ⟨x, rfl, Option.some.inj h⟩
def pA : Pr := ⟨⟨#[97]⟩, 1⟩
set_option maxHeartbeats 2000000 in
theorem known_calls (w : World) (hv : VarsIn w) (h5 : 5 ≤ w.heap.size) : Calls Tryz.prog 6 #[] w fun e w' => e = .returned (.bool true) ∧ Below w.heap.size w w' := by
  have HV := Lib.hid hv
  clear hv
  go_enter Tryz.func6, Tryz.ntmps6
  go_wp2_with fail
  refine (dnew_calls 1048576 w (by omega) (by omega)).mono ?_
  rintro e w1 ⟨rfl, hd1, hb1⟩
  have HB1 := Lib.hid hb1
  have HD1 := Lib.hid hd1
  clear hd1
  go_wp2_with fail
  refine (sopen_new (w.heap.size + 2) w.heap.size (newD 1048576 w.heap.size) w1 HD1.out rfl hb1.size).mono ?_
  rintro e w2 ⟨s, l, rfl, hb2, hsd2, hs2, hl2⟩
  have HB2 := Lib.hid (hb1.trans (hb2.mono hb1.size))
  have HK2 := Lib.hid (kin_new hsd2 (k := 15) (by omega) (by omega) (by omega) (HV.out.below HB2.out h5) h5)
  have hsz2 := HB2.out.size
  clear hb1 hb2 hsd2
  have hb3 : Below w2.heap.size w2 (w2.alloc (.cells #[.string ⟨#[97]⟩, .int .u32 1] 39)) := below_alloc _ _
  have HLIT := Lib.hid (show Rd (w2.alloc (.cells #[.string ⟨#[97]⟩, .int .u32 1] 39)) 2 (.slice (some ⟨w2.heap.size, 0, none⟩) 1 1) [pA].length (flatF Pr.cells [pA]) from Rd.lit (w := w2) (cs := #[.string ⟨#[97]⟩, .int .u32 1]) (e := 39) (n := 1) (sz := 2) rfl (by omega))
  have HK3 := Lib.hid (HK2.out.below hb3)
  go_wp2_with fail
  refine (prepare_calls w.heap.size s _ _ _ [] 12 2 1 0 _ [pA] _ (by simp) HK3.out (by omega) HLIT.out ?_ ?_ ?_).mono ?_
  · intro a n c e _ hf
    simp only [Value.slice.injEq, Option.some.injEq] at e
    obtain ⟨rfl, -, -⟩ := e
    have := (HK2.out.sd.foot_lt hf).2
    simp at this
  · intro p hp; rw [List.mem_singleton.1 hp]; decide
  · intro p hp; rw [List.mem_singleton.1 hp]; exact ⟨by decide, by decide⟩
  rintro e w4 ⟨rfl, S4, L4, D4, xs4, hst4, hk4, hm4, hsame4⟩
  have HST4 := Lib.hid (hst4.after hb3 HK2.out.sd)
  have e4 : prE (newS l).m 1 0 [pA] = 0 := by rw [newS_m]; decide
  have HM4 := Lib.hid (show S4.m = ⟨1, [], [], [pA], true⟩ from hm4.trans (by rfl))
  have HK4 := Lib.hid (show KIn w4 w.heap.size s S4 L4 D4 xs4 12 from hk4)
  rw [e4]
  have hsz4 := (hst4.after hb3 HK2.out.sd).only.size
  clear hst4 hk4 hm4 hsame4 hb3
  go_wp2_with fail
  refine (commit_calls w.heap.size s S4 L4 D4 xs4 10 1 0 w4 HK4.out (by omega)).mono ?_
  rintro e w5 ⟨rfl, S5, L5, D5, xs5, hst5, hk5, hm5, hsame5⟩
  have e5 : cmE S4.m 1 0 = 0 := by rw [HM4.out]; decide
  have HM5 := Lib.hid (show S5.m = ⟨1, [[pA]], [], [], false⟩ from hm5.trans (by rw [HM4.out]; rfl))
  have HK5 := Lib.hid (show KIn w5 w.heap.size s S5 L5 D5 xs5 10 from hk5)
  have HST5 := Lib.hid (HST4.out.trans hst5)
  rw [e5]
  clear hst5 hk5 hm5 hsame5
  go_wp2_with fail
  obtain ⟨x, hx, hxp⟩ := eps_at (S := S5) (i := 0) (l := [pA]) (by rw [HM5.out]; rfl)
  refine (epoch_calls w.heap.size s 0 S5 w5 HK5.out.sd.sk x hx (by rw [hxp]; simp)).mono ?_
  rintro e w6 ⟨v6, rfl, hr6, hb6⟩
  rw [hxp] at hr6
  obtain ⟨a6, c6, rfl⟩ := own_slice hr6
  have hb7 : Below w6.heap.size w6 (w6.alloc (.cells #[.string ⟨#[97]⟩, .int .u32 1] 39)) := below_alloc _ _
  have HLIT7 := Lib.hid (show Rd (w6.alloc (.cells #[.string ⟨#[97]⟩, .int .u32 1] 39)) 2 (.slice (some ⟨w6.heap.size, 0, none⟩) 1 1) [pA].length (flatF Pr.cells [pA]) from Rd.lit (w := w6) (cs := #[.string ⟨#[97]⟩, .int .u32 1]) (e := 39) (n := 1) (sz := 2) rfl (by omega))
  have HR7 := Lib.hid ((Rd.of_own hr6).below hb7 (Nat.le_refl _))
  have HB7 := Lib.hid (hb6.trans (hb7.mono hb6.size))
  clear hb6 hr6 hb7 hx hxp
  go_wp2_with fail
  refine (samep_calls _ _ [pA] _ HR7.out HLIT7.out).mono ?_
  rintro e w8 ⟨rfl, hb8⟩
  have HB8 := Lib.hid (HB7.out.trans (hb8.mono HB7.out.size))
  have HK8 := Lib.hid (HK5.out.below HB8.out)
  clear hb8
  go_wp2_with fail
  refine (commit_calls w.heap.size s S5 L5 D5 xs5 8 1 1 w8 HK8.out (by omega)).mono ?_
  rintro e w9 ⟨rfl, S9, L9, D9, xs9, hst9, hk9, hm9, hsame9⟩
  have e9 : cmE S5.m 1 1 = 9 := by rw [HM5.out]; decide
  have HM9 := Lib.hid (show S9.m = ⟨1, [[pA]], [], [], false⟩ from hm9.trans (by rw [HM5.out]; rfl))
  have HK9 := Lib.hid (show KIn w9 w.heap.size s S9 L9 D9 xs9 8 from hk9)
  have HL9 := Lib.hid (hst9.lo HK8.out.sd)
  rw [e9]
  clear hst9 hk9 hm9 hsame9
  go_wp2_with fail
  refine (prepare_calls w.heap.size s S9 L9 D9 xs9 5 2 0 1 (.slice none 0 0) [] w9 (by simp) HK9.out (by omega) (Rd.nil _ _) (fun a n c e => by cases e) (fun p hp => by cases hp) (fun p hp => by cases hp)).mono ?_
  rintro e w10 ⟨rfl, S10, L10, D10, xs10, hst10, hk10, hm10, hsame10⟩
  have e10 : prE S9.m 0 1 [] = 15 := by rw [HM9.out]; decide
  have HL10 := Lib.hid (hst10.lo HK9.out.sd)
  rw [e10]
  clear hst10 hk10 hm10 hsame10
  go_wp2_with fail
  go_ret
  refine ⟨rfl, ?_⟩
  have h25 : Below w.heap.size w w5 := HB2.out.trans (HST5.out.lo HK2.out.sd)
  have h8 := h25.trans (HB8.out.mono h25.size)
  exact (h8.trans HL9.out).trans HL10.out
end Go.Proofs.YthgmligpconhhaaGreatDoor

/- From a reading of []api.Pair to what the walks ask. -/
namespace Go.Proofs.YthgmligpconhhaaGreatDoor
open Go.RowKit Go.ChangeShapes Go.WideShapes Go.ChangeAt
set_option linter.unusedVariables false
set_option maxRecDepth 100000
theorem cells_pair {H : Type} {enc : TypeId × Value → H} {W : World} {held : Bool} {fuel : Nat} {cs : List Value} {y : DataW H × List MemPlace}
    (hf : DataW.trod enc Tryz.prog W 0 (fun _ => true) held fuel 39 cs = some y) : ∃ p : Pr, cs = Pr.cells p ∧ p.key.size ≤ 9223372036854775807 ∧ U32 p.val := by
  obtain ⟨xs, n, -, -, hl, hxl, hx⟩ := DataW.trod_struct Tryz.underlying39 hf
  have hlN : cs.length = 2 := hl.trans (by kernel_rfl)
  have hc_tStr : Tryz.prog.cellsOf 9 = 1 := by kernel_rfl
  have hc_tU32 : Tryz.prog.cellsOf 37 = 1 := by kernel_rfl
  match cs, hlN with
  | [v0, v1], _ =>
    have h0 : DataW.trod enc Tryz.prog W 0 (fun _ => true) held n 9 (([v0, v1].drop 0).take (Tryz.prog.cellsOf 9)) = xs[0]? := hx 0 _ rfl
    have h1 : DataW.trod enc Tryz.prog W 0 (fun _ => true) held n 37 (([v0, v1].drop 1).take (Tryz.prog.cellsOf 37)) = xs[1]? := hx 1 _ rfl
    simp only [hc_tStr, hc_tU32, List.drop_zero, List.drop_succ_cons, List.take_succ_cons, List.take_zero] at h0 h1
    have hs : ∀ i, i < 2 → ∃ z, xs[i]? = some z := fun i hi => ⟨_, List.getElem?_eq_getElem (by rw [hxl]; exact hi)⟩
    obtain ⟨z0, e0⟩ := hs 0 (by omega)
    rw [e0] at h0
    obtain ⟨z1, e1⟩ := hs 1 (by omega)
    rw [e1] at h1
    obtain ⟨a, q0, -, wa⟩ := DataW.trod_string Tryz.underlying9 h0
    obtain ⟨b, q1, -, wb⟩ := DataW.trod_int Tryz.underlying37 h1
    cases q0
    cases q1
    have hb := Go.bounds_u32 wb
    refine ⟨⟨a, b⟩, rfl, ?_, ?_⟩
    · show a.size ≤ _
      unfold maxLen at wa
      omega
    · show 0 ≤ b ∧ b < 4294967296
      omega
/-- []api.Pair -/
theorem open_pairs {H : Type} {enc : TypeId × Value → H} {W : World} {B : Nat} {held : Bool} {v : Value} {d : DataW H} {p : List MemPlace}
    (ok : Value.okWide Tryz.prog W .any B 23 v) (h : DataW.Trod enc Tryz.prog W 0 (fun _ => true) held 23 v d p) : ∃ ps : List Pr, Rd W 2 v ps.length (flatF Pr.cells ps) ∧ (∀ p ∈ ps, p.key.size ≤ 9223372036854775807) ∧ (∀ p ∈ ps, U32 p.val) ∧ Shape d ps.length := by
  obtain ⟨a, len, cap, rfl⟩ := okWide_slice Tryz.underlying23 ok
  obtain ⟨fuel, hf⟩ := h
  obtain ⟨v, ps, hcs, h1, h2, -, h3⟩ := cells_structs (f := Pr.cells) (Q := fun p => p.key.size ≤ 9223372036854775807 ∧ U32 p.val) Tryz.underlying23 (by kernel_rfl) pr2 (by omega) (fun _ _ _ h => cells_pair h) hf
  simp [Value.cells] at hcs
  subst hcs
  exact ⟨ps, h1, fun p hp => (h2 p hp).1, fun p hp => (h2 p hp).2, h3⟩
theorem reach_pairs {H : Type} {ts : List TypeId} {ds : List (DataW H)} {d : DataW H} {n j : Nat} (h : (DataW.weightsEach Tryz.prog ts ds).all (· ≤ reachBytes) = true) (ht : ts[j]? = some 23) (hd : ds[j]? = some d) (hs : Shape d n) : n * 24 ≤ 140737488351232 := by
  rcases hs with rfl | ⟨es, sp, rfl, rfl⟩
  · omega
  · have := sized_slice h ht hd Tryz.underlying23
    have hb : Tryz.prog.bytesOf 39 = 24 := by kernel_rfl
    have hr : reachBytes = 140737488351232 := rfl
    rw [hb, hr] at this
    omega
end Go.Proofs.YthgmligpconhhaaGreatDoor
