/- Layer 5: the document's own, Send, Twice walked. -/
import Derived.Test.YtpmkepmnldkccaaMail05
namespace Go.Proofs.Ytpmkepmnldkccaa
open Go.RowKit

set_option maxHeartbeats 800000 in
theorem rown_calls (f t : Int) (dv : Value) (xs : List UInt8) (w : World) (hv : Bytes w dv xs) (hl : xs.length ≤ 140737488351232) :
    Calls Try.prog 31 #[.agg #[.int .i64 f, .int .i64 t, dv]] w fun e w' => ∃ dv', e = .returned (.agg #[.int .i64 f, .int .i64 t, dv']) ∧ Mine w' w.heap.size dv' xs ∧ Below w.heap.size w w' := by
  have HV := Lib.hid hv
  obtain ⟨a, c, rfl, -⟩ := hv
  obtain ⟨W, hW⟩ : ∃ W, W = (w.alloc (.cells #[.int .i64 f, .int .i64 t, .slice a xs.length c] 32)).alloc (.cells #[.int .i64 0, .int .i64 0, .slice none 0 0] 32) := ⟨_, rfl⟩
  have hWs : W.heap.size = w.heap.size + 2 := by rw [hW]; simp
  have hbW : Below w.heap.size w W := by rw [hW]; exact ((Below.refl w.heap.size w).alloc (Nat.le_refl _) _).alloc (by simp) _
  have q0 : W.cell? ⟨w.heap.size, 0, none⟩ = some (.int .i64 f) := by rw [hW, World.cell?_alloc_past _ _ _ (by simp), World.cell?_alloc_at _ _ _ _ rfl]; rfl
  have q1 : W.cell? ⟨w.heap.size, 1, none⟩ = some (.int .i64 t) := by rw [hW, World.cell?_alloc_past _ _ _ (by simp), World.cell?_alloc_at _ _ _ _ rfl]; rfl
  have q2 : W.cell? ⟨w.heap.size, 2, none⟩ = some (.slice a xs.length c) := by rw [hW, World.cell?_alloc_past _ _ _ (by simp), World.cell?_alloc_at _ _ _ _ rfl]; rfl
  have p0 : W.cell? ⟨w.heap.size + 1, 0, none⟩ = some (.int .i64 0) := by rw [hW, World.cell?_alloc_at _ _ _ _ (by simp)]; rfl
  have p1 : W.cell? ⟨w.heap.size + 1, 1, none⟩ = some (.int .i64 0) := by rw [hW, World.cell?_alloc_at _ _ _ _ (by simp)]; rfl
  have p2 : W.cell? ⟨w.heap.size + 1, 2, none⟩ = some (.slice none 0 0) := by rw [hW, World.cell?_alloc_at _ _ _ _ (by simp)]; rfl
  have z0 : ∀ o, W.frozen? ⟨w.heap.size, o, none⟩ = false := fun o => by rw [hW, World.frozen?_alloc_past _ _ _ (by simp), World.frozen?_alloc_at _ _ _ _ rfl]
  have z1 : ∀ o, W.frozen? ⟨w.heap.size + 1, o, none⟩ = false := fun o => by rw [hW, World.frozen?_alloc_at _ _ _ _ (by simp)]
  have hlit := Mine.lit W W.heap.size 0 #[] [] (Nat.le_refl _) (by omega) rfl rfl
  have hal := (Below.refl W.heap.size W).alloc (Nat.le_refl _) (.cells #[] 5)
  have HR := Lib.hid ((HV.out.below hbW (Nat.le_refl _)).below hal (Nat.le_refl _))
  have HLIT := Lib.hid hlit
  have HAL := Lib.hid hal
  have HBW := Lib.hid hbW
  have HQ := Lib.hid (And.intro (And.intro q0 (And.intro q1 q2)) (And.intro (And.intro p0 (And.intro p1 p2)) (And.intro z0 z1)))
  have HWS := Lib.hid hWs
  clear hlit hal hbW q0 q1 q2 p0 p1 p2 z0 z1
  have hl8 : Value.slice (some ⟨w.heap.size + 2, 0, none⟩) 0 0 = Value.slice (some ⟨W.heap.size, 0, none⟩) 0 0 := by rw [hWs]
  rw [← hl8] at HLIT
  have q2a : (W.alloc (.cells #[] 5)).cell? ⟨w.heap.size, 2, none⟩ = some (.slice a xs.length c) := cell_later HAL.out HQ.out.1.2.2
  subst hW
  clear hl8 hWs
  go_enter Try.func31, Try.ntmps31
  go_wp2_with (at_builtin; go_loud (refine app_mine HLIT.out HR.out HAL.out HAL.out.size (by simp; omega) rfl rfl rfl rfl ?_; intro v3 w3 hm3 hb3; rw [List.nil_append] at hm3; obtain ⟨ga, gc, rfl⟩ := hm3.slice; have HM3 := Lib.hid hm3; have HB3 := Lib.hid hb3; have y0 := cell_later hb3 HQ.out.1.1; have y1 := cell_later hb3 HQ.out.1.2.1; have y2 := cell_later hb3 HQ.out.1.2.2; have x0 := cell_later hb3 HQ.out.2.1.1; have x1 := cell_later hb3 HQ.out.2.1.2.1; have x2 := cell_later hb3 HQ.out.2.1.2.2; have f0 : ∀ o, w3.frozen? ⟨w.heap.size, o, none⟩ = false := (fun o => (World.frozen?_of_block (a := ⟨w.heap.size, o, none⟩) (hb3.block w.heap.size (by have := HWS.out; omega))).trans (HQ.out.2.2.1 o)); have f1 : ∀ o, w3.frozen? ⟨w.heap.size + 1, o, none⟩ = false := (fun o => (World.frozen?_of_block (a := ⟨w.heap.size + 1, o, none⟩) (hb3.block (w.heap.size + 1) (by have := HWS.out; omega))).trans (HQ.out.2.2.2 o)); clear hm3 hb3))
  have hws := HWS.out
  refine bodyPost_ret (v := .agg #[.int .i64 f, .int .i64 t, .slice ga xs.length gc]) (by simp [results, Try.results31, go_sem, x0, x1, x2]) rfl ⟨_, rfl, ?_, ?_⟩
  · exact ((((HM3.out.set _ _ (by simp; omega)).set _ _ (by simp)).set _ _ (by simp)).set _ _ (by simp)).mono (by omega)
  · exact ((((HBW.out.trans (HB3.out.mono (by omega))).setCell (by simp) _).setCell (by simp) _).setCell (by simp) _).setCell (by simp) _

set_option maxHeartbeats 1000000 in
set_option maxRecDepth 100000 in
theorem rsend_yes (pb : Nat) (N : Int) (rv : Value) (es : List Ent) (f t : Int) (dv : Value) (xs : List UInt8) (w : World) (hp : Post w pb N rv es) (hv : Bytes w dv xs) (hn : es.length ≤ 100000) (hx : xs.length ≤ 65536) (hf : 0 ≤ f ∧ f < N) (ht : 0 ≤ t ∧ t < N) :
    Calls Try.prog 14 #[.pointer (some ⟨pb, 0, none⟩), .agg #[.int .i64 f, .int .i64 t, dv]] w fun e w' => e = .returned (.int .i64 0) ∧ Grew w w' pb N rv es f t xs := by
  obtain ⟨hf1, hf2⟩ := hf
  obtain ⟨ht1, ht2⟩ := ht
  have g1 : ¬ f < 0 := by omega
  have g2 : ¬ N ≤ f := by omega
  have g3 : ¬ t < 0 := by omega
  have g4 : ¬ N ≤ t := by omega
  have HP := Lib.hid hp
  have HV := Lib.hid hv
  have hlt := hp.lt
  have c0 := hp.c0
  have c1 := hp.c1
  obtain ⟨da, dc, rfl, -⟩ := hv
  obtain ⟨ra, rc, rfl⟩ := hp.slice
  have hm0 : (w.alloc (.cells #[.int .i64 f, .int .i64 t, .slice da xs.length dc] 32)).cell? ⟨w.heap.size, 0, none⟩ = some (.int .i64 f) := by rw [World.cell?_alloc_at _ _ _ _ rfl]; rfl
  have hm1 : (w.alloc (.cells #[.int .i64 f, .int .i64 t, .slice da xs.length dc] 32)).cell? ⟨w.heap.size, 1, none⟩ = some (.int .i64 t) := by rw [World.cell?_alloc_at _ _ _ _ rfl]; rfl
  have hm2 : (w.alloc (.cells #[.int .i64 f, .int .i64 t, .slice da xs.length dc] 32)).cell? ⟨w.heap.size, 2, none⟩ = some (.slice da xs.length dc) := by rw [World.cell?_alloc_at _ _ _ _ rfl]; rfl
  have hal := (Below.refl w.heap.size w).alloc (Nat.le_refl _) (.cells #[.int .i64 f, .int .i64 t, .slice da xs.length dc] 32)
  have d0 := cell_later hal c0
  have d1 := cell_later hal c1
  have HP1 := Lib.hid (hp.below hal)
  have HV1 := Lib.hid (HV.out.below hal (Nat.le_refl _))
  have HAL := Lib.hid hal
  clear hp hal c0 c1
  go_enter Try.func14, Try.ntmps14
  go_wp2_with fail
  generalize (w.alloc (.cells #[.int .i64 f, .int .i64 t, .slice da xs.length dc] 32)) = W at *
  have k1 : decide (f < 0) = false := decide_eq_false (by omega)
  have k2 : decide (N ≤ f) = false := decide_eq_false (by omega)
  have k3 : decide (t < 0) = false := decide_eq_false (by omega)
  have k4 : decide (N ≤ t) = false := decide_eq_false (by omega)
  refine region_m [(0, false), (1, false), (2, false), (3, false), (4, false), (5, false), (6, false), (7, false), (8, false), (9, false), (10, false), (11, false), (12, false), (13, false), (14, false), (15, false), (16, false), (17, false), (18, false), (19, false), (20, false), (21, false), (22, false), (23, false), (24, false), (25, false)] 26 (fun W => W.cell? ⟨pb, 0, none⟩ = some (.int .i64 N) ∧ W.cell? ⟨w.heap.size, 0, none⟩ = some (.int .i64 f) ∧ W.cell? ⟨w.heap.size, 1, none⟩ = some (.int .i64 t)) (by kernel_rfl) (by kernel_rfl) ⟨d0, hm0, hm1⟩ ?_
  iterate 26
    first
    | (refine m_take (v := ?_) rfl rfl ?_ ?_
       rotate_left
       · intro W hW
         go_simp
         with_reducible rfl
       simp only [Act.put, List.setIfInBounds_toArray, List.set_cons_zero, List.set_cons_succ])
    | (refine m_skip rfl rfl ?_
       simp only [Act.put, List.setIfInBounds_toArray, List.set_cons_zero, List.set_cons_succ])
  refine m_done ?_
  simp only [List.drop_succ_cons, List.drop_zero]
  go_wp2_with fail
  simp only [NP]
  go_wp2_with fail
  have hWs : pb < w.heap.size := hlt
  have hal2 := HAL.out.size
  refine region_m [(0, false), (1, false), (2, false), (3, false), (4, false), (5, false), (6, true), (7, true), (8, true)] 9 (fun W => W.cell? ⟨pb, 1, none⟩ = some (.slice ra es.length rc) ∧ W.cell? ⟨w.heap.size, 0, none⟩ = some (.int .i64 f) ∧ W.cell? ⟨w.heap.size, 1, none⟩ = some (.int .i64 t) ∧ W.cell? ⟨w.heap.size, 2, none⟩ = some (.slice da xs.length dc)) (by kernel_rfl) (by kernel_rfl) ⟨d1, hm0, hm1, hm2⟩ ?_
  iterate 6
    refine m_take (v := ?_) rfl rfl ?_ ?_
    rotate_left
    · intro W hW
      go_simp
      with_reducible rfl
    simp only [Act.put, List.setIfInBounds_toArray, List.set_cons_zero, List.set_cons_succ]
  refine m_loud rfl (fun K hK => ?_)
  have HK := Lib.hid hK
  clear hK
  go_simp
  refine (rown_calls f t _ xs _ (HV1.out.below ((Below.refl W.heap.size W).drew.drew) (Nat.le_refl _)) (by omega)).mono ?_
  rintro e w2 ⟨dv', rfl, hm, hb⟩
  have hb : Below W.heap.size W w2 := ((Below.refl W.heap.size W).drew.drew).trans hb
  have HP2 := Lib.hid (HP1.out.below hb)
  have d1' := cell_later hb d1
  have e0 := cell_later hb hm0
  have e1 := cell_later hb hm1
  have e2 := cell_later hb hm2
  obtain ⟨va, vc, rfl⟩ := hm.slice
  have HM := Lib.hid hm
  have HB := Lib.hid hb
  refine HK.out _ _ ⟨d1', e0, e1, e2⟩ ?_
  clear HK
  clear hm hb hm0 hm1 hm2 d1 d0
  have hal3 := (Below.refl w2.heap.size w2).alloc (Nat.le_refl _) (.cells #[.int .i64 f, .int .i64 t, .slice va xs.length vc] 32)
  have f1 := cell_later hal3 d1'
  have f2 := cell_later hal3 e0
  have f3 := cell_later hal3 e1
  have f4 := cell_later hal3 e2
  have HP3 := Lib.hid (HP2.out.below hal3)
  have HM3 := Lib.hid ((HM.out.mono (by omega : pb + 1 ≤ W.heap.size)).below hal3 (Nat.le_refl _))
  have HLIT := Lib.hid (Rd.lit (w := w2) (cs := #[.int .i64 f, .int .i64 t, .slice va xs.length vc]) (e := 32) (n := 1) (sz := 3) rfl (by omega))
  have hs3 : W.heap.size ≤ w2.heap.size := HB.out.size
  have HB3 := Lib.hid (((HAL.out.mono (Nat.le_refl _)).trans (HB.out.mono hal2)).trans (hal3.mono (by omega)))
  have hz3 : (w2.alloc (.cells #[.int .i64 f, .int .i64 t, .slice va xs.length vc] 32)).heap.size = w2.heap.size + 1 := by simp
  clear hal3
  refine m_loud rfl (fun K hK => ?_)
  have HK := Lib.hid hK
  clear hK
  go_simp
  refine HK.out _ _ ⟨f1, f2, f3, f4⟩ ?_
  clear HK
  clear d1' e0 e1 e2
  generalize (w2.alloc (.cells #[.int .i64 f, .int .i64 t, .slice va xs.length vc] 32)) = W3 at *
  refine m_app tyMails HP3.out.own HLIT.out (by simp [Value.oneCell']) (by omega) (by omega) (by omega) (by omega) rfl rfl rfl rfl rfl ?_
  intro g cap w4 h1 h2 h3 h4
  have hrb : ∀ k, k < pb + 1 ∨ k = w.heap.size → some k ≠ (Value.slice ra es.length rc).ownBlock := by
    intro k hk e
    have h5 := World.ownsRow.lt HP3.out.own k e.symm
    have h6 := World.ownsRow.lt HP.out.own k e.symm
    omega
  refine ⟨⟨h3.cell f1 (hrb _ (.inl (by simp))), h3.cell f2 (hrb _ (.inr rfl)), h3.cell f3 (hrb _ (.inr rfl)), h3.cell f4 (hrb _ (.inr rfl))⟩, ?_⟩
  refine m_done ?_
  simp only [List.drop_succ_cons, List.drop_zero]
  have k1 := h3.cell f1 (hrb _ (.inl (by simp)))
  have hg := hrb pb (.inl (by omega))
  have kz : w4.frozen? ⟨pb, 1, none⟩ = false := (World.frozen?_of_block (a := ⟨pb, 1, none⟩) (h3.block pb (by have := HP3.out.lt; omega) hg)).trans HP3.out.fz
  have HPU := Lib.hid (HP3.out.push ⟨f, t, .slice va xs.length vc, xs⟩ HM3.out hx h1 h3)
  have HON := Lib.hid (((Only.of_below (S := fun j => j = pb ∨ (Value.slice ra es.length rc).ownBlock = some j) HB3.out).trans (Only.of_grown h3) (fun j _ e => .inr e)).setCell ⟨pb, 1, none⟩ (.slice (some ⟨g, 0, none⟩) (es.length + 1) cap) (.inl (.inl rfl)))
  have HGB : Hid (Value.ownBlock (.slice (some ⟨g, 0, none⟩) (es.length + 1) cap) = (Value.slice ra es.length rc).ownBlock ∨ ∃ k, Value.ownBlock (.slice (some ⟨g, 0, none⟩) (es.length + 1) cap) = some k ∧ w.heap.size ≤ k) := Lib.hid (by
    rcases h4 with ⟨k, c, e, -⟩ | h4
    · left; rw [e]; rfl
    · right; exact ⟨g, rfl, by omega⟩)
  have HDV := Lib.hid (fun k (hk : (Value.slice va xs.length vc).ownBlock = some k) => Nat.le_trans hal2 (World.ownsRow.lt HM.out k hk).1)
  clear h1 h2 h3 h4 hrb hg f1 f2 f3 f4
  go_wp2_with fail
  simp only [NP]
  go_wp2_with fail
  go_ret
  exact ⟨rfl, ⟨_, _, HPU.out, HGB.out, HDV.out⟩, HON.out⟩

set_option maxHeartbeats 1000000 in
set_option maxRecDepth 100000 in
theorem rsend_no (pb : Nat) (N f t : Int) (dv : Value) (xs : List UInt8) (w : World) (c0 : w.cell? ⟨pb, 0, none⟩ = some (.int .i64 N)) (hv : Bytes w dv xs) (hno : sendCode N f t xs ≠ 0) :
    Calls Try.prog 14 #[.pointer (some ⟨pb, 0, none⟩), .agg #[.int .i64 f, .int .i64 t, dv]] w fun e w' => e = .returned (.int .i64 (sendCode N f t xs)) ∧ Below w.heap.size w w' := by
  have hway : (decide (f < 0) = true ∧ sendCode N f t xs = 1) ∨ ((decide (f < 0) = false ∧ decide (t < 0) = true) ∧ sendCode N f t xs = 1) ∨ ((decide (f < 0) = false ∧ decide (t < 0) = false ∧ decide (N ≤ f) = true) ∧ sendCode N f t xs = 1) ∨
      ((decide (f < 0) = false ∧ decide (t < 0) = false ∧ decide (N ≤ f) = false ∧ decide (N ≤ t) = true) ∧ sendCode N f t xs = 1) ∨ ((decide (f < 0) = false ∧ decide (t < 0) = false ∧ decide (N ≤ f) = false ∧ decide (N ≤ t) = false) ∧ 65536 < (xs.length : Int) ∧ sendCode N f t xs = 2) := by
    unfold sendCode at hno ⊢
    simp only [decide_eq_true_eq, decide_eq_false_iff_not]
    by_cases h1 : f < 0
    · left; simp [h1]
    by_cases h2 : t < 0
    · right; left; simp [h1, h2]
    by_cases h3 : N ≤ f
    · right; right; left; simp [h1, h2, h3]
    by_cases h4 : N ≤ t
    · right; right; right; left; simp [h1, h2, h3, h4]
    right; right; right; right
    by_cases h5 : 65536 < xs.length
    · refine ⟨⟨h1, h2, h3, h4⟩, by omega, by simp [h1, h2, h3, h4, h5]⟩
    · simp [h1, h2, h3, h4, h5] at hno
  clear hno
  have hlt := World.block_lt_of_cell? w _ c0
  obtain ⟨da, dc, rfl, -⟩ := hv
  have hm0 : (w.alloc (.cells #[.int .i64 f, .int .i64 t, .slice da xs.length dc] 32)).cell? ⟨w.heap.size, 0, none⟩ = some (.int .i64 f) := by rw [World.cell?_alloc_at _ _ _ _ rfl]; rfl
  have hm1 : (w.alloc (.cells #[.int .i64 f, .int .i64 t, .slice da xs.length dc] 32)).cell? ⟨w.heap.size, 1, none⟩ = some (.int .i64 t) := by rw [World.cell?_alloc_at _ _ _ _ rfl]; rfl
  have hm2 : (w.alloc (.cells #[.int .i64 f, .int .i64 t, .slice da xs.length dc] 32)).cell? ⟨w.heap.size, 2, none⟩ = some (.slice da xs.length dc) := by rw [World.cell?_alloc_at _ _ _ _ rfl]; rfl
  have hal := (Below.refl w.heap.size w).alloc (Nat.le_refl _) (.cells #[.int .i64 f, .int .i64 t, .slice da xs.length dc] 32)
  have d0 := cell_later hal c0
  have HAL := Lib.hid hal
  clear hal c0
  rcases hway with ⟨k1, hc⟩ | ⟨⟨k1, k2⟩, hc⟩ | ⟨⟨k1, k2, k3⟩, hc⟩ | ⟨⟨k1, k2, k3, k4⟩, hc⟩ | ⟨⟨k1, k2, k3, k4⟩, hlen, hc⟩
  all_goals
    rw [hc]
    clear hc
    go_enter Try.func14, Try.ntmps14
    go_wp2_with fail
    generalize (w.alloc (.cells #[.int .i64 f, .int .i64 t, .slice da xs.length dc] 32)) = W at *
    refine region_m [(0, false), (1, false), (2, false), (3, false), (4, false), (5, false), (6, false), (7, false), (8, false), (9, false), (10, false), (11, false), (12, false), (13, false), (14, false), (15, false), (16, false), (17, false), (18, false), (19, false), (20, false), (21, false), (22, false), (23, false), (24, false), (25, false)] 26 (fun W => W.cell? ⟨pb, 0, none⟩ = some (.int .i64 N) ∧ W.cell? ⟨w.heap.size, 0, none⟩ = some (.int .i64 f) ∧ W.cell? ⟨w.heap.size, 1, none⟩ = some (.int .i64 t)) (by kernel_rfl) (by kernel_rfl) ⟨d0, hm0, hm1⟩ ?_
    iterate 26
      first
      | (refine m_take (v := ?_) rfl rfl ?_ ?_
         rotate_left
         · intro W hW
           go_simp
           with_reducible rfl
         simp only [Act.put, List.setIfInBounds_toArray, List.set_cons_zero, List.set_cons_succ])
      | (refine m_skip rfl rfl ?_
         simp only [Act.put, List.setIfInBounds_toArray, List.set_cons_zero, List.set_cons_succ])
    refine m_done ?_
    simp only [List.drop_succ_cons, List.drop_zero]
    go_wp2_with fail
    simp only [NP]
    go_wp2_with fail
    go_ret
    exact ⟨rfl, HAL.out.drew⟩
set_option maxHeartbeats 1000000 in
set_option maxRecDepth 100000 in
theorem rtwice_yes (pb : Nat) (N : Int) (rv : Value) (es : List Ent) (i : Nat) (w : World) (hp : Post w pb N rv es) (hi : i < es.length) (hn : es.length ≤ 100000) :
    Calls Try.prog 16 #[.pointer (some ⟨pb, 0, none⟩), .int .i64 i] w fun e w' => e = .returned (.int .i64 0) ∧ Grew w w' pb N rv es es[i].f es[i].t es[i].data := by
  have HP := Lib.hid hp
  have hlt := hp.lt
  have c1 := hp.c1
  obtain ⟨rb, rc, rfl, x0, x1, x2⟩ := own_at hp.own i hi
  have hbt := (hp.data es[i] (List.getElem_mem _)).bytes
  have hsm := hp.small es[i] (List.getElem_mem _)
  have hrb := World.ownsRow.lt hp.own rb rfl
  have hrb1 := hrb.1
  have hrb2 := hrb.2
  generalize hE : es[i] = E at *
  obtain ⟨f, t, dv, xs⟩ := E
  simp only at x0 x1 x2 hbt hsm ⊢
  have HE := Lib.hid hE
  have HV := Lib.hid hbt
  obtain ⟨da, dc, rfl, -⟩ := hbt
  clear hE hp hrb
  obtain ⟨w', hw'⟩ : ∃ w', w' = w := ⟨_, rfl⟩
  subst hw'
  have g1 : ¬ (i : Int) < 0 := by omega
  have g2 : ¬ (es.length : Int) ≤ i := by omega
  go_enter Try.func16, Try.ntmps16
  go_wp2_with fail
  refine region_m [(0, false), (1, false), (2, false), (3, false), (4, false), (5, false), (6, false), (7, false), (8, false), (9, false), (10, false), (11, false), (12, true), (13, true), (14, true)] 15 (fun W => W.cell? ⟨pb, 1, none⟩ = some (.slice (some ⟨rb, 0, none⟩) es.length rc) ∧ W.cell? ⟨rb, i * 3, none⟩ = some (.int .i64 f) ∧ W.cell? ⟨rb, i * 3 + 1, none⟩ = some (.int .i64 t) ∧ W.cell? ⟨rb, i * 3 + 2, none⟩ = some (.slice da xs.length dc)) (by kernel_rfl) (by kernel_rfl) ⟨c1, x0, x1, x2⟩ ?_
  iterate 12
    refine m_take (v := ?_) rfl rfl ?_ ?_
    rotate_left
    · intro W hW
      go_simp
      with_reducible rfl
    simp only [Act.put, List.setIfInBounds_toArray, List.set_cons_zero, List.set_cons_succ]
  refine m_loud rfl (fun K hK => ?_)
  have HK := Lib.hid hK
  clear hK
  go_simp
  refine (rown_calls f t _ xs _ (HV.out.below ((Below.refl w'.heap.size w').drew) (Nat.le_refl _)) (by omega)).mono ?_
  rintro e w2 ⟨dv', rfl, hm, hb⟩
  have hb : Below w'.heap.size w' w2 := ((Below.refl w'.heap.size w').drew).trans hb
  have HP2 := Lib.hid (HP.out.below hb)
  have d1' := cell_later hb c1
  have e0 := cell_later hb x0
  have e1 := cell_later hb x1
  have e2 := cell_later hb x2
  obtain ⟨va, vc, rfl⟩ := hm.slice
  have HM := Lib.hid hm
  have HB := Lib.hid hb
  refine HK.out _ _ ⟨d1', e0, e1, e2⟩ ?_
  clear HK
  clear hm hb x0 x1 x2 c1
  have hal3 := (Below.refl w2.heap.size w2).alloc (Nat.le_refl _) (.cells #[.int .i64 f, .int .i64 t, .slice va xs.length vc] 32)
  have f1 := cell_later hal3 d1'
  have f2 := cell_later hal3 e0
  have f3 := cell_later hal3 e1
  have f4 := cell_later hal3 e2
  have HP3 := Lib.hid (HP2.out.below hal3)
  have HM3 := Lib.hid ((HM.out.mono (by omega : pb + 1 ≤ w'.heap.size)).below hal3 (Nat.le_refl _))
  have HLIT := Lib.hid (Rd.lit (w := w2) (cs := #[.int .i64 f, .int .i64 t, .slice va xs.length vc]) (e := 32) (n := 1) (sz := 3) rfl (by omega))
  have hs3 : w'.heap.size ≤ w2.heap.size := HB.out.size
  have HB3 := Lib.hid (HB.out.trans (hal3.mono hs3))
  have hz3 : (w2.alloc (.cells #[.int .i64 f, .int .i64 t, .slice va xs.length vc] 32)).heap.size = w2.heap.size + 1 := by simp
  clear hal3
  refine m_loud rfl (fun K hK => ?_)
  have HK := Lib.hid hK
  clear hK
  go_simp
  refine HK.out _ _ ⟨f1, f2, f3, f4⟩ ?_
  clear HK
  clear d1' e0 e1 e2
  generalize (w2.alloc (.cells #[.int .i64 f, .int .i64 t, .slice va xs.length vc] 32)) = W3 at *
  refine m_app tyMails HP3.out.own HLIT.out (by simp [Value.oneCell']) (by omega) (by omega) (by omega) (by omega) rfl rfl rfl rfl rfl ?_
  intro g cap w4 h1 h2 h3 h4
  have hne : some pb ≠ (Value.slice (some ⟨rb, 0, none⟩) es.length rc).ownBlock := by
    intro e
    simp [Value.ownBlock] at e
    omega
  have k1 := h3.cell f1 hne
  have kz : w4.frozen? ⟨pb, 1, none⟩ = false := (World.frozen?_of_block (a := ⟨pb, 1, none⟩) (h3.block pb (by have := HP3.out.lt; omega) hne)).trans HP3.out.fz
  obtain ⟨gg, cc, hgc, y0, y1, y2⟩ := own_at h2 i hi
  simp only [Value.slice.injEq, Option.some.injEq, Addr.mk.injEq, and_true, true_and] at hgc
  obtain ⟨rfl, rfl⟩ := hgc
  rw [HE.out] at y0 y1 y2
  refine ⟨⟨k1, y0, y1, ?_⟩, ?_⟩
  · exact y2
  refine m_done ?_
  simp only [List.drop_succ_cons, List.drop_zero]
  have HPU := Lib.hid (HP3.out.push ⟨f, t, .slice va xs.length vc, xs⟩ HM3.out hsm h1 h3)
  have HON := Lib.hid (((Only.of_below (S := fun j => j = pb ∨ (Value.slice (some ⟨rb, 0, none⟩) es.length rc).ownBlock = some j) HB3.out).trans (Only.of_grown h3) (fun j _ e => .inr e)).setCell ⟨pb, 1, none⟩ (.slice (some ⟨g, 0, none⟩) (es.length + 1) cap) (.inl (.inl rfl)))
  have HGB : Hid (Value.ownBlock (.slice (some ⟨g, 0, none⟩) (es.length + 1) cap) = (Value.slice (some ⟨rb, 0, none⟩) es.length rc).ownBlock ∨ ∃ k, Value.ownBlock (.slice (some ⟨g, 0, none⟩) (es.length + 1) cap) = some k ∧ w'.heap.size ≤ k) := Lib.hid (by
    rcases h4 with ⟨k, c, e, -⟩ | h4
    · left; rw [e]; rfl
    · right; exact ⟨g, rfl, by omega⟩)
  have HDV := Lib.hid (fun k (hk : (Value.slice va xs.length vc).ownBlock = some k) => (World.ownsRow.lt HM.out k hk).1)
  clear h1 h2 h3 h4 hne f1 f2 f3 f4 y0 y1 y2
  go_wp2_with fail
  simp only [NP]
  go_wp2_with fail
  go_ret
  exact ⟨rfl, ⟨_, _, HPU.out, HGB.out, HDV.out⟩, HON.out⟩

end Go.Proofs.Ytpmkepmnldkccaa
