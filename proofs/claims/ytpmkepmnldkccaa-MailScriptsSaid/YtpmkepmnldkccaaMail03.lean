/- Layer 5: Send, Twice, Take walked. -/
import Derived.Test.YtpmkepmnldkccaaMail02
namespace Go.Proofs.Ytpmkepmnldkccaa
open Go.RowKit

/-- What Send answers. -/
def sendCode (N f t : Int) (xs : List UInt8) : Int := if f < 0 ∨ N ≤ f ∨ t < 0 ∨ N ≤ t then 1 else if 65536 < xs.length then 2 else 0

/-- What the post is behind a message more. -/
structure Grew (w w' : World) (pb : Nat) (N : Int) (rv : Value) (es : List Ent) (f t : Int) (xs : List UInt8) : Prop where
  more : ∃ rv' dv', Post w' pb N rv' (es ++ [⟨f, t, dv', xs⟩]) ∧ (rv'.ownBlock = rv.ownBlock ∨ ∃ g, rv'.ownBlock = some g ∧ w.heap.size ≤ g) ∧ (∀ g, dv'.ownBlock = some g → w.heap.size ≤ g)
  frame : Only (fun j => j = pb ∨ rv.ownBlock = some j) w w'

set_option maxHeartbeats 1000000 in
set_option maxRecDepth 100000 in
theorem send_yes (pb : Nat) (N : Int) (rv : Value) (es : List Ent) (f t : Int) (dv : Value) (xs : List UInt8) (w : World) (hp : Post w pb N rv es) (hv : Bytes w dv xs) (hn : es.length ≤ 100000) (hx : xs.length ≤ 65536) (hf : 0 ≤ f ∧ f < N) (ht : 0 ≤ t ∧ t < N) :
    Calls Try.prog 9 #[.pointer (some ⟨pb, 0, none⟩), .agg #[.int .i64 f, .int .i64 t, dv]] w fun e w' => e = .returned (.int .i64 0) ∧ Grew w w' pb N rv es f t xs := by
  obtain ⟨hf1, hf2⟩ := hf
  obtain ⟨ht1, ht2⟩ := ht
  have g1 : ¬ f < 0 := by omega
  have g2 : ¬ N ≤ f := by omega
  have g3 : ¬ t < 0 := by omega
  have g4 : ¬ N ≤ t := by omega
  have HP := Lib.hid hp
  have HV := Lib.hid hv
  have hlt := hp.lt
  have c0 := hp.c0
  have c1 := hp.c1
  obtain ⟨da, dc, rfl, -⟩ := hv
  obtain ⟨ra, rc, rfl⟩ := hp.slice
  have hm0 : (w.alloc (.cells #[.int .i64 f, .int .i64 t, .slice da xs.length dc] 32)).cell? ⟨w.heap.size, 0, none⟩ = some (.int .i64 f) := by rw [World.cell?_alloc_at _ _ _ _ rfl]; rfl
  have hm1 : (w.alloc (.cells #[.int .i64 f, .int .i64 t, .slice da xs.length dc] 32)).cell? ⟨w.heap.size, 1, none⟩ = some (.int .i64 t) := by rw [World.cell?_alloc_at _ _ _ _ rfl]; rfl
  have hm2 : (w.alloc (.cells #[.int .i64 f, .int .i64 t, .slice da xs.length dc] 32)).cell? ⟨w.heap.size, 2, none⟩ = some (.slice da xs.length dc) := by rw [World.cell?_alloc_at _ _ _ _ rfl]; rfl
  have hal := (Below.refl w.heap.size w).alloc (Nat.le_refl _) (.cells #[.int .i64 f, .int .i64 t, .slice da xs.length dc] 32)
  have d0 := cell_later hal c0
  have d1 := cell_later hal c1
  have HP1 := Lib.hid (hp.below hal)
  have HV1 := Lib.hid (HV.out.below hal (Nat.le_refl _))
  have HAL := Lib.hid hal
  clear hp hal c0 c1
  go_enter Try.func9, Try.ntmps9
  go_wp2_with fail
  generalize (w.alloc (.cells #[.int .i64 f, .int .i64 t, .slice da xs.length dc] 32)) = W at *
  have k1 : decide (f < 0) = false := decide_eq_false (by omega)
  have k2 : decide (N ≤ f) = false := decide_eq_false (by omega)
  have k3 : decide (t < 0) = false := decide_eq_false (by omega)
  have k4 : decide (N ≤ t) = false := decide_eq_false (by omega)
  refine region_m [(0, false), (1, false), (2, false), (3, false), (4, false), (5, false), (6, false), (7, false), (8, false), (9, false), (10, false), (11, false), (12, false), (13, false), (14, false), (15, false), (16, false), (17, false), (18, false), (19, false), (20, false), (21, false), (22, false), (23, false), (24, false), (25, false)] 26 (fun W => W.cell? ⟨pb, 0, none⟩ = some (.int .i64 N) ∧ W.cell? ⟨w.heap.size, 0, none⟩ = some (.int .i64 f) ∧ W.cell? ⟨w.heap.size, 1, none⟩ = some (.int .i64 t)) (by kernel_rfl) (by kernel_rfl) ⟨d0, hm0, hm1⟩ ?_
  iterate 26
    first
    | (refine m_take (v := ?_) rfl rfl ?_ ?_
       rotate_left
       · intro W hW
         go_simp
         with_reducible rfl
       simp only [Act.put, List.setIfInBounds_toArray, List.set_cons_zero, List.set_cons_succ])
    | (refine m_skip rfl rfl ?_
       simp only [Act.put, List.setIfInBounds_toArray, List.set_cons_zero, List.set_cons_succ])
  refine m_done ?_
  simp only [List.drop_succ_cons, List.drop_zero]
  go_wp2_with fail
  simp only [NP]
  go_wp2_with fail
  have hWs : pb < w.heap.size := hlt
  have hal2 := HAL.out.size
  refine region_m [(0, false), (1, false), (2, false), (3, false), (4, false), (5, false), (6, true), (7, true), (8, true)] 9 (fun W => W.cell? ⟨pb, 1, none⟩ = some (.slice ra es.length rc) ∧ W.cell? ⟨w.heap.size, 0, none⟩ = some (.int .i64 f) ∧ W.cell? ⟨w.heap.size, 1, none⟩ = some (.int .i64 t) ∧ W.cell? ⟨w.heap.size, 2, none⟩ = some (.slice da xs.length dc)) (by kernel_rfl) (by kernel_rfl) ⟨d1, hm0, hm1, hm2⟩ ?_
  iterate 6
    refine m_take (v := ?_) rfl rfl ?_ ?_
    rotate_left
    · intro W hW
      go_simp
      with_reducible rfl
    simp only [Act.put, List.setIfInBounds_toArray, List.set_cons_zero, List.set_cons_succ]
  refine m_loud rfl (fun K hK => ?_)
  have HK := Lib.hid hK
  clear hK
  go_simp
  refine (own_calls f t _ xs _ (HV1.out.below ((Below.refl W.heap.size W).drew.drew) (Nat.le_refl _)) (by omega)).mono ?_
  rintro e w2 ⟨dv', rfl, hm, hb⟩
  have hb : Below W.heap.size W w2 := ((Below.refl W.heap.size W).drew.drew).trans hb
  have HP2 := Lib.hid (HP1.out.below hb)
  have d1' := cell_later hb d1
  have e0 := cell_later hb hm0
  have e1 := cell_later hb hm1
  have e2 := cell_later hb hm2
  obtain ⟨va, vc, rfl⟩ := hm.slice
  have HM := Lib.hid hm
  have HB := Lib.hid hb
  refine HK.out _ _ ⟨d1', e0, e1, e2⟩ ?_
  clear HK
  clear hm hb hm0 hm1 hm2 d1 d0
  have hal3 := (Below.refl w2.heap.size w2).alloc (Nat.le_refl _) (.cells #[.int .i64 f, .int .i64 t, .slice va xs.length vc] 32)
  have f1 := cell_later hal3 d1'
  have f2 := cell_later hal3 e0
  have f3 := cell_later hal3 e1
  have f4 := cell_later hal3 e2
  have HP3 := Lib.hid (HP2.out.below hal3)
  have HM3 := Lib.hid ((HM.out.mono (by omega : pb + 1 ≤ W.heap.size)).below hal3 (Nat.le_refl _))
  have HLIT := Lib.hid (Rd.lit (w := w2) (cs := #[.int .i64 f, .int .i64 t, .slice va xs.length vc]) (e := 32) (n := 1) (sz := 3) rfl (by omega))
  have hs3 : W.heap.size ≤ w2.heap.size := HB.out.size
  have HB3 := Lib.hid (((HAL.out.mono (Nat.le_refl _)).trans (HB.out.mono hal2)).trans (hal3.mono (by omega)))
  have hz3 : (w2.alloc (.cells #[.int .i64 f, .int .i64 t, .slice va xs.length vc] 32)).heap.size = w2.heap.size + 1 := by simp
  clear hal3
  refine m_loud rfl (fun K hK => ?_)
  have HK := Lib.hid hK
  clear hK
  go_simp
  refine HK.out _ _ ⟨f1, f2, f3, f4⟩ ?_
  clear HK
  clear d1' e0 e1 e2
  generalize (w2.alloc (.cells #[.int .i64 f, .int .i64 t, .slice va xs.length vc] 32)) = W3 at *
  refine m_app tyMails HP3.out.own HLIT.out (by simp [Value.oneCell']) (by omega) (by omega) (by omega) (by omega) rfl rfl rfl rfl rfl ?_
  intro g cap w4 h1 h2 h3 h4
  have hrb : ∀ k, k < pb + 1 ∨ k = w.heap.size → some k ≠ (Value.slice ra es.length rc).ownBlock := by
    intro k hk e
    have h5 := World.ownsRow.lt HP3.out.own k e.symm
    have h6 := World.ownsRow.lt HP.out.own k e.symm
    omega
  refine ⟨⟨h3.cell f1 (hrb _ (.inl (by simp))), h3.cell f2 (hrb _ (.inr rfl)), h3.cell f3 (hrb _ (.inr rfl)), h3.cell f4 (hrb _ (.inr rfl))⟩, ?_⟩
  refine m_done ?_
  simp only [List.drop_succ_cons, List.drop_zero]
  have k1 := h3.cell f1 (hrb _ (.inl (by simp)))
  have hg := hrb pb (.inl (by omega))
  have kz : w4.frozen? ⟨pb, 1, none⟩ = false := (World.frozen?_of_block (a := ⟨pb, 1, none⟩) (h3.block pb (by have := HP3.out.lt; omega) hg)).trans HP3.out.fz
  have HPU := Lib.hid (HP3.out.push ⟨f, t, .slice va xs.length vc, xs⟩ HM3.out hx h1 h3)
  have HON := Lib.hid (((Only.of_below (S := fun j => j = pb ∨ (Value.slice ra es.length rc).ownBlock = some j) HB3.out).trans (Only.of_grown h3) (fun j _ e => .inr e)).setCell ⟨pb, 1, none⟩ (.slice (some ⟨g, 0, none⟩) (es.length + 1) cap) (.inl (.inl rfl)))
  have HGB : Hid (Value.ownBlock (.slice (some ⟨g, 0, none⟩) (es.length + 1) cap) = (Value.slice ra es.length rc).ownBlock ∨ ∃ k, Value.ownBlock (.slice (some ⟨g, 0, none⟩) (es.length + 1) cap) = some k ∧ w.heap.size ≤ k) := Lib.hid (by
    rcases h4 with ⟨k, c, e, -⟩ | h4
    · left; rw [e]; rfl
    · right; exact ⟨g, rfl, by omega⟩)
  have HDV := Lib.hid (fun k (hk : (Value.slice va xs.length vc).ownBlock = some k) => Nat.le_trans hal2 (World.ownsRow.lt HM.out k hk).1)
  clear h1 h2 h3 h4 hrb hg f1 f2 f3 f4
  go_wp2_with fail
  simp only [NP]
  go_wp2_with fail
  go_ret
  exact ⟨rfl, ⟨_, _, HPU.out, HGB.out, HDV.out⟩, HON.out⟩

theorem sendCode_yes {N f t : Int} {xs : List UInt8} (h : sendCode N f t xs = 0) : (0 ≤ f ∧ f < N) ∧ (0 ≤ t ∧ t < N) ∧ xs.length ≤ 65536 := by
  unfold sendCode at h
  split at h
  · omega
  · split at h
    · omega
    · omega

set_option maxHeartbeats 1000000 in
set_option maxRecDepth 100000 in
theorem send_no (pb : Nat) (N f t : Int) (dv : Value) (xs : List UInt8) (w : World) (c0 : w.cell? ⟨pb, 0, none⟩ = some (.int .i64 N)) (hv : Bytes w dv xs) (hno : sendCode N f t xs ≠ 0) :
    Calls Try.prog 9 #[.pointer (some ⟨pb, 0, none⟩), .agg #[.int .i64 f, .int .i64 t, dv]] w fun e w' => e = .returned (.int .i64 (sendCode N f t xs)) ∧ Below w.heap.size w w' := by
  have hway : (decide (f < 0) = true ∧ sendCode N f t xs = 1) ∨ ((decide (f < 0) = false ∧ decide (N ≤ f) = true) ∧ sendCode N f t xs = 1) ∨ ((decide (f < 0) = false ∧ decide (N ≤ f) = false ∧ decide (t < 0) = true) ∧ sendCode N f t xs = 1) ∨
      ((decide (f < 0) = false ∧ decide (N ≤ f) = false ∧ decide (t < 0) = false ∧ decide (N ≤ t) = true) ∧ sendCode N f t xs = 1) ∨ ((decide (f < 0) = false ∧ decide (N ≤ f) = false ∧ decide (t < 0) = false ∧ decide (N ≤ t) = false) ∧ 65536 < (xs.length : Int) ∧ sendCode N f t xs = 2) := by
    unfold sendCode at hno ⊢
    simp only [decide_eq_true_eq, decide_eq_false_iff_not]
    by_cases h1 : f < 0
    · left; simp [h1]
    by_cases h2 : N ≤ f
    · right; left; simp [h1, h2]
    by_cases h3 : t < 0
    · right; right; left; simp [h1, h2, h3]
    by_cases h4 : N ≤ t
    · right; right; right; left; simp [h1, h2, h3, h4]
    right; right; right; right
    by_cases h5 : 65536 < xs.length
    · refine ⟨⟨h1, h2, h3, h4⟩, by omega, by simp [h1, h2, h3, h4, h5]⟩
    · simp [h1, h2, h3, h4, h5] at hno
  clear hno
  have hlt := World.block_lt_of_cell? w _ c0
  obtain ⟨da, dc, rfl, -⟩ := hv
  have hm0 : (w.alloc (.cells #[.int .i64 f, .int .i64 t, .slice da xs.length dc] 32)).cell? ⟨w.heap.size, 0, none⟩ = some (.int .i64 f) := by rw [World.cell?_alloc_at _ _ _ _ rfl]; rfl
  have hm1 : (w.alloc (.cells #[.int .i64 f, .int .i64 t, .slice da xs.length dc] 32)).cell? ⟨w.heap.size, 1, none⟩ = some (.int .i64 t) := by rw [World.cell?_alloc_at _ _ _ _ rfl]; rfl
  have hm2 : (w.alloc (.cells #[.int .i64 f, .int .i64 t, .slice da xs.length dc] 32)).cell? ⟨w.heap.size, 2, none⟩ = some (.slice da xs.length dc) := by rw [World.cell?_alloc_at _ _ _ _ rfl]; rfl
  have hal := (Below.refl w.heap.size w).alloc (Nat.le_refl _) (.cells #[.int .i64 f, .int .i64 t, .slice da xs.length dc] 32)
  have d0 := cell_later hal c0
  have HAL := Lib.hid hal
  clear hal c0
  rcases hway with ⟨k1, hc⟩ | ⟨⟨k1, k2⟩, hc⟩ | ⟨⟨k1, k2, k3⟩, hc⟩ | ⟨⟨k1, k2, k3, k4⟩, hc⟩ | ⟨⟨k1, k2, k3, k4⟩, hlen, hc⟩
  all_goals
    rw [hc]
    clear hc
    go_enter Try.func9, Try.ntmps9
    go_wp2_with fail
    generalize (w.alloc (.cells #[.int .i64 f, .int .i64 t, .slice da xs.length dc] 32)) = W at *
    refine region_m [(0, false), (1, false), (2, false), (3, false), (4, false), (5, false), (6, false), (7, false), (8, false), (9, false), (10, false), (11, false), (12, false), (13, false), (14, false), (15, false), (16, false), (17, false), (18, false), (19, false), (20, false), (21, false), (22, false), (23, false), (24, false), (25, false)] 26 (fun W => W.cell? ⟨pb, 0, none⟩ = some (.int .i64 N) ∧ W.cell? ⟨w.heap.size, 0, none⟩ = some (.int .i64 f) ∧ W.cell? ⟨w.heap.size, 1, none⟩ = some (.int .i64 t)) (by kernel_rfl) (by kernel_rfl) ⟨d0, hm0, hm1⟩ ?_
    iterate 26
      first
      | (refine m_take (v := ?_) rfl rfl ?_ ?_
         rotate_left
         · intro W hW
           go_simp
           with_reducible rfl
         simp only [Act.put, List.setIfInBounds_toArray, List.set_cons_zero, List.set_cons_succ])
      | (refine m_skip rfl rfl ?_
         simp only [Act.put, List.setIfInBounds_toArray, List.set_cons_zero, List.set_cons_succ])
    refine m_done ?_
    simp only [List.drop_succ_cons, List.drop_zero]
    go_wp2_with fail
    simp only [NP]
    go_wp2_with fail
    go_ret
    exact ⟨rfl, HAL.out.drew⟩
end Go.Proofs.Ytpmkepmnldkccaa
