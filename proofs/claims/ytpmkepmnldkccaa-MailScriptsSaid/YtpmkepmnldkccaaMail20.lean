/- Layer 5: the document's Spoil walked. -/
import Derived.Test.YtpmkepmnldkccaaMail19
namespace Go.Proofs.Ytpmkepmnldkccaa
open Go.RowKit Go.Shelf

/-- A byte of a message's data turned, and the message stored in its place. -/
theorem Post.turn2 {w2 : World} {w0 pb : Nat} {N : Int} {g rc d dc i at_ : Nat} {es : List Ent} {f t : Int} {xs : List UInt8} (b : UInt8) (h : Post w2 pb N (.slice (some ⟨g, 0, none⟩) es.length rc) es) (hi : i < es.length)
    (hold : ∀ e ∈ es, ∀ k, e.dv.ownBlock = some k → k < w0) (hg : g < w0) (hd : w0 ≤ d) (hm : Mine w2 (pb + 1) (.slice (some ⟨d, 0, none⟩) xs.length dc) xs) (hsm : xs.length ≤ 65536) :
    Post ((((w2.setCell ⟨d, at_, none⟩ (byteV b)).setCell ⟨g, i * 3, none⟩ (.int .i64 f)).setCell ⟨g, i * 3 + 1, none⟩ (.int .i64 t)).setCell ⟨g, i * 3 + 2, none⟩ (.slice (some ⟨d, 0, none⟩) xs.length dc)) pb N (.slice (some ⟨g, 0, none⟩) es.length rc)
      (es.set i ⟨f, t, .slice (some ⟨d, 0, none⟩) xs.length dc, xs.set at_ b⟩) := by
  have hgb := World.ownsRow.lt h.own g rfl
  have hdb := World.ownsRow.lt hm d rfl
  have onD : Only (fun j => j = d) w2 (w2.setCell ⟨d, at_, none⟩ (byteV b)) := (Only.refl (fun j => j = d) w2).setCell ⟨d, at_, none⟩ (byteV b) (.inl rfl)
  have o0 := ownsRow_only h.own onD (fun k hk e => by simp only [Value.ownBlock, Option.some.injEq] at hk; omega)
  have o1 := World.ownsRow.stored o0 (i * 3) (.int .i64 f)
  have o2 := World.ownsRow.stored o1.1 (i * 3 + 1) (.int .i64 t)
  have o3 := World.ownsRow.stored o2.1 (i * 3 + 2) (.slice (some ⟨d, 0, none⟩) xs.length dc)
  have on3 : Only (fun j => j = g) (w2.setCell ⟨d, at_, none⟩ (byteV b)) ((((w2.setCell ⟨d, at_, none⟩ (byteV b)).setCell ⟨g, i * 3, none⟩ (.int .i64 f)).setCell ⟨g, i * 3 + 1, none⟩ (.int .i64 t)).setCell ⟨g, i * 3 + 2, none⟩ (.slice (some ⟨d, 0, none⟩) xs.length dc)) :=
    (((Only.refl (fun j => j = g) _).setCell ⟨g, i * 3, none⟩ (.int .i64 f) (.inl rfl)).setCell ⟨g, i * 3 + 1, none⟩ (.int .i64 t) (.inl rfl)).setCell ⟨g, i * 3 + 2, none⟩ (.slice (some ⟨d, 0, none⟩) xs.length dc) (.inl rfl)
  have on4 := (onD.weak (T := fun j => j = g ∨ j = d) (fun _ _ h => .inr h)).trans on3 (fun j _ h => .inl h)
  have hm4 := ownsRow_only (World.ownsRow.stored hm at_ (byteV b)).1 on3 (fun k hk e => by simp only [Value.ownBlock, Option.some.injEq] at hk; omega)
  refine ⟨on4.cell (by omega) h.c0, on4.cell (by omega) h.c1, (on4.frozen h.lt (by omega)).trans h.fz, ?_, fun e he => ?_, fun e he => ?_⟩
  · rw [List.length_set, flat_set es i hi]
    exact o3.1
  · rcases List.mem_or_eq_of_mem_set he with he | rfl
    · refine ownsRow_only (h.data e he) on4 (fun k hk e2 => ?_)
      rcases e2 with e2 | e2
      · subst e2
        exact own_apart h.own (h.data e he) (by decide) k rfl hk
      · have := hold e he k hk
        omega
    · unfold Mine
      simp only [List.length_set]
      rw [bvs_set]
      exact hm4
  · rcases List.mem_or_eq_of_mem_set he with he | rfl
    · exact h.small e he
    · simp only [List.length_set]
      exact hsm

theorem rspoil_none (pb n c : Nat) (a : Option Addr) (i at_ t : Int) (w : World) (hc : w.cell? ⟨pb, 1, none⟩ = some (.slice a n c)) (hi : i < 0 ∨ (n : Int) ≤ i) :
    Calls Try.prog 18 #[.pointer (some ⟨pb, 0, none⟩), .int .i64 i, .int .i64 at_, .int .u8 t] w fun e w' => e = .returned (.int .i64 7) ∧ w' = w := by
  rcases hi with h | h
  · go_enter Try.func18, Try.ntmps18
    go_wp2_with fail
    go_ret
    exact ⟨rfl, rfl⟩
  · have g1 : ¬ i < 0 := by omega
    go_enter Try.func18, Try.ntmps18
    go_wp2_with fail
    go_ret
    exact ⟨rfl, rfl⟩

theorem rspoil_range (pb : Nat) (N : Int) (rv : Value) (es : List Ent) (i : Nat) (at_ t : Int) (w : World) (hp : Post w pb N rv es) (hi : i < es.length) (ha : at_ < 0 ∨ (es[i].data.length : Int) ≤ at_) :
    Calls Try.prog 18 #[.pointer (some ⟨pb, 0, none⟩), .int .i64 i, .int .i64 at_, .int .u8 t] w fun e w' => e = .returned (.int .i64 8) ∧ w' = w := by
  have c1 := hp.c1
  obtain ⟨rb, rc, rfl, x0, x1, x2⟩ := own_at hp.own i hi
  obtain ⟨da, dc, hdv⟩ := (hp.data es[i] (List.getElem_mem _)).slice
  rw [hdv] at x2
  clear hp hdv
  generalize es[i].data.length = L at *
  have g1 : ¬ (i : Int) < 0 := by omega
  have g2 : ¬ (es.length : Int) ≤ i := by omega
  rcases ha with h | h
  · go_enter Try.func18, Try.ntmps18
    go_wp2_with fail
    go_ret
    exact ⟨rfl, rfl⟩
  · have g3 : ¬ at_ < 0 := by omega
    go_enter Try.func18, Try.ntmps18
    go_wp2_with fail
    go_ret
    exact ⟨rfl, rfl⟩

set_option maxHeartbeats 2000000 in
set_option maxRecDepth 100000 in
theorem rspoil_yes (pb : Nat) (N : Int) (rv : Value) (es : List Ent) (i at_ : Nat) (tu : Int) (w : World) (hp : Post w pb N rv es) (hi : i < es.length) (ha : at_ < es[i].data.length) (ht : 0 ≤ tu ∧ tu < 256) :
    Calls Try.prog 18 #[.pointer (some ⟨pb, 0, none⟩), .int .i64 i, .int .i64 at_, .int .u8 tu] w fun e w' => e = .returned (.int .i64 0) ∧ ∃ dv', Post w' pb N rv (es.set i (es[i].turned at_ tu dv')) ∧ (∀ k, dv'.ownBlock = some k → w.heap.size ≤ k) ∧ Only (fun j => rv.ownBlock = some j) w w' := by
  have HP := Lib.hid hp
  have hlt := hp.lt
  have c1 := hp.c1
  obtain ⟨rb, rc, rfl, x0, x1, x2⟩ := own_at hp.own i hi
  have hbt := (hp.data es[i] (List.getElem_mem _)).bytes
  have hsm := hp.small es[i] (List.getElem_mem _)
  have hfz : ∀ o, w.frozen? ⟨rb, o, none⟩ = false := fun o => World.ownsRow.frozenAt hp.own o
  have hrb := World.ownsRow.lt hp.own rb rfl
  have hrb1 := hrb.1
  have hrb2 := hrb.2
  generalize hE : es[i] = E at *
  obtain ⟨f, t, dv, xs⟩ := E
  simp only at x0 x1 x2 hbt hsm ha ⊢
  have HE := Lib.hid hE
  have HV := Lib.hid hbt
  have HFZ := Lib.hid hfz
  obtain ⟨da, dc, rfl, -⟩ := hbt
  clear hE hp hrb hfz
  have g1 : decide ((at_ : Int) < 0) = false := decide_eq_false (by omega)
  have g2 : decide ((xs.length : Int) ≤ (at_ : Int)) = false := decide_eq_false (by omega)
  have g3 : decide (xs.length ≤ at_) = false := decide_eq_false (by omega)
  have g4 : decide ((i : Int) < 0) = false := decide_eq_false (by omega)
  have g5 : decide ((es.length : Int) ≤ (i : Int)) = false := decide_eq_false (by omega)
  have g6 : decide (es.length ≤ i) = false := decide_eq_false (by omega)
  go_enter Try.func18, Try.ntmps18
  go_wp2_with fail
  refine (rown_calls f t _ xs _ HV.out (by omega)).mono ?_
  rintro e w2 ⟨dv', rfl, hm, hb⟩
  have hm' := hm
  obtain ⟨m, hL⟩ : ∃ m, xs.length = m + 1 := ⟨xs.length - 1, by omega⟩
  unfold Mine at hm'
  rw [hL] at hm'
  obtain ⟨d, vc, hvv, hd1, hd2, -, -⟩ := own_succ hm'
  rw [← hL] at hvv
  subst hvv
  obtain ⟨Y, hY⟩ : ∃ Y, Y = w2.alloc (.cells #[.int .i64 f, .int .i64 t, .slice (some ⟨d, 0, none⟩) xs.length vc] 32) := ⟨_, rfl⟩
  have hbY : Below w2.heap.size w2 Y := by rw [hY]; exact (Below.refl _ _).alloc (Nat.le_refl _) _
  have b0 : Y.cell? ⟨w2.heap.size, 0, none⟩ = some (.int .i64 f) := by rw [hY, World.cell?_alloc_at _ _ _ _ rfl]; rfl
  have b1 : Y.cell? ⟨w2.heap.size, 1, none⟩ = some (.int .i64 t) := by rw [hY, World.cell?_alloc_at _ _ _ _ rfl]; rfl
  have b2 : Y.cell? ⟨w2.heap.size, 2, none⟩ = some (.slice (some ⟨d, 0, none⟩) xs.length vc) := by rw [hY, World.cell?_alloc_at _ _ _ _ rfl]; rfl
  have hb3 := hb.trans (hbY.mono hb.size)
  have HP2 := Lib.hid (HP.out.below hb3)
  have d1' := cell_later hb3 c1
  have e0 := cell_later hb3 x0
  have e1 := cell_later hb3 x1
  have e2 := cell_later hb3 x2
  have hfz2 : ∀ o, Y.frozen? ⟨rb, o, none⟩ = false := fun o => (World.frozen?_of_block (a := ⟨rb, o, none⟩) (hb3.block rb hrb2)).trans (HFZ.out o)
  have HM := Lib.hid (hm.below hbY (Nat.le_refl _))
  have HB := Lib.hid hb3
  subst hY
  have m0 := World.ownsRow.cells HM.out rfl at_ (byteV (xs[at_]'ha)) (by rw [bvs, List.getElem?_map, List.getElem?_eq_getElem ha]; rfl)
  rw [add_off, Nat.zero_add] at m0
  dsimp only at m0
  have mz := World.ownsRow.frozenAt HM.out at_
  unfold byteV at m0
  have hdr : rb ≠ d := by omega
  have hdw : d ≠ w2.heap.size := by omega
  clear hm hm' hb x0 x1 x2 c1 hL hbY hb3
  go_wp2_with fail
  obtain ⟨Y, hY⟩ : ∃ Y, Y = w2.alloc (.cells #[.int .i64 f, .int .i64 t, .slice (some ⟨d, 0, none⟩) xs.length vc] 32) := ⟨_, rfl⟩
  rw [← hY] at b0 b1 b2 HP2 d1' e0 e1 e2 hfz2 HM HB m0 mz ⊢
  clear hY
  refine region_m [(0, false), (1, false), (2, false), (3, false), (4, false), (5, false), (6, false), (7, false), (8, false), (9, false), (10, false)] 11 (fun W => W.cell? ⟨w2.heap.size, 2, none⟩ = some (.slice (some ⟨d, 0, none⟩) xs.length vc) ∧ W.cell? ⟨d, at_, none⟩ = some (.int .u8 ((xs[at_]'ha).toNat : Int))) (by kernel_rfl) (by kernel_rfl) ⟨b2, m0⟩ ?_
  iterate 11
    refine m_take (v := ?_) rfl rfl ?_ ?_
    rotate_left
    · intro W hW
      go_simp
      with_reducible rfl
    simp only [Act.put, List.setIfInBounds_toArray, List.set_cons_zero, List.set_cons_succ]
  refine m_done ?_
  simp only [List.drop_succ_cons, List.drop_zero]
  go_wp2_with fail
  simp only [NP]
  go_wp2_with fail
  have n1 := fun u => (cell_set_block (w := Y.drew) (b := d) (o := at_) (c := pb) (p := 1) u (by omega)).trans d1'
  have n2 := fun u => (cell_set_block (w := Y.drew) (b := d) (o := at_) (c := w2.heap.size) (p := 0) u (by omega)).trans b0
  have n3 := fun u => (cell_set_block (w := Y.drew) (b := d) (o := at_) (c := w2.heap.size) (p := 1) u (by omega)).trans b1
  have n4 := fun u => (cell_set_block (w := Y.drew) (b := d) (o := at_) (c := w2.heap.size) (p := 2) u (by omega)).trans b2
  have n5 := fun u => (cell_set_block (w := Y.drew) (b := d) (o := at_) (c := rb) (p := i * 3) u (by omega)).trans e0
  have n6 := fun u => (cell_set_block (w := Y.drew) (b := d) (o := at_) (c := rb) (p := i * 3 + 1) u (by omega)).trans e1
  have n7 := fun u => (cell_set_block (w := Y.drew) (b := d) (o := at_) (c := rb) (p := i * 3 + 2) u (by omega)).trans e2
  refine region_m [(0, false), (1, false), (2, false), (3, false), (4, false), (5, false), (6, false)] 7 (fun W => W.cell? ⟨pb, 1, none⟩ = some (.slice (some ⟨rb, 0, none⟩) es.length rc) ∧ W.cell? ⟨w2.heap.size, 0, none⟩ = some (.int .i64 f) ∧ W.cell? ⟨w2.heap.size, 1, none⟩ = some (.int .i64 t) ∧ W.cell? ⟨w2.heap.size, 2, none⟩ = some (.slice (some ⟨d, 0, none⟩) xs.length vc)) (by kernel_rfl) (by kernel_rfl) ⟨n1 _, n2 _, n3 _, n4 _⟩ ?_
  iterate 7
    refine m_take (v := ?_) rfl rfl ?_ ?_
    rotate_left
    · intro W hW
      go_simp
      with_reducible rfl
    simp only [Act.put, List.setIfInBounds_toArray, List.set_cons_zero, List.set_cons_succ]
  refine m_done ?_
  simp only [List.drop_succ_cons, List.drop_zero]
  go_wp2_with fail
  simp only [NP]
  go_wp2_with fail
  go_ret
  have hget : xs.getD at_ 0 = xs[at_]'ha := by simp [List.getD, List.getElem?_eq_getElem ha]
  have hPT := Post.turn2 (w0 := w.heap.size) (at_ := at_) (f := f) (t := t) (turnB (xs[at_]'ha) tu) HP2.out hi (fun e he k hk => (World.ownsRow.lt (HP.out.data e he) k hk).2) hrb2 hd1 (HM.out.mono (show pb + 1 ≤ w.heap.size by omega)) hsm
  rw [turn_val _ _ ht]
  unfold Ent.turned
  simp only
  rw [hget]
  refine ⟨rfl, _, hPT.drew.drew, fun k hk => ?_, ?_⟩
  · simp only [Value.ownBlock, Option.some.injEq] at hk
    omega
  · exact (((((Only.of_below (S := fun j => (Value.slice (some ⟨rb, 0, none⟩) es.length rc).ownBlock = some j) HB.out).setCell ⟨d, at_, none⟩ _ (.inr hd1)).setCell ⟨rb, i * 3, none⟩ _ (.inl rfl)).setCell ⟨rb, i * 3 + 1, none⟩ _ (.inl rfl)).setCell ⟨rb, i * 3 + 2, none⟩ _ (.inl rfl)).drew.drew
end Go.Proofs.Ytpmkepmnldkccaa
