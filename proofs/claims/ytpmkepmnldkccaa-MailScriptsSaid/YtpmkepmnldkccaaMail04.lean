/- Layer 5: Twice, Take walked. -/
import Derived.Test.YtpmkepmnldkccaaMail03
namespace Go.Proofs.Ytpmkepmnldkccaa
open Go.RowKit

set_option maxHeartbeats 1000000 in
set_option maxRecDepth 100000 in
theorem twice_yes (pb : Nat) (N : Int) (rv : Value) (es : List Ent) (i : Nat) (w : World) (hp : Post w pb N rv es) (hi : i < es.length) (hn : es.length ≤ 100000) :
    Calls Try.prog 10 #[.pointer (some ⟨pb, 0, none⟩), .int .i64 i] w fun e w' => e = .returned (.int .i64 0) ∧ Grew w w' pb N rv es es[i].f es[i].t es[i].data := by
  have HP := Lib.hid hp
  have hlt := hp.lt
  have c1 := hp.c1
  obtain ⟨rb, rc, rfl, x0, x1, x2⟩ := own_at hp.own i hi
  have hbt := (hp.data es[i] (List.getElem_mem _)).bytes
  have hsm := hp.small es[i] (List.getElem_mem _)
  have hrb := World.ownsRow.lt hp.own rb rfl
  have hrb1 := hrb.1
  have hrb2 := hrb.2
  generalize hE : es[i] = E at *
  obtain ⟨f, t, dv, xs⟩ := E
  simp only at x0 x1 x2 hbt hsm ⊢
  have HE := Lib.hid hE
  have HV := Lib.hid hbt
  obtain ⟨da, dc, rfl, -⟩ := hbt
  clear hE hp hrb
  go_enter Try.func10, Try.ntmps10
  go_wp2_with fail
  refine (there_yes pb es.length rc _ i _ c1 hi).mono ?_
  rintro e w' ⟨rfl, rfl⟩
  go_wp2_with fail
  refine region_m [(0, false), (1, false), (2, false), (3, false), (4, false), (5, false), (6, false), (7, false), (8, false), (9, false), (10, false), (11, false), (12, true), (13, true), (14, true)] 15 (fun W => W.cell? ⟨pb, 1, none⟩ = some (.slice (some ⟨rb, 0, none⟩) es.length rc) ∧ W.cell? ⟨rb, i * 3, none⟩ = some (.int .i64 f) ∧ W.cell? ⟨rb, i * 3 + 1, none⟩ = some (.int .i64 t) ∧ W.cell? ⟨rb, i * 3 + 2, none⟩ = some (.slice da xs.length dc)) (by kernel_rfl) (by kernel_rfl) ⟨c1, x0, x1, x2⟩ ?_
  iterate 12
    refine m_take (v := ?_) rfl rfl ?_ ?_
    rotate_left
    · intro W hW
      go_simp
      with_reducible rfl
    simp only [Act.put, List.setIfInBounds_toArray, List.set_cons_zero, List.set_cons_succ]
  refine m_loud rfl (fun K hK => ?_)
  have HK := Lib.hid hK
  clear hK
  go_simp
  refine (own_calls f t _ xs _ (HV.out.below ((Below.refl w'.heap.size w').drew) (Nat.le_refl _)) (by omega)).mono ?_
  rintro e w2 ⟨dv', rfl, hm, hb⟩
  have hb : Below w'.heap.size w' w2 := ((Below.refl w'.heap.size w').drew).trans hb
  have HP2 := Lib.hid (HP.out.below hb)
  have d1' := cell_later hb c1
  have e0 := cell_later hb x0
  have e1 := cell_later hb x1
  have e2 := cell_later hb x2
  obtain ⟨va, vc, rfl⟩ := hm.slice
  have HM := Lib.hid hm
  have HB := Lib.hid hb
  refine HK.out _ _ ⟨d1', e0, e1, e2⟩ ?_
  clear HK
  clear hm hb x0 x1 x2 c1
  have hal3 := (Below.refl w2.heap.size w2).alloc (Nat.le_refl _) (.cells #[.int .i64 f, .int .i64 t, .slice va xs.length vc] 32)
  have f1 := cell_later hal3 d1'
  have f2 := cell_later hal3 e0
  have f3 := cell_later hal3 e1
  have f4 := cell_later hal3 e2
  have HP3 := Lib.hid (HP2.out.below hal3)
  have HM3 := Lib.hid ((HM.out.mono (by omega : pb + 1 ≤ w'.heap.size)).below hal3 (Nat.le_refl _))
  have HLIT := Lib.hid (Rd.lit (w := w2) (cs := #[.int .i64 f, .int .i64 t, .slice va xs.length vc]) (e := 32) (n := 1) (sz := 3) rfl (by omega))
  have hs3 : w'.heap.size ≤ w2.heap.size := HB.out.size
  have HB3 := Lib.hid (HB.out.trans (hal3.mono hs3))
  have hz3 : (w2.alloc (.cells #[.int .i64 f, .int .i64 t, .slice va xs.length vc] 32)).heap.size = w2.heap.size + 1 := by simp
  clear hal3
  refine m_loud rfl (fun K hK => ?_)
  have HK := Lib.hid hK
  clear hK
  go_simp
  refine HK.out _ _ ⟨f1, f2, f3, f4⟩ ?_
  clear HK
  clear d1' e0 e1 e2
  generalize (w2.alloc (.cells #[.int .i64 f, .int .i64 t, .slice va xs.length vc] 32)) = W3 at *
  refine m_app tyMails HP3.out.own HLIT.out (by simp [Value.oneCell']) (by omega) (by omega) (by omega) (by omega) rfl rfl rfl rfl rfl ?_
  intro g cap w4 h1 h2 h3 h4
  have hne : some pb ≠ (Value.slice (some ⟨rb, 0, none⟩) es.length rc).ownBlock := by
    intro e
    simp [Value.ownBlock] at e
    omega
  have k1 := h3.cell f1 hne
  have kz : w4.frozen? ⟨pb, 1, none⟩ = false := (World.frozen?_of_block (a := ⟨pb, 1, none⟩) (h3.block pb (by have := HP3.out.lt; omega) hne)).trans HP3.out.fz
  obtain ⟨gg, cc, hgc, y0, y1, y2⟩ := own_at h2 i hi
  simp only [Value.slice.injEq, Option.some.injEq, Addr.mk.injEq, and_true, true_and] at hgc
  obtain ⟨rfl, rfl⟩ := hgc
  rw [HE.out] at y0 y1 y2
  refine ⟨⟨k1, y0, y1, ?_⟩, ?_⟩
  · exact y2
  refine m_done ?_
  simp only [List.drop_succ_cons, List.drop_zero]
  have HPU := Lib.hid (HP3.out.push ⟨f, t, .slice va xs.length vc, xs⟩ HM3.out hsm h1 h3)
  have HON := Lib.hid (((Only.of_below (S := fun j => j = pb ∨ (Value.slice (some ⟨rb, 0, none⟩) es.length rc).ownBlock = some j) HB3.out).trans (Only.of_grown h3) (fun j _ e => .inr e)).setCell ⟨pb, 1, none⟩ (.slice (some ⟨g, 0, none⟩) (es.length + 1) cap) (.inl (.inl rfl)))
  have HGB : Hid (Value.ownBlock (.slice (some ⟨g, 0, none⟩) (es.length + 1) cap) = (Value.slice (some ⟨rb, 0, none⟩) es.length rc).ownBlock ∨ ∃ k, Value.ownBlock (.slice (some ⟨g, 0, none⟩) (es.length + 1) cap) = some k ∧ w'.heap.size ≤ k) := Lib.hid (by
    rcases h4 with ⟨k, c, e, -⟩ | h4
    · left; rw [e]; rfl
    · right; exact ⟨g, rfl, by omega⟩)
  have HDV := Lib.hid (fun k (hk : (Value.slice va xs.length vc).ownBlock = some k) => (World.ownsRow.lt HM.out k hk).1)
  clear h1 h2 h3 h4 hne f1 f2 f3 f4 y0 y1 y2
  go_wp2_with fail
  simp only [NP]
  go_wp2_with fail
  go_ret
  exact ⟨rfl, ⟨_, _, HPU.out, HGB.out, HDV.out⟩, HON.out⟩

theorem twice_no (pb n c : Nat) (a : Option Addr) (i : Int) (w : World) (hc : w.cell? ⟨pb, 1, none⟩ = some (.slice a n c)) (hi : i < 0 ∨ (n : Int) ≤ i) :
    Calls Try.prog 10 #[.pointer (some ⟨pb, 0, none⟩), .int .i64 i] w fun e w' => e = .returned (.int .i64 7) ∧ w' = w := by
  go_enter Try.func10, Try.ntmps10
  go_wp2_with (go_at_call 28; refine (there_no pb n c a i _ hc hi).mono ?_; rintro e w' ⟨rfl, rfl⟩)
  go_ret
  exact ⟨rfl, rfl⟩

theorem two_boxes (w : World) (T : TypeId) (a0 a1 a2 b0 b1 b2 : Value) (X : World) (hX : X = (w.alloc (.cells #[a0, a1, a2] T)).alloc (.cells #[b0, b1, b2] T)) :
    X.heap.size = w.heap.size + 2 ∧ (X.cell? ⟨w.heap.size, 0, none⟩ = some a0 ∧ X.cell? ⟨w.heap.size, 1, none⟩ = some a1 ∧ X.cell? ⟨w.heap.size, 2, none⟩ = some a2) ∧
    (X.cell? ⟨w.heap.size + 1, 0, none⟩ = some b0 ∧ X.cell? ⟨w.heap.size + 1, 1, none⟩ = some b1 ∧ X.cell? ⟨w.heap.size + 1, 2, none⟩ = some b2) ∧
    (∀ o, X.frozen? ⟨w.heap.size, o, none⟩ = false) ∧ Below w.heap.size w X := by
  subst hX
  refine ⟨by simp, ⟨?_, ?_, ?_⟩, ⟨?_, ?_, ?_⟩, fun o => ?_, ((Below.refl w.heap.size w).alloc (Nat.le_refl _) _).alloc (by simp) _⟩
  · rw [World.cell?_alloc_past _ _ _ (by simp), World.cell?_alloc_at _ _ _ _ rfl]; rfl
  · rw [World.cell?_alloc_past _ _ _ (by simp), World.cell?_alloc_at _ _ _ _ rfl]; rfl
  · rw [World.cell?_alloc_past _ _ _ (by simp), World.cell?_alloc_at _ _ _ _ rfl]; rfl
  · rw [World.cell?_alloc_at _ _ _ _ (by simp)]; rfl
  · rw [World.cell?_alloc_at _ _ _ _ (by simp)]; rfl
  · rw [World.cell?_alloc_at _ _ _ _ (by simp)]; rfl
  · rw [World.frozen?_alloc_past _ _ _ (by simp), World.frozen?_alloc_at _ _ _ _ rfl]

theorem Mine.set' {w : World} {base : Nat} {v : Value} {xs : List UInt8} {B : Nat} (h : Mine w base v xs) (a : Addr) (u : Value) (hb : ∀ k, v.ownBlock = some k → k < B) (ha : B ≤ a.block := by simp) : Mine (w.setCell a u) base v xs :=
  ownsRow_only h ((Only.refl (fun j => j = a.block) w).setCell a u (.inl rfl)) (fun k hk e => by have := hb k hk; omega)

/-- Another row is stored, of messages that were there. -/
theorem Post.swap {w : World} {pb : Nat} {N : Int} {rv rv' : Value} {es es' : List Ent} (h : Post w pb N rv es) (hs : ∀ e ∈ es', e ∈ es) (ho : w.ownsRow (pb + 1) 32 3 rv' es'.length (flat es')) :
    Post (w.setCell ⟨pb, 1, none⟩ rv') pb N rv' es' := by
  refine ⟨?_, ?_, ?_, ownsRow_set ho _ _ (by simp), fun e he => (h.data e (hs e he)).set _ _ (by simp), fun e he => h.small e (hs e he)⟩
  · rw [cell_set_off _ (by omega), h.c0]
  · rw [cell_set_same _ h.c1]
  · rw [frozen_set, h.fz]
theorem flat_erase (es : List Ent) (i : Nat) (hi : i < es.length) : (flat es).take (i * 3) ++ (flat es).drop ((i + 1) * 3) = flat (es.eraseIdx i) := by
  rw [flat_take _ _ (by omega), flat_drop _ _ (by omega), ← flat_append, List.eraseIdx_eq_take_drop_succ]

theorem take_no (pb n c : Nat) (a : Option Addr) (i : Int) (w : World) (hc : w.cell? ⟨pb, 1, none⟩ = some (.slice a n c)) (hi : i < 0 ∨ (n : Int) ≤ i) :
    Calls Try.prog 11 #[.pointer (some ⟨pb, 0, none⟩), .int .i64 i] w fun e w' => e = .returned (.tuple #[.agg #[.int .i64 0, .int .i64 0, .slice none 0 0], .int .i64 7]) ∧ Below w.heap.size w w' := by
  have hal := (Below.refl w.heap.size w).alloc (Nat.le_refl _) (.cells #[.int .i64 0, .int .i64 0, .slice none 0 0] 32)
  have d1 := cell_later hal hc
  have HAL := Lib.hid hal
  clear hal hc
  go_enter Try.func11, Try.ntmps11
  go_wp2_with (go_at_call 28; refine (there_no pb n c a i _ d1 hi).mono ?_; rintro e w' ⟨rfl, rfl⟩)
  exact bodyPost_ret (v := .tuple #[.agg #[.int .i64 0, .int .i64 0, .slice none 0 0], .int .i64 7]) (by simp [results, Try.results11, go_sem]) rfl ⟨rfl, HAL.out⟩

set_option maxHeartbeats 1000000 in
set_option maxRecDepth 100000 in
theorem take_yes (pb : Nat) (N : Int) (rv : Value) (es : List Ent) (i : Nat) (w : World) (hp : Post w pb N rv es) (hi : i < es.length) (hn : es.length ≤ 100000) :
    Calls Try.prog 11 #[.pointer (some ⟨pb, 0, none⟩), .int .i64 i] w fun e w' => e = .returned (.tuple #[.agg #[.int .i64 es[i].f, .int .i64 es[i].t, es[i].dv], .int .i64 0]) ∧
      ∃ rv', Post w' pb N rv' (es.eraseIdx i) ∧ (∀ g, rv'.ownBlock = some g → w.heap.size ≤ g) ∧ Mine w' (pb + 1) es[i].dv es[i].data ∧ Only (fun j => j = pb) w w' := by
  have HP := Lib.hid hp
  have hlt := hp.lt
  have c1 := hp.c1
  obtain ⟨rb, rc, rfl, x0, x1, x2⟩ := own_at hp.own i hi
  have hal := (Below.refl w.heap.size w).alloc (Nat.le_refl _) (.cells #[.int .i64 0, .int .i64 0, .slice none 0 0] 32)
  have d1 := cell_later hal c1
  have y0 := cell_later hal x0
  have y1 := cell_later hal x1
  have y2 := cell_later hal x2
  obtain ⟨da, dc, hdv⟩ := (hp.data es[i] (List.getElem_mem _)).slice
  have hdb : ∀ (W : World), Post W pb N (.slice (some ⟨rb, 0, none⟩) es.length rc) es → Mine W (pb + 1) (.slice da es[i].data.length dc) es[i].data := fun W h => by rw [← hdv]; exact h.data es[i] (List.getElem_mem _)
  have HDB := Lib.hid hdb
  rw [hdv] at y2 ⊢
  clear hdb
  have her := flat_erase es i hi
  have hel : (es.eraseIdx i).length = es.length - 1 := by rw [List.length_eraseIdx, if_pos hi]
  generalize es[i].f = f at *
  generalize es[i].t = t at *
  generalize hL : es[i].data.length = L at *
  have HAL := Lib.hid hal
  have HRD := Lib.hid (Rd.of_own hp.own)
  obtain ⟨m, hm⟩ : ∃ m, es.length = m + 1 := ⟨es.length - 1, by omega⟩
  rw [hm] at d1 hi hn HRD
  have HER := Lib.hid her
  have HEL := Lib.hid (by rw [hm] at hel; exact hel)
  have HM := Lib.hid hm
  clear hal c1 x0 x1 x2 hp her hel hm hdv hL
  go_enter Try.func11, Try.ntmps11
  go_wp2_with fail
  refine (there_yes pb (m + 1) rc _ i _ d1 hi).mono ?_
  rintro e w' ⟨rfl, rfl⟩
  go_wp2_with fail
  obtain ⟨X, hX⟩ : ∃ X, X = (w.alloc (.cells #[.int .i64 0, .int .i64 0, .slice none 0 0] 32)).alloc (.cells #[.int .i64 f, .int .i64 t, .slice da L dc] 32) := ⟨_, rfl⟩
  obtain ⟨hXs, ⟨p0, p1, p2⟩, ⟨q0, q1, q2⟩, pz, hbX⟩ := two_boxes w _ _ _ _ _ _ _ X hX
  rw [← hX]
  clear hX y0 y1 y2 d1 HAL
  refine (cloneL_calls _ (m + 1) (flat es) X (HRD.out.below hbX (Nat.le_refl _)) HP.out.reads.one (by omega)).mono ?_
  rintro e w2 ⟨v2, rfl, ho2, hb2⟩
  obtain ⟨g, cap, rfl, hg1, hg2, hg3, hg4⟩ := own_succ ho2
  have HO2 := Lib.hid ho2
  have HB2 := Lib.hid (hbX.trans (hb2.mono (by omega)))
  have HPX := Lib.hid (HP.out.below hbX)
  have HP2 := Lib.hid (HPX.out.below hb2)
  have p0 := cell_later hb2 p0
  have p1 := cell_later hb2 p1
  have p2 := cell_later hb2 p2
  have q0 := cell_later hb2 q0
  have q1 := cell_later hb2 q1
  have q2 := cell_later hb2 q2
  have pz : ∀ o, w2.frozen? ⟨w.heap.size, o, none⟩ = false := fun o => (World.frozen?_of_block (a := ⟨w.heap.size, o, none⟩) (hb2.block w.heap.size (by omega))).trans (pz o)
  have hs2 := hb2.size
  clear ho2 hb2 hbX
  go_wp2_with fail
  refine (del_calls g cap m i _ (flat es) w2 HO2.out HP.out.reads.one (by omega) (by omega)).mono ?_
  rintro e w3 ⟨rfl, ho3, hg3⟩
  rw [HER.out] at ho3
  have hne : ∀ k, k ≤ w.heap.size + 1 → some k ≠ some g := fun k hk e => by simp at e; omega
  have p0 := hg3.cell p0 (hne _ (by simp))
  have p1 := hg3.cell p1 (hne _ (by simp))
  have p2 := hg3.cell p2 (hne _ (by simp))
  have q0 := hg3.cell q0 (hne _ (by simp))
  have q1 := hg3.cell q1 (hne _ (by simp))
  have q2 := hg3.cell q2 (hne _ (by simp))
  have pz : ∀ o, w3.frozen? ⟨w.heap.size, o, none⟩ = false := fun o => (World.frozen?_of_block (a := ⟨w.heap.size, o, none⟩) (hg3.block w.heap.size (by omega) (hne _ (by omega)))).trans (pz o)
  have HP3 := Lib.hid (HP2.out.only (Only.of_grown hg3) (fun e => by simp at e; omega) (fun k hk e => by
    have := World.ownsRow.lt HP.out.own k hk
    simp at e; omega) (fun x hx k hk e => by
    have := World.ownsRow.lt (HP.out.data x hx) k hk
    simp at e; omega))
  have r1 := HP3.out.c1
  have rz := HP3.out.fz
  have HON := Lib.hid ((Only.of_below (S := fun j => j = pb) HB2.out).trans (Only.of_grown hg3) (fun j hj e => by simp at e; omega))
  have HSW := Lib.hid (HP3.out.swap (fun e he => List.mem_of_mem_eraseIdx he) (by rw [HEL.out]; exact ownsRow_mono ho3 (by omega)))
  have hs3 := hg3.size
  clear ho3 hg3 hne
  go_wp2_with fail
  have hpf := HSW.out.only ((((Only.refl (fun j => j = w.heap.size) _).setCell ⟨w.heap.size, 0, none⟩ (.int .i64 f) (.inl rfl)).setCell ⟨w.heap.size, 1, none⟩ (.int .i64 t) (.inl rfl)).setCell ⟨w.heap.size, 2, none⟩ (.slice da L dc) (.inl rfl)) (by omega) (fun k hk => by simp [Value.ownBlock] at hk; omega) (fun x hx k hk => by
    have := World.ownsRow.lt (HP.out.data x (List.mem_of_mem_eraseIdx hx)) k hk
    omega)
  have hmb : ∀ k, (Value.slice da L dc).ownBlock = some k → k < w.heap.size := fun k hk => (World.ownsRow.lt (HDB.out _ HP.out) k hk).2
  exact bodyPost_ret (v := .tuple #[.agg #[.int .i64 f, .int .i64 t, .slice da L dc], .int .i64 0]) (by simp [results, Try.results11, go_sem, p0, p1, p2]) rfl
    ⟨rfl, _, hpf, fun k hk => by simp [Value.ownBlock] at hk; omega, ((((HDB.out _ HP3.out).set _ _ (by simp)).set' _ _ hmb).set' _ _ hmb).set' _ _ hmb, (((HON.out.setCell ⟨pb, 1, none⟩ _ (.inl rfl)).setCell ⟨w.heap.size, 0, none⟩ _ (.inr (Nat.le_refl _))).setCell ⟨w.heap.size, 1, none⟩ _ (.inr (Nat.le_refl _))).setCell ⟨w.heap.size, 2, none⟩ _ (.inr (Nat.le_refl _))⟩
end Go.Proofs.Ytpmkepmnldkccaa
