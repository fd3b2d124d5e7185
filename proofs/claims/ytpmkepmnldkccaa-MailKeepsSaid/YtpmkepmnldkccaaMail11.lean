/- Layer 5: MailKeeps walked. -/
import Derived.Test.YtpmkepmnldkccaaMail09
import Derived.Test.YtpmkepmnldkccaaMail10
import Derived.Test.YtpmkepmnldkccaaApart2
namespace Go.Proofs.Ytpmkepmnldkccaa
open Go.RowKit Go.Shelf
attribute [local go_sem] Oper.semAt_some

theorem RoomAt.only {S : Nat → Prop} {w w' : World} {base : Nat} {r : Value} {xs : List UInt8} (h : RoomAt w base r xs) (ho : Only S w w') (hS : ∀ g, r.ownBlock = some g → ¬ S g) : RoomAt w' base r xs := by
  obtain ⟨g, cap, rfl, h⟩ := h
  exact ⟨g, cap, rfl, ownsRow_only h ho (fun k hk => hS k hk)⟩
theorem RoomAt.blk {w : World} {base : Nat} {r : Value} {xs : List UInt8} (h : RoomAt w base r xs) : ∃ g, r.ownBlock = some g ∧ base ≤ g ∧ g < w.heap.size := by
  obtain ⟨g, cap, rfl, h⟩ := h
  exact ⟨g, rfl, World.ownsRow.lt h g rfl⟩
theorem RoomAt.slice {w : World} {base : Nat} {r : Value} {xs : List UInt8} (h : RoomAt w base r xs) : ∃ g cap, r = .slice (some ⟨g, 0, none⟩) xs.length cap := by
  obtain ⟨g, cap, rfl, h⟩ := h
  exact ⟨g, cap, rfl⟩

theorem enter_of {P : Program} {f : Nat} {fn : Func} {c : Code} (hf : P.funcs[f]? = some fn) (hname : (fn.name == "runtime.NumGoroutine") = false) (hb : fn.body = some c) (args : Array Value) (w : World) :
    (callFunc f args).run P w = .ok (.enter f args) w := by
  have h1 : fn.name ≠ "runtime.NumGoroutine" := by simpa using hname
  simp [callFunc, hf, h1, hb]
theorem Post.calm {B : Nat} {w w' : World} {pb : Nat} {N : Int} {rv : Value} {es : List Ent} (h : Post w pb N rv es) (hc : Calm B w w') : Post w' pb N rv es :=
  ⟨hc.cell h.c0, hc.cell h.c1, (hc.frozen h.c1).trans h.fz, ownsRow_calm h.own hc, fun e he => (h.data e he).calm hc, h.small⟩

/-- What the range over All keeps: the data so far, each in a block of its own; of what was there the list's box alone is turned. -/
structure KRel (Y : World) (L : Nat) (xs : List UInt8) (s : Nat × World) (W : World) : Prop where
  kept : KeptT s.2 W
  only : Only (fun j => j = L) Y W
  sz : Y.heap.size ≤ s.2.heap.size
  list : ∃ (U : Nat → Value) (lv : Value), W.heap[L]? = some (.cells #[lv] 40) ∧ W.ownsRow Y.heap.size 30 1 lv s.1 ((List.range s.1).map U) ∧
    (∀ i, i < s.1 → Mine W Y.heap.size (U i) xs ∧ ∀ g, (U i).ownBlock = some g → g < s.2.heap.size) ∧ (∀ i j, i < j → j < s.1 → (U i).ownBlock = (U j).ownBlock → (U i).ownBlock = none)
theorem KRel.calm {Y : World} {L B : Nat} {xs : List UInt8} {s : Nat × World} {W W' : World} (hB : Y.heap.size ≤ B) (hc : Calm B W W') (h : KRel Y L xs s W) : KRel Y L xs s W' := by
  obtain ⟨h1, h2, h0, U, lv, h3, h4, h5, h6⟩ := h
  exact ⟨h1.trans (.of_calm hc), ⟨hc.os.trans h2.os, hc.tape.trans h2.tape, hc.output.trans h2.output, Nat.le_trans h2.size hc.size, fun k hk hs => (hc.block k (by omega)).trans (h2.block k hk hs)⟩, h0, U, lv, hc.cells _ _ h3 rfl, ownsRow_calm h4 hc, fun i hi => ⟨(h5 i hi).1.calm hc, (h5 i hi).2⟩, h6⟩
theorem KRel.push {Y W0 W W2 W4 : World} {L k : Nat} {xs : List UInt8} {U : Nat → Value} {lv lv' dv : Value} (hL : L < Y.heap.size) (hk2 : KeptT W W2) (hks : KeptT W0 W) (hsz : Y.heap.size ≤ W0.heap.size)
    (honly : Only (fun j => j = L) Y W2) (hlist : W2.heap[L]? = some (.cells #[lv] 40)) (hown : W2.ownsRow Y.heap.size 30 1 lv k ((List.range k).map U))
    (hU : ∀ i, i < k → Mine W2 Y.heap.size (U i) xs ∧ ∀ g, (U i).ownBlock = some g → g < W0.heap.size) (hd : ∀ i j, i < j → j < k → (U i).ownBlock = (U j).ownBlock → (U i).ownBlock = none)
    (hm : Mine W W0.heap.size dv xs) (ho4 : W4.ownsRow Y.heap.size 30 1 lv' (k + 1) ((List.range k).map U ++ [dv])) (hg : (W2.alloc (.cells #[dv] 30)).grownBy W4 lv.ownBlock) :
    KRel Y L xs (k + 1, W) (W4.setCell ⟨L, 0, none⟩ lv') ∧ KeepsOthers W2 (W4.setCell ⟨L, 0, none⟩ lv') := by
  have hlb : ∀ j, lv.ownBlock = some j → Y.heap.size ≤ j := fun j hj => (World.ownsRow.lt hown j hj).1
  have hown3 := hown.alloc (.cells #[dv] 30)
  have hL2 : L < W2.heap.size := Nat.lt_of_lt_of_le hL honly.size
  have h4L : W4.heap[L]? = some (.cells #[lv] 40) := by
    rw [hg.block L (by simp; omega) (fun e => by have := hlb L e.symm; omega), Below.heap_alloc _ _ _ hL2]
    exact hlist
  have hkt : KeptT W2 (W4.setCell ⟨L, 0, none⟩ lv') := ((KeptT.of_below ((Below.refl W2.heap.size W2).alloc (Nat.le_refl _) (.cells #[dv] 30))).trans (KeptT.of_grown hown3 (by decide) (by decide) hg)).trans (KeptT.of_set lv' h4L (by decide) (by decide))
  refine ⟨⟨hk2.trans hkt, ?_, Nat.le_trans hsz hks.size, fun i => if i = k then dv else U i, lv', ?_, ?_, fun i hi => ?_, fun i j hij hj he => ?_⟩, ?_⟩
  · exact ((honly.alloc _).trans (Only.of_grown hg) (fun j hj e => by have := hlb j e; omega)).setCell ⟨L, 0, none⟩ lv' (.inl rfl)
  · rw [heap_setCell_same W4 L 0 #[lv] 40 lv' h4L]
    rfl
  · have e : (List.range (k + 1)).map (fun i => if i = k then dv else U i) = (List.range k).map U ++ [dv] := by
      rw [List.range_succ, List.map_append]
      congr 1
      · apply List.map_congr_left
        intro j hj
        rw [if_neg (by have := List.mem_range.1 hj; omega)]
      · simp
    rw [e]
    exact ownsRow_set ho4 _ _ hL
  · simp only at hi ⊢
    by_cases hik : i = k
    · rw [if_pos hik]
      exact ⟨ownsRow_mono ((hk2.trans hkt).own hm (.inr rfl)) hsz, fun g hg => (World.ownsRow.lt hm g hg).2⟩
    · rw [if_neg hik]
      exact ⟨hkt.own (hU i (by omega)).1 (.inr rfl), fun g hg => Nat.lt_of_lt_of_le ((hU i (by omega)).2 g hg) hks.size⟩
  · simp only at hj he ⊢
    rw [if_neg (by omega)] at he ⊢
    by_cases hjk : j = k
    · rw [if_pos hjk] at he
      cases hb : (U i).ownBlock with
      | none => rfl
      | some g =>
        have h1 := (hU i (by omega)).2 g hb
        have h2 := (World.ownsRow.lt hm g (by rw [← he]; exact hb)).1
        omega
    · rw [if_neg hjk] at he
      exact hd i j hij (by omega) he
  · exact ((KeepsOthers.alloc W2 _).trans (KeepsOthers.of_grownBy hg (fun j o ej hj => own_cells hown3 j o ej hj))).trans (KeepsOthers.setCell _ _ _)
theorem cells_cell {W : World} {L : Nat} {c : Array Value} {e : TypeId} (h : W.heap[L]? = some (.cells c e)) (o : Nat) (v : Value) (hv : c[o]? = some v) : W.cell? ⟨L, o, none⟩ = some v ∧ W.frozen? ⟨L, o, none⟩ = false := by
  refine ⟨?_, ?_⟩
  · simp only [World.cell?, h]; exact hv
  · simp only [World.frozen?, h]; simp

theorem mine_only {w w' : World} {pb : Nat} {v : Value} {xs : List UInt8} (h : Mine w (pb + 1) v xs) (ho : Only (fun j => j = pb) w w') : Mine w' (pb + 1) v xs := ownsRow_only h ho (fun g hg e => by have := (World.ownsRow.lt h g hg).1; omega)
theorem Els.of_list {w : World} {base bl m vg cap : Nat} {xs : List UInt8} {U : Nat → Value} (hl : w.ownsRow bl 30 1 (.slice (some ⟨vg, 0, none⟩) m cap) m ((List.range m).map U)) (ho : ∀ i, i < m → Mine w base (U i) xs)
    (hd : ∀ i j, i < m → j < m → i ≠ j → (U i).ownBlock = (U j).ownBlock → (U i).ownBlock = none) : Els w base m vg 0 U (fun _ => xs.length) (fun _ => bvs xs) := by
  refine ⟨ho, hd, fun k hk => ?_, fun k hk => own_apart hl (ho k hk) (by decide) vg rfl⟩
  have := World.ownsRow.cells hl rfl k (U k) (by simp [hk])
  rwa [add_off] at this
theorem RoomAt.mine {w : World} {base : Nat} {r : Value} {xs : List UInt8} (h : RoomAt w base r xs) : Mine w base r xs := by
  obtain ⟨g, cap, rfl, h⟩ := h
  rw [bvs_append] at h
  exact own_prefix h (by rw [bvs_length, Nat.mul_one])

set_option maxHeartbeats 4000000 in
set_option maxRecDepth 100000 in
theorem keeps_core (v : Value) (xs : List UInt8) (w : World) (hv : Bytes w v xs) (hlen : xs.length ≤ 140737488351232) :
    Calls Try.prog 6 #[v] w fun e w' => e = .returned (.bool true) ∧ Below w.heap.size w w' := by
  have HV := Lib.hid hv
  obtain ⟨a, cap, rfl, hle, hcap, -⟩ := hv
  refine (callsIn_wide (n := 0)).1 ?_
  refine callsIn_of_wp_marks Try.func6 rfl trivial ?_
  simp only [Try.ntmps6, List.size_toArray, List.length_cons, List.length_nil, Nat.reduceAdd, Nat.reduceSub, Array.replicate_succ, Array.replicate_zero, List.push_toArray, List.append_toArray, List.nil_append, List.cons_append]
  gi_wp2_with fail
  refine (callsIn_wide.2 (known_calls _)).mono ?_
  rintro e w1 ⟨rfl, hb1⟩
  have HB1 := Lib.hid hb1
  clear hb1
  gi_wp2_with fail
  refine (callsIn_wide.2 (new_calls 2 _ (by omega) (by omega))).mono ?_
  rintro e w2 ⟨rfl, hp2, hb2⟩
  have HP2 := Lib.hid hp2
  have HB2 := Lib.hid (HB1.out.trans (hb2.mono HB1.out.size))
  have hpb := HB1.out.size
  have hpl := hp2.lt
  clear hp2 hb2
  generalize w1.heap.size = pb at *
  gi_wp2_with fail
  refine (callsIn_wide.2 (room_calls _ xs _ (HV.out.below HB2.out (Nat.le_refl _)) hlen)).mono ?_
  rintro e w3 ⟨⟨r, rfl, hr3⟩, hb3⟩
  obtain ⟨g, gc, hrv⟩ := hr3.slice
  obtain ⟨g', hg0, hg1, hg2⟩ := hr3.blk
  rw [hrv] at hg0
  simp only [Value.ownBlock, Option.some.injEq] at hg0
  subst hg0 hrv
  have HR3 := Lib.hid hr3
  have HP3 := Lib.hid (HP2.out.below hb3)
  have HB3 := Lib.hid (HB2.out.trans (hb3.mono HB2.out.size))
  clear hr3 hb3 HB1 HB2
  by_cases hbig : 65536 < xs.length
  · have hsc : sendCode 2 0 0 xs = 2 := by unfold sendCode; rw [if_neg (by omega), if_pos hbig]
    gi_wp2_with fail
    refine (callsIn_wide.2 (send_no pb 2 0 0 _ xs _ HP3.out.c0 HR3.out.bytes (by rw [hsc]; omega))).mono ?_
    rintro e w4 ⟨rfl, hb4⟩
    rw [hsc]
    have HB4 := Lib.hid (HB3.out.trans (hb4.mono HB3.out.size))
    clear hb4 hsc
    gi_wp2_with fail
    exact ⟨.bool true, by simp [results, Try.results6, go_sem], rfl, HB4.out⟩
  · have hbi : decide (65536 < (xs.length : Int)) = false := decide_eq_false (by omega)
    gi_wp2_with fail
    refine (callsIn_wide.2 (send_yes pb 2 _ [] 0 0 _ xs _ HP3.out HR3.out.bytes (by simp) (by omega) (by omega) (by omega))).mono ?_
    rintro e w4 ⟨rfl, ⟨⟨rv4, dv0, hp4, hrb4, hd0⟩, hf4⟩⟩
    rw [List.nil_append] at hp4
    have HP4 := Lib.hid hp4
    have HR4 := Lib.hid (HR3.out.only hf4 (fun k hk e => by
      simp only [Value.ownBlock, Option.some.injEq] at hk
      simp [Value.ownBlock] at e
      omega))
    have HB4 := Lib.hid (HB3.out.trans (hf4.below (HB3.out.size) (fun j hj e => by
      simp [Value.ownBlock] at e
      omega)))
    have HRV4 := Lib.hid (show ∀ k, rv4.ownBlock = some k → w3.heap.size ≤ k from fun k hk => by
      rcases hrb4 with h | ⟨g0, h, h2⟩
      · rw [h] at hk; simp [Value.ownBlock] at hk
      · rw [h] at hk; simp at hk; omega)
    have HD0 := Lib.hid hd0
    have hs4 := hf4.size
    clear hp4 hrb4 hd0 hf4
    gi_wp2_with fail
    refine (callsIn_wide.2 (kept_calls _ _ xs _ _ HR4.out (HV.out.below HB4.out (Nat.le_refl _)) hlen)).mono ?_
    rintro e w' ⟨rfl, rfl⟩
    gi_wp2_with fail
    have hD0 : ∀ k, dv0.ownBlock = some k → w3.heap.size ≤ k ∧ k < w'.heap.size := fun k hk => ⟨HD0.out k hk, (World.ownsRow.lt (HP4.out.data ⟨0, 0, dv0, xs⟩ (by simp)) k hk).2⟩
    refine (callsIn_wide.2 (twice_yes pb 2 rv4 _ 0 _ HP4.out (by simp) (by simp))).mono ?_
    rintro e w5 ⟨rfl, ⟨⟨rv5, dv1, hp5, hrb5, hd1⟩, hf5⟩⟩
    simp only [List.getElem_cons_zero, List.cons_append, List.nil_append] at hp5
    have HP5 := Lib.hid hp5
    have HR5 := Lib.hid (HR4.out.only hf5 (fun k hk e => by
      simp only [Value.ownBlock, Option.some.injEq] at hk
      rcases e with e | e
      · omega
      · have := HRV4.out k e; omega))
    have HB5 := Lib.hid (HB4.out.trans (hf5.below (HB4.out.size) (fun j hj e => by
      rcases e with e | e
      · omega
      · have := HRV4.out j e; omega)))
    have HRV5 := Lib.hid (show ∀ k, rv5.ownBlock = some k → w3.heap.size ≤ k from fun k hk => by
      rcases hrb5 with h | ⟨g0, h, h2⟩
      · exact HRV4.out k (by rw [← h]; exact hk)
      · rw [h] at hk; simp at hk; omega)
    have hD1 : ∀ k, dv1.ownBlock = some k → w'.heap.size ≤ k ∧ k < w5.heap.size := fun k hk => ⟨hd1 k hk, (World.ownsRow.lt (hp5.data ⟨0, 0, dv1, xs⟩ (by simp)) k hk).2⟩
    have HD0 := Lib.hid hD0
    have HD1 := Lib.hid hD1
    have hs5 := hf5.size
    clear hp5 hrb5 hd1 hf5 hD0 hD1
    gi_wp2_with fail
    refine (callsIn_wide.2 (twice_yes pb 2 rv5 _ 0 _ HP5.out (by simp) (by simp))).mono ?_
    rintro e w6 ⟨rfl, ⟨⟨rv6, dv2, hp6, hrb6, hd2⟩, hf6⟩⟩
    simp only [List.getElem_cons_zero, List.cons_append, List.nil_append] at hp6
    have HP6 := Lib.hid hp6
    have HR6 := Lib.hid (HR5.out.only hf6 (fun k hk e => by
      simp only [Value.ownBlock, Option.some.injEq] at hk
      rcases e with e | e
      · omega
      · have := HRV5.out k e; omega))
    have HB6 := Lib.hid (HB5.out.trans (hf6.below (HB5.out.size) (fun j hj e => by
      rcases e with e | e
      · omega
      · have := HRV5.out j e; omega)))
    have HRV6 := Lib.hid (show ∀ k, rv6.ownBlock = some k → w3.heap.size ≤ k from fun k hk => by
      rcases hrb6 with h | ⟨g0, h, h2⟩
      · exact HRV5.out k (by rw [← h]; exact hk)
      · rw [h] at hk; simp at hk; omega)
    have HD2 := Lib.hid (show ∀ k, dv2.ownBlock = some k → w5.heap.size ≤ k ∧ k < w6.heap.size from fun k hk => ⟨hd2 k hk, (World.ownsRow.lt (hp6.data ⟨0, 0, dv2, xs⟩ (by simp)) k hk).2⟩)
    have hs6 := hf6.size
    clear hp6 hrb6 hd2 hf6 HRV4 HRV5 HP2 HP3 HP4 HP5 HR3 HR4 HR5 HB3 HB4 HB5
    gi_wp2_with (gi_at_call 24; refine (all_calls _ _).mono ?_; rintro e w7 ⟨rfl, rfl⟩)
    obtain ⟨Y, hY⟩ : ∃ Y, Y = (w6.alloc (.cells #[.slice none 0 0] 40)).alloc (.cells #[.pointer (some ⟨pb, 0, none⟩)] 25) := ⟨_, rfl⟩
    have hYs : Y.heap.size = w6.heap.size + 2 := by rw [hY]; simp
    have hbY : Below w6.heap.size w6 Y := by rw [hY]; exact ((Below.refl _ _).alloc (Nat.le_refl _) _).alloc (by simp) _
    have hYL : Y.heap[w6.heap.size]? = some (.cells #[.slice none 0 0] 40) := by
      rw [hY, Below.heap_alloc _ _ _ (by simp)]; exact World.alloc_heap_new _ _
    have hYB : Y.heap[w6.heap.size + 1]? = some (.cells #[.pointer (some ⟨pb, 0, none⟩)] 25) := by
      rw [hY]
      have := World.alloc_heap_new (w6.alloc (.cells #[.slice none 0 0] 40)) (.cells #[.pointer (some ⟨pb, 0, none⟩)] 25)
      rwa [World.size_alloc] at this
    have HPY := Lib.hid (HP6.out.below hbY)
    have HRY := Lib.hid (HR6.out.below hbY (Nat.le_refl _))
    have HBY := Lib.hid (HB6.out.trans (hbY.mono HB6.out.size))
    rw [← hY]
    have hrel0 : KRel Y w6.heap.size xs (0, Y) Y := ⟨KeptT.refl _, Only.refl _ _, Nat.le_refl _, fun _ => undef, .slice none 0 0, hYL, World.ownsRow_nil _ _ _ _, fun i hi => by simp at hi, fun i j _ hj => by simp at hj⟩
    have HYB := Lib.hid hYB
    have HYS := Lib.hid hYs
    clear hY hbY hYL hYB
    obtain ⟨L, hL⟩ : ∃ L, L = w6.heap.size := ⟨_, rfl⟩
    rw [← hL] at hrel0 HYB hYs ⊢
    have HL := Lib.hid hL
    clear hL
    refine range_w (gf := 34) (lb := #[.pointer (some ⟨L + 1, 0, none⟩)]) rfl (fun args w => enter_of Try.func34 (by kernel_rfl) rfl args w)
      (fun s W => KRel Y L xs s W) (fun _ _ => False) (AStep [⟨0, 0, dv0, xs⟩, ⟨0, 0, dv1, xs⟩, ⟨0, 0, dv2, xs⟩]) (fun s => s.1 = 3) (0, Y)
      (fun s W W' hc h => h.calm (Nat.le_refl _) hc) (fun _ _ _ _ h => h) hrel0 ?iter ?body ?done (fun _ _ _ _ h => h.elim)
    case iter =>
      intro l J' Jx' W hm _ hJJ hc hJ0 hy
      exact all1_iter _ pb 2 rv6 (L + 1) l J' Jx' W Y (by simp) hm (fun s W h => (hJJ s W h).kept) (hc.cell (cells_cell HYB.out 0 _ rfl).1) (HPY.out.calm hc) hy hJ0
    case body =>
      intro l s args s' W hr hst hsz
      obtain ⟨hlt, hs1, hs2, dv, rfl, hm⟩ := hst
      have hdat : ∀ i (h : i < 3), ([⟨0, 0, dv0, xs⟩, ⟨0, 0, dv1, xs⟩, ⟨0, 0, dv2, xs⟩] : List Ent)[i].data = xs := fun i h => match i, h with
        | 0, _ => rfl
        | 1, _ => rfl
        | 2, _ => rfl
      rw [hdat s.1 hlt] at hm
      have hs3 : s.1 < 3 := hlt
      clear hdat
      generalize ([⟨0, 0, dv0, xs⟩, ⟨0, 0, dv1, xs⟩, ⟨0, 0, dv2, xs⟩] : List Ent)[s.1].f = f
      generalize ([⟨0, 0, dv0, xs⟩, ⟨0, 0, dv1, xs⟩, ⟨0, 0, dv2, xs⟩] : List Ent)[s.1].t = t
      clear hlt hrel0
      obtain ⟨k, W0⟩ := s
      obtain ⟨k', W0'⟩ := s'
      simp only at hs1 hs2 hs3 hm
      subst hs1 hs2
      obtain ⟨da, dc, rfl⟩ := hm.slice
      refine ⟨rfl, ?_⟩
      have HKR := Lib.hid hr
      have HM := Lib.hid hm
      clear hr hm
      gi_wp2_with fail
      refine ⟨KeepsOthers.alloc _ _, fun W₂ hc => ?_⟩
      have hc0 : Calm Y.heap.size W0' W₂ := (Calm.of_below hsz ((Below.refl _ _).alloc (Nat.le_refl _) _)).trans hc
      have b2 : W₂.cell? ⟨W0'.heap.size, 2, none⟩ = some (.slice da xs.length dc) := hc.cell (by rw [World.cell?_alloc_at _ _ _ _ rfl]; rfl)
      obtain ⟨h1, h2, h0, U, lv, h3, h4, h5, h6⟩ := HKR.out.calm (Nat.le_refl _) hc0
      obtain ⟨m0, f0⟩ := cells_cell h3 0 lv rfl
      simp only at h0 h3 h4 h5 h6
      have hlv : lv.oneCell' = true := own_one h4
      have HPUSH := Lib.hid (fun (W4 : World) (lv' : Value) => KRel.push (W4 := W4) (lv' := lv') (by omega : L < Y.heap.size) (KeptT.of_calm hc0) HKR.out.kept h0 h2 h3 h4 h5 h6 HM.out)
      obtain ⟨la, lc, rfl⟩ := own_slice h4
      have hs2 := h2.size
      have HO4 := Lib.hid h4
      have HL8 := Lib.hid (fun (w8 : World) (hg : (W₂.alloc (.cells #[.slice da xs.length dc] 30)).grownBy w8 (Value.slice la k lc).ownBlock) => show w8.heap[L]? = some (.cells #[.slice la k lc] 40) by
        rw [hg.block L (by simp; omega) (fun e => by have := (World.ownsRow.lt h4 L e.symm).1; omega), Below.heap_alloc _ _ _ (by omega)]
        exact h3)
      clear hc hc0 h1 h2 h3 h4 h5 h6
      gi_wp2_with (gi_at_builtin; go_loud (refine app_listIn tyBytesL (HO4.out.alloc _) (Rd.lit (n := 1) rfl (by omega)) (by simp [Value.oneCell']) (by omega) (by omega) (by simp; omega) rfl rfl rfl rfl ?_; intro v5 w8 hm5 hb5 hn5; obtain ⟨va, vc, rfl⟩ := own_slice hm5; obtain ⟨m8, f8⟩ := cells_cell (HL8.out _ hb5) 0 _ rfl; have HEND := Lib.hid (HPUSH.out _ _ hm5 hb5); clear hm5 hb5 hn5 m0 f0))
      exact ⟨HEND.out.2, HEND.out.1⟩
    case done =>
      intro D s W hD hs hr hK
      obtain ⟨k, W0⟩ := s
      simp only at hs
      subst hs
      obtain ⟨h1, h2, h0, U, lv, h3, h4, h5, h6⟩ := hr
      simp only at h0 h4 h5 h6
      have hw6 : w3.heap.size ≤ L := by have := HL.out; omega
      have hrvb : ∀ k, rv6.ownBlock = some k → k < L := fun k hk => by rw [HL.out]; exact (World.ownsRow.lt HP6.out.own k hk).2
      have hdb : ∀ e ∈ ([⟨0, 0, dv0, xs⟩, ⟨0, 0, dv1, xs⟩, ⟨0, 0, dv2, xs⟩] : List Ent), ∀ k, e.dv.ownBlock = some k → w3.heap.size ≤ k ∧ k < L := by
        intro e he k hk
        have hL := HL.out
        simp only [List.mem_cons, List.not_mem_nil, or_false] at he
        rcases he with rfl | rfl | rfl
        · have := HD0.out k hk; omega
        · have := HD1.out k hk; omega
        · have := HD2.out k hk; omega
      have HRVB := Lib.hid hrvb
      have HDB := Lib.hid hdb
      have HPW := Lib.hid (HPY.out.only h2 (by omega) (fun k hk e => by have := hrvb k hk; omega) (fun e he k hk e2 => by have := hdb e he k hk; omega))
      have HRW := Lib.hid (HRY.out.only h2 (fun k hk e => by simp only [Value.ownBlock, Option.some.injEq] at hk; omega))
      have HBW := Lib.hid (HBY.out.trans (h2.below HBY.out.size (fun j hj e => by omega)))
      obtain ⟨m0, f0⟩ := cells_cell h3 0 lv rfl
      obtain ⟨lg, lc, rfl, hlg1, hlg2, -, -⟩ := own_succ h4
      have hsW := h2.size
      have HO4 := Lib.hid h4
      have HU := Lib.hid h5
      have HDI := Lib.hid h6
      have HK := Lib.hid hK
      have HL8 := Lib.hid (fun (w8 : World) (hg : (W.alloc (.cells #[.slice (some ⟨g, 0, none⟩) xs.length gc] 30)).grownBy w8 (Value.slice (some ⟨lg, 0, none⟩) 3 lc).ownBlock) => show w8.heap[L]? = some (.cells #[.slice (some ⟨lg, 0, none⟩) 3 lc] 40) by
        rw [hg.block L (by simp; omega) (fun e => by simp [Value.ownBlock] at e; omega), Below.heap_alloc _ _ _ (by omega)]
        exact h3)
      clear h1 h2 h3 h4 h5 h6 hrel0 hrvb hdb hK
      gi_wp2_with (gi_at_builtin; go_loud (refine app_listIn tyBytesL (HO4.out.alloc _) (Rd.lit (n := 1) rfl (by omega)) (by simp [Value.oneCell']) (by omega) (by omega) (by simp; omega) rfl rfl rfl rfl ?_; intro v5 w8 hm5 hb5 hn5; obtain ⟨vg, vc, rfl, hvg1, hvg2, hvc1, hvc2⟩ := own_succ hm5; obtain ⟨m8, f8⟩ := cells_cell (HL8.out _ hb5) 0 _ rfl; have HM8 := Lib.hid hm5; have HB8 := Lib.hid hb5; clear hm5 hb5 hn5 m0 f0))
      have hal8 := (Below.refl W.heap.size W).alloc (Nat.le_refl _) (.cells #[.slice (some ⟨g, 0, none⟩) xs.length gc] 30)
      have hown3 := HO4.out.alloc (.cells #[.slice (some ⟨g, 0, none⟩) xs.length gc] 30)
      have hkt8 : KeptT W (w8.setCell ⟨L, 0, none⟩ (.slice (some ⟨vg, 0, none⟩) 4 vc)) := ((KeptT.of_below hal8).trans (KeptT.of_grown hown3 (by decide) (by decide) HB8.out)).trans (KeptT.of_set _ (HL8.out _ HB8.out) (by decide) (by decide))
      have hko8 : KeepsOthers W (w8.setCell ⟨L, 0, none⟩ (.slice (some ⟨vg, 0, none⟩) 4 vc)) := ((KeepsOthers.alloc W _).trans (KeepsOthers.of_grownBy HB8.out (fun j o ej hj => own_cells hown3 j o ej hj))).trans (KeepsOthers.setCell _ _ _)
      have hon8 : Only (fun j => j = L ∨ j = lg) W (w8.setCell ⟨L, 0, none⟩ (.slice (some ⟨vg, 0, none⟩) 4 vc)) := ((Only.of_below (S := fun j => j = L ∨ j = lg) hal8).trans (Only.of_grown HB8.out) (fun j hj e => by simp [Value.ownBlock] at e; exact .inr e.symm)).setCell ⟨L, 0, none⟩ _ (.inl (.inl rfl))
      have hls8 := ownsRow_set HM8.out ⟨L, 0, none⟩ (.slice (some ⟨vg, 0, none⟩) 4 vc) (by show L < Y.heap.size; omega)
      obtain ⟨Z, hZ⟩ : ∃ Z, Z = w8.setCell ⟨L, 0, none⟩ (.slice (some ⟨vg, 0, none⟩) 4 vc) := ⟨_, rfl⟩
      obtain ⟨U', hU'⟩ : ∃ U' : Nat → Value, U' = fun i => if i = 3 then .slice (some ⟨g, 0, none⟩) xs.length gc else U i := ⟨_, rfl⟩
      rw [← hZ] at hkt8 hko8 hon8 hls8 ⊢
      have hlist : (List.range 3).map U ++ #[Value.slice (some ⟨g, 0, none⟩) xs.length gc].toList = (List.range 4).map U' := by
        rw [hU']; rfl
      rw [hlist] at hls8
      have hblk : ∀ i, i < 4 → ∀ k, (U' i).ownBlock = some k → k = g ∨ Y.heap.size ≤ k := by
        intro i hi k hk
        rw [hU'] at hk
        simp only at hk
        split at hk
        · simp only [Value.ownBlock, Option.some.injEq] at hk; exact .inl hk.symm
        · exact .inr (World.ownsRow.lt (HU.out i (by omega)).1 k hk).1
      have hels : Els Z w2.heap.size 4 vg 0 U' (fun _ => xs.length) (fun _ => bvs xs) := by
        refine Els.of_list hls8 (fun i hi => ?_) (fun i j hi hj hij he => ?_)
        · rw [hU']
          simp only
          split
          · exact hkt8.own HRW.out.mine (.inr rfl)
          · exact ownsRow_mono (hkt8.own (HU.out i (by omega)).1 (.inr rfl)) (by omega)
        · cases hb : (U' i).ownBlock with
          | none => rfl
          | some k =>
            have e1 := hblk i hi k hb
            have e2 := hblk j hj k (by rw [← he]; exact hb)
            rw [hU'] at hb he
            simp only at hb he
            by_cases hi3 : i = 3
            · rw [if_pos hi3] at hb he
              rw [if_neg (by omega)] at he
              simp only [Value.ownBlock, Option.some.injEq] at hb
              have := (World.ownsRow.lt (HU.out j (by omega)).1 k (by rw [← he]; simp only [Value.ownBlock, Option.some.injEq]; exact hb)).1
              omega
            · rw [if_neg hi3] at hb he
              by_cases hj3 : j = 3
              · rw [if_pos hj3, hb] at he
                simp only [Value.ownBlock, Option.some.injEq] at he
                have := (World.ownsRow.lt (HU.out i (by omega)).1 k hb).1
                omega
              · rw [if_neg hj3] at he
                rcases Nat.lt_or_ge i j with h | h
                · rw [HDI.out i j h (by omega) he] at hb; cases hb
                · rw [HDI.out j i (by omega) (by omega) he.symm] at he; rw [he] at hb; cases hb
      have hsZ := hon8.size
      refine (callsIn_wide.2 (apart_calls w2.heap.size 4 vg 0 vc U' _ _ Z hels (by omega) (by omega) (by omega) (fun _ _ => hlen) (by omega))).mono ?_
      rintro e w9 ⟨rfl, hon9⟩
      have HPZ := Lib.hid ((HPW.out.only hon8 (by omega) (fun k hk e => by have := HRVB.out k hk; omega) (fun e he k hk e2 => by have := HDB.out e he k hk; omega)).only hon9 (fun ⟨i, hi, hk⟩ => by have := hblk i hi _ hk; omega)
        (fun k hk ⟨i, hi, hk2⟩ => by have h1 := HRVB.out k hk; have h2 := HRV6.out k hk; have h3 := hblk i hi _ hk2; omega) (fun e he k hk ⟨i, hi, hk2⟩ => by have h1 := HDB.out e he k hk; have h3 := hblk i hi _ hk2; omega))
      have HBZ := Lib.hid ((HBW.out.trans (hon8.below (by omega) (fun j hj e => by have := HBY.out.size; omega))).trans (hon9.below (by have := HBW.out.size; omega) (fun j hj ⟨i, hi, hk⟩ => by have h1 := hblk i hi _ hk; have := HBY.out.size; omega)))
      have hKZ := hko8.same _ _ HK.out rfl
      have HK9 := Lib.hid (show w9.heap[D]? = some (.deferred (some [])) from (hon9.block D (Array.getElem?_eq_some_iff.1 hKZ).1 (fun ⟨i, hi, hk⟩ => by
        have := own_cells (hels.own i hi) D _ hk hKZ
        cases this)).trans hKZ)
      have hs9 := hon9.size
      clear hal8 hown3 hkt8 hko8 hon8 hls8 hlist hblk hels hon9 hKZ hZ hU' HPW HRW HBW HO4 HU HDI HK HL8 HM8 HB8 HPY HRY m8 f8
      gi_wp2_with fail
      refine (callsIn_wide.2 (take_yes pb 2 _ _ 0 _ HPZ.out (by simp) (by simp))).mono ?_
      rintro e x1 ⟨rfl, rt1, hp1, -, hm1, ho1⟩
      simp only [List.getElem_cons_zero, List.eraseIdx_cons_zero] at hp1 hm1 ⊢
      obtain ⟨va1, vc1, rfl⟩ := hm1.slice
      have ha1 := (Below.refl x1.heap.size x1).alloc (Nat.le_refl _) (.cells #[.int .i64 0, .int .i64 0, .slice va1 xs.length vc1] 32)
      have bb : (x1.alloc (.cells #[.int .i64 0, .int .i64 0, .slice va1 xs.length vc1] 32)).cell? ⟨x1.heap.size, 2, none⟩ = some (.slice va1 xs.length vc1) := by rw [World.cell?_alloc_at _ _ _ _ rfl]; rfl
      have hs1 := ho1.size
      have hsy1 : (x1.alloc (.cells #[.int .i64 0, .int .i64 0, .slice va1 xs.length vc1] 32)).heap.size = x1.heap.size + 1 := by simp
      obtain ⟨y1, hy1⟩ : ∃ y1, y1 = x1.alloc (.cells #[.int .i64 0, .int .i64 0, .slice va1 xs.length vc1] 32) := ⟨_, rfl⟩
      have ho1c := ho1.alloc (.cells #[.int .i64 0, .int .i64 0, .slice va1 xs.length vc1] 32)
      have HT1 := Lib.hid (And.intro (hp1.below ha1) ho1c)
      have HM1 := Lib.hid (hm1.below ha1 (Nat.le_refl _))
      have b1 := bb
      rw [← hy1] at HT1 hsy1 b1 HM1
      clear ha1 hp1 hm1 ho1 ho1c bb
      gi_wp2_with fail
      rw [← hy1]
      clear hy1
      refine (callsIn_wide.2 (take_yes pb 2 _ _ 0 _ HT1.out.1 (by simp) (by simp))).mono ?_
      rintro e x2 ⟨rfl, rt2, hp2, -, hm2, ho2⟩
      simp only [List.getElem_cons_zero, List.eraseIdx_cons_zero] at hp2 hm2 ⊢
      obtain ⟨va2, vc2, rfl⟩ := hm2.slice
      have ha2 := (Below.refl x2.heap.size x2).alloc (Nat.le_refl _) (.cells #[.int .i64 0, .int .i64 0, .slice va2 xs.length vc2] 32)
      have bb : (x2.alloc (.cells #[.int .i64 0, .int .i64 0, .slice va2 xs.length vc2] 32)).cell? ⟨x2.heap.size, 2, none⟩ = some (.slice va2 xs.length vc2) := by rw [World.cell?_alloc_at _ _ _ _ rfl]; rfl
      have hs2 := ho2.size
      have hsy2 : (x2.alloc (.cells #[.int .i64 0, .int .i64 0, .slice va2 xs.length vc2] 32)).heap.size = x2.heap.size + 1 := by simp
      obtain ⟨y2, hy2⟩ : ∃ y2, y2 = x2.alloc (.cells #[.int .i64 0, .int .i64 0, .slice va2 xs.length vc2] 32) := ⟨_, rfl⟩
      have ho2c := ho2.alloc (.cells #[.int .i64 0, .int .i64 0, .slice va2 xs.length vc2] 32)
      have HT2 := Lib.hid (And.intro (hp2.below ha2) ho2c)
      have HM2 := Lib.hid (hm2.below ha2 (Nat.le_refl _))
      have b1 := ho2c.cell (by omega) b1
      have HM1 := Lib.hid (mine_only HM1.out ho2c)
      have b2 := bb
      rw [← hy2] at HT2 hsy2 b1 b2 HM1 HM2
      clear ha2 hp2 hm2 ho2 ho2c bb
      gi_wp2_with fail
      rw [← hy2]
      clear hy2
      refine (callsIn_wide.2 (take_yes pb 2 _ _ 0 _ HT2.out.1 (by simp) (by simp))).mono ?_
      rintro e x3 ⟨rfl, rt3, hp3, -, hm3, ho3⟩
      simp only [List.getElem_cons_zero, List.eraseIdx_cons_zero] at hp3 hm3 ⊢
      obtain ⟨va3, vc3, rfl⟩ := hm3.slice
      have ha3 := (Below.refl x3.heap.size x3).alloc (Nat.le_refl _) (.cells #[.int .i64 0, .int .i64 0, .slice va3 xs.length vc3] 32)
      have bb : (x3.alloc (.cells #[.int .i64 0, .int .i64 0, .slice va3 xs.length vc3] 32)).cell? ⟨x3.heap.size, 2, none⟩ = some (.slice va3 xs.length vc3) := by rw [World.cell?_alloc_at _ _ _ _ rfl]; rfl
      have hs3 := ho3.size
      have hsy3 : (x3.alloc (.cells #[.int .i64 0, .int .i64 0, .slice va3 xs.length vc3] 32)).heap.size = x3.heap.size + 1 := by simp
      obtain ⟨y3, hy3⟩ : ∃ y3, y3 = x3.alloc (.cells #[.int .i64 0, .int .i64 0, .slice va3 xs.length vc3] 32) := ⟨_, rfl⟩
      have ho3c := ho3.alloc (.cells #[.int .i64 0, .int .i64 0, .slice va3 xs.length vc3] 32)
      have HT3 := Lib.hid (And.intro (hp3.below ha3) ho3c)
      have HM3 := Lib.hid (hm3.below ha3 (Nat.le_refl _))
      have b1 := ho3c.cell (by omega) b1
      have b2 := ho3c.cell (by omega) b2
      have HM1 := Lib.hid (mine_only HM1.out ho3c)
      have HM2 := Lib.hid (mine_only HM2.out ho3c)
      have b3 := bb
      clear ha3 hp3 hm3 ho3 ho3c bb
      gi_wp2_with fail
      rw [← hy3] at HT3 hsy3 b1 b2 b3 HM1 HM2 HM3 ⊢
      clear hy3
      have hon3 := (HT1.out.2.trans HT2.out.2 (fun j _ e => e)).trans HT3.out.2 (fun j _ e => e)
      have HB3 := Lib.hid (HBZ.out.trans (hon3.below (by have := HBZ.out.size; omega) (fun j hj e => by omega)))
      have HK3 := Lib.hid (show y3.heap[D]? = some (.deferred (some [])) from (hon3.block D (Array.getElem?_eq_some_iff.1 HK9.out).1 (fun e => by omega)).trans HK9.out)
      have HVB := Lib.hid (HV.out.below HB3.out (Nat.le_refl _))
      clear hon3
      refine (callsIn_wide.2 (same_calls _ _ xs xs _ HM1.out.bytes HVB.out)).mono ?_
      rintro e z1 ⟨rfl, rfl⟩
      gi_wp2_with fail
      refine (callsIn_wide.2 (same_calls _ _ xs xs _ HM2.out.bytes HVB.out)).mono ?_
      rintro e z2 ⟨rfl, rfl⟩
      gi_wp2_with fail
      refine (callsIn_wide.2 (same_calls _ _ xs xs _ HM3.out.bytes HVB.out)).mono ?_
      rintro e z3 ⟨rfl, rfl⟩
      gi_wp2_with (gi_at_call 24; refine (all_calls _ _).mono ?_; rintro e w7 ⟨rfl, rfl⟩)
      obtain ⟨S, hSx⟩ : ∃ S, S = x3.heap.size + 1 := ⟨_, rfl⟩
      have hS : S = z3.heap.size := by omega
      obtain ⟨Y2, hY2⟩ : ∃ Y2, Y2 = (z3.alloc (.cells #[.int .i64 0] 3)).alloc (.cells #[.pointer none] 25) := ⟨_, rfl⟩
      have hY2s : Y2.heap.size = S + 2 := by rw [hY2, hS]; simp
      have hbY2 : Below z3.heap.size z3 Y2 := by rw [hY2]; exact ((Below.refl _ _).alloc (Nat.le_refl _) _).alloc (by simp) _
      have hYn : Y2.cell? ⟨S, 0, none⟩ = some (.int .i64 0) := by
        rw [hY2, hS, World.cell?_alloc_past _ _ _ (by simp), World.cell?_alloc_at _ _ _ _ rfl]; rfl
      have hYB2 : Y2.cell? ⟨S + 1, 0, none⟩ = some (.pointer none) := by
        rw [hY2, hS, World.cell?_alloc_at _ _ _ _ (by simp)]; rfl
      have b1 := cell_later hbY2 b1
      have b2 := cell_later hbY2 b2
      have b3 := cell_later hbY2 b3
      have HM1 := Lib.hid (HM1.out.below hbY2 (Nat.le_refl _))
      have HM2 := Lib.hid (HM2.out.below hbY2 (Nat.le_refl _))
      have HM3 := Lib.hid (HM3.out.below hbY2 (Nat.le_refl _))
      have HB4 := Lib.hid (HB3.out.trans (hbY2.mono HB3.out.size))
      have HK4 := Lib.hid (show Y2.heap[D]? = some (.deferred (some [])) from (hbY2.block D (Array.getElem?_eq_some_iff.1 HK3.out).1).trans HK3.out)
      have hDS : D < S := by rw [hS]; exact (Array.getElem?_eq_some_iff.1 HK3.out).1
      rw [← hY2]
      rw [← hSx] at hsy3 ⊢
      clear hY2 hbY2 hsy3 hSx hS
      refine range_w (σ := Unit) (gf := 34) (lb := #[.pointer (some ⟨S + 1, 0, none⟩)]) rfl (fun args w => enter_of Try.func34 (by kernel_rfl) rfl args w)
        (fun _ W => Calm Y2.heap.size Y2 W) (fun _ _ => False) (fun _ _ _ _ => False) (fun _ => True) ()
        (fun s W W' hc h => h.trans hc) (fun _ _ _ _ h => h) (Calm.refl _ _) ?iter2 ?body2 ?done2 (fun _ _ _ _ h => h.elim)
      case iter2 =>
        intro l J' Jx' W hm _ hJJ hc hJ0 hy
        refine (all1_none (S + 1) l W (hc.cell hYB2)).mono ?_
        rintro e W' ⟨hv, rfl⟩
        exact ⟨hv, .inl ⟨(), trivial, hJ0⟩⟩
      case body2 =>
        intro l s args s' W hr hst hsz
        exact hst.elim
      case done2 =>
        intro D2 s V hD2 hs hr hK2
        have b1 := hr.cell b1
        have b2 := hr.cell b2
        have b3 := hr.cell b3
        have hYn := hr.cell hYn
        have HM1 := Lib.hid (HM1.out.calm hr)
        have HM2 := Lib.hid (HM2.out.calm hr)
        have HM3 := Lib.hid (HM3.out.calm hr)
        have HB5 := Lib.hid (HB4.out.trans (hr.below.mono HB4.out.size))
        have HK5 := Lib.hid (show V.heap[D]? = some (.deferred (some [])) from (hr.block D (by omega)).trans HK4.out)
        have HK25 := Lib.hid hK2
        have hVs := hr.size
        clear hr hK2
        gi_wp2_with fail
        refine (callsIn_wide.2 (take_nil 0 _)).mono ?_
        rintro e V1 ⟨rfl, hbV1⟩
        have ha1 := (Below.refl V1.heap.size V1).alloc (Nat.le_refl _) (.cells #[.int .i64 0, .int .i64 0, .slice none 0 0] 32)
        have hb := hbV1.trans (ha1.mono hbV1.size)
        have b1 := cell_later hb b1
        have b2 := cell_later hb b2
        have b3 := cell_later hb b3
        have hYn := cell_later hb hYn
        have HM1 := Lib.hid (HM1.out.below hb (Nat.le_refl _))
        have HM2 := Lib.hid (HM2.out.below hb (Nat.le_refl _))
        have HM3 := Lib.hid (HM3.out.below hb (Nat.le_refl _))
        have HB6' := Lib.hid (HB5.out.trans (hb.mono HB5.out.size))
        have HK6 := Lib.hid (And.intro ((hb.block D (Array.getElem?_eq_some_iff.1 HK5.out).1).trans HK5.out) ((hb.block D2 (Array.getElem?_eq_some_iff.1 HK25.out).1).trans HK25.out))
        have hbs := hb.size
        clear ha1 hb hbV1
        gi_wp2_with fail
        obtain ⟨M1, hM1⟩ : ∃ M1, M1 = V1.alloc (.cells #[.int .i64 0, .int .i64 0, .slice none 0 0] 32) := ⟨_, rfl⟩
        rw [← hM1] at b1 b2 b3 hYn HM1 HM2 HM3 HB6' HK6 hbs ⊢
        have hM1s : M1.heap.size = V1.heap.size + 1 := by rw [hM1]; simp
        rw [← hM1s]
        have hlit := World.ownsRow_lit (base := M1.heap.size) (size := 1) (e := 30) M1 #[.slice va1 xs.length vc1, .slice va2 xs.length vc2, .slice va3 xs.length vc3] 3 (Nat.le_refl _) (by unfold maxLen; omega) rfl
        have ha2 := (Below.refl M1.heap.size M1).alloc (Nat.le_refl _) (.cells #[.slice va1 xs.length vc1, .slice va2 xs.length vc2, .slice va3 xs.length vc3] 30)
        obtain ⟨U2, hU2⟩ : ∃ U2 : Nat → Value, U2 = fun i => if i = 0 then .slice va1 xs.length vc1 else if i = 1 then .slice va2 xs.length vc2 else .slice va3 xs.length vc3 := ⟨_, rfl⟩
        have hlist2 : #[Value.slice va1 xs.length vc1, .slice va2 xs.length vc2, .slice va3 xs.length vc3].toList = (List.range 3).map U2 := by rw [hU2]; rfl
        rw [hlist2] at hlit
        have hmine : ∀ i, i < 3 → Mine M1 (pb + 1) (U2 i) xs := by
          intro i hi
          rw [hU2]
          simp only
          split
          · exact HM1.out
          · split
            · exact HM2.out
            · exact HM3.out
        have hrng : ∀ i, i < 3 → ∀ k, (U2 i).ownBlock = some k → (i = 0 → w3.heap.size ≤ k ∧ k < w'.heap.size) ∧ (i = 1 → w'.heap.size ≤ k ∧ k < w5.heap.size) ∧ (i = 2 → w5.heap.size ≤ k ∧ k < w6.heap.size) := by
          intro i hi k hk
          rw [hU2] at hk
          simp only at hk
          refine ⟨fun h => ?_, fun h => ?_, fun h => ?_⟩
          · subst h; exact HD0.out k hk
          · subst h; exact HD1.out k hk
          · subst h; exact HD2.out k hk
        have hels := Els.of_list (base := pb + 1) hlit (fun i hi => (hmine i hi).below ha2 (Nat.le_refl _)) (fun i j hi hj hij he => by
          cases hb : (U2 i).ownBlock with
          | none => rfl
          | some k =>
            have h1 := hrng i hi k hb
            have h2 := hrng j hj k (by rw [← he]; exact hb)
            exfalso
            omega)
        have hub : ∀ k, OwnB U2 3 k → w3.heap.size ≤ k ∧ k < w6.heap.size := fun k ⟨i, hi, hk⟩ => by
          have := hrng i hi k hk
          omega
        have hM1w : w6.heap.size + 2 ≤ M1.heap.size := by have := HYS.out; omega
        refine (callsIn_wide.2 (apart_calls (pb + 1) 3 M1.heap.size 0 3 U2 _ _ _ hels (by omega) (by omega) (by omega) (fun _ _ => hlen) (by simp; omega))).mono ?_
        rintro e V2 ⟨rfl, honV⟩
        have honM : Only (OwnB U2 3) M1 V2 := (Only.of_below (S := OwnB U2 3) ha2).trans honV (fun _ _ h => h)
        have hw6S : w6.heap.size ≤ S := by have := HYS.out; omega
        have hYn := honM.cell (fun h => by have := hub _ h; omega) hYn
        have HK7 := Lib.hid (And.intro ((honM.block D (Array.getElem?_eq_some_iff.1 HK6.out.1).1 (fun h => by have := hub _ h; have := HYS.out; omega)).trans HK6.out.1) ((honM.block D2 (Array.getElem?_eq_some_iff.1 HK6.out.2).1 (fun h => by have := hub _ h; omega)).trans HK6.out.2))
        have HB7 := Lib.hid (HB6'.out.trans (honM.below HB6'.out.size (fun j hj h => by have := hub _ h; omega)))
        clear hlit ha2 hlist2 hmine hrng hels honV honM hub hU2 b1 b2 b3 hM1
        gi_wp2_with fail
        refine (callsIn_wide.2 (send_nil _ _ _ _)).mono ?_
        rintro e V3 ⟨rfl, hbV3⟩
        gi_wp2_with fail
        refine (callsIn_wide.2 (twice_nil 0 _)).mono ?_
        rintro e V4 ⟨rfl, rfl⟩
        gi_wp2_with fail
        refine (callsIn_wide.2 (spoil_nil 0 0 1 _)).mono ?_
        rintro e V5 ⟨rfl, rfl⟩
        gi_wp2_with fail
        refine (callsIn_wide.2 (lose_nil 0 _)).mono ?_
        rintro e V6 ⟨rfl, hbV6⟩
        gi_wp2_with fail
        refine (callsIn_wide.2 (len_nil _)).mono ?_
        rintro e V7 ⟨rfl, rfl⟩
        gi_wp2_with fail
        have hbe := hbV3.trans (hbV6.mono hbV3.size)
        have k1 := (hbe.block D (Array.getElem?_eq_some_iff.1 HK7.out.1).1).trans HK7.out.1
        have k2 := (hbe.block D2 (Array.getElem?_eq_some_iff.1 HK7.out.2).1).trans HK7.out.2
        have hwY := HBY.out.size
        refine ⟨by simp, .inl ⟨_, _, rfl, run_takeDeferred k2, ?_⟩⟩
        have k3 : (World.putObj V7 D2 (.deferred none)).heap[D]? = some (.deferred (some [])) := (World.putObj_heap_other (by omega)).trans k1
        refine ⟨by simp, .inl ⟨_, _, rfl, run_takeDeferred k3, ?_⟩⟩
        refine ⟨.bool true, by simp [results, Try.results6, go_sem], rfl, ?_⟩
        exact ((HB7.out.trans (hbe.mono HB7.out.size)).trans (Calm.putObj (B := w.heap.size) (.deferred none) (by omega) k2 rfl).below).trans (Calm.putObj (B := w.heap.size) (.deferred none) (by omega) k3 rfl).below
end Go.Proofs.Ytpmkepmnldkccaa
