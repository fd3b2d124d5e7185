/- Layer 5: told walked. -/
import Derived.Test.YtpmkepmnldkccaaMail09
import Derived.Test.YtpmkepmnldkccaaMail21
namespace Go.Proofs.Ytpmkepmnldkccaa
open Go.RowKit Go.Shelf
attribute [local go_sem] Oper.semAt_some

theorem Post.calm {B : Nat} {w w' : World} {pb : Nat} {N : Int} {rv : Value} {es : List Ent} (h : Post w pb N rv es) (hc : Calm B w w') : Post w' pb N rv es :=
  ⟨hc.cell h.c0, hc.cell h.c1, (hc.frozen h.c1).trans h.fz, ownsRow_calm h.own hc, fun e he => (h.data e he).calm hc, h.small⟩

/-- What the range in told keeps: the count's box alone is turned. -/
structure TRel (Y : World) (S : Nat) (s : Nat × World) (W : World) : Prop where
  kept : KeptT s.2 W
  only : Only (fun j => j = S) Y W
  cnt : W.heap[S]? = some (.cells #[.int .i64 s.1] 3)
theorem TRel.calm {Y : World} {S B : Nat} {s : Nat × World} {W W' : World} (hB : Y.heap.size ≤ B) (hc : Calm B W W') (h : TRel Y S s W) : TRel Y S s W' :=
  ⟨h.kept.trans (.of_calm hc), ⟨hc.os.trans h.only.os, hc.tape.trans h.only.tape, hc.output.trans h.only.output, Nat.le_trans h.only.size hc.size, fun k hk hs => (hc.block k (by omega)).trans (h.only.block k hk hs)⟩, hc.cells _ _ h.cnt rfl⟩
theorem cells_cell {W : World} {L : Nat} {c : Array Value} {e : TypeId} (h : W.heap[L]? = some (.cells c e)) (o : Nat) (v : Value) (hv : c[o]? = some v) : W.cell? ⟨L, o, none⟩ = some v ∧ W.frozen? ⟨L, o, none⟩ = false := by
  refine ⟨?_, ?_⟩
  · simp only [World.cell?, h]; exact hv
  · simp only [World.frozen?, h]; simp

theorem TRel.step {Y W W0 W2 w1 : World} {S k : Nat} (hr : TRel Y S (k, W0) W2) (hkw : KeptT W W2) (hb : Below W2.heap.size W2 w1) :
    TRel Y S (k + 1, W) (w1.setCell ⟨S, 0, none⟩ (.int .i64 ((k : Int) + 1))) ∧ KeepsOthers W2 (w1.setCell ⟨S, 0, none⟩ (.int .i64 ((k : Int) + 1))) := by
  have h1 : w1.heap[S]? = some (.cells #[.int .i64 k] 3) := (hb.block S (Array.getElem?_eq_some_iff.1 hr.cnt).1).trans hr.cnt
  have hko : KeepsOthers W2 w1 := ⟨hb.size, fun k o hk _ => (hb.block k (Array.getElem?_eq_some_iff.1 hk).1).trans hk⟩
  refine ⟨⟨(hkw.trans (KeptT.of_below hb)).trans (KeptT.of_set _ h1 (by decide) (by decide)), ((hr.only.trans (Only.of_below (S := fun _ => False) hb) (fun _ _ h => h.elim)).setCell ⟨S, 0, none⟩ _ (.inl rfl)), ?_⟩, hko.trans (KeepsOthers.setCell _ _ _)⟩
  rw [heap_setCell_same w1 S 0 #[.int .i64 k] 3 _ h1]
  rfl
theorem alloc_new (w : World) (o : Obj) (k : Nat) (h : k = w.heap.size) : (w.alloc o).heap[k]? = some o := by subst h; exact World.alloc_heap_new w o
theorem alloc_old (w : World) (o : Obj) (k : Nat) (h : k < w.heap.size) : (w.alloc o).heap[k]? = w.heap[k]? := Below.heap_alloc w o k h
theorem five_boxes (w Y : World) (a b c d e : Obj) (hY : Y = ((((w.alloc a).alloc b).alloc c).alloc d).alloc e) :
    Y.heap.size = w.heap.size + 5 ∧ Below w.heap.size w Y ∧ Y.heap[w.heap.size]? = some a ∧ Y.heap[w.heap.size + 1]? = some b ∧ Y.heap[w.heap.size + 2]? = some c ∧ Y.heap[w.heap.size + 3]? = some d ∧ Y.heap[w.heap.size + 4]? = some e := by
  subst hY
  refine ⟨by simp, ((((Below.refl _ w).alloc (Nat.le_refl _) a).alloc (by simp) b).alloc (by first | (simp; omega) | simp) c |>.alloc (by first | (simp; omega) | simp) d).alloc (by first | (simp; omega) | simp) e, ?_, ?_, ?_, ?_, ?_⟩
  · rw [alloc_old _ _ _ (by first | (simp; omega) | simp), alloc_old _ _ _ (by first | (simp; omega) | simp), alloc_old _ _ _ (by first | (simp; omega) | simp), alloc_old _ _ _ (by simp), alloc_new _ _ _ rfl]
  · rw [alloc_old _ _ _ (by first | (simp; omega) | simp), alloc_old _ _ _ (by first | (simp; omega) | simp), alloc_old _ _ _ (by simp), alloc_new _ _ _ (by simp)]
  · rw [alloc_old _ _ _ (by first | (simp; omega) | simp), alloc_old _ _ _ (by simp), alloc_new _ _ _ (by simp)]
  · rw [alloc_old _ _ _ (by simp), alloc_new _ _ _ (by simp)]
  · rw [alloc_new _ _ _ (by simp)]

set_option maxHeartbeats 4000000 in
set_option maxRecDepth 100000 in
theorem told_calls (base pb mb : Nat) (N N' most : Int) (es es' : List Ent) (B B' : Nat → Prop) (w : World) (hp : PostB w base pb N es B) (hm : PostB w base mb N' es' B') (hk : keys es = keys es') (hn : es.length ≤ 100000) :
    Calls Try.prog 21 #[.pointer (some ⟨pb, 0, none⟩), .pointer (some ⟨mb, 0, none⟩), .int .i64 most] w fun e w' => e = .returned (.bool true) ∧ Below w.heap.size w w' := by
  obtain ⟨S, hS⟩ : ∃ S, S = w.heap.size := ⟨_, rfl⟩
  have HP := Lib.hid hp
  have HM := Lib.hid hm
  have HK := Lib.hid hk
  clear hp hm hk
  refine (callsIn_wide (n := 0)).1 ?_
  refine callsIn_of_wp_marks Try.func21 rfl trivial ?_
  simp only [Try.ntmps21, List.size_toArray, List.length_cons, List.length_nil, Nat.reduceAdd, Nat.reduceSub, Array.replicate_succ, Array.replicate_zero, List.push_toArray, List.append_toArray, List.nil_append, List.cons_append]
  gi_wp2_with (gi_at_call 24; refine (all_calls _ _).mono ?_; rintro e w7 ⟨rfl, rfl⟩)
  simp only [Nat.add_assoc, Nat.reduceAdd]
  obtain ⟨Y, hY⟩ : ∃ Y, Y = ((((w.alloc (.cells #[.pointer (some ⟨mb, 0, none⟩)] 43)).alloc (.cells #[.int .i64 most] 3)).alloc (.cells #[.bool false] 4)).alloc (.cells #[.int .i64 0] 3)).alloc (.cells #[.pointer (some ⟨pb, 0, none⟩)] 25) := ⟨_, rfl⟩
  obtain ⟨hYs, hbY, q0, q1, q2, q3, q4⟩ := five_boxes w Y _ _ _ _ _ hY
  rw [← hY]
  clear hY
  rw [← hS] at hYs q0 q1 q2 q3 q4 ⊢
  have HSS := Lib.hid hS
  clear hS
  have HPY := Lib.hid (HP.out.below hbY)
  have HMY := Lib.hid (HM.out.below hbY)
  have HBY := Lib.hid hbY
  have HQ := Lib.hid (And.intro q0 (And.intro q1 (And.intro q2 q4)))
  have hrel0 : TRel Y (S + 3) (0, Y) Y := ⟨KeptT.refl _, Only.refl _ _, q3⟩
  obtain ⟨rv, hpp, hrvB⟩ := HPY.out.post
  obtain ⟨rv', hmm, hrvB'⟩ := HMY.out.post
  have HPP := Lib.hid hpp
  have HMM := Lib.hid hmm
  have hkl : es'.length = es.length := by rw [← keys_length es', ← keys_length es, HK.out]
  have HKL := Lib.hid hkl
  have HRB := Lib.hid hrvB
  have HRB' := Lib.hid hrvB'
  clear q0 q1 q2 q3 q4 hbY hpp hmm hkl hrvB hrvB'
  refine range_w (gf := 34) (lb := #[.pointer (some ⟨S + 4, 0, none⟩)]) rfl (fun args w => enter_of Try.func34 (by kernel_rfl) rfl args w)
    (fun s W => TRel Y (S + 3) s W ∧ s.1 ≤ es.length) (fun c W => c = .exit 0 ∧ ∃ k W0, TRel Y (S + 3) (k, W0) W ∧ k ≤ es.length ∧ (k : Int) = most) (AStep es) (fun s => s.1 = es.length) (0, Y)
    (fun s W W' hc h => ⟨h.1.calm (Nat.le_refl _) hc, h.2⟩) (fun c W W' hc h => ⟨h.1, by obtain ⟨k, W0, h1, h2⟩ := h.2; exact ⟨k, W0, h1.calm (Nat.le_refl _) hc, h2⟩⟩) ⟨hrel0, Nat.zero_le _⟩ ?iter ?body ?done ?stop
  case iter =>
    intro l J' Jx' W hm _ hJJ hc hJ0 hy
    exact all1_iter _ pb N rv (S + 4) l J' Jx' W Y hn hm (fun s W h => (hJJ s W h).1.kept) (hc.cell (cells_cell HQ.out.2.2.2 0 _ rfl).1) (HPP.out.calm hc) hy hJ0
  case body =>
    intro l s args s' W hr hst hsz
    obtain ⟨hlt, hs1, hs2, dv, rfl, hm⟩ := hst
    obtain ⟨k, W0⟩ := s
    obtain ⟨k', W0'⟩ := s'
    simp only at hs1 hs2 hm hlt
    subst hs1 hs2
    have hr1 := hr.1
    have hk2 : k < es'.length := by rw [HKL.out]; exact hlt
    have hkey : es[k].key = es'[k].key := by
      have h := congrArg (fun K => K[k]?) HK.out
      simp only [keys_get es k hlt, keys_get es' k hk2] at h
      exact Option.some.inj h
    have hbt := (HMM.out.data es'[k] (List.getElem_mem _))
    have hbB := HM.out.data es'[k] (List.getElem_mem _)
    obtain ⟨rg, rc, hrv', y0, y1, y2⟩ := own_at HMM.out.own k hk2
    simp only at hr hr1 ⊢
    generalize hX : es[k] = X at *
    generalize hZ : es'[k] = Z at *
    obtain ⟨xf, xt, xv, xs⟩ := X
    obtain ⟨zf, zt, zv, zs⟩ := Z
    simp only at hm y0 y1 y2 hbt hbB ⊢
    obtain ⟨da, dc, rfl⟩ := hm.slice
    obtain ⟨za, zc, rfl⟩ := hbt.slice
    subst hrv'
    have HBT := Lib.hid hbt
    have HDV := Lib.hid hm
    have HKEY := Lib.hid hkey
    have HR := Lib.hid hr1
    have hgB := HRB'.out rg rfl
    have hgS : rg < S := by have := (HM.out.lt rg hgB).2; rw [HSS.out]; exact this
    have hmS : mb < S := by have := (HM.out.lt mb HM.out.pbB).2; rw [HSS.out]; exact this
    have c1 := HMM.out.c1
    refine ⟨rfl, ?_⟩
    clear hX hZ hbt hm hkey hr hr1 hrel0
    gi_wp2_with fail
    refine ⟨KeepsOthers.alloc _ _, fun W₂ hc => ?_⟩
    have hc0 : Calm Y.heap.size W0' W₂ := (Calm.of_below hsz ((Below.refl _ _).alloc (Nat.le_refl _) _)).trans hc
    have b0 : W₂.cell? ⟨W0'.heap.size, 0, none⟩ = some (.int .i64 xf) := hc.cell (by rw [World.cell?_alloc_at _ _ _ _ rfl]; rfl)
    have b1 : W₂.cell? ⟨W0'.heap.size, 1, none⟩ = some (.int .i64 xt) := hc.cell (by rw [World.cell?_alloc_at _ _ _ _ rfl]; rfl)
    have b2 : W₂.cell? ⟨W0'.heap.size, 2, none⟩ = some (.slice da xs.length dc) := hc.cell (by rw [World.cell?_alloc_at _ _ _ _ rfl]; rfl)
    have kr := HR.out.calm (Nat.le_refl _) hc0
    obtain ⟨m0, f0⟩ := cells_cell kr.cnt 0 (.int .i64 k) rfl
    have m1 := kr.only.cell (by omega) (cells_cell HQ.out.1 0 (.pointer (some ⟨mb, 0, none⟩)) rfl).1
    have m2 := kr.only.cell (by omega) (cells_cell HQ.out.2.1 0 (.int .i64 most) rfl).1
    have c1 := kr.only.cell (by omega) c1
    have y0 := kr.only.cell (by omega) y0
    have y1 := kr.only.cell (by omega) y1
    have y2 := kr.only.cell (by omega) y2
    have hxb : Bytes W₂ (.slice da xs.length dc) xs := Mine.bytes (HDV.out.calm hc0)
    have hzb : Bytes W₂ (.slice za zs.length zc) zs := Mine.bytes (ownsRow_only HBT.out kr.only (fun g hg e => by have := (HM.out.lt g (hbB g hg)).2; have := HSS.out; omega))
    have HXB := Lib.hid hxb
    have HZB := Lib.hid hzb
    have HKR := Lib.hid kr
    have HC0 := Lib.hid hc0
    have HC := Lib.hid hc
    clear hc hc0 kr hxb hzb hbB
    have g1 : decide ((es'.length : Int) ≤ (k : Int)) = false := decide_eq_false (by omega)
    have g2 : decide (es'.length ≤ k) = false := decide_eq_false (by omega)
    gi_wp2_with fail
    refine region_mi [(0, false), (1, false), (2, false), (3, false), (4, false), (5, false), (6, false), (7, false), (8, false), (9, false), (10, false), (11, false), (12, false), (13, false), (14, false), (15, false), (16, true), (17, false), (18, false)] 19 (fun V => V.cell? ⟨S + 3, 0, none⟩ = some (.int .i64 k) ∧ V.cell? ⟨S, 0, none⟩ = some (.pointer (some ⟨mb, 0, none⟩)) ∧ V.cell? ⟨mb, 1, none⟩ = some (.slice (some ⟨rg, 0, none⟩) es'.length rc) ∧ V.cell? ⟨rg, k * 3, none⟩ = some (.int .i64 zf) ∧ V.cell? ⟨rg, k * 3 + 1, none⟩ = some (.int .i64 zt) ∧ V.cell? ⟨rg, k * 3 + 2, none⟩ = some (.slice za zs.length zc) ∧
      V.cell? ⟨W0'.heap.size, 0, none⟩ = some (.int .i64 xf) ∧ V.cell? ⟨W0'.heap.size, 1, none⟩ = some (.int .i64 xt) ∧ V.cell? ⟨W0'.heap.size, 2, none⟩ = some (.slice da xs.length dc)) (by kernel_rfl) (by kernel_rfl) ⟨m0, m1, c1, y0, y1, y2, b0, b1, b2⟩ ?_
    iterate 16
      first
      | (refine m_take (v := ?_) rfl rfl ?_ ?_
         rotate_left
         · intro W hW
           go_simp
           with_reducible rfl
         simp only [Act.put, List.setIfInBounds_toArray, List.set_cons_zero, List.set_cons_succ])
      | (refine m_skip rfl rfl ?_
         simp only [Act.put, List.setIfInBounds_toArray, List.set_cons_zero, List.set_cons_succ])
    refine m_loud rfl (fun K hK => ?_)
    have HK := Lib.hid hK
    clear hK
    go_simp
    have hcall := rsame_calls ⟨xf, xt, .slice da xs.length dc, xs⟩ ⟨zf, zt, .slice za zs.length zc, zs⟩ W₂.drew (HXB.out.below ((Below.refl W₂.heap.size W₂).drew) (Nat.le_refl _)) (HZB.out.below ((Below.refl W₂.heap.size W₂).drew) (Nat.le_refl _))
    rw [show ((⟨xf, xt, .slice da xs.length dc, xs⟩ : Ent).key == (⟨zf, zt, .slice za zs.length zc, zs⟩ : Ent).key) = true from beq_iff_eq.2 HKEY.out] at hcall
    refine hcall.mono ?_
    clear hcall
    rintro e w1 ⟨rfl, hb1⟩
    have hb1 : Below W₂.heap.size W₂ w1 := ((Below.refl W₂.heap.size W₂).drew).trans hb1
    have hend := TRel.step (HKR.out) (KeptT.of_calm HC0.out) hb1
    have HEND := Lib.hid hend
    have mf := cell_later hb1 m0
    have ff : w1.frozen? ⟨S + 3, 0, none⟩ = false := (World.frozen?_of_block (a := ⟨S + 3, 0, none⟩) (hb1.block (S + 3) (World.block_lt_of_cell? W₂ _ m0))).trans f0
    have mm := cell_later hb1 m2
    refine HK.out _ _ ⟨cell_later hb1 m0, cell_later hb1 m1, cell_later hb1 c1, cell_later hb1 y0, cell_later hb1 y1, cell_later hb1 y2, cell_later hb1 b0, cell_later hb1 b1, cell_later hb1 b2⟩ ?_
    clear HK
    clear hb1 m0 m1 m2 c1 y0 y1 y2 b0 b1 b2 f0 hend
    iterate 2
      first
      | (refine m_take (v := ?_) rfl rfl ?_ ?_
         rotate_left
         · intro W hW
           go_simp
           with_reducible rfl
         simp only [Act.put, List.setIfInBounds_toArray, List.set_cons_zero, List.set_cons_succ])
      | (refine m_skip rfl rfl ?_
         simp only [Act.put, List.setIfInBounds_toArray, List.set_cons_zero, List.set_cons_succ])
    refine m_done ?_
    simp only [List.drop_succ_cons, List.drop_zero]
    go_wp2
    simp only [NP]
    have q1 : IntKind.i64.wrap ((k : Int) + 1) = (k : Int) + 1 := by rw [IntKind.wrap_i64]; omega
    cases hq : (((k : Int) + 1) == most) with
    | true =>
      gi_wp2_with fail
      exact ⟨HEND.out.2, rfl, k + 1, W0', HEND.out.1, hlt, by rw [Int.natCast_add]; exact beq_iff_eq.1 hq⟩
    | false =>
      gi_wp2_with fail
      exact ⟨HEND.out.2, HEND.out.1, hlt⟩
  case done =>
    intro D s W hD hs hr hK
    obtain ⟨k, W0⟩ := s
    simp only at hs
    have ht := hr.1
    have hfin : k = es.length ∨ (k : Int) = most := .inl hs
    clear hr hs
    obtain ⟨ra, rc, hrv⟩ := HPP.out.slice
    obtain ⟨ra', rc', hrv'⟩ := HMM.out.slice
    subst hrv hrv'
    have hpS : pb < S := by have := (HP.out.lt pb HP.out.pbB).2; rw [HSS.out]; exact this
    have hmS : mb < S := by have := (HM.out.lt mb HM.out.pbB).2; rw [HSS.out]; exact this
    have cp := ht.only.cell (by omega) HPP.out.c1
    have cm := ht.only.cell (by omega) HMM.out.c1
    obtain ⟨m0, f0⟩ := cells_cell ht.cnt 0 (.int .i64 k) rfl
    have m1 := ht.only.cell (by omega) (cells_cell HQ.out.1 0 (.pointer (some ⟨mb, 0, none⟩)) rfl).1
    have m2 := ht.only.cell (by omega) (cells_cell HQ.out.2.1 0 (.int .i64 most) rfl).1
    have r2 := ht.only.cell (by omega) (cells_cell HQ.out.2.2.1 0 (.bool false) rfl).1
    have rf : W.frozen? ⟨S + 2, 0, none⟩ = false := (World.frozen?_of_block (a := ⟨S + 2, 0, none⟩) (ht.only.block (S + 2) (by omega) (by omega))).trans (cells_cell HQ.out.2.2.1 0 (.bool false) rfl).2
    have hq0 : ((es.length : Int) == (es'.length : Int)) = true := by rw [HKL.out]; exact beq_self_eq_true _
    have HBW := Lib.hid (HBY.out.trans (ht.only.below HBY.out.size (fun j hj e => by have := HSS.out; omega)))
    have HKD := Lib.hid hK
    have hwS := HSS.out
    have HWS := Lib.hid hwS
    have hway : ((k : Int) == (es'.length : Int)) = true ∨ (((k : Int) == (es'.length : Int)) = false ∧ ((k : Int) == most) = true) := by
      by_cases he : k = es.length
      · left; rw [HKL.out, he]; exact beq_self_eq_true _
      · right
        refine ⟨beq_eq_false_iff_ne.2 (by rw [HKL.out]; omega), ?_⟩
        rcases hfin with h | h
        · exact absurd h he
        · rw [h]; exact beq_self_eq_true _
    clear ht hK hwS hrel0 hfin
    rcases hway with w1 | ⟨w1, w2⟩
    all_goals
      gi_wp2_with fail
      refine region_mi [(0, false), (2, false), (3, false), (4, false), (5, false), (6, false), (1, true), (7, false), (8, false), (9, false), (10, false), (11, false), (12, false), (13, false), (14, false), (15, false), (16, false), (17, false), (18, false), (19, false), (20, false), (21, false)] 22 (fun V => V.cell? ⟨pb, 1, none⟩ = some (.slice ra es.length rc) ∧ V.cell? ⟨S + 3, 0, none⟩ = some (.int .i64 k) ∧ V.cell? ⟨S, 0, none⟩ = some (.pointer (some ⟨mb, 0, none⟩)) ∧ V.cell? ⟨mb, 1, none⟩ = some (.slice ra' es'.length rc') ∧ V.cell? ⟨S + 1, 0, none⟩ = some (.int .i64 most)) (by kernel_rfl) (by kernel_rfl) ⟨cp, m0, m1, cm, m2⟩ ?_
      iterate 6
        first
        | (refine m_take (v := ?_) rfl rfl ?_ ?_
           rotate_left
           · intro W hW
             go_simp
             with_reducible rfl
           simp only [Act.put, List.setIfInBounds_toArray, List.set_cons_zero, List.set_cons_succ])
        | (refine m_skip rfl rfl ?_
           simp only [Act.put, List.setIfInBounds_toArray, List.set_cons_zero, List.set_cons_succ])
      refine m_loud rfl (fun K hK => ?_)
      have HK := Lib.hid hK
      clear hK
      go_simp
      refine (len_calls pb es.length rc ra W.drew cp).mono ?_
      rintro e V ⟨rfl, hV⟩
      subst hV
      refine HK.out _ _ ⟨cp, m0, m1, cm, m2⟩ ?_
      clear HK
      iterate 15
        first
        | (refine m_take (v := ?_) rfl rfl ?_ ?_
           rotate_left
           · intro W hW
             go_simp
             with_reducible rfl
           simp only [Act.put, List.setIfInBounds_toArray, List.set_cons_zero, List.set_cons_succ])
        | (refine m_skip rfl rfl ?_
           simp only [Act.put, List.setIfInBounds_toArray, List.set_cons_zero, List.set_cons_succ])
      refine m_done ?_
      simp only [List.drop_succ_cons, List.drop_zero]
      go_wp2
      simp only [NP]
      gi_wp2_with fail
      have hK2 : (W.setCell ⟨S + 2, 0, none⟩ (.bool true)).drew.heap[D]? = some (.deferred (some [])) := (heap_setCell_other W ⟨S + 2, 0, none⟩ D _ (by simp; omega)).trans HKD.out
      refine ⟨by simp, .inl ⟨_, _, rfl, run_takeDeferred hK2, ?_⟩⟩
      have hcal := Calm.putObj (B := w.heap.size) (.deferred none) (by have := HWS.out; omega) hK2 rfl
      have hcc := hcal.cell (a := ⟨S + 2, 0, none⟩) (cell_set_same (.bool true) r2)
      refine ⟨.bool true, ?_, rfl, ((HBW.out.setCell (p := ⟨S + 2, 0, none⟩) (by have := HWS.out; show w.heap.size ≤ S + 2; omega) _).drew).trans hcal.below⟩
      simp [results, Try.results21, go_sem, hcc]
  case stop =>
    intro D c W hD hr hK
    obtain ⟨rfl, k, W0, ht, hkn, hmost⟩ := hr
    have hfin : k = es.length ∨ (k : Int) = most := .inr hmost
    clear hmost
    obtain ⟨ra, rc, hrv⟩ := HPP.out.slice
    obtain ⟨ra', rc', hrv'⟩ := HMM.out.slice
    subst hrv hrv'
    have hpS : pb < S := by have := (HP.out.lt pb HP.out.pbB).2; rw [HSS.out]; exact this
    have hmS : mb < S := by have := (HM.out.lt mb HM.out.pbB).2; rw [HSS.out]; exact this
    have cp := ht.only.cell (by omega) HPP.out.c1
    have cm := ht.only.cell (by omega) HMM.out.c1
    obtain ⟨m0, f0⟩ := cells_cell ht.cnt 0 (.int .i64 k) rfl
    have m1 := ht.only.cell (by omega) (cells_cell HQ.out.1 0 (.pointer (some ⟨mb, 0, none⟩)) rfl).1
    have m2 := ht.only.cell (by omega) (cells_cell HQ.out.2.1 0 (.int .i64 most) rfl).1
    have r2 := ht.only.cell (by omega) (cells_cell HQ.out.2.2.1 0 (.bool false) rfl).1
    have rf : W.frozen? ⟨S + 2, 0, none⟩ = false := (World.frozen?_of_block (a := ⟨S + 2, 0, none⟩) (ht.only.block (S + 2) (by omega) (by omega))).trans (cells_cell HQ.out.2.2.1 0 (.bool false) rfl).2
    have hq0 : ((es.length : Int) == (es'.length : Int)) = true := by rw [HKL.out]; exact beq_self_eq_true _
    have HBW := Lib.hid (HBY.out.trans (ht.only.below HBY.out.size (fun j hj e => by have := HSS.out; omega)))
    have HKD := Lib.hid hK
    have hwS := HSS.out
    have HWS := Lib.hid hwS
    have hway : ((k : Int) == (es'.length : Int)) = true ∨ (((k : Int) == (es'.length : Int)) = false ∧ ((k : Int) == most) = true) := by
      by_cases he : k = es.length
      · left; rw [HKL.out, he]; exact beq_self_eq_true _
      · right
        refine ⟨beq_eq_false_iff_ne.2 (by rw [HKL.out]; omega), ?_⟩
        rcases hfin with h | h
        · exact absurd h he
        · rw [h]; exact beq_self_eq_true _
    clear ht hK hwS hrel0 hfin
    rcases hway with w1 | ⟨w1, w2⟩
    all_goals
      gi_wp2_with fail
      refine region_mi [(0, false), (2, false), (3, false), (4, false), (5, false), (6, false), (1, true), (7, false), (8, false), (9, false), (10, false), (11, false), (12, false), (13, false), (14, false), (15, false), (16, false), (17, false), (18, false), (19, false), (20, false), (21, false)] 22 (fun V => V.cell? ⟨pb, 1, none⟩ = some (.slice ra es.length rc) ∧ V.cell? ⟨S + 3, 0, none⟩ = some (.int .i64 k) ∧ V.cell? ⟨S, 0, none⟩ = some (.pointer (some ⟨mb, 0, none⟩)) ∧ V.cell? ⟨mb, 1, none⟩ = some (.slice ra' es'.length rc') ∧ V.cell? ⟨S + 1, 0, none⟩ = some (.int .i64 most)) (by kernel_rfl) (by kernel_rfl) ⟨cp, m0, m1, cm, m2⟩ ?_
      iterate 6
        first
        | (refine m_take (v := ?_) rfl rfl ?_ ?_
           rotate_left
           · intro W hW
             go_simp
             with_reducible rfl
           simp only [Act.put, List.setIfInBounds_toArray, List.set_cons_zero, List.set_cons_succ])
        | (refine m_skip rfl rfl ?_
           simp only [Act.put, List.setIfInBounds_toArray, List.set_cons_zero, List.set_cons_succ])
      refine m_loud rfl (fun K hK => ?_)
      have HK := Lib.hid hK
      clear hK
      go_simp
      refine (len_calls pb es.length rc ra W.drew cp).mono ?_
      rintro e V ⟨rfl, hV⟩
      subst hV
      refine HK.out _ _ ⟨cp, m0, m1, cm, m2⟩ ?_
      clear HK
      iterate 15
        first
        | (refine m_take (v := ?_) rfl rfl ?_ ?_
           rotate_left
           · intro W hW
             go_simp
             with_reducible rfl
           simp only [Act.put, List.setIfInBounds_toArray, List.set_cons_zero, List.set_cons_succ])
        | (refine m_skip rfl rfl ?_
           simp only [Act.put, List.setIfInBounds_toArray, List.set_cons_zero, List.set_cons_succ])
      refine m_done ?_
      simp only [List.drop_succ_cons, List.drop_zero]
      go_wp2
      simp only [NP]
      gi_wp2_with fail
      have hK2 : (W.setCell ⟨S + 2, 0, none⟩ (.bool true)).drew.heap[D]? = some (.deferred (some [])) := (heap_setCell_other W ⟨S + 2, 0, none⟩ D _ (by simp; omega)).trans HKD.out
      refine ⟨by simp, .inl ⟨_, _, rfl, run_takeDeferred hK2, ?_⟩⟩
      have hcal := Calm.putObj (B := w.heap.size) (.deferred none) (by have := HWS.out; omega) hK2 rfl
      have hcc := hcal.cell (a := ⟨S + 2, 0, none⟩) (cell_set_same (.bool true) r2)
      refine ⟨.bool true, ?_, rfl, ((HBW.out.setCell (p := ⟨S + 2, 0, none⟩) (by have := HWS.out; show w.heap.size ≤ S + 2; omega) _).drew).trans hcal.below⟩
      simp [results, Try.results21, go_sem, hcc]
end Go.Proofs.Ytpmkepmnldkccaa
