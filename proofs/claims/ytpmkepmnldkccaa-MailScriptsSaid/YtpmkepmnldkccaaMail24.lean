/- Layer 5: MailScripts walked. -/
import Derived.Test.YtpmkepmnldkccaaMail23
namespace Go.Proofs.Ytpmkepmnldkccaa
open Go.RowKit Go.Shelf

theorem kinds (k : Int) : k = 0 ∨ k = 1 ∨ k = 2 ∨ k = 3 ∨ k = 4 ∨ ((k == 0) = false ∧ (k == 1) = false ∧ (k == 2) = false ∧ (k == 3) = false ∧ (k == 4) = false) := by
  by_cases h0 : k = 0
  · exact .inl h0
  by_cases h1 : k = 1
  · exact .inr (.inl h1)
  by_cases h2 : k = 2
  · exact .inr (.inr (.inl h2))
  by_cases h3 : k = 3
  · exact .inr (.inr (.inr (.inl h3)))
  by_cases h4 : k = 4
  · exact .inr (.inr (.inr (.inr (.inl h4))))
  exact .inr (.inr (.inr (.inr (.inr ⟨beq_eq_false_iff_ne.2 h0, beq_eq_false_iff_ne.2 h1, beq_eq_false_iff_ne.2 h2, beq_eq_false_iff_ne.2 h3, beq_eq_false_iff_ne.2 h4⟩))))
theorem c_drew {w : World} {a : Addr} {v : Value} (h : w.cell? a = some v) : w.drew.cell? a = some v := h
theorem X_lt {w : World} {X : Nat} {o : Obj} (h : X = w.heap.size) : X < (w.alloc o).heap.size := by simp; omega

set_option maxHeartbeats 4000000 in
set_option maxRecDepth 100000 in
theorem scripts_core (nodes : Int) (v : Value) (ss : List Stp) (w : World) (hv : Stps w v ss) (hok : ∀ s ∈ ss, StpOk w s) :
    Calls Try.prog 5 #[.int .i64 nodes, v] w fun e w' => e = .returned (.bool true) ∧ Below w.heap.size w w' := by
  have HV := Lib.hid hv
  have HOK := Lib.hid hok
  obtain ⟨a, cap, rfl, hle, hcap⟩ := Rd.slice hv
  clear hv hok
  go_enter Try.func5, Try.ntmps5
  go_wp2_with fail
  refine (known_calls _).mono ?_
  rintro e w1 ⟨rfl, hb1⟩
  have HB1 := Lib.hid hb1
  clear hb1
  go_wp2_with fail
  by_cases hN : nodes < 1 ∨ 64 < nodes
  · have hn1 : (decide (nodes < 1) = true) ∨ (decide (nodes < 1) = false ∧ decide (64 < nodes) = true) := by
      by_cases h : nodes < 1
      · exact .inl (decide_eq_true h)
      · exact .inr ⟨decide_eq_false h, decide_eq_true (by omega)⟩
    refine (new_no nodes _ hN).mono ?_
    rintro e w2 ⟨rfl, rfl⟩
    clear hN
    rcases hn1 with h1 | ⟨h1, h2⟩
    all_goals
      go_wp2_with fail
      go_ret
      exact ⟨rfl, HB1.out⟩
  · have h1 : decide (nodes < 1) = false := decide_eq_false (by omega)
    have h2 : decide (64 < nodes) = false := decide_eq_false (by omega)
    refine (new_calls nodes _ (by omega) (by omega)).mono ?_
    rintro e w2 ⟨rfl, hp2, hb2⟩
    have HP2 := Lib.hid hp2
    have HB2 := Lib.hid (HB1.out.trans (hb2.mono HB1.out.size))
    have hpl := hp2.lt
    have hbs1 := HB1.out.size
    clear hp2 hb2 hN
    generalize hpb : w1.heap.size = pb at *
    have hwp : w.heap.size ≤ pb := by rw [← hpb]; exact HB1.out.size
    clear hpb HB1 hbs1 hpl
    obtain ⟨mb, hmb⟩ : ∃ mb, mb = w2.heap.size := ⟨_, rfl⟩
    have hp0 : pb < w2.heap.size := HP2.out.lt
    go_wp2_with fail
    rw [← hmb]
    have htwo : Two (w2.alloc (.cells #[.int .i64 nodes, .slice none 0 0] 45)) w.heap.size pb mb nodes [] [] [] [] (fun j => j = pb) (fun j => j = mb) := by
      refine ⟨⟨⟨_, HP2.out.below ((Below.refl _ _).alloc (Nat.le_refl _) _), fun g hg => by simp [Value.ownBlock] at hg⟩, rfl, fun e he => by simp at he, ?_⟩, ⟨⟨.slice none 0 0, ⟨?_, ?_, ?_, World.ownsRow_nil _ _ _ _, fun e he => by simp at he, fun e he => by simp at he⟩, fun g hg => by simp [Value.ownBlock] at hg⟩, rfl, fun e he => by simp at he, ?_⟩, ?_, rfl, rfl, ?_⟩
      · rintro j rfl; simp; omega
      · rw [hmb, World.cell?_alloc_at _ _ _ _ rfl]; rfl
      · rw [hmb, World.cell?_alloc_at _ _ _ _ rfl]; rfl
      · rw [hmb, World.frozen?_alloc_at _ _ _ _ rfl]
      · rintro j rfl; simp; omega
      · rintro j rfl h; omega
      · simp; omega
    have HTWO := Lib.hid htwo
    have HBA := Lib.hid (HB2.out.alloc (by omega : w.heap.size ≤ w2.heap.size) (.cells #[.int .i64 nodes, .slice none 0 0] 45))
    have hpm : pb < mb := by omega
    have HMB := Lib.hid hmb
    clear htwo hmb hp0
    go_loopw [8, 9, 10, 11, 12, 13, 14] (fun iv _ _ _ _ _ _ wr => ∃ (k : Nat) (es es' : List Ent) (B B' : Nat → Prop) (K : List Key), k ≤ 200 ∧ k ≤ ss.length ∧ iv = .int .i64 k ∧ K.length ≤ k ∧ Two wr w.heap.size pb mb nodes K K es es' B B' ∧ Below w.heap.size w wr) (fun iv _ _ _ _ _ _ _ => 200 - (intOf iv).toNat)
    case atStart => exact ⟨0, [], [], _, _, [], by omega, by omega, rfl, by simp, HTWO.out, HBA.out⟩
    case round =>
      clear HTWO HBA HP2 HB2
      obtain ⟨k, es, es', B, B', K, hk200, hk, rfl, hKk, htw, hb⟩ := hrel
      have HTW := Lib.hid htw
      have HB := Lib.hid hb
      clear htw hb
      by_cases hlt : k < ss.length ∧ k < 200
      · obtain ⟨hl1, hl2⟩ := hlt
        obtain ⟨b1, o1, rfl, hc0, hc1, hc2, hc3, hc4, hc5, hc6⟩ := stp_at HV.out k hl1
        have c0 := cell_later HB.out hc0
        have c1 := cell_later HB.out hc1
        have c2 := cell_later HB.out hc2
        have c3 := cell_later HB.out hc3
        have c4 := cell_later HB.out hc4
        have c5 := cell_later HB.out hc5
        have c6 := cell_later HB.out hc6
        have hs := HOK.out ss[k] (List.getElem_mem _)
        have hd0 := hs.data.below HB.out (Nat.le_refl _)
        have htu := hs.tu
        have HEK : Hid (∃ E, E = ss[k]) := Lib.hid ⟨_, rfl⟩
        generalize hE : ss[k] = E at *
        obtain ⟨sk, si, sa, stu, sf, st, sdv, sxs⟩ := E
        simp only at c0 c1 c2 c3 c4 c5 c6 hd0 htu
        obtain ⟨da, dc, rfl, -⟩ := id hd0
        have HD0 := Lib.hid hd0
        have HDW := Lib.hid hs.data
        clear hc0 hc1 hc2 hc3 hc4 hc5 hc6 hs hE HEK hd0
        obtain ⟨X, hX⟩ : ∃ X, X = wr.heap.size := ⟨_, rfl⟩
        have hXB : ¬ B X := fun h => by have := (HTW.out.p.lt X h).2; omega
        have hXB' : ¬ B' X := fun h => by have := (HTW.out.m.lt X h).2; omega
        have hal := (Below.refl wr.heap.size wr).alloc (Nat.le_refl _) (.cells #[.int .i64 sk, .int .i64 si, .int .i64 sa, .int .u8 stu, .int .i64 sf, .int .i64 st, .slice da sxs.length dc] 47)
        have htw2 := HTW.out.below hal
        have HTW2 := Lib.hid htw2
        have HB2 := Lib.hid (HB.out.trans (hal.mono HB.out.size))
        have HD2 := Lib.hid (HD0.out.below hal (Nat.le_refl _))
        have q : ∀ o u, (#[.int .i64 sk, .int .i64 si, .int .i64 sa, .int .u8 stu, .int .i64 sf, .int .i64 st, .slice da sxs.length dc] : Array Value)[o]? = some u → (wr.alloc (.cells #[.int .i64 sk, .int .i64 si, .int .i64 sa, .int .u8 stu, .int .i64 sf, .int .i64 st, .slice da sxs.length dc] 47)).cell? ⟨X, o, none⟩ = some u := fun o u h => by
          rw [World.cell?_alloc_at _ _ _ _ hX]; exact h
        have q1 := q 1 _ rfl
        have q2 := q 2 _ rfl
        have q3 := q 3 _ rfl
        have q4 := q 4 _ rfl
        have q5 := q 5 _ rfl
        have q6 := q 6 _ rfl
        have QQ := Lib.hid (And.intro q1 (And.intro q2 (And.intro q3 (And.intro q4 (And.intro q5 q6)))))
        have HX := Lib.hid hX
        clear hal htw2 q q1 q2 q3 q4 q5 q6 HTW HB HD0 hX
        rcases kinds sk with rfl | rfl | rfl | rfl | rfl | ⟨e0, e1, e2, e3, e4⟩
        · go_wp2_with fail
          rw [← HX.out]
          have HT0 := Lib.hid (HTW2.out.below ((Below.refl _ _).drew))
          have hle1 : es.length ≤ 100000 := by have := HTW2.out.plen; omega
          have hle2 : es'.length ≤ 100000 := by have := HTW2.out.mlen; omega
          have hKK := sendK_len nodes sf st sxs K
          refine region_m [(0, false), (1, false), (2, false), (4, false), (5, false), (6, false), (3, true), (7, true), (8, false), (9, false)] 10 (fun V => V.cell? ⟨X, 4, none⟩ = some (.int .i64 sf) ∧ V.cell? ⟨X, 5, none⟩ = some (.int .i64 st) ∧ V.cell? ⟨X, 6, none⟩ = some (.slice da sxs.length dc)) (by kernel_rfl) (by kernel_rfl) (by exact ⟨QQ.out.2.2.2.1, QQ.out.2.2.2.2.1, QQ.out.2.2.2.2.2⟩) ?_
          iterate 6
            first
            | (refine m_take (v := ?_) rfl rfl ?_ ?_
               rotate_left
               · intro W hW
                 go_simp
                 with_reducible rfl
               simp only [Act.put, List.setIfInBounds_toArray, List.set_cons_zero, List.set_cons_succ])
            | (refine m_skip rfl rfl ?_
               simp only [Act.put, List.setIfInBounds_toArray, List.set_cons_zero, List.set_cons_succ])
          refine m_loud rfl (fun K hK => ?_)
          have HK := Lib.hid hK
          clear hK
          go_simp
          refine (send_spec _ pb nodes es B sf st _ sxs _ HT0.out.p HT0.out.bs (HDW.out.below HB2.out.drew (Nat.le_refl _)) hle1).mono ?_
          rintro e w3 ⟨rfl, es3, hk3, ha3⟩
          have HK3 := Lib.hid (hk3.trans (congrArg (fun K => sendK nodes sf st sxs K) HT0.out.kp))
          have HT3 := Lib.hid (HT0.out.pstep ha3 HK3.out)
          have HB3 := Lib.hid (HB2.out.drew.trans (After.below HT0.out.p ha3))
          have d4 := ha3.cell hXB (c_drew QQ.out.2.2.2.1)
          have d5 := ha3.cell hXB (c_drew QQ.out.2.2.2.2.1)
          have d6 := ha3.cell hXB (c_drew QQ.out.2.2.2.2.2)
          try rw [HT0.out.kp]
          clear ha3 hk3
          refine HK.out _ _ (by exact ⟨d4, d5, d6⟩) ?_
          clear HK
          refine m_loud rfl (fun K hK => ?_)
          have HK := Lib.hid hK
          clear hK
          go_simp
          refine (rsend_spec _ mb nodes es' B' sf st _ sxs _ HT3.out.m HT3.out.bs (HDW.out.below HB3.out (Nat.le_refl _)) hle2).mono ?_
          rintro e w5 ⟨rfl, es5, hk5, ha5⟩
          have HK5 := Lib.hid (hk5.trans (congrArg (fun K => sendK nodes sf st sxs K) HT3.out.km))
          have HTF := Lib.hid (HT3.out.mstep ha5 HK5.out)
          have HBF := Lib.hid (HB3.out.trans (After.below HT3.out.m ha5))
          have f4 := ha5.cell hXB' d4
          have f5 := ha5.cell hXB' d5
          have f6 := ha5.cell hXB' d6
          try rw [HT3.out.km]
          clear ha5 hk5
          refine HK.out _ _ (by exact ⟨f4, f5, f6⟩) ?_
          clear HK
          clear d4 f4 d5 f5 d6 f6
          iterate 2
            first
            | (refine m_take (v := ?_) rfl rfl ?_ ?_
               rotate_left
               · intro W hW
                 go_simp
                 with_reducible rfl
               simp only [Act.put, List.setIfInBounds_toArray, List.set_cons_zero, List.set_cons_succ])
            | (refine m_skip rfl rfl ?_
               simp only [Act.put, List.setIfInBounds_toArray, List.set_cons_zero, List.set_cons_succ])
          refine m_done ?_
          simp only [List.drop_succ_cons, List.drop_zero]
          go_wp2
          simp only [NP]
          go_wp2_with fail
          have hnd := HTF.out.plen
          refine (told_calls _ pb mb nodes nodes (-1) _ _ _ _ _ HTF.out.p HTF.out.m (HTF.out.kp.trans HTF.out.km.symm) (by omega)).mono ?_
          rintro e w9 ⟨rfl, hb9⟩
          have HT9 := Lib.hid (HTF.out.below hb9)
          have HB9 := Lib.hid (HBF.out.trans (hb9.mono HBF.out.size))
          clear hb9
          go_wp2_with fail
          go_roundw
          case rel => exact ⟨k + 1, _, _, _, _, _, by omega, by omega, by go_num, by omega, HT9.out, HB9.out⟩
          case measure => simp [intOf]; omega
        · go_wp2_with fail
          rw [← HX.out]
          have hle1 : es.length ≤ 100000 := by have := HTW2.out.plen; omega
          have hle2 : es'.length ≤ 100000 := by have := HTW2.out.mlen; omega
          have hKK := takeK_len si K
          refine (take_spec _ pb nodes es B si _ HTW2.out.p HTW2.out.bs hle1).mono ?_
          rintro e w3 ⟨m, hmk, rfl, hmd, hmg, es3, hk3, ha3⟩
          have HK3 := Lib.hid (hk3.trans (congrArg (fun K => (takeK si K).2.2) HTW2.out.kp))
          have hmk := hmk.trans (congrArg (fun K => (takeK si K).2.1) HTW2.out.kp)
          have HT3 := Lib.hid (HTW2.out.pstep ha3 HK3.out)
          have HB3 := Lib.hid (HB2.out.trans (After.below HTW2.out.p ha3))
          have d1 := ha3.cell hXB QQ.out.1
          have hXs : X < w3.heap.size := World.block_lt_of_cell? w3 _ d1
          rw [HTW2.out.kp]
          obtain ⟨mf, mt, mdv, mxs⟩ := m
          simp only at hmd hmg ⊢
          have HMD := Lib.hid hmd
          have HMG := Lib.hid hmg
          have HMK := Lib.hid hmk
          obtain ⟨ma, mc, rfl⟩ := hmd.slice
          clear hmd hmg hmk ha3 hk3
          generalize hcode : (takeK si K).1 = code
          have HCODE := Lib.hid hcode
          clear hcode
          go_wp2_with fail
          have hal3 := (Below.refl w3.heap.size w3).alloc (Nat.le_refl _) (.cells #[.int .i64 mf, .int .i64 mt, .slice ma mxs.length mc] 32)
          have HT4 := Lib.hid (HT3.out.below hal3)
          have HB4 := Lib.hid (HB3.out.trans (hal3.mono HB3.out.size))
          refine (rtake_spec _ mb nodes es' B' si _ HT4.out.m HT4.out.bs hle2).mono ?_
          rintro e w5 ⟨n, hnk, rfl, hnd, hng, es5, hk5, ha5⟩
          have hk5 := hk5.trans (congrArg (fun K => (takeK si K).2.2) HT4.out.km)
          have hnk := hnk.trans (congrArg (fun K => (takeK si K).2.1) HT4.out.km)
          have HT5 := Lib.hid (HT4.out.mstep ha5 hk5)
          have HB5 := Lib.hid (HB4.out.trans (After.below HT4.out.m ha5))
          have hws : w3.heap.size < w5.heap.size := by have := ha5.only.size; simp at this; omega
          have hnB : ¬ B' w3.heap.size := fun h => by have := (HT3.out.m.lt _ h).2; omega
          have m : ∀ o u, (#[.int .i64 mf, .int .i64 mt, .slice ma mxs.length mc] : Array Value)[o]? = some u → w5.cell? ⟨w3.heap.size, o, none⟩ = some u := fun o u h => ha5.cell hnB (by rw [World.cell?_alloc_at _ _ _ _ rfl]; exact h)
          have m0 := m 0 _ rfl
          have m1 := m 1 _ rfl
          have m2 := m 2 _ rfl
          have hmb := ownsRow_only (ownsRow_below HMD.out hal3 (Nat.le_refl _)) ha5.only (fun g hg h => HT4.out.dis g (HMG.out g hg) h)
          have HMB5 := Lib.hid (Mine.bytes hmb)
          obtain ⟨nf, nt, ndv, nxs⟩ := n
          simp only at hnd hng ⊢
          have HND := Lib.hid (Mine.bytes hnd)
          have HNK := Lib.hid hnk
          obtain ⟨na, nc, rfl⟩ := hnd.slice
          rw [HT4.out.km, HCODE.out]
          clear hmb hnd hng hnk hk5 ha5 hnB m hal3
          go_wp2_with fail
          have hal5 := (Below.refl w5.heap.size w5).alloc (Nat.le_refl _) (.cells #[.int .i64 nf, .int .i64 nt, .slice na nxs.length nc] 32)
          have hcall := rsame_calls ⟨mf, mt, .slice ma mxs.length mc, mxs⟩ ⟨nf, nt, .slice na nxs.length nc, nxs⟩ _ (HMB5.out.below hal5 (Nat.le_refl _)) (HND.out.below hal5 (Nat.le_refl _))
          rw [show ((⟨mf, mt, .slice ma mxs.length mc, mxs⟩ : Ent).key == (⟨nf, nt, .slice na nxs.length nc, nxs⟩ : Ent).key) = true from beq_iff_eq.2 (HMK.out.trans HNK.out.symm)] at hcall
          refine hcall.mono ?_
          rintro e w6 ⟨rfl, hb6⟩
          have hall := hal5.trans (hb6.mono hal5.size)
          have HTF := Lib.hid (HT5.out.below hall)
          have HBF := Lib.hid (HB5.out.trans (hall.mono HB5.out.size))
          clear hcall hb6 hal5 hall m0 m1 m2
          go_wp2_with fail
          have hnd := HTF.out.plen
          refine (told_calls _ pb mb nodes nodes (-1) _ _ _ _ _ HTF.out.p HTF.out.m (HTF.out.kp.trans HTF.out.km.symm) (by omega)).mono ?_
          rintro e w9 ⟨rfl, hb9⟩
          have HT9 := Lib.hid (HTF.out.below hb9)
          have HB9 := Lib.hid (HBF.out.trans (hb9.mono HBF.out.size))
          clear hb9
          go_wp2_with fail
          go_roundw
          case rel => exact ⟨k + 1, _, _, _, _, _, by omega, by omega, by go_num, by omega, HT9.out, HB9.out⟩
          case measure => simp [intOf]; omega
        · go_wp2_with fail
          rw [← HX.out]
          have HT0 := Lib.hid (HTW2.out.below ((Below.refl _ _).drew))
          have hle1 : es.length ≤ 100000 := by have := HTW2.out.plen; omega
          have hle2 : es'.length ≤ 100000 := by have := HTW2.out.mlen; omega
          have hKK := twiceK_len si K
          refine region_m [(0, false), (1, false), (2, false), (4, false), (5, false), (6, false), (3, true), (7, true), (8, false), (9, false)] 10 (fun V => V.cell? ⟨X, 1, none⟩ = some (.int .i64 si)) (by kernel_rfl) (by kernel_rfl) (by exact QQ.out.1) ?_
          iterate 6
            first
            | (refine m_take (v := ?_) rfl rfl ?_ ?_
               rotate_left
               · intro W hW
                 go_simp
                 with_reducible rfl
               simp only [Act.put, List.setIfInBounds_toArray, List.set_cons_zero, List.set_cons_succ])
            | (refine m_skip rfl rfl ?_
               simp only [Act.put, List.setIfInBounds_toArray, List.set_cons_zero, List.set_cons_succ])
          refine m_loud rfl (fun K hK => ?_)
          have HK := Lib.hid hK
          clear hK
          go_simp
          refine (twice_spec _ pb nodes es B si _ HT0.out.p HT0.out.bs hle1).mono ?_
          rintro e w3 ⟨rfl, es3, hk3, ha3⟩
          have HK3 := Lib.hid (hk3.trans (congrArg (fun K => (twiceK si K).2) HT0.out.kp))
          have HT3 := Lib.hid (HT0.out.pstep ha3 HK3.out)
          have HB3 := Lib.hid (HB2.out.drew.trans (After.below HT0.out.p ha3))
          have d1 := ha3.cell hXB (c_drew QQ.out.1)
          try rw [HT0.out.kp]
          clear ha3 hk3
          refine HK.out _ _ (by exact d1) ?_
          clear HK
          refine m_loud rfl (fun K hK => ?_)
          have HK := Lib.hid hK
          clear hK
          go_simp
          refine (rtwice_spec _ mb nodes es' B' si _ HT3.out.m HT3.out.bs hle2).mono ?_
          rintro e w5 ⟨rfl, es5, hk5, ha5⟩
          have HK5 := Lib.hid (hk5.trans (congrArg (fun K => (twiceK si K).2) HT3.out.km))
          have HTF := Lib.hid (HT3.out.mstep ha5 HK5.out)
          have HBF := Lib.hid (HB3.out.trans (After.below HT3.out.m ha5))
          have f1 := ha5.cell hXB' d1
          try rw [HT3.out.km]
          clear ha5 hk5
          refine HK.out _ _ (by exact f1) ?_
          clear HK
          clear d1 f1
          iterate 2
            first
            | (refine m_take (v := ?_) rfl rfl ?_ ?_
               rotate_left
               · intro W hW
                 go_simp
                 with_reducible rfl
               simp only [Act.put, List.setIfInBounds_toArray, List.set_cons_zero, List.set_cons_succ])
            | (refine m_skip rfl rfl ?_
               simp only [Act.put, List.setIfInBounds_toArray, List.set_cons_zero, List.set_cons_succ])
          refine m_done ?_
          simp only [List.drop_succ_cons, List.drop_zero]
          go_wp2
          simp only [NP]
          go_wp2_with fail
          have hnd := HTF.out.plen
          refine (told_calls _ pb mb nodes nodes (-1) _ _ _ _ _ HTF.out.p HTF.out.m (HTF.out.kp.trans HTF.out.km.symm) (by omega)).mono ?_
          rintro e w9 ⟨rfl, hb9⟩
          have HT9 := Lib.hid (HTF.out.below hb9)
          have HB9 := Lib.hid (HBF.out.trans (hb9.mono HBF.out.size))
          clear hb9
          go_wp2_with fail
          go_roundw
          case rel => exact ⟨k + 1, _, _, _, _, _, by omega, by omega, by go_num, by omega, HT9.out, HB9.out⟩
          case measure => simp [intOf]; omega
        · go_wp2_with fail
          rw [← HX.out]
          have HT0 := Lib.hid (HTW2.out.below ((Below.refl _ _).drew))
          have hle1 : es.length ≤ 100000 := by have := HTW2.out.plen; omega
          have hle2 : es'.length ≤ 100000 := by have := HTW2.out.mlen; omega
          have hKK := spoilK_len si sa stu K
          refine region_m [(0, false), (1, false), (2, false), (3, false), (4, false), (5, false), (6, false), (8, false), (9, false), (10, false), (11, false), (12, false), (13, false), (14, false), (7, true), (15, true), (16, false), (17, false)] 18 (fun V => V.cell? ⟨X, 1, none⟩ = some (.int .i64 si) ∧ V.cell? ⟨X, 2, none⟩ = some (.int .i64 sa) ∧ V.cell? ⟨X, 3, none⟩ = some (.int .u8 stu)) (by kernel_rfl) (by kernel_rfl) (by exact ⟨QQ.out.1, QQ.out.2.1, QQ.out.2.2.1⟩) ?_
          iterate 14
            first
            | (refine m_take (v := ?_) rfl rfl ?_ ?_
               rotate_left
               · intro W hW
                 go_simp
                 with_reducible rfl
               simp only [Act.put, List.setIfInBounds_toArray, List.set_cons_zero, List.set_cons_succ])
            | (refine m_skip rfl rfl ?_
               simp only [Act.put, List.setIfInBounds_toArray, List.set_cons_zero, List.set_cons_succ])
          refine m_loud rfl (fun K hK => ?_)
          have HK := Lib.hid hK
          clear hK
          go_simp
          refine (spoil_spec _ pb nodes es B si sa stu _ HT0.out.p HT0.out.bs htu).mono ?_
          rintro e w3 ⟨rfl, es3, hk3, ha3⟩
          have HK3 := Lib.hid (hk3.trans (congrArg (fun K => (spoilK si sa stu K).2) HT0.out.kp))
          have HT3 := Lib.hid (HT0.out.pstep ha3 HK3.out)
          have HB3 := Lib.hid (HB2.out.drew.trans (After.below HT0.out.p ha3))
          have d1 := ha3.cell hXB (c_drew QQ.out.1)
          have d2 := ha3.cell hXB (c_drew QQ.out.2.1)
          have d3 := ha3.cell hXB (c_drew QQ.out.2.2.1)
          try rw [HT0.out.kp]
          clear ha3 hk3
          refine HK.out _ _ (by exact ⟨d1, d2, d3⟩) ?_
          clear HK
          refine m_loud rfl (fun K hK => ?_)
          have HK := Lib.hid hK
          clear hK
          go_simp
          refine (rspoil_spec _ mb nodes es' B' si sa stu _ HT3.out.m HT3.out.bs htu).mono ?_
          rintro e w5 ⟨rfl, es5, hk5, ha5⟩
          have HK5 := Lib.hid (hk5.trans (congrArg (fun K => (spoilK si sa stu K).2) HT3.out.km))
          have HTF := Lib.hid (HT3.out.mstep ha5 HK5.out)
          have HBF := Lib.hid (HB3.out.trans (After.below HT3.out.m ha5))
          have f1 := ha5.cell hXB' d1
          have f2 := ha5.cell hXB' d2
          have f3 := ha5.cell hXB' d3
          try rw [HT3.out.km]
          clear ha5 hk5
          refine HK.out _ _ (by exact ⟨f1, f2, f3⟩) ?_
          clear HK
          clear d1 f1 d2 f2 d3 f3
          iterate 2
            first
            | (refine m_take (v := ?_) rfl rfl ?_ ?_
               rotate_left
               · intro W hW
                 go_simp
                 with_reducible rfl
               simp only [Act.put, List.setIfInBounds_toArray, List.set_cons_zero, List.set_cons_succ])
            | (refine m_skip rfl rfl ?_
               simp only [Act.put, List.setIfInBounds_toArray, List.set_cons_zero, List.set_cons_succ])
          refine m_done ?_
          simp only [List.drop_succ_cons, List.drop_zero]
          go_wp2
          simp only [NP]
          go_wp2_with fail
          have hnd := HTF.out.plen
          refine (told_calls _ pb mb nodes nodes (-1) _ _ _ _ _ HTF.out.p HTF.out.m (HTF.out.kp.trans HTF.out.km.symm) (by omega)).mono ?_
          rintro e w9 ⟨rfl, hb9⟩
          have HT9 := Lib.hid (HTF.out.below hb9)
          have HB9 := Lib.hid (HBF.out.trans (hb9.mono HBF.out.size))
          clear hb9
          go_wp2_with fail
          go_roundw
          case rel => exact ⟨k + 1, _, _, _, _, _, by omega, by omega, by go_num, by omega, HT9.out, HB9.out⟩
          case measure => simp [intOf]; omega
        · go_wp2_with fail
          rw [← HX.out]
          have HT0 := Lib.hid (HTW2.out.below ((Below.refl _ _).drew))
          have hle1 : es.length ≤ 100000 := by have := HTW2.out.plen; omega
          have hle2 : es'.length ≤ 100000 := by have := HTW2.out.mlen; omega
          have hKK := loseK_len si K
          refine region_m [(0, false), (1, false), (2, false), (4, false), (5, false), (6, false), (3, true), (7, true), (8, false), (9, false)] 10 (fun V => V.cell? ⟨X, 1, none⟩ = some (.int .i64 si)) (by kernel_rfl) (by kernel_rfl) (by exact QQ.out.1) ?_
          iterate 6
            first
            | (refine m_take (v := ?_) rfl rfl ?_ ?_
               rotate_left
               · intro W hW
                 go_simp
                 with_reducible rfl
               simp only [Act.put, List.setIfInBounds_toArray, List.set_cons_zero, List.set_cons_succ])
            | (refine m_skip rfl rfl ?_
               simp only [Act.put, List.setIfInBounds_toArray, List.set_cons_zero, List.set_cons_succ])
          refine m_loud rfl (fun K hK => ?_)
          have HK := Lib.hid hK
          clear hK
          go_simp
          refine (lose_spec _ pb nodes es B si _ HT0.out.p HT0.out.bs hle1).mono ?_
          rintro e w3 ⟨rfl, es3, hk3, ha3⟩
          have HK3 := Lib.hid (hk3.trans (congrArg (fun K => loseK si K) HT0.out.kp))
          have HT3 := Lib.hid (HT0.out.pstep ha3 HK3.out)
          have HB3 := Lib.hid (HB2.out.drew.trans (After.below HT0.out.p ha3))
          have d1 := ha3.cell hXB (c_drew QQ.out.1)
          try rw [HT0.out.kp]
          clear ha3 hk3
          refine HK.out _ _ (by exact d1) ?_
          clear HK
          refine m_loud rfl (fun K hK => ?_)
          have HK := Lib.hid hK
          clear hK
          go_simp
          refine (rlose_spec _ mb nodes es' B' si _ HT3.out.m HT3.out.bs hle2).mono ?_
          rintro e w5 ⟨rfl, es5, hk5, ha5⟩
          have HK5 := Lib.hid (hk5.trans (congrArg (fun K => loseK si K) HT3.out.km))
          have HTF := Lib.hid (HT3.out.mstep ha5 HK5.out)
          have HBF := Lib.hid (HB3.out.trans (After.below HT3.out.m ha5))
          have f1 := ha5.cell hXB' d1
          try rw [HT3.out.km]
          clear ha5 hk5
          refine HK.out _ _ (by exact f1) ?_
          clear HK
          clear d1 f1
          iterate 2
            first
            | (refine m_take (v := ?_) rfl rfl ?_ ?_
               rotate_left
               · intro W hW
                 go_simp
                 with_reducible rfl
               simp only [Act.put, List.setIfInBounds_toArray, List.set_cons_zero, List.set_cons_succ])
            | (refine m_skip rfl rfl ?_
               simp only [Act.put, List.setIfInBounds_toArray, List.set_cons_zero, List.set_cons_succ])
          refine m_done ?_
          simp only [List.drop_succ_cons, List.drop_zero]
          go_wp2
          simp only [NP]
          go_wp2_with fail
          have hnd := HTF.out.plen
          refine (told_calls _ pb mb nodes nodes (-1) _ _ _ _ _ HTF.out.p HTF.out.m (HTF.out.kp.trans HTF.out.km.symm) (by omega)).mono ?_
          rintro e w9 ⟨rfl, hb9⟩
          have HT9 := Lib.hid (HTF.out.below hb9)
          have HB9 := Lib.hid (HBF.out.trans (hb9.mono HBF.out.size))
          clear hb9
          go_wp2_with fail
          go_roundw
          case rel => exact ⟨k + 1, _, _, _, _, _, by omega, by omega, by go_num, by omega, HT9.out, HB9.out⟩
          case measure => simp [intOf]; omega
        · go_wp2_with fail
          rw [← HX.out]
          have hnd0 := HTW2.out.plen
          have hKK : K.length ≤ K.length + 1 := by omega
          refine (told_calls _ pb mb nodes nodes _ _ _ _ _ _ HTW2.out.p HTW2.out.m (HTW2.out.kp.trans HTW2.out.km.symm) (by omega)).mono ?_
          rintro e w8 ⟨rfl, hb8⟩
          have HTF := Lib.hid (HTW2.out.below hb8)
          have HBF := Lib.hid (HB2.out.trans (hb8.mono HB2.out.size))
          clear hb8
          go_wp2_with fail
          have hnd := HTF.out.plen
          refine (told_calls _ pb mb nodes nodes (-1) _ _ _ _ _ HTF.out.p HTF.out.m (HTF.out.kp.trans HTF.out.km.symm) (by omega)).mono ?_
          rintro e w9 ⟨rfl, hb9⟩
          have HT9 := Lib.hid (HTF.out.below hb9)
          have HB9 := Lib.hid (HBF.out.trans (hb9.mono HBF.out.size))
          clear hb9
          go_wp2_with fail
          go_roundw
          case rel => exact ⟨k + 1, _, _, _, _, _, by omega, by omega, by go_num, by omega, HT9.out, HB9.out⟩
          case measure => simp [intOf]; omega
      · rcases (show (¬ ((k : Int) < ss.length)) ∨ ((k : Int) < ss.length ∧ ¬ ((k : Int) < 200)) from by omega) with hq | ⟨hq, hq2⟩
        all_goals
          go_wp2_with fail
          go_ret
          exact ⟨rfl, HB.out⟩
end Go.Proofs.Ytpmkepmnldkccaa
