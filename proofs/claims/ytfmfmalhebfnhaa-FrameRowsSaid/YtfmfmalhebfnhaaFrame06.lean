/- Layer 2: Cut walked. -/
import Derived.Test.YtfmfmalhebfnhaaFrame05
import Derived.Test.YtfmfmalhebfnhaaMineL
namespace Go.Proofs.Ytfmfmalhebfnhaa
open Go.RowKit Go.Shelf CrcM FrM
attribute [local go_sem] Oper.semAt_some

/-- What Cut's loop keeps: the list in its cell, the place in its cell, the bytes' slice in All's box. -/
structure CutRel (w : World) (xs : List UInt8) (v : Value) (S : Nat) (k : Nat) (W : World) : Prop where
  lc : ∃ lv, W.cell? ⟨S, 0, none⟩ = some lv ∧ MineL W (S + 3) lv (pays xs k)
  lf : W.frozen? ⟨S, 0, none⟩ = false
  nc : W.cell? ⟨S + 1, 0, none⟩ = some (.int .i64 (pos xs k))
  nf : W.frozen? ⟨S + 1, 0, none⟩ = false
  bc : W.cell? ⟨S + 2, 0, none⟩ = some v
  b : Below w.heap.size w W
  sz : S + 3 ≤ W.heap.size
theorem CutRel.calm {w : World} {xs : List UInt8} {v : Value} {S k B : Nat} {W W' : World} (hB : w.heap.size ≤ B) (hc : Calm B W W') (h : CutRel w xs v S k W) : CutRel w xs v S k W' := by
  obtain ⟨⟨lv, h1, h2⟩, h3, h4, h5, h6, h7, h8⟩ := h
  exact ⟨⟨lv, hc.cell h1, h2.calm hc⟩, (hc.frozen h1).trans h3, hc.cell h4, (hc.frozen h4).trans h5, hc.cell h6, h7.trans (hc.below.mono hB), Nat.le_trans h8 hc.size⟩

set_option maxHeartbeats 1000000 in
set_option maxRecDepth 100000 in
theorem cut_calls (v : Value) (xs : List UInt8) (n : Nat) (w : World) (hv : Bytes w v xs) (hlen : xs.length ≤ 1099511627776) (hn : Count xs n) :
    Calls Try.prog 16 #[v] w fun e w' => ∃ l, e = .returned (.tuple #[l, .int .i64 (pos xs n)]) ∧ MineL w' w.heap.size l (pays xs n) ∧ Below w.heap.size w w' := by
  have HV := Lib.hid hv
  have HN := Lib.hid hn
  clear hn
  obtain ⟨a, cap, rfl, hl, hcap, -⟩ := hv
  refine (callsIn_wide (n := 0)).1 ?_
  refine callsIn_of_wp_marks Try.func16 rfl trivial ?_
  simp only [Try.ntmps16, List.size_toArray, List.length_cons, List.length_nil, Nat.reduceAdd, Nat.reduceSub, Array.replicate_succ, Array.replicate_zero, List.push_toArray, List.append_toArray, List.nil_append, List.cons_append]
  gi_wp2_with (gi_at_call 19; refine (all_calls _ _ _ _).mono ?_; rintro e w1 ⟨rfl, rfl⟩)
  have hrel0 : CutRel w xs (.slice a xs.length cap) w.heap.size 0 (((w.alloc (.cells #[.slice none 0 0] 36)).alloc (.cells #[.int .i64 0] 3)).alloc (.cells #[.slice a xs.length cap] 22)) := by
    refine ⟨⟨.slice none 0 0, ?_, MineL.nil _ _⟩, ?_, ?_, ?_, ?_, (((Below.refl _ w).alloc (Nat.le_refl _) _).alloc (by simp) _).alloc (by simp; omega) _, by simp⟩
    · rw [World.cell?_alloc_past _ _ _ (by simp; omega), World.cell?_alloc_past _ _ _ (by simp), World.cell?_alloc_at _ _ _ _ rfl]; rfl
    · rw [World.frozen?_alloc_past _ _ _ (by simp; omega), World.frozen?_alloc_past _ _ _ (by simp), World.frozen?_alloc_at _ _ _ _ rfl]
    · rw [World.cell?_alloc_past _ _ _ (by simp), World.cell?_alloc_at _ _ _ _ (by simp)]; rfl
    · rw [World.frozen?_alloc_past _ _ _ (by simp), World.frozen?_alloc_at _ _ _ _ (by simp)]
    · rw [World.cell?_alloc_at _ _ _ _ (by simp)]; rfl
  have hYs : (((w.alloc (.cells #[.slice none 0 0] 36)).alloc (.cells #[.int .i64 0] 3)).alloc (.cells #[.slice a xs.length cap] 22)).heap.size = w.heap.size + 3 := by simp
  generalize ((w.alloc (.cells #[.slice none 0 0] 36)).alloc (.cells #[.int .i64 0] 3)).alloc (.cells #[.slice a xs.length cap] 22) = Y at *
  obtain ⟨S, hS⟩ : ∃ S, S = w.heap.size := ⟨_, rfl⟩
  rw [← hS] at hrel0 hYs ⊢
  have HSZ := Lib.hid hS
  clear hS
  refine range_w (gf := 30) (lb := #[.pointer (some ⟨S + 1 + 1, 0, none⟩)]) rfl (enters_of Try.func30 (by kernel_rfl) rfl)
    (fun k W => CutRel w xs (.slice a xs.length cap) S k W) (fun _ _ => False) (AStep xs n (S + 3)) (fun k => k = n) 0
    (fun st W W' hc h => h.calm (by have := HSZ.out; omega) hc) (fun _ _ _ _ h => h) hrel0 ?iter ?body ?done (fun _ _ _ _ h => h.elim)
  case iter =>
    intro l J' Jx' W hm _ hJJ hc hJ0 hy
    exact all1_iter xs (.slice a xs.length cap) n (S + 3) (S + 1 + 1) l J' Jx' W HN.out (by omega) hm (fun s' W' h => ⟨HV.out.below (hJJ _ _ h).b (Nat.le_refl _), (hJJ _ _ h).bc, (hJJ _ _ h).sz⟩) hy hJ0
  case body =>
    intro l k args k' W hr hst hsz
    obtain ⟨hkn, rfl, p, rfl, hp⟩ := hst
    refine ⟨rfl, ?_⟩
    gi_wp2
    refine ⟨KeepsOthers.refl _, fun W₂ hc => ?_⟩
    have hr2 := hr.calm (by have := HSZ.out; omega) hc
    have hp2 := hp.calm hc
    clear hr hrel0 hp
    obtain ⟨⟨lv, c4, hlv⟩, f4, c5, f5, c6, hb, hz⟩ := hr2
    obtain ⟨pa, pc, rfl⟩ := hp2.slice
    have hlit := Rd.lit (w := W₂) (cs := #[.slice pa (pay xs k).length pc]) (e := 22) (n := 1) (sz := 1) rfl (by omega)
    have hal := (Below.refl W₂.heap.size W₂).alloc (Nat.le_refl _) (.cells #[.slice pa (pay xs k).length pc] 22)
    have hlv2 := hlv.below hal (Nat.le_refl _)
    have hp3 := hp2.below hal (Nat.le_refl _)
    have hal2 := (Below.refl (S + 3) W₂).alloc hz (.cells #[.slice pa (pay xs k).length pc] 22)
    have hpl := pos_le xs (k + 1) (fun j hj => HN.out.1 j (by omega))
    have hps : pos xs (k + 1) = pos xs k + 12 + (pay xs k).length := rfl
    have HL := Lib.hid hlv2
    have HP := Lib.hid hp3
    have HLIT := Lib.hid hlit
    have HAL := Lib.hid hal2
    have HB := Lib.hid hb
    have HC := Lib.hid c6
    have hko := KeepsOthers.alloc W₂ (.cells #[.slice pa (pay xs k).length pc] 22)
    have HKO := Lib.hid hko
    clear hlv hlv2 hp2 hp3 hlit hal hal2 hb c6 hko hc
    gi_wp2_with (gi_at_builtin; go_loud (refine app_mineLIn HL.out HLIT.out HP.out HAL.out (Nat.le_trans hz HAL.out.size) (by rw [pays_length]; omega) rfl rfl rfl rfl ?_; intro lv3 w3 hl3 hb3 hk3; obtain ⟨ga, gn, gc, rfl⟩ := hl3.slice; have HL3 := Lib.hid hl3; have HB3 := Lib.hid hb3; have HK3 := Lib.hid (HKO.out.trans hk3); have c43 := (World.cell?_of_block (a := ⟨S, 0, none⟩) (hb3.block S (by omega))).trans c4; have f43 := (World.frozen?_of_block (a := ⟨S, 0, none⟩) (hb3.block S (by omega))).trans f4; have c53 := (World.cell?_of_block (a := ⟨S + 1, 0, none⟩) (hb3.block (S + 1) (by omega))).trans c5; have f53 := (World.frozen?_of_block (a := ⟨S + 1, 0, none⟩) (hb3.block (S + 1) (by omega))).trans f5; clear hl3 hb3 hk3 c4 f4 c5 f5))
    have hval : (pos xs k : Int) + (12 + ((pay xs k).length : Int)) = (pos xs (k + 1) : Nat) := by rw [hps]; omega
    rw [hval]
    have hsz2 := HSZ.out
    have hB3 := HB3.out
    have c63 := (World.cell?_of_block (a := ⟨S + 2, 0, none⟩) (hB3.block (S + 2) (by omega))).trans HC.out
    refine ⟨(HK3.out.trans (KeepsOthers.setCell _ _ _)).trans (KeepsOthers.setCell _ _ _), ⟨⟨.slice ga gn gc, ?_, ?_⟩, ?_, ?_, ?_, ?_, ?_, ?_⟩⟩
    · rw [cell_set_block _ (by omega), cell_set_same _ c43]
    · rw [pays_succ]
      exact (HL3.out.set ⟨S, 0, none⟩ _ (by simp)).set ⟨S + 1, 0, none⟩ _ (by simp)
    · rw [frozen_set, frozen_set, f43]
    · rw [cell_set_same (u := .int .i64 (pos xs k)) _ (by rw [cell_set_block _ (by omega), c53])]
    · rw [frozen_set, frozen_set, f53]
    · rw [cell_set_block _ (by omega), cell_set_block _ (by omega), c63]
    · exact ((HB.out.trans (hB3.mono (by omega))).setCell (by simp; omega) _).setCell (by simp; omega) _
    · simp only [World.size_setCell]
      exact Nat.le_trans hz hB3.size
  case done =>
    rintro D k W hD rfl hr hK
    obtain ⟨⟨lv, c4, hlv⟩, f4, c5, f5, c6, hb, hz⟩ := hr
    have HLV := Lib.hid hlv
    have HB := Lib.hid hb
    clear hlv hb hrel0 c6 f4 f5
    gi_wp2
    refine region_mi [(0, false), (1, false), (2, false)] 3 (fun W => W.cell? ⟨S, 0, none⟩ = some lv ∧ W.cell? ⟨S + 1, 0, none⟩ = some (.int .i64 (pos xs k))) (by kernel_rfl) (by kernel_rfl) ⟨c4, c5⟩ ?_
    iterate 3
      refine m_take (v := ?_) rfl rfl ?_ ?_
      rotate_left
      · intro W hW
        go_simp
        with_reducible rfl
      simp only [Act.put, List.setIfInBounds_toArray, List.set_cons_zero, List.set_cons_succ]
    refine m_done ?_
    simp only [List.drop_succ_cons, List.drop_zero]
    go_wp2
    simp only [NP]
    gi_wp2
    refine ⟨by simp, .inl ⟨_, _, rfl, run_takeDeferred hK, ?_⟩⟩
    refine ⟨_, results_tmp2 rfl _ _ _, ?_⟩
    have hs := HSZ.out
    have hc0 : Calm w.heap.size W W.drew := ⟨rfl, rfl, rfl, Nat.le_refl _, fun _ _ => rfl, fun _ _ h _ => h⟩
    refine ⟨_, rfl, ?_, ?_⟩
    · exact ((HLV.out.mono (by omega)).calm hc0).calm (Calm.putObj (B := w.heap.size) _ (by omega) (show W.drew.heap[D]? = _ from hK) rfl)
    · exact (HB.out.drew).trans (Calm.putObj (B := w.heap.size) _ (by omega) (show W.drew.heap[D]? = _ from hK) rfl).below
end Go.Proofs.Ytfmfmalhebfnhaa
