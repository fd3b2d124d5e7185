/- Layer 2, the document's Cut; SameList. -/
import Derived.Test.YtfmfmalhebfnhaaFrame06
namespace Go.Proofs.Ytfmfmalhebfnhaa
open Go.RowKit CrcM FrM

set_option maxHeartbeats 1000000 in
set_option maxRecDepth 100000 in
theorem rcut_calls (v : Value) (xs : List UInt8) (n : Nat) (w : World) (hv : Bytes w v xs) (hlen : xs.length ≤ 1099511627776) (hn : Count xs n) :
    Calls Try.prog 17 #[v] w fun e w' => ∃ l, e = .returned (.tuple #[l, .int .i64 (pos xs n)]) ∧ MineL w' w.heap.size l (pays xs n) ∧ Below w.heap.size w w' := by
  have HV := Lib.hid hv
  have HN := Lib.hid hn
  clear hn
  obtain ⟨a, cap, rfl, hl, hcap, -⟩ := hv
  go_enter Try.func17, Try.ntmps17
  go_wp2_with fail
  go_loopw [4, 5] (fun lv i wr => ∃ k : Nat, k ≤ n ∧ i = .int .i64 (pos xs k) ∧ MineL wr w.heap.size lv (pays xs k) ∧ Below w.heap.size w wr) (fun _ i _ => xs.length + 1 - (intOf i).toNat)
  case atStart => exact ⟨0, by omega, rfl, MineL.nil _ _, Below.refl _ _⟩
  case round =>
    obtain ⟨k, hk, rfl, hm, hb⟩ := hrel
    have HM := Lib.hid hm
    have HB := Lib.hid hb
    clear hm hb
    obtain ⟨-, hp2⟩ := pos_le xs k (fun j hj => HN.out.1 j (by omega))
    by_cases hlt : k < n
    · have hc0 := HN.out.1 k hlt
      have hp3 := pos_next xs k hc0
      have HC0 := Lib.hid hc0
      have HP3 := Lib.hid hp3
      clear hc0 hp3
      go_wp2_with fail
      refine (rnext_calls _ xs _ _ (HV.out.below HB.out (Nat.le_refl _)) ⟨by omega, by omega⟩ (by omega)).mono ?_
      rintro e w1 ⟨r1, n1, c1, rfl, ⟨hm1, hn1, hc1⟩, hb1⟩
      have hn1' := hn1.trans HP3.out
      have hc1' := hc1.trans HC0.out
      clear hn1 hc1
      subst hn1' hc1'
      obtain ⟨pa, pc, rfl⟩ := hm1.slice
      have hm1 := hm1.mono HB.out.size
      have hb2 := HB.out.trans (hb1.mono HB.out.size)
      have hl2 := HM.out.below hb1 (Nat.le_refl _)
      have hlit := Rd.lit (w := w1) (cs := #[.slice pa (pay xs k).length pc]) (e := 22) (n := 1) (sz := 1) rfl (by omega)
      have hal := (Below.refl w1.heap.size w1).alloc (Nat.le_refl _) (.cells #[.slice pa (pay xs k).length pc] 22)
      have HL := Lib.hid (hl2.below hal (Nat.le_refl _))
      have HP := Lib.hid (hm1.below hal (Nat.le_refl _))
      have HLIT := Lib.hid hlit
      have HAL := Lib.hid (hb2.alloc hb2.size (.cells #[.slice pa (pay xs k).length pc] 22))
      clear hm1 hb2 hl2 hlit hal hb1
      have hpl := pos_le xs (k + 1) (fun j hj => HN.out.1 j (by omega))
      go_wp2_with (at_builtin; refine app_mineL HL.out HLIT.out HP.out HAL.out HAL.out.size (by rw [pays_length]; omega) rfl rfl rfl rfl ?_; intro lv3 w3 hl3 hb3; have HL3 := Lib.hid hl3; have HB3 := Lib.hid hb3; clear hl3 hb3)
      go_roundw
      case rel => exact ⟨k + 1, by omega, rfl, by rw [pays_succ]; exact HL3.out, HB3.out⟩
      case measure =>
        have h2 : pos xs k < pos xs (k + 1) := by simp [pos]; omega
        simp [intOf]; omega
    · obtain rfl : k = n := by omega
      have HC0 := Lib.hid HN.out.2
      go_wp2_with fail
      refine (rnext_calls _ xs _ _ (HV.out.below HB.out (Nat.le_refl _)) ⟨by omega, by omega⟩ (by omega)).mono ?_
      rintro e w1 ⟨r1, n1, c1, rfl, ⟨hm1, hn1, hc1⟩, hb1⟩
      have hc0 : ¬ c1 = 0 := by rw [hc1]; exact HC0.out
      have HL := Lib.hid (HM.out.below hb1 (Nat.le_refl _))
      have HB1 := Lib.hid (HB.out.trans (hb1.mono HB.out.size))
      clear hm1 hn1 hc1 hb1
      go_wp2_with fail
      go_ret2
      exact ⟨_, rfl, HL.out, HB1.out⟩

theorem SliceOf.at {w : World} {a : Option Addr} {n cap : Nat} {xss : List (List UInt8)} (h : SliceOf Bytes w (.slice a n cap) xss) (k : Nat) (hk : k < xss.length) :
    ∃ b o u, a = some ⟨b, o, none⟩ ∧ w.cell? ⟨b, o + k, none⟩ = some u ∧ Bytes w u xss[k] := by
  obtain ⟨vs, ⟨a', cap', hv, hl, h1, h2, h3⟩, he⟩ := h
  simp only [Value.slice.injEq] at hv
  obtain ⟨rfl, rfl, rfl⟩ := hv
  have hkv : k < vs.length := by omega
  rcases h3 with h3 | ⟨b, o, rfl, hc⟩
  · omega
  · exact ⟨b, o, vs[k], rfl, hc k _ (List.getElem?_eq_getElem hkv), he k _ _ (List.getElem?_eq_getElem hkv) (List.getElem?_eq_getElem hk)⟩

set_option maxHeartbeats 1000000 in
set_option maxRecDepth 100000 in
theorem samel_calls (u v : Value) (xss yss : List (List UInt8)) (w : World) (hu : SliceOf Bytes w u xss) (hv : SliceOf Bytes w v yss) :
    Calls Try.prog 18 #[u, v] w fun e w' => e = .returned (.bool (xss == yss)) ∧ Below w.heap.size w w' := by
  have HU := Lib.hid hu
  have HV := Lib.hid hv
  obtain ⟨vs, hrd, -⟩ := hu
  obtain ⟨a, cap, rfl, hvl, hle, hcap, -⟩ := hrd
  obtain ⟨vs', hrd', -⟩ := hv
  obtain ⟨a', cap', rfl, hvl', hle', hcap', -⟩ := hrd'
  clear hvl hvl'
  go_enter Try.func18, Try.ntmps18
  by_cases hlen : xss.length = yss.length
  · have hi : ((xss.length : Int) != (yss.length : Int)) = false := bne_eq_false_iff_eq.2 (by omega)
    have le1 : xss.length ≤ yss.length := by omega
    have le2 : yss.length ≤ xss.length := by omega
    have HLN := Lib.hid hlen
    clear hlen
    go_wp2_with fail
    go_loopw [5] (fun i wr => ∃ k : Nat, k ≤ xss.length ∧ i = .int .i64 k ∧ xss.take k = yss.take k ∧ Below w.heap.size w wr) (fun i _ => xss.length - (intOf i).toNat)
    case atStart => exact ⟨0, by omega, rfl, rfl, Below.refl _ _⟩
    case round =>
      obtain ⟨k, hk, rfl, htk, hb⟩ := hrel
      have HB := Lib.hid hb
      have HTK := Lib.hid htk
      clear hb htk
      by_cases hlt : k < xss.length
      · have hlt' : k < yss.length := by omega
        obtain ⟨b1, o1, u1, rfl, hc1, hb1⟩ := HU.out.at k hlt
        obtain ⟨b2, o2, u2, rfl, hc2, hb2⟩ := HV.out.at k hlt'
        have c1 := cell_later HB.out hc1
        have c2 := cell_later HB.out hc2
        have d1 := hb1.below (HB.out.drew) (Nat.le_refl _)
        have d2 := hb2.below (HB.out.drew) (Nat.le_refl _)
        have D1 := Lib.hid d1
        have D2 := Lib.hid d2
        clear hc1 hc2 hb1 hb2 d1 d2
        go_wp2_with fail
        refine region_m [(0, false), (1, false), (2, false), (3, false), (4, false), (5, false), (6, false), (7, false), (8, true)] 9
          (fun W => W.cell? ⟨b1, o1 + k, none⟩ = some u1 ∧ W.cell? ⟨b2, o2 + k, none⟩ = some u2) (by kernel_rfl) (by kernel_rfl) ⟨c1, c2⟩ ?_
        iterate 8
          refine m_take (v := ?_) rfl rfl ?_ ?_
          rotate_left
          · intro W hW
            go_simp
            with_reducible rfl
          simp only [Act.put, List.setIfInBounds_toArray, List.set_cons_zero, List.set_cons_succ]
        refine m_loud rfl (fun K hK => ?_)
        have HK := Lib.hid hK
        clear hK
        go_simp
        refine (same_calls _ _ _ _ _ D1.out D2.out).mono ?_
        rintro e y1 ⟨he, rfl⟩
        by_cases hs : xss[k] = yss[k]
        · rw [beq_iff_eq.2 hs] at he
          subst he
          have HS := Lib.hid hs
          clear hs
          refine HK.out _ _ ⟨c1, c2⟩ ?_
          clear HK
          refine m_done ?_
          simp only [List.drop_succ_cons, List.drop_zero]
          go_wp2
          simp only [NP]
          go_wp2
          go_roundw
          case rel => exact ⟨k + 1, by omega, by go_num, by rw [List.take_succ_eq_append_getElem hlt, List.take_succ_eq_append_getElem hlt', HTK.out, HS.out], HB.out.drew⟩
          case measure => simp [intOf]; omega
        · rw [beq_eq_false_iff_ne.2 hs] at he
          subst he
          have hne : (xss == yss) = false := by rw [beq_eq_false_iff_ne]; rintro rfl; exact hs rfl
          have HNE := Lib.hid hne
          clear hs hne
          refine HK.out _ _ ⟨c1, c2⟩ ?_
          clear HK
          refine m_done ?_
          simp only [List.drop_succ_cons, List.drop_zero]
          go_wp2
          simp only [NP]
          go_wp2
          go_ret
          exact ⟨by rw [HNE.out]; rfl, HB.out.drew⟩
      · obtain rfl : k = xss.length := by omega
        have he : (xss == yss) = true := by
          have := HTK.out
          rw [List.take_length, HLN.out, List.take_length] at this
          rw [beq_iff_eq]; exact this
        have HE := Lib.hid he
        clear he
        go_wp2_with fail
        go_ret
        exact ⟨by rw [HE.out]; rfl, HB.out⟩
  · have hi : ((xss.length : Int) != (yss.length : Int)) = true := bne_iff_ne.2 (by omega)
    have hne : (xss == yss) = false := by rw [beq_eq_false_iff_ne]; rintro rfl; exact hlen rfl
    rw [hne]
    go_wp2_with fail
    go_ret
    exact ⟨rfl, Below.refl _ _⟩
end Go.Proofs.Ytfmfmalhebfnhaa
