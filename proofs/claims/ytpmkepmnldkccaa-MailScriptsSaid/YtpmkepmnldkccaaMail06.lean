/- Layer 5: MailOrder walked. -/
import Derived.Test.YtpmkepmnldkccaaMail05
import Derived.Test.YtpmkepmnldkccaaTop
namespace Go.Proofs.Ytpmkepmnldkccaa
open Go.RowKit

theorem tyBytesL : STy Try.prog 40 30 (.slice none 0 0) 1 24 := .of Try.underlying40 (by kernel_rfl) rfl (by omega)

/-! ### The payloads that are not too long -/
def fits (p : List UInt8) : Bool := decide (p.length ≤ 65536)
def heads (pss : List (List UInt8)) (k : Nat) : List (List UInt8) := (pss.take k).filter fits
theorem heads_length (pss : List (List UInt8)) (k : Nat) : (heads pss k).length ≤ k := by
  have h1 := List.length_filter_le fits (pss.take k)
  have h2 : (pss.take k).length ≤ k := by simp; omega
  unfold heads; omega
theorem heads_zero (pss : List (List UInt8)) : heads pss 0 = [] := by simp [heads]
theorem heads_yes (pss : List (List UInt8)) (k : Nat) (hk : k < pss.length) (h : pss[k].length ≤ 65536) : heads pss (k + 1) = heads pss k ++ [pss[k]] := by
  unfold heads
  rw [List.take_succ_eq_append_getElem hk, List.filter_append]
  simp [fits, h]
theorem heads_no (pss : List (List UInt8)) (k : Nat) (hk : k < pss.length) (h : 65536 < pss[k].length) : heads pss (k + 1) = heads pss k := by
  unfold heads
  rw [List.take_succ_eq_append_getElem hk, List.filter_append]
  simp [fits]; omega

theorem SliceOf.at {w : World} {a : Option Addr} {n cap : Nat} {xss : List (List UInt8)} (h : SliceOf Bytes w (.slice a n cap) xss) (k : Nat) (hk : k < xss.length) :
    ∃ b o u, a = some ⟨b, o, none⟩ ∧ w.cell? ⟨b, o + k, none⟩ = some u ∧ Bytes w u xss[k] := by
  obtain ⟨vs, ⟨a', cap', hv, hl, h1, h2, h3⟩, he⟩ := h
  simp only [Value.slice.injEq] at hv
  obtain ⟨rfl, rfl, rfl⟩ := hv
  have hkv : k < vs.length := by omega
  rcases h3 with h3 | ⟨b, o, rfl, hc⟩
  · omega
  · exact ⟨b, o, vs[k], rfl, hc k _ (List.getElem?_eq_getElem hkv), he k _ _ (List.getElem?_eq_getElem hkv) (List.getElem?_eq_getElem hk)⟩

/-- A list of payloads that the law keeps: slices that came in, in a row of its own. -/
structure Kept (w W : World) (base : Nat) (kv : Value) (ks : List (List UInt8)) : Prop where
  row : ∃ vs, W.ownsRow base 30 1 kv ks.length vs ∧ ∀ (j : Nat) (u : Value) (y : List UInt8), vs[j]? = some u → ks[j]? = some y → Bytes w u y
theorem Kept.only {S : Nat → Prop} {w W W' : World} {base : Nat} {kv : Value} {ks : List (List UInt8)} (h : Kept w W base kv ks) (ho : Only S W W') (hS : ∀ g, kv.ownBlock = some g → ¬ S g) : Kept w W' base kv ks := by
  obtain ⟨vs, h1, h2⟩ := h
  exact ⟨vs, ownsRow_only h1 ho hS, h2⟩
theorem Kept.at {w W : World} {base : Nat} {kv : Value} {ks : List (List UInt8)} (h : Kept w W base kv ks) (k : Nat) (hk : k < ks.length) :
    ∃ g c u, kv = .slice (some ⟨g, 0, none⟩) ks.length c ∧ W.cell? ⟨g, k, none⟩ = some u ∧ Bytes w u ks[k] := by
  obtain ⟨vs, h1, h2⟩ := h
  have hkv : k < vs.length := by have := h1.1; omega
  have hx := h2 k vs[k] ks[k] (List.getElem?_eq_getElem hkv) (List.getElem?_eq_getElem hk)
  rcases h1.2 with ⟨-, h0⟩ | ⟨g, cap, cur, rfl, -⟩
  · omega
  · have := World.ownsRow.cells h1 rfl k _ (List.getElem?_eq_getElem hkv)
    rw [add_off, Nat.zero_add] at this
    exact ⟨g, cap, _, rfl, this, hx⟩
theorem Kept.slice {w W : World} {base : Nat} {kv : Value} {ks : List (List UInt8)} (h : Kept w W base kv ks) : ∃ a c, kv = .slice a ks.length c := by
  obtain ⟨vs, h1, h2⟩ := h
  exact own_slice h1
theorem Kept.push {w W : World} {base : Nat} {kv : Value} {ks : List (List UInt8)} (vs : List Value) (u : Value) (y : List UInt8) (hl : vs.length = ks.length) (h2 : ∀ (j : Nat) (u : Value) (y : List UInt8), vs[j]? = some u → ks[j]? = some y → Bytes w u y) (hu : Bytes w u y)
    (h1 : W.ownsRow base 30 1 kv (ks.length + 1) (vs ++ [u])) : Kept w W base kv (ks ++ [y]) := by
  refine ⟨vs ++ [u], by simpa using h1, fun i u' y' hu' hy => ?_⟩
  by_cases hi : i < ks.length
  · rw [List.getElem?_append_left (by omega)] at hu' hy
    exact h2 i u' y' hu' hy
  · rw [List.getElem?_append_right (by omega)] at hu' hy
    rw [hl] at hu'
    by_cases hz : i - ks.length = 0
    · rw [hz] at hu' hy
      simp at hu' hy
      subst hu' hy
      exact hu
    · rw [List.getElem?_eq_none (by simp; omega)] at hu'
      cases hu'

theorem Kept.apart {w W : World} {pb : Nat} {N : Int} {kv rv : Value} {ks : List (List UInt8)} {es : List Ent} (h : Kept w W (pb + 1) kv ks) (hp : Post W pb N rv es) : ∀ g, kv.ownBlock = some g → ¬ (g = pb ∨ rv.ownBlock = some g) := by
  obtain ⟨vs, h1, -⟩ := h
  intro g hg e
  rcases e with e | e
  · have := (World.ownsRow.lt h1 g hg).1; omega
  · exact own_apart h1 hp.own (by decide) g hg e
theorem Post.front {W W' : World} {pb B : Nat} {N : Int} {rv : Value} {es : List Ent} (h : Post W pb N rv es) (ho : Only (fun j => j = pb ∨ rv.ownBlock = some j) W W') (hB : B ≤ pb) : Below B W W' :=
  ho.below (by have := h.lt; omega) (fun j hj e => by
    rcases e with e | e
    · omega
    · have := (World.ownsRow.lt h.own j e).1; omega)
theorem Post.app {W W' : World} {pb : Nat} {N : Int} {kv rv : Value} {es : List Ent} {e : TypeId} {sz n : Nat} {vs : List Value} (h : Post W pb N rv es) (hk : W.ownsRow (pb + 1) e sz kv n vs) (he1 : e ≠ 32) (he2 : e ≠ 5) (hg : W.grownBy W' kv.ownBlock) : Post W' pb N rv es :=
  h.only (Only.of_grown hg) (fun e => by have := (World.ownsRow.lt hk pb e).1; omega) (fun g hg2 e => own_apart hk h.own he1 g e hg2) (fun x hx g hg2 e => own_apart hk (h.data x hx) he2 g e hg2)

theorem tmod_pos (n : Int) (L : Nat) (h0 : 0 < L) : ∃ s : Nat, (IntKind.u64.wrap n).tmod (L : Int) = s ∧ s < L := by
  have h : 0 ≤ IntKind.u64.wrap n := by
    simp [IntKind.wrap, IntKind.bits, IntKind.signed]
    omega
  rw [Int.tmod_eq_emod_of_nonneg h]
  have h1 := Int.emod_nonneg (IntKind.u64.wrap n) (show (L : Int) ≠ 0 by omega)
  have h2 := Int.emod_lt_of_pos (IntKind.u64.wrap n) (show 0 < (L : Int) by omega)
  exact ⟨((IntKind.u64.wrap n) % (L : Int)).toNat, by omega, by omega⟩

set_option maxHeartbeats 2000000 in
set_option maxRecDepth 100000 in
theorem order_core (v : Value) (pss : List (List UInt8)) (tw : Int) (w : World) (hv : SliceOf Bytes w v pss) (hm : -9223372036854775808 ≤ tw ∧ tw ≤ 9223372036854775807) :
    Calls Try.prog 4 #[v, .int .i64 tw] w fun e w' => e = .returned (.bool true) ∧ Below w.heap.size w w' := by
  have HV := Lib.hid hv
  obtain ⟨vs, hrd, -⟩ := hv
  obtain ⟨a, cap, rfl, hvl, hle, hcap, -⟩ := hrd
  clear hvl
  obtain ⟨hm1, hm2⟩ := hm
  go_enter Try.func4, Try.ntmps4
  go_wp2_with fail
  refine (known_calls _).mono ?_
  rintro e w1 ⟨rfl, hb1⟩
  have HB1 := Lib.hid hb1
  clear hb1
  go_wp2_with fail
  refine (new_calls 2 _ (by omega) (by omega)).mono ?_
  rintro e w2 ⟨rfl, hp2, hb2⟩
  have HP2 := Lib.hid hp2
  have hs2 := hp2.lt
  obtain ⟨pb, hpb⟩ : ∃ pb, pb = w1.heap.size := ⟨_, rfl⟩
  rw [← hpb] at HP2 hs2 ⊢
  have hwp : w.heap.size ≤ pb := by rw [hpb]; exact HB1.out.size
  have HB2 := Lib.hid (HB1.out.trans (hb2.mono HB1.out.size))
  clear hpb hp2 hb2 HB1
  go_wp2_with fail
  go_loopw [7, 8] (fun kv i wr => ∃ (k : Nat) (rv : Value) (es : List Ent), k ≤ 40 ∧ k ≤ pss.length ∧ i = .int .i64 k ∧ Post wr pb 2 rv es ∧ es.map (·.data) = heads pss k ∧ Kept w wr (pb + 1) kv (heads pss k) ∧ Below w.heap.size w wr) (fun _ i _ => 40 - (intOf i).toNat)
  case atStart => exact ⟨0, _, [], by omega, by omega, rfl, HP2.out, by rw [heads_zero]; rfl, by rw [heads_zero]; exact ⟨[], World.ownsRow_nil _ _ _ _, fun j u y h => by simp at h⟩, HB2.out⟩
  case round =>
    obtain ⟨k, rv, es, hk40, hk, rfl, hp, hmap, hkk, hb⟩ := hrel
    have hal := heads_length pss k
    have hel : es.length = (heads pss k).length := by rw [← hmap]; simp
    have HP := Lib.hid hp
    have HMAP := Lib.hid hmap
    have HK := Lib.hid hkk
    have HB := Lib.hid hb
    have HEL := Lib.hid hel
    have hes : es.length ≤ 40 := by omega
    clear hp hmap hkk hb hel
    by_cases hlt : k < 40 ∧ k < pss.length
    · obtain ⟨hl1, hl2⟩ := hlt
      obtain ⟨b1, o1, u1, rfl, hc1, hb1⟩ := HV.out.at k hl2
      have c1 := cell_later HB.out hc1
      have hb1' := hb1.below HB.out (Nat.le_refl _)
      have HU := Lib.hid hb1
      have D1 := Lib.hid hb1'
      obtain ⟨ua, uc, rfl, -⟩ := hb1'
      have HC1 := Lib.hid hc1
      have r1 : (0 : Int) ≤ (k : Int) % 2 := by omega
      have r2 : (k : Int) % 2 < 2 := by omega
      clear hc1 hb1
      by_cases hbig : pss[k].length ≤ 65536
      · go_wp2_with fail
        refine (send_yes pb 2 rv es _ _ _ pss[k] _ HP.out D1.out (by omega) hbig (by omega) (by omega)).mono ?_
        rintro e w3 ⟨rfl, ⟨rv3, dv3, hp3, hr3, hd3⟩, hf3⟩
        have hk3 := HK.out.only hf3 (HK.out.apart HP.out)
        have hb3 := HB.out.trans (HP.out.front hf3 (by omega : w.heap.size ≤ pb))
        obtain ⟨vs3, ho3, hrd3⟩ := hk3.row
        have hal4 := (Below.refl w3.heap.size w3).alloc (Nat.le_refl _) (.cells #[.slice ua pss[k].length uc] 30)
        have hhy : heads pss (k + 1) = heads pss k ++ [pss[k]] := heads_yes pss k hl2 hbig
        have HHY := Lib.hid hhy
        have HP3 := Lib.hid hp3
        have HO3 := Lib.hid ho3
        have HO4 := Lib.hid (ownsRow_below ho3 hal4 (Nat.le_refl _))
        have HP4 := Lib.hid (hp3.below hal4)
        have HRD3 := Lib.hid hrd3
        have HB3 := Lib.hid hb3
        have HB4 := Lib.hid (hb3.trans (hal4.mono hb3.size))
        have HLIT := Lib.hid (Rd.lit (w := w3) (cs := #[.slice ua pss[k].length uc]) (e := 30) (n := 1) (sz := 1) rfl (by omega))
        have hbs : pb + 1 ≤ (w3.alloc (.cells #[.slice ua pss[k].length uc] 30)).heap.size := by have := hp3.lt; simp; omega
        have c13 := cell_later hb3 HC1.out
        clear hp3 hr3 hd3 hf3 hk3 hb3 ho3 hrd3 hal4 hhy
        go_wp2_with (at_builtin; go_loud (refine app_keep tyBytesL HO4.out HLIT.out (by simp [Value.oneCell']) (by omega) (by omega) (by omega) hbs rfl rfl rfl rfl ?_; intro g cap5 w5 h1 h2 h3 h4; have HP5 := Lib.hid (HP4.out.app HO4.out (by decide) (by decide) h3); have HK5 := Lib.hid (Kept.push vs3 _ _ (by have := HO4.out.1; omega) HRD3.out HU.out h1); have HB5 := Lib.hid (HB4.out.grown h3 HB4.out.size (fun j e => by have := (World.ownsRow.lt HO4.out j e).1; omega)); clear h1 h2 h3 h4))
        go_roundw
        case rel => exact ⟨k + 1, rv3, _, by omega, by omega, by go_num, HP5.out, by rw [HHY.out, List.map_append, HMAP.out]; rfl, by rw [HHY.out]; exact HK5.out, HB5.out⟩
        case measure => simp [intOf]; omega
      · have hsc : sendCode 2 ((k : Int) % 2) (1 - (k : Int) % 2) pss[k] = 2 := by unfold sendCode; rw [if_neg (by omega), if_pos (by omega)]
        go_wp2_with fail
        refine (send_no pb 2 _ _ _ pss[k] _ HP.out.c0 D1.out (by rw [hsc]; omega)).mono ?_
        rintro e w3 ⟨he3, hb3⟩
        rw [hsc] at he3
        subst he3
        have HHN := Lib.hid (heads_no pss k hl2 (by omega))
        have HP3 := Lib.hid (HP.out.below hb3)
        have HK3 := Lib.hid (HK.out.only (Only.of_below (S := fun _ => False) hb3) (fun _ _ h => h))
        have HB3 := Lib.hid (HB.out.trans (hb3.mono HB.out.size))
        clear hb3 hsc
        go_wp2_with fail
        go_roundw
        case rel => exact ⟨k + 1, rv, es, by omega, by omega, by go_num, HP3.out, by rw [HHN.out, HMAP.out], by rw [HHN.out]; exact HK3.out, HB3.out⟩
        case measure => simp [intOf]; omega
    · have hk3 : 40 ≤ k ∨ pss.length ≤ k := by omega
      clear hlt
      generalize heads pss k = ks at *
      obtain ⟨ka, kc, hkv⟩ := HK.out.slice
      subst hkv
      have hel := HEL.out
      rcases (show (¬ ((k : Int) < pss.length)) ∨ ((k : Int) < pss.length ∧ ¬ ((k : Int) < 40)) from by omega) with hq | ⟨hq, hq2⟩
      all_goals
        rcases Nat.eq_zero_or_pos ks.length with h0 | h0
        · obtain rfl : ks = [] := List.eq_nil_of_length_eq_zero h0
          obtain rfl : es = [] := List.eq_nil_of_length_eq_zero (by rw [hel]; rfl)
          simp only [List.length_nil]
          clear h0 hel
          obtain ⟨ra, rc, hrv⟩ := HP.out.slice
          have hc1 := HP.out.c1
          rw [hrv] at hc1
          simp only [List.length_nil] at hc1
          go_wp2_with fail
          go_loopw [10, 11, 12] (fun i _ _ wq => i = .int .i64 0 ∧ wq = wr) (fun _ _ _ _ => 0)
          case atStart => exact ⟨rfl, rfl⟩
          case round =>
            obtain ⟨rfl, rfl⟩ := hrel
            go_wp2_with fail
            refine (take_no pb 0 rc ra 0 _ hc1 (.inr (by simp))).mono ?_
            rintro e w6 ⟨rfl, hb6⟩
            have hc6 := cell_later hb6 hc1
            have HB6 := Lib.hid (HB.out.trans (hb6.mono HB.out.size))
            clear hb6
            go_wp2_with (go_at_call 13; refine (len_calls pb 0 rc ra _ hc6).mono ?_; rintro e w6 ⟨rfl, rfl⟩)
            go_ret
            exact ⟨rfl, HB6.out⟩
        · obtain ⟨s, hs1, hs2⟩ := tmod_pos tw ks.length h0
          have hks : ks.length ≤ 40 := by omega
          go_wp2_with fail
          have hs3 : s < es.length := by omega
          have hed : es[s].data = ks[s] := by
            have h := HMAP.out
            have h1 : (es.map (·.data))[s]? = ks[s]? := by rw [h]
            rw [List.getElem?_map, List.getElem?_eq_getElem hs3, List.getElem?_eq_getElem hs2] at h1
            exact Option.some.inj h1
          refine (twice_yes pb 2 rv es s _ HP.out hs3 (by omega)).mono ?_
          rintro e w3 ⟨rfl, ⟨rv3, dv3, hp3, hr3, hd3⟩, hf3⟩
          have hmp3 : (es ++ [(⟨es[s].f, es[s].t, dv3, es[s].data⟩ : Ent)]).map (fun e => e.data) = ks ++ [ks[s]] := by rw [List.map_append, HMAP.out, ← hed]; rfl
          have hl3 : (es ++ [(⟨es[s].f, es[s].t, dv3, es[s].data⟩ : Ent)]).length = ks.length + 1 := by simp [hel]
          generalize (es ++ [(⟨es[s].f, es[s].t, dv3, es[s].data⟩ : Ent)]) = es3 at *
          obtain ⟨ra, rc, hrv⟩ := hp3.slice
          have hc3 := hp3.c1
          rw [hrv, hl3] at hc3
          have hk3' := HK.out.only hf3 (HK.out.apart HP.out)
          have hb3 := HB.out.trans (HP.out.front hf3 (by omega : w.heap.size ≤ pb))
          obtain ⟨g5, c5, u5, hkv5, hcu5, hbu5⟩ := hk3'.at s hs2
          simp only [Value.slice.injEq] at hkv5
          obtain ⟨rfl, -, rfl⟩ := hkv5
          have HU := Lib.hid hbu5
          obtain ⟨ua, uc, rfl, -⟩ := hbu5
          obtain ⟨vs3, ho3, hrd3⟩ := hk3'.row
          have hal4 := (Below.refl w3.heap.size w3).alloc (Nat.le_refl _) (.cells #[.slice ua ks[s].length uc] 30)
          have HP3 := Lib.hid hp3
          have HO4 := Lib.hid (ownsRow_below ho3 hal4 (Nat.le_refl _))
          have HP4 := Lib.hid (hp3.below hal4)
          have HRD3 := Lib.hid hrd3
          have HB4 := Lib.hid (hb3.trans (hal4.mono hb3.size))
          have HLIT := Lib.hid (Rd.lit (w := w3) (cs := #[.slice ua ks[s].length uc]) (e := 30) (n := 1) (sz := 1) rfl (by omega))
          have hbs : pb + 1 ≤ (w3.alloc (.cells #[.slice ua ks[s].length uc] 30)).heap.size := by have := hp3.lt; simp; omega
          have HMP3 := Lib.hid hmp3
          have HL3 := Lib.hid hl3
          have hq3 : (((ks.length + 1 : Nat) : Int) != (ks.length : Int) + 1) = false := by rw [bne_eq_false_iff_eq]; omega
          clear hp3 hr3 hd3 hf3 hk3' hb3 ho3 hrd3 hal4 hmp3 hl3 hed hrv
          go_wp2_with fail
          refine (len_calls pb (ks.length + 1) rc ra _ hc3).mono ?_
          rintro e w3' ⟨rfl, rfl⟩
          go_wp2_with (at_builtin; go_loud (refine app_keep tyBytesL HO4.out HLIT.out (by simp [Value.oneCell']) (by omega) (by omega) (by omega) hbs rfl rfl rfl rfl ?_; intro g cap5 w5 h1 h2 h3 h4; have HP5 := Lib.hid (HP4.out.app HO4.out (by decide) (by decide) h3); have HK5 := Lib.hid (Kept.push vs3 _ _ (by have := HO4.out.1; omega) HRD3.out HU.out h1); have HB5 := Lib.hid (HB4.out.grown h3 HB4.out.size (fun j e => by have := (World.ownsRow.lt HO4.out j e).1; omega)); clear h1 h2 h3 h4))
          have hl6 : (ks ++ [ks[s]]).length = ks.length + 1 := by simp
          have hes3 := HMP3.out
          generalize ks ++ [ks[s]] = ks2 at *
          have HL6 := Lib.hid hl6
          clear hl6 hc3 hcu5 hq3 hbs
          have hes3l := HL3.out
          go_loopw [10, 11, 12] (fun iv _ _ wq => ∃ (j : Nat) (rv : Value) (es : List Ent), j ≤ ks.length + 1 ∧ iv = .int .i64 j ∧ Post wq pb 2 rv es ∧ es.map (fun e => e.data) = ks2.drop j ∧ Kept w wq (pb + 1) (.slice (some ⟨g, 0, none⟩) (ks.length + 1) cap5) ks2 ∧ Below w.heap.size w wq) (fun iv _ _ _ => ks.length + 1 - (intOf iv).toNat)
          case atStart => exact ⟨0, rv3, es3, by omega, rfl, HP5.out, by rw [hes3]; rfl, HK5.out, HB5.out⟩
          case round =>
            obtain ⟨j, rvj, esj, hj, rfl, hpj, hmj, hkj, hbj⟩ := hrel
            have hlj : esj.length = ks.length + 1 - j := by
              have h := congrArg List.length hmj
              rw [List.length_map, List.length_drop, HL6.out] at h
              exact h
            by_cases hjlt : j < ks.length + 1
            · obtain ⟨e0, er, rfl⟩ : ∃ e0 er, esj = e0 :: er := List.exists_cons_of_length_pos (by omega)
              have hj2 : j < ks2.length := by rw [HL6.out]; exact hjlt
              have hd0 : e0.data = ks2[j] ∧ er.map (fun e => e.data) = ks2.drop (j + 1) := by
                rw [List.drop_eq_getElem_cons hj2, List.map_cons] at hmj
                exact List.cons.inj hmj
              obtain ⟨hd0, hdr⟩ := hd0
              obtain ⟨gk, ck, uk, hkv6, hcu6, hbu6⟩ := hkj.at j hj2
              rw [HL6.out] at hkv6
              simp only [Value.slice.injEq, Option.some.injEq, Addr.mk.injEq, and_true, true_and] at hkv6
              obtain ⟨rfl, rfl⟩ := hkv6
              have HDR := Lib.hid hdr
              have HKJ := Lib.hid hkj
              have HBJ := Lib.hid hbj
              have HPJ := Lib.hid hpj
              have HU6 := Lib.hid hbu6
              have hnlt : g ≠ pb := fun e => (HKJ.out.apart HPJ.out) g rfl (.inl e)
              clear hmj hkj hbj hdr hpj
              go_wp2_with fail
              refine (take_yes pb 2 rvj (e0 :: er) 0 _ HPJ.out (by simp) (by omega)).mono ?_
              rintro e w7 ⟨rfl, rv7, hp7, hr7, hm7, hf7⟩
              simp only [List.getElem_cons_zero, List.eraseIdx_cons_zero] at hp7 hm7 ⊢
              obtain ⟨f7, t7, dv7, x7⟩ := e0
              simp only at hm7 hd0 ⊢
              subst hd0
              obtain ⟨ma, mc, rfl⟩ := hm7.slice
              have hal8 := (Below.refl w7.heap.size w7).alloc (Nat.le_refl _) (.cells #[.int .i64 f7, .int .i64 t7, .slice ma ks2[j].length mc] 32)
              have hcu7 := hf7.cell hnlt hcu6
              have hcu8 := cell_later hal8 hcu7
              have hb7 : Below w.heap.size w w7 := HBJ.out.trans (hf7.below (by have h := HBJ.out.size; exact h) (fun q hq e => by omega))
              have hb8 := hb7.trans (hal8.mono hb7.size)
              have HP8 := Lib.hid (hp7.below hal8)
              have HM8 := Lib.hid (hm7.below hal8 (Nat.le_refl _))
              have HU8 := Lib.hid (HU6.out.below hb8 (Nat.le_refl _))
              have HK8 := Lib.hid ((HKJ.out.only hf7 (fun q hq e => (HKJ.out.apart HPJ.out) q hq (.inl e))).only (Only.of_below (S := fun _ => False) hal8) (fun _ _ h => h))
              have HB8 := Lib.hid hb8
              have hmb : (w7.alloc (.cells #[.int .i64 f7, .int .i64 t7, .slice ma ks2[j].length mc] 32)).cell? ⟨w7.heap.size, 2, none⟩ = some (.slice ma ks2[j].length mc) := by rw [World.cell?_alloc_at _ _ _ _ rfl]; rfl
              obtain ⟨ka6, kc6, hku, -⟩ := HU8.out
              subst hku
              clear hp7 hm7 hr7 hf7 hal8 hb7 hb8 hcu6 hcu7 hnlt HU6 hbu6
              go_wp2_with fail
              obtain ⟨jj, hjj⟩ : ∃ jj : Nat, jj = j := ⟨_, rfl⟩
              refine region_m [(0, false), (1, false), (2, false), (3, false), (4, false), (5, false), (6, false), (7, false), (8, false), (9, false), (10, false), (11, false), (12, false)] 13
                (fun W => (W.cell? ⟨w7.heap.size, 2, none⟩ = some (.slice ma ks2[j].length mc) ∧ W.cell? ⟨g, j, none⟩ = some (.slice ka6 ks2[j].length kc6)) ∧ Bytes W (.slice ma ks2[j].length mc) ks2[j] ∧ Bytes W (.slice ka6 ks2[j].length kc6) ks2[j]) (by kernel_rfl) (by kernel_rfl) ⟨⟨hmb, hcu8⟩, HM8.out.bytes, HU8.out⟩ ?_
              clear hjj
              iterate 13
                refine m_take (v := ?_) rfl rfl ?_ ?_
                rotate_left
                · rintro W ⟨⟨x1, x2⟩, y1, y2⟩
                  have z1 := run_bytes_str (P := Try.prog) (src := 30) (e := 5) (dst := 9) Try.underlying30 Try.underlying5 Try.underlying9 y1
                  have z2 := run_bytes_str (P := Try.prog) (src := 30) (e := 5) (dst := 9) Try.underlying30 Try.underlying5 Try.underlying9 y2
                  clear y1 y2
                  go_simp
                  with_reducible rfl
                simp only [Act.put, List.setIfInBounds_toArray, List.set_cons_zero, List.set_cons_succ]
              refine m_done ?_
              simp only [List.drop_succ_cons, List.drop_zero]
              go_wp2_with fail
              simp only [NP]
              go_wp2_with fail
              go_roundw
              case rel => exact ⟨j + 1, rv7, er, by omega, by go_num, HP8.out.drew, HDR.out, HK8.out.only ((Only.refl (fun _ => False) _).drew) (fun _ _ h => h), HB8.out.drew⟩
              case measure => simp [intOf]; omega
            · obtain rfl : esj = [] := List.eq_nil_of_length_eq_zero (by omega)
              obtain rfl : j = ks.length + 1 := by omega
              obtain ⟨ra, rc, hrv⟩ := hpj.slice
              have hcj := hpj.c1
              rw [hrv] at hcj
              simp only [List.length_nil] at hcj
              have HBJ := Lib.hid hbj
              clear hkj hmj hbj hpj hrv hlj
              go_wp2_with fail
              refine (take_no pb 0 rc ra 0 _ hcj (.inr (by simp))).mono ?_
              rintro e w6 ⟨rfl, hb6⟩
              have hc6 := cell_later hb6 hcj
              have HB6 := Lib.hid (HBJ.out.trans (hb6.mono HBJ.out.size))
              clear hb6
              go_wp2_with (go_at_call 13; refine (len_calls pb 0 rc ra _ hc6).mono ?_; rintro e w6 ⟨rfl, rfl⟩)
              go_ret
              exact ⟨rfl, HB6.out⟩
end Go.Proofs.Ytpmkepmnldkccaa
