/- Layer 2: FrameKeeps walked. -/
import Derived.Test.YtfmfmalhebfnhaaFrame07
import Derived.Test.YtfmfmalhebfnhaaLaw02
import Derived.Test.YtfmfmalhebfnhaaFrameMath2
import Derived.Test.YtfmfmalhebfnhaaApart
import Derived.IntWalk
namespace Go.Proofs.Ytfmfmalhebfnhaa
open Go.RowKit Go.Shelf CrcM FrM

theorem next_one (p : List UInt8) (hp : p.length ≤ 65536) : next (frameOf p) 0 = (p, ((12 + p.length : Nat) : Int), (0 : Int)) := by
  have h := next_frame (frameOf p) 0 p [] (by omega) (by simp) hp
  have h0 : ((0 : Nat) : Int) = 0 := rfl
  rw [h0] at h
  rw [h]
  have e : (0 : Int) + 12 + (p.length : Int) = ((12 + p.length : Nat) : Int) := by omega
  rw [e]
theorem count_one (p : List UInt8) (hp : p.length ≤ 65536) : Count (frameOf p) 1 ∧ pays (frameOf p) 1 = [p] := by
  obtain ⟨h1, -, h3⟩ := row_count [p] (frameOf p).length 1 (frameOf p) (by rw [rowOf_one, List.take_length]) (by rw [rowOf_one]; exact Nat.le_refl _) (by simpa using hp) (by simp) (by rw [show (1 : Nat) = [p].length from rfl, endAt_all, rowOf_one]; exact Nat.le_refl _) (.inl rfl)
  exact ⟨h1, by simpa using h3⟩

theorem ownsRow_mono {w : World} {base base' : Nat} {e : TypeId} {sz n : Nat} {v : Value} {xs : List Value} (h : w.ownsRow base e sz v n xs) (hb : base' ≤ base) : w.ownsRow base' e sz v n xs := by
  obtain ⟨h1, h2⟩ := h
  refine ⟨h1, ?_⟩
  rcases h2 with h2 | ⟨g, cap, cur, hv, hg, r⟩
  · exact .inl h2
  · exact .inr ⟨g, cap, cur, hv, Nat.le_trans hb hg, r⟩

theorem five {p : Nat → Prop} (h0 : p 0) (h1 : p 1) (h2 : p 2) (h3 : p 3) (h4 : p 4) : ∀ k, k < 5 → p k
  | 0, _ => h0
  | 1, _ => h1
  | 2, _ => h2
  | 3, _ => h3
  | 4, _ => h4
  | k + 5, h => by omega

def pick5 {α : Type} (a b c d e : α) : Nat → α
  | 0 => a
  | 1 => b
  | 2 => c
  | 3 => d
  | _ => e

/-- Five rows in blocks of their own. -/
theorem els_five {w : World} {base B : Nat} {ua ub uc ud ue : Value} {na nb nc nd ne : Nat} {xa xb xc xd xe : List Value} {a0 a1 b0 b1 c0 c1 d0 d1 e0 e1 : Nat}
    (ha : w.ownsRow base 5 1 ua na xa) (hb : w.ownsRow base 5 1 ub nb xb) (hc : w.ownsRow base 5 1 uc nc xc) (hd : w.ownsRow base 5 1 ud nd xd) (he : w.ownsRow base 5 1 ue ne xe)
    (ra : ∀ g, ua.ownBlock = some g → a0 ≤ g ∧ g < a1) (rb : ∀ g, ub.ownBlock = some g → b0 ≤ g ∧ g < b1) (rc : ∀ g, uc.ownBlock = some g → c0 ≤ g ∧ g < c1) (rd : ∀ g, ud.ownBlock = some g → d0 ≤ g ∧ g < d1) (re : ∀ g, ue.ownBlock = some g → e0 ≤ g ∧ g < e1)
    (hord : d1 ≤ c0 ∧ c1 ≤ e0 ∧ e1 ≤ a0 ∧ a1 ≤ b0 ∧ b1 ≤ B ∧ d0 ≤ d1 ∧ c0 ≤ c1 ∧ e0 ≤ e1 ∧ a0 ≤ a1 ∧ b0 ≤ b1)
    (hl : ∀ k, k < 5 → w.cell? ⟨B, 0 + k, none⟩ = some (pick5 ua ub uc ud ue k)) :
    Els w base 5 B 0 (pick5 ua ub uc ud ue) (pick5 na nb nc nd ne) (pick5 xa xb xc xd xe) := by
  have rng : ∀ k, k < 5 → ∀ g, (pick5 ua ub uc ud ue k).ownBlock = some g → pick5 a0 b0 c0 d0 e0 k ≤ g ∧ g < pick5 a1 b1 c1 d1 e1 k := five ra rb rc rd re
  have dis : ∀ j, j < 5 → ∀ k, k < 5 → j ≠ k → pick5 a1 b1 c1 d1 e1 j ≤ pick5 a0 b0 c0 d0 e0 k ∨ pick5 a1 b1 c1 d1 e1 k ≤ pick5 a0 b0 c0 d0 e0 j := by
    refine five ?_ ?_ ?_ ?_ ?_ <;> refine five ?_ ?_ ?_ ?_ ?_ <;> intro hne <;> simp only [pick5] <;> omega
  have top : ∀ k, k < 5 → pick5 a1 b1 c1 d1 e1 k ≤ B := by refine five ?_ ?_ ?_ ?_ ?_ <;> simp only [pick5] <;> omega
  refine ⟨five ha hb hc hd he, fun j k hj hk hjk e => ?_, hl, fun k hk e => ?_⟩
  · cases hg : (pick5 ua ub uc ud ue j).ownBlock with
    | none => rfl
    | some g =>
      have h1 := rng j hj g hg
      have h2 := rng k hk g (by rw [← e]; exact hg)
      have := dis j hj k hk hjk
      omega
  · have h1 := rng k hk B e
    have := top k hk
    omega

set_option maxHeartbeats 1000000 in
set_option maxRecDepth 100000 in
theorem frameKeeps_core (v : Value) (xs : List UInt8) (w : World) (hv : Bytes w v xs) (hlen : xs.length ≤ 140737488351232) :
    Calls Try.prog 8 #[v] w fun e w' => e = .returned (.bool true) ∧ Below w.heap.size w w' := by
  have HV := Lib.hid hv
  obtain ⟨a, cap, rfl, -⟩ := hv
  go_enter Try.func8, Try.ntmps8
  go_wp2_with fail
  refine (room_calls _ xs _ HV.out hlen).mono ?_
  rintro e w1 ⟨⟨r, rfl, hr⟩, hb1⟩
  have HR1 := Lib.hid hr
  have HB1 := Lib.hid hb1
  clear hr hb1
  go_wp2_with fail
  refine (put_calls _ xs _ HR1.out.bytes).mono ?_
  rintro e w2 ⟨f, c, rfl, hp, hb2⟩
  have HR2 := Lib.hid (HR1.out.below hb2 (Nat.le_refl _))
  have HB2 := Lib.hid (HB1.out.trans (hb2.mono HB1.out.size))
  have hs2 := hb2.size
  clear hb2
  go_wp2_with fail
  refine (known_calls _).mono ?_
  rintro e w3 ⟨rfl, hb3⟩
  have HR3 := Lib.hid (HR2.out.below hb3 (Nat.le_refl _))
  have HB3 := Lib.hid (HB2.out.trans (hb3.mono HB2.out.size))
  have hs3 := hb3.size
  unfold PutOut at hp
  by_cases hbig : xs.length ≤ 65536
  · rw [if_pos hbig] at hp
    obtain ⟨hmf, rfl⟩ := hp
    have hflt := fun g (hg : f.ownBlock = some g) => World.ownsRow.lt hmf g hg
    have HF3 := Lib.hid (hmf.below hb3 (Nat.le_refl _))
    clear hmf hb3
    have hone := next_one xs hbig
    have hcount := count_one xs hbig
    have hfl : (frameOf xs).length ≤ 65548 := by rw [frameOf_length]; omega
    generalize frameOf xs = F at *
    have HONE := Lib.hid hone
    have HCOUNT := Lib.hid hcount
    clear hone hcount
    obtain ⟨fa, fc, rfl⟩ := HF3.out.slice
    go_wp2_with fail
    refine (kept_calls _ _ xs _ _ HR3.out (HV.out.below HB3.out (Nat.le_refl _)) hlen).mono ?_
    rintro e w4 ⟨rfl, rfl⟩
    go_wp2_with fail
    refine (room_calls _ (F) _ HF3.out.bytes (by omega)).mono ?_
    rintro e w5 ⟨⟨s, rfl, hs⟩, hb5⟩
    have HS5 := Lib.hid hs
    have HR5 := Lib.hid (HR3.out.below hb5 (Nat.le_refl _))
    have HF5 := Lib.hid (HF3.out.below hb5 (Nat.le_refl _))
    have HB5 := Lib.hid (HB3.out.trans (hb5.mono HB3.out.size))
    have hs5 := hb5.size
    clear hs hb5
    go_wp2_with fail
    refine (next_calls _ (F) 0 _ HS5.out.bytes (by omega) (by omega)).mono ?_
    rintro e w6 ⟨ra, na, ca, rfl, ⟨hma, hna, hca⟩, hb6⟩
    rw [HONE.out] at hma hna hca
    simp only at hma hna hca
    subst hna hca
    have halt := fun g (hg : ra.ownBlock = some g) => World.ownsRow.lt hma g hg
    have HA6 := Lib.hid hma
    have HS6 := Lib.hid (HS5.out.below hb6 (Nat.le_refl _))
    have HR6 := Lib.hid (HR5.out.below hb6 (Nat.le_refl _))
    have HF6 := Lib.hid (HF5.out.below hb6 (Nat.le_refl _))
    have HB6 := Lib.hid (HB5.out.trans (hb6.mono HB5.out.size))
    have hs6 := hb6.size
    clear hma hb6
    go_wp2_with fail
    obtain ⟨hcnt, hpays⟩ := HCOUNT.out
    refine (cut_calls _ (F) 1 _ HS6.out.bytes (by omega) hcnt).mono ?_
    rintro e w7 ⟨l, rfl, hml, hb7⟩
    rw [hpays] at hml
    obtain ⟨la, lc, hls⟩ := hml.slice'
    simp only [List.length_cons, List.length_nil, Nat.zero_add] at hls
    subst hls
    have HL7 := Lib.hid hml
    have HA7 := Lib.hid (HA6.out.below hb7 (Nat.le_refl _))
    have HS7 := Lib.hid (HS6.out.below hb7 (Nat.le_refl _))
    have HR7 := Lib.hid (HR6.out.below hb7 (Nat.le_refl _))
    have HF7 := Lib.hid (HF6.out.below hb7 (Nat.le_refl _))
    have HB7 := Lib.hid (HB6.out.trans (hb7.mono HB6.out.size))
    have hs7 := hb7.size
    clear hml hb7 hcnt hpays
    go_wp2_with fail
    refine (kept_calls _ _ (F) _ _ HS7.out HF7.out.bytes (by omega)).mono ?_
    rintro e w8 ⟨rfl, rfl⟩
    go_wp2_with fail
    obtain ⟨rg, rc, rfl, hro⟩ := HR7.out
    obtain ⟨sg, sc, rfl, hso⟩ := HS7.out
    obtain ⟨vs, hlo, hle⟩ := HL7.out
    have hvl : vs.length = 1 := by have := hlo.1; simpa using this
    obtain ⟨u, rfl⟩ : ∃ u, vs = [u] := List.length_eq_one_iff.1 hvl
    have hmu := hle 0 u xs rfl rfl
    obtain ⟨lg, lc', hlv, -, -⟩ := hlo.form (by simp)
    simp only [Value.slice.injEq] at hlv
    obtain ⟨rfl, -, rfl⟩ := hlv
    have hlc := World.ownsRow.cells hlo rfl 0 u rfl
    rw [add_off] at hlc
    have hlt : ∀ {n : Nat} {g c : Nat} {ys : List Value} {b : Nat} {W : World}, W.ownsRow b 5 1 (.slice (some ⟨g, 0, none⟩) n c) n ys → b ≤ g ∧ g < W.heap.size ∧ n ≤ c ∧ c ≤ 9223372036854775807 := by
      intro n g c ys b W h
      have h2 := World.ownsRow.lt h g rfl
      rcases h.2 with ⟨h', -⟩ | ⟨g', cap', cur, h', -, -, hn, hm, -⟩
      · cases h'
      · simp only [Value.slice.injEq, Option.some.injEq, Addr.mk.injEq, and_true, true_and] at h'
        obtain ⟨rfl, rfl⟩ := h'
        exact ⟨h2.1, h2.2, hn, by unfold maxLen at hm; omega⟩
    have hr5 := hlt hro
    have hs5' := hlt hso
    have g1 : (xs.length : Int) + 3 ≤ rc := by omega
    have g2 : (F.length : Int) + 3 ≤ sc := by omega
    have hrg : rg < w1.heap.size := by
      obtain ⟨g, c, e, h⟩ := HR1.out
      simp only [Value.slice.injEq, Option.some.injEq, Addr.mk.injEq, and_true, true_and] at e
      obtain ⟨rfl, rfl⟩ := e
      exact (hlt h).2.1
    have hsg : sg < w5.heap.size := by
      obtain ⟨g, c, e, h⟩ := HS5.out
      simp only [Value.slice.injEq, Option.some.injEq, Addr.mk.injEq, and_true, true_and] at e
      obtain ⟨rfl, rfl⟩ := e
      exact (hlt h).2.1
    have hult := fun g (hg : u.ownBlock = some g) => World.ownsRow.lt hmu g hg
    have hone := own_one hmu
    have honea := own_one HA7.out
    have hcell : w8.cell? ⟨lg, 0, none⟩ = some u := by simpa using hlc
    have HRO := Lib.hid hro
    have HSO := Lib.hid hso
    have HMU := Lib.hid hmu
    have HFLT := Lib.hid hflt
    have HALT := Lib.hid halt
    have HULT := Lib.hid hult
    have hr5a := hr5.1
    have hs5a := hs5'.1
    have hrg2 := hr5.2.2.1
    have hsg2 := hs5'.2.2.1
    obtain ⟨aa, ac, rfl⟩ := HA7.out.slice
    obtain ⟨ua, uc, rfl⟩ := hmu.slice
    clear hro hso hmu hflt halt hult hle hlo hlc hvl hlt hr5 hs5'
    have g3 : IntKind.i64.wrap ((xs.length : Int) + 3) = (xs.length : Int) + 3 := IntWalk.i64_in _ (by omega)
    have g4 : IntKind.i64.wrap ((F.length : Int) + 3) = (F.length : Int) + 3 := IntWalk.i64_in _ (by omega)
    have g5 : (0 : Int) ≤ (xs.length : Int) + 3 := by omega
    have g6 : (0 : Int) ≤ (F.length : Int) + 3 := by omega
    have g7 : ((xs.length : Int) + 3).toNat = xs.length + 3 := by omega
    have g8 : ((F.length : Int) + 3).toNat = F.length + 3 := by omega
    refine region_m [(0, false), (1, false), (2, false), (3, false), (4, false), (5, false), (6, false), (7, false), (8, false), (9, false), (10, false), (11, false), (12, false), (13, false), (14, false), (15, true)] 16 (fun W => W.cell? ⟨lg, 0, none⟩ = some (.slice ua xs.length uc)) (by kernel_rfl) (by kernel_rfl) hcell ?_
    iterate 15
      refine m_take (v := ?_) rfl rfl ?_ ?_
      rotate_left
      · intro W hW
        go_simp
        with_reducible rfl
      simp only [Act.put, List.setIfInBounds_toArray, List.set_cons_zero, List.set_cons_succ]
    refine m_loud rfl (fun K hK => ?_)
    have HK := Lib.hid hK
    clear hK
    go_simp
    have hbase : w.heap.size ≤ w1.heap.size := HB1.out.size
    have hels := els_five (w := (w8.alloc (.cells #[.slice aa xs.length ac, .slice ua xs.length uc, .slice fa F.length fc, .slice (some ⟨rg, 0, none⟩) (xs.length + 3) rc, .slice (some ⟨sg, 0, none⟩) (F.length + 3) sc] 22)).drew) (base := w.heap.size) (B := w8.heap.size)
      (((HA7.out.mono (by omega)).alloc _).drew) (((HMU.out.mono (by omega)).alloc _).drew) (((HF7.out.mono (by omega)).alloc _).drew) ((HRO.out.alloc _).drew) ((World.ownsRow.alloc (ownsRow_mono HSO.out (by omega)) _).drew)
      HALT.out HULT.out HFLT.out (d0 := w.heap.size) (d1 := w1.heap.size) (fun g hg => by cases hg; exact ⟨hr5a, hrg⟩) (e0 := w4.heap.size) (e1 := w5.heap.size) (fun g hg => by cases hg; exact ⟨hs5a, hsg⟩)
      (by omega)
      (five (by rw [World.cell?_drew]; exact World.cell?_alloc_at _ _ _ _ rfl) (by rw [World.cell?_drew]; exact World.cell?_alloc_at _ _ _ _ rfl) (by rw [World.cell?_drew]; exact World.cell?_alloc_at _ _ _ _ rfl) (by rw [World.cell?_drew]; exact World.cell?_alloc_at _ _ _ _ rfl) (by rw [World.cell?_drew]; exact World.cell?_alloc_at _ _ _ _ rfl))
    have HELS := Lib.hid hels
    clear hels
    refine HK.out _ _ ((World.cell?_of_block (a := ⟨lg, 0, none⟩) (Below.heap_alloc _ _ _ (World.block_lt_of_cell? _ _ hcell))).trans hcell) ?_
    clear HK
    refine m_done ?_
    simp only [List.drop_succ_cons, List.drop_zero]
    clear g3 g4 g5 g6 g7 g8
    go_wp2_with fail
    refine (apart_calls w.heap.size 5 w8.heap.size 0 5 _ _ _ _ HELS.out (by omega) (by omega) (by omega) (five (by simp only [pick5]; omega) (by simp only [pick5]; omega) (by simp only [pick5]; omega) (by simp only [pick5]; omega) (by simp only [pick5]; omega)) (by have := HB7.out.size; simp; omega)).mono ?_
    rintro e w9 ⟨rfl, hb9⟩
    have HB9 := Lib.hid ((HB7.out.alloc HB7.out.size _).drew.trans hb9)
    clear hb9
    go_wp2_with fail
    simp only [NP]
    go_wp2_with fail
    go_ret
    exact ⟨rfl, HB9.out⟩
  · rw [if_neg hbig] at hp
    obtain ⟨rfl, rfl⟩ := hp
    have hi : (65536 : Int) < xs.length := by omega
    clear hb3
    go_wp2_with fail
    refine (kept_calls _ _ xs _ _ HR3.out (HV.out.below HB3.out (Nat.le_refl _)) hlen).mono ?_
    rintro e w4 ⟨rfl, rfl⟩
    go_wp2_with fail
    go_ret
    exact ⟨rfl, HB3.out⟩
end Go.Proofs.Ytfmfmalhebfnhaa
