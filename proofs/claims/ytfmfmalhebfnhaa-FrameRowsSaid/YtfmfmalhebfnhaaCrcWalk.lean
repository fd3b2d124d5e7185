/- crc.Extend and crc.Sum hand back the sum. -/
import Derived.Test.YtfmfmalhebfnhaaRegion
import Derived.Test.YtfmfmalhebfnhaaCrcHalf
namespace Go.Proofs.Ytfmfmalhebfnhaa
open Go.RowKit Go.Shelf CrcM
attribute [local go_sem] Oper.semAt_some

/-- What halves' closure tells: of each byte the lower half, then the higher. -/
def HStep (xs : List UInt8) (s : Nat) (args : Array Value) (s' : Nat) (_ : World) : Prop :=
  (∃ j, j < xs.length ∧ s = 2 * j ∧ args = #[.int .u32 (bt xs j % 16)] ∧ s' = 2 * j + 1) ∨
  (∃ j, j < xs.length ∧ s = 2 * j + 1 ∧ args = #[.int .u32 (bt xs j / 16)] ∧ s' = 2 * j + 1 + 1)

set_option maxHeartbeats 800000 in
set_option maxRecDepth 100000 in
theorem halves1_iter (xs : List UInt8) (v : Value) (b0 l : Nat) (J : Nat → World → Prop) (Jx : World → Prop) (w : World)
    (hb0 : w.cell? ⟨b0, 0, none⟩ = some v)
    (hv : ∀ s W, J s W → Bytes W v xs)
    (hy : ∀ s args s' W, J s W → HStep xs s args s' W → YieldAt Fence.wide 0 Try.prog l args W fun e W' => (e = .returned (.bool true) ∧ J s' W') ∨ (e = .returned (.bool false) ∧ Jx W'))
    (h0 : J 0 w) :
    CallsIn Fence.wide 0 Try.prog 34 #[.func (.yield l) #[] #[], .pointer (some ⟨b0, 0, none⟩)] w fun e W' => (∃ v, e = .returned v) ∧ ((∃ s, s = 2 * xs.length ∧ J s W') ∨ Jx W') := by
  obtain ⟨a, cap, rfl, hl, hcap, -⟩ := hv 0 w h0
  have HV := Lib.hid hv
  have HY := Lib.hid hy
  have H0 := Lib.hid h0
  clear hv hy h0
  refine callsIn_of_wp Try.func34 rfl trivial ?_
  simp only [Try.ntmps34, List.size_toArray, List.length_cons, List.length_nil, Nat.reduceAdd, Nat.reduceSub, Array.replicate_succ, Array.replicate_zero, List.push_toArray, List.append_toArray, List.nil_append, List.cons_append]
  gi_wp2
  gi_loopw [4, 7] (fun _ i wr => ∃ k : Nat, k ≤ xs.length ∧ i = .int .i64 k ∧ J (2 * k) wr) (fun _ i _ => xs.length - (intOf i).toNat)
  case atStart => exact ⟨0, by omega, rfl, H0.out⟩
  case round =>
    obtain ⟨k, hk, rfl, hj⟩ := hrel
    by_cases hlt : k < xs.length
    · obtain ⟨a', cap', hv', -, -, hcc⟩ := HV.out _ _ hj
      simp only [Value.slice.injEq] at hv'
      obtain ⟨rfl, -, rfl⟩ := hv'
      rcases hcc with rfl | ⟨b, off, rfl, hc⟩
      · omega
      have hck := hc k hlt
      have h1 := bt_lo xs k
      have h2 := bt_hi xs k
      obtain ⟨fn, tmps, assign, body, hyy, hR⟩ := HY.out _ _ _ _ hj (.inl ⟨k, hlt, rfl, rfl, rfl⟩)
      clear hc hj
      gi_wp2
      refine hR.mono ?_
      clear hR hyy
      rintro e W' (⟨rfl, hj1⟩ | ⟨rfl, hjx⟩)
      · obtain ⟨fn, tmps, assign, body, hyy, hR⟩ := HY.out _ _ _ _ hj1 (.inr ⟨k, hlt, rfl, rfl, rfl⟩)
        clear hj1
        gi_wp2
        refine hR.mono ?_
        clear hR hyy
        rintro e W'' (⟨rfl, hj2⟩ | ⟨rfl, hjx⟩)
        · gi_wp2
          go_roundw
          case rel => exact ⟨k + 1, by omega, by go_num, hj2⟩
          case measure => simp [intOf]; omega
        · gi_wp2
          refine bodyPost_ret (results_none rfl _ _ _) rfl ?_
          exact ⟨⟨_, rfl⟩, .inr hjx⟩
      · gi_wp2
        refine bodyPost_ret (results_none rfl _ _ _) rfl ?_
        exact ⟨⟨_, rfl⟩, .inr hjx⟩
    · obtain rfl : k = xs.length := by omega
      gi_wp2
      go_end0
      exact ⟨⟨_, rfl⟩, .inl ⟨_, rfl, hj⟩⟩

/-- The halves one by one. -/
def nibAt (xs : List UInt8) (s : Nat) : BitVec 32 := if s % 2 = 0 then lo (xs.getD (s / 2) 0) else hi (xs.getD (s / 2) 0)
def runTo (r : BitVec 32) (xs : List UInt8) : Nat → BitVec 32
  | 0 => r
  | s + 1 => nib (runTo r xs s) (nibAt xs s)
theorem runTo_even (r : BitVec 32) (xs : List UInt8) (k : Nat) (hk : k ≤ xs.length) : runTo r xs (2 * k) = run r (xs.take k) := by
  induction k with
  | zero => simp [runTo, run_nil]
  | succ k ih =>
    have hlt : k < xs.length := by omega
    rw [List.take_succ_eq_append_getElem hlt, run_append, ← ih (by omega), show 2 * (k + 1) = 2 * k + 1 + 1 by omega]
    simp only [runTo, nibAt]
    rw [if_pos (by omega), if_neg (by omega), show (2 * k + 1) / 2 = k by omega, show 2 * k / 2 = k by omega]
    rw [List.getD_eq_getElem?_getD, List.getElem?_eq_getElem hlt, run_cons, run_nil]; rfl
theorem runTo_all (r : BitVec 32) (xs : List UInt8) : runTo r xs (2 * xs.length) = run r xs := by
  rw [runTo_even r xs _ (Nat.le_refl _), List.take_length]

/-- The round's step as the walk spells it. -/
theorem nib_walk (r : BitVec 32) (h : BitVec 32) :
    bits BinOp.xor IntKind.u32 ((r.toNat : Int) / 16) (tv (bits BinOp.and IntKind.u32 (bits BinOp.xor IntKind.u32 (r.toNat : Int) (h.toNat : Int)) 15).toNat) = ((nib r h).toNat : Int) := by
  have hr := r.isLt
  have h2 := h.isLt
  have hx : bits BinOp.xor IntKind.u32 (r.toNat : Int) (h.toNat : Int) = ((r ^^^ h).toNat : Int) := by rw [u32_xor_nat _ _ hr h2]; simp
  have ha : bits BinOp.and IntKind.u32 ((r ^^^ h).toNat : Int) 15 = (((r ^^^ h).toNat % 16 : Nat) : Int) := by
    have := u32_and_nat (r ^^^ h).toNat 15 (r ^^^ h).isLt (by omega)
    rw [nat_mask4] at this; exact this
  rw [hx, ha, Int.toNat_natCast]
  unfold tv
  have h3 : ((r.toNat : Int) / 16) = ((r.toNat / 16 : Nat) : Int) := by omega
  rw [h3, u32_xor_nat _ _ (by omega) (BitVec.isLt _)]
  unfold nib
  simp [Nat.shiftRight_eq_div_pow]

theorem nib_ix (r : BitVec 32) (h : BitVec 32) : 0 ≤ bits BinOp.and IntKind.u32 (bits BinOp.xor IntKind.u32 (r.toNat : Int) (h.toNat : Int)) 15 ∧ bits BinOp.and IntKind.u32 (bits BinOp.xor IntKind.u32 (r.toNat : Int) (h.toNat : Int)) 15 < 16 := by
  have hx : bits BinOp.xor IntKind.u32 (r.toNat : Int) (h.toNat : Int) = ((r ^^^ h).toNat : Int) := by rw [u32_xor_nat _ _ r.isLt h.isLt]; simp
  have ha : bits BinOp.and IntKind.u32 ((r ^^^ h).toNat : Int) 15 = (((r ^^^ h).toNat % 16 : Nat) : Int) := by
    have := u32_and_nat (r ^^^ h).toNat 15 (r ^^^ h).isLt (by omega)
    rw [nat_mask4] at this; exact this
  rw [hx, ha]; omega

theorem nibAt_lo (xs : List UInt8) (j : Nat) : bt xs j % 16 = ((nibAt xs (2 * j)).toNat : Int) := by
  unfold nibAt bt
  rw [if_pos (by omega), show 2 * j / 2 = j by omega]
  generalize xs.getD j 0 = b
  unfold lo
  have := b.toNat_lt
  simp; omega
theorem nibAt_hi (xs : List UInt8) (j : Nat) : bt xs j / 16 = ((nibAt xs (2 * j + 1)).toNat : Int) := by
  unfold nibAt bt
  rw [if_neg (by omega), show (2 * j + 1) / 2 = j by omega]
  generalize xs.getD j 0 = b
  unfold hi
  have := b.toNat_lt
  simp; omega
theorem nibAt_lt (xs : List UInt8) (s : Nat) : (nibAt xs s).toNat < 16 := by
  unfold nibAt; split
  · exact lo_lt _
  · exact hi_lt _

/-- halves' step, the argument by nibAt. -/
theorem HStep.at {xs : List UInt8} {s : Nat} {args : Array Value} {s' : Nat} {W : World} (h : HStep xs s args s' W) : args = #[.int .u32 ((nibAt xs s).toNat)] ∧ s' = s + 1 := by
  rcases h with ⟨j, -, rfl, rfl, rfl⟩ | ⟨j, -, rfl, rfl, rfl⟩
  · exact ⟨by rw [nibAt_lo], rfl⟩
  · exact ⟨by rw [nibAt_hi], rfl⟩

/-- What Extend's loop keeps: the table in its block, the sum so far in its cell. -/
structure ExtRel (w : World) (xs : List UInt8) (r0 : BitVec 32) (s : Nat) (t r : Nat) (W : World) : Prop where
  tc : ∀ j, j < 16 → W.cell? ⟨t, j, none⟩ = some (.int .u32 (tv j))
  rc : W.cell? ⟨r, 0, none⟩ = some (.int .u32 ((runTo r0 xs s).toNat))
  rf : W.frozen? ⟨r, 0, none⟩ = false
  b : Below w.heap.size w W

theorem ExtRel.calm {w : World} {xs : List UInt8} {r0 : BitVec 32} {s t r B : Nat} {W W' : World} (hB : w.heap.size ≤ B) (hc : Calm B W W') (h : ExtRel w xs r0 s t r W) : ExtRel w xs r0 s t r W' :=
  ⟨fun j hj => hc.cell (h.tc j hj), hc.cell h.rc, (hc.frozen h.rc).trans h.rf, h.b.trans (hc.below.mono hB)⟩


theorem halves_calls (a : Option Addr) (n c : Nat) (w : World) : CallsIn Fence.wide 0 Try.prog 33 #[.slice a n c] w fun e w' => e = .returned (.func (.func 34) #[] #[.pointer (some ⟨w.heap.size, 0, none⟩)]) ∧ w' = w.alloc (.cells #[.slice a n c] 22) := by
  refine callsIn_of_wp Try.func33 rfl trivial ?_
  simp only [Try.ntmps33, List.size_toArray, List.length_cons, List.length_nil, Nat.reduceAdd, Nat.reduceSub, Array.replicate_succ, Array.replicate_zero, List.push_toArray, List.append_toArray, List.nil_append, List.cons_append]
  gi_wp2
  go_ret
  exact ⟨rfl, rfl⟩

theorem not_walk (s : BitVec 32) : bits BinOp.xor IntKind.u32 IntKind.u32.max (s.toNat : Int) = ((~~~ s).toNat : Int) := by
  have h : (IntKind.u32.max : Int) = ((4294967295 : Nat) : Int) := rfl
  rw [h, u32_xor_nat _ _ (by omega) s.isLt]
  have h2 : (4294967295 : Nat) = (BitVec.allOnes 32).toNat := by decide
  rw [h2, ← BitVec.toNat_xor, BitVec.allOnes_xor]

/-- A block of sixteen known cells. -/
theorem tbl_cells (w : World) (t : TypeId) : ∀ j, j < 16 → (w.alloc (.cells #[.int .u32 (tv 0), .int .u32 (tv 1), .int .u32 (tv 2), .int .u32 (tv 3), .int .u32 (tv 4), .int .u32 (tv 5), .int .u32 (tv 6), .int .u32 (tv 7), .int .u32 (tv 8), .int .u32 (tv 9), .int .u32 (tv 10), .int .u32 (tv 11), .int .u32 (tv 12), .int .u32 (tv 13), .int .u32 (tv 14), .int .u32 (tv 15)] t)).cell? ⟨w.heap.size, j, none⟩ = some (.int .u32 (tv j)) := by
  intro j hj
  rw [World.cell?_alloc_at _ _ _ _ rfl]
  have : j = 0 ∨ j = 1 ∨ j = 2 ∨ j = 3 ∨ j = 4 ∨ j = 5 ∨ j = 6 ∨ j = 7 ∨ j = 8 ∨ j = 9 ∨ j = 10 ∨ j = 11 ∨ j = 12 ∨ j = 13 ∨ j = 14 ∨ j = 15 := by omega
  rcases this with rfl | rfl | rfl | rfl | rfl | rfl | rfl | rfl | rfl | rfl | rfl | rfl | rfl | rfl | rfl | rfl <;> rfl

theorem ExtRel.store {w : World} {xs : List UInt8} {r0 : BitVec 32} {s t : Nat} {W : World} (hB : w.heap.size ≤ t) (h : ExtRel w xs r0 s t (t + 1) W) : ExtRel w xs r0 (s + 1) t (t + 1) (W.setCell ⟨t + 1, 0, none⟩ (.int .u32 ((runTo r0 xs (s + 1)).toNat))).drew := by
  refine ⟨fun j hj => ?_, ?_, ?_, ?_⟩
  · rw [World.cell?_drew, cell_set_block _ (by omega), h.tc j hj]
  · rw [World.cell?_drew, cell_set_same _ h.rc]
  · rw [World.frozen?_drew, frozen_set, h.rf]
  · exact (h.b.setCell (by simp; omega) _).drew

attribute [local go_sem] tblV
set_option maxHeartbeats 1000000 in
set_option maxRecDepth 100000 in
theorem extend_calls (s : BitVec 32) (v : Value) (xs : List UInt8) (w : World) (hv : Bytes w v xs) :
    Calls Try.prog 31 #[.int .u32 (s.toNat), v] w fun e w' => e = .returned (.int .u32 ((ext s xs).toNat)) ∧ Below w.heap.size w w' := by
  have HV := Lib.hid hv
  obtain ⟨a, cap, rfl, hl, hcap, -⟩ := hv
  have hs := s.isLt
  have hnot := not_walk s
  obtain ⟨r0, hr0⟩ : ∃ r0, r0 = ~~~ s := ⟨_, rfl⟩
  have HR0 := Lib.hid hr0
  rw [← hr0] at hnot
  clear hr0
  refine (callsIn_wide (n := 0)).1 ?_
  refine callsIn_of_wp_marks Try.func31 rfl trivial ?_
  simp only [Try.ntmps31, List.size_toArray, List.length_cons, List.length_nil, Nat.reduceAdd, Nat.reduceSub, Array.replicate_succ, Array.replicate_zero, List.push_toArray, List.append_toArray, List.nil_append, List.cons_append]
  gi_wp2_with (first | (gi_at_call 32; refine (callsIn_wide.2 (half_calls _)).mono ?_; rintro e w1 ⟨rfl, hb1⟩) | (gi_at_call 33; refine (halves_calls _ _ _ _).mono ?_; rintro e w1 ⟨rfl, rfl⟩))
  have ht := tbl_cells w1 57
  generalize hX : w1.alloc (.cells #[.int .u32 (tv 0), .int .u32 (tv 1), .int .u32 (tv 2), .int .u32 (tv 3), .int .u32 (tv 4), .int .u32 (tv 5), .int .u32 (tv 6), .int .u32 (tv 7), .int .u32 (tv 8), .int .u32 (tv 9), .int .u32 (tv 10), .int .u32 (tv 11), .int .u32 (tv 12), .int .u32 (tv 13), .int .u32 (tv 14), .int .u32 (tv 15)] 57) = X at ht ⊢
  have hXs : X.heap.size = w1.heap.size + 1 := by rw [← hX]; simp
  have hXb : Below w.heap.size w X := by rw [← hX]; exact hb1.alloc hb1.size _
  have hsz := hb1.size
  have hrel0 : ExtRel w xs r0 0 w1.heap.size (w1.heap.size + 1) ((X.alloc (.cells #[.int .u32 r0.toNat] 48)).alloc (.cells #[.slice a xs.length cap] 22)) := by
    refine ⟨fun j hj => ?_, ?_, ?_, (hXb.alloc (by omega) _).alloc (by simp; omega) _⟩
    · rw [World.cell?_alloc_past _ _ _ (by simp; omega), World.cell?_alloc_past _ _ _ (by omega), ht j hj]
    · rw [World.cell?_alloc_past _ _ _ (by simp; omega), World.cell?_alloc_at _ _ _ _ (by omega)]; rfl
    · rw [World.frozen?_alloc_past _ _ _ (by simp; omega), World.frozen?_alloc_at _ _ _ _ (by omega)]
  have hbox : ((X.alloc (.cells #[.int .u32 r0.toNat] 48)).alloc (.cells #[.slice a xs.length cap] 22)).cell? ⟨w1.heap.size + 1 + 1, 0, none⟩ = some (.slice a xs.length cap) := by
    rw [World.cell?_alloc_at _ _ _ _ (by simp; omega)]; rfl
  have hYs : ((X.alloc (.cells #[.int .u32 r0.toNat] 48)).alloc (.cells #[.slice a xs.length cap] 22)).heap.size = w1.heap.size + 3 := by simp; omega
  generalize hY : (X.alloc (.cells #[.int .u32 r0.toNat] 48)).alloc (.cells #[.slice a xs.length cap] 22) = Y at *
  clear hX hY hXb ht hb1 hXs
  generalize w1.heap.size = t at *
  refine range_w (gf := 34) (lb := #[.pointer (some ⟨t + 1 + 1, 0, none⟩)]) rfl (enters_of Try.func34 (by kernel_rfl) rfl)
    (fun st W => ExtRel w xs r0 st t (t + 1) W) (fun _ _ => False) (HStep xs) (fun st => st = 2 * xs.length) 0
    (fun st W W' hc h => h.calm (by omega) hc) (fun _ _ _ _ h => h) hrel0 ?iter ?body ?done (fun _ _ _ _ h => h.elim)
  case iter =>
    intro l J' Jx' W _ _ hJJ hc hJ0 hy
    exact halves1_iter xs (.slice a xs.length cap) (t + 1 + 1) l J' Jx' W (hc.cell hbox) (fun s' W' h => HV.out.below (hJJ _ _ h).b (Nat.le_refl _)) hy hJ0
  case body =>
    intro l st args st' W hr hst hsz
    obtain ⟨rfl, rfl⟩ := hst.at
    refine ⟨rfl, ?_⟩
    gi_wp2
    refine ⟨KeepsOthers.refl _, fun W₂ hc => ?_⟩
    have hr2 := hr.calm (by omega) hc
    clear hr hrel0 hbox HV
    have hstep : runTo r0 xs (st + 1) = nib (runTo r0 xs st) (nibAt xs st) := rfl
    have HS := Lib.hid hstep
    have HR2 := Lib.hid hr2
    have hrc := hr2.rc
    have htc := hr2.tc
    have hrf := hr2.rf
    generalize hRR : runTo r0 xs st = R at *
    generalize nibAt xs st = H at *
    have HRR := Lib.hid hRR
    clear hstep hr2 hRR hc hst
    have hR1 := R.isLt
    have hH1 := H.isLt
    obtain ⟨hi1, hi2⟩ := nib_ix R H
    have hck := htc _ (show (bits BinOp.and IntKind.u32 (bits BinOp.xor IntKind.u32 (R.toNat : Int) (H.toNat : Int)) 15).toNat < 16 by omega)
    clear htc
    gi_wp2
    refine region_mi [(0, false), (1, false), (2, false), (3, false), (4, false), (5, false), (6, false), (7, false), (8, false)] 9
      (fun W => W.cell? ⟨t + 1, 0, none⟩ = some (.int .u32 R.toNat) ∧ W.cell? ⟨t, (bits BinOp.and IntKind.u32 (bits BinOp.xor IntKind.u32 (R.toNat : Int) (H.toNat : Int)) 15).toNat, none⟩ = some (.int .u32 (tv (bits BinOp.and IntKind.u32 (bits BinOp.xor IntKind.u32 (R.toNat : Int) (H.toNat : Int)) 15).toNat)))
      (by kernel_rfl) (by kernel_rfl) ⟨hrc, hck⟩ ?_
    iterate 9
      refine m_take (v := ?_) rfl rfl ?_ ?_
      rotate_left
      · intro W hW
        go_simp
        with_reducible rfl
      simp only [Act.put, List.setIfInBounds_toArray, List.set_cons_zero, List.set_cons_succ]
    refine m_done ?_
    simp only [List.drop_succ_cons, List.drop_zero]
    go_wp2
    simp only [NP]
    gi_wp2
    refine ⟨(KeepsOthers.setCell _ _ _).trans (KeepsOthers.drew _), ?_⟩
    have hn := nib_walk R H
    rw [hn, ← HS.out]
    exact HR2.out.store (by omega)
  case done =>
    rintro D st W hD rfl hr hK
    have hrc := hr.rc
    have hnot2 := not_walk (runTo r0 xs (2 * xs.length))
    have HB := Lib.hid hr.b
    clear hr
    gi_wp2
    refine ⟨by simp, .inl ⟨_, _, rfl, run_takeDeferred hK, ?_⟩⟩
    refine ⟨_, results_tmp rfl _ _ _, ?_, ?_⟩
    · have e : (ext s xs) = ~~~ (runTo r0 xs (2 * xs.length)) := by rw [runTo_all, HR0.out]; rfl
      rw [e]
      simp
    · exact HB.out.trans (belowK_b (w := w) (Nat.le_refl _) W D _ _ (by omega) hK rfl rfl)

set_option maxHeartbeats 400000 in
theorem sum_calls (v : Value) (xs : List UInt8) (w : World) (hv : Bytes w v xs) :
    Calls Try.prog 25 #[v] w fun e w' => e = .returned (.int .u32 ((CrcM.sum xs).toNat)) ∧ Below w.heap.size w w' := by
  have h := extend_calls 0#32 v xs w hv
  have HC := Lib.hid h
  clear h hv
  go_enter Try.func25, Try.ntmps25
  go_wp2_with (go_at_call 31; refine HC.out.mono ?_; rintro e w1 ⟨rfl, hb⟩)
  go_ret
  exact ⟨rfl, hb⟩
end Go.Proofs.Ytfmfmalhebfnhaa
