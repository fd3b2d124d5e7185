/- The reference's sum, and the small helpers of its package: Same, Room, Kept. -/
import Derived.Test.YtfmfmalhebfnhaaOwn
import Derived.Test.YtfmfmalhebfnhaaCrcWalk
namespace Go.Proofs.Ytfmfmalhebfnhaa
open Go.RowKit CrcM

theorem tyBytes : STy Try.prog 22 5 (.int .u8 0) 1 1 := .of Try.underlying22 (by kernel_rfl) rfl (by omega)

theorem tbit (R : BitVec 32) (x : UInt8) (l : Nat) :
    bits BinOp.xor IntKind.u32 (bits BinOp.and IntKind.u32 (R.toNat : Int) 1) (bits BinOp.and IntKind.u32 ((x.toNat : Int) / 2 ^ l % 4294967296) 1) = if (R ^^^ b2v (x.toNat.testBit l)).getLsbD 0 then 1 else 0 := by
  have hx := x.toNat_lt
  have h1 : bits BinOp.and IntKind.u32 (R.toNat : Int) 1 = ((R.toNat % 2 : Nat) : Int) := by
    have := u32_and_nat R.toNat 1 R.isLt (by omega); rw [nat_mask1] at this; exact this
  have hd : x.toNat / 2 ^ l ≤ x.toNat := Nat.div_le_self _ _
  have h2 : ((x.toNat : Int) / 2 ^ l % 4294967296) = ((x.toNat / 2 ^ l : Nat) : Int) := by
    have : ((x.toNat : Int) / 2 ^ l) = ((x.toNat / 2 ^ l : Nat) : Int) := by simp
    rw [this]
    generalize x.toNat / 2 ^ l = q at *
    omega
  have h3 : bits BinOp.and IntKind.u32 ((x.toNat / 2 ^ l : Nat) : Int) 1 = ((x.toNat / 2 ^ l % 2 : Nat) : Int) := by
    have := u32_and_nat (x.toNat / 2 ^ l) 1 (by omega) (by omega); rw [nat_mask1] at this; exact this
  rw [h1, h2, h3, u32_xor_nat _ _ (by omega) (by omega)]
  have hb : x.toNat / 2 ^ l % 2 = (x.toNat.testBit l).toNat := by rw [Nat.testBit_eq_decide_div_mod_eq]; rcases Nat.mod_two_eq_zero_or_one (x.toNat / 2 ^ l) with h | h <;> simp [h]
  have hr : R.toNat % 2 = (R.getLsbD 0).toNat := by
    have : R.getLsbD 0 = R.toNat.testBit 0 := rfl
    rw [this, Nat.testBit_zero]; rcases Nat.mod_two_eq_zero_or_one R.toNat with h | h <;> simp [h]
  rw [hb, hr, BitVec.getLsbD_xor]
  have h4 : (b2v (x.toNat.testBit l)).getLsbD 0 = x.toNat.testBit l := by cases x.toNat.testBit l <;> decide
  rw [h4]
  cases R.getLsbD 0 <;> cases x.toNat.testBit l <;> rfl

theorem bs_split (z : BitVec 32) : bs z = if z.getLsbD 0 then (z >>> 1) ^^^ poly else z >>> 1 := by
  have hz : z &&& 1#32 = if z.getLsbD 0 then 1#32 else 0#32 := by
    apply BitVec.eq_of_getLsbD_eq
    intro i hi
    rcases i with _ | i
    · rw [BitVec.getLsbD_and]
      cases z.getLsbD 0 <;> decide
    · cases z.getLsbD 0 <;> simp [BitVec.getLsbD_one]
  unfold bs
  rw [hz]
  split <;> simp

theorem shr_b2v (R : BitVec 32) (b : Bool) : (R ^^^ b2v b) >>> 1 = R >>> 1 := by
  apply BitVec.eq_of_getLsbD_eq; intro i hi
  simp only [BitVec.getLsbD_ushiftRight, BitVec.getLsbD_xor]
  have : (b2v b).getLsbD (1 + i) = false := by cases b <;> simp [b2v, BitVec.getLsbD_one]
  simp [this]

theorem tstep1 (R : BitVec 32) (x : UInt8) (l : Nat) (h : (R ^^^ b2v (x.toNat.testBit l)).getLsbD 0 = true) : bits BinOp.xor IntKind.u32 ((R.toNat : Int) / 2) 2197175160 = ((bs (R ^^^ b2v (x.toNat.testBit l))).toNat : Int) := by
  rw [bs_split, if_pos h, shr_b2v]
  have h3 : ((R.toNat : Int) / 2) = ((R.toNat / 2 : Nat) : Int) := by omega
  have hR := R.isLt
  have h4 : (2197175160 : Int) = ((2197175160 : Nat) : Int) := rfl
  rw [h3, h4, u32_xor_nat _ _ (by omega) (by omega)]
  simp [poly, Nat.shiftRight_eq_div_pow]
theorem tstep0 (R : BitVec 32) (x : UInt8) (l : Nat) (h : (R ^^^ b2v (x.toNat.testBit l)).getLsbD 0 = false) : ((R.toNat : Int) / 2) = ((bs (R ^^^ b2v (x.toNat.testBit l))).toNat : Int) := by
  rw [bs_split, h, shr_b2v]
  simp [Nat.shiftRight_eq_div_pow]

theorem not_ref (s : BitVec 32) : bits BinOp.xor IntKind.u32 (s.toNat : Int) 4294967295 = ((~~~ s).toNat : Int) := by
  have h : (4294967295 : Int) = ((4294967295 : Nat) : Int) := rfl
  rw [h, u32_xor_nat _ _ s.isLt (by omega)]
  have h2 : (4294967295 : Nat) = (BitVec.allOnes 32).toNat := by decide
  rw [h2, ← BitVec.toNat_xor, BitVec.xor_allOnes]

set_option maxHeartbeats 800000 in
set_option maxRecDepth 100000 in
theorem rext_calls (s : BitVec 32) (v : Value) (xs : List UInt8) (w : World) (hv : Bytes w v xs) :
    Calls Try.prog 27 #[.int .u32 (s.toNat), v] w fun e w' => e = .returned (.int .u32 ((ext s xs).toNat)) ∧ w' = w := by
  obtain ⟨a, cap, rfl, hl, hcap, hcc⟩ := hv
  have hs := s.isLt
  have HC := Lib.hid hcc
  clear hcc
  have hnot := not_ref s
  obtain ⟨r0, hr0⟩ : ∃ r0, r0 = ~~~ s := ⟨_, rfl⟩
  have HR0 := Lib.hid hr0
  rw [← hr0] at hnot
  clear hr0
  go_enter Try.func27, Try.ntmps27
  go_wp2
  go_loop [5, 6, 7, 8] (fun r i _ _ => ∃ k : Nat, k ≤ xs.length ∧ i = .int .i64 k ∧ r = .int .u32 ((run r0 (xs.take k)).toNat)) (fun _ i _ _ => xs.length - (intOf i).toNat)
  case atStart => exact ⟨0, by omega, rfl, by simp [run_nil]⟩
  case round =>
    obtain ⟨k, hk, rfl, rfl⟩ := hrel
    by_cases hlt : k < xs.length
    · rcases HC.out with rfl | ⟨b, off, rfl, hc⟩
      · omega
      have hck := hc k hlt
      clear hc HC hnot
      have hnext : run r0 (xs.take (k + 1)) = bitsF (run r0 (xs.take k)) (fun i => (xs.getD k 0).toNat.testBit i) 8 := by
        rw [List.take_succ_eq_append_getElem hlt, run_append, run_cons8, run_nil, by8_bits]
        simp [List.getD, List.getElem?_eq_getElem hlt]
      have HN := Lib.hid hnext
      clear hnext
      have hbt : bt xs k = ((xs.getD k 0).toNat : Int) := rfl
      generalize hx : xs.getD k 0 = x at *
      have HX := Lib.hid hx
      clear hx
      rw [hbt] at hck
      clear hbt
      have h2 := x.toNat_lt
      generalize hP : run r0 (xs.take k) = R0 at *
      have HP := Lib.hid hP
      clear hP
      go_wp2
      go_loop [5, 7, 8] (fun r i _ => ∃ l : Nat, l ≤ 8 ∧ i = .int .i64 l ∧ r = .int .u32 ((bitsF R0 (fun i => x.toNat.testBit i) l).toNat)) (fun _ i _ => 8 - (intOf i).toNat)
      case atStart => exact ⟨0, by omega, rfl, rfl⟩
      case round =>
        obtain ⟨l, hl8, rfl, rfl⟩ := hrel
        by_cases hll : l < 8
        · have hnx : bitsF R0 (fun i => x.toNat.testBit i) (l + 1) = bs (bitsF R0 (fun i => x.toNat.testBit i) l ^^^ b2v (x.toNat.testBit l)) := rfl
          have HNX := Lib.hid hnx
          clear hnx
          generalize bitsF R0 (fun i => x.toNat.testBit i) l = R at *
          have hR1 := R.isLt
          have ht := tbit R x l
          cases hb : (R ^^^ b2v (x.toNat.testBit l)).getLsbD 0 with
          | true =>
            rw [if_pos hb] at ht
            have HB := Lib.hid hb
            clear hb
            go_wp2
            go_round
            case rel => exact ⟨l + 1, by omega, by go_num, by rw [HNX.out, ← tstep1 R x l HB.out]⟩
            case measure => simp [intOf]; omega
          | false =>
            rw [if_neg (by rw [hb]; exact Bool.false_ne_true)] at ht
            have HB := Lib.hid hb
            clear hb
            go_wp2
            go_round
            case rel => exact ⟨l + 1, by omega, by go_num, by rw [HNX.out, ← tstep0 R x l HB.out]⟩
            case measure => simp [intOf]; omega
        · obtain rfl : l = 8 := by omega
          go_wp2
          go_round
          case rel => exact ⟨k + 1, by omega, by go_num, by rw [HN.out]⟩
          case measure => simp [intOf]; omega
    · obtain rfl : k = xs.length := by omega
      have hn2 := not_ref (run r0 xs)
      go_wp2
      go_ret
      refine ⟨?_, rfl⟩
      have e : ext s xs = ~~~ run r0 xs := by rw [HR0.out]; rfl
      rw [e]
      simp

set_option maxHeartbeats 400000 in
theorem same_calls (u v : Value) (xs ys : List UInt8) (w : World) (hu : Bytes w u xs) (hv : Bytes w v ys) :
    Calls Try.prog 13 #[u, v] w fun e w' => e = .returned (.bool (xs == ys)) ∧ w' = w := by
  have h1 := run_bytes_str (P := Try.prog) (src := 22) (e := 5) (dst := 9) Try.underlying22 Try.underlying5 Try.underlying9 hu
  have h2 := run_bytes_str (P := Try.prog) (src := 22) (e := 5) (dst := 9) Try.underlying22 Try.underlying5 Try.underlying9 hv
  obtain ⟨a, c, rfl, -⟩ := hu
  obtain ⟨a', c', rfl, -⟩ := hv
  go_enter Try.func13, Try.ntmps13
  go_wp2
  go_ret
  refine ⟨?_, rfl⟩
  show Ending.returned (.bool ((bstr xs).toList == (bstr ys).toList)) = _
  rw [bstr_toList, bstr_toList]

/-- What Room hands back: the bytes with three marked ones behind, cut to the bytes. -/
def RoomAt (w : World) (base : Nat) (r : Value) (xs : List UInt8) : Prop :=
  ∃ g cap, r = .slice (some ⟨g, 0, none⟩) xs.length cap ∧ w.ownsRow base 5 1 (.slice (some ⟨g, 0, none⟩) (xs.length + 3) cap) (xs.length + 3) (bvs (xs ++ [171, 172, 173]))

theorem RoomAt.bytes {w : World} {base : Nat} {r : Value} {xs : List UInt8} (h : RoomAt w base r xs) : Bytes w r xs := by
  obtain ⟨g, cap, rfl, h⟩ := h
  have := Rd.own_take h (m := xs.length) (by omega)
  rw [Nat.mul_one, bvs_append, List.take_left' (bvs_length xs)] at this
  exact this.bytes

theorem ownsRow_below {w w' : World} {B base : Nat} {e : TypeId} {sz n : Nat} {v : Value} {xs : List Value} (h : w.ownsRow base e sz v n xs) (hb : Below B w w') (hB : w.heap.size ≤ B) : w'.ownsRow base e sz v n xs := by
  obtain ⟨h1, h2⟩ := h
  refine ⟨h1, ?_⟩
  rcases h2 with h2 | ⟨g, cap, cur, hv, hg, hh, r⟩
  · exact .inl h2
  · exact .inr ⟨g, cap, cur, hv, hg, (hb.block g (Nat.lt_of_lt_of_le (Array.getElem?_eq_some_iff.1 hh).1 hB)).trans hh, r⟩
theorem RoomAt.below {w w' : World} {B base : Nat} {r : Value} {xs : List UInt8} (h : RoomAt w base r xs) (hb : Below B w w') (hB : w.heap.size ≤ B) : RoomAt w' base r xs := by
  obtain ⟨g, cap, hr, ho⟩ := h
  exact ⟨g, cap, hr, ownsRow_below ho hb hB⟩

set_option maxHeartbeats 800000 in
theorem room_calls (v : Value) (xs : List UInt8) (w : World) (hv : Bytes w v xs) (hlen : xs.length ≤ 140737488351232) :
    Calls Try.prog 21 #[v] w fun e w' => (∃ r, e = .returned r ∧ RoomAt w' w.heap.size r xs) ∧ Below w.heap.size w w' := by
  have HV := Lib.hid hv
  obtain ⟨a, c, rfl, hl, hc, -⟩ := hv
  go_enter Try.func21, Try.ntmps21
  go_wp2_with (first
    | (at_make; refine make_list (base := w.heap.size) tyBytes rfl rfl rfl (c := xs.length + 3) rfl (by omega) (by omega) (by simp) ?_; intro w1 hown1 hg1)
    | (at_builtin; have _t := hown1; refine app_list tyBytes hown1 (HV.out.rd.below ((Below.refl _ w).grown hg1 (Nat.le_refl _) (by simp)) (Nat.le_refl _)) (bvs_one _) (by omega) (by omega) hg1.size rfl rfl rfl rfl ?_; intro v2 w2 hown2 hg2 hn2; clear hown1)
    | (at_builtin; have _t := hown2; refine app_list tyBytes (hown2.alloc _) (Rd.lit (n := 3) rfl (by omega)) (by simp [Value.oneCell']) (by omega) (by omega) (by have := hg1.size; have := hg2.size; simp; omega) rfl rfl rfl rfl ?_; intro v3 w3 hown3 hg3 hn3; clear hown2; obtain ⟨g, cap, rfl, hbg, hgl, hcl, hcm⟩ := own_succ hown3))
  go_ret
  have hb1 : Below w.heap.size w w1 := (Below.refl _ w).grown hg1 (Nat.le_refl _) (by simp)
  have hb2 : Below w.heap.size w w2 := hb1.grown hg2 hb1.size (fun k e => by simp [Value.ownBlock] at e; omega)
  have hb3 : Below w.heap.size w w3 := (hb2.alloc hb2.size _).grown hg3 (by have := hb2.size; simp; omega) (fun k e => (World.ownsRow.lt _t k e).1)
  refine ⟨⟨_, rfl, g, cap, rfl, ?_⟩, hb3⟩
  have e1 : 0 + xs.length + 2 + 1 = xs.length + 3 := by omega
  rw [e1] at hown3
  rw [bvs_append]
  exact hown3

/-- Room's row is told to stand as it did. -/
theorem kept_bytes {w : World} {base : Nat} {xs : List UInt8} {g cap : Nat} (h : w.ownsRow base 5 1 (.slice (some ⟨g, 0, none⟩) (xs.length + 3) cap) (xs.length + 3) (bvs (xs ++ [171, 172, 173]))) :
    w.cell? ⟨g, xs.length, none⟩ = some (.int .u8 171) ∧ w.cell? ⟨g, xs.length + 1, none⟩ = some (.int .u8 172) ∧ w.cell? ⟨g, xs.length + 2, none⟩ = some (.int .u8 173) := by
  have hc := World.ownsRow.cells h (g := g) rfl
  have hg : ∀ j, j < 3 → (bvs (xs ++ [171, 172, 173]))[xs.length + j]? = (bvs [171, 172, 173])[j]? := by
    intro j hj
    rw [bvs_append, List.getElem?_append_right (by rw [bvs_length]; omega), bvs_length]
    congr 1; omega
  have h0 := hc (xs.length + 0) (.int .u8 171) (by rw [hg 0 (by omega)]; rfl)
  have h1 := hc (xs.length + 1) (.int .u8 172) (by rw [hg 1 (by omega)]; rfl)
  have h2 := hc (xs.length + 2) (.int .u8 173) (by rw [hg 2 (by omega)]; rfl)
  rw [add_off] at h0 h1 h2
  simp only [Nat.zero_add, Nat.add_zero] at h0 h1 h2
  exact ⟨h0, h1, h2⟩

set_option maxHeartbeats 800000 in
theorem kept_calls (r v : Value) (xs : List UInt8) (base : Nat) (w : World) (hr : RoomAt w base r xs) (hv : Bytes w v xs) (hlen : xs.length ≤ 140737488351232) :
    Calls Try.prog 22 #[r, v] w fun e w' => e = .returned (.bool true) ∧ w' = w := by
  have hS := Lib.hid (same_calls r v xs xs w hr.bytes hv)
  obtain ⟨g, cap, rfl, ho⟩ := hr
  obtain ⟨k0, k1, k2⟩ := kept_bytes ho
  obtain ⟨_, _, hvv, _, _, hcl, hcm⟩ := own_succ ho
  simp only [Value.slice.injEq] at hvv
  obtain ⟨-, -, rfl⟩ := hvv
  clear ho
  obtain ⟨a, c, rfl, hl, hc, -⟩ := hv
  go_enter Try.func22, Try.ntmps22
  go_wp2_with (go_at_call 13; refine hS.out.mono ?_; rintro e w1 ⟨rfl, rfl⟩; simp only [beq_self_eq_true])
  go_ret
  exact ⟨rfl, rfl⟩
end Go.Proofs.Ytfmfmalhebfnhaa
