/- Layer 2's plain mathematics: a frame of which bits are turned within 32 is no frame. -/
import Derived.Test.YtfmfmalhebfnhaaFrameMath2
namespace Go.Proofs.Ytfmfmalhebfnhaa
namespace FrM
open CrcM

theorem bitAt_le4 (s : BitVec 32) (i : Nat) (hi : i < 32) : bitAt (le4 s.toNat) i = s.getLsbD i := by
  unfold bitAt
  have hs : s.getLsbD i = s.toNat.testBit i := rfl
  rw [hs]
  have h4 : i / 8 = 0 ∨ i / 8 = 1 ∨ i / 8 = 2 ∨ i / 8 = 3 := by omega
  have key : ∀ k, i = 8 * k + i % 8 → (s.toNat / 2 ^ (8 * k) % 256).testBit (i % 8) = s.toNat.testBit i := by
    intro k hk
    have h1 : (s.toNat / 2 ^ (8 * k) % 2 ^ 8).testBit (i % 8) = s.toNat.testBit i := by
      rw [Nat.testBit_mod_two_pow, Nat.testBit_div_two_pow, decide_eq_true (by omega), Bool.true_and]
      congr 1
      omega
    exact h1
  rcases h4 with h | h | h | h
  · rw [h]; have := key 0 (by omega); simpa [le4] using this
  · rw [h]; have := key 1 (by omega); simpa [le4] using this
  · rw [h]; have := key 2 (by omega); simpa [le4] using this
  · rw [h]; have := key 3 (by omega); simpa [le4] using this

/-- The sum over bytes with their own sum behind is one and the same. -/
theorem sum_code (x : List UInt8) : sum (x ++ le4 (sum x).toNat) = ~~~ bsn 32 (BitVec.allOnes 32) := by
  have h : sum (x ++ le4 (sum x).toNat) = ext (sum x) (le4 (sum x).toNat) := ext_append _ _ _
  rw [h]
  generalize sum x = s
  unfold ext
  congr 1
  rw [run_bits, show 8 * (le4 s.toNat).length = 32 from rfl, bitsF_congr _ _ (fun i => s.getLsbD i) 32 (fun i hi => bitAt_le4 s i hi), bitsF_bits1, bits1_eq _ _ _ (Nat.le_refl _), low_all _ _ (Nat.le_refl _)]
  congr 1
  apply BitVec.eq_of_getLsbD_eq
  intro i hi
  rw [BitVec.getLsbD_xor, BitVec.getLsbD_not, BitVec.getLsbD_allOnes, decide_eq_true hi]
  cases s.getLsbD i <;> rfl

theorem bits_eq (b c : List UInt8) (hl : c.length = b.length) (h : ∀ j, j < 8 * b.length → bitAt c j = bitAt b j) : c = b := by
  apply List.ext_getElem hl
  intro i h1 h2
  apply UInt8.toNat_inj.1
  apply Nat.eq_of_testBit_eq
  intro k
  by_cases hk : k < 8
  · have := h (8 * i + k) (by omega)
    unfold bitAt at this
    rw [show (8 * i + k) / 8 = i by omega, show (8 * i + k) % 8 = k by omega] at this
    simpa [List.getD, List.getElem?_eq_getElem h1, List.getElem?_eq_getElem h2] using this
  · have e : ∀ x : UInt8, x.toNat.testBit k = false := fun x => Nat.testBit_lt_two_pow (Nat.lt_of_lt_of_le x.toNat_lt (Nat.pow_le_pow_right (by omega) (show 8 ≤ k by omega)))
    rw [e, e]

/-- Two such rows that differ within 32 bits alone are one. -/
theorem code_same (b c : List UInt8) (x y : List UInt8) (hb : b = x ++ le4 (sum x).toNat) (hc : c = y ++ le4 (sum y).toNat) (hl : c.length = b.length) (a : Nat) (turn : BitVec 32)
    (h : ∀ j, j < 8 * b.length → bitAt c j = (bitAt b j ^^ (decide (a ≤ j) && decide (j < a + 32) && turn.getLsbD (j - a)))) : c = b := by
  apply bits_eq b c hl
  intro j hj
  by_cases ha : a < 8 * b.length
  · have hs : sum b = sum c := by rw [hb, hc, sum_code, sum_code]
    have hz := (burst b c a turn hl ha h).1 hs
    rw [h j hj]
    by_cases h1 : a ≤ j
    · have : turn.getLsbD (j - a) = false := by
        have h2 := congrArg (fun z => z.getLsbD (j - a)) hz
        simp only [getLsbD_low, BitVec.getLsbD_zero] at h2
        rw [decide_eq_true (by omega), Bool.true_and] at h2
        exact h2
      simp [this]
    · simp [h1]
  · rw [h j hj]
    simp [show ¬ a ≤ j by omega]

theorem bitAt_sub (b : List UInt8) (lo m j : Nat) (hj : j < 8 * m) : bitAt ((b.drop lo).take m) j = bitAt b (8 * lo + j) := by
  unfold bitAt
  rw [show (8 * lo + j) / 8 = lo + j / 8 by omega, show (8 * lo + j) % 8 = j % 8 by omega]
  congr 2
  simp [List.getD, show j / 8 < m by omega]

/-- What c differs from b. -/
def Turned (b c : List UInt8) (at_ : Nat) (turn : BitVec 32) : Prop :=
  c.length = b.length ∧ ∀ j, j < 8 * b.length → bitAt c j = (bitAt b j ^^ (decide (8 * at_ ≤ j) && decide (j < 8 * at_ + 32) && turn.getLsbD (j - 8 * at_)))

theorem Turned.sub {b c : List UInt8} {at_ : Nat} {turn : BitVec 32} (h : Turned b c at_ turn) (lo m : Nat) (hm : lo + m ≤ b.length) :
    ∃ (a : Nat) (t : BitVec 32), ∀ j, j < 8 * ((b.drop lo).take m).length → bitAt ((c.drop lo).take m) j = (bitAt ((b.drop lo).take m) j ^^ (decide (a ≤ j) && decide (j < a + 32) && t.getLsbD (j - a))) := by
  have hlen : ((b.drop lo).take m).length = m := by simp; omega
  rw [hlen]
  rcases Nat.lt_or_ge at_ lo with hlt | hge
  · refine ⟨0, turn >>> (8 * (lo - at_)), fun j hj => ?_⟩
    rw [bitAt_sub c lo m j hj, bitAt_sub b lo m j hj, h.2 _ (by omega)]
    congr 1
    rw [BitVec.getLsbD_ushiftRight]
    rw [decide_eq_true (show 8 * at_ ≤ 8 * lo + j by omega), decide_eq_true (Nat.zero_le j)]
    simp only [Bool.true_and, Nat.sub_zero, Nat.zero_add]
    have e : 8 * (lo - at_) + j = 8 * lo + j - 8 * at_ := by omega
    rw [e]
    by_cases h1 : 8 * lo + j < 8 * at_ + 32
    · rw [decide_eq_true h1, decide_eq_true (show j < 32 by omega)]
    · rw [decide_eq_false h1, Bool.false_and, BitVec.getLsbD_of_ge _ _ (by omega), Bool.and_false]
  · refine ⟨8 * (at_ - lo), turn, fun j hj => ?_⟩
    rw [bitAt_sub c lo m j hj, bitAt_sub b lo m j hj, h.2 _ (by omega)]
    congr 1
    have e1 : decide (8 * at_ ≤ 8 * lo + j) = decide (8 * (at_ - lo) ≤ j) := decide_eq_decide.2 (by omega)
    have e2 : decide (8 * lo + j < 8 * at_ + 32) = decide (j < 8 * (at_ - lo) + 32) := decide_eq_decide.2 (by omega)
    have e3 : 8 * lo + j - 8 * at_ = j - 8 * (at_ - lo) := by omega
    rw [e1, e2, e3]

theorem next_conds (xs : List UInt8) (m : Nat) (hm : m ≤ xs.length) (h : (next xs m).2.2 = 0) :
    (sum ((xs.drop m).take 4)).toNat = num ((xs.drop m).drop 4) ∧ num (xs.drop m) ≤ 65536 ∧ 12 + num (xs.drop m) ≤ (xs.drop m).length ∧ (sum (((xs.drop m).drop 8).take (num (xs.drop m)))).toNat = num ((xs.drop m).drop (8 + num (xs.drop m))) := by
  rw [next_at xs m hm] at h
  dsimp only at h
  split at h
  · simp at h
  split at h
  · simp at h
  split at h
  · simp at h
  split at h
  · simp at h
  split at h
  · simp at h
  rename_i h1 h2 h3 h4 h5
  exact ⟨Decidable.byContradiction h2, by omega, by omega, Decidable.byContradiction h5⟩

theorem code_of (x s : List UInt8) (h4 : 4 ≤ s.length) (h : (sum x).toNat = num s) : x ++ s.take 4 = x ++ le4 (sum x).toNat := by
  rw [h, le4_num s h4]

theorem flips_count (ps : List (List UInt8)) (c : List UInt8) (at_ : Nat) (turn : BitVec 32) (first n : Nat) (hp : ∀ p ∈ ps, p.length ≤ 65536) (ht : Turned (rowOf ps) c at_ turn)
    (hf1 : c.take first = (rowOf ps).take first) (hf2 : c.getD first 0 ≠ (rowOf ps).getD first 0) (hn : n < ps.length) (h1 : endAt ps n ≤ first) (h2 : first < endAt ps (n + 1)) :
    Count c n ∧ pos c n = endAt ps n := by
  have hcl := ht.1
  have mono : ∀ j k, j ≤ k → k ≤ ps.length → endAt ps j ≤ endAt ps k := by
    intro j k hjk hk
    induction k with
    | zero => obtain rfl : j = 0 := by omega
              exact Nat.le_refl _
    | succ k ih =>
      rcases Nat.lt_or_ge j (k + 1) with h | h
      · have := ih (by omega) (by omega)
        rw [endAt_succ ps k (by omega)]; omega
      · obtain rfl : j = k + 1 := by omega
        exact Nat.le_refl _
  have good : ∀ k (hk : k < n), next c (endAt ps k) = (ps[k]'(by omega), (endAt ps k : Int) + 12 + (ps[k]'(by omega)).length, 0) := by
    intro k hk
    have hk' : k < ps.length := by omega
    have he := mono (k + 1) n (by omega) (by omega)
    have he2 := endAt_le ps n
    rw [endAt_succ ps k hk'] at he
    refine next_frame c _ _ ((c.drop (endAt ps k)).drop (12 + ps[k].length)) (by omega) ?_ (hp _ (List.getElem_mem _))
    have e1 : (c.drop (endAt ps k)).take (12 + ps[k].length) = frameOf ps[k] := by
      have e2 : (c.drop (endAt ps k)).take (12 + ps[k].length) = ((c.take first).drop (endAt ps k)).take (12 + ps[k].length) := by
        rw [List.drop_take, List.take_take, Nat.min_eq_left (by omega)]
      rw [e2, hf1, List.drop_take, List.take_take, Nat.min_eq_left (by omega), row_split ps k hk', List.take_append_of_le_length (by rw [frameOf_length]; omega), List.take_of_length_le (by rw [frameOf_length]; omega)]
    conv => lhs; rw [← List.take_append_drop (12 + ps[k].length) (c.drop (endAt ps k)), e1]
  have hpos : ∀ k, k ≤ n → pos c k = endAt ps k := by
    intro k
    induction k with
    | zero => intro _; rw [endAt_zero]; rfl
    | succ k ih =>
      intro hk
      simp only [pos]
      rw [ih (by omega), good k (by omega), endAt_succ ps k (by omega)]
  refine ⟨⟨fun k hk => by rw [hpos k (by omega), good k hk], ?_⟩, hpos n (Nat.le_refl _)⟩
  rw [hpos n (Nat.le_refl _)]
  intro hz
  have hend := endAt_succ ps n hn
  have hle := endAt_le ps (n + 1)
  obtain ⟨g1, g2, g3, g4⟩ := next_conds c _ (by omega) hz
  have hpl : ps[n].length ≤ 65536 := hp _ (List.getElem_mem _)
  have hsp := row_split ps n hn
  -- the head
  have hy8 : 8 ≤ (c.drop (endAt ps n)).length := by omega
  have cb : ((rowOf ps).drop (endAt ps n)).take 8 = le4 ps[n].length ++ le4 (sum (le4 ps[n].length)).toNat := by
    rw [hsp, frameOf_eq]
    simp [le4]
  have cc : (c.drop (endAt ps n)).take 8 = (c.drop (endAt ps n)).take 4 ++ le4 (sum ((c.drop (endAt ps n)).take 4)).toNat := by
    rw [← code_of _ _ (by simp; omega) g1, show 8 = 4 + 4 from rfl, List.take_add]
  obtain ⟨a1, t1, hs1⟩ := ht.sub (endAt ps n) 8 (by omega)
  have hh := code_same _ _ _ _ cb cc (by simp; omega) a1 t1 hs1
  have hnum : num (c.drop (endAt ps n)) = ps[n].length := by
    rw [← num_take_ge (c.drop (endAt ps n)) 8 (by omega), hh, cb, num_le4 _ _ (by omega)]
  rw [hnum] at g3 g4
  -- the payload
  have cb2 : ((rowOf ps).drop (endAt ps n + 8)).take (ps[n].length + 4) = ps[n] ++ le4 (sum ps[n]).toNat := by
    rw [← List.drop_drop, hsp, frameOf_eq, show 8 = 4 + 4 from rfl, ← List.drop_drop, List.append_assoc, le4_drop, List.append_assoc, le4_drop]
    rw [List.append_assoc, List.take_append, List.take_of_length_le (by omega)]
    congr 1
    rw [show ps[n].length + 4 - ps[n].length = 4 by omega, le4_take]
  have cc2 : (c.drop (endAt ps n + 8)).take (ps[n].length + 4) = ((c.drop (endAt ps n)).drop 8).take ps[n].length ++ le4 (sum (((c.drop (endAt ps n)).drop 8).take ps[n].length)).toNat := by
    rw [← code_of _ _ (by simp at g3 ⊢; omega) g4, List.take_add, ← List.drop_drop, List.drop_drop (i := ps[n].length)]
  obtain ⟨a2, t2, hs2⟩ := ht.sub (endAt ps n + 8) (ps[n].length + 4) (by omega)
  have hb := code_same _ _ _ _ cb2 cc2 (by simp at g3 ⊢; omega) a2 t2 hs2
  -- the byte that is turned lies in one of the two
  apply hf2
  by_cases hfi : first < endAt ps n + 8
  · have := congrArg (fun l => l.getD (first - endAt ps n) 0) hh
    simp only [List.getD_eq_getElem?_getD, List.getElem?_take, List.getElem?_drop, if_pos (show first - endAt ps n < 8 by omega), show endAt ps n + (first - endAt ps n) = first by omega] at this
    simpa [List.getD_eq_getElem?_getD] using this
  · have := congrArg (fun l => l.getD (first - (endAt ps n + 8)) 0) hb
    simp only [List.getD_eq_getElem?_getD, List.getElem?_take, List.getElem?_drop, if_pos (show first - (endAt ps n + 8) < ps[n].length + 4 by omega), show endAt ps n + 8 + (first - (endAt ps n + 8)) = first by omega] at this
    simpa [List.getD_eq_getElem?_getD] using this
end FrM
end Go.Proofs.Ytfmfmalhebfnhaa
