/- Layer 2's plain mathematics for FrameRows: whole frames with a torn one behind, and the payloads that are not too long, told in order. -/
import Derived.Test.YtfmfmalhebfnhaaFrameMath2
namespace Go.Proofs.Ytfmfmalhebfnhaa
namespace FrM
open CrcM

/-- Whole frames and a torn one behind. -/
theorem torn_count (ps : List (List UInt8)) (hp : ∀ p ∈ ps, p.length ≤ 65536) (t : List UInt8) (s : Nat) (ht : t.length ≤ 65536) (hs : s < 12 + t.length) (xs : List UInt8) (hx : xs = rowOf ps ++ (frameOf t).take s) :
    Count xs ps.length ∧ pos xs ps.length = (rowOf ps).length ∧ pays xs ps.length = ps := by
  have hfl := frameOf_length t
  have hr : rowOf (ps ++ [t]) = rowOf ps ++ frameOf t := by rw [rowOf_append, rowOf_one]
  have he : ∀ k, k ≤ ps.length → endAt (ps ++ [t]) k = endAt ps k := by
    intro k hk
    unfold endAt
    rw [List.take_append_of_le_length hk]
  have h := row_count (ps ++ [t]) ((rowOf ps).length + s) ps.length xs ?_ ?_ ?_ ?_ ?_ ?_
  · obtain ⟨h1, h2, h3⟩ := h
    refine ⟨h1, ?_, ?_⟩
    · rw [h2 _ (Nat.le_refl _), he _ (Nat.le_refl _), endAt_all]
    · rw [h3]; simp
  · rw [hx, hr, List.take_append, List.take_of_length_le (l := rowOf ps) (by omega), Nat.add_sub_cancel_left]
  · rw [hr, List.length_append]; omega
  · intro p hp'
    rcases List.mem_append.1 hp' with h | h
    · exact hp p h
    · simp at h; subst h; exact ht
  · simp
  · rw [he _ (Nat.le_refl _), endAt_all]; omega
  · right
    rw [endAt_succ _ _ (by simp), he _ (Nat.le_refl _), endAt_all]
    simp; omega

def fits (p : List UInt8) : Bool := decide (p.length ≤ 65536)
def goods (pss : List (List UInt8)) : List (List UInt8) := (pss.take 30).filter fits
theorem goods_fit (pss : List (List UInt8)) : ∀ p ∈ goods pss, p.length ≤ 65536 := by
  intro p hp
  have := (List.mem_filter.1 hp).2
  simpa [fits] using this
theorem goods_length (pss : List (List UInt8)) : (goods pss).length ≤ 30 := by
  have h1 := List.length_filter_le fits (pss.take 30)
  have h2 : (pss.take 30).length ≤ 30 := by simp; omega
  unfold goods; omega

/-- What stands heads of place k. -/
def heads (pss : List (List UInt8)) (k : Nat) : List (List UInt8) := (pss.take k).filter fits
theorem heads_fit (pss : List (List UInt8)) (k : Nat) : ∀ p ∈ heads pss k, p.length ≤ 65536 := by
  intro p hp
  have := (List.mem_filter.1 hp).2
  simpa [fits] using this
theorem heads_length (pss : List (List UInt8)) (k : Nat) : (heads pss k).length ≤ k := by
  have h1 := List.length_filter_le fits (pss.take k)
  have h2 : (pss.take k).length ≤ k := by simp; omega
  unfold heads; omega
theorem heads_zero (pss : List (List UInt8)) : heads pss 0 = [] := by simp [heads]
theorem heads_yes (pss : List (List UInt8)) (k : Nat) (hk : k < pss.length) (h : pss[k].length ≤ 65536) : heads pss (k + 1) = heads pss k ++ [pss[k]] := by
  unfold heads
  rw [List.take_succ_eq_append_getElem hk, List.filter_append]
  simp [fits, h]
theorem heads_no (pss : List (List UInt8)) (k : Nat) (hk : k < pss.length) (h : 65536 < pss[k].length) : heads pss (k + 1) = heads pss k := by
  unfold heads
  rw [List.take_succ_eq_append_getElem hk, List.filter_append]
  simp [fits]; omega
theorem heads_all (pss : List (List UInt8)) (k : Nat) (h : k = min 30 pss.length) : heads pss k = goods pss := by
  unfold heads goods
  rcases Nat.lt_or_ge pss.length 30 with h1 | h1
  · rw [List.take_of_length_le (by omega), List.take_of_length_le (by omega)]
  · rw [show k = 30 by omega]

/-- Place k, where j payloads that fit have been told. -/
def Scanned (pss : List (List UInt8)) (k j : Nat) : Prop := k ≤ min 30 pss.length ∧ j ≤ (goods pss).length ∧ heads pss k = (goods pss).take j
theorem Scanned.start (pss : List (List UInt8)) : Scanned pss 0 0 := ⟨by omega, by omega, by simp [heads]⟩
theorem Scanned.lt {pss : List (List UInt8)} {k j : Nat} (h : Scanned pss k j) (hj : j < (goods pss).length) : k < 30 ∧ k < pss.length := by
  rcases Nat.lt_or_ge k (min 30 pss.length) with h1 | h1
  · omega
  · exfalso
    have h2 := h.2.2
    rw [heads_all pss k (by have := h.1; omega)] at h2
    have h3 := congrArg List.length h2
    rw [List.length_take] at h3
    omega
theorem Scanned.skip {pss : List (List UInt8)} {k j : Nat} (h : Scanned pss k j) (hj : j < (goods pss).length) (hb : 65536 < (pss[k]'(h.lt hj).2).length) : Scanned pss (k + 1) j :=
  ⟨by have := h.lt hj; omega, h.2.1, by rw [heads_no pss k (h.lt hj).2 hb]; exact h.2.2⟩
theorem Scanned.hit {pss : List (List UInt8)} {k j : Nat} (h : Scanned pss k j) (hj : j < (goods pss).length) (hs : (pss[k]'(h.lt hj).2).length ≤ 65536) : pss[k]'(h.lt hj).2 = (goods pss)[j] ∧ Scanned pss (k + 1) (j + 1) := by
  have hlt := h.lt hj
  have e : goods pss = heads pss k ++ (((pss.take 30).drop k).filter fits) := by
    unfold goods heads
    conv => lhs; rw [← List.take_append_drop k (pss.take 30)]
    rw [List.filter_append, List.take_take, Nat.min_eq_left (by omega)]
  have hd : (pss.take 30).drop k = pss[k]'hlt.2 :: (pss.take 30).drop (k + 1) := by
    rw [List.drop_eq_getElem_cons (by simp; omega)]
    simp
  have hf : fits (pss[k]'hlt.2) = true := by simpa [fits] using hs
  have hal : (heads pss k).length = j := by rw [h.2.2, List.length_take]; omega
  have hg : (goods pss)[j]? = some (pss[k]'hlt.2) := by
    rw [e, List.getElem?_append_right (by omega), hal, hd, List.filter_cons, if_pos hf]
    simp
  have hg2 : pss[k]'hlt.2 = (goods pss)[j] := by
    rw [List.getElem?_eq_getElem hj] at hg
    exact (Option.some.inj hg).symm
  refine ⟨hg2, by omega, by omega, ?_⟩
  rw [heads_yes pss k hlt.2 hs, h.2.2, List.take_succ_eq_append_getElem hj, hg2]
end FrM
end Go.Proofs.Ytfmfmalhebfnhaa
