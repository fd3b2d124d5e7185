/- Layer 2's plain mathematics: frames that stand one behind the other, cut short. -/
import Derived.Test.YtfmfmalhebfnhaaFrameMath
namespace Go.Proofs.Ytfmfmalhebfnhaa
namespace FrM
open CrcM

theorem frameOf_eq (p : List UInt8) : frameOf p = le4 p.length ++ (le4 (sum (le4 p.length)).toNat ++ (p ++ le4 (sum p).toNat)) := by simp [frameOf]
theorem num_take_ge (xs : List UInt8) (k : Nat) (h : 4 ≤ k) : num (xs.take k) = num xs := by
  rw [← num_take (xs.take k), List.take_take, Nat.min_eq_left h, num_take]
theorem le4_drop (n : Nat) (r : List UInt8) : (le4 n ++ r).drop 4 = r := by simp [le4]
theorem le4_take (n : Nat) (r : List UInt8) : (le4 n ++ r).take 4 = le4 n := by simp [le4]

/-- Of a frame the first eight bytes tell that it is one, and its length. -/
theorem head_of (b p : List UInt8) (j : Nat) (r : List UInt8) (h : b = (frameOf p ++ r).take j) (hj : 8 ≤ j) (hp : p.length ≤ 65536) :
    num b = p.length ∧ (sum (b.take 4)).toNat = num (b.drop 4) := by
  subst h
  rw [num_take_ge _ _ (by omega), frameOf_eq, List.append_assoc, num_le4 _ _ (by omega), List.take_take, Nat.min_eq_left (by omega), le4_take, List.drop_take, num_take_ge _ _ (by omega), le4_drop, List.append_assoc, num_le4 _ _ (sum (le4 p.length)).isLt]
  exact ⟨rfl, rfl⟩

theorem next_at (xs : List UInt8) (m : Nat) (h : m ≤ xs.length) : next xs (m : Int) = (let b := xs.drop m
      if b.length < 8 then ([], 0, 5)
      else if (sum (b.take 4)).toNat ≠ num (b.drop 4) then ([], 0, 4)
      else if 65536 < num b then ([], 0, 2)
      else if b.length < 12 + num b then ([], 0, 5)
      else if (sum ((b.drop 8).take (num b))).toNat ≠ num (b.drop (8 + num b)) then ([], 0, 4)
      else ((b.drop 8).take (num b), (m : Int) + 12 + num b, 0)) := by
  unfold next; rw [if_neg (by omega)]; rfl

theorem next_frame (xs : List UInt8) (m : Nat) (p r : List UInt8) (hm : m ≤ xs.length) (h : xs.drop m = frameOf p ++ r) (hp : p.length ≤ 65536) : next xs m = (p, (m : Int) + 12 + p.length, 0) := by
  rw [next_at xs m hm, h]
  have hl : (frameOf p ++ r).length = 12 + p.length + r.length := by simp [frameOf_length]
  have hh := head_of (frameOf p ++ r) p (frameOf p ++ r).length r (by rw [List.take_length]) (by omega) hp
  dsimp only
  rw [hh.1, if_neg (by omega), if_neg (by have := hh.2; omega), if_neg (by omega), if_neg (by omega)]
  have e8 : (frameOf p ++ r).drop 8 = p ++ (le4 (sum p).toNat ++ r) := by
    rw [show 8 = 4 + 4 from rfl, ← List.drop_drop, frameOf_eq, List.append_assoc, le4_drop, List.append_assoc, le4_drop, List.append_assoc]
  have e9 : (frameOf p ++ r).drop (8 + p.length) = le4 (sum p).toNat ++ r := by
    rw [← List.drop_drop, e8]; simp
  rw [e8, e9, num_le4 _ _ (sum p).isLt]
  simp

theorem next_short (xs : List UInt8) (m j : Nat) (p : List UInt8) (hm : m ≤ xs.length) (h : xs.drop m = (frameOf p).take j) (hj : j < 12 + p.length) (hp : p.length ≤ 65536) : (next xs m).2.2 ≠ 0 := by
  rw [next_at xs m hm, h]
  have hl : ((frameOf p).take j).length = j := by simp [frameOf_length]; omega
  dsimp only
  by_cases h8 : j < 8
  · rw [if_pos (by omega)]; simp
  · have hh := head_of ((frameOf p).take j) p j [] (by simp) (by omega) hp
    rw [hh.1, if_neg (by omega), if_neg (by have := hh.2; omega), if_neg (by omega), if_pos (by omega)]
    simp

/-- Frames one behind the other. -/
def rowOf (ps : List (List UInt8)) : List UInt8 := ps.flatMap frameOf
def endAt (ps : List (List UInt8)) (k : Nat) : Nat := (rowOf (ps.take k)).length
theorem rowOf_append (a b : List (List UInt8)) : rowOf (a ++ b) = rowOf a ++ rowOf b := by simp [rowOf]
theorem endAt_zero (ps : List (List UInt8)) : endAt ps 0 = 0 := by simp [endAt, rowOf]
theorem rowOf_one (p : List UInt8) : rowOf [p] = frameOf p := by simp [rowOf]
theorem endAt_succ (ps : List (List UInt8)) (k : Nat) (h : k < ps.length) : endAt ps (k + 1) = endAt ps k + 12 + ps[k].length := by
  unfold endAt
  rw [List.take_succ_eq_append_getElem h, rowOf_append, List.length_append, rowOf_one, frameOf_length]; omega
theorem endAt_all (ps : List (List UInt8)) : endAt ps ps.length = (rowOf ps).length := by simp [endAt]
theorem row_split (ps : List (List UInt8)) (k : Nat) (h : k < ps.length) : (rowOf ps).drop (endAt ps k) = frameOf ps[k] ++ rowOf (ps.drop (k + 1)) := by
  have e : ps = ps.take k ++ ([ps[k]] ++ ps.drop (k + 1)) := by simp
  have e2 : rowOf ps = rowOf (ps.take k) ++ (frameOf ps[k] ++ rowOf (ps.drop (k + 1))) := by
    conv => lhs; rw [e]
    rw [rowOf_append, rowOf_append, rowOf_one]
  rw [e2]
  unfold endAt
  simp
theorem endAt_le (ps : List (List UInt8)) (k : Nat) : endAt ps k ≤ (rowOf ps).length := by
  have e : rowOf ps = rowOf (ps.take k) ++ rowOf (ps.drop k) := by rw [← rowOf_append, List.take_append_drop]
  rw [e]; unfold endAt; simp

/-- A row of frames, cut short: those that are whole are told. -/
theorem row_count (ps : List (List UInt8)) (s n : Nat) (xs : List UInt8) (hx : xs = (rowOf ps).take s) (hs : s ≤ (rowOf ps).length) (hp : ∀ p ∈ ps, p.length ≤ 65536) (hn : n ≤ ps.length)
    (h1 : endAt ps n ≤ s) (h2 : n = ps.length ∨ s < endAt ps (n + 1)) :
    Count xs n ∧ (∀ k, k ≤ n → pos xs k = endAt ps k) ∧ pays xs n = ps.take n := by
  have hxl : xs.length = s := by rw [hx, List.length_take]; omega
  have mono : ∀ j k, j ≤ k → k ≤ ps.length → endAt ps j ≤ endAt ps k := by
    intro j k hjk hk
    induction k with
    | zero => obtain rfl : j = 0 := by omega
              exact Nat.le_refl _
    | succ k ih =>
      rcases Nat.lt_or_ge j (k + 1) with h | h
      · have := ih (by omega) (by omega)
        rw [endAt_succ ps k (by omega)]; omega
      · obtain rfl : j = k + 1 := by omega
        exact Nat.le_refl _
  have good : ∀ k (hk : k < n), next xs (endAt ps k) = (ps[k]'(by omega), (endAt ps k : Int) + 12 + (ps[k]'(by omega)).length, 0) := by
    intro k hk
    have hk' : k < ps.length := by omega
    have he := mono (k + 1) n (by omega) hn
    rw [endAt_succ ps k hk'] at he
    refine next_frame xs _ _ ((rowOf (ps.drop (k + 1))).take (s - endAt ps k - (12 + ps[k].length))) (by omega) ?_ (hp _ (List.getElem_mem _))
    rw [hx, List.drop_take, row_split ps k hk', List.take_append, frameOf_length, List.take_of_length_le (by rw [frameOf_length]; omega)]
  have hpos : ∀ k, k ≤ n → pos xs k = endAt ps k := by
    intro k
    induction k with
    | zero => intro _; rw [endAt_zero]; rfl
    | succ k ih =>
      intro hk
      simp only [pos]
      rw [ih (by omega), good k (by omega), endAt_succ ps k (by omega)]
  refine ⟨⟨fun k hk => by rw [hpos k (by omega), good k hk], ?_⟩, hpos, ?_⟩
  · rw [hpos n (Nat.le_refl _)]
    rcases h2 with h2 | h2
    · refine next_short xs _ 0 [] (by omega) ?_ (by simp) (by simp)
      rw [List.take_zero, List.drop_eq_nil_iff]
      have := endAt_all ps
      rw [← h2] at this
      omega
    · rcases Nat.lt_or_ge n ps.length with hlt | hge
      · rw [endAt_succ ps n hlt] at h2
        refine next_short xs _ (s - endAt ps n) ps[n] (by omega) ?_ (by omega) (hp _ (List.getElem_mem _))
        rw [hx, List.drop_take, row_split ps n hlt, List.take_append_of_le_length (by rw [frameOf_length]; omega)]
      · exfalso
        obtain rfl : n = ps.length := by omega
        have h3 : endAt ps (ps.length + 1) = endAt ps ps.length := by unfold endAt; rw [List.take_of_length_le (by omega), List.take_of_length_le (Nat.le_refl _)]
        have := endAt_all ps
        omega
  · apply List.ext_getElem
    · simp [pays_length]; omega
    · intro i hi1 hi2
      rw [pays_length] at hi1
      simp only [pays, List.getElem_map, List.getElem_range, pay, List.getElem_take]
      rw [hpos i (by omega), good i hi1]

end FrM
end Go.Proofs.Ytfmfmalhebfnhaa
