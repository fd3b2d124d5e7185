/- Layer 2's plain mathematics: no program in sight. -/
import Derived.Test.YtfmfmalhebfnhaaCrcMath
namespace Go.Proofs.Ytfmfmalhebfnhaa
namespace FrM
open CrcM

/-- A number's four bytes. -/
def le4 (n : Nat) : List UInt8 := [UInt8.ofNat n, UInt8.ofNat (n / 256), UInt8.ofNat (n / 65536), UInt8.ofNat (n / 16777216)]
theorem le4_length (n : Nat) : (le4 n).length = 4 := rfl

/-- The number that the first four bytes are. -/
def num (xs : List UInt8) : Nat := (xs.getD 0 0).toNat + 256 * ((xs.getD 1 0).toNat + 256 * ((xs.getD 2 0).toNat + 256 * (xs.getD 3 0).toNat))

theorem num_lt (xs : List UInt8) : num xs < 4294967296 := by
  have h0 := (xs.getD 0 0).toNat_lt
  have h1 := (xs.getD 1 0).toNat_lt
  have h2 := (xs.getD 2 0).toNat_lt
  have h3 := (xs.getD 3 0).toNat_lt
  unfold num
  omega

theorem num_le4 (n : Nat) (r : List UInt8) (h : n < 4294967296) : num (le4 n ++ r) = n := by
  simp [num, le4]
  omega

theorem le4_num (xs : List UInt8) (h : 4 ≤ xs.length) : le4 (num xs) = xs.take 4 := by
  match xs, h with
  | a :: b :: c :: d :: r, _ =>
    have h0 := a.toNat_lt
    have h1 := b.toNat_lt
    have h2 := c.toNat_lt
    have h3 := d.toNat_lt
    have e : num (a :: b :: c :: d :: r) = a.toNat + 256 * (b.toNat + 256 * (c.toNat + 256 * d.toNat)) := rfl
    have p0 : UInt8.ofNat (num (a :: b :: c :: d :: r)) = a := UInt8.toNat_inj.1 (by simp only [UInt8.toNat_ofNat', e]; omega)
    have p1 : UInt8.ofNat (num (a :: b :: c :: d :: r) / 256) = b := UInt8.toNat_inj.1 (by simp only [UInt8.toNat_ofNat', e]; omega)
    have p2 : UInt8.ofNat (num (a :: b :: c :: d :: r) / 65536) = c := UInt8.toNat_inj.1 (by simp only [UInt8.toNat_ofNat', e]; omega)
    have p3 : UInt8.ofNat (num (a :: b :: c :: d :: r) / 16777216) = d := UInt8.toNat_inj.1 (by simp only [UInt8.toNat_ofNat', e]; omega)
    show [_, _, _, _] = [a, b, c, d]
    rw [p0, p1, p2, p3]

theorem num_take (xs : List UInt8) : num (xs.take 4) = num xs := by
  simp [num]

theorem le4_iff (n : Nat) (xs : List UInt8) (hn : n < 4294967296) (h : 4 ≤ xs.length) : le4 n = xs.take 4 ↔ n = num xs := by
  constructor
  · intro e
    have := num_le4 n [] hn
    rw [List.append_nil, e, num_take] at this
    exact this.symm
  · rintro rfl
    exact le4_num xs h

/-- A payload's frame. -/
def frameOf (p : List UInt8) : List UInt8 := le4 p.length ++ le4 (sum (le4 p.length)).toNat ++ p ++ le4 (sum p).toNat
theorem frameOf_length (p : List UInt8) : (frameOf p).length = 12 + p.length := by simp [frameOf, le4_length]; omega

/-- The payload at a place: payload, the place behind it, error. -/
def next (xs : List UInt8) (at_ : Int) : List UInt8 × Int × Int :=
  if at_ < 0 ∨ (xs.length : Int) < at_ then ([], 0, 1)
  else
    let b := xs.drop at_.toNat
    if b.length < 8 then ([], 0, 5)
    else if (sum (b.take 4)).toNat ≠ num (b.drop 4) then ([], 0, 4)
    else if 65536 < num b then ([], 0, 2)
    else if b.length < 12 + num b then ([], 0, 5)
    else if (sum ((b.drop 8).take (num b))).toNat ≠ num (b.drop (8 + num b)) then ([], 0, 4)
    else ((b.drop 8).take (num b), at_ + 12 + num b, 0)

theorem split3 (b : List UInt8) (n : Nat) : b.take (12 + n) = b.take 4 ++ (b.drop 4).take 4 ++ (b.drop 8).take n ++ (b.drop (8 + n)).take 4 := by
  have e1 : b.take (12 + n) = b.take 4 ++ (b.drop 4).take (8 + n) := by
    rw [show 12 + n = 4 + (8 + n) by omega, List.take_add]
  have e2 : (b.drop 4).take (8 + n) = (b.drop 4).take 4 ++ (b.drop 8).take (n + 4) := by
    rw [show 8 + n = 4 + (n + 4) by omega, List.take_add, List.drop_drop]
  have e3 : (b.drop 8).take (n + 4) = (b.drop 8).take n ++ (b.drop (8 + n)).take 4 := by
    rw [List.take_add, List.drop_drop]
  rw [e1, e2, e3]
  simp

/-- The document's way of checking: by the whole frame. -/
theorem frame_iff (b : List UInt8) (h8 : 12 + num b ≤ b.length) (hs : (sum (b.take 4)).toNat = num (b.drop 4)) :
    (frameOf ((b.drop 8).take (num b)) = b.take (12 + num b)) ↔ (sum ((b.drop 8).take (num b))).toNat = num (b.drop (8 + num b)) := by
  have hl : ((b.drop 8).take (num b)).length = num b := by simp; omega
  unfold frameOf
  rw [hl, split3 b _, le4_num b (by omega), hs, le4_num (b.drop 4) (by simp; omega)]
  rw [List.append_right_inj]
  exact le4_iff _ _ (sum ((b.drop 8).take (num b))).isLt (by simp; omega)

theorem next_good (xs : List UInt8) (m : Nat) (h : (next xs m).2.2 = 0) :
    (next xs m).2.1 = m + 12 + (next xs m).1.length ∧ m + 12 + (next xs m).1.length ≤ xs.length ∧ (next xs m).1.length ≤ 65536 := by
  unfold next at h ⊢
  split at h
  · simp at h
  rename_i h0
  rw [if_neg h0]
  dsimp only at h ⊢
  split at h
  · simp at h
  rename_i h1
  rw [if_neg h1]
  split at h
  · simp at h
  rename_i h2
  rw [if_neg h2]
  split at h
  · simp at h
  rename_i h3
  rw [if_neg h3]
  split at h
  · simp at h
  rename_i h4
  rw [if_neg h4]
  split at h
  · simp at h
  rename_i h5
  rw [if_neg h5]
  simp only [Int.toNat_natCast, List.length_drop] at *
  have : ((xs.drop (8 + m)).take (num (xs.drop m))).length = num (xs.drop m) := by simp; omega
  simp only [List.drop_drop, List.length_take, List.length_drop] at *
  omega

/-! ### One behind the other -/
def pos (xs : List UInt8) : Nat → Nat
  | 0 => 0
  | k + 1 => pos xs k + 12 + (next xs (pos xs k)).1.length
def pay (xs : List UInt8) (k : Nat) : List UInt8 := (next xs (pos xs k)).1
/-- So many whole frames stand at the front. -/
def Count (xs : List UInt8) (n : Nat) : Prop := (∀ k, k < n → (next xs (pos xs k)).2.2 = 0) ∧ (next xs (pos xs n)).2.2 ≠ 0
theorem pos_next (xs : List UInt8) (k : Nat) (h : (next xs (pos xs k)).2.2 = 0) : (next xs (pos xs k)).2.1 = pos xs (k + 1) := by
  rw [(next_good xs _ h).1]; simp [pos]
theorem pos_le (xs : List UInt8) (k : Nat) (h : ∀ j, j < k → (next xs (pos xs j)).2.2 = 0) : 12 * k ≤ pos xs k ∧ pos xs k ≤ xs.length := by
  induction k with
  | zero => simp [pos]
  | succ k ih =>
    have h1 := ih (fun j hj => h j (by omega))
    have h2 := (next_good xs _ (h k (by omega))).2.1
    simp only [pos]
    omega
theorem count_exists (xs : List UInt8) : ∃ n, Count xs n := by
  apply Classical.byContradiction
  intro hno
  have hall : ∀ k, (∀ j, j < k → (next xs (pos xs j)).2.2 = 0) := by
    intro k
    induction k with
    | zero => intro j hj; omega
    | succ k ih =>
      intro j hj
      by_cases hjk : j = k
      · subst hjk
        apply Classical.byContradiction
        intro h
        exact hno ⟨j, ih, h⟩
      · exact ih j (by omega)
  have := pos_le xs (xs.length + 1) (hall _)
  omega
theorem Count.unique {xs : List UInt8} {n m : Nat} (h : Count xs n) (k : Count xs m) : n = m := by
  rcases Nat.lt_trichotomy n m with hlt | he | hgt
  · exact absurd (k.1 n hlt) h.2
  · exact he
  · exact absurd (h.1 m hgt) k.2
def pays (xs : List UInt8) (k : Nat) : List (List UInt8) := (List.range k).map (pay xs)
theorem pays_succ (xs : List UInt8) (k : Nat) : pays xs (k + 1) = pays xs k ++ [pay xs k] := by simp [pays, List.range_succ]
theorem pays_length (xs : List UInt8) (k : Nat) : (pays xs k).length = k := by simp [pays]

end FrM
end Go.Proofs.Ytfmfmalhebfnhaa
