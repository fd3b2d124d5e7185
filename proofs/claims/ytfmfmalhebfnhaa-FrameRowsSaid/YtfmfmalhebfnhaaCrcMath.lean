/- The plain mathematics of the sum of layer 1: no program in sight. -/
namespace Go.Proofs.Ytfmfmalhebfnhaa
namespace CrcM

def poly : BitVec 32 := 0x82f63b78#32

/-- One bit. -/
def bs (x : BitVec 32) : BitVec 32 := (x >>> 1) ^^^ (poly * (x &&& 1#32))

/-- n bits. -/
def bsn : Nat → BitVec 32 → BitVec 32
  | 0, x => x
  | n + 1, x => bsn n (bs x)

/-- The table's entry. -/
def tbl (j : Nat) : BitVec 32 := bsn 4 (BitVec.ofNat 32 j)

/-- Half a byte, by the table. -/
def nib (r h : BitVec 32) : BitVec 32 := (r >>> 4) ^^^ tbl ((r ^^^ h).toNat % 16)

def lo (b : UInt8) : BitVec 32 := BitVec.ofNat 32 (b.toNat % 16)
def hi (b : UInt8) : BitVec 32 := BitVec.ofNat 32 (b.toNat / 16)

/-- The halves of the bytes. -/
def nibs (l : List UInt8) : List (BitVec 32) := l.flatMap fun b => [lo b, hi b]

def run (r : BitVec 32) (l : List UInt8) : BitVec 32 := (nibs l).foldl nib r

/-- The sum with more behind. -/
def ext (s : BitVec 32) (l : List UInt8) : BitVec 32 := ~~~ run (~~~ s) l

def sum (l : List UInt8) : BitVec 32 := ext 0#32 l

theorem nibs_append (a b : List UInt8) : nibs (a ++ b) = nibs a ++ nibs b := by simp [nibs]
theorem run_append (r : BitVec 32) (a b : List UInt8) : run r (a ++ b) = run (run r a) b := by simp [run, nibs_append]
theorem ext_append (s : BitVec 32) (a b : List UInt8) : ext s (a ++ b) = ext (ext s a) b := by simp [ext, run_append]
theorem ext_nil (s : BitVec 32) : ext s [] = s := by simp [ext, run, nibs]
theorem run_nil (r : BitVec 32) : run r [] = r := rfl
theorem run_cons (r : BitVec 32) (b : UInt8) (l : List UInt8) : run r (b :: l) = run (nib (nib r (lo b)) (hi b)) l := by
  simp [run, nibs]

/-! ### Linear -/

theorem bs_xor (x y : BitVec 32) : bs (x ^^^ y) = bs x ^^^ bs y := by
  have h : ∀ z : BitVec 32, poly * (z &&& 1#32) = if z.getLsbD 0 then poly else 0#32 := by
    intro z
    have : z &&& 1#32 = if z.getLsbD 0 then 1#32 else 0#32 := by
      apply BitVec.eq_of_getLsbD_eq
      intro i hi
      rcases i with _ | i
      · rw [BitVec.getLsbD_and]
        cases z.getLsbD 0 <;> decide
      · cases hz : z.getLsbD 0 <;> simp [BitVec.getLsbD_one]
    rw [this]
    split <;> simp
  unfold bs
  rw [h, h, h]
  have h1 : (x ^^^ y) >>> 1 = (x >>> 1) ^^^ (y >>> 1) := by
    apply BitVec.eq_of_getLsbD_eq; intro i hi; simp
  rw [h1, BitVec.getLsbD_xor]
  cases x.getLsbD 0 <;> cases y.getLsbD 0 <;> simp
  · rw [BitVec.xor_assoc]
  · rw [BitVec.xor_assoc, BitVec.xor_assoc, BitVec.xor_comm poly]
  · have : ∀ a b c : BitVec 32, (a ^^^ c) ^^^ (b ^^^ c) = a ^^^ b := by
      intro a b c; apply BitVec.eq_of_getLsbD_eq; intro i hi; simp
      cases a.getLsbD i <;> cases b.getLsbD i <;> cases c.getLsbD i <;> rfl
    rw [this]

theorem bsn_xor (n : Nat) (x y : BitVec 32) : bsn n (x ^^^ y) = bsn n x ^^^ bsn n y := by
  induction n generalizing x y with
  | zero => rfl
  | succ n ih => simp only [bsn]; rw [bs_xor, ih]

theorem bsn_add (n m : Nat) (x : BitVec 32) : bsn (n + m) x = bsn m (bsn n x) := by
  induction n generalizing x with
  | zero => simp [bsn]
  | succ n ih => rw [Nat.succ_add]; simp only [bsn]; exact ih _

theorem bs_zero : bs 0#32 = 0#32 := by decide
theorem bsn_zero (n : Nat) : bsn n 0#32 = 0#32 := by
  induction n with
  | zero => rfl
  | succ n ih => simp only [bsn]; rw [bs_zero, ih]

theorem bs_even (x : BitVec 32) (h : x.getLsbD 0 = false) : bs x = x >>> 1 := by
  have : x &&& 1#32 = 0#32 := by
    apply BitVec.eq_of_getLsbD_eq
    intro i hi
    rcases i with _ | i
    · simpa using h
    · simp [BitVec.getLsbD_one]
  simp [bs, this]

/-- The lowest k bits. -/
def low (x : BitVec 32) (k : Nat) : BitVec 32 := BitVec.ofNat 32 (x.toNat % 2 ^ k)
theorem getLsbD_low (x : BitVec 32) (k i : Nat) : (low x k).getLsbD i = (decide (i < k) && x.getLsbD i) := by
  unfold low
  rw [BitVec.getLsbD_ofNat, Nat.testBit_mod_two_pow]
  by_cases hi : i < 32
  · simp only [hi, decide_true, Bool.true_and]; rfl
  · simp [hi, BitVec.getLsbD_of_ge x i (by omega)]
theorem low_zero (x : BitVec 32) : low x 0 = 0#32 := by simp [low, Nat.mod_one]
theorem low_all (x : BitVec 32) (k : Nat) (h : 32 ≤ k) : low x k = x := by
  apply BitVec.eq_of_getLsbD_eq; intro i hi; rw [getLsbD_low]; simp; omega

def b2v (b : Bool) : BitVec 32 := if b then 1#32 else 0#32

theorem bsn_shl (k : Nat) (y : BitVec 32) (hk : k ≤ 32) (h : ∀ i, 32 - k ≤ i → y.getLsbD i = false) : bsn k (y <<< k) = y := by
  induction k with
  | zero => simp [bsn]
  | succ k ih =>
    simp only [bsn]
    have e : bs (y <<< (k + 1)) = y <<< k := by
      rw [bs_even _ (by simp)]
      apply BitVec.eq_of_getLsbD_eq
      intro i hi
      simp only [BitVec.getLsbD_ushiftRight, BitVec.getLsbD_shiftLeft]
      by_cases hik : i < k
      · simp [hik, show 1 + i < k + 1 by omega]
      · by_cases hi1 : 1 + i < 32
        · simp [hi1, hi, hik, show ¬ 1 + i < k + 1 by omega, show 1 + i - (k + 1) = i - k by omega]
        · have : y.getLsbD (i - k) = false := h _ (by omega)
          simp [hi1, this]
    rw [e]
    exact ih (by omega) (fun i hi => h i (by omega))

/-- k bits of x, one by one. -/
def bits1 (r x : BitVec 32) : Nat → BitVec 32
  | 0 => r
  | k + 1 => bs (bits1 r x k ^^^ b2v (x.getLsbD k))

theorem bits1_eq (r x : BitVec 32) (k : Nat) (hk : k ≤ 32) : bits1 r x k = bsn k (r ^^^ low x k) := by
  induction k with
  | zero => simp [bits1, bsn, low_zero]
  | succ k ih =>
    have e : b2v (x.getLsbD k) = bsn k (b2v (x.getLsbD k) <<< k) := by
      rw [bsn_shl k _ (by omega)]
      intro i hi
      unfold b2v
      split
      · simp [BitVec.getLsbD_one]; omega
      · simp
    simp only [bits1]
    rw [ih (by omega), e, ← bsn_xor]
    have e2 : bs (bsn k (r ^^^ low x k ^^^ b2v (x.getLsbD k) <<< k)) = bsn (k + 1) (r ^^^ low x k ^^^ b2v (x.getLsbD k) <<< k) := by
      rw [bsn_add k 1]; rfl
    rw [e2]
    congr 1
    apply BitVec.eq_of_getLsbD_eq
    intro i hi
    simp only [BitVec.getLsbD_xor, getLsbD_low, BitVec.getLsbD_shiftLeft, hi, decide_true, Bool.true_and]
    have hb : (b2v (x.getLsbD k)).getLsbD (i - k) = (decide (i - k = 0) && x.getLsbD k) := by
      unfold b2v
      cases x.getLsbD k <;> simp [BitVec.getLsbD_one]
    rw [hb]
    rcases Nat.lt_trichotomy i k with h | h | h
    · simp [h, show i < k + 1 by omega]
    · subst h; simp
    · simp [show ¬ i < k by omega, show ¬ i < k + 1 by omega, show ¬ i - k = 0 by omega]

/-- A byte among 32 bits. -/
def zb (b : UInt8) : BitVec 32 := BitVec.ofNat 32 b.toNat
theorem getLsbD_zb (b : UInt8) (i : Nat) : (zb b).getLsbD i = b.toNat.testBit i := by
  unfold zb
  rw [BitVec.getLsbD_ofNat]
  by_cases hi : i < 32
  · simp [hi]
  · simp only [hi, decide_false, Bool.false_and]
    exact (Nat.testBit_lt_two_pow (Nat.lt_of_lt_of_le b.toNat_lt (Nat.pow_le_pow_right (by omega) (show 8 ≤ i by omega)))).symm

theorem low_zb (b : UInt8) : low (zb b) 8 = zb b := by
  apply BitVec.eq_of_getLsbD_eq; intro i hi; rw [getLsbD_low]
  by_cases h : i < 8
  · simp [h]
  · simp only [h, decide_false, Bool.false_and]
    rw [getLsbD_zb]
    exact (Nat.testBit_lt_two_pow (Nat.lt_of_lt_of_le b.toNat_lt (Nat.pow_le_pow_right (by omega) (show 8 ≤ i by omega)))).symm

/-- One byte. -/
def by8 (r : BitVec 32) (b : UInt8) : BitVec 32 := bsn 8 (r ^^^ zb b)

theorem tbl4 (x : BitVec 32) : bsn 4 x = (x >>> 4) ^^^ tbl (x.toNat % 16) := by
  have e : x = ((x >>> 4) <<< 4) ^^^ low x 4 := by
    apply BitVec.eq_of_getLsbD_eq; intro i hi
    simp only [BitVec.getLsbD_xor, getLsbD_low, BitVec.getLsbD_shiftLeft, BitVec.getLsbD_ushiftRight, hi, decide_true, Bool.true_and]
    by_cases h : i < 4
    · simp [h]
    · simp [h, show 4 + (i - 4) = i by omega]
  have h2 : bsn 4 ((x >>> 4) <<< 4) = x >>> 4 := by
    apply bsn_shl 4 _ (by omega)
    intro i hi
    simp only [BitVec.getLsbD_ushiftRight]
    exact BitVec.getLsbD_of_ge x _ (by omega)
  have h3 : bsn 4 x = bsn 4 (((x >>> 4) <<< 4) ^^^ low x 4) := congrArg _ e
  rw [h3, bsn_xor, h2]
  rfl

theorem nib_eq (r h : BitVec 32) (hh : h.toNat < 16) : nib r h = bsn 4 (r ^^^ h) := by
  rw [tbl4]
  unfold nib
  have : (r ^^^ h) >>> 4 = r >>> 4 := by
    apply BitVec.eq_of_getLsbD_eq; intro i hi
    simp only [BitVec.getLsbD_ushiftRight, BitVec.getLsbD_xor]
    have : h.getLsbD (4 + i) = false := by
      rw [BitVec.getLsbD, Nat.testBit_lt_two_pow (Nat.lt_of_lt_of_le hh (Nat.pow_le_pow_right (n := 2) (by omega) (show 4 ≤ 4 + i by omega)))]
    simp [this]
  rw [this]

theorem lo_lt (b : UInt8) : (lo b).toNat < 16 := by unfold lo; simp; omega
theorem hi_lt (b : UInt8) : (hi b).toNat < 16 := by have := b.toNat_lt; unfold hi; simp; omega

theorem nib2 (r : BitVec 32) (b : UInt8) : nib (nib r (lo b)) (hi b) = by8 r b := by
  rw [nib_eq _ _ (hi_lt b), nib_eq _ _ (lo_lt b)]
  have hh : ∀ i, (hi b).getLsbD i = b.toNat.testBit (i + 4) := by
    intro i
    unfold hi
    rw [BitVec.getLsbD_ofNat]
    have : b.toNat / 16 = b.toNat >>> 4 := by rw [Nat.shiftRight_eq_div_pow]
    rw [this, Nat.testBit_shiftRight]
    by_cases h : i < 32
    · simp [h, Nat.add_comm]
    · simp only [h, decide_false, Bool.false_and]
      exact (Nat.testBit_lt_two_pow (Nat.lt_of_lt_of_le b.toNat_lt (Nat.pow_le_pow_right (by omega) (show 8 ≤ i + 4 by omega)))).symm
  have hl : ∀ i, (lo b).getLsbD i = (decide (i < 4) && b.toNat.testBit i) := by
    intro i
    unfold lo
    rw [BitVec.getLsbD_ofNat]
    have : b.toNat % 16 = b.toNat % 2 ^ 4 := rfl
    rw [this, Nat.testBit_mod_two_pow]
    by_cases h : i < 32
    · simp [h]
    · simp [h]; intro; omega
  have e : hi b = bsn 4 (hi b <<< 4) := by
    rw [bsn_shl 4 _ (by omega)]
    intro i hi
    rw [hh]
    exact Nat.testBit_lt_two_pow (Nat.lt_of_lt_of_le b.toNat_lt (Nat.pow_le_pow_right (by omega) (by omega)))
  have e3 : bsn 4 (r ^^^ lo b) ^^^ hi b = bsn 4 (r ^^^ lo b ^^^ hi b <<< 4) := by
    rw [bsn_xor 4 (r ^^^ lo b), ← e]
  rw [e3, ← bsn_add 4 4]
  unfold by8
  congr 1
  rw [BitVec.xor_assoc]
  congr 1
  apply BitVec.eq_of_getLsbD_eq; intro i hi
  simp only [BitVec.getLsbD_xor, BitVec.getLsbD_shiftLeft, hi, decide_true, Bool.true_and, hl, hh, getLsbD_zb]
  by_cases h : i < 4
  · simp [h]
  · simp [h, show i - 4 + 4 = i by omega]

theorem run_cons8 (r : BitVec 32) (b : UInt8) (l : List UInt8) : run r (b :: l) = run (by8 r b) l := by rw [run_cons, nib2]
theorem run_eq (r : BitVec 32) (l : List UInt8) : run r l = l.foldl by8 r := by
  induction l generalizing r with
  | nil => rfl
  | cons b l ih => rw [run_cons8, ih]; rfl

/-! ### Mixed -/

theorem zb_xor (a b : UInt8) : zb (a ^^^ b) = zb a ^^^ zb b := by
  apply BitVec.eq_of_getLsbD_eq; intro i hi; simp [getLsbD_zb]

theorem by8_xor (r s : BitVec 32) (a b : UInt8) : by8 (r ^^^ s) (a ^^^ b) = by8 r a ^^^ by8 s b := by
  unfold by8
  rw [← bsn_xor, zb_xor]
  congr 1
  apply BitVec.eq_of_getLsbD_eq; intro i hi
  simp only [BitVec.getLsbD_xor]
  cases r.getLsbD i <;> cases s.getLsbD i <;> cases (zb a).getLsbD i <;> cases (zb b).getLsbD i <;> rfl

theorem run_xor (r s : BitVec 32) (a b : List UInt8) (h : a.length = b.length) : run (r ^^^ s) (List.zipWith (· ^^^ ·) a b) = run r a ^^^ run s b := by
  induction a generalizing b r s with
  | nil => cases b with
    | nil => rfl
    | cons _ _ => simp at h
  | cons x a ih => cases b with
    | nil => simp at h
    | cons y b =>
      simp only [List.zipWith_cons_cons, run_cons8]
      rw [by8_xor, ih _ _ _ (by simpa using h)]

theorem sum_mix (a b c : List UInt8) (h1 : a.length = b.length) (h2 : a.length = c.length) :
    sum (List.zipWith (· ^^^ ·) (List.zipWith (· ^^^ ·) a b) c) = sum a ^^^ sum b ^^^ sum c := by
  unfold sum ext
  have e : (~~~ (0#32) : BitVec 32) = (~~~ 0#32 ^^^ ~~~ 0#32) ^^^ ~~~ 0#32 := by decide
  have hx : ∀ x y z : BitVec 32, ~~~ (x ^^^ y ^^^ z) = ~~~ x ^^^ ~~~ y ^^^ ~~~ z := by
    intro x y z; apply BitVec.eq_of_getLsbD_eq; intro i hi
    simp only [BitVec.getLsbD_not, BitVec.getLsbD_xor, hi, decide_true, Bool.true_and]
    cases x.getLsbD i <;> cases y.getLsbD i <;> cases z.getLsbD i <;> rfl
  have h3 : run (~~~ 0#32) (List.zipWith (· ^^^ ·) (List.zipWith (· ^^^ ·) a b) c) = run ((~~~ 0#32 ^^^ ~~~ 0#32) ^^^ ~~~ 0#32) (List.zipWith (· ^^^ ·) (List.zipWith (· ^^^ ·) a b) c) := congrArg (fun r => run r _) e
  rw [h3, run_xor _ _ _ _ (by simp [← h1, ← h2]), run_xor _ _ _ _ h1, hx]

/-! ### Turned within 32 bits -/

theorem bs_inj (x : BitVec 32) (h : bs x = 0#32) : x = 0#32 := by
  by_cases h0 : x.getLsbD 0 = false
  · rw [bs_even x h0] at h
    apply BitVec.eq_of_getLsbD_eq; intro i hi
    rcases i with _ | i
    · simpa using h0
    · have := congrArg (fun z => z.getLsbD i) h
      simpa [BitVec.getLsbD_ushiftRight, Nat.add_comm] using this
  · exfalso
    have hz : x &&& 1#32 = 1#32 := by
      apply BitVec.eq_of_getLsbD_eq
      intro i hi
      rcases i with _ | i
      · simpa using h0
      · simp [BitVec.getLsbD_one]
    have h31 := congrArg (fun z => z.getLsbD 31) h
    simp only [bs, hz, BitVec.mul_one, BitVec.getLsbD_xor, BitVec.getLsbD_ushiftRight, BitVec.getLsbD_of_ge x (1 + 31) (by omega)] at h31
    revert h31; decide

theorem bsn_inj (n : Nat) (x : BitVec 32) (h : bsn n x = 0#32) : x = 0#32 := by
  induction n generalizing x with
  | zero => exact h
  | succ n ih => exact bs_inj _ (ih _ h)

/-- The bit at a place of bytes. -/
def bitAt (l : List UInt8) (i : Nat) : Bool := (l.getD (i / 8) 0).toNat.testBit (i % 8)

/-- Bits one by one, out of a function. -/
def bitsF (r : BitVec 32) (f : Nat → Bool) : Nat → BitVec 32
  | 0 => r
  | n + 1 => bs (bitsF r f n ^^^ b2v (f n))

theorem bitsF_add (r : BitVec 32) (f : Nat → Bool) (n m : Nat) : bitsF r f (n + m) = bitsF (bitsF r f n) (fun i => f (n + i)) m := by
  induction m with
  | zero => rfl
  | succ m ih => rw [← Nat.add_assoc]; simp only [bitsF]; rw [ih]

theorem bitsF_congr (r : BitVec 32) (f g : Nat → Bool) (n : Nat) (h : ∀ i, i < n → f i = g i) : bitsF r f n = bitsF r g n := by
  induction n with
  | zero => rfl
  | succ n ih => simp only [bitsF]; rw [ih (fun i hi => h i (by omega)), h n (by omega)]

theorem bitsF_bits1 (r x : BitVec 32) (n : Nat) : bitsF r (fun i => x.getLsbD i) n = bits1 r x n := by
  induction n with
  | zero => rfl
  | succ n ih => simp only [bitsF, bits1]; rw [ih]

theorem by8_bits (r : BitVec 32) (b : UInt8) : by8 r b = bitsF r (fun i => b.toNat.testBit i) 8 := by
  have : (fun i => b.toNat.testBit i) = fun i => (zb b).getLsbD i := by funext i; rw [getLsbD_zb]
  rw [this, bitsF_bits1, bits1_eq _ _ _ (by omega), low_zb]; rfl

theorem bitAt_cons (b : UInt8) (l : List UInt8) (i : Nat) : bitAt (b :: l) (8 + i) = bitAt l i := by
  unfold bitAt
  rw [show (8 + i) / 8 = i / 8 + 1 by omega, show (8 + i) % 8 = i % 8 by omega]; rfl

theorem run_bits (r : BitVec 32) (l : List UInt8) : run r l = bitsF r (bitAt l) (8 * l.length) := by
  induction l generalizing r with
  | nil => rfl
  | cons b l ih =>
    rw [run_cons8, ih, List.length_cons, show 8 * (l.length + 1) = 8 + 8 * l.length by omega, bitsF_add]
    have e1 : (fun i => bitAt (b :: l) (8 + i)) = bitAt l := funext fun i => bitAt_cons b l i
    rw [e1, by8_bits]
    rfl

theorem bitsF_zero (r : BitVec 32) (n : Nat) : bitsF r (fun _ => false) n = bsn n r := by
  induction n with
  | zero => rfl
  | succ n ih => simp only [bitsF, b2v]; rw [ih, bsn_add n 1]; simp [bsn]

theorem bitsF_xor (r s : BitVec 32) (f g : Nat → Bool) (n : Nat) : bitsF r f n ^^^ bitsF s g n = bitsF (r ^^^ s) (fun i => f i ^^ g i) n := by
  induction n with
  | zero => rfl
  | succ n ih =>
    simp only [bitsF]
    rw [← bs_xor, ← ih]
    congr 1
    apply BitVec.eq_of_getLsbD_eq; intro i hi
    simp only [BitVec.getLsbD_xor]
    have : (b2v (f n ^^ g n)).getLsbD i = ((b2v (f n)).getLsbD i ^^ (b2v (g n)).getLsbD i) := by
      cases f n <;> cases g n <;> simp [b2v]
    rw [this]
    cases (bitsF r f n).getLsbD i <;> cases (bitsF s g n).getLsbD i <;> cases (b2v (f n)).getLsbD i <;> cases (b2v (g n)).getLsbD i <;> rfl

/-- Bytes that part within 32 bits have other sums, if they part at all. -/
theorem burst (b c : List UInt8) (at_ : Nat) (turn : BitVec 32) (hl : c.length = b.length) (hat : at_ < 8 * b.length)
    (hc : ∀ j, j < 8 * b.length → bitAt c j = (bitAt b j ^^ (decide (at_ ≤ j) && decide (j < at_ + 32) && turn.getLsbD (j - at_)))) :
    (sum b = sum c ↔ low turn (8 * b.length - at_) = 0#32) := by
  have key : run (~~~ 0#32) b ^^^ run (~~~ 0#32) c = bsn (8 * b.length - at_) (low turn (8 * b.length - at_)) := by
    rw [run_bits, run_bits, hl, bitsF_xor, BitVec.xor_self]
    have hd : ∀ j, j < 8 * b.length → (bitAt b j ^^ bitAt c j) = (decide (at_ ≤ j) && decide (j < at_ + 32) && turn.getLsbD (j - at_)) := by
      intro j hj; rw [hc j hj]
      cases bitAt b j <;> cases (decide (at_ ≤ j) && decide (j < at_ + 32) && turn.getLsbD (j - at_)) <;> rfl
    rw [bitsF_congr _ _ _ _ hd]
    obtain ⟨n, hn⟩ : ∃ n, 8 * b.length = at_ + n := ⟨8 * b.length - at_, by omega⟩
    rw [hn, bitsF_add]
    have e0 : bitsF 0#32 (fun j => decide (at_ ≤ j) && decide (j < at_ + 32) && turn.getLsbD (j - at_)) at_ = 0#32 := by
      rw [bitsF_congr _ _ (fun _ => false) _ (fun i hi => by simp; intro h; omega), bitsF_zero, bsn_zero]
    rw [e0]
    have e1 : (fun i => decide (at_ ≤ at_ + i) && decide (at_ + i < at_ + 32) && turn.getLsbD (at_ + i - at_)) = fun i => turn.getLsbD i := by
      funext i
      rw [show at_ + i - at_ = i by omega]
      by_cases h : i < 32
      · simp [h]
      · simp [BitVec.getLsbD_of_ge turn i (by omega)]
    rw [e1, show at_ + n - at_ = n by omega]
    by_cases h : n ≤ 32
    · rw [bitsF_bits1, bits1_eq _ _ _ h]; simp
    · obtain ⟨m, hm⟩ : ∃ m, n = 32 + m := ⟨n - 32, by omega⟩
      rw [hm, bitsF_add, bitsF_bits1, bits1_eq _ _ _ (by omega)]
      have : (fun i => turn.getLsbD (32 + i)) = fun _ => false := by funext i; exact BitVec.getLsbD_of_ge _ _ (by omega)
      rw [this, bitsF_zero, ← bsn_add, low_all _ 32 (by omega), low_all _ (32 + m) (by omega)]; simp
  have hx : ∀ x y : BitVec 32, (~~~ x = ~~~ y ↔ x ^^^ y = 0#32) := by
    intro x y
    constructor
    · intro h
      have : x = y := by have := congrArg (~~~ ·) h; simpa using this
      rw [this, BitVec.xor_self]
    · intro h
      have : x = y := by
        apply BitVec.eq_of_getLsbD_eq; intro i hi
        have := congrArg (fun z => z.getLsbD i) h
        simpa using this
      rw [this]
  unfold sum ext
  rw [hx, key]
  constructor
  · exact bsn_inj _ _
  · intro h; rw [h, bsn_zero]

end CrcM
end Go.Proofs.Ytfmfmalhebfnhaa
