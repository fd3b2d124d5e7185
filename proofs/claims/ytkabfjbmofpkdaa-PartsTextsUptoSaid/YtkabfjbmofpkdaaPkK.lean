/- Walks and plain laws of the chapter, laid together; each part says what it proves. -/
import Derived.Lib.AppendStr
import Derived.Deep.CutRange
import Derived.Deep.MidRow
import Derived.WalkMore
import Derived.Laws.DeepNot64
import Derived.Laws.EntriesVeiled
import Derived.Lib.ConvBytes
import Derived.Laws.AppendOwn
import Derived.Test.YtkabfjbmofpkdaaPkA
import Derived.Test.YtkabfjbmofpkdaaPkB
import Derived.Test.YtkabfjbmofpkdaaPkC
import Derived.Test.YtkabfjbmofpkdaaPkD
import Derived.Test.YtkabfjbmofpkdaaPkG
/- Layer 3, plain: items, their bytes, and back. -/
namespace Go.Proofs.Ytkabfjbmofpkdaa

/-- An item. -/
inductive Itc where
  | mk (k n : Int) (s : ByteArray) (l : List Itc)
def Itc.k : Itc → Int | .mk k _ _ _ => k
def Itc.n : Itc → Int | .mk _ n _ _ => n
def Itc.s : Itc → ByteArray | .mk _ _ s _ => s
def Itc.l : Itc → List Itc | .mk _ _ _ l => l
abbrev nos : ByteArray := ⟨#[]⟩

/-! ### Numbers -/
def numF : Nat → Nat → List UInt8
  | 0, n => [UInt8.ofNat n]
  | f + 1, n => if n < 128 then [UInt8.ofNat n] else UInt8.ofNat (n % 128 + 128) :: numF f (n / 128)
def num (n : Nat) : List UInt8 := numF 10 n
theorem numF_small {f n : Nat} (h : n < 128) : numF f n = [UInt8.ofNat n] := by
  cases f with
  | zero => rfl
  | succ f => unfold numF; rw [if_pos h]
theorem numF_more : ∀ (f g n : Nat), n < 128 ^ (f + 1) → f ≤ g → numF g n = numF f n
  | 0, g, n, h, _ => by rw [numF_small (by omega), numF_small (by omega)]
  | f + 1, g, n, h, hg => by
    obtain ⟨g', rfl⟩ : ∃ g', g = g' + 1 := ⟨g - 1, by omega⟩
    unfold numF
    split
    · rfl
    · rw [numF_more f g' (n / 128) ?_ (by omega)]
      rw [Nat.pow_succ] at h
      omega
theorem num_big {n : Nat} (h : 128 ≤ n) (hn : n < 18446744073709551616) : num n = UInt8.ofNat (n % 128 + 128) :: num (n / 128) := by
  have e : numF 10 n = UInt8.ofNat (n % 128 + 128) :: numF 9 (n / 128) := by
    show (if n < 128 then _ else _) = _
    rw [if_neg (by omega)]
  unfold num
  rw [e, numF_more 9 10 (n / 128) (by simp; omega) (by omega)]
theorem num_small {n : Nat} (h : n < 128) : num n = [UInt8.ofNat n] := numF_small h
theorem numF_len : ∀ f n, (numF f n).length ≤ f + 1 ∧ 1 ≤ (numF f n).length
  | 0, n => by simp [numF]
  | f + 1, n => by
    unfold numF
    split
    · simp
    · have := numF_len f (n / 128)
      simp; omega
theorem num_len (n : Nat) : (num n).length ≤ 11 ∧ 1 ≤ (num n).length := numF_len 10 n
theorem numF_len2 : ∀ f n, n < 128 ^ (f + 1) → (numF f n).length ≤ f + 1 := fun f n _ => (numF_len f n).1
theorem num_len_le {n : Nat} (f : Nat) (hf : f ≤ 10) (h : n < 128 ^ (f + 1)) : (num n).length ≤ f + 1 := by
  unfold num
  rw [numF_more f 10 n h hf]
  exact (numF_len f n).1

/-- The number that stands at the front: j digits were read. -/
def rdN : Nat → Nat → Nat → List UInt8 → Option (Nat × List UInt8)
  | 0, _, _, _ => none
  | _ + 1, _, _, [] => none
  | f + 1, j, n, c :: r => if (j = 9 ∧ 1 < c.toNat) ∨ (c.toNat = 0 ∧ 0 < j) then none else if c.toNat < 128 then some (n + c.toNat % 128 * 2 ^ (7 * j), r) else rdN f (j + 1) (n + c.toNat % 128 * 2 ^ (7 * j)) r
def readNum (r : List UInt8) : Option (Nat × List UInt8) := rdN 10 0 0 r
theorem rdN_numF : ∀ (f j n m : Nat) (r : List UInt8), f + j = 10 → m < 2 ^ (64 - 7 * j) → (0 < j → 0 < m) → rdN f j n (numF (f - 1) m ++ r) = some (n + m * 2 ^ (7 * j), r)
  | 0, j, n, m, r, hf, hm, h0 => by
    obtain rfl : j = 10 := by omega
    have := h0 (by omega)
    simp at hm
    omega
  | f + 1, j, n, m, r, hf, hm, h0 => by
    rw [Nat.add_sub_cancel]
    by_cases hs : m < 128
    · rw [numF_small hs]
      have hc : (UInt8.ofNat m).toNat = m := by simp; omega
      show rdN (f + 1) j n (UInt8.ofNat m :: r) = _
      unfold rdN
      rw [hc, if_neg ?_, if_pos hs, Nat.mod_eq_of_lt hs]
      intro e
      rcases e with ⟨rfl, e⟩ | ⟨e, e2⟩
      · simp at hm; omega
      · have := h0 e2; omega
    · have hj : j < 9 := by
        rcases Nat.lt_or_ge j 9 with h | h
        · exact h
        · obtain rfl : j = 9 := by omega
          simp at hm; omega
      obtain ⟨f', rfl⟩ : ∃ f', f = f' + 1 := ⟨f - 1, by omega⟩
      have e : numF (f' + 1) m = UInt8.ofNat (m % 128 + 128) :: numF f' (m / 128) := by
        show (if m < 128 then _ else _) = _
        rw [if_neg hs]
      rw [e]
      have hc : (UInt8.ofNat (m % 128 + 128)).toNat = m % 128 + 128 := by simp; omega
      show rdN (f' + 1 + 1) j n (UInt8.ofNat (m % 128 + 128) :: (numF f' (m / 128) ++ r)) = _
      unfold rdN
      rw [hc, if_neg (by omega), if_neg (by omega)]
      have ih := rdN_numF (f' + 1) (j + 1) (n + (m % 128 + 128) % 128 * 2 ^ (7 * j)) (m / 128) r (by omega) ?_ (fun _ => by omega)
      · rw [Nat.add_sub_cancel] at ih
        rw [ih]
        have h1 : (m % 128 + 128) % 128 = m % 128 := by omega
        have h2 : 2 ^ (7 * (j + 1)) = 128 * 2 ^ (7 * j) := by rw [show 7 * (j + 1) = 7 * j + 7 by omega, Nat.pow_add]; omega
        have h3 : m * 2 ^ (7 * j) = m % 128 * 2 ^ (7 * j) + m / 128 * (128 * 2 ^ (7 * j)) := by
          conv => lhs; rw [← Nat.mod_add_div m 128]
          rw [Nat.add_mul, Nat.mul_comm 128 (m / 128), Nat.mul_assoc]
        rw [h1, h2, h3, Nat.add_assoc]
      · have : 2 ^ (64 - 7 * j) = 128 * 2 ^ (64 - 7 * (j + 1)) := by
          rw [show 64 - 7 * j = 7 + (64 - 7 * (j + 1)) by omega, Nat.pow_add]
        rw [this] at hm
        omega
theorem readNum_num {n : Nat} (hn : n < 18446744073709551616) (r : List UInt8) : readNum (num n ++ r) = some (n, r) := by
  have h := rdN_numF 10 0 0 n r rfl (by simpa using hn) (fun h => by omega)
  simp only [Nat.zero_add, Nat.mul_zero, Nat.pow_zero, Nat.mul_one] at h
  unfold readNum num
  rw [numF_more 9 10 n (by simp; omega) (by omega)]
  exact h
theorem rdN_len : ∀ (f j n : Nat) (r : List UInt8) (x : Nat) (r' : List UInt8), rdN f j n r = some (x, r') → r'.length < r.length
  | 0, _, _, _, _, _, h => by simp [rdN] at h
  | _ + 1, _, _, [], _, _, h => by simp [rdN] at h
  | f + 1, j, n, c :: r, x, r', h => by
    unfold rdN at h
    split at h
    · cases h
    · split at h
      · simp only [Option.some.injEq, Prod.mk.injEq] at h
        obtain ⟨_, rfl⟩ := h
        simp
      · have := rdN_len f _ _ r x r' h
        simp; omega
theorem readNum_len {r r' : List UInt8} {x : Nat} (h : readNum r = some (x, r')) : r'.length < r.length := rdN_len _ _ _ _ _ _ h

def zig (n : Int) : Nat := if 0 ≤ n then (2 * n).toNat else (-2 * n - 1).toNat
def unzig (n : Nat) : Int := if n % 2 = 0 then (n / 2 : Nat) else -((n / 2 : Nat) : Int) - 1
theorem unzig_zig (n : Int) : unzig (zig n) = n := by
  unfold unzig zig
  split <;> split <;> omega
theorem zig_lt {n : Int} (h : -9223372036854775808 ≤ n ∧ n ≤ 9223372036854775807) : zig n < 18446744073709551616 := by
  unfold zig
  split <;> omega

/-! ### Items -/
def encI : Nat → Itc → List UInt8
  | 0, _ => []
  | d + 1, .mk k n s l => UInt8.ofNat k.toNat :: (if k = 0 then num (zig n) else if k = 1 then num s.size ++ s.data.toList else num l.length ++ l.flatMap (encI d))
def szI : Nat → Itc → Nat
  | 0, _ => 0
  | d + 1, .mk _ _ _ l => 1 + (l.map (szI d)).sum
def okI : Nat → Itc → Prop
  | 0, _ => False
  | d + 1, .mk k n s l => (k = 0 ∧ (-9223372036854775808 ≤ n ∧ n ≤ 9223372036854775807) ∧ s = nos ∧ l = []) ∨ (k = 1 ∧ n = 0 ∧ s.size ≤ 65536 ∧ l = []) ∨ (k = 2 ∧ n = 0 ∧ s = nos ∧ ∀ i ∈ l, okI d i)

/-- As often as there are. -/
def decN (f : List UInt8 → Nat → Option (Itc × List UInt8 × Nat)) : Nat → List UInt8 → Nat → Option (List Itc × List UInt8 × Nat)
  | 0, r, c => some ([], r, c)
  | n + 1, r, c => match f r c with
    | none => none
    | some (i, r', c') => match decN f n r' c' with
      | none => none
      | some (l, r'', c'') => some (i :: l, r'', c'')
/-- What a kind and a number lead to. -/
def decK (f : List UInt8 → Nat → Option (Itc × List UInt8 × Nat)) (k n : Nat) (r : List UInt8) (c : Nat) : Option (Itc × List UInt8 × Nat) :=
  if k = 0 then some (.mk 0 (unzig n) nos [], r, c)
  else if 9223372036854775807 < n then none
  else if k = 1 then (if r.length < n then none else some (.mk 1 0 ⟨(r.take n).toArray⟩ [], r.drop n, c))
  else match decN f n r c with
    | none => none
    | some (l, r', c') => some (.mk 2 0 nos l, r', c')
def decI : Nat → List UInt8 → Nat → Option (Itc × List UInt8 × Nat)
  | 0, _, _ => none
  | d + 1, r, c => if 4096 ≤ c then none else match r with
    | [] => none
    | k :: r1 => if 2 < k.toNat then none else match readNum r1 with
      | none => none
      | some (n, r2) => decK (decI d) k.toNat n r2 (c + 1)
def decA : Nat → List UInt8 → Nat → Option (List Itc)
  | 0, _, _ => none
  | f + 1, r, c => match r with
    | [] => some []
    | k :: r1 => match decI 8 (k :: r1) c with
      | none => none
      | some (i, r', c') => match decA f r' c' with
        | none => none
        | some l => some (i :: l)
def dec (b : List UInt8) : Option (List Itc) := if 65536 < b.length then none else decA (b.length + 1) b 0
def enc (is : List Itc) : List UInt8 := is.flatMap (encI 8)

theorem decN_enc {d : Nat} (hI : ∀ (i : Itc) (r : List UInt8) (c : Nat), okI d i → c + szI d i ≤ 4096 → decI d (encI d i ++ r) c = some (i, r, c + szI d i)) :
    ∀ (l : List Itc) (r : List UInt8) (c : Nat), (∀ i ∈ l, okI d i) → c + (l.map (szI d)).sum ≤ 4096 → decN (decI d) l.length (l.flatMap (encI d) ++ r) c = some (l, r, c + (l.map (szI d)).sum)
  | [], r, c, _, _ => by simp [decN]
  | i :: l, r, c, h, hc => by
    simp only [List.map_cons, List.sum_cons] at hc
    have h1 := hI i (l.flatMap (encI d) ++ r) c (h i (by simp)) (by omega)
    have h2 := decN_enc hI l r (c + szI d i) (fun x hx => h x (by simp [hx])) (by omega)
    show decN (decI d) (l.length + 1) ((encI d i ++ l.flatMap (encI d)) ++ r) c = _
    rw [List.append_assoc]
    unfold decN
    rw [h1]
    simp only
    rw [h2]
    simp only [List.map_cons, List.sum_cons, Nat.add_assoc]
theorem decI_enc : ∀ (d : Nat) (i : Itc) (r : List UInt8) (c : Nat), okI d i → c + szI d i ≤ 4096 → decI d (encI d i ++ r) c = some (i, r, c + szI d i)
  | 0, _, _, _, h, _ => h.elim
  | d + 1, .mk k n s l, r, c, h, hc => by
    have hc1 : c + (1 + (l.map (szI d)).sum) ≤ 4096 := hc
    show decI (d + 1) (UInt8.ofNat k.toNat :: ((if k = 0 then num (zig n) else if k = 1 then num s.size ++ s.data.toList else num l.length ++ l.flatMap (encI d)) ++ r)) c = some (.mk k n s l, r, c + (1 + (l.map (szI d)).sum))
    unfold decI
    rw [if_neg (by omega)]
    simp only
    rcases h with ⟨rfl, hn, rfl, rfl⟩ | ⟨rfl, rfl, hs, rfl⟩ | ⟨rfl, rfl, rfl, hl⟩
    · rw [if_neg (by decide), if_pos rfl, readNum_num (zig_lt hn)]
      simp only
      unfold decK
      rw [if_pos (by decide), unzig_zig]
      simp
    · rw [if_neg (by decide), if_neg (by decide), if_pos rfl, List.append_assoc, readNum_num (by omega)]
      simp only
      unfold decK
      have hl : s.data.toList.length = s.size := by rw [Array.length_toList]; rfl
      rw [if_neg (by decide), if_neg (by omega), if_pos (by decide), if_neg (by rw [List.length_append]; omega), ← hl, List.take_left, List.drop_left]
      simp
    · have hlen : l.length ≤ 4096 := by
        have : ∀ (d : Nat) (l : List Itc), (∀ i ∈ l, okI d i) → l.length ≤ (l.map (szI d)).sum := by
          intro d l
          induction l with
          | nil => intro _; simp
          | cons i l ih =>
            intro h
            have := ih (fun x hx => h x (by simp [hx]))
            have h1 : 1 ≤ szI d i := by
              have := h i (by simp)
              cases d with
              | zero => exact this.elim
              | succ d => obtain ⟨k, n, s, l⟩ := i; unfold szI; omega
            simp only [List.map_cons, List.sum_cons, List.length_cons]
            omega
        have := this d l hl
        omega
      rw [if_neg (by decide), if_neg (by decide), if_neg (by decide), List.append_assoc, readNum_num (by omega)]
      simp only
      unfold decK
      rw [if_neg (by decide), if_neg (by omega), if_neg (by decide), decN_enc (fun i r c h hc => decI_enc d i r c h hc) l r (c + 1) hl (by omega)]
      simp only [Nat.add_assoc]
theorem encI_pos {d : Nat} {i : Itc} (h : okI d i) : ∃ k r, encI d i = k :: r := by
  cases d with
  | zero => exact h.elim
  | succ d => obtain ⟨k, n, s, l⟩ := i; exact ⟨_, _, rfl⟩
theorem decA_enc : ∀ (is : List Itc) (f c : Nat), (∀ i ∈ is, okI 8 i) → c + (is.map (szI 8)).sum ≤ 4096 → (enc is).length < f → decA f (enc is) c = some is
  | [], f, c, _, _, hf => by
    obtain ⟨f', rfl⟩ : ∃ f', f = f' + 1 := ⟨f - 1, by omega⟩
    rfl
  | i :: is, f, c, h, hc, hf => by
    obtain ⟨f', rfl⟩ : ∃ f', f = f' + 1 := ⟨f - 1, by omega⟩
    simp only [List.map_cons, List.sum_cons] at hc
    have e : enc (i :: is) = encI 8 i ++ enc is := rfl
    obtain ⟨k, r, hk⟩ := encI_pos (h i (by simp))
    have hI := decI_enc 8 i (enc is) c (h i (by simp)) (by omega)
    rw [e] at hf ⊢
    rw [hk] at hI hf ⊢
    have ih := decA_enc is f' (c + szI 8 i) (fun x hx => h x (by simp [hx])) (by omega) (by simp at hf; omega)
    show decA (f' + 1) (k :: (r ++ enc is)) c = _
    have hI' : decI 8 (k :: (r ++ enc is)) c = some (i, enc is, c + szI 8 i) := hI
    unfold decA
    simp only [hI', ih]
theorem dec_enc {is : List Itc} (h : ∀ i ∈ is, okI 8 i) (hc : (is.map (szI 8)).sum ≤ 4096) (hl : (enc is).length ≤ 65536) : dec (enc is) = some is := by
  unfold dec
  rw [if_neg (by omega)]
  exact decA_enc is _ 0 h (by omega) (by omega)
end Go.Proofs.Ytkabfjbmofpkdaa

/- Layer 3: what a call changes by its blocks' element types; items that are read; number, walked. -/
namespace Go.Proofs.Ytkabfjbmofpkdaa
open Go.RowKit Go.Shelf
set_option linter.unusedVariables false

/-- Of the blocks that were there those of the types E alone have changed, and none below base. -/
structure Kp (E : TypeId → Prop) (base : Nat) (w w' : World) : Prop where
  b : Below base w w'
  k : ∀ (j : Nat) (cs : Array Value) (e : TypeId) (x : Nat × Nat), w.heap[j]? = some (Obj.cells cs e x) → ¬ E e → w'.heap[j]? = w.heap[j]?
theorem Kp.refl (E : TypeId → Prop) (base : Nat) (w : World) : Kp E base w w := ⟨Below.refl _ _, fun _ _ _ _ _ _ => rfl⟩
theorem Kp.trans {E : TypeId → Prop} {base : Nat} {a b c : World} (h : Kp E base a b) (k : Kp E base b c) : Kp E base a c :=
  ⟨h.b.trans k.b, fun j cs e x hj hE => by have h1 := h.k j cs e x hj hE; exact (k.k j cs e x (h1.trans hj) hE).trans h1⟩
theorem Kp.mono {E F : TypeId → Prop} {base base' : Nat} {w w' : World} (h : Kp E base w w') (hE : ∀ e, E e → F e) (hb : base' ≤ base) : Kp F base' w w' :=
  ⟨h.b.mono hb, fun j cs e x hj hF => h.k j cs e x hj (fun he => hF (hE e he))⟩
theorem Kp.of_below {E : TypeId → Prop} {base : Nat} {w w' : World} (h : Below w.heap.size w w') (hb : base ≤ w.heap.size) : Kp E base w w' :=
  ⟨h.mono hb, fun j cs e x hj _ => h.block j (Array.getElem?_eq_some_iff.1 hj).1⟩
theorem Kp.of_grown {E : TypeId → Prop} {base sz n : Nat} {e : TypeId} {v : Value} {xs : List Value} {w w' : World} (hown : w.ownsRow base e sz v n xs) (hb : base ≤ w.heap.size) (hE : E e) (hg : w.grownBy w' v.ownBlock) : Kp E base w w' := by
  refine ⟨(Below.refl base w).grown hg hb (fun k hk => (World.ownsRow.lt hown k hk).1), fun j cs e' x hj hE' => hg.block j (Array.getElem?_eq_some_iff.1 hj).1 (fun he => ?_)⟩
  rcases hown.2 with ⟨rfl, _⟩ | ⟨g, cap, cur, rfl, _, hg2, _⟩
  · cases he
  · simp only [Value.ownBlock, Option.some.injEq] at he
    subst he
    rw [hg2] at hj
    simp only [Option.some.injEq, Obj.cells.injEq] at hj
    obtain ⟨_, rfl, _⟩ := hj
    exact hE' hE
theorem Kp.own {E : TypeId → Prop} {base base' sz n : Nat} {e : TypeId} {v : Value} {xs : List Value} {w w' : World} (h : Kp E base w w') (hown : w.ownsRow base' e sz v n xs) (hE : ¬ E e) : w'.ownsRow base' e sz v n xs := by
  refine ⟨hown.1, ?_⟩
  rcases hown.2 with h0 | ⟨g, cap, cur, rfl, hb, hg, h1, h2, h3, h4⟩
  · exact .inl h0
  · exact .inr ⟨g, cap, cur, rfl, hb, (h.k g cur e (0, 0) hg hE).trans hg, h1, h2, h3, h4⟩

theorem tyU8 : STy Try.prog 96 5 (.int .u8 0) 1 1 := .of Try.underlying96 (by kernel_rfl) rfl (by omega)
theorem tyItems : STy Try.prog 95 100 (.agg #[.int .i64 0, .int .i64 0, .string nos, .slice none 0 0]) 4 56 := .of Try.underlying95 (by kernel_rfl) rfl (by omega)

/-! ### Items that are read -/
/-- An item with the slice of its list. -/
structure Iv where
  c : Itc
  v : Value
def Iv.cells (x : Iv) : List Value := [.int .i64 x.c.k, .int .i64 x.c.n, .string x.c.s, x.v]
theorem iv4 (x : Iv) : (Iv.cells x).length = 4 := rfl
/-- The slice v reads the items, to the depth d; each block that is read meets P. -/
def ItR (P : Nat → Prop) : Nat → World → Value → List Itc → Prop
  | 0, w, v, is => is = [] ∧ Rd w 4 v 0 []
  | d + 1, w, v, is => ∃ xs : List Iv, xs.map Iv.c = is ∧ Rd w 4 v xs.length (flatF Iv.cells xs) ∧ (∀ a n c, v = .slice (some a) n c → 0 < xs.length → P a.block) ∧ ∀ x ∈ xs, ItR P d w x.v x.c.l
theorem ItR.nil (P : Nat → Prop) (d : Nat) (w : World) : ItR P d w (.slice none 0 0) [] := by
  cases d with
  | zero => exact ⟨rfl, Rd.nil _ _⟩
  | succ d => exact ⟨[], rfl, Rd.nil _ _, fun a n c h => by simp at h, fun x hx => by cases hx⟩
theorem ItR.slice {P : Nat → Prop} {d : Nat} {w : World} {v : Value} {is : List Itc} (h : ItR P d w v is) : ∃ a c, v = .slice a is.length c ∧ is.length ≤ c ∧ c ≤ 9223372036854775807 := by
  cases d with
  | zero =>
    obtain ⟨rfl, hr⟩ := h
    obtain ⟨a, c, rfl, h1, h2⟩ := Rd.slice hr
    exact ⟨a, c, rfl, h1, h2⟩
  | succ d =>
    obtain ⟨xs, rfl, hr, -, -⟩ := h
    obtain ⟨a, c, rfl, h1, h2⟩ := Rd.slice hr
    exact ⟨a, c, by simp, by simpa using h1, h2⟩
theorem ItR.one {P : Nat → Prop} {d : Nat} {w : World} {v : Value} {is : List Itc} (h : ItR P d w v is) : v.oneCell' = true := by
  obtain ⟨a, c, rfl, -⟩ := h.slice
  rfl
theorem Rd.only {S : Nat → Prop} {w w' : World} {sz n : Nat} {v : Value} {cs : List Value} (h : Rd w sz v n cs) (ho : Only S w w') (hS : ∀ a n' c, v = .slice (some a) n' c → 0 < n → ¬ S a.block) : Rd w' sz v n cs := by
  obtain ⟨a, cap, rfl, h0, h1, h2, h3⟩ := h
  refine ⟨a, cap, rfl, h0, h1, h2, ?_⟩
  rcases h3 with h3 | ⟨b, off, rfl, hc⟩
  · exact .inl h3
  · rcases Nat.eq_zero_or_pos n with rfl | hn
    · refine .inr ⟨b, off, rfl, fun j u hj => ?_⟩
      have := (List.getElem?_eq_some_iff.1 hj).1
      omega
    · exact .inr ⟨b, off, rfl, fun j u hj => ho.cell (hS _ _ _ rfl hn) (hc j u hj)⟩
theorem ItR.only {P S : Nat → Prop} {w w' : World} (ho : Only S w w') (hPS : ∀ j, P j → ¬ S j) : ∀ {d : Nat} {v : Value} {is : List Itc}, ItR P d w v is → ItR P d w' v is
  | 0, v, is, h => ⟨h.1, Rd.only h.2 ho (fun a n c _ hn => by omega)⟩
  | d + 1, v, is, ⟨xs, h1, h2, h3, h4⟩ => ⟨xs, h1, Rd.only h2 ho (fun a n c e hn => hPS _ (h3 a n c e hn)), h3, fun x hx => ItR.only ho hPS (h4 x hx)⟩
theorem ItR.mono {P Q : Nat → Prop} {w : World} (hPQ : ∀ j, P j → Q j) : ∀ {d : Nat} {v : Value} {is : List Itc}, ItR P d w v is → ItR Q d w v is
  | 0, _, _, h => h
  | d + 1, v, is, ⟨xs, h1, h2, h3, h4⟩ => ⟨xs, h1, h2, fun a n c e hn => hPQ _ (h3 a n c e hn), fun x hx => ItR.mono hPQ (h4 x hx)⟩
theorem ItR.below {P : Nat → Prop} {w w' : World} {B : Nat} (hb : Below B w w') (hP : ∀ j, P j → j < B) {d : Nat} {v : Value} {is : List Itc} (h : ItR P d w v is) : ItR P d w' v is :=
  h.only (S := fun j => B ≤ j) ⟨hb.os, hb.tape, hb.output, hb.size, fun j _ hs => hb.block j (by omega)⟩ (fun j hp hs => by have := hP j hp; omega)
theorem ItR.deep {P : Nat → Prop} {w : World} : ∀ {d d' : Nat} {v : Value} {is : List Itc}, ItR P d w v is → d ≤ d' → ItR P d' w v is
  | 0, 0, _, _, h, _ => h
  | 0, d' + 1, v, is, ⟨h1, h2⟩, _ => ⟨[], h1.symm, h2, fun a n c _ hn => by simp at hn, fun x hx => by cases hx⟩
  | d + 1, 0, _, _, _, hd => by omega
  | d + 1, d' + 1, v, is, ⟨xs, h1, h2, h3, h4⟩, hd => ⟨xs, h1, h2, h3, fun x hx => ItR.deep (h4 x hx) (by omega)⟩

/-! ### number -/
theorem u8_or_128 (m : Nat) : bits BinOp.or IntKind.u8 ((m : Int) % 256) 128 = ((m % 128 + 128 : Nat) : Int) := by
  have h := (bits_nat .u8 8 (by decide) (fun n h0 h1 => by simp [IntKind.wrap, IntKind.bits, IntKind.signed]; omega) (m % 256) 128 (by omega) (by omega)).2
  have h2 : ∀ b : Fin 256, b.val ||| 128 = b.val % 128 + 128 := by decide +kernel
  have h3 := h2 ⟨m % 256, by omega⟩
  simp only at h3
  rw [h3] at h
  have h4 : (((m % 256 : Nat) : Int)) = (m : Int) % 256 := by omega
  rw [h4] at h
  rw [show ((128 : Int)) = ((128 : Nat) : Int) from rfl, h]
  omega
theorem bvs_snoc (xs : List UInt8) (k : Nat) (hk : k < 256) : bvs xs ++ [Value.int .u8 (k : Int)] = bvs (xs ++ [UInt8.ofNat k]) := by
  have : (UInt8.ofNat k).toNat = k := by simp; omega
  simp [bvs, byteV, this]
theorem own_snoc {w : World} {base : Nat} {v : Value} {xs : List UInt8} {k : Nat} (hk : k < 256) (h : w.ownsRow base 5 1 v (xs.length + 1) (bvs xs ++ [Value.int .u8 (k : Int)])) : w.ownsRow base 5 1 v (xs ++ [UInt8.ofNat k]).length (bvs (xs ++ [UInt8.ofNat k])) := by
  rw [bvs_snoc xs k hk] at h
  rw [List.length_append]
  exact h
set_option maxHeartbeats 1000000 in
theorem wnumber_calls (v : Value) (xs : List UInt8) (n base : Nat) (w : World) (hown : w.ownsRow base 5 1 v xs.length (bvs xs)) (hn : n < 18446744073709551616) (hlen : xs.length ≤ 1000000000) (hbase : base ≤ w.heap.size) :
    Calls Try.prog 89 #[v, .int .u64 n] w fun e w' => ∃ v', e = .returned v' ∧ w'.ownsRow base 5 1 v' (xs ++ num n).length (bvs (xs ++ num n)) ∧ Kp (fun e => e = 5) base w w' := by
  have HO := Lib.hid hown
  obtain ⟨a, c, rfl⟩ := own_slice hown
  clear hown
  go_enter Try.func89, Try.ntmps89
  go_wp2_with fail
  go_loopw [0, 1] (fun bv nv wr => ∃ (pre : List UInt8) (m : Nat), nv = .int .u64 m ∧ m < 18446744073709551616 ∧ pre ++ num m = num n ∧ wr.ownsRow base 5 1 bv (xs ++ pre).length (bvs (xs ++ pre)) ∧ Kp (fun e => e = 5) base w wr) (fun _ nv _ => (intOf nv).toNat)
  case atStart => exact ⟨[], n, rfl, hn, rfl, by simpa using HO.out, Kp.refl _ _ _⟩
  case round =>
    obtain ⟨pre, m, rfl, hm, hpre, hown, hkp⟩ := hrel
    have hpl : pre.length ≤ 11 := by
      have := congrArg List.length hpre
      rw [List.length_append] at this
      have := (num_len n).1
      omega
    have hxl : (xs ++ pre).length ≤ 1000000011 := by rw [List.length_append]; omega
    have HOW := Lib.hid hown
    have HKP := Lib.hid hkp
    have HPRE := Lib.hid hpre
    have HU := Lib.hid (u8_or_128 m)
    have hsz := hkp.b.size
    obtain ⟨ba, bc, rfl⟩ := own_slice hown
    clear hown hkp hpre
    generalize hYS : xs ++ pre = ys at *
    have HYS := Lib.hid hYS
    clear hYS
    by_cases hbig : 128 ≤ m
    · have hb1 : decide ((128 : Int) ≤ (m : Int)) = true := decide_eq_true (by omega)
      go_upto_region 3 with (at_builtin; go_loud (refine app_list tyU8 (HOW.out.alloc _) (Rd.lit (n := 1) rfl (by omega)) (by simp [Value.oneCell']) (by omega) (by omega) (by simp; omega) rfl rfl rfl rfl ?_; intro v2 w2 hm2 hg2 hn2; rw [HU.out] at hm2; obtain ⟨ga, gc, rfl⟩ := own_slice hm2))
      have HM2 := Lib.hid (own_snoc (by omega) hm2)
      have HK2 := Lib.hid ((HKP.out.trans (Kp.of_below (below_alloc wr _) (by omega))).trans (Kp.of_grown (E := fun e => e = 5) (HOW.out.alloc _) (by simp; omega) rfl hg2))
      clear hm2 hg2 hn2
      go_wp2_with fail
      go_roundw
      case rel => exact ⟨pre ++ [UInt8.ofNat (m % 128 + 128)], m / 128, by go_num, by omega, by rw [← HPRE.out, num_big hbig hm]; simp, by rw [← List.append_assoc, HYS.out]; simpa using HM2.out, HK2.out⟩
      case measure => simp [intOf]; omega
    · have hb1 : decide ((128 : Int) ≤ (m : Int)) = false := decide_eq_false (by omega)
      go_wp2_with (at_builtin; go_loud (refine app_list tyU8 (HOW.out.alloc _) (Rd.lit (n := 1) rfl (by omega)) (by simp [Value.oneCell']) (by omega) (by omega) (by simp; omega) rfl rfl rfl rfl ?_; intro v2 w2 hm2 hg2 hn2; obtain ⟨ga, gc, rfl⟩ := own_slice hm2))
      go_ret
      refine ⟨_, rfl, ?_, (HKP.out.trans (Kp.of_below (below_alloc wr _) (by omega))).trans (Kp.of_grown (E := fun e => e = 5) (HOW.out.alloc _) (by simp; omega) rfl hg2)⟩
      have := own_snoc (k := m) (by omega) (by simpa using hm2)
      have e : xs ++ num n = ys ++ [UInt8.ofNat m] := by rw [← HPRE.out, num_small (by omega), ← List.append_assoc, HYS.out]
      rw [← List.length_append, e]
      simpa using this
end Go.Proofs.Ytkabfjbmofpkdaa

/- Layer 3: put, walked. -/
namespace Go.Proofs.Ytkabfjbmofpkdaa
open Go.RowKit Go.Shelf
set_option linter.unusedVariables false
set_option linter.unusedSimpArgs false

section
variable {P : Program} {l : List Oper} {Q : Exit → Act → World → Prop} {S : World → Prop} {T : Act → World → Prop} {i : Nat} {o : Oper} {π : List (Nat × Bool)} {a : Act} {w : World}
/-- append of a text to bytes of the call's own. -/
theorem m_appstr {s x : Operand} {t u e : TypeId} {base n : Nat} {v : Value} {xs : List Value} {str : ByteArray} (T' : STy P t e (.int .u8 0) 1 1) (hu : P.underlying u = some .string)
    (hown : w.ownsRow base e 1 v n xs) (hb : n + str.size ≤ 140737488355328) (hbase : base ≤ w.heap.size)
    (ho : l[i]? = some o) (hw : Region.wanted o (yielded l.toArray a.tmps) = true) (hop : o.op = .call { callee := .builtin .append, args := #[s, x], argTypes := #[t, u] }) (hs : a.eval s = v) (hx : a.eval x = .string str)
    (h : ∀ v' w', w'.ownsRow base e 1 v' (n + str.size) (xs ++ Lib.strCells str) → w.grownBy w' v.ownBlock → S w' ∧ wpM P l.toArray Q S T π (a.put o.dst v') w') :
    wpM P l.toArray Q S T ((i, true) :: π) a w := by
  obtain ⟨i', hi, hz, hsz, hby⟩ := T'.hi
  obtain ⟨v', w', hrun, h2, h3, -⟩ := Lib.run_append_own_string (P := P) w base t u o.type e i' T'.ht hu hi hz hsz hby v n xs hown str (by unfold maxLen; omega) hb hbase
  have := h v' w' h2 h3
  refine m_value ho hw ?_ this.1 this.2
  simp [execOp, hop, resolve, invoke, builtin, hs, hx, hrun, Result.andThen]
end
theorem strCells_bvs (s : ByteArray) : Lib.strCells s = bvs s.data.toList := rfl

/-- The writer's box. -/
def WBox (w : World) (base wb : Nat) (bv : Value) (cnt : Int) : Prop := w.ownsRow base 132 2 (.slice (some ⟨wb, 0, none⟩) 1 1) 1 [bv, .int .i64 cnt]
theorem WBox.c0 {w : World} {base wb : Nat} {bv : Value} {cnt : Int} (h : WBox w base wb bv cnt) : w.cell? ⟨wb, 0, none⟩ = some bv := by
  have := World.ownsRow.cells h (g := wb) rfl 0 bv rfl
  rwa [add_off, Nat.zero_add] at this
theorem WBox.c1 {w : World} {base wb : Nat} {bv : Value} {cnt : Int} (h : WBox w base wb bv cnt) : w.cell? ⟨wb, 1, none⟩ = some (.int .i64 cnt) := by
  have := World.ownsRow.cells h (g := wb) rfl 1 _ rfl
  rwa [add_off, Nat.zero_add] at this
theorem WBox.frz {w : World} {base wb : Nat} {bv : Value} {cnt : Int} (h : WBox w base wb bv cnt) (j : Nat) : w.frozen? ⟨wb, j, none⟩ = false := World.ownsRow.frozenAt h j
theorem WBox.kp {E : TypeId → Prop} {w w' : World} {base wb b' : Nat} {bv : Value} {cnt : Int} (h : WBox w base wb bv cnt) (k : Kp E b' w w') (hE : ¬ E 132) : WBox w' base wb bv cnt := k.own h hE
theorem WBox.set0 {w : World} {base wb : Nat} {bv : Value} {cnt : Int} (h : WBox w base wb bv cnt) (v : Value) : WBox (w.setCell ⟨wb, 0, none⟩ v) base wb v cnt ∧ w.grownBy (w.setCell ⟨wb, 0, none⟩ v) (some wb) := World.ownsRow.stored h 0 v
theorem WBox.set1 {w : World} {base wb : Nat} {bv : Value} {cnt : Int} (h : WBox w base wb bv cnt) (v : Int) : WBox (w.setCell ⟨wb, 1, none⟩ (.int .i64 v)) base wb bv v ∧ w.grownBy (w.setCell ⟨wb, 1, none⟩ (.int .i64 v)) (some wb) := World.ownsRow.stored h 1 _
abbrev EW : TypeId → Prop := fun e => e = 5 ∨ e = 132
theorem WBox.kset {w w' : World} {base wb : Nat} {bv : Value} {cnt : Int} (h : WBox w base wb bv cnt) (hb : base ≤ w.heap.size) (hg : w.grownBy w' (some wb)) : Kp EW base w w' := Kp.of_grown (E := EW) h hb (.inr rfl) hg
theorem Kp.drew {E : TypeId → Prop} {base : Nat} {a w : World} (h : Kp E base a w) : Kp E base a w.drew := ⟨h.b.drew, h.k⟩

/-- An item's box. -/
def IBox (w : World) (base ib : Nat) (k n : Int) (s : ByteArray) (v : Value) : Prop := w.ownsRow base 100 4 (.slice (some ⟨ib, 0, none⟩) 1 1) 1 [.int .i64 k, .int .i64 n, .string s, v]
theorem IBox.at {w : World} {base ib : Nat} {k n : Int} {s : ByteArray} {v : Value} (h : IBox w base ib k n s v) : w.cell? ⟨ib, 0, none⟩ = some (.int .i64 k) ∧ w.cell? ⟨ib, 1, none⟩ = some (.int .i64 n) ∧ w.cell? ⟨ib, 2, none⟩ = some (.string s) ∧ w.cell? ⟨ib, 3, none⟩ = some v := by
  have e := fun j u hj => World.ownsRow.cells h (g := ib) rfl j u hj
  simp only [add_off, Nat.zero_add] at e
  exact ⟨e 0 _ rfl, e 1 _ rfl, e 2 _ rfl, e 3 _ rfl⟩
theorem IBox.new {w : World} {base : Nat} {k n : Int} {s : ByteArray} {v : Value} (hb : base ≤ w.heap.size) : IBox (w.alloc (.cells #[.int .i64 k, .int .i64 n, .string s, v] 100)) base w.heap.size k n s v := by
  have := World.ownsRow_lit (base := base) (size := 4) (e := 100) w #[.int .i64 k, .int .i64 n, .string s, v] 1 hb (by unfold maxLen; omega) (by simp)
  exact this

/-- What stands while an item is written. -/
structure Pt (base wb ib : Nat) (w W : World) (bv : Value) (B : List UInt8) (cnt : Int) (k n : Int) (s : ByteArray) (lv : Value) : Prop where
  sz : base ≤ W.heap.size
  box : WBox W base wb bv cnt
  row : W.ownsRow base 5 1 bv B.length (bvs B)
  it : IBox W base ib k n s lv
  kp : Kp EW base w W
theorem Pt.grow {base wb ib : Nat} {w W W' : World} {bv bv' : Value} {B B' : List UInt8} {cnt k n : Int} {s : ByteArray} {lv : Value} (h : Pt base wb ib w W bv B cnt k n s lv) (hk : Kp (fun e => e = 5) base W W') (hr : W'.ownsRow base 5 1 bv' B'.length (bvs B')) :
    Pt base wb ib w (W'.setCell ⟨wb, 0, none⟩ bv') bv' B' cnt k n s lv := by
  have hb := h.box.kp hk (by decide)
  have hz : base ≤ W'.heap.size := Nat.le_trans h.sz hk.b.size
  have hset := hb.set0 bv'
  have hk2 := hb.kset hz hset.2
  refine ⟨Nat.le_trans hz hk2.b.size, hset.1, ownsRow_only hr (Only.of_grown hset.2) (fun g hg e => own_apart hr hb (by decide) g hg e), hk2.own (hk.own h.it (by decide)) (by decide), (h.kp.trans (hk.mono (fun e he => .inl he) (Nat.le_refl _))).trans hk2⟩
theorem Pt.drew {base wb ib : Nat} {w W : World} {bv : Value} {B : List UInt8} {cnt k n : Int} {s : ByteArray} {lv : Value} (h : Pt base wb ib w W bv B cnt k n s lv) : Pt base wb ib w W.drew bv B cnt k n s lv := ⟨h.sz, h.box, h.row, h.it, h.kp.drew⟩
theorem Pt.cells {base wb ib : Nat} {w W : World} {bv : Value} {B : List UInt8} {cnt k n : Int} {s : ByteArray} {lv : Value} (h : Pt base wb ib w W bv B cnt k n s lv) :
    W.cell? ⟨wb, 0, none⟩ = some bv ∧ W.cell? ⟨ib, 0, none⟩ = some (.int .i64 k) ∧ W.cell? ⟨ib, 1, none⟩ = some (.int .i64 n) ∧ W.cell? ⟨ib, 2, none⟩ = some (.string s) ∧ W.cell? ⟨ib, 3, none⟩ = some lv :=
  ⟨h.box.c0, h.it.at.1, h.it.at.2.1, h.it.at.2.2.1, h.it.at.2.2.2⟩
theorem Pt.kcells {base wb ib : Nat} {w W W' : World} {bv : Value} {B : List UInt8} {cnt k n : Int} {s : ByteArray} {lv : Value} (h : Pt base wb ib w W bv B cnt k n s lv) (hk : Kp (fun e => e = 5) base W W') :
    W'.cell? ⟨wb, 0, none⟩ = some bv ∧ W'.cell? ⟨ib, 0, none⟩ = some (.int .i64 k) ∧ W'.cell? ⟨ib, 1, none⟩ = some (.int .i64 n) ∧ W'.cell? ⟨ib, 2, none⟩ = some (.string s) ∧ W'.cell? ⟨ib, 3, none⟩ = some lv := by
  have hb := h.box.kp hk (by decide)
  have hi : IBox W' base ib k n s lv := hk.own h.it (by decide)
  exact ⟨hb.c0, hi.at.1, hi.at.2.1, hi.at.2.2.1, hi.at.2.2.2⟩
theorem u64_nat {n : Nat} (h : n < 18446744073709551616) : IntKind.u64.wrap (n : Int) = (n : Int) := by
  simp [IntKind.wrap, IntKind.bits, IntKind.signed]
  omega
theorem xor_ones {a : Nat} (ha : a < 2 ^ 64) : a ^^^ (2 ^ 64 - 1) = 2 ^ 64 - (a + 1) := by
  apply Nat.eq_of_testBit_eq
  intro i
  rw [Nat.testBit_xor, Nat.testBit_two_pow_sub_one, Nat.testBit_two_pow_sub_succ ha]
  by_cases h : i < 64
  · simp [h]
  · have : a.testBit i = false := Nat.testBit_lt_two_pow (Nat.lt_of_lt_of_le ha (Nat.pow_le_pow_right (by decide) (by omega)))
    simp [h, this]
theorem zig_bits {n : Int} (h : -9223372036854775808 ≤ n ∧ n ≤ 9223372036854775807) :
    bits BinOp.xor IntKind.u64 (IntKind.u64.wrap (IntKind.u64.wrap n * 2)) (IntKind.u64.wrap (n / 9223372036854775808)) = ((zig n : Nat) : Int) := by
  have e : ∀ m : Int, IntKind.u64.wrap m = m % 18446744073709551616 := fun m => by simp [IntKind.wrap, IntKind.bits, IntKind.signed]
  rw [e, e, e]
  by_cases h0 : 0 ≤ n
  · have h1 : n % 18446744073709551616 * 2 % 18446744073709551616 = ((2 * n).toNat : Nat) := by omega
    have h2 : n / 9223372036854775808 % 18446744073709551616 = ((0 : Nat) : Int) := by omega
    rw [h1, h2, bits_xor_u64_nat _ _ (by omega) (by omega)]
    unfold zig
    rw [if_pos h0]
    simp
  · have h1 : n % 18446744073709551616 * 2 % 18446744073709551616 = (((2 * n + 18446744073709551616).toNat : Nat) : Int) := by omega
    have h2 : n / 9223372036854775808 % 18446744073709551616 = ((18446744073709551615 : Nat) : Int) := by omega
    rw [h1, h2, bits_xor_u64_nat _ _ (by omega) (by omega)]
    have h3 := xor_ones (a := (2 * n + 18446744073709551616).toNat) (by omega)
    simp only [show (2 ^ 64 - 1 : Nat) = 18446744073709551615 by decide, show (2 ^ 64 : Nat) = 18446744073709551616 by decide] at h3
    rw [h3]
    unfold zig
    rw [if_neg h0]
    omega
theorem sum_map_take {α : Type} (f : α → Nat) (l : List α) (k : Nat) : ((l.take k).map f).sum ≤ (l.map f).sum := by
  conv => rhs; rw [← List.take_append_drop k l]
  rw [List.map_append, List.sum_append]
  omega
theorem flatMap_take_len {α β : Type} (f : α → List β) (l : List α) (k : Nat) : ((l.take k).flatMap f).length ≤ (l.flatMap f).length := by
  conv => rhs; rw [← List.take_append_drop k l]
  simp only [List.flatMap_append, List.length_append]
  omega
theorem len_le_sum (d : Nat) : ∀ l : List Itc, (∀ i ∈ l, okI d i) → l.length ≤ (l.map (szI d)).sum := by
  intro l
  induction l with
  | nil => intro _; simp
  | cons i l ih =>
    intro h
    have := ih (fun x hx => h x (by simp [hx]))
    have h1 : 1 ≤ szI d i := by
      have := h i (by simp)
      cases d with
      | zero => exact this.elim
      | succ d => obtain ⟨k, n, s, l⟩ := i; unfold szI; omega
    simp only [List.map_cons, List.sum_cons, List.length_cons]
    omega
def PutSpec (P : Nat → Prop) (d : Nat) : Prop := ∀ (v : Value) (is : List Itc) (base wb : Nat) (bv : Value) (bs : List UInt8) (cnt : Nat) (w : World), ItR P d w v is → (∀ j, P j → j < base) → (∀ i ∈ is, okI d i) →
    cnt + (is.map (szI d)).sum ≤ 4096 → bs.length + (is.flatMap (encI d)).length ≤ 100000000 → base ≤ w.heap.size → WBox w base wb bv cnt → w.ownsRow base 5 1 bv bs.length (bvs bs) →
    Calls Try.prog 73 #[.pointer (some ⟨wb, 0, none⟩), v, .int .i64 (9 - (d : Int))] w fun e w' => ∃ bv', e = .returned (.int .i64 0) ∧ WBox w' base wb bv' ((cnt + (is.map (szI d)).sum : Nat)) ∧
      w'.ownsRow base 5 1 bv' (bs ++ is.flatMap (encI d)).length (bvs (bs ++ is.flatMap (encI d))) ∧ Kp EW base w w'
set_option maxHeartbeats 40000000 in
set_option maxRecDepth 100000 in
theorem put_step (P : Nat → Prop) (d : Nat) (hd8 : d ≤ 8) (ih : ∀ d', d = d' + 1 → PutSpec P d') : PutSpec P d := by
    intro v is base wb bv bs cnt w hI hP hok hcnt hlen hbase hwb hown
    obtain ⟨a, cap, rfl, hle, hcap⟩ := hI.slice
    have HI := Lib.hid hI
    have HP := Lib.hid hP
    have HOK := Lib.hid hok
    have HWB := Lib.hid hwb
    have HOWN := Lib.hid hown
    have IH := Lib.hid ih
    obtain ⟨dp, hdp⟩ : ∃ dp : Int, dp = 9 - (d : Int) := ⟨_, rfl⟩
    rw [← hdp]
    have HDP := Lib.hid hdp
    have hil : is.length ≤ 4096 := by
      have := len_le_sum d is hok
      omega
    clear hI hP hok hwb hown ih hdp
    go_enter Try.func73, Try.ntmps73
    go_wp2_with fail
    go_loopw [8, 9, 12] (fun _ _ iv wr => ∃ (k : Nat) (bv' : Value), k ≤ is.length ∧ iv = .int .i64 k ∧ WBox wr base wb bv' ((cnt + ((is.take k).map (szI d)).sum : Nat)) ∧ wr.ownsRow base 5 1 bv' (bs ++ (is.take k).flatMap (encI d)).length (bvs (bs ++ (is.take k).flatMap (encI d))) ∧ Kp EW base w wr) (fun _ _ iv _ => is.length - (intOf iv).toNat)
    case atStart => exact ⟨0, bv, by omega, rfl, by simpa using HWB.out, by simpa using HOWN.out, Kp.refl _ _ _⟩
    case round =>
      obtain ⟨k, bv', hk, rfl, hwb, hown, hkp⟩ := hrel
      have hsz := hkp.b.size
      by_cases hlt : k < is.length
      · have hd0 : d ≠ 0 := fun e => by subst e; exact (HOK.out is[k] (List.getElem_mem _)).elim
        obtain ⟨d, rfl⟩ : ∃ d', d = d' + 1 := ⟨d - 1, by omega⟩
        have hd1 : decide (8 < dp) = false := decide_eq_false (by have := HDP.out; omega)
        have hIr := HI.out.below hkp.b HP.out
        obtain ⟨xs, hxs, hrd, -, hch⟩ := hIr
        have hxl : xs.length = is.length := by rw [← hxs]; simp
        have hkx : k < xs.length := by omega
        rw [← hxl] at hrd
        obtain ⟨ab, ao, rfl, hc⟩ := rdF_at (k := 4) (f := Iv.cells) iv4 hrd k hkx
        have e0 : wr.cell? ⟨ab, ao + k * 4, none⟩ = some (.int .i64 xs[k].c.k) := hc 0 _ (by omega) rfl
        have e1 := hc 1 _ (by omega) rfl
        have e2 := hc 2 _ (by omega) rfl
        have e3 := hc 3 _ (by omega) rfl
        have hxc : xs[k].c = is[k] := by subst hxs; simp
        have hItl := hch xs[k] (List.getElem_mem _)
        have hoki := HOK.out is[k] (List.getElem_mem _)
        have htk : is.take (k + 1) = is.take k ++ [is[k]] := List.take_succ_eq_append_getElem hlt
        have hs1 : cnt + ((is.take (k + 1)).map (szI (d + 1))).sum = cnt + ((is.take k).map (szI (d + 1))).sum + szI (d + 1) is[k] := by
          rw [htk, List.map_append, List.sum_append]
          simp only [List.map_cons, List.map_nil, List.sum_cons, List.sum_nil]
          omega
        have hs2 : bs ++ (is.take (k + 1)).flatMap (encI (d + 1)) = bs ++ (is.take k).flatMap (encI (d + 1)) ++ encI (d + 1) is[k] := by
          rw [htk, List.flatMap_append, ← List.append_assoc]
          simp only [List.flatMap_cons, List.flatMap_nil, List.append_nil]
        have hs3 : cnt + ((is.take (k + 1)).map (szI (d + 1))).sum ≤ 4096 := by
          have := sum_map_take (szI (d + 1)) is (k + 1)
          omega
        have hs4 : (bs ++ (is.take (k + 1)).flatMap (encI (d + 1))).length ≤ 100000000 := by
          have := flatMap_take_len (encI (d + 1)) is (k + 1)
          rw [List.length_append]
          omega
        rw [hs1] at hs3
        rw [hs2] at hs4
        rw [← hxc] at hoki hs1 hs2 hs3 hs4
        generalize cnt + ((is.take k).map (szI (d + 1))).sum = A at *
        generalize bs ++ (is.take k).flatMap (encI (d + 1)) = B at *
        generalize xs[k] = X at *
        obtain ⟨⟨kd, n, s, l⟩, lv⟩ := X
        simp only [Itc.k, Itc.n, Itc.s, Itc.l, szI, encI, okI] at e0 e1 e2 e3 hItl hoki hs1 hs2 hs3 hs4
        obtain ⟨la, lc, rfl, -⟩ := hItl.slice
        obtain ⟨ba, bc, rfl⟩ := own_slice hown
        have HS1 := Lib.hid hs1
        have HS2 := Lib.hid hs2
        have HITL := Lib.hid hItl
        have HKP := Lib.hid hkp
        have HO0 := Lib.hid hown
        have HB0 := Lib.hid hwb
        have w1 := hwb.c1
        have f1 := hwb.frz 1
        obtain ⟨ib, hib⟩ : ∃ ib, ib = wr.heap.size := ⟨_, rfl⟩
        have hAl : A + 1 ≤ 4096 := by omega
        have hBl : B.length + 1 ≤ 100000000 := by
          rw [List.length_append, List.length_cons] at hs4
          omega
        clear hs1 hs2 hItl hkp hown hwb hc hch hrd hxs hxc htk
        go_upto_region 4 with fail
        obtain ⟨V1, hV1⟩ : ∃ V1, V1 = wr.alloc (.cells #[.int .i64 kd, .int .i64 n, .string s, .slice la l.length lc] 100) := ⟨_, rfl⟩
        have hk1 : Kp EW base wr V1 := by rw [hV1]; exact Kp.of_below (below_alloc wr _) (by omega)
        have hi1 : IBox V1 base ib kd n s (.slice la l.length lc) := by rw [hV1, hib]; exact IBox.new (by omega)
        have hwb1 : WBox V1 base wb (.slice ba B.length bc) A := by rw [hV1]; exact World.ownsRow.alloc HB0.out _
        have ho1 : V1.ownsRow base 5 1 (.slice ba B.length bc) B.length (bvs B) := by rw [hV1]; exact World.ownsRow.alloc HO0.out _
        have h1s : base ≤ V1.heap.size := by have := hk1.b.size; omega
        rw [← hV1, ← hib]
        clear hib
        have w1 := hwb1.c1
        have f1 := hwb1.frz 1
        have hset := hwb1.set1 ((A : Int) + 1)
        have hk2 := hwb1.kset h1s hset.2
        have HK2 := Lib.hid ((HKP.out.trans hk1).trans hk2)
        have hi2 : IBox (V1.setCell ⟨wb, 1, none⟩ (.int .i64 ((A : Int) + 1))) base ib kd n s (.slice la l.length lc) := hk2.own hi1 (by decide)
        have ho2 : (V1.setCell ⟨wb, 1, none⟩ (.int .i64 ((A : Int) + 1))).ownsRow base 5 1 (.slice ba B.length bc) B.length (bvs B) := ownsRow_only ho1 (Only.of_grown hset.2) (fun g hg e => own_apart ho1 hwb1 (by decide) g hg e)
        have HT := Lib.hid (show Pt base wb ib wr (V1.setCell ⟨wb, 1, none⟩ (.int .i64 ((A : Int) + 1))) (.slice ba B.length bc) B ((A : Int) + 1) kd n s (.slice la l.length lc) from ⟨Nat.le_trans h1s hk2.b.size, hset.1, ho2, hi2, hk1.trans hk2⟩)
        clear hV1 hk1 hi1 hwb1 ho1 hset hk2 HO0 HB0 hi2 ho2
        go_upto_region 5 with fail
        generalize V1.setCell ⟨wb, 1, none⟩ (.int .i64 ((A : Int) + 1)) = V2 at *
        obtain ⟨w0, i0, i1, i2, i3⟩ := HT.out.cells
        have w1 := HT.out.box.c1
        clear f1 e0 e1 e2 e3
        rcases hoki with ⟨rfl, hn, rfl, rfl⟩ | ⟨rfl, rfl, hs, rfl⟩ | ⟨rfl, rfl, rfl, hl⟩
        · go_upto_region 12 with fail
          refine region_m [(0, false), (1, false), (2, false), (3, false), (4, false), (5, false), (6, false), (7, false), (8, true), (9, true)] 10 (fun V => V.cell? ⟨wb, 0, none⟩ = some (.slice ba B.length bc) ∧ V.cell? ⟨ib, 0, none⟩ = some (.int .i64 0)) (by kernel_rfl) (by kernel_rfl) ⟨w0, i0⟩ ?_
          iterate 8
            first
            | (refine m_take (v := ?_) rfl rfl ?_ ?_
               rotate_left
               · intro W hW
                 go_simp
                 with_reducible rfl
               simp only [Act.put, List.setIfInBounds_toArray, List.set_cons_zero, List.set_cons_succ])
            | (refine m_skip rfl rfl ?_
               simp only [Act.put, List.setIfInBounds_toArray, List.set_cons_zero, List.set_cons_succ])
          refine m_loud rfl (fun K hK => ?_)
          have HK := Lib.hid hK
          clear hK
          go_simp
          have hka : Kp (fun e => e = 5) base V2 (V2.drew.alloc (.cells #[.int .u8 0] 5)) := (Kp.refl _ _ _).drew.trans (Kp.of_below (below_alloc V2.drew _) HT.out.sz)
          refine HK.out _ _ ⟨(HT.out.kcells hka).1, (HT.out.kcells hka).2.1⟩ ?_
          clear HK
          have HO3 := Lib.hid (show (V2.drew.alloc (.cells #[.int .u8 0] 5)).ownsRow base 5 1 (.slice ba B.length bc) B.length (bvs B) from World.ownsRow.alloc (show V2.drew.ownsRow base 5 1 (.slice ba B.length bc) B.length (bvs B) from HT.out.row) _)
          refine m_app tyU8 HO3.out (Rd.lit (n := 1) rfl (by omega)) (by simp [Value.oneCell']) (by omega) (by omega) (by omega) (Nat.le_trans HT.out.sz hka.b.size) rfl rfl rfl rfl rfl ?_
          intro g gcap V4 h2 _ h4 _
          have hkb : Kp (fun e => e = 5) base V2 V4 := hka.trans (Kp.of_grown (E := fun e => e = 5) HO3.out (Nat.le_trans HT.out.sz hka.b.size) rfl h4)
          have hr4 := own_snoc (k := 0) (by omega) (by rw [show IntKind.u8.wrap 0 = ((0 : Nat) : Int) by decide] at h2; exact h2)
          have HT5 := Lib.hid (HT.out.grow hkb (B' := B ++ [UInt8.ofNat 0]) hr4)
          have y0 := (HT.out.kcells hkb)
          have yf := (HT.out.box.kp hkb (by decide)).frz 0
          refine ⟨⟨y0.1, y0.2.1⟩, ?_⟩
          have y0 := y0.1
          clear h2 h4 hka hkb hr4 HO3
          refine m_done ?_
          simp only [List.drop_succ_cons, List.drop_zero]
          go_upto_region 13 with fail
          simp only [NP]
          clear y0 yf w0 w1 i0 i1 i2 i3
          generalize V4.setCell ⟨wb, 0, none⟩ (.slice (some ⟨g, 0, none⟩) (B.length + 1) gcap) = V5 at *
          have hBB : (B ++ [UInt8.ofNat 0]).length = B.length + 1 := by simp
          rw [← hBB] at HT5 ⊢
          have hbl5 : (B ++ [UInt8.ofNat 0]).length ≤ 100000000 := by rw [hBB]; omega
          clear hBB
          generalize hB5 : B ++ [UInt8.ofNat 0] = B5 at *
          have HB5 := Lib.hid hB5
          clear hB5
          obtain ⟨w0, i0, i1, i2, i3⟩ := HT5.out.cells
          go_upto_region 19 with fail
          have HZ := Lib.hid (zig_bits hn)
          have hzl := zig_lt hn
          refine region_m [(0, false), (1, false), (2, false), (3, false), (4, false), (5, false), (6, false), (7, false), (8, false), (9, false), (10, false), (11, false), (12, false), (13, false), (14, true)] 15 (fun V => V.cell? ⟨wb, 0, none⟩ = some (.slice (some ⟨g, 0, none⟩) B5.length gcap) ∧ V.cell? ⟨ib, 1, none⟩ = some (.int .i64 n)) (by kernel_rfl) (by kernel_rfl) ⟨w0, i1⟩ ?_
          iterate 14
            first
            | (refine m_take (v := ?_) rfl rfl ?_ ?_
               rotate_left
               · intro W hW
                 go_simp
                 with_reducible rfl
               simp only [Act.put, List.setIfInBounds_toArray, List.set_cons_zero, List.set_cons_succ])
            | (refine m_skip rfl rfl ?_
               simp only [Act.put, List.setIfInBounds_toArray, List.set_cons_zero, List.set_cons_succ])
          refine m_loud rfl (fun K hK => ?_)
          have HK := Lib.hid hK
          clear hK
          go_simp
          rw [HZ.out]
          refine (wnumber_calls _ B5 (zig n) base V5.drew HT5.out.drew.row (by omega) (by omega) HT5.out.sz).mono ?_
          rintro e w6 ⟨v6, rfl, ho6, hk6⟩
          generalize hB6 : B5 ++ num (zig n) = B6 at *
          have HB6 := Lib.hid hB6
          clear hB6
          obtain ⟨g6, c6, rfl⟩ := own_slice ho6
          have y0 := HT5.out.drew.kcells hk6
          have yf := (HT5.out.drew.box.kp hk6 (by decide)).frz 0
          have HT7 := Lib.hid (HT5.out.drew.grow hk6 ho6)
          refine HK.out _ _ ⟨y0.1, y0.2.2.1⟩ ?_
          clear HK
          have y0 := y0.1
          clear ho6 hk6
          refine m_done ?_
          simp only [List.drop_succ_cons, List.drop_zero]
          go_wp2_with fail
          simp only [NP]
          go_wp2_with fail
          go_roundw
          case rel =>
            have e : bs ++ (is.take (k + 1)).flatMap (encI (d + 1)) = B6 := by rw [HS2.out, ← HB6.out, ← HB5.out]; simp
            exact ⟨k + 1, _, by omega, by go_num, by rw [HS1.out]; simpa using HT7.out.box, by rw [e]; exact HT7.out.row, HKP.out.trans HT7.out.kp⟩
          case measure => simp [intOf]; omega
        · go_upto_region 12 with fail
          refine region_m [(0, false), (1, false), (2, false), (3, false), (4, false), (5, false), (6, false), (7, false), (8, true), (9, true)] 10 (fun V => V.cell? ⟨wb, 0, none⟩ = some (.slice ba B.length bc) ∧ V.cell? ⟨ib, 0, none⟩ = some (.int .i64 1)) (by kernel_rfl) (by kernel_rfl) ⟨w0, i0⟩ ?_
          iterate 8
            first
            | (refine m_take (v := ?_) rfl rfl ?_ ?_
               rotate_left
               · intro W hW
                 go_simp
                 with_reducible rfl
               simp only [Act.put, List.setIfInBounds_toArray, List.set_cons_zero, List.set_cons_succ])
            | (refine m_skip rfl rfl ?_
               simp only [Act.put, List.setIfInBounds_toArray, List.set_cons_zero, List.set_cons_succ])
          refine m_loud rfl (fun K hK => ?_)
          have HK := Lib.hid hK
          clear hK
          go_simp
          have hka : Kp (fun e => e = 5) base V2 (V2.drew.alloc (.cells #[.int .u8 1] 5)) := (Kp.refl _ _ _).drew.trans (Kp.of_below (below_alloc V2.drew _) HT.out.sz)
          refine HK.out _ _ ⟨(HT.out.kcells hka).1, (HT.out.kcells hka).2.1⟩ ?_
          clear HK
          have HO3 := Lib.hid (show (V2.drew.alloc (.cells #[.int .u8 1] 5)).ownsRow base 5 1 (.slice ba B.length bc) B.length (bvs B) from World.ownsRow.alloc (show V2.drew.ownsRow base 5 1 (.slice ba B.length bc) B.length (bvs B) from HT.out.row) _)
          refine m_app tyU8 HO3.out (Rd.lit (n := 1) rfl (by omega)) (by simp [Value.oneCell']) (by omega) (by omega) (by omega) (Nat.le_trans HT.out.sz hka.b.size) rfl rfl rfl rfl rfl ?_
          intro g gcap V4 h2 _ h4 _
          have hkb : Kp (fun e => e = 5) base V2 V4 := hka.trans (Kp.of_grown (E := fun e => e = 5) HO3.out (Nat.le_trans HT.out.sz hka.b.size) rfl h4)
          have hr4 := own_snoc (k := 1) (by omega) (by rw [show IntKind.u8.wrap 1 = ((1 : Nat) : Int) by decide] at h2; exact h2)
          have HT5 := Lib.hid (HT.out.grow hkb (B' := B ++ [UInt8.ofNat 1]) hr4)
          have y0 := (HT.out.kcells hkb)
          have yf := (HT.out.box.kp hkb (by decide)).frz 0
          refine ⟨⟨y0.1, y0.2.1⟩, ?_⟩
          have y0 := y0.1
          clear h2 h4 hka hkb hr4 HO3
          refine m_done ?_
          simp only [List.drop_succ_cons, List.drop_zero]
          go_upto_region 13 with fail
          simp only [NP]
          clear y0 yf w0 w1 i0 i1 i2 i3
          generalize V4.setCell ⟨wb, 0, none⟩ (.slice (some ⟨g, 0, none⟩) (B.length + 1) gcap) = V5 at *
          have hBB : (B ++ [UInt8.ofNat 1]).length = B.length + 1 := by simp
          rw [← hBB] at HT5 ⊢
          have hbl5 : (B ++ [UInt8.ofNat 1]).length ≤ 100000000 := by rw [hBB]; omega
          clear hBB
          generalize hB5 : B ++ [UInt8.ofNat 1] = B5 at *
          have HB5 := Lib.hid hB5
          clear hB5
          obtain ⟨w0, i0, i1, i2, i3⟩ := HT5.out.cells
          go_upto_region 21 with fail
          have hzl : s.size < 18446744073709551616 := by omega
          have HZ := Lib.hid (u64_nat hzl)
          refine region_m [(0, false), (1, false), (2, false), (3, false), (4, false), (5, false), (6, false), (7, false), (8, false), (9, true)] 10 (fun V => V.cell? ⟨wb, 0, none⟩ = some (.slice (some ⟨g, 0, none⟩) B5.length gcap) ∧ V.cell? ⟨ib, 2, none⟩ = some (.string s)) (by kernel_rfl) (by kernel_rfl) ⟨w0, i2⟩ ?_
          iterate 9
            first
            | (refine m_take (v := ?_) rfl rfl ?_ ?_
               rotate_left
               · intro W hW
                 go_simp
                 with_reducible rfl
               simp only [Act.put, List.setIfInBounds_toArray, List.set_cons_zero, List.set_cons_succ])
            | (refine m_skip rfl rfl ?_
               simp only [Act.put, List.setIfInBounds_toArray, List.set_cons_zero, List.set_cons_succ])
          refine m_loud rfl (fun K hK => ?_)
          have HK := Lib.hid hK
          clear hK
          go_simp
          rw [HZ.out]
          refine (wnumber_calls _ B5 (s.size) base V5.drew HT5.out.drew.row (by omega) (by omega) HT5.out.sz).mono ?_
          rintro e w6 ⟨v6, rfl, ho6, hk6⟩
          generalize hB6 : B5 ++ num (s.size) = B6 at *
          have HB6 := Lib.hid hB6
          clear hB6
          obtain ⟨g6, c6, rfl⟩ := own_slice ho6
          have y0 := HT5.out.drew.kcells hk6
          have yf := (HT5.out.drew.box.kp hk6 (by decide)).frz 0
          have HT7 := Lib.hid (HT5.out.drew.grow hk6 ho6)
          refine HK.out _ _ ⟨y0.1, y0.2.2.2.1⟩ ?_
          clear HK
          have y0 := y0.1
          clear ho6 hk6
          refine m_done ?_
          simp only [List.drop_succ_cons, List.drop_zero]
          go_wp2_with fail
          simp only [NP]
          clear y0 yf w0 w1 i0 i1 i2 i3
          generalize w6.setCell ⟨wb, 0, none⟩ (.slice g6 B6.length c6) = V7 at *
          obtain ⟨w0, i0, i1, i2, i3⟩ := HT7.out.cells
          have hsd : decide ((s.size : Int) ≤ 65536) = true := decide_eq_true (by omega)
          have hb6 : B6.length + s.size ≤ 100000000 := by
            have h := hs4
            rw [← HB6.out, ← HB5.out]
            have e : s.data.toList.length = s.size := by rw [Array.length_toList]; rfl
            simp [e] at h ⊢
            omega
          go_upto_region 23 with fail
          refine region_m [(0, false), (1, false), (2, false), (3, false), (4, false), (5, false), (6, false), (7, true)] 8 (fun V => V.cell? ⟨wb, 0, none⟩ = some (.slice g6 B6.length c6) ∧ V.cell? ⟨ib, 2, none⟩ = some (.string s)) (by kernel_rfl) (by kernel_rfl) ⟨w0, i2⟩ ?_
          iterate 7
            first
            | (refine m_take (v := ?_) rfl rfl ?_ ?_
               rotate_left
               · intro W hW
                 go_simp
                 with_reducible rfl
               simp only [Act.put, List.setIfInBounds_toArray, List.set_cons_zero, List.set_cons_succ])
            | (refine m_skip rfl rfl ?_
               simp only [Act.put, List.setIfInBounds_toArray, List.set_cons_zero, List.set_cons_succ])
          have hown7 := HT7.out.drew.row
          refine m_appstr tyU8 Try.underlying9 hown7 (by omega) HT7.out.sz rfl rfl rfl rfl rfl ?_
          intro v8 w8 h2 h4
          rw [strCells_bvs, ← bvs_append] at h2
          have hk8 : Kp (fun e => e = 5) base V7 w8 := (Kp.refl _ _ _).drew.trans (Kp.of_grown (E := fun e => e = 5) hown7 HT7.out.sz rfl h4)
          have hr8 : w8.ownsRow base 5 1 v8 (B6 ++ s.data.toList).length (bvs (B6 ++ s.data.toList)) := by
            have e : s.data.toList.length = s.size := by rw [Array.length_toList]; rfl
            rw [List.length_append, e]
            exact h2
          generalize hB8 : B6 ++ s.data.toList = B8 at *
          have HB8 := Lib.hid hB8
          obtain ⟨g8, c8, rfl⟩ := own_slice hr8
          have y0 := HT7.out.kcells hk8
          have yf := (HT7.out.box.kp hk8 (by decide)).frz 0
          have HT9 := Lib.hid (HT7.out.grow hk8 hr8)
          refine ⟨⟨y0.1, y0.2.2.2.1⟩, ?_⟩
          have y0 := y0.1
          clear h2 h4 hk8 hr8 hown7 hB8
          refine m_done ?_
          simp only [List.drop_succ_cons, List.drop_zero]
          go_wp2_with fail
          simp only [NP]
          go_wp2_with fail
          go_roundw
          case rel =>
            have e : bs ++ (is.take (k + 1)).flatMap (encI (d + 1)) = B8 := by rw [HS2.out, ← HB8.out, ← HB6.out, ← HB5.out]; simp
            exact ⟨k + 1, _, by omega, by go_num, by rw [HS1.out]; simpa using HT9.out.box, by rw [e]; exact HT9.out.row, HKP.out.trans HT9.out.kp⟩
          case measure => simp [intOf]; omega
        · go_upto_region 12 with fail
          refine region_m [(0, false), (1, false), (2, false), (3, false), (4, false), (5, false), (6, false), (7, false), (8, true), (9, true)] 10 (fun V => V.cell? ⟨wb, 0, none⟩ = some (.slice ba B.length bc) ∧ V.cell? ⟨ib, 0, none⟩ = some (.int .i64 2)) (by kernel_rfl) (by kernel_rfl) ⟨w0, i0⟩ ?_
          iterate 8
            first
            | (refine m_take (v := ?_) rfl rfl ?_ ?_
               rotate_left
               · intro W hW
                 go_simp
                 with_reducible rfl
               simp only [Act.put, List.setIfInBounds_toArray, List.set_cons_zero, List.set_cons_succ])
            | (refine m_skip rfl rfl ?_
               simp only [Act.put, List.setIfInBounds_toArray, List.set_cons_zero, List.set_cons_succ])
          refine m_loud rfl (fun K hK => ?_)
          have HK := Lib.hid hK
          clear hK
          go_simp
          have hka : Kp (fun e => e = 5) base V2 (V2.drew.alloc (.cells #[.int .u8 2] 5)) := (Kp.refl _ _ _).drew.trans (Kp.of_below (below_alloc V2.drew _) HT.out.sz)
          refine HK.out _ _ ⟨(HT.out.kcells hka).1, (HT.out.kcells hka).2.1⟩ ?_
          clear HK
          have HO3 := Lib.hid (show (V2.drew.alloc (.cells #[.int .u8 2] 5)).ownsRow base 5 1 (.slice ba B.length bc) B.length (bvs B) from World.ownsRow.alloc (show V2.drew.ownsRow base 5 1 (.slice ba B.length bc) B.length (bvs B) from HT.out.row) _)
          refine m_app tyU8 HO3.out (Rd.lit (n := 1) rfl (by omega)) (by simp [Value.oneCell']) (by omega) (by omega) (by omega) (Nat.le_trans HT.out.sz hka.b.size) rfl rfl rfl rfl rfl ?_
          intro g gcap V4 h2 _ h4 _
          have hkb : Kp (fun e => e = 5) base V2 V4 := hka.trans (Kp.of_grown (E := fun e => e = 5) HO3.out (Nat.le_trans HT.out.sz hka.b.size) rfl h4)
          have hr4 := own_snoc (k := 2) (by omega) (by rw [show IntKind.u8.wrap 2 = ((2 : Nat) : Int) by decide] at h2; exact h2)
          have HT5 := Lib.hid (HT.out.grow hkb (B' := B ++ [UInt8.ofNat 2]) hr4)
          have y0 := (HT.out.kcells hkb)
          have yf := (HT.out.box.kp hkb (by decide)).frz 0
          refine ⟨⟨y0.1, y0.2.1⟩, ?_⟩
          have y0 := y0.1
          clear h2 h4 hka hkb hr4 HO3
          refine m_done ?_
          simp only [List.drop_succ_cons, List.drop_zero]
          go_upto_region 13 with fail
          simp only [NP]
          clear y0 yf w0 w1 i0 i1 i2 i3
          generalize V4.setCell ⟨wb, 0, none⟩ (.slice (some ⟨g, 0, none⟩) (B.length + 1) gcap) = V5 at *
          have hBB : (B ++ [UInt8.ofNat 2]).length = B.length + 1 := by simp
          rw [← hBB] at HT5 ⊢
          have hbl5 : (B ++ [UInt8.ofNat 2]).length ≤ 100000000 := by rw [hBB]; omega
          clear hBB
          generalize hB5 : B ++ [UInt8.ofNat 2] = B5 at *
          have HB5 := Lib.hid hB5
          clear hB5
          obtain ⟨w0, i0, i1, i2, i3⟩ := HT5.out.cells
          go_upto_region 14 with fail
          have hll := len_le_sum d l hl
          have hzl : l.length < 18446744073709551616 := by omega
          have HZ := Lib.hid (u64_nat hzl)
          refine region_m [(0, false), (1, false), (2, false), (3, false), (4, false), (5, false), (6, false), (7, false), (8, false), (9, true)] 10 (fun V => V.cell? ⟨wb, 0, none⟩ = some (.slice (some ⟨g, 0, none⟩) B5.length gcap) ∧ V.cell? ⟨ib, 3, none⟩ = some (.slice la l.length lc)) (by kernel_rfl) (by kernel_rfl) ⟨w0, i3⟩ ?_
          iterate 9
            first
            | (refine m_take (v := ?_) rfl rfl ?_ ?_
               rotate_left
               · intro W hW
                 go_simp
                 with_reducible rfl
               simp only [Act.put, List.setIfInBounds_toArray, List.set_cons_zero, List.set_cons_succ])
            | (refine m_skip rfl rfl ?_
               simp only [Act.put, List.setIfInBounds_toArray, List.set_cons_zero, List.set_cons_succ])
          refine m_loud rfl (fun K hK => ?_)
          have HK := Lib.hid hK
          clear hK
          go_simp
          rw [HZ.out]
          refine (wnumber_calls _ B5 (l.length) base V5.drew HT5.out.drew.row (by omega) (by omega) HT5.out.sz).mono ?_
          rintro e w6 ⟨v6, rfl, ho6, hk6⟩
          generalize hB6 : B5 ++ num (l.length) = B6 at *
          have HB6 := Lib.hid hB6
          clear hB6
          obtain ⟨g6, c6, rfl⟩ := own_slice ho6
          have y0 := HT5.out.drew.kcells hk6
          have yf := (HT5.out.drew.box.kp hk6 (by decide)).frz 0
          have HT7 := Lib.hid (HT5.out.drew.grow hk6 ho6)
          refine HK.out _ _ ⟨y0.1, y0.2.2.2.2⟩ ?_
          clear HK
          have y0 := y0.1
          clear ho6 hk6
          refine m_done ?_
          simp only [List.drop_succ_cons, List.drop_zero]
          have HD1 := Lib.hid (show dp + 1 = 9 - (d : Int) by have := HDP.out; omega)
          have hdw : IntKind.i64.wrap (dp + 1) = dp + 1 := by rw [HD1.out, IntKind.wrap_i64]; omega
          go_wp2_with fail
          simp only [NP]
          clear y0 yf w0 w1 i0 i1 i2 i3
          generalize w6.setCell ⟨wb, 0, none⟩ (.slice g6 B6.length c6) = V7 at *
          obtain ⟨w0, i0, i1, i2, i3⟩ := HT7.out.cells
          have hb6 : B6.length + (l.flatMap (encI d)).length ≤ 100000000 := by
            have h := hs4
            rw [← HB6.out, ← HB5.out]
            simp at h ⊢
            omega
          go_wp2_with fail
          rw [HD1.out]
          refine (IH.out d rfl _ l base wb _ B6 (A + 1) V7 (HITL.out.below HT7.out.kp.b HP.out) HP.out hl (by omega) hb6 HT7.out.sz (by simpa using HT7.out.box) HT7.out.row).mono ?_
          rintro e w8 ⟨v8, rfl, hb8, ho8, hk8⟩
          have HB8 := Lib.hid hb8
          have HO8 := Lib.hid ho8
          have HK8 := Lib.hid hk8
          clear hb8 ho8 hk8
          go_wp2_with fail
          go_roundw
          case rel =>
            have e : bs ++ (is.take (k + 1)).flatMap (encI (d + 1)) = B6 ++ l.flatMap (encI d) := by rw [HS2.out, ← HB6.out, ← HB5.out]; simp
            exact ⟨k + 1, _, by omega, by go_num, by rw [HS1.out]; have := HB8.out; rwa [Nat.add_assoc] at this, by rw [e]; exact HO8.out, HKP.out.trans (HT7.out.kp.trans HK8.out)⟩
          case measure => simp [intOf]; omega
      · obtain rfl : k = is.length := by omega
        rw [List.take_length] at hwb hown
        have HB1 := Lib.hid hwb
        have HO1 := Lib.hid hown
        have HK1 := Lib.hid hkp
        clear hlt hwb hown hkp
        go_wp2_with fail
        go_ret
        exact ⟨bv', rfl, HB1.out, HO1.out, HK1.out⟩
theorem put_calls (P : Nat → Prop) : ∀ d, d ≤ 8 → PutSpec P d
  | 0, h => put_step P 0 h (fun d' e => by omega)
  | d + 1, h => put_step P (d + 1) h (fun d' e => by cases e; exact put_calls P d (by omega))
end Go.Proofs.Ytkabfjbmofpkdaa

/- Layer 3: Encode, Int, Text, List, walked. -/
namespace Go.Proofs.Ytkabfjbmofpkdaa
open Go.RowKit Go.Shelf
set_option linter.unusedVariables false
set_option linter.unusedSimpArgs false

/-- Items that are read in a world. -/
def Its (w : World) (d : Nat) (v : Value) (is : List Itc) : Prop := ItR (fun j => j < w.heap.size) d w v is
theorem Its.below {w w' : World} {d : Nat} {v : Value} {is : List Itc} (h : Its w d v is) (hb : Below w.heap.size w w') : Its w' d v is :=
  (ItR.below hb (fun j hj => hj) h).mono (fun j hj => Nat.lt_of_lt_of_le hj hb.size)
theorem Its.nil (w : World) (d : Nat) : Its w d (.slice none 0 0) [] := ItR.nil _ _ _
theorem Its.deep {w : World} {d d' : Nat} {v : Value} {is : List Itc} (h : Its w d v is) (hd : d ≤ d') : Its w d' v is := ItR.deep h hd
theorem Its.slice {w : World} {d : Nat} {v : Value} {is : List Itc} (h : Its w d v is) : ∃ a c, v = .slice a is.length c ∧ is.length ≤ c ∧ c ≤ 9223372036854775807 := ItR.slice h
theorem flat_iv_one {P : Nat → Prop} {d : Nat} {w : World} {xs : List Iv} (h : ∀ x ∈ xs, ItR P d w x.v x.c.l) : ∀ u ∈ flatF Iv.cells xs, u.oneCell' = true := by
  intro u hu
  obtain ⟨x, hx, hu⟩ := List.mem_flatMap.1 hu
  simp only [Iv.cells, List.mem_cons, List.not_mem_nil, or_false] at hu
  rcases hu with rfl | rfl | rfl | rfl
  · rfl
  · rfl
  · rfl
  · exact (h x hx).one

abbrev ivInt (n : Int) : Value := .agg #[.int .i64 0, .int .i64 n, .string nos, .slice none 0 0]
abbrev ivText (s : ByteArray) : Value := .agg #[.int .i64 1, .int .i64 0, .string s, .slice none 0 0]
abbrev ivList (v : Value) : Value := .agg #[.int .i64 2, .int .i64 0, .string nos, v]
theorem res_cell {P : Program} {fn : Func} {tmps : Array Value} {w : World} {a t b o : Nat} {v : Value} (hr : fn.results = #[.cell a t]) (ha : tmps.getD a undef = .pointer (some ⟨b, o, none⟩)) (hl : (loadVar t ⟨b, o, none⟩).run P w = .ok v w) : (results fn tmps).run P w = .ok v w := by
  have ha' : tmps[a]?.getD undef = .pointer (some ⟨b, o, none⟩) := by rw [← ha]; simp
  simp [results, hr, ha', hl, asAddr]
theorem res_cell2 {P : Program} {fn : Func} {tmps : Array Value} {w : World} {a t b o x : Nat} {v : Value} (hr : fn.results = #[.cell a t, .tmp x]) (ha : tmps.getD a undef = .pointer (some ⟨b, o, none⟩)) (hl : (loadVar t ⟨b, o, none⟩).run P w = .ok v w) : (results fn tmps).run P w = .ok (.tuple #[v, tmps.getD x undef]) w := by
  have ha' : tmps[a]?.getD undef = .pointer (some ⟨b, o, none⟩) := by rw [← ha]; simp
  simp [results, hr, ha', hl, asAddr]
theorem run_item {w : World} {b o : Nat} {x : Iv} (h : w.rangeAt b o (Iv.cells x)) : (loadVar 100 ⟨b, o, none⟩).run Try.prog w = .ok (.agg (Iv.cells x).toArray) w :=
  run_loadVar_mid (P := Try.prog) w b o 100 (Iv.cells x) _ h Try.underlying100 rfl (by show _ = some 4; kernel_rfl)
theorem range_box {w : World} {cs : List Value} {e : TypeId} : (w.alloc (.cells cs.toArray e)).rangeAt w.heap.size 0 cs := fun j u hj => by
  rw [Nat.zero_add]; exact box_self j u (by simpa using hj)

theorem there_box {w w' : World} {cs : Array Value} {e : TypeId} (hb : Below (w.alloc (.cells cs e)).heap.size (w.alloc (.cells cs e)) w') : w'.there w.heap.size 0 cs.size := fun j hj => by
  rw [Nat.zero_add]
  exact ⟨by rw [box_cell hb j _ (Array.getElem?_eq_getElem hj)]; rfl, box_frozen hb j⟩
theorem iv_all (x : Iv) (h : x.v.oneCell' = true) : (Iv.cells x).toArray.all (·.oneCell') = true := by
  refine all_oneCell_toArray (fun u hu => ?_)
  simp only [Iv.cells, List.mem_cons, List.not_mem_nil, or_false] at hu
  rcases hu with rfl | rfl | rfl | rfl
  · rfl
  · rfl
  · rfl
  · exact h
theorem onlyC (w : World) (b : Nat) : ∀ (vs : List Value) (o : Nat), Only (fun j => j = b) w (w.setCells b o vs)
  | [], _ => Only.refl _ _
  | v :: r, o => ((Only.refl (fun j => j = b) w).setCell ⟨b, o, none⟩ v (.inl rfl)).trans (onlyC (w.setCell ⟨b, o, none⟩ v) b r (o + 1)) (fun _ _ h => h)
theorem wint_calls (n : Int) (w : World) : Calls Try.prog 47 #[.int .i64 n] w fun e w' => e = .returned (ivInt n) ∧ Below w.heap.size w w' := by
  go_enter Try.func47, Try.ntmps47
  go_wp2_with fail
  refine bodyPost_ret (v := ivInt n) (res_cell Try.results47 rfl (run_item (x := ⟨.mk 0 n nos [], .slice none 0 0⟩) ?_)) rfl ⟨rfl, ?_⟩
  · exact range_box (cs := Iv.cells ⟨.mk 0 n nos [], .slice none 0 0⟩)
  · exact below_alloc _ _
theorem wtext_calls (s : ByteArray) (w : World) : Calls Try.prog 49 #[.string s] w fun e w' => e = .returned (ivText s) ∧ Below w.heap.size w w' := by
  go_enter Try.func49, Try.ntmps49
  go_wp2_with fail
  refine bodyPost_ret (v := ivText s) (res_cell Try.results49 rfl (run_item (x := ⟨.mk 1 0 s [], .slice none 0 0⟩) ?_)) rfl ⟨rfl, ?_⟩
  · exact range_box (cs := Iv.cells ⟨.mk 1 0 s [], .slice none 0 0⟩)
  · exact below_alloc _ _
set_option maxRecDepth 100000 in
/-- A row that is laid anew in the place of another one. -/
theorem wlist_calls (d : Nat) (v : Value) (is : List Itc) (w : World) (h : Its w d v is) (hlen : is.length ≤ 1000000000) :
    Calls Try.prog 51 #[v] w fun e w' => ∃ lv, e = .returned (ivList lv) ∧ Its w' d lv is ∧ Below w.heap.size w w' := by
  obtain ⟨a, cap, rfl, hle, hcap⟩ := h.slice
  have H := Lib.hid h
  have hx : ∃ xs : List Iv, xs.map Iv.c = is ∧ Rd w 4 (.slice a is.length cap) xs.length (flatF Iv.cells xs) ∧ ∀ x ∈ xs, ItR (fun j => j < w.heap.size) (d - 1) w x.v x.c.l := by
    cases d with
    | zero => obtain ⟨h1, h2⟩ := h; subst h1; exact ⟨[], rfl, h2, fun x hx => by cases hx⟩
    | succ d => obtain ⟨xs, h1, h2, -, h4⟩ := h; exact ⟨xs, h1, h2, h4⟩
  obtain ⟨xs, hxs, hrd, hch⟩ := hx
  have hxl : xs.length = is.length := by rw [← hxs]; simp
  have HRD := Lib.hid hrd
  have HXS := Lib.hid hxs
  have HCH := Lib.hid hch
  have H1 := Lib.hid (flat_iv_one hch)
  have hx9 : xs.length ≤ 1000000000 := by omega
  have HXL := Lib.hid hxl
  rw [← hxl] at HRD ⊢
  clear h hrd hxs hch hxl
  go_enter Try.func51, Try.ntmps51
  have HBA := Lib.hid (below_alloc w (.cells #[.int .i64 0, .int .i64 0, .string nos, .slice none 0 0] 100))
  go_wp2_with (first | (at_builtin; go_loud (refine app_list tyItems (World.ownsRow_nil _ (w.heap.size + 1) _ _) (Rd.below HRD.out HBA.out (Nat.le_refl _)) H1.out (by omega) (by omega) (by simp) rfl rfl rfl rfl ?_; intro v2 w2 hm2 hg2 hn2; rw [Nat.zero_add] at hm2; obtain ⟨ga, gc, rfl⟩ := own_slice hm2; have HBB := Lib.hid ((Below.refl (w.alloc (.cells #[.int .i64 0, .int .i64 0, .string nos, .slice none 0 0] 100)).heap.size _).grown hg2 (Nat.le_refl _) (by simp [Value.ownBlock])); have HTH := Lib.hid (show w2.there w.heap.size 0 4 from there_box HBB.out); have HM2 := Lib.hid hm2; clear hm2 hg2 hn2)) | (refine wpList_store_mid rfl 100 _ _ rfl (w.heap.size) 0 (Iv.cells ⟨.mk 2 0 nos [], .slice ga xs.length gc⟩).toArray rfl rfl HTH.out (by show _ = some 4; kernel_rfl) (iv_all _ rfl) ?_) | (refine wp_store_mid 100 _ _ rfl (w.heap.size) 0 (Iv.cells ⟨.mk 2 0 nos [], .slice ga xs.length gc⟩).toArray rfl rfl HTH.out (by show _ = some 4; kernel_rfl) (iv_all _ rfl) ?_))
  have hwz := HBB.out.size
  rw [World.size_alloc] at hwz
  have hon := onlyC w2 w.heap.size (Iv.cells ⟨.mk 2 0 nos [], .slice ga xs.length gc⟩) 0
  have hb1 : Below w.heap.size w w2 := HBA.out.trans (HBB.out.mono (by rw [World.size_alloc]; omega))
  have hb2 : Below w.heap.size w (w2.setCells w.heap.size 0 (Iv.cells ⟨.mk 2 0 nos [], .slice ga xs.length gc⟩)) := hb1.trans (hon.below (by omega) (fun j hj e => by omega))
  refine bodyPost_ret (v := ivList (.slice ga xs.length gc)) (res_cell Try.results51 rfl (run_item (x := ⟨.mk 2 0 nos [], .slice ga xs.length gc⟩) ?_)) rfl ⟨_, rfl, ?_, hb2⟩
  · exact World.rangeAt_setCells_same w2 w.heap.size 0 _ HTH.out
  · have hr := ownsRow_only HM2.out hon (fun g hg e => by have := (World.ownsRow.lt HM2.out g hg).1; omega)
    rw [List.nil_append] at hr
    cases d with
    | zero =>
      have h0 : is = [] := H.out.1
      subst h0
      have : xs = [] := List.length_eq_zero_iff.1 (by rw [HXL.out]; rfl)
      subst this
      exact ⟨rfl, Rd.of_own hr⟩
    | succ d => exact ⟨xs, HXS.out, Rd.of_own hr, fun a n c e hn => by
        have := World.ownsRow.lt hr a.block (by rw [e]; rfl)
        exact this.2, fun x hx => (ItR.below hb2 (fun j hj => hj) (HCH.out x hx)).mono (fun j hj => Nat.lt_of_lt_of_le hj hb2.size)⟩
end Go.Proofs.Ytkabfjbmofpkdaa

/- Layer 3: Encode; the reader's number, walked. -/
namespace Go.Proofs.Ytkabfjbmofpkdaa
open Go.RowKit Go.Shelf
set_option linter.unusedVariables false
set_option linter.unusedSimpArgs false

theorem wencode_calls (v : Value) (is : List Itc) (w : World) (h : Its w 8 v is) (hok : ∀ i ∈ is, okI 8 i) (hsum : (is.map (szI 8)).sum ≤ 4096) (hlen : (enc is).length ≤ 65536) :
    Calls Try.prog 46 #[v] w fun e w' => ∃ v', e = .returned (.tuple #[v', .int .i64 0]) ∧ w'.ownsRow w.heap.size 5 1 v' (enc is).length (bvs (enc is)) ∧ Below w.heap.size w w' := by
  have hba := below_alloc w (.cells #[.slice none 0 0, .int .i64 0] 132)
  have hbox : WBox (w.alloc (.cells #[.slice none 0 0, .int .i64 0] 132)) w.heap.size w.heap.size (.slice none 0 0) ((0 : Nat) : Int) :=
    World.ownsRow_lit (base := w.heap.size) (size := 2) (e := 132) w #[.slice none 0 0, .int .i64 0] 1 (Nat.le_refl _) (by unfold maxLen; omega) (by simp)
  have hput := put_calls (fun j => j < w.heap.size) 8 (by omega) v is w.heap.size w.heap.size (.slice none 0 0) [] 0 (w.alloc (.cells #[.slice none 0 0, .int .i64 0] 132))
    (ItR.below hba (fun j hj => hj) h) (fun j hj => hj) hok (by omega) (by show 0 + (is.flatMap (encI 8)).length ≤ _; have : (is.flatMap (encI 8)).length ≤ 65536 := hlen; omega) hba.size hbox (World.ownsRow_nil _ _ _ _)
  rw [show (9 - ((8 : Nat) : Int)) = 1 by decide] at hput
  have HP := Lib.hid hput
  have HBA := Lib.hid hba
  obtain ⟨a, cap, rfl, -⟩ := h.slice
  have hl : (enc is).length ≤ 65536 := hlen
  clear hput hbox hba h hok
  go_enter Try.func46, Try.ntmps46
  go_wp2_with fail
  refine HP.out.mono ?_
  rintro e w2 ⟨bv, rfl, hb2, ho2, hk2⟩
  have e1 : [] ++ is.flatMap (encI 8) = enc is := rfl
  rw [e1] at ho2
  have HO2 := Lib.hid ho2
  have HB2 := Lib.hid (HBA.out.trans hk2.b)
  obtain ⟨g, c, rfl⟩ := own_slice ho2
  have y0 := hb2.c0
  clear hb2 ho2 hk2 e1 HP
  generalize hbs : enc is = bs at *
  have HBS := Lib.hid hbs
  clear hbs
  have d1 : decide (65536 < (bs.length : Int)) = false := decide_eq_false (by omega)
  go_wp2_with fail
  go_ret2
  refine ⟨_, rfl, ?_, HB2.out⟩
  rw [HBS.out]
  exact HO2.out

/-- The reader's box. -/
def RBox (w : World) (base rb : Nat) (bv : Value) (at_ cnt : Int) : Prop := w.ownsRow base 137 3 (.slice (some ⟨rb, 0, none⟩) 1 1) 1 [bv, .int .i64 at_, .int .i64 cnt]
theorem RBox.at {w : World} {base rb : Nat} {bv : Value} {at_ cnt : Int} (h : RBox w base rb bv at_ cnt) : w.cell? ⟨rb, 0, none⟩ = some bv ∧ w.cell? ⟨rb, 1, none⟩ = some (.int .i64 at_) ∧ w.cell? ⟨rb, 2, none⟩ = some (.int .i64 cnt) := by
  have e := fun j u hj => World.ownsRow.cells h (g := rb) rfl j u hj
  simp only [add_off, Nat.zero_add] at e
  exact ⟨e 0 _ rfl, e 1 _ rfl, e 2 _ rfl⟩
theorem RBox.frz {w : World} {base rb : Nat} {bv : Value} {at_ cnt : Int} (h : RBox w base rb bv at_ cnt) (j : Nat) : w.frozen? ⟨rb, j, none⟩ = false := World.ownsRow.frozenAt h j
theorem RBox.set1 {w : World} {base rb : Nat} {bv : Value} {at_ cnt : Int} (h : RBox w base rb bv at_ cnt) (v : Int) : RBox (w.setCell ⟨rb, 1, none⟩ (.int .i64 v)) base rb bv v cnt ∧ w.grownBy (w.setCell ⟨rb, 1, none⟩ (.int .i64 v)) (some rb) := World.ownsRow.stored h 1 _
theorem RBox.set2 {w : World} {base rb : Nat} {bv : Value} {at_ cnt : Int} (h : RBox w base rb bv at_ cnt) (v : Int) : RBox (w.setCell ⟨rb, 2, none⟩ (.int .i64 v)) base rb bv at_ v ∧ w.grownBy (w.setCell ⟨rb, 2, none⟩ (.int .i64 v)) (some rb) := World.ownsRow.stored h 2 _
abbrev ER : TypeId → Prop := fun e => e = 137
theorem RBox.kset {w w' : World} {base rb : Nat} {bv : Value} {at_ cnt : Int} (h : RBox w base rb bv at_ cnt) (hb : base ≤ w.heap.size) (hg : w.grownBy w' (some rb)) : Kp ER base w w' := Kp.of_grown (E := ER) h hb rfl hg

theorem dig_bits {acc c j : Nat} (hj : j ≤ 9) (hacc : acc < 2 ^ (7 * j)) (hc : c < 256) (h9 : j = 9 → c ≤ 1) :
    bits BinOp.or IntKind.u64 (acc : Int) (IntKind.u64.wrap (IntKind.u64.wrap (bits BinOp.and IntKind.u8 (c : Int) 127) * 2 ^ (7 * j))) = ((acc + c % 128 * 2 ^ (7 * j) : Nat) : Int) := by
  have h1 := (bits_nat .u8 8 (by decide) (fun n h0 h1 => by simp [IntKind.wrap, IntKind.bits, IntKind.signed]; omega) c 127 (by omega) (by omega)).1
  have h2 : c &&& 127 = c % 128 := Nat.and_two_pow_sub_one_eq_mod c 7
  rw [h2] at h1
  have h1' : bits BinOp.and IntKind.u8 (c : Int) 127 = ((c % 128 : Nat) : Int) := h1
  have hpos : 0 < 2 ^ (7 * j) := Nat.pow_pos (by decide)
  have hlt : c % 128 * 2 ^ (7 * j) < 18446744073709551616 := by
    by_cases e : j = 9
    · subst e
      have := h9 rfl
      have e2 : (2 : Nat) ^ (7 * 9) = 9223372036854775808 := by decide
      rw [e2]
      omega
    · have h3 : 2 ^ (7 * j) ≤ 2 ^ 56 := Nat.pow_le_pow_right (by decide) (by omega)
      have e2 : (2 : Nat) ^ 56 = 72057594037927936 := by decide
      rw [e2] at h3
      calc c % 128 * 2 ^ (7 * j) ≤ 127 * 72057594037927936 := Nat.mul_le_mul (by omega) h3
        _ < 18446744073709551616 := by decide
  have hacc2 : acc < 18446744073709551616 := Nat.lt_of_lt_of_le hacc (by
    have h3 : 2 ^ (7 * j) ≤ 2 ^ 63 := Nat.pow_le_pow_right (by decide) (by omega)
    have e2 : (2 : Nat) ^ 63 = 9223372036854775808 := by decide
    omega)
  have hcast : ((c % 128 : Nat) : Int) * 2 ^ (7 * j) = ((c % 128 * 2 ^ (7 * j) : Nat) : Int) := by
    rw [Int.natCast_mul, Int.natCast_pow]
    rfl
  rw [h1', u64_nat (by omega), hcast, u64_nat hlt, bits_or_u64_nat _ _ hacc2 hlt, Nat.or_comm, ← Nat.shiftLeft_eq, ← Nat.shiftLeft_add_eq_or_of_lt hacc, Nat.add_comm]
theorem rd_at {l r : List UInt8} {b : UInt8} {j acc : Nat} (hj : j ≤ 9) (h : readNum l = rdN (10 - j) j acc (b :: r)) :
    ((j = 9 ∧ 1 < b.toNat) ∨ (b.toNat = 0 ∧ 0 < j) → readNum l = none) ∧
    (¬((j = 9 ∧ 1 < b.toNat) ∨ (b.toNat = 0 ∧ 0 < j)) → b.toNat < 128 → readNum l = some (acc + b.toNat % 128 * 2 ^ (7 * j), r)) ∧
    (¬((j = 9 ∧ 1 < b.toNat) ∨ (b.toNat = 0 ∧ 0 < j)) → ¬ b.toNat < 128 → readNum l = rdN (10 - (j + 1)) (j + 1) (acc + b.toNat % 128 * 2 ^ (7 * j)) r) := by
  obtain ⟨f, hf⟩ : ∃ f, 10 - j = f + 1 := ⟨9 - j, by omega⟩
  rw [hf] at h
  have e : rdN (f + 1) j acc (b :: r) = if (j = 9 ∧ 1 < b.toNat) ∨ (b.toNat = 0 ∧ 0 < j) then none else if b.toNat < 128 then some (acc + b.toNat % 128 * 2 ^ (7 * j), r) else rdN f (j + 1) (acc + b.toNat % 128 * 2 ^ (7 * j)) r := rfl
  rw [e] at h
  refine ⟨fun hb => by rw [h, if_pos hb], fun hb h1 => by rw [h, if_neg hb, if_pos h1], fun hb h1 => ?_⟩
  rw [h, if_neg hb, if_neg h1, show 10 - (j + 1) = f by omega]
theorem acc_next {acc c j : Nat} (hacc : acc < 2 ^ (7 * j)) : acc + c % 128 * 2 ^ (7 * j) < 2 ^ (7 * (j + 1)) := by
  have e : 2 ^ (7 * (j + 1)) = 128 * 2 ^ (7 * j) := by rw [show 7 * (j + 1) = 7 * j + 7 by omega, Nat.pow_add]; omega
  rw [e]
  have h1 : c % 128 ≤ 127 := by omega
  have h2 : c % 128 * 2 ^ (7 * j) ≤ 127 * 2 ^ (7 * j) := Nat.mul_le_mul_right _ h1
  omega

set_option maxHeartbeats 4000000 in
set_option maxRecDepth 100000 in
theorem wrnum_calls (bv : Value) (xs : List UInt8) (base rb : Nat) (at_ : Nat) (cnt : Int) (w : World) (hx : ∀ V, Below base w V → Bytes V bv xs) (hat : at_ ≤ xs.length) (hlen : xs.length ≤ 65536) (hbase : base ≤ w.heap.size) (hb : RBox w base rb bv at_ cnt) :
    Calls Try.prog 90 #[.pointer (some ⟨rb, 0, none⟩)] w fun e w' => ∃ (x : Nat) (cd : Int) (at' : Nat), e = .returned (.tuple #[.int .u64 x, .int .i64 cd]) ∧ RBox w' base rb bv at' cnt ∧ (Kp ER base w w' ∧ Only (fun j => j = rb) w w') ∧ at' ≤ xs.length ∧
      (match readNum (xs.drop at_) with | none => cd ≠ 0 | some (y, r) => cd = 0 ∧ x = y ∧ r = xs.drop at') := by
  have HX := Lib.hid hx
  have HB := Lib.hid hb
  obtain ⟨ba, bcap, rfl, hbc1, hbc2, -⟩ := hx w (Below.refl _ _)
  clear hx hb
  go_enter Try.func90, Try.ntmps90
  go_wp2_with fail
  refine wp_scope_straight ?_
  go_wp2_with fail
  refine wp_label ?_
  go_wp2_with fail
  go_loopw [4, 5, 6] (fun nv sv _ wr => ∃ (j acc : Nat), j ≤ 9 ∧ acc < 2 ^ (7 * j) ∧ at_ + j ≤ xs.length ∧ nv = .int .u64 acc ∧ sv = .int .i64 (7 * (j : Int)) ∧ readNum (xs.drop at_) = rdN (10 - j) j acc (xs.drop (at_ + j)) ∧ RBox wr base rb (.slice ba xs.length bcap) ((at_ + j : Nat) : Int) cnt ∧ (Kp ER base w wr ∧ Only (fun j => j = rb) w wr)) (fun _ sv _ _ => 63 - (intOf sv).toNat)
  case atStart => exact ⟨0, 0, by omega, by simp, by omega, rfl, rfl, rfl, HB.out, Kp.refl _ _ _, Only.refl _ _⟩
  case round =>
    obtain ⟨j, acc, hj, hacc, haj, rfl, rfl, hrd, hbx, hkp, hon⟩ := hrel
    have HRD := Lib.hid hrd
    have HBX := Lib.hid hbx
    have HKP := Lib.hid hkp
    have HON := Lib.hid hon
    obtain ⟨r0, r1, r2⟩ := hbx.at
    have hsz := hkp.b.size
    have HBY := Lib.hid (HX.out wr hkp.b)
    clear hrd hbx hkp hon
    generalize hP : at_ + j = p at *
    have HPP := Lib.hid hP
    clear hP
    go_upto_region 3 with fail
    refine region_m [(0, false), (1, false), (2, false), (3, false), (4, false), (5, false), (6, false), (7, false), (8, false), (9, false)] 10 (fun V => V.cell? ⟨rb, 0, none⟩ = some (.slice ba xs.length bcap) ∧ V.cell? ⟨rb, 1, none⟩ = some (.int .i64 (p : Int))) (by kernel_rfl) (by kernel_rfl) ⟨r0, r1⟩ ?_
    iterate 10
      first
      | (refine m_take (v := ?_) rfl rfl ?_ ?_
         rotate_left
         · intro W hW
           go_simp
           with_reducible rfl
         simp only [Act.put, List.setIfInBounds_toArray, List.set_cons_zero, List.set_cons_succ])
      | (refine m_skip rfl rfl ?_
         simp only [Act.put, List.setIfInBounds_toArray, List.set_cons_zero, List.set_cons_succ])
    refine m_done ?_
    simp only [List.drop_succ_cons, List.drop_zero]
    go_wp2_with fail
    simp only [NP]
    by_cases hlt : p < xs.length
    · have d1 : decide ((xs.length : Int) ≤ (p : Int)) = false := decide_eq_false (by omega)
      obtain ⟨a2, c2, he, hb1, hb2, hb3⟩ := HBY.out
      simp only [Value.slice.injEq, true_and] at he
      obtain ⟨rfl, rfl⟩ := he
      rcases hb3 with hb3 | ⟨bb, off, rfl, hcb⟩
      · omega
      have hc := hcb p hlt
      have hnat : p < bcap := by omega
      go_upto_region 5 with fail
      refine region_m [(0, false), (1, false), (2, false), (3, false), (4, false), (5, false), (6, false), (7, false), (8, false), (9, false), (10, false)] 11 (fun V => V.cell? ⟨rb, 0, none⟩ = some (.slice (some ⟨bb, off, none⟩) xs.length bcap) ∧ V.cell? ⟨rb, 1, none⟩ = some (.int .i64 (p : Int)) ∧ V.cell? ⟨bb, off + p, none⟩ = some (.int .u8 (bt xs p))) (by kernel_rfl) (by kernel_rfl) ⟨r0, r1, hc⟩ ?_
      iterate 11
        first
        | (refine m_take (v := ?_) rfl rfl ?_ ?_
           rotate_left
           · intro W hW
             go_simp
             with_reducible rfl
           simp only [Act.put, List.setIfInBounds_toArray, List.set_cons_zero, List.set_cons_succ])
        | (refine m_skip rfl rfl ?_
           simp only [Act.put, List.setIfInBounds_toArray, List.set_cons_zero, List.set_cons_succ])
      refine m_done ?_
      simp only [List.drop_succ_cons, List.drop_zero]
      go_wp2_with fail
      simp only [NP]
      have f1 := HBX.out.frz 1
      go_upto_region 7 with fail
      obtain ⟨c, hcx⟩ : ∃ c : Nat, c = xs[p].toNat := ⟨_, rfl⟩
      have hbt : bt xs p = (c : Int) := by rw [hcx]; unfold bt; simp [hlt]
      have hc256 : c < 256 := by rw [hcx]; exact xs[p].toNat_lt
      have hdr : xs.drop p = xs[p] :: xs.drop (p + 1) := List.drop_eq_getElem_cons hlt
      have HDR := Lib.hid hdr
      have HCX := Lib.hid hcx
      rw [hbt] at hc ⊢
      clear hdr hcx hbt
      generalize hV : ((wr.setCell ⟨rb, 1, none⟩ (.int .i64 ((p : Int) + 1))).drew).drew = V at *
      have hset := HBX.out.set1 ((p : Int) + 1)
      have HBV := Lib.hid (show RBox V base rb (.slice (some ⟨bb, off, none⟩) xs.length bcap) ((p : Int) + 1) cnt by rw [← hV]; exact hset.1)
      have HKV := Lib.hid (show Kp ER base w V by rw [← hV]; exact ((HKP.out.trans (HBX.out.kset (by omega) hset.2)).drew).drew)
      have HOV := Lib.hid (show Only (fun j => j = rb) w V by rw [← hV]; exact ((HON.out.trans (Only.of_grown hset.2) (fun j _ e => by simp only [Option.some.injEq] at e; exact e.symm)).drew).drew)
      clear hV hset
      have hra := rd_at hj (HDR.out ▸ HRD.out)
      rw [← HCX.out] at hra
      have HRA := Lib.hid hra
      clear hra hc hcb
      by_cases hbad : (j = 9 ∧ 1 < c) ∨ (c = 0 ∧ 0 < j)
      · have HRES := Lib.hid (HRA.out.1 hbad)
        by_cases hj9 : j = 9 ∧ 1 < c
        · have e63 : (7 * (j : Int) == 63) = true := beq_iff_eq.2 (by omega)
          have ec1 : decide (1 < (c : Int)) = true := decide_eq_true (by omega)
          clear hbad hj9
          go_wp2_with fail
          simp only [Exit.noGoto_ret]
          go_ret2
          exact ⟨0, 3, p + 1, rfl, HBV.out, ⟨HKV.out, HOV.out⟩, by omega, by rw [HRES.out]; simp⟩
        · have hc0 : c = 0 := by omega
          have hj0 : 0 < j := by omega
          have ec0 : ((c : Int) == 0) = true := beq_iff_eq.2 (by omega)
          have ej0 : decide (0 < 7 * (j : Int)) = true := decide_eq_true (by omega)
          by_cases h9 : j = 9
          · have e63 : (7 * (j : Int) == 63) = true := beq_iff_eq.2 (by omega)
            have ec1 : decide (1 < (c : Int)) = false := decide_eq_false (by omega)
            clear hbad hj9 h9 hc0
            go_wp2_with fail
            simp only [Exit.noGoto_ret]
            go_ret2
            exact ⟨0, 3, p + 1, rfl, HBV.out, ⟨HKV.out, HOV.out⟩, by omega, by rw [HRES.out]; simp⟩
          · have e63 : (7 * (j : Int) == 63) = false := beq_eq_false_iff_ne.2 (by omega)
            clear hbad hj9 h9 hc0
            go_wp2_with fail
            simp only [Exit.noGoto_ret]
            go_ret2
            exact ⟨0, 3, p + 1, rfl, HBV.out, ⟨HKV.out, HOV.out⟩, by omega, by rw [HRES.out]; simp⟩
      · have HNB := Lib.hid hbad
        by_cases hj9 : j = 9
        · have hc1 : c = 1 := by omega
          have HDG := Lib.hid (dig_bits hj hacc hc256 (fun _ => by omega))
          have e63 : (7 * (j : Int) == 63) = true := beq_iff_eq.2 (by omega)
          have ec1 : decide (1 < (c : Int)) = false := decide_eq_false (by omega)
          have ec0 : ((c : Int) == 0) = false := beq_eq_false_iff_ne.2 (by omega)
          clear hc1 hbad hj9
          go_upto_region 11 with fail
          rw [HDG.out]
          by_cases h128 : c < 128
          · have d2 : decide ((c : Int) < 128) = true := decide_eq_true (by omega)
            have HRES := Lib.hid (HRA.out.2.1 HNB.out h128)
            generalize acc + c % 128 * 2 ^ (7 * j) = acc2 at *
            go_wp2_with fail
            simp only [Exit.noGoto_ret]
            go_ret2
            exact ⟨acc2, 0, p + 1, rfl, HBV.out, ⟨HKV.out, HOV.out⟩, by omega, by rw [HRES.out]; exact ⟨rfl, rfl, rfl⟩⟩
          · have d2 : decide ((c : Int) < 128) = false := decide_eq_false (by omega)
            have HRES := Lib.hid (HRA.out.2.2 HNB.out h128)
            have HAN := Lib.hid (acc_next (c := c) hacc)
            generalize acc + c % 128 * 2 ^ (7 * j) = acc2 at *
            have hj8 : j ≤ 8 := by have := HNB.out; omega
            go_wp2_with fail
            go_roundw
            case rel => exact ⟨j + 1, acc2, by omega, HAN.out, by have := HPP.out; omega, rfl, by congr 1 <;> omega, by have := HPP.out; rw [HRES.out, ← this, Nat.add_assoc], by have := HPP.out; rw [← Nat.add_assoc, this]; exact HBV.out, HKV.out, HOV.out⟩
            case measure => simp [intOf]; omega
        · have HDG := Lib.hid (dig_bits hj hacc hc256 (fun h => absurd h hj9))
          have e63 : (7 * (j : Int) == 63) = false := beq_eq_false_iff_ne.2 (by omega)
          by_cases hc0 : c = 0
          · have ec0 : ((c : Int) == 0) = true := beq_iff_eq.2 (by omega)
            have ej0 : decide (0 < 7 * (j : Int)) = false := decide_eq_false (by omega)
            clear hbad hc0 hj9
            go_upto_region 11 with fail
            rw [HDG.out]
            by_cases h128 : c < 128
            · have d2 : decide ((c : Int) < 128) = true := decide_eq_true (by omega)
              have HRES := Lib.hid (HRA.out.2.1 HNB.out h128)
              generalize acc + c % 128 * 2 ^ (7 * j) = acc2 at *
              go_wp2_with fail
              simp only [Exit.noGoto_ret]
              go_ret2
              exact ⟨acc2, 0, p + 1, rfl, HBV.out, ⟨HKV.out, HOV.out⟩, by omega, by rw [HRES.out]; exact ⟨rfl, rfl, rfl⟩⟩
            · have d2 : decide ((c : Int) < 128) = false := decide_eq_false (by omega)
              have HRES := Lib.hid (HRA.out.2.2 HNB.out h128)
              have HAN := Lib.hid (acc_next (c := c) hacc)
              generalize acc + c % 128 * 2 ^ (7 * j) = acc2 at *
              have hj8 : j ≤ 8 := by have := HNB.out; omega
              go_wp2_with fail
              go_roundw
              case rel => exact ⟨j + 1, acc2, by omega, HAN.out, by have := HPP.out; omega, rfl, by congr 1 <;> omega, by have := HPP.out; rw [HRES.out, ← this, Nat.add_assoc], by have := HPP.out; rw [← Nat.add_assoc, this]; exact HBV.out, HKV.out, HOV.out⟩
              case measure => simp [intOf]; omega
          · have ec0 : ((c : Int) == 0) = false := beq_eq_false_iff_ne.2 (by omega)
            clear hbad
            go_upto_region 11 with fail
            rw [HDG.out]
            by_cases h128 : c < 128
            · have d2 : decide ((c : Int) < 128) = true := decide_eq_true (by omega)
              have HRES := Lib.hid (HRA.out.2.1 HNB.out h128)
              generalize acc + c % 128 * 2 ^ (7 * j) = acc2 at *
              go_wp2_with fail
              simp only [Exit.noGoto_ret]
              go_ret2
              exact ⟨acc2, 0, p + 1, rfl, HBV.out, ⟨HKV.out, HOV.out⟩, by omega, by rw [HRES.out]; exact ⟨rfl, rfl, rfl⟩⟩
            · have d2 : decide ((c : Int) < 128) = false := decide_eq_false (by omega)
              have HRES := Lib.hid (HRA.out.2.2 HNB.out h128)
              have HAN := Lib.hid (acc_next (c := c) hacc)
              generalize acc + c % 128 * 2 ^ (7 * j) = acc2 at *
              have hj8 : j ≤ 8 := by have := HNB.out; omega
              go_wp2_with fail
              go_roundw
              case rel => exact ⟨j + 1, acc2, by omega, HAN.out, by have := HPP.out; omega, rfl, by congr 1 <;> omega, by have := HPP.out; rw [HRES.out, ← this, Nat.add_assoc], by have := HPP.out; rw [← Nat.add_assoc, this]; exact HBV.out, HKV.out, HOV.out⟩
              case measure => simp [intOf]; omega
    · have d1 : decide ((xs.length : Int) ≤ (p : Int)) = true := decide_eq_true (by omega)
      have HRES := Lib.hid (show readNum (xs.drop at_) = none by
        rw [HRD.out, List.drop_of_length_le (by omega), show 10 - j = (9 - j) + 1 by omega]
        rfl)
      go_wp2_with fail
      simp only [Exit.noGoto_ret]
      go_ret2
      exact ⟨0, 5, p, rfl, HBX.out, ⟨HKP.out.drew, HON.out.drew⟩, by omega, by rw [HRES.out]; simp⟩
end Go.Proofs.Ytkabfjbmofpkdaa

/- Layer 14, plain: a ledger's texts, and back. -/
namespace Go.Proofs.Ytkabfjbmofpkdaa
open Go.RowKit
set_option linter.unusedSimpArgs false

abbrev iI (n : Int) : Itc := .mk 0 n nos []
abbrev iT (s : ByteArray) : Itc := .mk 1 0 s []
abbrev iL (l : List Itc) : Itc := .mk 2 0 nos l
abbrev nv : Value := .slice none 0 0
abbrev zR : Rec := ⟨0, 0, 0, nos, 0⟩
def encB (is : List Itc) : ByteArray := ⟨(enc is).toArray⟩
def decB (s : ByteArray) : Option (List Itc) := dec s.data.toList
theorem encB_size (is : List Itc) : (encB is).size = (enc is).length := by simp [encB, ByteArray.size]
theorem decB_enc {is : List Itc} (h : ∀ i ∈ is, okI 8 i) (hc : (is.map (szI 8)).sum ≤ 4096) (hl : (enc is).length ≤ 65536) : decB (encB is) = some is := dec_enc h hc hl

/-! ### An entry's text -/
def recE (r : Rec) : List Itc := [iI 1, iI r.p, iI r.s, iI r.q, iT r.key, iI r.val]
def opE (o : Opr) : Itc := iL [iI o.kind, iL (o.ins.map iI), iI o.arg, iI o.num, iI o.rounds, iI o.test, iI o.lim]
def depE (os : List Opr) : List Itc := [iI 3, iL (os.map opE)]

theorem int_len (d : Nat) (n : Int) : (encI (d + 1) (iI n)).length ≤ 12 := by
  show (UInt8.ofNat (0 : Int).toNat :: num (zig n)).length ≤ 12
  have := (num_len (zig n)).1
  rw [List.length_cons]; omega
theorem text_len (d : Nat) (s : ByteArray) : (encI (d + 1) (iT s)).length ≤ 12 + s.size := by
  show (UInt8.ofNat (1 : Int).toNat :: (num s.size ++ s.data.toList)).length ≤ 12 + s.size
  have := (num_len s.size).1
  have e : s.data.toList.length = s.size := by rw [Array.length_toList]; rfl
  rw [List.length_cons, List.length_append, e]
  omega
theorem list_len (d : Nat) (l : List Itc) : (encI (d + 1) (iL l)).length ≤ 12 + (l.flatMap (encI d)).length := by
  show (UInt8.ofNat (2 : Int).toNat :: (num l.length ++ l.flatMap (encI d))).length ≤ _
  have := (num_len l.length).1
  rw [List.length_cons, List.length_append]; omega
theorem flat_le {α β : Type} (f : α → List β) (m : Nat) : ∀ (l : List α), (∀ i ∈ l, (f i).length ≤ m) → (l.flatMap f).length ≤ l.length * m
  | [], _ => by simp
  | i :: l, h => by
    have h1 := h i (by simp)
    have h2 := flat_le f m l (fun x hx => h x (by simp [hx]))
    rw [List.flatMap_cons, List.length_append, List.length_cons, Nat.succ_mul]
    omega
theorem sum_le {α : Type} (f : α → Nat) (m : Nat) : ∀ (l : List α), (∀ i ∈ l, f i ≤ m) → (l.map f).sum ≤ l.length * m
  | [], _ => by simp
  | i :: l, h => by
    have h1 := h i (by simp)
    have h2 := sum_le f m l (fun x hx => h x (by simp [hx]))
    rw [List.map_cons, List.sum_cons, List.length_cons, Nat.succ_mul]
    omega
theorem ints_len (d : Nat) (ns : List Int) : ((ns.map iI).flatMap (encI (d + 1))).length ≤ ns.length * 12 := by
  have := flat_le (encI (d + 1)) 12 (ns.map iI) (fun i hi => by obtain ⟨n, -, rfl⟩ := List.mem_map.1 hi; exact int_len d n)
  simpa using this
theorem recE_len {r : Rec} (h : r.key.size ≤ 32) : (enc (recE r)).length ≤ 104 := by
  unfold enc recE
  simp only [List.flatMap_cons, List.flatMap_nil, List.length_append, List.length_nil]
  have h1 := int_len 7 1
  have h2 := int_len 7 r.p
  have h3 := int_len 7 r.s
  have h4 := int_len 7 r.q
  have h5 := text_len 7 r.key
  have h6 := int_len 7 r.val
  simp only [Nat.reduceAdd] at *
  omega
theorem opE_len {o : Opr} (h : o.ins.length ≤ 2) : (encI 7 (opE o)).length ≤ 120 := by
  refine Nat.le_trans (list_len 6 _) ?_
  simp only [List.flatMap_cons, List.flatMap_nil, List.length_append, List.length_nil]
  have h1 := int_len 5 o.kind
  have h2 := list_len 5 (o.ins.map iI)
  have h3 := ints_len 4 o.ins
  have h4 := int_len 5 o.arg
  have h5 := int_len 5 o.num
  have h6 := int_len 5 o.rounds
  have h7 := int_len 5 o.test
  have h8 := int_len 5 o.lim
  simp only [Nat.reduceAdd] at *
  omega
theorem depE_len {os : List Opr} (h : os.length ≤ 16) (hi : ∀ o ∈ os, o.ins.length ≤ 2) : (enc (depE os)).length ≤ 1944 := by
  unfold enc depE
  simp only [List.flatMap_cons, List.flatMap_nil, List.length_append, List.length_nil]
  have h1 := int_len 7 3
  have h2 := list_len 7 (os.map opE)
  have h3 := flat_le (encI 7) 120 (os.map opE) (fun i hi' => by obtain ⟨o, ho, rfl⟩ := List.mem_map.1 hi'; exact opE_len (hi o ho))
  rw [List.length_map] at h3
  simp only [Nat.reduceAdd] at *
  omega
theorem okI_int (d : Nat) {n : Int} (h : I64 n) : okI (d + 1) (iI n) := .inl ⟨rfl, by unfold I64 at h; exact h, rfl, rfl⟩
theorem okI_text (d : Nat) {s : ByteArray} (h : s.size ≤ 65536) : okI (d + 1) (iT s) := .inr (.inl ⟨rfl, rfl, h, rfl⟩)
theorem okI_list (d : Nat) {l : List Itc} (h : ∀ i ∈ l, okI d i) : okI (d + 1) (iL l) := .inr (.inr ⟨rfl, rfl, rfl, h⟩)
theorem U32.i64 {n : Int} (h : U32 n) : I64 n := by unfold U32 at h; unfold I64; omega
theorem recE_ok {r : Rec} (h : r.ok) (hk : r.key.size ≤ 32) (hv : U32 r.val) : ∀ i ∈ recE r, okI 8 i := by
  intro i hi
  simp only [recE, List.mem_cons, List.not_mem_nil, or_false] at hi
  rcases hi with rfl | rfl | rfl | rfl | rfl | rfl
  · exact okI_int _ (by unfold I64; omega)
  · exact okI_int _ h.1
  · exact okI_int _ h.2.1
  · exact okI_int _ h.2.2.1
  · exact okI_text _ (by omega)
  · exact okI_int _ hv.i64
theorem opE_ok {o : Opr} (h : o.ok) : okI 7 (opE o) := by
  obtain ⟨h1, h2, h3, h4, h5, h6, h7⟩ := h
  refine okI_list _ (fun i hi => ?_)
  simp only [List.mem_cons, List.not_mem_nil, or_false] at hi
  rcases hi with rfl | rfl | rfl | rfl | rfl | rfl | rfl
  · exact okI_int _ h1
  · refine okI_list _ (fun i hi => ?_)
    obtain ⟨n, hn, rfl⟩ := List.mem_map.1 hi
    exact okI_int _ (h7 n hn)
  · exact okI_int _ h2
  · exact okI_int _ h3.i64
  · exact okI_int _ h4
  · exact okI_int _ h5
  · exact okI_int _ h6.i64
theorem depE_ok {os : List Opr} (h : ∀ o ∈ os, o.ok) : ∀ i ∈ depE os, okI 8 i := by
  intro i hi
  simp only [depE, List.mem_cons, List.not_mem_nil, or_false] at hi
  rcases hi with rfl | rfl
  · exact okI_int _ (by unfold I64; omega)
  · refine okI_list _ (fun i hi => ?_)
    obtain ⟨o, ho, rfl⟩ := List.mem_map.1 hi
    exact opE_ok (h o ho)
theorem szI_int (d : Nat) (n : Int) : szI (d + 1) (iI n) = 1 := rfl
theorem szI_text (d : Nat) (s : ByteArray) : szI (d + 1) (iT s) = 1 := rfl
theorem szI_list (d : Nat) (l : List Itc) : szI (d + 1) (iL l) = 1 + (l.map (szI d)).sum := rfl
theorem recE_sum (r : Rec) : ((recE r).map (szI 8)).sum ≤ 4096 := by
  show (1 + (1 + (1 + (1 + (1 + (1 + 0)))))) ≤ 4096
  omega
theorem depE_sum {os : List Opr} (h : os.length ≤ 16) (hi : ∀ o ∈ os, o.ins.length ≤ 2) : ((depE os).map (szI 8)).sum ≤ 4096 := by
  have h1 := sum_le (szI 7) 12 (os.map opE) (fun i hi' => by
    obtain ⟨o, ho, rfl⟩ := List.mem_map.1 hi'
    show 1 + (1 + ((1 + ((o.ins.map iI).map (szI 5)).sum) + (1 + (1 + (1 + (1 + (1 + 0))))))) ≤ 12
    have h2 := sum_le (szI 5) 1 (o.ins.map iI) (fun i hi => by obtain ⟨n, -, rfl⟩ := List.mem_map.1 hi; exact Nat.le_refl _)
    have h3 := hi o ho
    rw [List.length_map] at h2
    omega)
  rw [List.length_map] at h1
  show 1 + ((1 + ((os.map opE).map (szI 7)).sum) + 0) ≤ 4096
  omega

/-! ### What is read of an entry's text -/
def zI : Itc := .mk 0 0 nos []
def tkX (l : List Itc) (i : Nat) (k : Int) : Itc := match l[i]? with
  | some x => if x.k = k then x else zI
  | none => zI
def tkW (l : List Itc) (i : Nat) (k : Int) : Bool := match l[i]? with
  | some x => decide (x.k ≠ k)
  | none => true
def nmX (l : List Itc) (i : Nat) : Int := IntKind.u32.wrap (tkX l i 0).n
def nmW (l : List Itc) (i : Nat) : Bool := tkW l i 0 || decide ((tkX l i 0).n < 0) || decide (4294967295 < (tkX l i 0).n)
def recX (l : List Itc) : Rec := ⟨(tkX l 1 0).n, (tkX l 2 0).n, (tkX l 3 0).n, (tkX l 4 1).s, nmX l 5⟩
def recW (l : List Itc) : Bool := tkW l 1 0 || tkW l 2 0 || tkW l 3 0 || tkW l 4 1 || nmW l 5
def opX (x : Itc) : Opr := ⟨(tkX x.l 0 0).n, nv, (tkX x.l 1 2).l.map Itc.n, (tkX x.l 2 0).n, nmX x.l 3, (tkX x.l 4 0).n, (tkX x.l 5 0).n, nmX x.l 6⟩
def opW1 (x : Itc) : Bool := decide (x.k ≠ 2) || decide (x.l.length ≠ 7)
def opW2 (x : Itc) : Bool := tkW x.l 0 0 || tkW x.l 2 0 || nmW x.l 3 || tkW x.l 4 0 || tkW x.l 5 0 || nmW x.l 6 || tkW x.l 1 2
def insW (l : List Itc) : Bool := l.any (fun i => decide (i.k ≠ 0))
def opW (x : Itc) : Bool := opW1 x || opW2 x || insW (tkX x.l 1 2).l
def entK (l : List Itc) : Int := (tkX l 0 0).n
def entW (l : List Itc) : Bool := tkW l 0 0 || (if entK l = 0 then true else if entK l = 1 then recW l else if entK l = 3 then tkW l 1 2 || (tkX l 1 2).l.any opW else tkW l 1 0)
def entX (l : List Itc) : Ent := if entK l = 1 then ⟨1, recX l, nv, [], 0⟩ else if entK l = 3 then ⟨3, zR, nv, (tkX l 1 2).l.map opX, 0⟩ else ⟨entK l, zR, nv, [], (tkX l 1 0).n⟩
def entC (l : List Itc) : Nat := if entK l = 1 then 6 else 2
def entG (l : List Itc) : Option Ent := if entW l = false ∧ l.length = entC l ∧ (entX l).good = true then some (entX l) else none
def entD (s : ByteArray) : Option Ent := if s.size = 0 then some ⟨0, zR, nv, [], 0⟩ else match decB s with
  | none => none
  | some l => entG l

theorem u32_wrap {n : Int} (h : U32 n) : IntKind.u32.wrap n = n := by
  unfold U32 at h
  simp [IntKind.wrap, IntKind.bits, IntKind.signed]; omega
theorem enc_pos {i : Itc} {is : List Itc} (h : okI 8 i) : (encB (i :: is)).size ≠ 0 := by
  obtain ⟨k, r, hk⟩ := encI_pos h
  rw [encB_size]
  show (encI 8 i ++ enc is).length ≠ 0
  rw [hk]; simp
theorem entD_rec {r : Rec} (hg : goodRec r = true) (h : r.ok) (hv : U32 r.val) : entD (encB (recE r)) = some ⟨1, r, nv, [], 0⟩ := by
  have hk : r.key.size ≤ 32 := by unfold goodRec at hg; simp at hg; omega
  have hd := decB_enc (recE_ok h hk hv) (recE_sum r) (by have := recE_len hk; omega)
  unfold entD
  rw [if_neg (show (encB (recE r)).size ≠ 0 from enc_pos (okI_int _ (by unfold I64; omega))), hd]
  have hx : entX (recE r) = ⟨1, r, nv, [], 0⟩ := by
    show (⟨1, ⟨r.p, r.s, r.q, r.key, IntKind.u32.wrap r.val⟩, nv, [], 0⟩ : Ent) = _
    rw [u32_wrap hv]
  have hw : entW (recE r) = false := by
    show (((((false || false) || false) || false) || ((false || decide (r.val < 0)) || decide (4294967295 < r.val))) = false)
    unfold U32 at hv
    simp; omega
  show entG (recE r) = _
  unfold entG
  have hgd : (entX (recE r)).good = true := by
    rw [hx]
    show goodEnt 1 r [] 0 = true
    unfold goodEnt
    rw [hg]
    rfl
  rw [if_pos ⟨hw, rfl, hgd⟩, hx]
theorem opX_con {o : Opr} (h : o.ok) : Opr.con (opX (opE o)) = Opr.con o := by
  obtain ⟨h1, h2, h3, h4, h5, h6, h7⟩ := h
  show (o.kind, (o.ins.map iI).map Itc.n, o.arg, IntKind.u32.wrap o.num, o.rounds, o.test, IntKind.u32.wrap o.lim) = (o.kind, o.ins, o.arg, o.num, o.rounds, o.test, o.lim)
  rw [u32_wrap h3, u32_wrap h6, List.map_map]
  have : (Itc.n ∘ iI) = id := rfl
  rw [this, List.map_id]
theorem insW_ints (ns : List Int) : insW (ns.map iI) = false := by
  unfold insW
  rw [List.any_eq_false]
  intro i hi
  obtain ⟨n, -, rfl⟩ := List.mem_map.1 hi
  simp [Itc.k]
theorem opW_ok {o : Opr} (h : o.ok) : opW (opE o) = false := by
  obtain ⟨h1, h2, h3, h4, h5, h6, h7⟩ := h
  have e1 : opW1 (opE o) = false := rfl
  have e3 : insW (tkX (opE o).l 1 2).l = false := insW_ints o.ins
  have e2 : opW2 (opE o) = false := by
    show ((((((false || false) || ((false || decide (o.num < 0)) || decide (4294967295 < o.num))) || false) || false) || ((false || decide (o.lim < 0)) || decide (4294967295 < o.lim))) || false) = false
    unfold U32 at h3 h6
    simp; omega
  unfold opW
  rw [e1, e2, e3]
  rfl
theorem entD_dep {os : List Opr} (h : ∀ o ∈ os, o.ok) (hl : os.length ≤ 16) (hi : ∀ o ∈ os, o.ins.length ≤ 2) : ∃ os', entD (encB (depE os)) = some ⟨3, zR, nv, os', 0⟩ ∧ os'.map Opr.con = os.map Opr.con := by
  have hd := decB_enc (depE_ok h) (depE_sum hl hi) (by have := depE_len hl hi; omega)
  have hcon : ((os.map opE).map opX).map Opr.con = os.map Opr.con := by
    rw [List.map_map, List.map_map]
    refine List.map_congr_left (fun o ho => ?_)
    exact opX_con (h o ho)
  refine ⟨(os.map opE).map opX, ?_, hcon⟩
  unfold entD
  rw [if_neg (show (encB (depE os)).size ≠ 0 from enc_pos (okI_int _ (by unfold I64; omega))), hd]
  show entG (depE os) = _
  have hw : entW (depE os) = false := by
    show (false || (false || (os.map opE).any opW)) = false
    rw [Bool.false_or, Bool.false_or, List.any_eq_false]
    intro i hi
    obtain ⟨o, ho, rfl⟩ := List.mem_map.1 hi
    rw [opW_ok (h o ho)]; simp
  unfold entG
  have hx : entX (depE os) = ⟨3, zR, nv, (os.map opE).map opX, 0⟩ := rfl
  have hgd : (entX (depE os)).good = true := by
    rw [hx]
    show goodEnt 3 zR ((os.map opE).map opX) 0 = true
    have hio : insOk ((os.map opE).map opX) = true := by
      unfold insOk
      rw [List.all_eq_true]
      intro x hx
      obtain ⟨i, hi', rfl⟩ := List.mem_map.1 hx
      obtain ⟨o, ho, rfl⟩ := List.mem_map.1 hi'
      have : (opX (opE o)).ins = o.ins := by have := opX_con (h o ho); simp only [Opr.con, Prod.mk.injEq] at this; exact this.2.1
      rw [this]
      exact decide_eq_true (hi o ho)
    unfold goodEnt
    rw [hio]
    have hg : goodRec zR = true := by decide
    rw [hg]
    have hb : zR.bare = true := by decide
    simp [hl, hb]
  rw [if_pos ⟨hw, rfl, hgd⟩, hx]

/-! ### A ledger's texts -/
def headE (L : Led) : List Itc := [iI 0, iI L.sealed, iI L.decided, iI L.keep, iI (if L.dep then 1 else 0), iI (L.C 0), iI (L.C 1), iI (L.C 2), iI (L.C 3), iI (L.C 4), iI (L.C 5), iI (L.C 6), iI (L.C 7)]
def rowE (r : Row) : List Itc := [iI 1, iI r.p, iI r.q, iI r.l]
def listE (k ep : Int) (rs : List Rec) : List Itc := [iI k, iI ep, iL (rs.map fun r => iT (encB (recE r)))]
def graphE (os : List Opr) : List Itc := [iI 4, iT (encB (depE os))]
def textsOf (L : Led) : List ByteArray := encB (headE L) :: ((if L.dep = true then [encB (graphE L.ops)] else []) ++ (L.rows.map fun r => encB (rowE r)) ++ (L.bats.map fun b => encB (listE 2 b.ep b.recs)) ++ [encB (listE 3 0 L.opn)])

theorem listE_len {k ep : Int} {rs : List Rec} (hl : rs.length ≤ 512) (hk : ∀ r ∈ rs, r.key.size ≤ 32) : (enc (listE k ep rs)).length ≤ 59428 := by
  unfold enc listE
  simp only [List.flatMap_cons, List.flatMap_nil, List.length_append, List.length_nil]
  have h1 := int_len 7 k
  have h2 := int_len 7 ep
  have h3 := list_len 7 (rs.map fun r => iT (encB (recE r)))
  have h4 := flat_le (encI 7) 116 (rs.map fun r => iT (encB (recE r))) (fun i hi => by
    obtain ⟨r, hr, rfl⟩ := List.mem_map.1 hi
    have := text_len 6 (encB (recE r))
    have h5 := recE_len (hk r hr)
    rw [encB_size] at this
    exact Nat.le_trans this (by omega))
  rw [List.length_map] at h4
  simp only [Nat.reduceAdd] at *
  omega
theorem listE_ok {k ep : Int} {rs : List Rec} (hk : I64 k) (he : I64 ep) (h : ∀ r ∈ rs, r.key.size ≤ 32) : ∀ i ∈ listE k ep rs, okI 8 i := by
  intro i hi
  simp only [listE, List.mem_cons, List.not_mem_nil, or_false] at hi
  rcases hi with rfl | rfl | rfl
  · exact okI_int _ hk
  · exact okI_int _ he
  · refine okI_list _ (fun i hi => ?_)
    obtain ⟨r, hr, rfl⟩ := List.mem_map.1 hi
    refine okI_text _ ?_
    rw [encB_size]
    have := recE_len (h r hr)
    omega
theorem listE_sum {k ep : Int} {rs : List Rec} (hl : rs.length ≤ 512) : ((listE k ep rs).map (szI 8)).sum ≤ 4096 := by
  have h1 := sum_le (szI 7) 1 (rs.map fun r => iT (encB (recE r))) (fun i hi => by obtain ⟨r, hr, rfl⟩ := List.mem_map.1 hi; exact Nat.le_refl _)
  rw [List.length_map] at h1
  show 1 + (1 + ((1 + ((rs.map fun r => iT (encB (recE r))).map (szI 7)).sum) + 0)) ≤ 4096
  omega
theorem graphE_len {os : List Opr} (h : os.length ≤ 16) (hi : ∀ o ∈ os, o.ins.length ≤ 2) : (enc (graphE os)).length ≤ 1968 := by
  unfold enc graphE
  simp only [List.flatMap_cons, List.flatMap_nil, List.length_append, List.length_nil]
  have h1 := int_len 7 4
  have h2 := text_len 7 (encB (depE os))
  rw [encB_size] at h2
  have h3 := depE_len h hi
  simp only [Nat.reduceAdd] at *
  omega
theorem graphE_ok {os : List Opr} (h : os.length ≤ 16) (hi : ∀ o ∈ os, o.ins.length ≤ 2) : ∀ i ∈ graphE os, okI 8 i := by
  intro i hi'
  simp only [graphE, List.mem_cons, List.not_mem_nil, or_false] at hi'
  rcases hi' with rfl | rfl
  · exact okI_int _ (by unfold I64; omega)
  · refine okI_text _ ?_
    rw [encB_size]
    have := depE_len h hi
    omega
theorem ints_ok {ns : List Int} (h : ∀ n ∈ ns, I64 n) : ∀ i ∈ ns.map iI, okI 8 i := by
  intro i hi
  obtain ⟨n, hn, rfl⟩ := List.mem_map.1 hi
  exact okI_int _ (h n hn)
theorem ints_enc {ns : List Int} (h : ∀ n ∈ ns, I64 n) (hl : ns.length ≤ 100) : decB (encB (ns.map iI)) = some (ns.map iI) ∧ (enc (ns.map iI)).length ≤ ns.length * 12 := by
  have h1 : (enc (ns.map iI)).length ≤ ns.length * 12 := ints_len 7 ns
  have h2 := sum_le (szI 8) 1 (ns.map iI) (fun i hi => by obtain ⟨n, -, rfl⟩ := List.mem_map.1 hi; exact Nat.le_refl _)
  rw [List.length_map] at h2
  exact ⟨decB_enc (ints_ok h) (by omega) (by omega), h1⟩
def headN (L : Led) : List Int := [0, L.sealed, L.decided, L.keep, (if L.dep then 1 else 0), L.C 0, L.C 1, L.C 2, L.C 3, L.C 4, L.C 5, L.C 6, L.C 7]
def rowN (r : Row) : List Int := [1, r.p, r.q, r.l]
theorem headE_eq (L : Led) : headE L = (headN L).map iI := rfl
theorem rowE_eq (r : Row) : rowE r = (rowN r).map iI := rfl
end Go.Proofs.Ytkabfjbmofpkdaa

/- Layer 14, plain: what is read of texts fits, and how much there is of it. -/
namespace Go.Proofs.Ytkabfjbmofpkdaa
open Go.RowKit
set_option linter.unusedSimpArgs false
set_option linter.unusedVariables false

/-! ### What is read fits -/
theorem dig_next {acc c j : Nat} (hacc : acc < 2 ^ (7 * j)) : acc + c % 128 * 2 ^ (7 * j) < 2 ^ (7 * (j + 1)) := by
  have e : 2 ^ (7 * (j + 1)) = 128 * 2 ^ (7 * j) := by rw [show 7 * (j + 1) = 7 * j + 7 by omega, Nat.pow_add]; omega
  rw [e]
  have h2 : c % 128 * 2 ^ (7 * j) ≤ 127 * 2 ^ (7 * j) := Nat.mul_le_mul_right _ (by omega)
  omega
theorem rdN_lt2 : ∀ (f j n : Nat) (r : List UInt8) (x : Nat) (r' : List UInt8), f + j = 10 → n < 2 ^ (7 * j) → rdN f j n r = some (x, r') → x < 18446744073709551616
  | 0, _, _, _, _, _, _, _, h => by cases h
  | _ + 1, _, _, [], _, _, _, _, h => by cases h
  | f + 1, j, n, c :: r, x, r', hf, hn, h => by
    unfold rdN at h
    split at h
    · cases h
    · rename_i hb
      split at h
      · simp only [Option.some.injEq, Prod.mk.injEq] at h
        obtain ⟨rfl, _⟩ := h
        by_cases h9 : j = 9
        · subst h9
          have hc : c.toNat ≤ 1 := by omega
          have e : (2 : Nat) ^ (7 * 9) = 9223372036854775808 := by decide
          rw [e] at hn ⊢
          have : c.toNat % 128 * 9223372036854775808 ≤ 1 * 9223372036854775808 := Nat.mul_le_mul_right _ (by omega)
          omega
        · have h1 := dig_next (c := c.toNat) hn
          have h3 : 2 ^ (7 * (j + 1)) ≤ 2 ^ 63 := Nat.pow_le_pow_right (by decide) (by omega)
          have e2 : (2 : Nat) ^ 63 = 9223372036854775808 := by decide
          omega
      · exact rdN_lt2 f (j + 1) _ r x r' (by omega) (dig_next hn) h
theorem readNum_lt2 {r r' : List UInt8} {x : Nat} (h : readNum r = some (x, r')) : x < 18446744073709551616 := rdN_lt2 10 0 0 r x r' rfl (by decide) h
theorem unzig_ok {n : Nat} (h : n < 18446744073709551616) : I64 (unzig n) := by
  unfold unzig I64
  split <;> omega
/-- Numbers that fit, texts and lists that aren't longer than m. -/
def wfI : Nat → Nat → Itc → Prop
  | _, 0, _ => False
  | m, d + 1, .mk k n s l => I64 n ∧ s.size ≤ m ∧ l.length ≤ m ∧ ∀ i ∈ l, wfI m d i
theorem wfI_mono {m m' : Nat} (hm : m ≤ m') : ∀ {d : Nat} {i : Itc}, wfI m d i → wfI m' d i
  | 0, _, h => h
  | d + 1, .mk k n s l, ⟨h1, h2, h3, h4⟩ => ⟨h1, by omega, by omega, fun i hi => wfI_mono hm (h4 i hi)⟩
theorem wfI_n {m d : Nat} {i : Itc} (h : wfI m d i) : I64 i.n := by
  cases d with
  | zero => exact h.elim
  | succ d => obtain ⟨k, n, s, l⟩ := i; exact h.1
theorem wfI_s {m d : Nat} {i : Itc} (h : wfI m d i) : i.s.size ≤ m := by
  cases d with
  | zero => exact h.elim
  | succ d => obtain ⟨k, n, s, l⟩ := i; exact h.2.1
theorem wfI_len {m d : Nat} {i : Itc} (h : wfI m d i) : i.l.length ≤ m := by
  cases d with
  | zero => exact h.elim
  | succ d => obtain ⟨k, n, s, l⟩ := i; exact h.2.2.1
theorem wfI_l {m d : Nat} {i : Itc} (h : wfI m (d + 1) i) : ∀ j ∈ i.l, wfI m d j := by
  obtain ⟨k, n, s, l⟩ := i; exact h.2.2.2
theorem decN_wf {d : Nat} (hf : ∀ r c i r' c', decI d r c = some (i, r', c') → wfI r.length d i ∧ r'.length < r.length) :
    ∀ (n : Nat) (r : List UInt8) (c : Nat) (l : List Itc) (r' : List UInt8) (c' : Nat), decN (decI d) n r c = some (l, r', c') → (∀ i ∈ l, wfI r.length d i) ∧ l.length + r'.length ≤ r.length
  | 0, r, c, l, r', c', h => by
    simp only [decN, Option.some.injEq, Prod.mk.injEq] at h
    obtain ⟨rfl, rfl, rfl⟩ := h
    exact ⟨fun i hi => (List.not_mem_nil hi).elim, by simp⟩
  | n + 1, r, c, l, r', c', h => by
    unfold decN at h
    split at h
    · cases h
    · rename_i i r1 c1 h1
      have h2 := hf _ _ _ _ _ h1
      split at h
      · cases h
      · rename_i l2 r2 c2 h3
        have h4 := decN_wf hf n r1 c1 l2 r2 c2 h3
        simp only [Option.some.injEq, Prod.mk.injEq] at h
        obtain ⟨rfl, rfl, rfl⟩ := h
        refine ⟨fun x hx => ?_, by simp; omega⟩
        rcases List.mem_cons.1 hx with rfl | hx
        · exact h2.1
        · exact wfI_mono (by omega) (h4.1 x hx)
theorem decI_wf : ∀ (d : Nat) (r : List UInt8) (c : Nat) (i : Itc) (r' : List UInt8) (c' : Nat), decI d r c = some (i, r', c') → wfI r.length d i ∧ r'.length < r.length
  | 0, _, _, _, _, _, h => by cases h
  | d + 1, r, c, i, r', c', h => by
    have z : I64 0 := by unfold I64; omega
    unfold decI at h
    split at h
    · cases h
    · split at h
      · cases h
      · rename_i k r1
        split at h
        · cases h
        · split at h
          · cases h
          · rename_i n r2 hn
            have h1 := readNum_len hn
            have h2 := readNum_lt2 hn
            unfold decK at h
            split at h
            · simp only [Option.some.injEq, Prod.mk.injEq] at h
              obtain ⟨rfl, rfl, _⟩ := h
              exact ⟨⟨unzig_ok h2, Nat.zero_le _, Nat.zero_le _, fun i hi => by cases hi⟩, by simp; omega⟩
            · split at h
              · cases h
              · split at h
                · split at h
                  · cases h
                  · simp only [Option.some.injEq, Prod.mk.injEq] at h
                    obtain ⟨rfl, rfl, _⟩ := h
                    refine ⟨⟨z, ?_, Nat.zero_le _, fun i hi => by cases hi⟩, by simp; omega⟩
                    show (r2.take n).toArray.size ≤ _
                    simp; omega
                · split at h
                  · cases h
                  · rename_i l r3 c3 h3
                    have h5 := decN_wf (decI_wf d) _ _ _ _ _ _ h3
                    simp only [Option.some.injEq, Prod.mk.injEq] at h
                    obtain ⟨rfl, rfl, _⟩ := h
                    refine ⟨⟨z, Nat.zero_le _, by simp; omega, fun i hi => wfI_mono (by simp; omega) (h5.1 i hi)⟩, by simp; omega⟩
theorem decA_wf : ∀ (f : Nat) (r : List UInt8) (c : Nat) (l : List Itc), decA f r c = some l → ∀ i ∈ l, wfI r.length 8 i
  | 0, _, _, _, h => by cases h
  | f + 1, r, c, l, h => by
    unfold decA at h
    split at h
    · simp only [Option.some.injEq] at h
      subst h
      intro i hi; cases hi
    · rename_i k r1
      split at h
      · cases h
      · rename_i i r' c' h1
        have h2 := decI_wf 8 _ _ _ _ _ h1
        split at h
        · cases h
        · rename_i l2 h3
          have h4 := decA_wf f _ _ _ h3
          simp only [Option.some.injEq] at h
          subst h
          intro x hx
          rcases List.mem_cons.1 hx with rfl | hx
          · exact h2.1
          · exact wfI_mono (by omega) (h4 x hx)
theorem decB_wf {s : ByteArray} {is : List Itc} (h : decB s = some is) : ∀ i ∈ is, wfI s.size 8 i := by
  unfold decB dec at h
  split at h
  · cases h
  · have := decA_wf _ _ _ _ h
    intro i hi
    have h1 := this i hi
    rw [Array.length_toList] at h1
    exact h1
theorem zI_wf (m : Nat) : wfI m 1 zI := ⟨by unfold I64; omega, Nat.zero_le _, Nat.zero_le _, fun i hi => by cases hi⟩
theorem tkX_mem (l : List Itc) (i : Nat) (k : Int) : tkX l i k = zI ∨ tkX l i k ∈ l := by
  unfold tkX
  split
  · rename_i x hx
    split
    · exact .inr (List.mem_of_getElem? hx)
    · exact .inl rfl
  · exact .inl rfl
theorem tkX_n {m d : Nat} {l : List Itc} (h : ∀ i ∈ l, wfI m d i) (i : Nat) (k : Int) : I64 (tkX l i k).n := by
  rcases tkX_mem l i k with e | e
  · rw [e]; unfold I64; decide
  · exact wfI_n (h _ e)
theorem tkX_l {m d : Nat} {l : List Itc} (h : ∀ i ∈ l, wfI m (d + 1) i) (i : Nat) (k : Int) : ∀ j ∈ (tkX l i k).l, wfI m d j := by
  rcases tkX_mem l i k with e | e
  · rw [e]; intro j hj; cases hj
  · exact wfI_l (h _ e)
theorem nmX_ok (l : List Itc) (i : Nat) : U32 (nmX l i) := by
  unfold nmX U32
  simp [IntKind.wrap, IntKind.bits, IntKind.signed]; omega
theorem opX_ok {m d : Nat} {x : Itc} (h : wfI m (d + 3) x) : (opX x).ok := by
  have hl := wfI_l h
  refine ⟨tkX_n hl 0 0, tkX_n hl 2 0, nmX_ok _ _, tkX_n hl 4 0, tkX_n hl 5 0, nmX_ok _ _, fun n hn => ?_⟩
  obtain ⟨i, hi, rfl⟩ := List.mem_map.1 hn
  exact wfI_n (tkX_l hl 1 2 i hi)
theorem zR_ok : zR.ok := ⟨by unfold I64; decide, by unfold I64; decide, by unfold I64; decide, by decide⟩
theorem entG_ok {m : Nat} {l : List Itc} {E : Ent} (hl : ∀ i ∈ l, wfI m 8 i) (h : entG l = some E) : E.good = true ∧ I64 E.k ∧ E.r.ok ∧ I64 E.n ∧ ∀ o ∈ E.os, o.ok := by
  have z : I64 0 := by unfold I64; omega
  unfold entG at h
  split at h
  · rename_i hc
    simp only [Option.some.injEq] at h
    subst h
    have hg := hc.2.2
    refine ⟨hg, ?_⟩
    have hgr : goodRec (entX l).r = true := by
      unfold Ent.good goodEnt at hg
      simp only [Bool.and_eq_true] at hg
      exact hg.2
    have hks : (entX l).r.key.size ≤ 9223372036854775807 := by
      unfold goodRec at hgr
      simp at hgr
      omega
    revert hks
    unfold entX
    split
    · intro hks
      exact ⟨by unfold I64; simp, ⟨tkX_n hl 1 0, tkX_n hl 2 0, tkX_n hl 3 0, hks⟩, z, fun o ho => by cases ho⟩
    · split
      · intro _
        refine ⟨by unfold I64; simp, zR_ok, z, fun o ho => ?_⟩
        obtain ⟨x, hx, rfl⟩ := List.mem_map.1 ho
        exact opX_ok (d := 4) (tkX_l hl 1 2 x hx)
      · intro _
        exact ⟨tkX_n hl 0 0, zR_ok, tkX_n hl 1 0, fun o ho => by cases ho⟩
  · cases h
theorem entD_ok {s : ByteArray} {E : Ent} (h : entD s = some E) : E.good = true ∧ I64 E.k ∧ E.r.ok ∧ I64 E.n ∧ ∀ o ∈ E.os, o.ok := by
  unfold entD at h
  split at h
  · simp only [Option.some.injEq] at h
    subst h
    exact ⟨by decide, by unfold I64; decide, zR_ok, by unfold I64; decide, fun o ho => by cases ho⟩
  · split at h
    · cases h
    · rename_i l hl
      exact entG_ok (decB_wf hl) h
theorem good_ops {E : Ent} (h : E.good = true) : E.os.length ≤ 16 ∧ ∀ o ∈ E.os, o.ins.length ≤ 2 := by
  unfold Ent.good goodEnt at h
  simp only [Bool.and_eq_true, decide_eq_true_eq] at h
  refine ⟨by omega, fun o ho => ?_⟩
  have := List.all_eq_true.1 h.1.2 o ho
  exact of_decide_eq_true this
theorem good_entRec {E : Ent} (h : E.good = true) : goodRec E.r = true := by
  unfold Ent.good goodEnt at h
  simp only [Bool.and_eq_true] at h
  exact h.2

/-! ### A ledger's texts are read -/
def recB (i : Itc) : Bool := decide (i.k = 1) && (match entD i.s with | some E => decide (E.k = 1) | none => false)
def recV (i : Itc) : Rec := match entD i.s with
  | some E => E.r
  | none => zR
def intsB (l : List Itc) (n : Nat) : Bool := l.all (fun i => decide (i.k = 0)) && decide (l.length = n)
def listB (l : List Itc) : Bool := match l with
  | [_, e, x] => decide (e.k = 0) && decide (x.k = 2) && x.l.all recB
  | _ => false
def nth (l : List Itc) (i : Nat) : Int := (l.getD i zI).n
def Led.headD (L : Led) (l : List Itc) : Led := { L with sealed := nth l 1, decided := nth l 2, keep := nth l 3, dep := decide (nth l 4 = 1), C := fun i => if i < 8 then nth l (5 + i) else 0 }
def actD (L : Led) (l : List Itc) : Option Led :=
  if nth l 0 = 0 then (if intsB l.tail 12 = true then some (L.headD l) else none)
  else if nth l 0 = 4 then (if l.length = 2 then (match entD (l.getD 1 zI).s with | some E => if E.k = 3 then some { L with ops := E.os } else none | none => none) else none)
  else if nth l 0 = 1 then (if intsB l.tail 3 = true then some { L with rows := L.rows ++ [⟨nth l 1, nth l 2, nth l 3⟩] } else none)
  else if nth l 0 = 2 then (if listB l = true then some { L with bats := L.bats ++ [⟨nth l 1, nv, (l.getD 2 zI).l.map recV⟩] } else none)
  else if nth l 0 = 3 then (if listB l = true then some { L with opn := (l.getD 2 zI).l.map recV } else none)
  else none
/-- May a text of these items stand there? -/
def okD (first : Bool) (l : List Itc) : Bool := match l with
  | [] => false
  | h :: _ => decide (h.k = 0) && (decide (h.n = 0) == first)
def stepT (L : Led) (first : Bool) (t : ByteArray) : Option Led := match decB t with
  | none => none
  | some l => if okD first l = true then actD L l else none
def foldTo (ss : List ByteArray) : Nat → Option Led
  | 0 => some zeroL
  | k + 1 => match foldTo ss k, ss[k]? with
    | some L, some t => stepT L (k == 0) t
    | _, _ => none
def ledD (ss : List ByteArray) : Option Led := if ss.length = 0 then none else match foldTo ss ss.length with
  | none => none
  | some L => if L.good = true then some L else none
theorem foldTo_succ {ss : List ByteArray} {k : Nat} {L : Led} {t : ByteArray} (h : foldTo ss k = some L) (ht : ss[k]? = some t) : foldTo ss (k + 1) = stepT L (k == 0) t := by
  show (match foldTo ss k, ss[k]? with | some L, some t => stepT L (k == 0) t | _, _ => none) = _
  rw [h, ht]
theorem foldTo_none {ss : List ByteArray} {k : Nat} (h : foldTo ss k = none) : foldTo ss (k + 1) = none := by
  show (match foldTo ss k, ss[k]? with | some L, some t => stepT L (k == 0) t | _, _ => none) = _
  rw [h]
theorem foldTo_stuck {ss : List ByteArray} {k : Nat} (h : foldTo ss k = none) : ∀ m, k ≤ m → foldTo ss m = none := by
  intro m hm
  induction m with
  | zero => obtain rfl : k = 0 := by omega
            exact h
  | succ m ih =>
    rcases Nat.lt_or_ge k (m + 1) with h1 | h1
    · exact foldTo_none (ih (by omega))
    · obtain rfl : k = m + 1 := by omega
      exact h
theorem ledD_none {ss : List ByteArray} {k : Nat} (h : foldTo ss k = none) (hk : k ≤ ss.length) : ledD ss = none := by
  unfold ledD
  split
  · rfl
  · rw [foldTo_stuck h _ hk]

/-! ### Back -/
theorem intsB_ints (ns : List Int) : intsB (ns.map iI) ns.length = true := by
  unfold intsB
  rw [Bool.and_eq_true]
  refine ⟨List.all_eq_true.2 (fun i hi => ?_), by simp⟩
  obtain ⟨n, -, rfl⟩ := List.mem_map.1 hi
  rfl
theorem recB_enc {r : Rec} (hg : goodRec r = true) (h : r.ok) (hv : U32 r.val) : recB (iT (encB (recE r))) = true ∧ recV (iT (encB (recE r))) = r := by
  have e := entD_rec hg h hv
  have e1 : (iT (encB (recE r))).s = encB (recE r) := rfl
  unfold recB recV
  rw [e1, e]
  exact ⟨rfl, rfl⟩
theorem recs_enc {rs : List Rec} (hg : ∀ r ∈ rs, goodRec r = true ∧ r.ok ∧ U32 r.val) : (rs.map fun r => iT (encB (recE r))).all recB = true ∧ (rs.map fun r => iT (encB (recE r))).map recV = rs := by
  refine ⟨List.all_eq_true.2 (fun i hi => ?_), ?_⟩
  · obtain ⟨r, hr, rfl⟩ := List.mem_map.1 hi
    obtain ⟨h1, h2, h3⟩ := hg r hr
    exact (recB_enc h1 h2 h3).1
  · rw [List.map_map]
    conv => rhs; rw [← List.map_id rs]
    refine List.map_congr_left (fun r hr => ?_)
    obtain ⟨h1, h2, h3⟩ := hg r hr
    exact (recB_enc h1 h2 h3).2
theorem key_le {r : Rec} (h : goodRec r = true) : r.key.size ≤ 32 := by unfold goodRec at h; simp at h; omega
theorem step_list {k ep : Int} {rs : List Rec} (L : Led) (hk : I64 k) (hk0 : k ≠ 0) (he : I64 ep) (hl : rs.length ≤ 512) (hg : ∀ r ∈ rs, goodRec r = true ∧ r.ok ∧ U32 r.val) : stepT L false (encB (listE k ep rs)) = actD L (listE k ep rs) ∧ listB (listE k ep rs) = true ∧ ((listE k ep rs).getD 2 zI).l.map recV = rs := by
  have hd := decB_enc (listE_ok (k := k) (ep := ep) hk he (fun r hr => key_le (hg r hr).1)) (listE_sum (k := k) (ep := ep) hl) (by have := listE_len (k := k) (ep := ep) hl (fun r hr => key_le (hg r hr).1); omega)
  have h2 := recs_enc hg
  refine ⟨?_, ?_, h2.2⟩
  · unfold stepT
    rw [hd]
    show (if (decide ((0 : Int) = 0) && (decide (k = 0) == false)) = true then _ else _) = _
    rw [if_pos (by simp [hk0])]
  · show (decide ((0 : Int) = 0) && decide ((2 : Int) = 2) && (rs.map fun r => iT (encB (recE r))).all recB) = true
    rw [h2.1]
    rfl
theorem step_row (L : Led) {r : Row} (h : r.ok) : stepT L false (encB (rowE r)) = some { L with rows := L.rows ++ [r] } := by
  have hn : ∀ n ∈ rowN r, I64 n := by
    intro n hn
    simp only [rowN, List.mem_cons, List.not_mem_nil, or_false] at hn
    rcases hn with rfl | rfl | rfl | rfl
    · unfold I64; omega
    · exact h.1
    · exact h.2.1
    · exact h.2.2
  have hd := (ints_enc hn (by simp [rowN, headN])).1
  unfold stepT
  rw [rowE_eq, hd]
  show (if true = true then actD L ((rowN r).map iI) else none) = _
  rw [if_pos rfl]
  show (if intsB ([r.p, r.q, r.l].map iI) 3 = true then some { L with rows := L.rows ++ [(⟨r.p, r.q, r.l⟩ : Row)] } else none) = _
  rw [if_pos (show intsB ([r.p, r.q, r.l].map iI) 3 = true from intsB_ints [r.p, r.q, r.l])]
theorem step_head (M L : Led) (h : L.Ok) (hC : ∀ i, 8 ≤ i → L.C i = 0) : stepT M true (encB (headE L)) = some { M with sealed := L.sealed, decided := L.decided, keep := L.keep, dep := L.dep, C := L.C } := by
  have hn : ∀ n ∈ headN L, I64 n := by
    intro n hn
    simp only [headN, List.mem_cons, List.not_mem_nil, or_false] at hn
    rcases hn with rfl | rfl | rfl | rfl | rfl | rfl | rfl | rfl | rfl | rfl | rfl | rfl | rfl
    · unfold I64; omega
    · exact h.nums.1
    · exact h.nums.2.1
    · exact h.nums.2.2
    · unfold I64; split <;> omega
    all_goals exact h.C _ (by omega)
  have hd := (ints_enc hn (by simp [rowN, headN])).1
  unfold stepT
  rw [headE_eq, hd]
  show (if true = true then actD M ((headN L).map iI) else none) = _
  rw [if_pos rfl]
  show (if intsB ((headN L).tail.map iI) 12 = true then some (M.headD ((headN L).map iI)) else none) = _
  rw [if_pos (show intsB ((headN L).tail.map iI) 12 = true from intsB_ints (headN L).tail)]
  congr 1
  have e1 : decide ((if L.dep then 1 else 0 : Int) = 1) = L.dep := by cases L.dep <;> rfl
  have e2 : (fun i => if i < 8 then nth ((headN L).map iI) (5 + i) else 0) = L.C := by
    funext i
    split
    · rename_i hi
      rcases i with _ | _ | _ | _ | _ | _ | _ | _ | i
      all_goals first | rfl | omega
    · exact (hC i (by omega)).symm
  show ({ M with sealed := L.sealed, decided := L.decided, keep := L.keep, dep := decide ((if L.dep then 1 else 0 : Int) = 1), C := fun i => if i < 8 then nth ((headN L).map iI) (5 + i) else 0 } : Led) = _
  rw [e1, e2]
theorem step_graph (M : Led) {os : List Opr} (h : ∀ o ∈ os, o.ok) (hl : os.length ≤ 16) (hi : ∀ o ∈ os, o.ins.length ≤ 2) : ∃ os', stepT M false (encB (graphE os)) = some { M with ops := os' } ∧ os'.map Opr.con = os.map Opr.con := by
  have hd := decB_enc (graphE_ok hl hi) (by show 1 + (1 + 0) ≤ 4096; omega) (by have := graphE_len hl hi; omega)
  obtain ⟨os', he, hc⟩ := entD_dep h hl hi
  refine ⟨os', ?_, hc⟩
  unfold stepT
  rw [hd]
  show (match entD (encB (depE os)) with | some E => if E.k = 3 then some { M with ops := E.os } else none | none => none) = _
  rw [he]
  rfl
theorem fold_rows {ss : List ByteArray} : ∀ (rows : List Row) (k : Nat) (M : Led), foldTo ss k = some M → 0 < k → (∀ r ∈ rows, r.ok) → (∀ j r, rows[j]? = some r → ss[k + j]? = some (encB (rowE r))) → foldTo ss (k + rows.length) = some { M with rows := M.rows ++ rows }
  | [], k, M, h, _, _, _ => by simpa using h
  | r :: rows, k, M, h, hk, hok, hs => by
    have h1 := foldTo_succ h (hs 0 r rfl)
    have h0 : (k == 0) = false := beq_eq_false_iff_ne.2 (by omega)
    rw [h0, step_row M (hok r (by simp))] at h1
    have h2 := fold_rows rows (k + 1) _ h1 (by omega) (fun x hx => hok x (by simp [hx])) (fun j x hj => by have := hs (j + 1) x hj; rwa [show k + (j + 1) = k + 1 + j by omega] at this)
    rw [show k + (r :: rows).length = k + 1 + rows.length by simp; omega, h2]
    simp
theorem fold_bats {ss : List ByteArray} : ∀ (bs : List Bt) (k : Nat) (M : Led), foldTo ss k = some M → 0 < k → (∀ b ∈ bs, I64 b.ep ∧ b.recs.length ≤ 512 ∧ ∀ r ∈ b.recs, goodRec r = true ∧ r.ok ∧ U32 r.val) → (∀ j b, bs[j]? = some b → ss[k + j]? = some (encB (listE 2 b.ep b.recs))) → foldTo ss (k + bs.length) = some { M with bats := M.bats ++ bs.map (fun b => (⟨b.ep, nv, b.recs⟩ : Bt)) }
  | [], k, M, h, _, _, _ => by simpa using h
  | b :: bs, k, M, h, hk, hok, hs => by
    have h1 := foldTo_succ h (hs 0 b rfl)
    have h0 : (k == 0) = false := beq_eq_false_iff_ne.2 (by omega)
    obtain ⟨hb1, hb2, hb3⟩ := hok b (by simp)
    obtain ⟨e1, e2, e3⟩ := step_list (k := 2) M (by unfold I64; omega) (by omega) hb1 hb2 hb3
    have e4 : actD M (listE 2 b.ep b.recs) = some { M with bats := M.bats ++ [(⟨b.ep, nv, b.recs⟩ : Bt)] } := by
      show (if listB (listE 2 b.ep b.recs) = true then some { M with bats := M.bats ++ [(⟨b.ep, nv, ((listE 2 b.ep b.recs).getD 2 zI).l.map recV⟩ : Bt)] } else none) = _
      rw [if_pos e2, e3]
    rw [h0, e1, e4] at h1
    have h2 := fold_bats bs (k + 1) _ h1 (by omega) (fun x hx => hok x (by simp [hx])) (fun j x hj => by have := hs (j + 1) x hj; rwa [show k + (j + 1) = k + 1 + j by omega] at this)
    rw [show k + (b :: bs).length = k + 1 + bs.length by simp; omega, h2]
    simp
/-- A ledger in form is read of its texts. -/
theorem textsOf_back {L : Led} (hg : L.good = true) (hok : L.Ok) (hv : ∀ r ∈ L.all, U32 r.val) (hC : ∀ i, 8 ≤ i → L.C i = 0) : ∃ M, ledD (textsOf L) = some M ∧ SameL L M := by
  have hgi := (good_iff L).1 hg
  have hopn : L.opn.length ≤ 512 := hgi.1.2.1.1
  have hall : ∀ r ∈ L.all, goodRec r = true := by
    unfold Led.good at hg
    simp only [Bool.and_eq_true] at hg
    exact fun r hr => List.all_eq_true.1 hg.1.2 r hr
  have hop : ∀ r ∈ L.opn, goodRec r = true ∧ r.ok ∧ U32 r.val := fun r hr => by
    have : r ∈ L.all := List.mem_append.2 (.inr hr)
    exact ⟨hall r this, hok.opn r hr, hv r this⟩
  have hbt : ∀ b ∈ L.bats, I64 b.ep ∧ b.recs.length ≤ 512 ∧ ∀ r ∈ b.recs, goodRec r = true ∧ r.ok ∧ U32 r.val := fun b hb => by
    refine ⟨(hok.bats b hb).1, ?_, fun r hr => ?_⟩
    · obtain ⟨i, hi, rfl⟩ := List.getElem_of_mem hb
      by_cases h5 : L.bats[i].recs.length ≤ 512
      · exact h5
      · have := no_epochs i hi (fun h => h5 h.1)
        rw [hg] at this; cases this
    · have : r ∈ L.all := List.mem_append.2 (.inl (List.mem_flatMap.2 ⟨b, hb, hr⟩))
      exact ⟨hall r this, (hok.bats b hb).2 r hr, hv r this⟩
  generalize hss : textsOf L = ss
  have hlen : ss.length = 1 + (if L.dep = true then 1 else 0) + L.rows.length + L.bats.length + 1 := by
    rw [← hss]
    unfold textsOf
    split <;> simp <;> omega
  have h0 : foldTo ss 1 = some { zeroL with sealed := L.sealed, decided := L.decided, keep := L.keep, dep := L.dep, C := L.C } := by
    have := foldTo_succ (ss := ss) (k := 0) (L := zeroL) (t := encB (headE L)) rfl (by rw [← hss]; rfl)
    rw [this]
    exact step_head zeroL L hok hC
  have hg1 : ∃ os', foldTo ss (1 + (if L.dep = true then 1 else 0)) = some { zeroL with sealed := L.sealed, decided := L.decided, keep := L.keep, dep := L.dep, C := L.C, ops := os' } ∧ os'.map Opr.con = L.ops.map Opr.con := by
    by_cases hd : L.dep = true
    · rw [if_pos hd]
      have hck : checkOk L.ops = true := by
        cases h : checkOk L.ops with
        | true => rfl
        | false => have := no_graph hd h; rw [hg] at this; cases this
      unfold checkOk at hck
      simp only [Bool.and_eq_true, decide_eq_true_eq] at hck
      have hin : ∀ o ∈ L.ops, o.ins.length ≤ 2 := fun o ho => by
        obtain ⟨i, hi, rfl⟩ := List.getElem_of_mem ho
        have h2 := List.all_eq_true.1 hck.2 i (by simp; exact hi)
        simp only [List.getElem?_eq_getElem hi] at h2
        unfold Opr.right at h2
        simp only [Bool.and_eq_true, decide_eq_true_eq] at h2
        rw [h2.1.1.2]
        unfold wantOf
        split
        · omega
        · split <;> omega
      obtain ⟨os', e1, e2⟩ := step_graph { zeroL with sealed := L.sealed, decided := L.decided, keep := L.keep, dep := L.dep, C := L.C } hok.ops hck.1.2 hin
      have := foldTo_succ h0 (t := encB (graphE L.ops)) (by rw [← hss]; unfold textsOf; rw [if_pos hd]; rfl)
      exact ⟨os', by rw [this]; exact e1, e2⟩
    · rw [if_neg hd]
      have hd' : L.dep = false := by simpa using hd
      have hz : L.ops.length = 0 := by
        by_cases h : L.ops.length = 0 ∧ L.sealed ≤ 0
        · exact h.1
        · have := no_bare hd' h; rw [hg] at this; cases this
      have hz' : L.ops = [] := List.length_eq_zero_iff.1 hz
      exact ⟨[], h0, by rw [hz']⟩
  obtain ⟨os', hg1, hcon⟩ := hg1
  generalize hk1 : 1 + (if L.dep = true then 1 else 0) = k1 at *
  have hdrop : ss = (encB (headE L) :: (if L.dep = true then [encB (graphE L.ops)] else [])) ++ ((L.rows.map fun r => encB (rowE r)) ++ ((L.bats.map fun b => encB (listE 2 b.ep b.recs)) ++ [encB (listE 3 0 L.opn)])) := by
    rw [← hss]
    unfold textsOf
    simp
  have hk1l : (encB (headE L) :: (if L.dep = true then [encB (graphE L.ops)] else [])).length = k1 := by
    rw [← hk1]
    split <;> rfl
  have hgr := fold_rows L.rows k1 _ hg1 (by omega) hok.rows (fun j r hj => by
    rw [hdrop, List.getElem?_append_right (by omega), hk1l, Nat.add_sub_cancel_left, List.getElem?_append_left (by rw [List.length_map]; exact (List.getElem?_eq_some_iff.1 hj).1), List.getElem?_map, hj]
    rfl)
  have hgb := fold_bats L.bats (k1 + L.rows.length) _ hgr (by omega) hbt (fun j b hj => by
    rw [hdrop, List.getElem?_append_right (by omega), hk1l, List.getElem?_append_right (by rw [List.length_map]; omega), List.length_map, show k1 + L.rows.length + j - k1 - L.rows.length = j by omega, List.getElem?_append_left (by rw [List.length_map]; exact (List.getElem?_eq_some_iff.1 hj).1), List.getElem?_map, hj]
    rfl)
  have hgo := foldTo_succ hgb (t := encB (listE 3 0 L.opn)) (by
    rw [hdrop, List.getElem?_append_right (by omega), hk1l, List.getElem?_append_right (by rw [List.length_map]; omega), List.length_map, List.getElem?_append_right (by rw [List.length_map]; omega), List.length_map, show k1 + L.rows.length + L.bats.length - k1 - L.rows.length - L.bats.length = 0 by omega]
    rfl)
  obtain ⟨e1, e2, e3⟩ := step_list (k := 3) (ep := 0) { zeroL with sealed := L.sealed, decided := L.decided, keep := L.keep, dep := L.dep, C := L.C, ops := os', rows := zeroL.rows ++ L.rows, bats := zeroL.bats ++ L.bats.map (fun b : Bt => (⟨b.ep, nv, b.recs⟩ : Bt)) } (by unfold I64; omega) (by omega) (by unfold I64; omega) hopn hop
  have e4 : ∀ M, actD M (listE 3 0 L.opn) = some { M with opn := L.opn } := fun M => by
    show (if listB (listE 3 0 L.opn) = true then some { M with opn := ((listE 3 0 L.opn).getD 2 zI).l.map recV } else none) = _
    rw [if_pos e2, e3]
  rw [beq_eq_false_iff_ne.2 (show k1 + L.rows.length + L.bats.length ≠ 0 by omega), e1, e4] at hgo
  have hs : SameL L { zeroL with sealed := L.sealed, decided := L.decided, keep := L.keep, dep := L.dep, C := L.C, ops := os', rows := zeroL.rows ++ L.rows, bats := zeroL.bats ++ L.bats.map (fun b : Bt => (⟨b.ep, nv, b.recs⟩ : Bt)), opn := L.opn } := by
    refine ⟨?_, rfl, rfl, ?_, rfl, rfl, rfl, hcon, rfl⟩
    · show [] ++ L.rows = L.rows
      rw [List.nil_append]
    · show ([] ++ L.bats.map (fun b : Bt => (⟨b.ep, nv, b.recs⟩ : Bt))).map Bt.con = L.bats.map Bt.con
      rw [List.nil_append, List.map_map]
      rfl
  refine ⟨_, ?_, hs⟩
  unfold ledD
  rw [if_neg (by omega), show ss.length = k1 + L.rows.length + L.bats.length + 1 by omega, hgo]
  simp only
  rw [if_pos (by rw [hs.good]; exact hg)]
end Go.Proofs.Ytkabfjbmofpkdaa

/- Layer 9: rows of items that are built; a graph's operators as an item, walked. -/
namespace Go.Proofs.Ytkabfjbmofpkdaa
open Go.RowKit Go.Shelf
set_option linter.unusedVariables false
set_option linter.unusedSimpArgs false
set_option maxRecDepth 100000

/-- A row of items that is being built, its children elsewhere. -/
structure IRow (w : World) (base d : Nat) (v : Value) (xs : List Iv) : Prop where
  own : w.ownsRow base 100 4 v xs.length (flatF Iv.cells xs)
  ch : ∀ x ∈ xs, ItR (fun j => base ≤ j ∧ j < w.heap.size ∧ v.ownBlock ≠ some j) d w x.v x.c.l
theorem IRow.nil (w : World) (base d : Nat) : IRow w base d (.slice none 0 0) [] := ⟨World.ownsRow_nil _ _ _ _, fun x hx => by cases hx⟩
theorem IRow.below {w w' : World} {base d : Nat} {v : Value} {xs : List Iv} (h : IRow w base d v xs) (hb : Below w.heap.size w w') : IRow w' base d v xs :=
  ⟨ownsRow_below h.own hb (Nat.le_refl _), fun x hx => (ItR.below hb (fun j hj => hj.2.1) (h.ch x hx)).mono (fun j hj => ⟨hj.1, Nat.lt_of_lt_of_le hj.2.1 hb.size, hj.2.2⟩)⟩
theorem IRow.push {w w' : World} {base d : Nat} {v v' : Value} {xs : List Iv} (h : IRow w base d v xs) (x : Iv) (hx : ItR (fun j => base ≤ j ∧ j < w.heap.size ∧ v.ownBlock ≠ some j) d w x.v x.c.l)
    (h1 : w'.ownsRow base 100 4 v' (xs.length + 1) (flatF Iv.cells xs ++ Iv.cells x)) (hg : w.grownBy w' v.ownBlock) (hf : ∀ g, v'.ownBlock = some g → v.ownBlock = some g ∨ w.heap.size ≤ g) : IRow w' base d v' (xs ++ [x]) := by
  have ho : Only (fun j => v.ownBlock = some j) w w' := Only.of_grown hg
  have go : ∀ y : Iv, ItR (fun j => base ≤ j ∧ j < w.heap.size ∧ v.ownBlock ≠ some j) d w y.v y.c.l → ItR (fun j => base ≤ j ∧ j < w'.heap.size ∧ v'.ownBlock ≠ some j) d w' y.v y.c.l := by
    intro y hy
    refine (ItR.only ho (fun j hj e => hj.2.2 e) hy).mono (fun j hj => ⟨hj.1, Nat.lt_of_lt_of_le hj.2.1 ho.size, fun e => ?_⟩)
    rcases hf j e with e | e
    · exact hj.2.2 e
    · have := hj.2.1; omega
  refine ⟨?_, fun y hy => ?_⟩
  · have e : flatF Iv.cells (xs ++ [x]) = flatF Iv.cells xs ++ Iv.cells x := by simp [flatF]
    rw [List.length_append, e]
    exact h1
  · rcases List.mem_append.1 hy with hy | hy
    · exact go y (h.ch y hy)
    · rw [List.mem_singleton] at hy
      subst hy
      exact go y hx
theorem IRow.keep {w w' : World} {base d g cap : Nat} {v : Value} {xs : List Iv} (h : IRow w base d v xs) (x : Iv) (hx : ItR (fun j => base ≤ j ∧ j < w.heap.size ∧ v.ownBlock ≠ some j) d w x.v x.c.l)
    (h1 : w'.ownsRow base 100 4 (.slice (some ⟨g, 0, none⟩) (xs.length + 1) cap) (xs.length + 1) (flatF Iv.cells xs ++ Iv.cells x)) (hg : w.grownBy w' v.ownBlock) (h5 : (∃ k c, v = .slice (some ⟨g, 0, none⟩) k c ∧ cap = c) ∨ w.heap.size ≤ g) : IRow w' base d (.slice (some ⟨g, 0, none⟩) (xs.length + 1) cap) (xs ++ [x]) :=
  h.push x hx h1 hg (fun g' e => by
    simp only [Value.ownBlock, Option.some.injEq] at e
    subst e
    rcases h5 with ⟨k', c', hk', -⟩ | h5
    · exact .inl (by rw [hk']; rfl)
    · exact .inr h5)
theorem IRow.its {w : World} {base d : Nat} {v : Value} {xs : List Iv} (h : IRow w base d v xs) : ItR (fun j => base ≤ j ∧ j < w.heap.size) (d + 1) w v (xs.map Iv.c) :=
  ⟨xs, rfl, Rd.of_own h.own, fun a n c e hn => by
    have := World.ownsRow.lt h.own a.block (by rw [e]; rfl)
    exact this, fun x hx => (h.ch x hx).mono (fun j hj => ⟨hj.1, hj.2.1⟩)⟩
/-- Items laid anew. -/
theorem its_lit {P : Nat → Prop} (w : World) (d : Nat) (xs : List Iv) (hP : ∀ j, P j → j < w.heap.size) (h : ∀ x ∈ xs, ItR P d w x.v x.c.l) (hl : xs.length ≤ 1000) :
    ItR (fun j => P j ∨ j = w.heap.size) (d + 1) (w.alloc (.cells (flatF Iv.cells xs).toArray 100)) (.slice (some ⟨w.heap.size, 0, none⟩) xs.length xs.length) (xs.map Iv.c) := by
  refine ⟨xs, rfl, ?_, fun a n c e hn => ?_, fun x hx => (ItR.below (below_alloc w _) hP (h x hx)).mono (fun j hj => .inl hj)⟩
  · have := Rd.lit (w := w) (cs := (flatF Iv.cells xs).toArray) (e := 100) (n := xs.length) (sz := 4) (by simp [flatF_length iv4]) (by omega)
    simpa using this
  · simp only [Value.slice.injEq, Option.some.injEq] at e
    obtain ⟨rfl, _, _⟩ := e
    exact .inr rfl
theorem wlistP_calls (P : Nat → Prop) (d : Nat) (v : Value) (is : List Itc) (w : World) (h : ItR P d w v is) (hP : ∀ j, P j → j < w.heap.size) (hlen : is.length ≤ 1000000000) :
    Calls Try.prog 51 #[v] w fun e w' => ∃ lv, e = .returned (ivList lv) ∧ ItR (fun j => P j ∨ (w.heap.size ≤ j ∧ j < w'.heap.size)) d w' lv is ∧ Below w.heap.size w w' := by
  obtain ⟨a, cap, rfl, hle, hcap⟩ := h.slice
  have H := Lib.hid h
  have hx : ∃ xs : List Iv, xs.map Iv.c = is ∧ Rd w 4 (.slice a is.length cap) xs.length (flatF Iv.cells xs) ∧ ∀ x ∈ xs, ItR P (d - 1) w x.v x.c.l := by
    cases d with
    | zero => obtain ⟨h1, h2⟩ := h; subst h1; exact ⟨[], rfl, h2, fun x hx => by cases hx⟩
    | succ d => obtain ⟨xs, h1, h2, -, h4⟩ := h; exact ⟨xs, h1, h2, h4⟩
  obtain ⟨xs, hxs, hrd, hch⟩ := hx
  have hxl : xs.length = is.length := by rw [← hxs]; simp
  have HRD := Lib.hid hrd
  have HXS := Lib.hid hxs
  have HCH := Lib.hid hch
  have HPP := Lib.hid hP
  have H1 := Lib.hid (flat_iv_one hch)
  have hx9 : xs.length ≤ 1000000000 := by omega
  have HXL := Lib.hid hxl
  rw [← hxl] at HRD ⊢
  clear h hrd hxs hch hxl hP
  go_enter Try.func51, Try.ntmps51
  have HBA := Lib.hid (below_alloc w (.cells #[.int .i64 0, .int .i64 0, .string nos, .slice none 0 0] 100))
  go_wp2_with (first | (at_builtin; go_loud (refine app_list tyItems (World.ownsRow_nil _ (w.heap.size + 1) _ _) (Rd.below HRD.out HBA.out (Nat.le_refl _)) H1.out (by omega) (by omega) (by simp) rfl rfl rfl rfl ?_; intro v2 w2 hm2 hg2 hn2; rw [Nat.zero_add] at hm2; obtain ⟨ga, gc, rfl⟩ := own_slice hm2; have HBB := Lib.hid ((Below.refl (w.alloc (.cells #[.int .i64 0, .int .i64 0, .string nos, .slice none 0 0] 100)).heap.size _).grown hg2 (Nat.le_refl _) (by simp [Value.ownBlock])); have HTH := Lib.hid (show w2.there w.heap.size 0 4 from there_box HBB.out); have HM2 := Lib.hid hm2; clear hm2 hg2 hn2)) | (refine wpList_store_mid rfl 100 _ _ rfl (w.heap.size) 0 (Iv.cells ⟨.mk 2 0 nos [], .slice ga xs.length gc⟩).toArray rfl rfl HTH.out (by show _ = some 4; kernel_rfl) (iv_all _ rfl) ?_) | (refine wp_store_mid 100 _ _ rfl (w.heap.size) 0 (Iv.cells ⟨.mk 2 0 nos [], .slice ga xs.length gc⟩).toArray rfl rfl HTH.out (by show _ = some 4; kernel_rfl) (iv_all _ rfl) ?_))
  have hwz := HBB.out.size
  rw [World.size_alloc] at hwz
  have hon := onlyC w2 w.heap.size (Iv.cells ⟨.mk 2 0 nos [], .slice ga xs.length gc⟩) 0
  have hb1 : Below w.heap.size w w2 := HBA.out.trans (HBB.out.mono (by rw [World.size_alloc]; omega))
  have hb2 : Below w.heap.size w (w2.setCells w.heap.size 0 (Iv.cells ⟨.mk 2 0 nos [], .slice ga xs.length gc⟩)) := hb1.trans (hon.below (by omega) (fun j hj e => by omega))
  refine bodyPost_ret (v := ivList (.slice ga xs.length gc)) (res_cell Try.results51 rfl (run_item (x := ⟨.mk 2 0 nos [], .slice ga xs.length gc⟩) ?_)) rfl ⟨_, rfl, ?_, hb2⟩
  · exact World.rangeAt_setCells_same w2 w.heap.size 0 _ HTH.out
  · have hr := ownsRow_only HM2.out hon (fun g hg e => by have := (World.ownsRow.lt HM2.out g hg).1; omega)
    rw [List.nil_append] at hr
    cases d with
    | zero =>
      have h0 : is = [] := H.out.1
      subst h0
      have : xs = [] := List.length_eq_zero_iff.1 (by rw [HXL.out]; rfl)
      subst this
      exact ⟨rfl, Rd.of_own hr⟩
    | succ d => exact ⟨xs, HXS.out, Rd.of_own hr, fun a n c e hn => by
        have := World.ownsRow.lt hr a.block (by rw [e]; rfl)
        exact .inr ⟨by omega, this.2⟩, fun x hx => (ItR.below hb2 HPP.out (HCH.out x hx)).mono (fun j hj => .inl hj)⟩

theorem there_only {S : Nat → Prop} {w w' : World} {b o n : Nat} (h : w.there b o n) (ho : Only S w w') (hb : b < w.heap.size) (hS : ¬ S b) : w'.there b o n := fun j hj => by
  obtain ⟨h1, h2⟩ := h j hj
  refine ⟨?_, (ho.frozen hb hS).trans h2⟩
  obtain ⟨v, hv⟩ := Option.isSome_iff_exists.1 h1
  rw [ho.cell hS hv]; rfl
/-- The numbers of an operator's box. -/
structure OpBox (w : World) (b : Nat) (o : Opr) : Prop where
  c0 : w.cell? ⟨b, 0, none⟩ = some (.int .i64 o.kind)
  c1 : w.cell? ⟨b, 1, none⟩ = some o.iv
  c2 : w.cell? ⟨b, 2, none⟩ = some (.int .i64 o.arg)
  c3 : w.cell? ⟨b, 3, none⟩ = some (.int .u32 o.num)
  c4 : w.cell? ⟨b, 4, none⟩ = some (.int .i64 o.rounds)
  c5 : w.cell? ⟨b, 5, none⟩ = some (.int .i64 o.test)
  c6 : w.cell? ⟨b, 6, none⟩ = some (.int .u32 o.lim)
theorem OpBox.later {w w' : World} {b : Nat} {o : Opr} (h : OpBox w b o) (hb : Below w.heap.size w w') : OpBox w' b o :=
  ⟨cell_later hb h.c0, cell_later hb h.c1, cell_later hb h.c2, cell_later hb h.c3, cell_later hb h.c4, cell_later hb h.c5, cell_later hb h.c6⟩
theorem OpBox.and {V : World} {b : Nat} {o : Opr} (h : OpBox V b o) : V.cell? ⟨b, 0, none⟩ = some (.int .i64 o.kind) ∧ V.cell? ⟨b, 2, none⟩ = some (.int .i64 o.arg) ∧ V.cell? ⟨b, 3, none⟩ = some (.int .u32 o.num) ∧ V.cell? ⟨b, 4, none⟩ = some (.int .i64 o.rounds) ∧ V.cell? ⟨b, 5, none⟩ = some (.int .i64 o.test) ∧ V.cell? ⟨b, 6, none⟩ = some (.int .u32 o.lim) :=
  ⟨h.c0, h.c2, h.c3, h.c4, h.c5, h.c6⟩
end Go.Proofs.Ytkabfjbmofpkdaa

/- Layer 9: what an entry's text holds: the closures take and num, walked. -/
namespace Go.Proofs.Ytkabfjbmofpkdaa
open Go.RowKit Go.Shelf
set_option linter.unusedVariables false
set_option linter.unusedSimpArgs false
set_option maxRecDepth 100000

theorem fld1 (a b : Int) (s : ByteArray) (v : Value) (w : World) : (Instr.field 100 (.agg #[.int .i64 a, .int .i64 b, .string s, v]) 1).run Try.prog w = .ok (.int .i64 b) w := by kernel_rfl
theorem fld2 (a b : Int) (s : ByteArray) (v : Value) (w : World) : (Instr.field 100 (.agg #[.int .i64 a, .int .i64 b, .string s, v]) 2).run Try.prog w = .ok (.string s) w := by kernel_rfl
theorem fld3 (a b : Int) (s : ByteArray) (x : Option Addr) (n c : Nat) (w : World) : (Instr.field 100 (.agg #[.int .i64 a, .int .i64 b, .string s, .slice x n c]) 3).run Try.prog w = .ok (.slice x n c) w := by kernel_rfl
/-- The box of a truth value. -/
def Flag (w : World) (base wb : Nat) (b : Bool) : Prop := w.ownsRow base 4 1 (.slice (some ⟨wb, 0, none⟩) 1 1) 1 [.bool b]
theorem Flag.at {w : World} {base wb : Nat} {b : Bool} (h : Flag w base wb b) : w.cell? ⟨wb, 0, none⟩ = some (.bool b) := by
  have e := World.ownsRow.cells h (g := wb) rfl 0 _ rfl
  simpa only [add_off, Nat.zero_add] using e
theorem Flag.frz {w : World} {base wb : Nat} {b : Bool} (h : Flag w base wb b) (j : Nat) : w.frozen? ⟨wb, j, none⟩ = false := World.ownsRow.frozenAt h j
theorem Flag.set {w : World} {base wb : Nat} {b : Bool} (h : Flag w base wb b) (c : Bool) : Flag (w.setCell ⟨wb, 0, none⟩ (.bool c)) base wb c ∧ w.grownBy (w.setCell ⟨wb, 0, none⟩ (.bool c)) (some wb) := World.ownsRow.stored h 0 _
theorem Flag.lt {w : World} {base wb : Nat} {b : Bool} (h : Flag w base wb b) : base ≤ wb ∧ wb < w.heap.size := World.ownsRow.lt h wb rfl
theorem Flag.below {w w' : World} {base wb : Nat} {b : Bool} (h : Flag w base wb b) (hb : Below w.heap.size w w') : Flag w' base wb b := ownsRow_below h hb (Nat.le_refl _)
theorem Flag.only {S : Nat → Prop} {w w' : World} {base wb : Nat} {b : Bool} (h : Flag w base wb b) (ho : Only S w w') (hS : ¬ S wb) : Flag w' base wb b :=
  ownsRow_only h ho (fun g hg e => by simp only [Value.ownBlock, Option.some.injEq] at hg; subst hg; exact hS e)
theorem tkX_none {l : List Itc} {i : Nat} {k : Int} (h : l.length ≤ i) : tkX l i k = zI ∧ tkW l i k = true := by
  unfold tkX tkW
  rw [List.getElem?_eq_none h]
  exact ⟨rfl, rfl⟩
theorem tkX_other {l : List Itc} {i : Nat} {k : Int} (h : i < l.length) (hk : l[i].k ≠ k) : tkX l i k = zI ∧ tkW l i k = true := by
  unfold tkX tkW
  rw [List.getElem?_eq_getElem h]
  simp only
  rw [if_neg hk]
  exact ⟨rfl, decide_eq_true hk⟩
theorem tkX_same {l : List Itc} {i : Nat} {k : Int} (h : i < l.length) (hk : l[i].k = k) : tkX l i k = l[i] ∧ tkW l i k = false := by
  unfold tkX tkW
  rw [List.getElem?_eq_getElem h]
  simp only
  rw [if_pos hk]
  exact ⟨rfl, decide_eq_false (by simp [hk])⟩
theorem iv_at {P : Nat → Prop} {d : Nat} {w : World} {a : Option Addr} {n cap : Nat} {l : List Itc} (h : ItR P (d + 1) w (.slice a n cap) l) (i : Nat) (hi : i < l.length) :
    ∃ b o lv, a = some ⟨b, o, none⟩ ∧ w.cell? ⟨b, o + i * 4, none⟩ = some (.int .i64 l[i].k) ∧ w.cell? ⟨b, o + i * 4 + 1, none⟩ = some (.int .i64 l[i].n) ∧ w.cell? ⟨b, o + i * 4 + 2, none⟩ = some (.string l[i].s) ∧ w.cell? ⟨b, o + i * 4 + 3, none⟩ = some lv ∧ ItR P d w lv l[i].l ∧ P b := by
  obtain ⟨xs, rfl, hr, hp, hc⟩ := h
  rw [List.length_map] at hi
  obtain ⟨b, o, rfl, he⟩ := rdF_at (k := 4) iv4 hr i hi
  have e := List.getElem_map Iv.c (l := xs) (i := i) (h := by simpa using hi)
  rw [e]
  exact ⟨b, o, xs[i].v, rfl, he 0 _ (by omega) rfl, he 1 _ (by omega) rfl, he 2 _ (by omega) rfl, he 3 _ (by omega) rfl, hc _ (List.getElem_mem _), hp _ _ _ rfl (by omega)⟩

set_option maxHeartbeats 4000000 in
theorem etake_calls (P : Nat → Prop) (d : Nat) (v : Value) (l : List Itc) (i : Nat) (k : Int) (base wb : Nat) (b : Bool) (w : World) (h : ItR P (d + 1) w v l) (hP : ∀ j, P j → j < w.heap.size ∧ j ≠ wb) (hi : i ≤ 1000) (hf : Flag w base wb b) :
    Calls Try.prog 76 #[v, .int .i64 i, .int .i64 k, .pointer (some ⟨wb, 0, none⟩)] w fun e w' => ∃ lv, e = .returned (.agg #[.int .i64 (tkX l i k).k, .int .i64 (tkX l i k).n, .string (tkX l i k).s, lv]) ∧ ItR P d w' lv (tkX l i k).l ∧ Flag w' base wb (b || tkW l i k) ∧ Only (fun j => j = wb) w w' := by
  obtain ⟨a, cap, rfl, hle, hcap⟩ := h.slice
  have HI := Lib.hid h
  have HP := Lib.hid hP
  have hlt := hf.lt
  obtain ⟨W1, hW1⟩ : ∃ W1, W1 = w.alloc (.cells #[.int .i64 0, .int .i64 0, .string nos, .slice none 0 0] 100) := ⟨_, rfl⟩
  have hb1 : Below w.heap.size w W1 := by rw [hW1]; exact below_alloc _ _
  have hs1 : W1.heap.size = w.heap.size + 1 := by rw [hW1]; simp
  have HTH := Lib.hid (show W1.there w.heap.size 0 4 from by rw [hW1]; exact there_box (cs := #[.int .i64 0, .int .i64 0, .string nos, .slice none 0 0]) (e := 100) (Below.refl _ _))
  have HF1 := Lib.hid (hf.below hb1)
  have HB1 := Lib.hid hb1
  have y0 := HF1.out.at
  have f0 := HF1.out.frz 0
  have HI1 := Lib.hid (ItR.below hb1 (fun j hj => (hP j hj).1) h)
  have HW1 := Lib.hid hW1
  clear h hP hf hW1 hb1
  by_cases hlen : i < l.length
  · obtain ⟨rb, ro, lv, rfl, c0, c1, c2, c3, hch, hpb⟩ := iv_at HI1.out i hlen
    have HCH := Lib.hid hch
    have hnb := HP.out rb hpb
    by_cases hk : l[i].k = k
    · have HT := Lib.hid (tkX_same hlen hk)
      have e1 : (l[i].k != k) = false := by simp [hk]
      rw [HT.out.1, HT.out.2]
      have hlv : lv.oneCell' = true := ItR.one hch
      clear hch
      generalize l[i] = x at *
      obtain ⟨xk, xn, xs, xl⟩ := x
      simp only [Itc.k, Itc.n, Itc.s, Itc.l] at c0 c1 c2 c3 e1 hk HCH
      clear hk HT HI HI1
      go_enter Try.func76, Try.ntmps76
      go_upto_region 1 with fail
      rw [← HW1.out]
      go_wp2_with (first | (refine wpList_store_mid rfl 100 _ _ rfl (w.heap.size) 0 (Iv.cells ⟨.mk xk xn xs xl, lv⟩).toArray rfl rfl HTH.out (by show _ = some 4; kernel_rfl) (iv_all _ hlv) ?_) | (refine wp_store_mid 100 _ _ rfl (w.heap.size) 0 (Iv.cells ⟨.mk xk xn xs xl, lv⟩).toArray rfl rfl HTH.out (by show _ = some 4; kernel_rfl) (iv_all _ hlv) ?_))
      have hon := onlyC W1 w.heap.size (Iv.cells ⟨.mk xk xn xs xl, lv⟩) 0
      refine bodyPost_ret (v := .agg (Iv.cells ⟨.mk xk xn xs xl, lv⟩).toArray) (res_cell Try.results76 rfl (run_item (x := ⟨.mk xk xn xs xl, lv⟩) ?_)) rfl ⟨lv, rfl, ?_, ?_, ?_⟩
      · exact World.rangeAt_setCells_same W1 w.heap.size 0 _ HTH.out
      · exact ItR.only hon (fun j hj e => by have := HP.out j hj; omega) HCH.out
      · rw [Bool.or_false]
        exact HF1.out.only hon (by omega)
      · exact (Only.of_below (S := fun j => j = wb) HB1.out).trans hon (fun j hj e => by omega)
    · have HT := Lib.hid (tkX_other hlen hk)
      have e1 : (l[i].k != k) = true := by simp [hk]
      rw [HT.out.1, HT.out.2]
      clear hch
      generalize l[i] = x at *
      obtain ⟨xk, xn, xs, xl⟩ := x
      simp only [Itc.k, Itc.n, Itc.s, Itc.l] at c0 c1 c2 c3 e1 hk HCH
      clear hk HT HI HI1 c1 c2 c3
      go_enter Try.func76, Try.ntmps76
      go_upto_region 1 with fail
      rw [← HW1.out]
      go_upto_region 3 with fail
      have hset := HF1.out.set true
      obtain ⟨W2, hW2⟩ : ∃ W2, W2 = W1.setCell ⟨wb, 0, none⟩ (.bool true) := ⟨_, rfl⟩
      rw [← hW2] at hset
      have ho2 : Only (fun j => j = wb) W1 W2 := (Only.of_grown hset.2).weak (fun j _ e => (Option.some.inj e).symm)
      have HF2 := Lib.hid hset.1
      have HO2 := Lib.hid ho2
      have HT2 := Lib.hid (there_only HTH.out ho2 (by omega) (by omega))
      have hs2 := ho2.size
      rw [← hW2]
      clear hset ho2 hW2
      go_wp2_with (first | (refine wpList_store_mid rfl 100 _ _ rfl (w.heap.size) 0 (Iv.cells ⟨zI, .slice none 0 0⟩).toArray rfl rfl HT2.out (by show _ = some 4; kernel_rfl) (iv_all _ rfl) ?_) | (refine wp_store_mid 100 _ _ rfl (w.heap.size) 0 (Iv.cells ⟨zI, .slice none 0 0⟩).toArray rfl rfl HT2.out (by show _ = some 4; kernel_rfl) (iv_all _ rfl) ?_))
      have hon := onlyC W2 w.heap.size (Iv.cells ⟨zI, .slice none 0 0⟩) 0
      refine bodyPost_ret (v := .agg (Iv.cells ⟨zI, .slice none 0 0⟩).toArray) (res_cell Try.results76 rfl (run_item (x := ⟨zI, .slice none 0 0⟩) ?_)) rfl ⟨_, rfl, ItR.nil _ _ _, ?_, ?_⟩
      · exact World.rangeAt_setCells_same W2 w.heap.size 0 _ HT2.out
      · rw [Bool.or_true]
        exact HF2.out.only hon (by omega)
      · exact ((Only.of_below (S := fun j => j = wb) HB1.out).trans HO2.out (fun j _ e => e)).trans hon (fun j hj e => by omega)
  · have HT := Lib.hid (tkX_none (k := k) (show l.length ≤ i by omega))
    rw [HT.out.1, HT.out.2]
    clear HT HI HI1
    go_enter Try.func76, Try.ntmps76
    go_upto_region 1 with fail
    rw [← HW1.out]
    go_upto_region 3 with fail
    have hset := HF1.out.set true
    obtain ⟨W2, hW2⟩ : ∃ W2, W2 = W1.setCell ⟨wb, 0, none⟩ (.bool true) := ⟨_, rfl⟩
    rw [← hW2] at hset
    have ho2 : Only (fun j => j = wb) W1 W2 := (Only.of_grown hset.2).weak (fun j _ e => (Option.some.inj e).symm)
    have HF2 := Lib.hid hset.1
    have HO2 := Lib.hid ho2
    have HT2 := Lib.hid (there_only HTH.out ho2 (by omega) (by omega))
    have hs2 := ho2.size
    rw [← hW2]
    clear hset ho2 hW2
    go_wp2_with (first | (refine wpList_store_mid rfl 100 _ _ rfl (w.heap.size) 0 (Iv.cells ⟨zI, .slice none 0 0⟩).toArray rfl rfl HT2.out (by show _ = some 4; kernel_rfl) (iv_all _ rfl) ?_) | (refine wp_store_mid 100 _ _ rfl (w.heap.size) 0 (Iv.cells ⟨zI, .slice none 0 0⟩).toArray rfl rfl HT2.out (by show _ = some 4; kernel_rfl) (iv_all _ rfl) ?_))
    have hon := onlyC W2 w.heap.size (Iv.cells ⟨zI, .slice none 0 0⟩) 0
    refine bodyPost_ret (v := .agg (Iv.cells ⟨zI, .slice none 0 0⟩).toArray) (res_cell Try.results76 rfl (run_item (x := ⟨zI, .slice none 0 0⟩) ?_)) rfl ⟨_, rfl, ItR.nil _ _ _, ?_, ?_⟩
    · exact World.rangeAt_setCells_same W2 w.heap.size 0 _ HT2.out
    · rw [Bool.or_true]
      exact HF2.out.only hon (by omega)
    · exact ((Only.of_below (S := fun j => j = wb) HB1.out).trans HO2.out (fun j _ e => e)).trans hon (fun j hj e => by omega)

set_option maxHeartbeats 4000000 in
theorem enum_calls (P : Nat → Prop) (d : Nat) (v : Value) (l : List Itc) (i : Nat) (base wb fb : Nat) (b : Bool) (w : World) (h : ItR P (d + 1) w v l) (hP : ∀ j, P j → j < w.heap.size ∧ j ≠ wb) (hi : i ≤ 1000) (hf : Flag w base wb b)
    (hfn : w.cell? ⟨fb, 0, none⟩ = some (.func (.func 76) #[] #[.pointer (some ⟨wb, 0, none⟩)])) (eg : ∀ args w, (callFunc 76 args).run Try.prog w = .ok (.enter 76 args) w) :
    Calls Try.prog 77 #[v, .int .i64 i, .pointer (some ⟨fb, 0, none⟩), .pointer (some ⟨wb, 0, none⟩)] w fun e w' => e = .returned (.int .u32 (nmX l i)) ∧ Flag w' base wb (b || nmW l i) ∧ Only (fun j => j = wb) w w' := by
  have HC := Lib.hid (etake_calls P d v l i 0 base wb b w h hP hi hf)
  obtain ⟨a, cap, rfl, hle, hcap⟩ := h.slice
  clear h hP hf
  go_enter Try.func77, Try.ntmps77
  go_wp2_with fail
  refine HC.out.mono ?_
  rintro e w2 ⟨lv, rfl, hl, hf, ho⟩
  have HF := Lib.hid hf
  have HO := Lib.hid ho
  have HX := Lib.hid (show nmX l i = IntKind.u32.wrap (tkX l i 0).n from rfl)
  have HW := Lib.hid (show (b || nmW l i) = (((b || tkW l i 0) || decide ((tkX l i 0).n < 0)) || decide (4294967295 < (tkX l i 0).n)) from by unfold nmW; rw [← Bool.or_assoc, ← Bool.or_assoc])
  have y0 := hf.at
  have f0 := hf.frz 0
  clear hl hf ho HC
  generalize tkX l i 0 = x at *
  obtain ⟨xk, n, xs, xl⟩ := x
  simp only [Itc.n] at HX HW
  simp only [Itc.k, Itc.n, Itc.s]
  generalize (b || tkW l i 0) = c at *
  obtain ⟨cn, hcn⟩ : ∃ cn, decide (n < 0) = cn := ⟨_, rfl⟩
  obtain ⟨cm, hcm⟩ : ∃ cm, decide (4294967295 < n) = cm := ⟨_, rfl⟩
  have HS := Lib.hid HF.out.set
  have HW := Lib.hid (show (b || nmW l i) = ((c || decide (n < 0)) || decide (4294967295 < n)) from HW.out)
  rw [hcn, hcm] at HW
  have hfd := fld1 xk n xs lv
  have HU := Lib.hid (show IntKind.u32.wrap n = n % 4294967296 by simp [IntKind.wrap, IntKind.bits, IntKind.signed])
  cases c <;> cases cn <;> cases cm
  all_goals
    go_wp2_with fail
    go_ret
    refine ⟨by rw [HX.out, HU.out]; rfl, by rw [HW.out]; exact (HS.out _).1, HO.out.trans ((Only.of_grown (HS.out _).2).weak (fun j _ e => (Option.some.inj e).symm)) (fun j _ e => e)⟩
end Go.Proofs.Ytkabfjbmofpkdaa

/- Layer 3: the reader's item, walked. -/
namespace Go.Proofs.Ytkabfjbmofpkdaa
open Go.RowKit Go.Shelf
set_option linter.unusedVariables false
set_option linter.unusedSimpArgs false

theorem decN_bound {f : List UInt8 → Nat → Option (Itc × List UInt8 × Nat)} (hf : ∀ r c i r' c', f r c = some (i, r', c') → c < c' ∧ c' ≤ 4096) :
    ∀ (n : Nat) (r : List UInt8) (c : Nat) (l : List Itc) (r' : List UInt8) (c' : Nat), c ≤ 4096 → decN f n r c = some (l, r', c') → c + n ≤ c' ∧ c' ≤ 4096 ∧ l.length = n
  | 0, r, c, l, r', c', hc, h => by
    simp only [decN, Option.some.injEq, Prod.mk.injEq] at h
    obtain ⟨rfl, rfl, rfl⟩ := h
    exact ⟨by omega, hc, rfl⟩
  | n + 1, r, c, l, r', c', hc, h => by
    unfold decN at h
    split at h
    · cases h
    · rename_i i r1 c1 h1
      have h2 := hf _ _ _ _ _ h1
      split at h
      · cases h
      · rename_i l2 r2 c2 h3
        have h4 := decN_bound hf n r1 c1 l2 r2 c2 h2.2 h3
        simp only [Option.some.injEq, Prod.mk.injEq] at h
        obtain ⟨rfl, rfl, rfl⟩ := h
        exact ⟨by omega, h4.2.1, by simp [h4.2.2]⟩
theorem decI_bound : ∀ (d : Nat) (r : List UInt8) (c : Nat) (i : Itc) (r' : List UInt8) (c' : Nat), decI d r c = some (i, r', c') → c < c' ∧ c' ≤ 4096
  | 0, _, _, _, _, _, h => by cases h
  | d + 1, r, c, i, r', c', h => by
    unfold decI at h
    split at h
    · cases h
    · rename_i hc
      split at h
      · cases h
      · split at h
        · cases h
        · split at h
          · cases h
          · unfold decK at h
            split at h
            · simp only [Option.some.injEq, Prod.mk.injEq] at h
              omega
            · split at h
              · cases h
              · split at h
                · split at h
                  · cases h
                  · simp only [Option.some.injEq, Prod.mk.injEq] at h
                    omega
                · split at h
                  · cases h
                  · rename_i l r3 c3 h3
                    have := decN_bound (decI_bound d) _ _ _ _ _ _ (by omega) h3
                    simp only [Option.some.injEq, Prod.mk.injEq] at h
                    omega

/-- What a call of item leaves. -/
def ItemRes (d : Nat) (w w' : World) (xs : List UInt8) (x : Iv) (cd : Int) (at_ at' cnt cnt' : Nat) : Prop := match decI d (xs.drop at_) cnt with
  | none => cd ≠ 0
  | some (i, r, c) => cd = 0 ∧ x.c = i ∧ ItR (fun j => w.heap.size ≤ j ∧ j < w'.heap.size) d w' x.v i.l ∧ r = xs.drop at' ∧ cnt' = c
def ItemSpec (d : Nat) : Prop := ∀ (bv : Value) (xs : List UInt8) (base rb at_ cnt : Nat) (w : World), (∀ V, Below base w V → Bytes V bv xs) → at_ ≤ xs.length → xs.length ≤ 65536 → cnt ≤ 4096 → base ≤ w.heap.size → RBox w base rb bv at_ cnt →
    Calls Try.prog 75 #[.pointer (some ⟨rb, 0, none⟩), .int .i64 (9 - (d : Int))] w fun e w' => ∃ (x : Iv) (cd : Int) (at' cnt' : Nat), e = .returned (.tuple #[.agg (Iv.cells x).toArray, .int .i64 cd]) ∧ (∃ a n c, x.v = .slice a n c) ∧ RBox w' base rb bv at' cnt' ∧ (Kp ER base w w' ∧ Only (fun j => j = rb) w w') ∧ at' ≤ xs.length ∧ ItemRes d w w' xs x cd at_ at' cnt cnt'

theorem i64_xor_zero (a : Nat) (ha : a < 9223372036854775808) : bits .xor .i64 (a : Int) 0 = (a : Int) := by
  show IntKind.i64.wrap ((BitVec.ofInt 64 (a : Int) ^^^ BitVec.ofInt 64 0).toNat : Int) = _
  have h1 : BitVec.ofInt 64 0 = 0#64 := by decide
  rw [h1, BitVec.xor_zero, ofInt_u64 a (by omega)]
  simp [IntKind.wrap, IntKind.bits, IntKind.signed]
  omega
theorem i64_xor_neg (a : Nat) (ha : a < 9223372036854775808) : bits .xor .i64 (a : Int) (-1) = -1 - (a : Int) := by
  show IntKind.i64.wrap ((BitVec.ofInt 64 (a : Int) ^^^ BitVec.ofInt 64 (-1)).toNat : Int) = _
  rw [BitVec.xor_comm]
  exact i64_not a ha
theorem unzig_bits {x : Nat} (hx : x < 18446744073709551616) : bits BinOp.xor IntKind.i64 (wrap64 ((x : Int) / 2)) (wrap64 (-wrap64 (bits BinOp.and IntKind.u64 (x : Int) 1))) = unzig x := by
  have h1 : bits BinOp.and IntKind.u64 (x : Int) 1 = ((x % 2 : Nat) : Int) := by
    have := bits_and_u64_nat x 1 hx (by omega)
    rw [Nat.and_one_is_mod] at this
    exact this
  have h2 : wrap64 ((x : Int) / 2) = ((x / 2 : Nat) : Int) := by unfold wrap64; omega
  rw [h1, h2]
  unfold unzig
  by_cases h : x % 2 = 0
  · rw [h, if_pos rfl, show wrap64 (-wrap64 ((0 : Nat) : Int)) = 0 by unfold wrap64; omega, i64_xor_zero _ (by omega)]
  · rw [show x % 2 = 1 by omega, if_neg (by omega), show wrap64 (-wrap64 ((1 : Nat) : Int)) = -1 by unfold wrap64; omega, i64_xor_neg _ (by omega)]
    omega
theorem rdN_lt : ∀ (f j n : Nat) (r : List UInt8) (x : Nat) (r' : List UInt8), f + j = 10 → n < 2 ^ (7 * j) → rdN f j n r = some (x, r') → x < 18446744073709551616
  | 0, _, _, _, _, _, _, _, h => by cases h
  | _ + 1, _, _, [], _, _, _, _, h => by cases h
  | f + 1, j, n, b :: r, x, r', hf, hn, h => by
    have e : rdN (f + 1) j n (b :: r) = if (j = 9 ∧ 1 < b.toNat) ∨ (b.toNat = 0 ∧ 0 < j) then none else if b.toNat < 128 then some (n + b.toNat % 128 * 2 ^ (7 * j), r) else rdN f (j + 1) (n + b.toNat % 128 * 2 ^ (7 * j)) r := rfl
    rw [e] at h
    split at h
    · cases h
    · rename_i hb
      split at h
      · simp only [Option.some.injEq, Prod.mk.injEq] at h
        obtain ⟨rfl, -⟩ := h
        by_cases e9 : j = 9
        · subst e9
          have e2 : (2 : Nat) ^ (7 * 9) = 9223372036854775808 := by decide
          rw [e2] at hn ⊢
          omega
        · have h1 := acc_next (c := b.toNat) hn
          have h3 : 2 ^ (7 * (j + 1)) ≤ 2 ^ 63 := Nat.pow_le_pow_right (by decide) (by omega)
          have e2 : (2 : Nat) ^ 63 = 9223372036854775808 := by decide
          omega
      · exact rdN_lt f (j + 1) _ r x r' (by omega) (acc_next hn) h
theorem readNum_lt {r r' : List UInt8} {x : Nat} (h : readNum r = some (x, r')) : x < 18446744073709551616 := rdN_lt 10 0 0 r x r' rfl (by simp) h
section
variable {P : Program} {l : List Oper} {Q : Exit → Act → World → Prop} {S : World → Prop} {T : Act → World → Prop} {i : Nat} {o : Oper} {π : List (Nat × Bool)} {a : Act} {w : World}
/-- A text of bytes that are read. -/
theorem m_bstr {x : Operand} {src dst e : TypeId} {v : Value} {ys : List UInt8} (hs : P.underlying src = some (.slice e)) (he : P.underlying e = some (.int .u8)) (hd : P.underlying dst = some .string)
    (ho : l[i]? = some o) (hw : Region.wanted o (yielded l.toArray a.tmps) = true) (hop : o.op = .convert src dst x) (hx : a.eval x = v) (hc : ∀ W, S W → Bytes W v ys)
    (h : wpM P l.toArray Q S T π (a.put o.dst (.string (bstr ys))) w) : wpM P l.toArray Q S T ((i, false) :: π) a w :=
  m_take ho hw (fun W hW => by
    have := run_bytes_str (P := P) hs he hd (hc W hW)
    simp [execOp, hop, hx, this, Result.andThen]) h
end
abbrev zeroIv : Iv := ⟨.mk 0 0 nos [], .slice none 0 0⟩
theorem Kp.new {E : TypeId → Prop} {base : Nat} {w W W' : World} (h : Kp E base w W) (ho : Only (fun j => w.heap.size ≤ j) W W') (hb : base ≤ w.heap.size) : Kp E base w W' := by
  have hz := h.b.size
  refine ⟨h.b.trans (ho.below (by omega) (fun j hj e => by omega)), fun j cs e x hj hE => ?_⟩
  have hl := (Array.getElem?_eq_some_iff.1 hj).1
  exact (ho.block j (by omega) (by omega)).trans (h.k j cs e x hj hE)
/-- What stands while an item is read. -/
structure RS (base rb : Nat) (bv : Value) (w W : World) (at_ cnt : Int) : Prop where
  sz : w.heap.size < W.heap.size
  hb : base ≤ w.heap.size
  hrb : rb < w.heap.size
  box : RBox W base rb bv at_ cnt
  res : W.ownsRow base 100 4 (.slice (some ⟨w.heap.size, 0, none⟩) 1 1) 1 (Iv.cells zeroIv)
  kp : Kp ER base w W
  on : Only (fun j => j = rb) w W
theorem some_eq {j rb : Nat} (e : some rb = some j) : j = rb := by simp only [Option.some.injEq] at e; exact e.symm
theorem RS.set1 {base rb : Nat} {bv : Value} {w W : World} {at_ cnt : Int} (h : RS base rb bv w W at_ cnt) (v : Int) : RS base rb bv w (W.setCell ⟨rb, 1, none⟩ (.int .i64 v)) v cnt := by
  have hs := h.box.set1 v
  have hk := h.box.kset (by have := h.sz; have := h.hb; omega) hs.2
  exact ⟨Nat.lt_of_lt_of_le h.sz hk.b.size, h.hb, h.hrb, hs.1, hk.own h.res (by decide), h.kp.trans hk, h.on.trans (Only.of_grown hs.2) (fun j _ e => some_eq e)⟩
theorem RS.set2 {base rb : Nat} {bv : Value} {w W : World} {at_ cnt : Int} (h : RS base rb bv w W at_ cnt) (v : Int) : RS base rb bv w (W.setCell ⟨rb, 2, none⟩ (.int .i64 v)) at_ v := by
  have hs := h.box.set2 v
  have hk := h.box.kset (by have := h.sz; have := h.hb; omega) hs.2
  exact ⟨Nat.lt_of_lt_of_le h.sz hk.b.size, h.hb, h.hrb, hs.1, hk.own h.res (by decide), h.kp.trans hk, h.on.trans (Only.of_grown hs.2) (fun j _ e => some_eq e)⟩
theorem RS.drew {base rb : Nat} {bv : Value} {w W : World} {at_ cnt : Int} (h : RS base rb bv w W at_ cnt) : RS base rb bv w W.drew at_ cnt := ⟨h.sz, h.hb, h.hrb, h.box, h.res, h.kp.drew, h.on.drew⟩
theorem RS.call {base rb : Nat} {bv : Value} {w W W' : World} {at_ cnt at' cnt' : Int} (h : RS base rb bv w W at_ cnt) (hk : Kp ER base W W' ∧ Only (fun j => j = rb) W W') (hb : RBox W' base rb bv at' cnt') : RS base rb bv w W' at' cnt' :=
  ⟨Nat.lt_of_lt_of_le h.sz hk.1.b.size, h.hb, h.hrb, hb, hk.1.own h.res (by decide), h.kp.trans hk.1, h.on.trans hk.2 (fun j _ e => e)⟩
theorem RS.alloc {base rb : Nat} {bv : Value} {w W : World} {at_ cnt : Int} (h : RS base rb bv w W at_ cnt) (o : Obj) : RS base rb bv w (W.alloc o) at_ cnt :=
  ⟨by rw [World.size_alloc]; have := h.sz; omega, h.hb, h.hrb, World.ownsRow.alloc h.box o, World.ownsRow.alloc h.res o, h.kp.trans (Kp.of_below (below_alloc W o) (by have := h.sz; have := h.hb; omega)), h.on.alloc o⟩
/-- Something of the call's own is written. -/
theorem RS.new {base rb : Nat} {bv : Value} {w W W' : World} {at_ cnt : Int} {S : Nat → Prop} (h : RS base rb bv w W at_ cnt) (ho : Only S W W') (hS : ∀ j, S j → w.heap.size < j) : RS base rb bv w W' at_ cnt :=
  ⟨Nat.lt_of_lt_of_le h.sz ho.size, h.hb, h.hrb, ownsRow_only h.box ho (fun g hg e => by simp only [Value.ownBlock, Option.some.injEq] at hg; have := hS g e; have := h.hrb; omega), ownsRow_only h.res ho (fun g hg e => by simp only [Value.ownBlock, Option.some.injEq] at hg; have := hS g e; omega), h.kp.new (ho.weak (fun j _ hj => by have := hS j hj; omega)) h.hb, h.on.trans ho (fun j hj e => by have := hS j e; omega)⟩
theorem RS.there {base rb : Nat} {bv : Value} {w W : World} {at_ cnt : Int} (h : RS base rb bv w W at_ cnt) : W.there w.heap.size 0 4 := fun j hj => by
  rw [Nat.zero_add]
  exact ⟨own_there' h.res j (by omega), World.ownsRow.frozenAt h.res j⟩
theorem RS.fin {base rb : Nat} {bv : Value} {w W : World} {at_ cnt : Int} (h : RS base rb bv w W at_ cnt) (x : Iv) :
    RBox (W.setCells w.heap.size 0 (Iv.cells x)) base rb bv at_ cnt ∧ (Kp ER base w (W.setCells w.heap.size 0 (Iv.cells x)) ∧ Only (fun j => j = rb) w (W.setCells w.heap.size 0 (Iv.cells x))) ∧ (loadVar 100 ⟨w.heap.size, 0, none⟩).run Try.prog (W.setCells w.heap.size 0 (Iv.cells x)) = .ok (.agg (Iv.cells x).toArray) (W.setCells w.heap.size 0 (Iv.cells x)) := by
  have ho := onlyC W w.heap.size (Iv.cells x) 0
  have hr := h.hrb
  refine ⟨ownsRow_only h.box ho (fun g hg e => ?_), ⟨h.kp.new (ho.weak (fun j _ hj => by omega)) h.hb, h.on.trans ho (fun j hj e => by omega)⟩, run_item (World.rangeAt_setCells_same W w.heap.size 0 (Iv.cells x) h.there)⟩
  simp only [Value.ownBlock, Option.some.injEq] at hg
  omega

/-- What stands while a list is read. -/
structure LSt (base rb ib c d x at2 cnt : Nat) (bv : Value) (xs : List UInt8) (w wr : World) (j : Nat) (l : List Iv) (lv : Value) (p cj : Nat) : Prop where
  len : l.length = j
  jx : j ≤ x
  le : p ≤ xs.length
  c1 : cnt + 1 + j ≤ cj
  c2 : cj ≤ 4096
  h1 : w.heap.size < ib
  h2 : ib < wr.heap.size
  rs : RS base rb bv w wr p cj
  it : IBox wr ib ib c 0 nos lv
  row : wr.ownsRow (ib + 1) 100 4 lv j (flatF Iv.cells l)
  kids : ∀ y ∈ l, ItR (fun b => ib < b ∧ b < wr.heap.size ∧ lv.ownBlock ≠ some b) d wr y.v y.c.l
  dec : decN (decI d) x (xs.drop at2) (cnt + 1) = match decN (decI d) (x - j) (xs.drop p) cj with
    | none => none
    | some (l2, r2, c2) => some (l.map Iv.c ++ l2, r2, c2)
theorem LSt.start {base rb ib c d x at2 cnt : Nat} {bv : Value} {xs : List UInt8} {w wr : World} (hle : at2 ≤ xs.length) (hc : cnt < 4096) (h1 : w.heap.size < ib) (h2 : ib < wr.heap.size) (hr : RS base rb bv w wr at2 ((cnt + 1 : Nat) : Int)) (hi : IBox wr ib ib c 0 nos (.slice none 0 0)) :
    LSt base rb ib c d x at2 cnt bv xs w wr 0 [] (.slice none 0 0) at2 (cnt + 1) := by
  refine ⟨rfl, by omega, hle, by omega, by omega, h1, h2, hr, hi, World.ownsRow_nil _ _ _ _, (fun y hy => by cases hy), ?_⟩
  rw [Nat.sub_zero]
  cases decN (decI d) x (xs.drop at2) (cnt + 1) with
  | none => rfl
  | some z => rfl
theorem LSt.bad {base rb ib c d x at2 cnt : Nat} {bv : Value} {xs : List UInt8} {w wr : World} {j : Nat} {l : List Iv} {lv : Value} {p cj : Nat} (h : LSt base rb ib c d x at2 cnt bv xs w wr j l lv p cj) (hj : j < x) (hd : decI d (xs.drop p) cj = none) : decN (decI d) x (xs.drop at2) (cnt + 1) = none := by
  rw [h.dec, show x - j = (x - (j + 1)) + 1 by omega]
  unfold decN
  rw [hd]
theorem LSt.all {base rb ib c d x at2 cnt : Nat} {bv : Value} {xs : List UInt8} {w wr : World} {l : List Iv} {lv : Value} {p cj : Nat} (h : LSt base rb ib c d x at2 cnt bv xs w wr x l lv p cj) : decN (decI d) x (xs.drop at2) (cnt + 1) = some (l.map Iv.c, xs.drop p, cj) := by
  rw [h.dec, Nat.sub_self]
  show some (l.map Iv.c ++ [], xs.drop p, cj) = _
  rw [List.append_nil]
theorem LSt.next {base rb ib c d x at2 cnt : Nat} {bv : Value} {xs : List UInt8} {w wr : World} {j : Nat} {l : List Iv} {lv : Value} {p cj : Nat} (h : LSt base rb ib c d x at2 cnt bv xs w wr j l lv p cj) (hj : j < x) {y : Iv} {w5 w7 w8 : World} {p' c' : Nat}
    (hd : decI d (xs.drop p) cj = some (y.c, xs.drop p', c')) (hle : p' ≤ xs.length) (hk : Kp ER base wr w5 ∧ Only (fun j => j = rb) wr w5) (hb : RBox w5 base rb bv p' c') (hI : ItR (fun b => wr.heap.size ≤ b ∧ b < w5.heap.size) d w5 y.v y.c.l)
    (h57 : ∃ A B, w7 = (w5.alloc A).alloc B) {lv' : Value} (ho : w8.ownsRow (ib + 1) 100 4 lv' (j + 1) (flatF Iv.cells l ++ Iv.cells y)) (hg : w7.grownBy w8 lv.ownBlock) (hf : ∀ g, lv'.ownBlock = some g → lv.ownBlock = some g ∨ w7.heap.size ≤ g) :
    LSt base rb ib c d x at2 cnt bv xs w (w8.setCell ⟨ib, 3, none⟩ lv') (j + 1) (l ++ [y]) lv' p' c' := by
  obtain ⟨A, B, rfl⟩ := h57
  have hbd := decI_bound d _ _ _ _ _ hd
  have z1 := hk.1.b.size
  have z2 := hg.size
  rw [World.size_alloc, World.size_alloc] at z2
  have r5 := h.rs.call hk hb
  have r7 := (r5.alloc A).alloc B
  have hlv : ∀ g, lv.ownBlock = some g → ib + 1 ≤ g ∧ g < wr.heap.size := fun g e => World.ownsRow.lt h.row g e
  have hh1 := h.h1
  have hh2 := h.h2
  have r8 := r7.new (Only.of_grown hg) (fun j e => by have := (hlv j e).1; omega)
  have i5 : IBox w5 ib ib c 0 nos lv := hk.1.own h.it (by decide)
  have i7 : IBox ((w5.alloc A).alloc B) ib ib c 0 nos lv := World.ownsRow.alloc (World.ownsRow.alloc i5 _) _
  have i8 : IBox w8 ib ib c 0 nos lv := ownsRow_only i7 (Only.of_grown hg) (fun g hg' e => by simp only [Value.ownBlock, Option.some.injEq] at hg'; have := (hlv g e).1; omega)
  have hst := World.ownsRow.stored i8 3 lv'
  have ho9 := Only.of_grown hst.2
  have zs : (w8.setCell ⟨ib, 3, none⟩ lv').heap.size = w8.heap.size := by simp [World.setCell]
  refine ⟨by rw [List.length_append, h.len]; rfl, by omega, hle, by have := h.c1; omega, hbd.2, h.h1, by omega, r8.new ho9 (fun j e => by simp only [Option.some.injEq] at e; omega), hst.1, ?_, fun y' hy => ?_, ?_⟩
  · rw [flatF_append, flatF_one]
    exact ownsRow_only ho ho9 (fun g e1 e2 => by have := (World.ownsRow.lt ho g e1).1; simp only [Option.some.injEq] at e2; omega)
  · have hnew : ∀ b, b < w5.heap.size → lv.ownBlock ≠ some b → lv'.ownBlock ≠ some b := fun b h1 h2 e => by
      rcases hf b e with h3 | h3
      · exact h2 h3
      · rw [World.size_alloc, World.size_alloc] at h3; omega
    have hb57 : Below w5.heap.size w5 ((w5.alloc A).alloc B) := below_box (below_alloc w5 A) B
    rcases List.mem_append.1 hy with hy | hy
    · have k5 := ItR.only hk.2 (fun b hp e => by have := h.rs.hrb; omega) (h.kids y' hy)
      have k7 := ItR.only (Only.of_below (S := fun _ => False) hb57) (fun _ _ e => e) k5
      have k8 := ItR.only (Only.of_grown hg) (fun b hp e => hp.2.2 e) k7
      have k9 := ItR.only ho9 (fun b hp e => by simp only [Option.some.injEq] at e; omega) k8
      exact k9.mono (fun b hp => ⟨hp.1, by omega, hnew b (by omega) hp.2.2⟩)
    · rw [List.mem_singleton] at hy
      subst hy
      have hne : ∀ b, wr.heap.size ≤ b → lv.ownBlock ≠ some b := fun b hb e => by have := (hlv b e).2; omega
      have k7 := ItR.only (Only.of_below (S := fun _ => False) hb57) (fun _ _ e => e) hI
      have k8 := ItR.only (Only.of_grown hg) (fun b hp e => hne b hp.1 e) k7
      have k9 := ItR.only ho9 (fun b hp e => by simp only [Option.some.injEq] at e; omega) k8
      exact k9.mono (fun b hp => ⟨by omega, by omega, hnew b hp.2 (hne b hp.1)⟩)
  · rw [h.dec, show x - j = (x - (j + 1)) + 1 by omega]
    have e : decN (decI d) (x - (j + 1) + 1) (xs.drop p) cj = match decI d (xs.drop p) cj with
        | none => none
        | some (i, r', c') => match decN (decI d) (x - (j + 1)) r' c' with
          | none => none
          | some (l, r'', c'') => some (i :: l, r'', c'') := rfl
    rw [e, hd]
    simp only
    cases decN (decI d) (x - (j + 1)) (xs.drop p') c' with
    | none => rfl
    | some z => obtain ⟨l2, r2, c2⟩ := z; simp

set_option maxHeartbeats 40000000 in
set_option maxRecDepth 100000 in
theorem item_step (d : Nat) (hd8 : d ≤ 8) (ih : ∀ d', d = d' + 1 → ItemSpec d') : ItemSpec d := by
  intro bv xs base rb at_ cnt w hx hat hlen hcnt hbase hb
  have HX := Lib.hid hx
  have HB := Lib.hid hb
  have IH := Lib.hid ih
  obtain ⟨ba, bcap, rfl, hbc1, hbc2, -⟩ := hx w (Below.refl _ _)
  obtain ⟨dp, hdp⟩ : ∃ dp : Int, dp = 9 - (d : Int) := ⟨_, rfl⟩
  rw [← hdp]
  have HDP := Lib.hid hdp
  have hrs : RS base rb (.slice ba xs.length bcap) w (w.alloc (.cells #[.int .i64 0, .int .i64 0, .string nos, .slice none 0 0] 100)) at_ cnt :=
    ⟨by simp, hbase, by have := World.block_lt_of_cell? _ _ hb.at.1; exact this, World.ownsRow.alloc hb _, World.ownsRow_lit (base := base) (size := 4) (e := 100) w #[.int .i64 0, .int .i64 0, .string nos, .slice none 0 0] 1 hbase (by unfold maxLen; omega) (by simp), Kp.of_below (below_alloc w _) hbase, Only.of_below (below_alloc w _)⟩
  obtain ⟨r0, r1, r2⟩ := hrs.box.at
  have f2 := hrs.box.frz 2
  have HR1 := Lib.hid (hrs.set2 ((cnt : Int) + 1))
  clear hx hb ih hdp hrs
  go_enter Try.func75, Try.ntmps75
  go_upto_region 2 with fail
  generalize hV : (w.alloc (.cells #[.int .i64 0, .int .i64 0, .string nos, .slice none 0 0] 100)).setCell ⟨rb, 2, none⟩ (.int .i64 ((cnt : Int) + 1)) = V1 at *
  clear hV r0 r1 r2 f2
  obtain ⟨r0, r1, r2⟩ := HR1.out.box.at
  cases d with
  | zero =>
    have e8 : decide (8 < dp) = true := decide_eq_true (by have := HDP.out; omega)
    by_cases h96 : 4096 ≤ cnt
    · have e96 : decide (4096 < (cnt : Int) + 1) = true := decide_eq_true (by omega)
      have HTH := Lib.hid HR1.out.there
      have HFN := Lib.hid (HR1.out.fin zeroIv)
      go_wp2_with (first | (refine wpList_store_mid rfl 100 _ _ rfl (w.heap.size) 0 (Iv.cells zeroIv).toArray rfl rfl HTH.out (by show _ = some 4; kernel_rfl) (iv_all _ rfl) ?_) | (refine wp_store_mid 100 _ _ rfl (w.heap.size) 0 (Iv.cells zeroIv).toArray rfl rfl HTH.out (by show _ = some 4; kernel_rfl) (iv_all _ rfl) ?_))
      refine bodyPost_ret (v := .tuple #[.agg (Iv.cells zeroIv).toArray, .int .i64 (2)]) (res_cell2 Try.results75 rfl HFN.out.2.2) rfl ⟨zeroIv, 2, _, _, rfl, ⟨_, _, _, rfl⟩, HFN.out.1, HFN.out.2.1, hat, ?_⟩
      unfold ItemRes decI
      simp
    · have e96 : decide (4096 < (cnt : Int) + 1) = false := decide_eq_false (by omega)
      have HTH := Lib.hid HR1.out.there
      have HFN := Lib.hid (HR1.out.fin zeroIv)
      go_wp2_with (first | (refine wpList_store_mid rfl 100 _ _ rfl (w.heap.size) 0 (Iv.cells zeroIv).toArray rfl rfl HTH.out (by show _ = some 4; kernel_rfl) (iv_all _ rfl) ?_) | (refine wp_store_mid 100 _ _ rfl (w.heap.size) 0 (Iv.cells zeroIv).toArray rfl rfl HTH.out (by show _ = some 4; kernel_rfl) (iv_all _ rfl) ?_))
      refine bodyPost_ret (v := .tuple #[.agg (Iv.cells zeroIv).toArray, .int .i64 (2)]) (res_cell2 Try.results75 rfl HFN.out.2.2) rfl ⟨zeroIv, 2, _, _, rfl, ⟨_, _, _, rfl⟩, HFN.out.1, HFN.out.2.1, hat, ?_⟩
      unfold ItemRes decI
      simp
  | succ d =>
    have e8 : decide (8 < dp) = false := decide_eq_false (by have := HDP.out; omega)
    by_cases h96 : 4096 ≤ cnt
    · have e96 : decide (4096 < (cnt : Int) + 1) = true := decide_eq_true (by omega)
      have HTH := Lib.hid HR1.out.there
      have HFN := Lib.hid (HR1.out.fin zeroIv)
      go_wp2_with (first | (refine wpList_store_mid rfl 100 _ _ rfl (w.heap.size) 0 (Iv.cells zeroIv).toArray rfl rfl HTH.out (by show _ = some 4; kernel_rfl) (iv_all _ rfl) ?_) | (refine wp_store_mid 100 _ _ rfl (w.heap.size) 0 (Iv.cells zeroIv).toArray rfl rfl HTH.out (by show _ = some 4; kernel_rfl) (iv_all _ rfl) ?_))
      refine bodyPost_ret (v := .tuple #[.agg (Iv.cells zeroIv).toArray, .int .i64 (2)]) (res_cell2 Try.results75 rfl HFN.out.2.2) rfl ⟨zeroIv, 2, _, _, rfl, ⟨_, _, _, rfl⟩, HFN.out.1, HFN.out.2.1, hat, ?_⟩
      unfold ItemRes decI
      rw [if_pos h96]
      simp
    · have e96 : decide (4096 < (cnt : Int) + 1) = false := decide_eq_false (by omega)
      go_upto_region 4 with fail
      refine region_m [(0, false), (1, false), (2, false), (3, false), (4, false), (5, false), (6, false), (7, false), (8, false), (9, false)] 10 (fun V => V.cell? ⟨rb, 0, none⟩ = some (.slice ba xs.length bcap) ∧ V.cell? ⟨rb, 1, none⟩ = some (.int .i64 (at_ : Int))) (by kernel_rfl) (by kernel_rfl) ⟨r0, r1⟩ ?_
      iterate 10
        first
        | (refine m_take (v := ?_) rfl rfl ?_ ?_
           rotate_left
           · intro W hW
             go_simp
             with_reducible rfl
           simp only [Act.put, List.setIfInBounds_toArray, List.set_cons_zero, List.set_cons_succ])
        | (refine m_skip rfl rfl ?_
           simp only [Act.put, List.setIfInBounds_toArray, List.set_cons_zero, List.set_cons_succ])
      refine m_done ?_
      simp only [List.drop_succ_cons, List.drop_zero]
      go_wp2_with fail
      simp only [NP]
      by_cases hlt : at_ < xs.length
      · have d1 : decide ((xs.length : Int) ≤ (at_ : Int)) = false := decide_eq_false (by omega)
        have hby := HX.out V1 HR1.out.kp.b
        obtain ⟨a2, c2, he, hb1, hb2, hb3⟩ := hby
        simp only [Value.slice.injEq, true_and] at he
        obtain ⟨rfl, rfl⟩ := he
        rcases hb3 with hb3 | ⟨bb, off, rfl, hcb⟩
        · omega
        have hc := hcb at_ hlt
        have hnat : at_ < bcap := by omega
        obtain ⟨c, hcx⟩ : ∃ c : Nat, c = xs[at_].toNat := ⟨_, rfl⟩
        have hbt : bt xs at_ = (c : Int) := by rw [hcx]; unfold bt; simp [hlt]
        have hc256 : c < 256 := by rw [hcx]; exact xs[at_].toNat_lt
        rw [hbt] at hc
        have HD := Lib.hid (show decI (d + 1) (xs.drop at_) cnt = if 2 < c then none else match readNum (xs.drop (at_ + 1)) with
            | none => none
            | some (n, r2) => decK (decI d) c n r2 (cnt + 1) by
          rw [List.drop_eq_getElem_cons hlt, hcx]
          show (if 4096 ≤ cnt then none else if 2 < xs[at_].toNat then none else match readNum (xs.drop (at_ + 1)) with
            | none => none
            | some (n, r2) => decK (decI d) xs[at_].toNat n r2 (cnt + 1)) = _
          rw [if_neg h96])
        have hcw : IntKind.i64.wrap (c : Int) = (c : Int) := by rw [IntKind.wrap_i64]; omega
        clear hcb hbt hcx
        go_upto_region 6 with fail
        refine region_m [(0, false), (1, false), (2, false), (3, false), (4, false), (5, false), (6, false), (7, false), (8, false), (9, false), (10, false), (11, false)] 12 (fun V => V.cell? ⟨rb, 0, none⟩ = some (.slice (some ⟨bb, off, none⟩) xs.length bcap) ∧ V.cell? ⟨rb, 1, none⟩ = some (.int .i64 (at_ : Int)) ∧ V.cell? ⟨bb, off + at_, none⟩ = some (.int .u8 (c : Int))) (by kernel_rfl) (by kernel_rfl) ⟨r0, r1, hc⟩ ?_
        iterate 12
          first
          | (refine m_take (v := ?_) rfl rfl ?_ ?_
             rotate_left
             · intro W hW
               go_simp
               with_reducible rfl
             simp only [Act.put, List.setIfInBounds_toArray, List.set_cons_zero, List.set_cons_succ])
          | (refine m_skip rfl rfl ?_
             simp only [Act.put, List.setIfInBounds_toArray, List.set_cons_zero, List.set_cons_succ])
        refine m_done ?_
        simp only [List.drop_succ_cons, List.drop_zero]
        go_wp2_with fail
        simp only [NP]
        have f1 := HR1.out.box.frz 1
        have HR3 := Lib.hid (((HR1.out.set1 ((at_ : Int) + 1)).drew).drew)
        go_upto_region 8 with fail
        generalize ((V1.setCell ⟨rb, 1, none⟩ (.int .i64 ((at_ : Int) + 1))).drew).drew = V2 at *
        clear r0 r1 r2 f1 hc
        by_cases hk2 : 2 < c
        · have ek : decide (2 < (c : Int)) = true := decide_eq_true (by omega)
          have HTH := Lib.hid HR3.out.there
          have HFN := Lib.hid (HR3.out.fin zeroIv)
          go_wp2_with (first | (refine wpList_store_mid rfl 100 _ _ rfl (w.heap.size) 0 (Iv.cells zeroIv).toArray rfl rfl HTH.out (by show _ = some 4; kernel_rfl) (iv_all _ rfl) ?_) | (refine wp_store_mid 100 _ _ rfl (w.heap.size) 0 (Iv.cells zeroIv).toArray rfl rfl HTH.out (by show _ = some 4; kernel_rfl) (iv_all _ rfl) ?_))
          refine bodyPost_ret (v := .tuple #[.agg (Iv.cells zeroIv).toArray, .int .i64 (3)]) (res_cell2 Try.results75 rfl HFN.out.2.2) rfl ⟨zeroIv, 3, _, _, rfl, ⟨_, _, _, rfl⟩, HFN.out.1, HFN.out.2.1, (show at_ + 1 ≤ xs.length by omega), ?_⟩
          unfold ItemRes
          rw [HD.out, if_pos hk2]
          simp
        · have ek : decide (2 < (c : Int)) = false := decide_eq_false (by omega)
          go_wp2_with fail
          refine (wrnum_calls _ xs base rb (at_ + 1) ((cnt : Int) + 1) V2 (fun V hV => HX.out V (HR3.out.kp.b.trans hV)) (by omega) hlen (by have := HR3.out.sz; omega) (by simpa using HR3.out.box)).mono ?_
          rintro e w3 ⟨x, cd, at2, rfl, hb3, hk3, hle, hm⟩
          have HR4 := Lib.hid (HR3.out.call hk3 hb3)
          have HD := HD
          cases hrn : readNum (xs.drop (at_ + 1)) with
          | none =>
            rw [hrn] at hm HD
            have hcd : (cd != 0) = true := by simpa using hm
            have HM := Lib.hid hm
            clear hrn hm hb3 hk3
            have HTH := Lib.hid HR4.out.there
            have HFN := Lib.hid (HR4.out.fin zeroIv)
            go_wp2_with (first | (refine wpList_store_mid rfl 100 _ _ rfl (w.heap.size) 0 (Iv.cells zeroIv).toArray rfl rfl HTH.out (by show _ = some 4; kernel_rfl) (iv_all _ rfl) ?_) | (refine wp_store_mid 100 _ _ rfl (w.heap.size) 0 (Iv.cells zeroIv).toArray rfl rfl HTH.out (by show _ = some 4; kernel_rfl) (iv_all _ rfl) ?_))
            refine bodyPost_ret (v := .tuple #[.agg (Iv.cells zeroIv).toArray, .int .i64 (cd)]) (res_cell2 Try.results75 rfl HFN.out.2.2) rfl ⟨zeroIv, cd, _, _, rfl, ⟨_, _, _, rfl⟩, HFN.out.1, HFN.out.2.1, hle, ?_⟩
            unfold ItemRes
            rw [HD.out, if_neg hk2]
            exact HM.out
          | some z =>
            obtain ⟨y, rr⟩ := z
            have hxl := readNum_lt hrn
            rw [hrn] at hm HD
            simp only at hm HD
            obtain ⟨rfl, hxy, hrr⟩ := hm
            rw [if_neg hk2, ← hxy, hrr] at HD
            have HD := Lib.hid HD
            rw [← hxy] at hxl
            have HXL := Lib.hid hxl
            clear hxy hrr hxl
            clear hrn hb3 hk3
            go_upto_region 14 with fail
            have HR5 := Lib.hid (HR4.out.alloc (.cells #[.int .i64 c, .int .i64 0, .string nos, .slice none 0 0] 100))
            have hi5 : IBox (w3.alloc (.cells #[.int .i64 c, .int .i64 0, .string nos, .slice none 0 0] 100)) w3.heap.size w3.heap.size c 0 nos (.slice none 0 0) := IBox.new (Nat.le_refl _)
            have hib := HR4.out.sz
            have hrbi : rb ≠ w3.heap.size := fun e => by
              have := World.block_lt_of_cell? _ _ HR4.out.box.at.1
              simp only at this
              omega
            obtain ⟨ib, hibe⟩ : ∃ ib, ib = w3.heap.size := ⟨_, rfl⟩
            rw [← hibe] at hi5 hib hrbi ⊢
            have HI5 := Lib.hid hi5
            clear hi5
            generalize hV : w3.alloc (.cells #[.int .i64 c, .int .i64 0, .string nos, .slice none 0 0] 100) = V5 at *
            have hV5 : ib < V5.heap.size := by rw [← hV, World.size_alloc]; omega
            clear hV hibe
            obtain ⟨r0, r1, r2⟩ := HR5.out.box.at
            obtain ⟨i0, i1, i2, i3⟩ := HI5.out.at
            have fi := fun j => World.ownsRow.frozenAt HI5.out j
            by_cases hc0 : c = 0
            · have e0 : ((c : Int) == 0) = true := beq_iff_eq.2 (by omega)
              have HD0 := Lib.hid (show decI (d + 1) (xs.drop at_) cnt = some (.mk (c : Int) (unzig x) nos [], xs.drop at2, cnt + 1) by
                rw [HD.out, hc0]; rfl)
              clear hc0
              have fi1 := fi 1
              have HUZ := Lib.hid (unzig_bits HXL.out)
              clear fi
              go_upto_region 16 with fail
              rw [HUZ.out]
              have hst := World.ownsRow.stored HI5.out 1 (.int .i64 (unzig x))
              have HI6 := Lib.hid (show IBox (V5.setCell ⟨ib, 1, none⟩ (.int .i64 (unzig x))) ib ib c (unzig x) nos (.slice none 0 0) from hst.1)
              have HR6 := Lib.hid (HR5.out.new (Only.of_grown hst.2) (fun j e => by simp only [Option.some.injEq] at e; omega))
              generalize V5.setCell ⟨ib, 1, none⟩ (.int .i64 (unzig x)) = V6 at *
              clear hst i0 i1 i2 i3
              obtain ⟨i0, i1, i2, i3⟩ := HI6.out.at
              have HTH := Lib.hid HR6.out.there
              have HFN := Lib.hid (HR6.out.fin ⟨.mk c (unzig x) nos [], .slice none 0 0⟩)
              go_wp2_with (first | (refine wpList_store_mid rfl 100 _ _ rfl (w.heap.size) 0 (Iv.cells ⟨.mk c (unzig x) nos [], .slice none 0 0⟩).toArray rfl rfl HTH.out (by show _ = some 4; kernel_rfl) (iv_all _ rfl) ?_) | (refine wp_store_mid 100 _ _ rfl (w.heap.size) 0 (Iv.cells ⟨.mk c (unzig x) nos [], .slice none 0 0⟩).toArray rfl rfl HTH.out (by show _ = some 4; kernel_rfl) (iv_all _ rfl) ?_))
              refine bodyPost_ret (v := .tuple #[.agg (Iv.cells ⟨.mk c (unzig x) nos [], .slice none 0 0⟩).toArray, .int .i64 0]) (res_cell2 Try.results75 rfl HFN.out.2.2) rfl ⟨⟨.mk c (unzig x) nos [], .slice none 0 0⟩, 0, _, _, rfl, ⟨_, _, _, rfl⟩, HFN.out.1, HFN.out.2.1, hle, ?_⟩
              unfold ItemRes
              rw [HD0.out]
              exact ⟨rfl, rfl, ItR.nil _ _ _, rfl, rfl⟩
            · have e0 : ((c : Int) == 0) = false := beq_eq_false_iff_ne.2 (by omega)
              by_cases hbig : 9223372036854775807 < x
              · have eb : decide (9223372036854775807 < (x : Int)) = true := decide_eq_true (by omega)
                have HD0 := Lib.hid (show decI (d + 1) (xs.drop at_) cnt = none by
                  rw [HD.out]; unfold decK; rw [if_neg hc0, if_pos hbig])
                clear hc0 hbig
                have HTH := Lib.hid HR5.out.there
                have HFN := Lib.hid (HR5.out.fin zeroIv)
                go_wp2_with (first | (refine wpList_store_mid rfl 100 _ _ rfl (w.heap.size) 0 (Iv.cells zeroIv).toArray rfl rfl HTH.out (by show _ = some 4; kernel_rfl) (iv_all _ rfl) ?_) | (refine wp_store_mid 100 _ _ rfl (w.heap.size) 0 (Iv.cells zeroIv).toArray rfl rfl HTH.out (by show _ = some 4; kernel_rfl) (iv_all _ rfl) ?_))
                refine bodyPost_ret (v := .tuple #[.agg (Iv.cells zeroIv).toArray, .int .i64 (3)]) (res_cell2 Try.results75 rfl HFN.out.2.2) rfl ⟨zeroIv, 3, _, _, rfl, ⟨_, _, _, rfl⟩, HFN.out.1, HFN.out.2.1, hle, ?_⟩
                unfold ItemRes
                rw [HD0.out]
                simp
              · have eb : decide (9223372036854775807 < (x : Int)) = false := decide_eq_false (by omega)
                have hxw : IntKind.i64.wrap (x : Int) = (x : Int) := by rw [IntKind.wrap_i64]; omega
                by_cases hc1 : c = 1
                · have e1 : ((c : Int) == 1) = true := beq_iff_eq.2 (by omega)
                  have hsw : IntKind.i64.wrap ((xs.length : Int) - (at2 : Int)) = (xs.length : Int) - (at2 : Int) := by rw [IntKind.wrap_i64]; omega
                  have haw : IntKind.i64.wrap ((at2 : Int) + (x : Int)) = (at2 : Int) + (x : Int) ∨ True := .inr trivial
                  clear haw
                  go_upto_region 20 with fail
                  refine region_m [(0, false), (1, false), (2, false), (3, false), (4, false), (5, false), (6, false), (7, false), (8, false), (9, false), (10, false), (11, false), (12, false)] 13 (fun V => V.cell? ⟨rb, 0, none⟩ = some (.slice (some ⟨bb, off, none⟩) xs.length bcap) ∧ V.cell? ⟨rb, 1, none⟩ = some (.int .i64 (at2 : Int))) (by kernel_rfl) (by kernel_rfl) ⟨r0, r1⟩ ?_
                  iterate 13
                    first
                    | (refine m_take (v := ?_) rfl rfl ?_ ?_
                       rotate_left
                       · intro W hW
                         go_simp
                         with_reducible rfl
                       simp only [Act.put, List.setIfInBounds_toArray, List.set_cons_zero, List.set_cons_succ])
                    | (refine m_skip rfl rfl ?_
                       simp only [Act.put, List.setIfInBounds_toArray, List.set_cons_zero, List.set_cons_succ])
                  refine m_done ?_
                  simp only [List.drop_succ_cons, List.drop_zero]
                  go_wp2_with fail
                  simp only [NP]
                  by_cases hlong : xs.length - at2 < x
                  · have el : decide ((xs.length : Int) - (at2 : Int) < (x : Int)) = true := decide_eq_true (by omega)
                    have HD0 := Lib.hid (show decI (d + 1) (xs.drop at_) cnt = none by
                      rw [HD.out]; unfold decK; rw [if_neg hc0, if_neg hbig, if_pos hc1, if_pos (by rw [List.length_drop]; exact hlong)])
                    clear hc0 hbig hc1
                    have HTH := Lib.hid HR5.out.drew.there
                    have HFN := Lib.hid (HR5.out.drew.fin zeroIv)
                    go_wp2_with (first | (refine wpList_store_mid rfl 100 _ _ rfl (w.heap.size) 0 (Iv.cells zeroIv).toArray rfl rfl HTH.out (by show _ = some 4; kernel_rfl) (iv_all _ rfl) ?_) | (refine wp_store_mid 100 _ _ rfl (w.heap.size) 0 (Iv.cells zeroIv).toArray rfl rfl HTH.out (by show _ = some 4; kernel_rfl) (iv_all _ rfl) ?_))
                    refine bodyPost_ret (v := .tuple #[.agg (Iv.cells zeroIv).toArray, .int .i64 (5)]) (res_cell2 Try.results75 rfl HFN.out.2.2) rfl ⟨zeroIv, 5, _, _, rfl, ⟨_, _, _, rfl⟩, HFN.out.1, HFN.out.2.1, hle, ?_⟩
                    unfold ItemRes
                    rw [HD0.out]
                    simp
                  · have el : decide ((xs.length : Int) - (at2 : Int) < (x : Int)) = false := decide_eq_false (by omega)
                    have HD0 := Lib.hid (show decI (d + 1) (xs.drop at_) cnt = some (.mk (c : Int) 0 (bstr ((xs.drop at2).take x)) [], xs.drop (at2 + x), cnt + 1) by
                      rw [HD.out]; unfold decK; rw [if_neg hc0, if_neg hbig, if_pos hc1, if_neg (by rw [List.length_drop]; exact hlong), hc1, List.drop_drop]; rfl)
                    clear hc0 hbig hc1
                    go_upto_region 22 with fail
                    refine region_m [(0, false), (1, false), (2, false), (3, false), (4, false), (5, false), (6, false), (7, false), (8, false), (9, false), (10, false), (11, false), (12, false), (13, false), (14, false), (15, false), (16, false)] 17 (fun V => V.cell? ⟨rb, 0, none⟩ = some (.slice (some ⟨bb, off, none⟩) xs.length bcap) ∧ V.cell? ⟨rb, 1, none⟩ = some (.int .i64 (at2 : Int)) ∧ Bytes V (.slice (some ⟨bb, off, none⟩) xs.length bcap) xs) (by kernel_rfl) (by kernel_rfl) ⟨r0, r1, HX.out V5.drew.drew HR5.out.drew.drew.kp.b⟩ ?_
                    obtain ⟨q, hq⟩ : ∃ q, q = at2 + x := ⟨_, rfl⟩
                    have hax : IntKind.i64.wrap ((at2 : Int) + (x : Int)) = (q : Int) := by rw [IntKind.wrap_i64]; omega
                    have hqx : q - at2 = x := by omega
                    have hq1 : at2 ≤ q := by omega
                    have hq2 : q ≤ bcap := by omega
                    have hq3 : (q : Int) ≤ (bcap : Int) := by omega
                    have HQ := Lib.hid hq
                    clear hq
                    iterate 15
                      first
                      | (refine m_take (v := ?_) rfl rfl ?_ ?_
                         rotate_left
                         · intro W hW
                           go_simp
                           with_reducible rfl
                         simp only [Act.put, List.setIfInBounds_toArray, List.set_cons_zero, List.set_cons_succ])
                      | (refine m_skip rfl rfl ?_
                         simp only [Act.put, List.setIfInBounds_toArray, List.set_cons_zero, List.set_cons_succ])
                    have fi2 := fi 2
                    clear fi
                    by_cases hcm : bcap = at2
                    · have hx0 : x = 0 := by omega
                      have HX0 := Lib.hid hx0
                      clear hx0
                      obtain rfl := hcm.symm
                      iterate 1
                        first
                        | (refine m_take (v := ?_) rfl rfl ?_ ?_
                           rotate_left
                           · intro W hW
                             go_simp
                             with_reducible rfl
                           simp only [Act.put, List.setIfInBounds_toArray, List.set_cons_zero, List.set_cons_succ])
                        | (refine m_skip rfl rfl ?_
                           simp only [Act.put, List.setIfInBounds_toArray, List.set_cons_zero, List.set_cons_succ])
                      refine m_bstr Try.underlying96 Try.underlying5 Try.underlying9 rfl rfl rfl rfl (ys := (xs.drop at2).take x) (fun W hW => ?_) ?_
                      · rw [HX0.out, List.take_zero]
                        exact ⟨_, _, rfl, by simp, by omega, .inr ⟨_, _, rfl, fun i hi => by simp at hi⟩⟩
                      simp only [Act.put, List.setIfInBounds_toArray, List.set_cons_zero, List.set_cons_succ]
                      refine m_done ?_
                      simp only [List.drop_succ_cons, List.drop_zero]
                      go_wp2_with fail
                      simp only [NP]
                      have hst := World.ownsRow.stored HI5.out 2 (.string (bstr ((xs.drop at2).take x)))
                      have HI7 := Lib.hid (show IBox ((V5.setCell ⟨ib, 2, none⟩ (.string (bstr ((xs.drop at2).take x)))).drew.drew) ib ib c 0 (bstr ((xs.drop at2).take x)) (.slice none 0 0) from hst.1)
                      have HR7 := Lib.hid (HR5.out.new (Only.of_grown hst.2) (fun j e => by simp only [Option.some.injEq] at e; omega)).drew.drew
                      generalize ((V5.setCell ⟨ib, 2, none⟩ (.string (bstr ((xs.drop at2).take x)))).drew).drew = V7 at *
                      clear hst r0 r1 r2 i0 i1 i2 i3
                      obtain ⟨r0, r1, r2⟩ := HR7.out.box.at
                      have f1 := HR7.out.box.frz 1
                      have HR8 := Lib.hid (HR7.out.set1 (q : Int))
                      have hk8 := HR7.out.box.set1 (q : Int)
                      have HI8 := Lib.hid (show IBox (V7.setCell ⟨rb, 1, none⟩ (.int .i64 (q : Int))) ib ib c 0 (bstr ((xs.drop at2).take x)) (.slice none 0 0) from ownsRow_only HI7.out (Only.of_grown hk8.2) (fun g hg e => by simp only [Value.ownBlock, Option.some.injEq] at hg e; omega))
                      clear hk8
                      go_upto_region 24 with fail
                      generalize V7.setCell ⟨rb, 1, none⟩ (.int .i64 (q : Int)) = V8 at *
                      clear r0 r1 r2 f1
                      obtain ⟨i0, i1, i2, i3⟩ := HI8.out.at
                      have HTH := Lib.hid HR8.out.there
                      have HFN := Lib.hid (HR8.out.fin ⟨.mk c 0 (bstr ((xs.drop at2).take x)) [], .slice none 0 0⟩)
                      go_wp2_with (first | (refine wpList_store_mid rfl 100 _ _ rfl (w.heap.size) 0 (Iv.cells ⟨.mk c 0 (bstr ((xs.drop at2).take x)) [], .slice none 0 0⟩).toArray rfl rfl HTH.out (by show _ = some 4; kernel_rfl) (iv_all _ rfl) ?_) | (refine wp_store_mid 100 _ _ rfl (w.heap.size) 0 (Iv.cells ⟨.mk c 0 (bstr ((xs.drop at2).take x)) [], .slice none 0 0⟩).toArray rfl rfl HTH.out (by show _ = some 4; kernel_rfl) (iv_all _ rfl) ?_))
                      refine bodyPost_ret (v := .tuple #[.agg (Iv.cells ⟨.mk c 0 (bstr ((xs.drop at2).take x)) [], .slice none 0 0⟩).toArray, .int .i64 0]) (res_cell2 Try.results75 rfl HFN.out.2.2) rfl ⟨⟨.mk c 0 (bstr ((xs.drop at2).take x)) [], .slice none 0 0⟩, 0, _, _, rfl, ⟨_, _, _, rfl⟩, HFN.out.1, HFN.out.2.1, (show q ≤ xs.length by omega), ?_⟩
                      unfold ItemRes
                      rw [HD0.out, HQ.out]
                      exact ⟨rfl, rfl, ItR.nil _ _ _, rfl, rfl⟩
                    · skip
                      iterate 1
                        first
                        | (refine m_take (v := ?_) rfl rfl ?_ ?_
                           rotate_left
                           · intro W hW
                             go_simp
                             with_reducible rfl
                           simp only [Act.put, List.setIfInBounds_toArray, List.set_cons_zero, List.set_cons_succ])
                        | (refine m_skip rfl rfl ?_
                           simp only [Act.put, List.setIfInBounds_toArray, List.set_cons_zero, List.set_cons_succ])
                      refine m_bstr Try.underlying96 Try.underlying5 Try.underlying9 rfl rfl rfl rfl (ys := (xs.drop at2).take x) (fun W hW => ?_) ?_
                      · exact hW.2.2.sub at2 x (bcap - at2) (by omega) (by omega) (by omega)
                      simp only [Act.put, List.setIfInBounds_toArray, List.set_cons_zero, List.set_cons_succ]
                      refine m_done ?_
                      simp only [List.drop_succ_cons, List.drop_zero]
                      go_wp2_with fail
                      simp only [NP]
                      have hst := World.ownsRow.stored HI5.out 2 (.string (bstr ((xs.drop at2).take x)))
                      have HI7 := Lib.hid (show IBox ((V5.setCell ⟨ib, 2, none⟩ (.string (bstr ((xs.drop at2).take x)))).drew.drew) ib ib c 0 (bstr ((xs.drop at2).take x)) (.slice none 0 0) from hst.1)
                      have HR7 := Lib.hid (HR5.out.new (Only.of_grown hst.2) (fun j e => by simp only [Option.some.injEq] at e; omega)).drew.drew
                      generalize ((V5.setCell ⟨ib, 2, none⟩ (.string (bstr ((xs.drop at2).take x)))).drew).drew = V7 at *
                      clear hst r0 r1 r2 i0 i1 i2 i3
                      obtain ⟨r0, r1, r2⟩ := HR7.out.box.at
                      have f1 := HR7.out.box.frz 1
                      have HR8 := Lib.hid (HR7.out.set1 (q : Int))
                      have hk8 := HR7.out.box.set1 (q : Int)
                      have HI8 := Lib.hid (show IBox (V7.setCell ⟨rb, 1, none⟩ (.int .i64 (q : Int))) ib ib c 0 (bstr ((xs.drop at2).take x)) (.slice none 0 0) from ownsRow_only HI7.out (Only.of_grown hk8.2) (fun g hg e => by simp only [Value.ownBlock, Option.some.injEq] at hg e; omega))
                      clear hk8
                      go_upto_region 24 with fail
                      generalize V7.setCell ⟨rb, 1, none⟩ (.int .i64 (q : Int)) = V8 at *
                      clear r0 r1 r2 f1
                      obtain ⟨i0, i1, i2, i3⟩ := HI8.out.at
                      have HTH := Lib.hid HR8.out.there
                      have HFN := Lib.hid (HR8.out.fin ⟨.mk c 0 (bstr ((xs.drop at2).take x)) [], .slice none 0 0⟩)
                      go_wp2_with (first | (refine wpList_store_mid rfl 100 _ _ rfl (w.heap.size) 0 (Iv.cells ⟨.mk c 0 (bstr ((xs.drop at2).take x)) [], .slice none 0 0⟩).toArray rfl rfl HTH.out (by show _ = some 4; kernel_rfl) (iv_all _ rfl) ?_) | (refine wp_store_mid 100 _ _ rfl (w.heap.size) 0 (Iv.cells ⟨.mk c 0 (bstr ((xs.drop at2).take x)) [], .slice none 0 0⟩).toArray rfl rfl HTH.out (by show _ = some 4; kernel_rfl) (iv_all _ rfl) ?_))
                      refine bodyPost_ret (v := .tuple #[.agg (Iv.cells ⟨.mk c 0 (bstr ((xs.drop at2).take x)) [], .slice none 0 0⟩).toArray, .int .i64 0]) (res_cell2 Try.results75 rfl HFN.out.2.2) rfl ⟨⟨.mk c 0 (bstr ((xs.drop at2).take x)) [], .slice none 0 0⟩, 0, _, _, rfl, ⟨_, _, _, rfl⟩, HFN.out.1, HFN.out.2.1, (show q ≤ xs.length by omega), ?_⟩
                      unfold ItemRes
                      rw [HD0.out, HQ.out]
                      exact ⟨rfl, rfl, ItR.nil _ _ _, rfl, rfl⟩
                · have e1 : ((c : Int) == 1) = false := beq_eq_false_iff_ne.2 (by omega)
                  have hc2 : c = 2 := by omega
                  have HDL := Lib.hid (show decI (d + 1) (xs.drop at_) cnt = match decN (decI d) x (xs.drop at2) (cnt + 1) with
                      | none => none
                      | some (l, r', c') => some (.mk (c : Int) 0 nos l, r', c') by
                    rw [HD.out]; unfold decK; rw [if_neg hc0, if_neg hbig, if_neg hc1, hc2]; rfl)
                  have HD1 := Lib.hid (show dp + 1 = 9 - (d : Int) by have := HDP.out; omega)
                  have hdw : IntKind.i64.wrap (dp + 1) = dp + 1 := by rw [HD1.out, IntKind.wrap_i64]; omega
                  have HST := Lib.hid (LSt.start (x := x) (d := d) hle (by omega : cnt < 4096) hib hV5 (by have := HR5.out; simpa using this) HI5.out)
                  have hx63 : x ≤ 9223372036854775807 := by omega
                  clear hc0 hc1 hbig hc2 fi r0 r1 r2 i0 i1 i2 i3
                  go_wp2_with fail
                  go_loopw [10, 11, 135] (fun _ _ jv wr => ∃ (j : Nat) (l : List Iv) (lv : Value) (p cj : Nat), jv = .int .u64 j ∧ LSt base rb ib c d x at2 cnt (.slice (some ⟨bb, off, none⟩) xs.length bcap) xs w wr j l lv p cj) (fun _ _ jv _ => x - (intOf jv).toNat)
                  case atStart => exact ⟨0, [], _, _, _, rfl, HST.out⟩
                  case round =>
                    obtain ⟨j, l, lv, p, cj, rfl, hs⟩ := hrel
                    have HS := Lib.hid hs
                    have hjx := hs.jx
                    have hpl := hs.le
                    have hcj := hs.c2
                    have hjc := hs.c1
                    obtain ⟨la, lc, rfl⟩ := own_slice hs.row
                    clear hs
                    by_cases hj : j < x
                    · have ej : decide ((j : Int) < (x : Int)) = true := decide_eq_true (by omega)
                      go_wp2_with fail
                      rw [HD1.out]
                      refine (IH.out d rfl _ xs base rb p cj wr (fun V hV => HX.out V (HS.out.rs.kp.b.trans hV)) hpl hlen hcj (by have := HS.out.rs.sz; omega) HS.out.rs.box).mono ?_
                      rintro e w5 ⟨y, cd, p', c', rfl, hyv, hb5, hk5, hle5, hres⟩
                      obtain ⟨⟨yk, yn, ys, yl⟩, yv⟩ := y
                      obtain ⟨ya, yln, yc, hyv⟩ := hyv
                      simp only at hyv
                      subst hyv
                      have HB5 := Lib.hid hb5
                      have HK5 := Lib.hid hk5
                      unfold ItemRes at hres
                      cases hdi : decI d (xs.drop p) cj with
                      | none =>
                        rw [hdi] at hres
                        have hcd : (cd != 0) = true := by simpa using hres
                        have HM := Lib.hid hres
                        have HBAD := Lib.hid (HS.out.bad hj hdi)
                        have HR6 := Lib.hid ((HS.out.rs.call hk5 hb5).alloc (.cells #[.int .i64 yk, .int .i64 yn, .string ys, .slice ya yln yc] 100))
                        clear hres hb5 hk5 hdi
                        simp only [Iv.cells, Itc.k, Itc.n, Itc.s]
                        have HTH := Lib.hid HR6.out.there
                        have HFN := Lib.hid (HR6.out.fin zeroIv)
                        go_wp2_with (first | (refine wpList_store_mid rfl 100 _ _ rfl (w.heap.size) 0 (Iv.cells zeroIv).toArray rfl rfl HTH.out (by show _ = some 4; kernel_rfl) (iv_all _ rfl) ?_) | (refine wp_store_mid 100 _ _ rfl (w.heap.size) 0 (Iv.cells zeroIv).toArray rfl rfl HTH.out (by show _ = some 4; kernel_rfl) (iv_all _ rfl) ?_))
                        refine bodyPost_ret (v := .tuple #[.agg (Iv.cells zeroIv).toArray, .int .i64 cd]) (res_cell2 Try.results75 rfl HFN.out.2.2) rfl ⟨zeroIv, cd, rfl, ⟨_, _, _, rfl⟩, p', c', HFN.out.1, HFN.out.2.1, hle5, ?_⟩
                        unfold ItemRes
                        rw [HDL.out, HBAD.out]
                        exact HM.out
                      | some z =>
                        obtain ⟨zi, zr, zc⟩ := z
                        rw [hdi] at hres
                        obtain ⟨rfl, hyc, hIy, hrr, hcc⟩ := hres
                        simp only at hyc hIy
                        subst hyc hrr hcc
                        have HDI := Lib.hid hdi
                        have HIY := Lib.hid hIy
                        have hrow5 : w5.ownsRow (ib + 1) 100 4 (.slice la j lc) j (flatF Iv.cells l) := hk5.1.own HS.out.row (by decide)
                        have hi5 : IBox w5 ib ib c 0 nos (.slice la j lc) := hk5.1.own HS.out.it (by decide)
                        have HROW := Lib.hid (World.ownsRow.alloc (World.ownsRow.alloc hrow5 (.cells #[.int .i64 yk, .int .i64 yn, .string ys, .slice ya yln yc] 100)) (.cells #[.int .i64 yk, .int .i64 yn, .string ys, .slice ya yln yc] 100))
                        have HI7 := Lib.hid (show IBox ((w5.alloc (.cells #[.int .i64 yk, .int .i64 yn, .string ys, .slice ya yln yc] 100)).alloc (.cells #[.int .i64 yk, .int .i64 yn, .string ys, .slice ya yln yc] 100)) ib ib c 0 nos (.slice la j lc) from World.ownsRow.alloc (World.ownsRow.alloc hi5 _) _)
                        have i3 := (show IBox (w5.alloc (.cells #[.int .i64 yk, .int .i64 yn, .string ys, .slice ya yln yc] 100)) ib ib c 0 nos (.slice la j lc) from World.ownsRow.alloc hi5 _).at.2.2.2
                        have hz7 : ib + 1 ≤ ((w5.alloc (.cells #[.int .i64 yk, .int .i64 yn, .string ys, .slice ya yln yc] 100)).alloc (.cells #[.int .i64 yk, .int .i64 yn, .string ys, .slice ya yln yc] 100)).heap.size := by
                          have := World.block_lt_of_cell? _ _ HI7.out.at.1
                          exact this
                        have HZ7 := Lib.hid hz7
                        have hlit := Rd.lit (w := w5.alloc (.cells #[.int .i64 yk, .int .i64 yn, .string ys, .slice ya yln yc] 100)) (cs := #[.int .i64 yk, .int .i64 yn, .string ys, .slice ya yln yc]) (e := 100) (n := 1) (sz := 4) rfl (by omega)
                        rw [World.size_alloc] at hlit
                        have HLIT := Lib.hid hlit
                        clear hlit
                        have hj4 : j ≤ 4096 := by omega
                        clear hb5 hk5 hdi hIy hrow5 hi5 hz7
                        simp only [Iv.cells, Itc.k, Itc.n, Itc.s]
                        go_wp2_with (at_builtin; go_loud (refine app_keep tyItems HROW.out HLIT.out (by simp [Value.oneCell']) (by omega) (by omega) (by omega) HZ7.out rfl rfl rfl rfl ?_; intro g gcap w8 h2 h3 h4 h5; have H2 := Lib.hid h2; have H4 := Lib.hid h4; have H5 := Lib.hid h5; have hi8 : IBox w8 ib ib c 0 nos (.slice la j lc) := ownsRow_only HI7.out (Only.of_grown h4) (fun g' hg' e => by simp only [Value.ownBlock, Option.some.injEq] at hg'; have := (World.ownsRow.lt HROW.out g' e).1; omega); have y3 := hi8.at.2.2.2; have yf := World.ownsRow.frozenAt hi8 3; clear h2 h3 h4 h5 hi8))
                        have HN := Lib.hid (HS.out.next (y := ⟨.mk yk yn ys yl, .slice ya yln yc⟩) (lv' := .slice (some ⟨g, 0, none⟩) (j + 1) gcap) hj HDI.out hle5 HK5.out HB5.out HIY.out ⟨_, _, rfl⟩ H2.out H4.out (by
                          intro g' hg'
                          simp only [Value.ownBlock, Option.some.injEq] at hg'
                          subst hg'
                          rcases H5.out with ⟨k', c', hk', -⟩ | h5
                          · exact .inl (by rw [hk']; rfl)
                          · exact .inr h5))
                        go_roundw
                        case rel => exact ⟨j + 1, _, _, p', c', by go_num, HN.out⟩
                        case measure => simp [intOf]; omega
                    · obtain rfl : j = x := by omega
                      have HALL := Lib.hid HS.out.all
                      obtain ⟨i0, i1, i2, i3⟩ := HS.out.it.at
                      have HTH := Lib.hid HS.out.rs.there
                      have HFN := Lib.hid (HS.out.rs.fin ⟨.mk c 0 nos (l.map Iv.c), .slice la j lc⟩)
                      go_wp2_with (first | (refine wpList_store_mid rfl 100 _ _ rfl (w.heap.size) 0 (Iv.cells ⟨.mk c 0 nos (l.map Iv.c), .slice la j lc⟩).toArray rfl rfl HTH.out (by show _ = some 4; kernel_rfl) (iv_all _ rfl) ?_) | (refine wp_store_mid 100 _ _ rfl (w.heap.size) 0 (Iv.cells ⟨.mk c 0 nos (l.map Iv.c), .slice la j lc⟩).toArray rfl rfl HTH.out (by show _ = some 4; kernel_rfl) (iv_all _ rfl) ?_))
                      refine bodyPost_ret (v := .tuple #[.agg (Iv.cells ⟨.mk c 0 nos (l.map Iv.c), .slice la j lc⟩).toArray, .int .i64 0]) (res_cell2 Try.results75 rfl HFN.out.2.2) rfl ⟨⟨.mk c 0 nos (l.map Iv.c), .slice la j lc⟩, 0, p, cj, rfl, ⟨_, _, _, rfl⟩, HFN.out.1, HFN.out.2.1, hpl, ?_⟩
                      unfold ItemRes
                      rw [HDL.out, HALL.out]
                      have ho := onlyC wr w.heap.size (Iv.cells ⟨.mk c 0 nos (l.map Iv.c), .slice la j lc⟩) 0
                      have hh := HS.out.h1
                      refine ⟨rfl, rfl, ⟨l, rfl, ?_, fun a n c' e hn => ?_, fun y hy => ?_⟩, rfl, rfl⟩
                      · have hr := ownsRow_only HS.out.row ho (fun g hg e => by have := (World.ownsRow.lt HS.out.row g hg).1; omega)
                        have h9 := Rd.of_own hr
                        show Rd _ 4 (.slice la j lc) l.length (flatF Iv.cells l)
                        rw [HS.out.len]
                        exact h9
                      · have e : Value.slice la j lc = .slice (some a) n c' := e
                        have := World.ownsRow.lt HS.out.row a.block (by rw [e]; rfl)
                        have hz := ho.size
                        omega
                      · have hz := ho.size
                        exact (ItR.only ho (fun b hp e => by omega) (HS.out.kids y hy)).mono (fun b hp => by omega)
      · have HD0 := Lib.hid (show decI (d + 1) (xs.drop at_) cnt = none by
          rw [List.drop_of_length_le (by omega)]
          unfold decI
          rw [if_neg h96])
        have d1 : decide ((xs.length : Int) ≤ (at_ : Int)) = true := decide_eq_true (by omega)
        have HTH := Lib.hid HR1.out.drew.there
        have HFN := Lib.hid (HR1.out.drew.fin zeroIv)
        go_wp2_with (first | (refine wpList_store_mid rfl 100 _ _ rfl (w.heap.size) 0 (Iv.cells zeroIv).toArray rfl rfl HTH.out (by show _ = some 4; kernel_rfl) (iv_all _ rfl) ?_) | (refine wp_store_mid 100 _ _ rfl (w.heap.size) 0 (Iv.cells zeroIv).toArray rfl rfl HTH.out (by show _ = some 4; kernel_rfl) (iv_all _ rfl) ?_))
        refine bodyPost_ret (v := .tuple #[.agg (Iv.cells zeroIv).toArray, .int .i64 (5)]) (res_cell2 Try.results75 rfl HFN.out.2.2) rfl ⟨zeroIv, 5, _, _, rfl, ⟨_, _, _, rfl⟩, HFN.out.1, HFN.out.2.1, hat, ?_⟩
        unfold ItemRes
        rw [HD0.out]
        simp
theorem item_calls : ∀ d, d ≤ 8 → ItemSpec d
  | 0, h => item_step 0 h (fun d' e => by omega)
  | d + 1, h => item_step (d + 1) h (fun d' e => by cases e; exact item_calls d (by omega))
end Go.Proofs.Ytkabfjbmofpkdaa

/- Layer 3: Decode, walked. -/
namespace Go.Proofs.Ytkabfjbmofpkdaa
open Go.RowKit Go.Shelf
set_option linter.unusedVariables false
set_option linter.unusedSimpArgs false

theorem decN_len {f : List UInt8 → Nat → Option (Itc × List UInt8 × Nat)} (hf : ∀ r c i r' c', f r c = some (i, r', c') → r'.length < r.length) :
    ∀ (n : Nat) (r : List UInt8) (c : Nat) (l : List Itc) (r' : List UInt8) (c' : Nat), decN f n r c = some (l, r', c') → r'.length ≤ r.length
  | 0, r, c, l, r', c', h => by
    simp only [decN, Option.some.injEq, Prod.mk.injEq] at h
    obtain ⟨rfl, rfl, rfl⟩ := h
    exact Nat.le_refl _
  | n + 1, r, c, l, r', c', h => by
    unfold decN at h
    split at h
    · cases h
    · rename_i i r1 c1 h1
      have h2 := hf _ _ _ _ _ h1
      split at h
      · cases h
      · rename_i l2 r2 c2 h3
        have h4 := decN_len hf n r1 c1 l2 r2 c2 h3
        simp only [Option.some.injEq, Prod.mk.injEq] at h
        obtain ⟨rfl, rfl, rfl⟩ := h
        omega
theorem decI_len : ∀ (d : Nat) (r : List UInt8) (c : Nat) (i : Itc) (r' : List UInt8) (c' : Nat), decI d r c = some (i, r', c') → r'.length < r.length
  | 0, _, _, _, _, _, h => by cases h
  | d + 1, r, c, i, r', c', h => by
    unfold decI at h
    split at h
    · cases h
    · split at h
      · cases h
      · rename_i k r1
        split at h
        · cases h
        · split at h
          · cases h
          · rename_i n r2 hn
            have h1 := readNum_len hn
            unfold decK at h
            split at h
            · simp only [Option.some.injEq, Prod.mk.injEq] at h
              obtain ⟨_, rfl, _⟩ := h
              simp; omega
            · split at h
              · cases h
              · split at h
                · split at h
                  · cases h
                  · simp only [Option.some.injEq, Prod.mk.injEq] at h
                    obtain ⟨_, rfl, _⟩ := h
                    simp; omega
                · split at h
                  · cases h
                  · rename_i l r3 c3 h3
                    have := decN_len (decI_len d) _ _ _ _ _ _ h3
                    simp only [Option.some.injEq, Prod.mk.injEq] at h
                    obtain ⟨_, rfl, _⟩ := h
                    simp; omega

/-- What stands while a message is read. -/
structure DSt (rb : Nat) (bv : Value) (xs : List UInt8) (w wr : World) (l : List Iv) (lv : Value) (p cj : Nat) : Prop where
  le : p ≤ xs.length
  c1 : l.length ≤ cj
  c2 : cj ≤ 4096
  h1 : w.heap.size = rb
  h2 : rb < wr.heap.size
  b : Below w.heap.size w wr
  box : RBox wr rb rb bv p cj
  row : wr.ownsRow (rb + 1) 100 4 lv l.length (flatF Iv.cells l)
  kids : ∀ y ∈ l, ItR (fun b => rb < b ∧ b < wr.heap.size ∧ lv.ownBlock ≠ some b) 8 wr y.v y.c.l
  dec : ∃ f, (xs.drop p).length < f ∧ decA (xs.length + 1) xs 0 = match decA f (xs.drop p) cj with
    | none => none
    | some l2 => some (l.map Iv.c ++ l2)
theorem DSt.start {rb : Nat} {bv : Value} {xs : List UInt8} {w wr : World} (h1 : w.heap.size = rb) (h2 : rb < wr.heap.size) (hb : Below w.heap.size w wr) (hr : RBox wr rb rb bv ((0 : Nat) : Int) ((0 : Nat) : Int)) : DSt rb bv xs w wr [] (.slice none 0 0) 0 0 := by
  refine ⟨by omega, by simp, by omega, h1, h2, hb, hr, World.ownsRow_nil _ _ _ _, (fun y hy => by cases hy), xs.length + 1, by simp, ?_⟩
  rw [List.drop_zero]
  cases decA (xs.length + 1) xs 0 with
  | none => rfl
  | some z => rfl
theorem decA_cons (f : Nat) (k : UInt8) (r : List UInt8) (c : Nat) : decA (f + 1) (k :: r) c = match decI 8 (k :: r) c with
    | none => none
    | some (i, r', c') => match decA f r' c' with
      | none => none
      | some l => some (i :: l) := rfl
theorem DSt.bad {rb : Nat} {bv : Value} {xs : List UInt8} {w wr : World} {l : List Iv} {lv : Value} {p cj : Nat} (h : DSt rb bv xs w wr l lv p cj) (hp : p < xs.length) (hd : decI 8 (xs.drop p) cj = none) : decA (xs.length + 1) xs 0 = none := by
  obtain ⟨f, hf, he⟩ := h.dec
  obtain ⟨f', rfl⟩ : ∃ f', f = f' + 1 := ⟨f - 1, by omega⟩
  rw [he]
  rw [List.drop_eq_getElem_cons hp] at hd ⊢
  rw [decA_cons, hd]
theorem DSt.all {rb : Nat} {bv : Value} {xs : List UInt8} {w wr : World} {l : List Iv} {lv : Value} {p cj : Nat} (h : DSt rb bv xs w wr l lv p cj) (hp : ¬ p < xs.length) : decA (xs.length + 1) xs 0 = some (l.map Iv.c) := by
  obtain ⟨f, hf, he⟩ := h.dec
  obtain ⟨f', rfl⟩ : ∃ f', f = f' + 1 := ⟨f - 1, by omega⟩
  rw [he, List.drop_of_length_le (by omega)]
  show some (l.map Iv.c ++ []) = _
  rw [List.append_nil]
theorem DSt.next {rb : Nat} {bv : Value} {xs : List UInt8} {w wr : World} {l : List Iv} {lv : Value} {p cj : Nat} (h : DSt rb bv xs w wr l lv p cj) (hp : p < xs.length) {y : Iv} {w5 w7 w8 : World} {p' c' : Nat}
    (hd : decI 8 (xs.drop p) cj = some (y.c, xs.drop p', c')) (hle : p' ≤ xs.length) (hk : Kp ER rb wr w5 ∧ Only (fun j => j = rb) wr w5) (hb : RBox w5 rb rb bv p' c') (hI : ItR (fun b => wr.heap.size ≤ b ∧ b < w5.heap.size) 8 w5 y.v y.c.l)
    (h57 : ∃ A B, w7 = (w5.alloc A).alloc B) {lv' : Value} (ho : w8.ownsRow (rb + 1) 100 4 lv' (l.length + 1) (flatF Iv.cells l ++ Iv.cells y)) (hg : w7.grownBy w8 lv.ownBlock) (hf : ∀ g, lv'.ownBlock = some g → lv.ownBlock = some g ∨ w7.heap.size ≤ g) :
    DSt rb bv xs w w8 (l ++ [y]) lv' p' c' ∧ p < p' := by
  obtain ⟨A, B, rfl⟩ := h57
  have hbd := decI_bound 8 _ _ _ _ _ hd
  have hln := decI_len 8 _ _ _ _ _ hd
  rw [List.length_drop, List.length_drop] at hln
  have z1 := hk.1.b.size
  have z2 := hg.size
  rw [World.size_alloc, World.size_alloc] at z2
  have hlv : ∀ g, lv.ownBlock = some g → rb + 1 ≤ g ∧ g < wr.heap.size := fun g e => World.ownsRow.lt h.row g e
  have hh1 := h.h1
  have hh2 := h.h2
  have hb57 : Below w5.heap.size w5 ((w5.alloc A).alloc B) := below_box (below_alloc w5 A) B
  have b5 : RBox ((w5.alloc A).alloc B) rb rb bv p' c' := World.ownsRow.alloc (World.ownsRow.alloc hb _) _
  have b8 : RBox w8 rb rb bv p' c' := ownsRow_only b5 (Only.of_grown hg) (fun g hg' e => by simp only [Value.ownBlock, Option.some.injEq] at hg'; have := (hlv g e).1; omega)
  have hbw : Below w.heap.size w w8 := by
    have e1 : Below w.heap.size wr w5 := by rw [hh1]; exact hk.1.b
    have e2 : Below w.heap.size w5 ((w5.alloc A).alloc B) := hb57.mono (by omega)
    exact ((h.b.trans e1).trans e2).grown hg (by rw [World.size_alloc, World.size_alloc]; omega) (fun k e => by have := (hlv k e).1; omega)
  refine ⟨⟨hle, by rw [List.length_append]; have := h.c1; simp; omega, hbd.2, h.h1, by omega, hbw, b8, ?_, fun y' hy => ?_, ?_⟩, by omega⟩
  · rw [flatF_append, flatF_one, List.length_append]
    exact ho
  · have hnew : ∀ b, b < w5.heap.size → lv.ownBlock ≠ some b → lv'.ownBlock ≠ some b := fun b h1 h2 e => by
      rcases hf b e with h3 | h3
      · exact h2 h3
      · rw [World.size_alloc, World.size_alloc] at h3; omega
    rcases List.mem_append.1 hy with hy | hy
    · have k5 := ItR.only hk.2 (fun b hp e => by omega) (h.kids y' hy)
      have k7 := ItR.only (Only.of_below (S := fun _ => False) hb57) (fun _ _ e => e) k5
      have k8 := ItR.only (Only.of_grown hg) (fun b hp e => hp.2.2 e) k7
      exact k8.mono (fun b hp => ⟨hp.1, by omega, hnew b (by omega) hp.2.2⟩)
    · rw [List.mem_singleton] at hy
      subst hy
      have hne : ∀ b, wr.heap.size ≤ b → lv.ownBlock ≠ some b := fun b hb e => by have := (hlv b e).2; omega
      have k7 := ItR.only (Only.of_below (S := fun _ => False) hb57) (fun _ _ e => e) hI
      have k8 := ItR.only (Only.of_grown hg) (fun b hp e => hne b hp.1 e) k7
      exact k8.mono (fun b hp => ⟨by omega, by omega, hnew b hp.2 (hne b hp.1)⟩)
  · obtain ⟨f, hf', he⟩ := h.dec
    obtain ⟨f', rfl⟩ : ∃ f', f = f' + 1 := ⟨f - 1, by omega⟩
    refine ⟨f', by rw [List.length_drop] at hf' ⊢; omega, ?_⟩
    rw [he]
    rw [List.drop_eq_getElem_cons hp] at hd ⊢
    rw [decA_cons, hd]
    simp only
    cases decA f' (xs.drop p') c' with
    | none => rfl
    | some l2 => simp

/-- Where the reader stands. -/
def atOf (w : World) (rb : Nat) : Nat := match w.cell? ⟨rb, 1, none⟩ with
  | some v => (intOf v).toNat
  | none => 0
theorem atOf_box {w : World} {base rb : Nat} {bv : Value} {p : Nat} {cnt : Int} (h : RBox w base rb bv p cnt) : atOf w rb = p := by
  unfold atOf
  rw [h.at.2.1]
  rfl

/-- What a reading of a message leaves. -/
def DecRes (xs : List UInt8) (w' : World) (lv : Value) (cd : Int) : Prop := match dec xs with
  | none => cd ≠ 0 ∧ lv = .slice none 0 0
  | some l => cd = 0 ∧ Its w' 9 lv l

set_option maxHeartbeats 4000000 in
set_option maxRecDepth 100000 in
theorem wdecode_calls (bv : Value) (xs : List UInt8) (w : World) (hx : Bytes w bv xs) (hlen : xs.length ≤ 9223372036854775807) :
    Calls Try.prog 52 #[bv] w fun e w' => ∃ (lv : Value) (cd : Int), e = .returned (.tuple #[lv, .int .i64 cd]) ∧ Below w.heap.size w w' ∧ (∃ a n c, lv = .slice a n c) ∧ DecRes xs w' lv cd := by
  have HX := Lib.hid hx
  obtain ⟨ba, bcap, rfl, hbc1, hbc2, -⟩ := hx
  go_enter Try.func52, Try.ntmps52
  by_cases hbig : 65536 < xs.length
  · have d1 : decide (65536 < (xs.length : Int)) = true := decide_eq_true (by omega)
    have HD := Lib.hid (show dec xs = none by unfold dec; rw [if_pos hbig])
    clear hbig
    go_wp2_with fail
    go_ret2
    exact ⟨_, _, rfl, Below.refl _ _, ⟨_, _, _, rfl⟩, by unfold DecRes; rw [HD.out]; exact ⟨by simp, rfl⟩⟩
  · have d1 : decide (65536 < (xs.length : Int)) = false := decide_eq_false (by omega)
    have HD := Lib.hid (show dec xs = decA (xs.length + 1) xs 0 by unfold dec; rw [if_neg hbig])
    have hl65 : xs.length ≤ 65536 := by omega
    clear hbig
    have HXB := Lib.hid (fun V (hV : Below w.heap.size w V) => (HX.out.below hV (Nat.le_refl _) : Bytes V (.slice ba xs.length bcap) xs))
    obtain ⟨rb, hrb⟩ : ∃ rb, rb = w.heap.size := ⟨_, rfl⟩
    have HST := Lib.hid (show DSt rb (.slice ba xs.length bcap) xs w (w.alloc (.cells #[.slice ba xs.length bcap, .int .i64 0, .int .i64 0] 137)) [] (.slice none 0 0) 0 0 from
      DSt.start hrb.symm (by rw [World.size_alloc]; omega) (below_alloc w _) (by
        rw [hrb]
        exact World.ownsRow_lit (base := w.heap.size) (size := 3) (e := 137) w #[.slice ba xs.length bcap, .int .i64 0, .int .i64 0] 1 (Nat.le_refl _) (by unfold maxLen; omega) (by simp)))
    go_wp2_with fail
    rw [← hrb]
    clear hrb
    go_loopw [5, 6, 7] (fun lv _ _ wr => ∃ (l : List Iv) (p cj : Nat), DSt rb (.slice ba xs.length bcap) xs w wr l lv p cj) (fun _ _ _ wr => xs.length - atOf wr rb)
    case atStart => exact ⟨[], 0, 0, HST.out⟩
    case round =>
      obtain ⟨l, p, cj, hs⟩ := hrel
      have HS := Lib.hid hs
      have hpl := hs.le
      have hcj := hs.c2
      have hcl := hs.c1
      have HP := Lib.hid (atOf_box hs.box)
      obtain ⟨la, lc, rfl⟩ := own_slice hs.row
      obtain ⟨r0, r1, r2⟩ := hs.box.at
      clear hs
      by_cases hp : p < xs.length
      · have ep : decide ((p : Int) < (xs.length : Int)) = true := decide_eq_true (by omega)
        go_wp2_with fail
        rw [show (1 : Int) = 9 - ((8 : Nat) : Int) by decide]
        refine (item_calls 8 (by omega) _ xs rb rb p cj wr (fun V hV => HXB.out V (HS.out.b.trans (HS.out.h1 ▸ hV))) hpl hl65 hcj (by have := HS.out.h2; omega) HS.out.box).mono ?_
        rintro e w5 ⟨y, cd, p', c', rfl, hyv, hb5, hk5, hle5, hres⟩
        obtain ⟨⟨yk, yn, ys, yl⟩, yv⟩ := y
        obtain ⟨ya, yln, yc, hyv⟩ := hyv
        simp only at hyv
        subst hyv
        have HB5 := Lib.hid hb5
        have HK5 := Lib.hid hk5
        unfold ItemRes at hres
        cases hdi : decI 8 (xs.drop p) cj with
        | none =>
          rw [hdi] at hres
          have hcd : (cd != 0) = true := by simpa using hres
          have HM := Lib.hid hres
          have HBAD := Lib.hid (HS.out.bad hp hdi)
          have HBW := Lib.hid (show Below w.heap.size w w5 from HS.out.b.trans (by have := hk5.1.b; rw [HS.out.h1]; exact this))
          clear hres hb5 hk5 hdi
          simp only [Iv.cells, Itc.k, Itc.n, Itc.s]
          go_wp2_with fail
          go_ret2
          refine ⟨_, _, rfl, HBW.out.trans (Below.mono (below_alloc w5 _) HBW.out.size), ⟨_, _, _, rfl⟩, ?_⟩
          unfold DecRes
          rw [HD.out, HBAD.out]
          exact ⟨HM.out, rfl⟩
        | some z =>
          obtain ⟨zi, zr, zc⟩ := z
          rw [hdi] at hres
          obtain ⟨rfl, hyc, hIy, hrr, hcc⟩ := hres
          simp only at hyc hIy
          subst hyc hrr hcc
          have HDI := Lib.hid hdi
          have HIY := Lib.hid hIy
          have hrow5 : w5.ownsRow (rb + 1) 100 4 (.slice la l.length lc) l.length (flatF Iv.cells l) := ownsRow_only HS.out.row HK5.out.2 (fun g hg e => by have := (World.ownsRow.lt HS.out.row g hg).1; omega)
          have HROW := Lib.hid (World.ownsRow.alloc (World.ownsRow.alloc hrow5 (.cells #[.int .i64 yk, .int .i64 yn, .string ys, .slice ya yln yc] 100)) (.cells #[.int .i64 yk, .int .i64 yn, .string ys, .slice ya yln yc] 100))
          have hz7 : rb + 1 ≤ ((w5.alloc (.cells #[.int .i64 yk, .int .i64 yn, .string ys, .slice ya yln yc] 100)).alloc (.cells #[.int .i64 yk, .int .i64 yn, .string ys, .slice ya yln yc] 100)).heap.size := by
            have h1 := HK5.out.1.b.size
            have h2 := HS.out.h2
            rw [World.size_alloc, World.size_alloc]
            omega
          have HZ7 := Lib.hid hz7
          have hlit := Rd.lit (w := w5.alloc (.cells #[.int .i64 yk, .int .i64 yn, .string ys, .slice ya yln yc] 100)) (cs := #[.int .i64 yk, .int .i64 yn, .string ys, .slice ya yln yc]) (e := 100) (n := 1) (sz := 4) rfl (by omega)
          rw [World.size_alloc] at hlit
          have HLIT := Lib.hid hlit
          clear hlit
          have hj4 : l.length ≤ 4096 := by omega
          clear hb5 hk5 hdi hIy hrow5 hz7
          simp only [Iv.cells, Itc.k, Itc.n, Itc.s]
          go_wp2_with (at_builtin; go_loud (refine app_keep tyItems HROW.out HLIT.out (by simp [Value.oneCell']) (by omega) (by omega) (by omega) HZ7.out rfl rfl rfl rfl ?_; intro g gcap w8 h2 h3 h4 h5; have H2 := Lib.hid h2; have H4 := Lib.hid h4; have H5 := Lib.hid h5; clear h2 h3 h4 h5))
          have HN := Lib.hid (HS.out.next (y := ⟨.mk yk yn ys yl, .slice ya yln yc⟩) (lv' := .slice (some ⟨g, 0, none⟩) (l.length + 1) gcap) hp HDI.out hle5 HK5.out HB5.out HIY.out ⟨_, _, rfl⟩ H2.out H4.out (by
            intro g' hg'
            simp only [Value.ownBlock, Option.some.injEq] at hg'
            subst hg'
            rcases H5.out with ⟨k', c', hk', -⟩ | h5
            · exact .inl (by rw [hk']; rfl)
            · exact .inr h5))
          go_roundw
          case rel => exact ⟨_, p', c', HN.out.1⟩
          case measure => rw [atOf_box HN.out.1.box, HP.out]; have := HN.out.2; have := HN.out.1.le; omega
      · have ep : decide ((p : Int) < (xs.length : Int)) = false := decide_eq_false (by omega)
        have HALL := Lib.hid (HS.out.all hp)
        go_wp2_with fail
        go_ret2
        refine ⟨_, _, rfl, HS.out.b, ⟨_, _, _, rfl⟩, ?_⟩
        unfold DecRes
        rw [HD.out, HALL.out]
        refine ⟨rfl, l, rfl, Rd.of_own HS.out.row, fun a n c e _ => ?_, fun y hy => (HS.out.kids y hy).mono (fun b hp => hp.2.1)⟩
        have e : Value.slice la l.length lc = .slice (some a) n c := e
        exact (World.ownsRow.lt HS.out.row a.block (by rw [e]; rfl)).2
end Go.Proofs.Ytkabfjbmofpkdaa

/- Layer 9: what stands while an entry is read of a text. -/
namespace Go.Proofs.Ytkabfjbmofpkdaa
open Go.RowKit Go.Shelf
set_option linter.unusedVariables false
set_option linter.unusedSimpArgs false
set_option maxRecDepth 100000

theorem tyIntsD : STy Try.prog 54 3 (.int .i64 0) 1 8 := .of Try.underlying54 (by kernel_rfl) rfl (by omega)
abbrev zE : Ent := ⟨0, zR, nv, [], 0⟩
/-- An entry that was read. -/
structure EntSame (X E : Ent) : Prop where
  k : E.k = X.k
  r : E.r = X.r
  n : E.n = X.n
  os : E.os.map Opr.con = X.os.map Opr.con
/-- Its rows are the call's own. -/
structure EntOwn (w : World) (base : Nat) (E : Ent) : Prop where
  ops : w.ownsRow base 90 7 E.gv E.os.length (flatF Opr.cells E.os)
  ins : ∀ o ∈ E.os, w.ownsRow base 3 1 o.iv o.ins.length (ints o.ins)
theorem EntOwn.nil (w : World) (base : Nat) (E : Ent) (h1 : E.gv = .slice none 0 0) (h2 : E.os = []) : EntOwn w base E := ⟨by rw [h1, h2]; exact World.ownsRow_nil _ _ _ _, by rw [h2]; intro o ho; cases ho⟩
theorem EntOwn.reads {w : World} {base : Nat} {E : Ent} (h : EntOwn w base E) : OpsR w E.gv E.os := ⟨Rd.of_own h.ops, fun o ho => Rd.of_own (h.ins o ho)⟩
theorem EntOwn.only {S : Nat → Prop} {w w' : World} {base : Nat} {E : Ent} (h : EntOwn w base E) (ho : Only S w w') (hS : ∀ j, base ≤ j → j < w.heap.size → ¬ S j) : EntOwn w' base E :=
  ⟨ownsRow_only h.ops ho (fun g hg => hS g (World.ownsRow.lt h.ops g hg).1 (World.ownsRow.lt h.ops g hg).2), fun o hin => ownsRow_only (h.ins o hin) ho (fun g hg => hS g (World.ownsRow.lt (h.ins o hin) g hg).1 (World.ownsRow.lt (h.ins o hin) g hg).2)⟩
theorem EntOwn.below {w w' : World} {base : Nat} {E : Ent} (h : EntOwn w base E) (hb : Below w.heap.size w w') : EntOwn w' base E :=
  ⟨ownsRow_below h.ops hb (Nat.le_refl _), fun o ho => ownsRow_below (h.ins o ho) hb (Nat.le_refl _)⟩
theorem EntOwn.mono {w : World} {base base' : Nat} {E : Ent} (h : EntOwn w base E) (hb : base' ≤ base) : EntOwn w base' E := ⟨ownsRow_mono h.ops hb, fun o ho => ownsRow_mono (h.ins o ho) hb⟩

/-- What stands while an entry is read: rb the result's box, wb the flag's, wb + 1 take's, eb the entry's. -/
structure DS (V : World) (rb wb eb : Nat) (lv : Value) (l : List Itc) (b : Bool) (E : Ent) : Prop where
  lt : rb < wb
  lt2 : wb + 2 ≤ eb
  flag : Flag V wb wb b
  fn : V.cell? ⟨wb + 1, 0, none⟩ = some (.func (.func 76) #[] #[.pointer (some ⟨wb, 0, none⟩)])
  its : ItR (fun j => j < wb) 9 V lv l
  res : V.there rb 0 8
  box : V.ownsRow eb 35 8 (.slice (some ⟨eb, 0, none⟩) 1 1) 1 E.cells
  own : EntOwn V (eb + 1) E
theorem DS.ebLt {V : World} {rb wb eb : Nat} {lv : Value} {l : List Itc} {b : Bool} {E : Ent} (h : DS V rb wb eb lv l b E) : eb < V.heap.size := (World.ownsRow.lt h.box eb rfl).2
/-- The flag and what is new may change. -/
theorem DS.fresh {V V' : World} {rb wb eb : Nat} {lv : Value} {l : List Itc} {b b' : Bool} {E : Ent} (h : DS V rb wb eb lv l b E) (ho : Only (fun j => j = wb ∨ V.heap.size ≤ j) V V') (hf : Flag V' wb wb b') : DS V' rb wb eb lv l b' E := by
  have h1 := h.lt
  have h2 := h.lt2
  have h3 := h.ebLt
  refine ⟨h1, h2, hf, ho.cell (fun e => by omega) h.fn, ItR.only ho (fun j hj e => by omega) h.its, there_only h.res ho (by omega) (fun e => by omega), ownsRow_only h.box ho (fun g hg e => by simp only [Value.ownBlock, Option.some.injEq] at hg; omega), h.own.only ho (fun j h1 h2 e => by omega)⟩
theorem DS.later {V V' : World} {rb wb eb : Nat} {lv : Value} {l : List Itc} {b : Bool} {E : Ent} (h : DS V rb wb eb lv l b E) (hb : Below V.heap.size V V') : DS V' rb wb eb lv l b E :=
  h.fresh (Only.of_below hb) (h.flag.below hb)
theorem DS.took {V V' : World} {rb wb eb : Nat} {lv : Value} {l : List Itc} {b b' : Bool} {E : Ent} (h : DS V rb wb eb lv l b E) (ho : Only (fun j => j = wb) V V') (hf : Flag V' wb wb b') : DS V' rb wb eb lv l b' E :=
  h.fresh (ho.weak (fun j _ e => .inl e)) hf
theorem DS.cell {V : World} {rb wb eb : Nat} {lv : Value} {l : List Itc} {b : Bool} {E : Ent} (h : DS V rb wb eb lv l b E) (j : Nat) (v : Value) (hj : E.cells[j]? = some v) : V.cell? ⟨eb, j, none⟩ = some v := by
  have := World.ownsRow.cells h.box (g := eb) rfl j v hj
  rwa [add_off, Nat.zero_add] at this
theorem DS.range {V : World} {rb wb eb : Nat} {lv : Value} {l : List Itc} {b : Bool} {E : Ent} (h : DS V rb wb eb lv l b E) : V.rangeAt eb 0 E.cells := fun j v hj => by rw [Nat.zero_add]; exact h.cell j v hj
theorem DS.there {V : World} {rb wb eb : Nat} {lv : Value} {l : List Itc} {b : Bool} {E : Ent} (h : DS V rb wb eb lv l b E) (o n : Nat) (hn : o + n ≤ 8) : V.there eb o n := fun j hj => by
  have hx : ∃ u, E.cells[o + j]? = some u := ⟨_, List.getElem?_eq_getElem (by show o + j < 8; omega)⟩
  obtain ⟨u, hu⟩ := hx
  exact ⟨by rw [h.cell _ _ hu]; rfl, World.ownsRow.frozenAt h.box (o + j)⟩
/-- The entry's box changes, cell by cell. -/
theorem own_setCells {e : TypeId} {sz base g n cap : Nat} : ∀ (vs : List Value) (V : World) (xs : List Value) (o : Nat), V.ownsRow base e sz (.slice (some ⟨g, 0, none⟩) n cap) n xs → ∃ xs' : List Value, (V.setCells g o vs).ownsRow base e sz (.slice (some ⟨g, 0, none⟩) n cap) n xs' ∧ xs'.length = xs.length ∧ (∀ j, (j < o ∨ o + vs.length ≤ j) → xs'[j]? = xs[j]?) ∧ (∀ j, j < vs.length → o + vs.length ≤ xs.length → xs'[o + j]? = vs[j]?)
  | [], V, xs, o, h => ⟨xs, h, rfl, fun j _ => rfl, fun j hj => by simp at hj⟩
  | v :: vs, V, xs, o, h => by
    obtain ⟨xs', h1, h2, h3, h4⟩ := own_setCells vs (V.setCell ⟨g, o, none⟩ v) (xs.set o v) (o + 1) (World.ownsRow.stored h o v).1
    refine ⟨xs', h1, by rw [h2, List.length_set], fun j hj => ?_, fun j hj hl => ?_⟩
    · rw [h3 j (by simp at hj; omega), List.getElem?_set_ne (by simp at hj; omega)]
    · rw [List.length_cons] at hj hl
      rcases Nat.eq_zero_or_pos j with rfl | hp
      · rw [Nat.add_zero, h3 o (.inl (by omega)), List.getElem?_set_self (by omega)]; rfl
      · obtain ⟨j', rfl⟩ : ∃ j', j = j' + 1 := ⟨j - 1, by omega⟩
        rw [show o + (j' + 1) = o + 1 + j' by omega, h4 j' (by omega) (by rw [List.length_set]; omega)]
        rfl
theorem DS.put {V V' : World} {rb wb eb : Nat} {lv : Value} {l : List Itc} {b : Bool} {E E' : Ent} (h : DS V rb wb eb lv l b E) (ho : Only (fun j => j = eb) V V') (hb : V'.ownsRow eb 35 8 (.slice (some ⟨eb, 0, none⟩) 1 1) 1 E'.cells) (hE : EntOwn V' (eb + 1) E') : DS V' rb wb eb lv l b E' := by
  have h1 := h.lt
  have h2 := h.lt2
  have h3 := h.ebLt
  exact ⟨h1, h2, h.flag.only ho (by omega), ho.cell (by omega) h.fn, ItR.only ho (fun j hj e => by omega) h.its, there_only h.res ho (by omega) (by omega), hb, hE⟩
theorem DS.putRec {V : World} {rb wb eb : Nat} {lv : Value} {l : List Itc} {b : Bool} {E : Ent} (h : DS V rb wb eb lv l b E) (r : Rec) : DS (V.setCells eb 1 r.cells) rb wb eb lv l b { E with r := r } := by
  obtain ⟨xs', h1, h2, h3, h4⟩ := own_setCells r.cells V E.cells 1 h.box
  have e : xs' = Ent.cells { E with r := r } := by
    refine List.ext_getElem? fun j => ?_
    by_cases hj : j < 1 ∨ 6 ≤ j
    · rw [h3 j hj]
      rcases (show j = 0 ∨ j = 6 ∨ j = 7 ∨ 8 ≤ j by omega) with rfl | rfl | rfl | hj
      · rfl
      · rfl
      · rfl
      · rw [List.getElem?_eq_none (by show 8 ≤ j; exact hj), List.getElem?_eq_none (by show 8 ≤ j; exact hj)]
    · obtain ⟨i, rfl⟩ : ∃ i, j = 1 + i := ⟨j - 1, by omega⟩
      rw [h4 i (by show i < 5; omega) (by show 1 + 5 ≤ 8; omega)]
      rcases (show i = 0 ∨ i = 1 ∨ i = 2 ∨ i = 3 ∨ i = 4 by omega) with rfl | rfl | rfl | rfl | rfl <;> rfl
  subst e
  have ho := onlyC V eb r.cells 1
  exact h.put ho h1 ((h.own.only ho (fun j h1 h2 e => by omega)) |> fun k => ⟨k.ops, k.ins⟩)
theorem DS.putN {V : World} {rb wb eb : Nat} {lv : Value} {l : List Itc} {b : Bool} {E : Ent} (h : DS V rb wb eb lv l b E) (n : Int) : DS (V.setCell ⟨eb, 7, none⟩ (.int .i64 n)) rb wb eb lv l b { E with n := n } := by
  have hs := World.ownsRow.stored h.box 7 (.int .i64 n)
  have ho : Only (fun j => j = eb) V (V.setCell ⟨eb, 7, none⟩ (.int .i64 n)) := (Only.refl _ _).setCell _ _ (.inl rfl)
  exact h.put ho hs.1 ((h.own.only ho (fun j h1 h2 e => by omega)) |> fun k => ⟨k.ops, k.ins⟩)
/-- One more operator. -/
theorem DS.pushOp {V W V' : World} {rb wb eb g m : Nat} {lv : Value} {l : List Itc} {b : Bool} {E : Ent} (h : DS V rb wb eb lv l b E) (o : Opr) (hi : V.ownsRow (eb + 1) 3 1 o.iv o.ins.length (ints o.ins))
    (h2 : W.ownsRow (eb + 1) 90 7 (.slice (some ⟨g, 0, none⟩) (E.os.length + 1) m) (E.os.length + 1) (flatF Opr.cells E.os ++ Opr.cells o)) (hg : V.grownBy W E.gv.ownBlock) (hV : V' = W.setCell ⟨eb, 6, none⟩ (.slice (some ⟨g, 0, none⟩) (E.os.length + 1) m)) :
    DS V' rb wb eb lv l b { E with gv := .slice (some ⟨g, 0, none⟩) (E.os.length + 1) m, os := E.os ++ [o] } := by
  have h1 := h.lt
  have h2' := h.lt2
  have h3 := h.ebLt
  have ho : Only (fun j => E.gv.ownBlock = some j) V W := Only.of_grown hg
  have hlt : ∀ j, E.gv.ownBlock = some j → eb + 1 ≤ j := fun j e => (World.ownsRow.lt h.own.ops j e).1
  have hbox : W.ownsRow eb 35 8 (.slice (some ⟨eb, 0, none⟩) 1 1) 1 E.cells := ownsRow_only h.box ho (fun g hg e => by simp only [Value.ownBlock, Option.some.injEq] at hg; have := hlt _ e; omega)
  have hins : ∀ x ∈ E.os ++ [o], W.ownsRow (eb + 1) 3 1 x.iv x.ins.length (ints x.ins) := fun x hx => by
    have hx' : V.ownsRow (eb + 1) 3 1 x.iv x.ins.length (ints x.ins) := by
      rcases List.mem_append.1 hx with hx | hx
      · exact h.own.ins x hx
      · rw [List.mem_singleton] at hx
        subst hx
        exact hi
    exact own_otherT h.own.ops hx' (by decide) hg
  have hst := World.ownsRow.stored hbox 6 (.slice (some ⟨g, 0, none⟩) (E.os.length + 1) m)
  rw [← hV] at hst
  have ho2 : Only (fun j => j = eb) W V' := by rw [hV]; exact (Only.refl _ _).setCell _ _ (.inl rfl)
  have hzW := ho.size
  refine ⟨h1, h2', (h.flag.only ho (fun e => by have := hlt _ e; omega)).only ho2 (by omega), ho2.cell (by omega) (ho.cell (fun e => by have := hlt _ e; omega) h.fn), ItR.only ho2 (fun j hj e => by omega) (ItR.only ho (fun j hj e => by have := hlt _ e; omega) h.its), there_only (there_only h.res ho (by omega) (fun e => by have := hlt _ e; omega)) ho2 (by omega) (by omega), hst.1, ⟨?_, fun x hx => ?_⟩⟩
  · have e1 : flatF Opr.cells (E.os ++ [o]) = flatF Opr.cells E.os ++ Opr.cells o := by simp [flatF]
    show V'.ownsRow (eb + 1) 90 7 _ (E.os ++ [o]).length (flatF Opr.cells (E.os ++ [o]))
    rw [e1, List.length_append]
    exact ownsRow_only h2 ho2 (fun g' hg' e => by have := (World.ownsRow.lt h2 g' hg').1; omega)
  · exact ownsRow_only (hins x hx) ho2 (fun g' hg' e => by have := (World.ownsRow.lt (hins x hx) g' hg').1; omega)
/-- While an operator is read: pb its box. -/
structure RS2 (V0 V : World) (wb pb eb : Nat) (b : Bool) (o : Opr) : Prop where
  on : Only (fun j => j = wb ∨ V0.heap.size ≤ j) V0 V
  flag : Flag V wb wb b
  wlt : wb + 2 ≤ eb ∧ eb < V0.heap.size
  plt : V0.heap.size ≤ pb
  box : V.ownsRow (eb + 1) 90 7 (.slice (some ⟨pb, 0, none⟩) 1 1) 1 o.cells
  row : V.ownsRow (eb + 1) 3 1 o.iv o.ins.length (ints o.ins)
  rlt : ∀ g, o.iv.ownBlock = some g → V0.heap.size ≤ g
theorem RS2.later {V0 V V' : World} {wb pb eb : Nat} {b : Bool} {o : Opr} (h : RS2 V0 V wb pb eb b o) (hb : Below V.heap.size V V') : RS2 V0 V' wb pb eb b o :=
  ⟨h.on.trans (Only.of_below (S := fun _ => False) hb) (fun _ _ h => h.elim), h.flag.below hb, h.wlt, h.plt, ownsRow_below h.box hb (Nat.le_refl _), ownsRow_below h.row hb (Nat.le_refl _), h.rlt⟩
theorem RS2.took {V0 V V' : World} {wb pb eb : Nat} {b b' : Bool} {o : Opr} (h : RS2 V0 V wb pb eb b o) (ho : Only (fun j => j = wb) V V') (hf : Flag V' wb wb b') : RS2 V0 V' wb pb eb b' o := by
  have h1 := h.wlt
  have h2 := h.plt
  exact ⟨h.on.trans ho (fun _ _ h => .inl h), hf, h.wlt, h.plt, ownsRow_only h.box ho (fun g hg e => by simp only [Value.ownBlock, Option.some.injEq] at hg; omega), ownsRow_only h.row ho (fun g hg e => by have := h.rlt g hg; omega), h.rlt⟩
theorem RS2.cell {V0 V : World} {wb pb eb : Nat} {b : Bool} {o : Opr} (h : RS2 V0 V wb pb eb b o) (j : Nat) (v : Value) (hj : o.cells[j]? = some v) : V.cell? ⟨pb, j, none⟩ = some v := by
  have := World.ownsRow.cells h.box (g := pb) rfl j v hj
  rwa [add_off, Nat.zero_add] at this
theorem RS2.pushIn {V0 V W V' : World} {wb pb eb g m : Nat} {b : Bool} {o : Opr} (h : RS2 V0 V wb pb eb b o) (n : Int)
    (h2 : W.ownsRow (eb + 1) 3 1 (.slice (some ⟨g, 0, none⟩) (o.ins.length + 1) m) (o.ins.length + 1) (ints o.ins ++ [.int .i64 n])) (hg : V.grownBy W o.iv.ownBlock) (h5 : (∃ k c, o.iv = .slice (some ⟨g, 0, none⟩) k c ∧ m = c) ∨ V.heap.size ≤ g) (hV : V' = W.setCell ⟨pb, 1, none⟩ (.slice (some ⟨g, 0, none⟩) (o.ins.length + 1) m)) :
    RS2 V0 V' wb pb eb b { o with iv := .slice (some ⟨g, 0, none⟩) (o.ins.length + 1) m, ins := o.ins ++ [n] } := by
  have h1 := h.wlt
  have h2' := h.plt
  have ho : Only (fun j => o.iv.ownBlock = some j) V W := Only.of_grown hg
  have hbox : W.ownsRow (eb + 1) 90 7 (.slice (some ⟨pb, 0, none⟩) 1 1) 1 o.cells := own_otherT h.row h.box (by decide) hg
  have hst := World.ownsRow.stored hbox 1 (.slice (some ⟨g, 0, none⟩) (o.ins.length + 1) m)
  rw [← hV] at hst
  have ho2 : Only (fun j => j = pb) W V' := by rw [hV]; exact (Only.refl _ _).setCell _ _ (.inl rfl)
  have hz := h.on.size
  have hgl : V0.heap.size ≤ g := by
    rcases h5 with ⟨k, c, hk, -⟩ | h5
    · exact h.rlt g (by rw [hk]; rfl)
    · omega
  refine ⟨(h.on.trans ho (fun j _ e => .inr (h.rlt j e))).trans ho2 (fun j _ e => .inr (by omega)), (h.flag.only ho (fun e => by have := h.rlt _ e; omega)).only ho2 (by omega), h1, h2', hst.1, ?_, fun g' hg' => by simp only [Value.ownBlock, Option.some.injEq] at hg'; omega⟩
  have e1 : ints (o.ins ++ [n]) = ints o.ins ++ [.int .i64 n] := by simp [ints]
  show V'.ownsRow (eb + 1) 3 1 _ (o.ins ++ [n]).length (ints (o.ins ++ [n]))
  rw [e1, List.length_append]
  exact own_otherT hbox h2 (by decide) hst.2
/-- Laid over a box of the same size. -/
theorem own_over {e : TypeId} {sz base g : Nat} {V : World} {xs vs : List Value} (h : V.ownsRow base e sz (.slice (some ⟨g, 0, none⟩) 1 1) 1 xs) (hl : vs.length = xs.length) : (V.setCells g 0 vs).ownsRow base e sz (.slice (some ⟨g, 0, none⟩) 1 1) 1 vs := by
  obtain ⟨xs', h1, h2, h3, h4⟩ := own_setCells vs V xs 0 h
  have e : xs' = vs := by
    refine List.ext_getElem? fun j => ?_
    by_cases hj : j < vs.length
    · have := h4 j hj (by omega)
      rwa [Nat.zero_add] at this
    · rw [List.getElem?_eq_none (by omega), List.getElem?_eq_none (by omega)]
  rwa [e] at h1
end Go.Proofs.Ytkabfjbmofpkdaa

/- Layer 9: what a reading of an entry's text leaves; a text's bytes. -/
namespace Go.Proofs.Ytkabfjbmofpkdaa
open Go.RowKit Go.Shelf
set_option linter.unusedVariables false
set_option linter.unusedSimpArgs false
set_option maxRecDepth 100000

theorem conv_str (s : ByteArray) (w : World) (hs' : s.size ≤ 9223372036854775807) : ∃ (w1 : World) (cap : Nat), (convert 9 96 (.string s)).run Try.prog w = .ok (.slice (some ⟨w.heap.size, 0, none⟩) s.size cap) w1 ∧ Below w.heap.size w w1 ∧ Bytes w1 (.slice (some ⟨w.heap.size, 0, none⟩) s.size cap) s.data.toList := by
  have hs : s.size ≤ maxLen := by unfold maxLen; omega
  have hl : s.data.toList.length = s.size := by rw [Array.length_toList]; rfl
  refine ⟨Lib.bytesWorld w 5 s, grownCap w s.size 0 5, Lib.run_convert_string_bytes w 9 96 5 s Try.underlying9 Try.underlying96 Try.underlying5, ?_, ?_⟩
  · exact ⟨rfl, rfl, rfl, by rw [Lib.bytesWorld_size]; omega, fun j hj => Lib.bytesWorld_at_old w 5 s j hj⟩
  · refine ⟨some ⟨w.heap.size, 0, none⟩, _, by rw [hl], by rw [hl]; exact grownCap_ge _ _ _ _, by have := grownCap_le_maxLen w s.size 0 5 hs; unfold maxLen at this; omega, .inr ⟨w.heap.size, 0, rfl, fun i hi => ?_⟩⟩
    rw [hl] at hi
    rw [Nat.zero_add, Lib.bytesWorld_cell w 5 s i hi]
    unfold bt
    rw [List.getD_eq_getElem?_getD]
/-- What a reading of an entry's text leaves. -/
def EntRes (s : ByteArray) (w' : World) (base : Nat) (E : Ent) (cd : Int) : Prop := EntOwn w' base E ∧ (match entD s with
  | none => cd = 3 ∧ E = zE
  | some X => cd = 0 ∧ EntSame X E)
/-- Decode answers so. -/
def EDec : Prop := ∀ (s : ByteArray) (w : World), s.size ≤ 9223372036854775807 → Calls Try.prog 54 #[.string s] w fun e w' => ∃ E cd, e = .returned (.tuple #[.agg E.cells.toArray, .int .i64 cd]) ∧ EntRes s w' w.heap.size E cd ∧ Below w.heap.size w w'
end Go.Proofs.Ytkabfjbmofpkdaa

/- Layer 9: a graph's operators as an item, walked. -/
namespace Go.Proofs.Ytkabfjbmofpkdaa
open Go.RowKit Go.Shelf
set_option linter.unusedVariables false
set_option linter.unusedSimpArgs false
set_option maxRecDepth 100000

set_option maxHeartbeats 8000000 in
theorem eops_calls (gv : Value) (os : List Opr) (w : World) (hO : OpsR w gv os) (hok : ∀ o ∈ os, o.ok) (hl : os.length ≤ 16) (hi : ∀ o ∈ os, o.ins.length ≤ 2) :
    Calls Try.prog 74 #[.agg #[gv]] w fun e w' => ∃ lv, e = .returned (ivList lv) ∧ ItR (fun j => w.heap.size ≤ j ∧ j < w'.heap.size) 7 w' lv (os.map opE) ∧ Below w.heap.size w w' := by
  obtain ⟨ga, gc, rfl, hgc1, hgc2⟩ := hO.row.slice
  have HO := Lib.hid hO
  have HOK := Lib.hid hok
  have HI := Lib.hid hi
  clear hO hok hi
  obtain ⟨X, hX⟩ : ∃ X, X = (w.alloc (.cells #[.slice ga os.length gc] 28)).alloc (.cells #[.int .i64 0, .int .i64 0, .string nos, .slice none 0 0] 100) := ⟨_, rfl⟩
  have hbX : Below w.heap.size w X := by rw [hX]; exact below_box (below_alloc _ _) _
  have hXS : X.heap.size = w.heap.size + 2 := by rw [hX]; simp
  have x0 : X.cell? ⟨w.heap.size, 0, none⟩ = some (.slice ga os.length gc) := by
    rw [hX]
    exact cell_later (below_alloc _ _) (box_self _ _ rfl)
  have HT := Lib.hid (show X.there (w.heap.size + 1) 0 4 from by
    rw [hX]
    have := there_box (w := w.alloc (.cells #[.slice ga os.length gc] 28)) (cs := #[.int .i64 0, .int .i64 0, .string nos, .slice none 0 0]) (e := 100) (Below.refl _ _)
    rwa [World.size_alloc] at this)
  have HBX := Lib.hid hbX
  have HOX := Lib.hid (HO.out.below hbX (Nat.le_refl _))
  have HX := Lib.hid hX
  clear hX hbX
  go_enter Try.func74, Try.ntmps74
  go_wp2_with fail
  rw [← HX.out]
  go_wp2_with fail
  go_loopw [3, 5, 6, 8, 12] (fun lv _ _ _ iv wr => ∃ (j : Nat) (xs : List Iv), j ≤ os.length ∧ iv = .int .i64 j ∧ xs.map Iv.c = (os.take j).map opE ∧ IRow wr X.heap.size 6 lv xs ∧ Below X.heap.size X wr) (fun _ _ _ _ iv _ => os.length - (intOf iv).toNat)
  case atStart => exact ⟨0, [], by omega, rfl, rfl, IRow.nil _ _ _, Below.refl _ _⟩
  case round =>
    obtain ⟨j, xs, hj, rfl, hxs, hrow, hb⟩ := hrel
    have HROW := Lib.hid hrow
    have HXS := Lib.hid hxs
    have HB := Lib.hid hb
    have hxl : xs.length = j := by have := congrArg List.length hxs; simp at this; omega
    obtain ⟨la, lc, rfl⟩ := own_slice hrow.own
    have HXL := Lib.hid hxl
    have hx16 : xs.length ≤ 16 := by omega
    clear hrow hxs hb hxl
    by_cases hlt : j < os.length
    · have hor := HOX.out.below HB.out (Nat.le_refl _)
      obtain ⟨b, o, rfl, c0, c1, c2, c3, c4, c5, c6⟩ := op_at hor j hlt
      have hin := hor.ins os[j] (List.getElem_mem _)
      have hil := HI.out os[j] (List.getElem_mem _)
      have HOK2 := Lib.hid (HOK.out os[j] (List.getElem_mem _))
      have HTK := Lib.hid (List.take_succ_eq_append_getElem hlt)
      obtain ⟨ia, ic, hiv, -⟩ := hin.slice
      rw [hiv] at c1 hin
      have HIN := Lib.hid hin
      clear hor hin
      generalize os[j] = O at *
      obtain ⟨kind, iv, ins, arg, num, rounds, test, lim⟩ := O
      simp only at c0 c1 c2 c3 c4 c5 c6 hiv HIN hil
      subst hiv
      go_upto_region 6 with fail
      obtain ⟨W1, hW1⟩ : ∃ W1, W1 = wr.alloc (.cells #[.int .i64 kind, .slice ia ins.length ic, .int .i64 arg, .int .u32 num, .int .i64 rounds, .int .i64 test, .int .u32 lim] 90) := ⟨_, rfl⟩
      have hb1 : Below wr.heap.size wr W1 := by rw [hW1]; exact below_alloc _ _
      have HB1 := Lib.hid hb1
      have ob : OpBox W1 wr.heap.size ⟨kind, .slice ia ins.length ic, ins, arg, num, rounds, test, lim⟩ := by
        rw [hW1]
        exact ⟨box_self 0 _ rfl, box_self 1 _ rfl, box_self 2 _ rfl, box_self 3 _ rfl, box_self 4 _ rfl, box_self 5 _ rfl, box_self 6 _ rfl⟩
      have y1 := ob.c1
      have OB := Lib.hid ob
      have HIN1 := Lib.hid (Rd.below HIN.out hb1 (Nat.le_refl _))
      have HR1 := Lib.hid (HROW.out.below hb1)
      rw [← hW1]
      obtain ⟨tb, htb⟩ : ∃ tb, tb = wr.heap.size := ⟨_, rfl⟩
      have hs0 := HB.out.size
      have htw : tb < W1.heap.size := by rw [htb, hW1]; simp
      have HNE := Lib.hid (show ∀ b, tb ≤ b → (Value.slice la xs.length lc).ownBlock ≠ some b from fun b hb e => by
        have := (World.ownsRow.lt HROW.out.own b e).2
        omega)
      have HLTX := Lib.hid (show ∀ j, (Value.slice la xs.length lc).ownBlock = some j → X.heap.size ≤ j from fun j e => (World.ownsRow.lt HROW.out.own j e).1)
      rw [← htb] at OB y1 ⊢
      have hs1 : X.heap.size ≤ W1.heap.size := by have := hb1.size; omega
      clear hW1 htb c0 c1 c2 c3 c4 c5 c6 hb1 ob
      go_wp2_with fail
      go_loopw [6, 8, 19] (fun nv _ kv wq => ∃ (k : Nat) (ys : List Iv), k ≤ ins.length ∧ kv = .int .i64 k ∧ ys.map Iv.c = (ins.take k).map iI ∧ IRow wq W1.heap.size 4 nv ys ∧ Below W1.heap.size W1 wq) (fun _ _ kv _ => ins.length - (intOf kv).toNat)
      case atStart => exact ⟨0, [], by omega, rfl, rfl, IRow.nil _ _ _, Below.refl _ _⟩
      case round =>
        obtain ⟨k, ys, hk, rfl, hys, hrow, hb⟩ := hrel
        have HYR := Lib.hid hrow
        have HYS := Lib.hid hys
        have HB2 := Lib.hid hb
        have hyl : ys.length = k := by have := congrArg List.length hys; simp at this; omega
        obtain ⟨na, nc, rfl⟩ := own_slice hrow.own
        have HYL := Lib.hid hyl
        have hy2 : ys.length ≤ 2 := by omega
        clear hrow hys hb hyl
        by_cases hlk : k < ins.length
        · obtain ⟨b2, o2, rfl, d0⟩ := int_at (HIN1.out.below HB2.out (Nat.le_refl _)) k hlk
          have HTK2 := Lib.hid (List.take_succ_eq_append_getElem hlk)
          generalize ins[k] = m at *
          have hsr := HB2.out.size
          have hsq := HYR.out
          go_wp2_with fail
          refine (wint_calls _ _).mono ?_
          rintro e w4 ⟨rfl, hb4⟩
          have HB4 := Lib.hid hb4
          have HY4 := Lib.hid ((HYR.out.below hb4).below (below_alloc w4 (.cells #[.int .i64 0, .int .i64 m, .string nos, .slice none 0 0] 100)))
          have hs4 := hb4.size
          have HLIT := Lib.hid (Rd.lit (w := w4) (cs := #[.int .i64 0, .int .i64 m, .string nos, .slice none 0 0]) (e := 100) (n := 1) (sz := 4) rfl (by omega))
          have HBS := Lib.hid (show W1.heap.size ≤ (w4.alloc (.cells #[.int .i64 0, .int .i64 m, .string nos, .slice none 0 0] 100)).heap.size by simp; omega)
          clear hb4 hsq
          go_upto_region 10 with (at_builtin; go_loud (refine app_keep tyItems HY4.out.own HLIT.out (by simp [Value.oneCell']) (by omega) (by omega) (by omega) HBS.out rfl rfl rfl rfl ?_; intro g gcap w5 h2 h3 h4 h5; have H2 := Lib.hid h2; have H4 := Lib.hid h4; have H5 := Lib.hid h5; clear h2 h3 h4 h5))
          have HY5 := Lib.hid (HY4.out.keep ⟨iI m, .slice none 0 0⟩ (ItR.nil _ _ _) H2.out H4.out H5.out)
          have HB5 := Lib.hid ((HB2.out.trans (HB4.out.mono (by omega))).trans (((below_alloc w4 (.cells #[.int .i64 0, .int .i64 m, .string nos, .slice none 0 0] 100)).mono (by omega)).trans (((Below.refl W1.heap.size _).grown H4.out (by have := HBS.out; omega) (fun j e => (World.ownsRow.lt HY4.out.own j e).1)))))
          clear H2 H4 H5
          go_wp2_with fail
          go_roundw
          case rel => exact ⟨k + 1, ys ++ [⟨iI m, .slice none 0 0⟩], by omega, by go_num, by rw [List.map_append, HYS.out, HTK2.out, List.map_append]; rfl, HY5.out, HB5.out⟩
          case measure => simp [intOf]; omega
        · obtain rfl : k = ins.length := by omega
          rw [List.take_length] at HYS
          have OB2 := Lib.hid (OB.out.later HB2.out)
          have HR2 := Lib.hid (HR1.out.below HB2.out)
          have hsq := HB2.out.size
          have HBX2 := Lib.hid (HB.out.trans ((HB1.out.mono (by have := HB.out.size; omega)).trans (HB2.out.mono hs1)))
          have HYI := Lib.hid HYR.out.its
          have q1 : IntKind.i64.wrap num = num := by have := HOK2.out.2.2.1; simp only at this; unfold U32 at this; rw [IntKind.wrap_i64]; omega
          have q2 : IntKind.i64.wrap lim = lim := by have := HOK2.out.2.2.2.2.2.1; simp only at this; unfold U32 at this; rw [IntKind.wrap_i64]; omega
          have q3 : wrap64 num = num := by rw [← q1, IntKind.wrap_i64]; unfold wrap64; omega
          have q4 : wrap64 lim = lim := by rw [← q2, IntKind.wrap_i64]; unfold wrap64; omega
          have HB2x := Lib.hid HB2.out
          have HRW := Lib.hid HR1.out
          have HBX1 := Lib.hid (HB.out.trans (HB1.out.mono (by have := HB.out.size; omega)))
          clear HYR HR1 HB HB1 HB2 OB HIN HIN1 hlk
          go_upto_region 11 with fail
          have hdr := (Below.refl wr.heap.size wr).drew
          have ob := OB2.out.later hdr
          have HR2 := Lib.hid (HR2.out.below hdr)
          have HYI := Lib.hid ((ItR.below hdr (fun j hj => hj.2) HYI.out).mono (Q := fun j => W1.heap.size ≤ j ∧ j < wr.drew.heap.size) (fun j hj => ⟨hj.1, Nat.lt_of_lt_of_le hj.2 hdr.size⟩))
          have HB2x := Lib.hid (HB2x.out.trans (hdr.mono hsq))
          refine region_m [(0, false), (1, false), (2, false), (4, false), (6, false), (7, false), (9, false), (10, false), (11, false), (13, false), (14, false), (16, false), (17, false), (19, false), (20, false), (21, false), (3, true), (5, true), (8, true), (12, true), (15, true), (18, true), (22, true), (23, true), (24, true), (25, true), (26, true), (27, false)] 28 (fun V => V.cell? ⟨tb, 0, none⟩ = some (.int .i64 kind) ∧ V.cell? ⟨tb, 2, none⟩ = some (.int .i64 arg) ∧ V.cell? ⟨tb, 3, none⟩ = some (.int .u32 num) ∧ V.cell? ⟨tb, 4, none⟩ = some (.int .i64 rounds) ∧ V.cell? ⟨tb, 5, none⟩ = some (.int .i64 test) ∧ V.cell? ⟨tb, 6, none⟩ = some (.int .u32 lim)) (by kernel_rfl) (by kernel_rfl) ob.and ?_
          generalize wr.drew = V0 at *
          have hsq := HB2x.out.size
          iterate 16
            first
            | (refine m_take (v := ?_) rfl rfl ?_ ?_
               rotate_left
               · intro W hW
                 go_simp
                 with_reducible rfl
               simp only [Act.put, List.setIfInBounds_toArray, List.set_cons_zero, List.set_cons_succ])
            | (refine m_skip rfl rfl ?_
               simp only [Act.put, List.setIfInBounds_toArray, List.set_cons_zero, List.set_cons_succ])
          refine m_loud rfl (fun K hK => ?_)
          have HK := Lib.hid hK
          clear hK
          go_simp
          refine (wint_calls kind _).mono ?_
          rintro e w6 ⟨rfl, hb⟩
          have HB6 := Lib.hid hb
          have ob := ob.later hb
          clear hb
          refine HK.out _ _ ob.and ?_
          clear HK
          refine m_loud rfl (fun K hK => ?_)
          have HK := Lib.hid hK
          clear hK
          go_simp
          refine (wlistP_calls _ 5 _ _ _ ((HYI.out).below (HB6.out) (fun j hj => hj.2)) (fun j hj => by have := HB6.out.size; omega) (by simp; omega)).mono ?_
          rintro e w7 ⟨nlv, rfl, hnl, hb⟩
          have HNL := Lib.hid hnl
          obtain ⟨na2, nn2, nc2, rfl⟩ : ∃ a n c, nlv = .slice a n c := by obtain ⟨a, c, h, -⟩ := hnl.slice; exact ⟨_, _, _, h⟩
          have HB7 := Lib.hid hb
          have ob := ob.later hb
          clear hb hnl
          refine HK.out _ _ ob.and ?_
          clear HK
          refine m_loud rfl (fun K hK => ?_)
          have HK := Lib.hid hK
          clear hK
          go_simp
          refine (wint_calls arg _).mono ?_
          rintro e w8 ⟨rfl, hb⟩
          have HB8 := Lib.hid hb
          have ob := ob.later hb
          clear hb
          refine HK.out _ _ ob.and ?_
          clear HK
          refine m_loud rfl (fun K hK => ?_)
          have HK := Lib.hid hK
          clear hK
          go_simp
          refine (wint_calls num _).mono ?_
          rintro e w9 ⟨rfl, hb⟩
          have HB9 := Lib.hid hb
          have ob := ob.later hb
          clear hb
          refine HK.out _ _ ob.and ?_
          clear HK
          refine m_loud rfl (fun K hK => ?_)
          have HK := Lib.hid hK
          clear hK
          go_simp
          refine (wint_calls rounds _).mono ?_
          rintro e w10 ⟨rfl, hb⟩
          have HB10 := Lib.hid hb
          have ob := ob.later hb
          clear hb
          refine HK.out _ _ ob.and ?_
          clear HK
          refine m_loud rfl (fun K hK => ?_)
          have HK := Lib.hid hK
          clear hK
          go_simp
          refine (wint_calls test _).mono ?_
          rintro e w11 ⟨rfl, hb⟩
          have HB11 := Lib.hid hb
          have ob := ob.later hb
          clear hb
          refine HK.out _ _ ob.and ?_
          clear HK
          refine m_loud rfl (fun K hK => ?_)
          have HK := Lib.hid hK
          clear hK
          go_simp
          refine (wint_calls lim _).mono ?_
          rintro e w12 ⟨rfl, hb⟩
          have HB12 := Lib.hid hb
          have ob := ob.later hb
          clear hb
          refine HK.out _ _ ob.and ?_
          clear HK
          have hz6 := HB6.out.size
          have hz7 := HB7.out.size
          have HB12 := Lib.hid (((((HB8.out.trans (HB9.out.mono HB8.out.size)).trans (HB10.out.mono (Nat.le_trans HB8.out.size HB9.out.size))).trans (HB11.out.mono (Nat.le_trans HB8.out.size (Nat.le_trans HB9.out.size HB10.out.size)))).trans (HB12.out.mono (Nat.le_trans HB8.out.size (Nat.le_trans HB9.out.size (Nat.le_trans HB10.out.size HB11.out.size))))))
          have hz12 := HB12.out.size
          have HLST := Lib.hid (its_lit (P := fun j => W1.heap.size ≤ j ∧ j < w12.heap.size) w12 5 [⟨iI kind, .slice none 0 0⟩, ⟨iL (ins.map iI), .slice na2 nn2 nc2⟩, ⟨iI arg, .slice none 0 0⟩, ⟨iI num, .slice none 0 0⟩, ⟨iI rounds, .slice none 0 0⟩, ⟨iI test, .slice none 0 0⟩, ⟨iI lim, .slice none 0 0⟩] (fun j hj => hj.2) (fun x hx => by
            simp only [List.mem_cons, List.not_mem_nil, or_false] at hx
            rcases hx with rfl | rfl | rfl | rfl | rfl | rfl | rfl
            · exact ItR.nil _ _ _
            · have h1 := HNL.out
              rw [HYS.out] at h1
              exact (ItR.below HB12.out (fun j hj => by omega) h1).mono (fun j hj => by omega)
            · exact ItR.nil _ _ _
            · exact ItR.nil _ _ _
            · exact ItR.nil _ _ _
            · exact ItR.nil _ _ _
            · exact ItR.nil _ _ _) (by simp))
          have hal := below_alloc w12 (.cells #[.int .i64 0, .int .i64 kind, .string nos, .slice none 0 0, .int .i64 2, .int .i64 0, .string nos, .slice na2 nn2 nc2, .int .i64 0, .int .i64 arg, .string nos, .slice none 0 0, .int .i64 0, .int .i64 num, .string nos, .slice none 0 0, .int .i64 0, .int .i64 rounds, .string nos, .slice none 0 0, .int .i64 0, .int .i64 test, .string nos, .slice none 0 0, .int .i64 0, .int .i64 lim, .string nos, .slice none 0 0] 100)
          have HAL := Lib.hid hal
          have ob := ob.later hal
          clear hal
          refine m_loud rfl (fun K hK => ?_)
          have HK := Lib.hid hK
          clear hK
          go_simp
          refine HK.out _ _ ob.and ?_
          clear HK
          have hzx : (w12.alloc (.cells #[.int .i64 0, .int .i64 kind, .string nos, .slice none 0 0, .int .i64 2, .int .i64 0, .string nos, .slice na2 nn2 nc2, .int .i64 0, .int .i64 arg, .string nos, .slice none 0 0, .int .i64 0, .int .i64 num, .string nos, .slice none 0 0, .int .i64 0, .int .i64 rounds, .string nos, .slice none 0 0, .int .i64 0, .int .i64 test, .string nos, .slice none 0 0, .int .i64 0, .int .i64 lim, .string nos, .slice none 0 0] 100)).heap.size = w12.heap.size + 1 := by simp
          obtain ⟨W13, hW13⟩ : ∃ W13, W13 = w12.alloc (.cells #[.int .i64 0, .int .i64 kind, .string nos, .slice none 0 0, .int .i64 2, .int .i64 0, .string nos, .slice na2 nn2 nc2, .int .i64 0, .int .i64 arg, .string nos, .slice none 0 0, .int .i64 0, .int .i64 num, .string nos, .slice none 0 0, .int .i64 0, .int .i64 rounds, .string nos, .slice none 0 0, .int .i64 0, .int .i64 test, .string nos, .slice none 0 0, .int .i64 0, .int .i64 lim, .string nos, .slice none 0 0] 100) := ⟨_, rfl⟩
          rw [← hW13] at ob HAL hzx ⊢
          have HLS2 := Lib.hid (show ItR (fun j => W1.heap.size ≤ j ∧ j < W13.heap.size) 6 W13 (.slice (some ⟨w12.heap.size, 0, none⟩) 7 7) [iI kind, iL (ins.map iI), iI arg, iI num, iI rounds, iI test, iI lim] from by
            have h1 := HLST.out
            rw [hW13]
            exact h1.mono (fun j hj => by rw [World.size_alloc]; omega))
          clear hW13 HLST
          refine m_loud rfl (fun K hK => ?_)
          have HK := Lib.hid hK
          clear hK
          go_simp
          refine (wlistP_calls _ 6 _ _ _ HLS2.out (fun j hj => hj.2) (by simp)).mono ?_
          rintro e w14 ⟨olv, rfl, hol, hb⟩
          obtain ⟨oa2, on2, oc2, rfl⟩ : ∃ a n c, olv = .slice a n c := by obtain ⟨a, c, h, -⟩ := hol.slice; exact ⟨_, _, _, h⟩
          have HOL := Lib.hid hol
          have HB14 := Lib.hid hb
          have ob := ob.later hb
          have hz14 := hb.size
          clear hb hol
          refine HK.out _ _ ob.and ?_
          clear HK
          have HBA := Lib.hid (show Below W1.heap.size W1 w14 from HB2x.out.trans (((HB6.out.mono (by omega)).trans (HB7.out.mono (by omega))).trans ((HB12.out.mono (by omega)).trans ((HAL.out.mono (by omega)).trans (HB14.out.mono (by omega))))))
          have hal := below_alloc w14 (.cells #[.int .i64 2, .int .i64 0, .string nos, .slice oa2 on2 oc2] 100)
          have ob := ob.later hal
          have HR15 := Lib.hid ((HRW.out.below HBA.out).below hal)
          have HOL15 := Lib.hid (ItR.below hal (fun j hj => by omega) HOL.out)
          have HONE := Lib.hid (Rd.lit (w := w14) (cs := #[.int .i64 2, .int .i64 0, .string nos, .slice oa2 on2 oc2]) (e := 100) (n := 1) (sz := 4) rfl (by omega))
          have HAL15 := Lib.hid hal
          have hz15 : (w14.alloc (.cells #[.int .i64 2, .int .i64 0, .string nos, .slice oa2 on2 oc2] 100)).heap.size = w14.heap.size + 1 := by simp
          clear hal
          refine m_loud rfl (fun K hK => ?_)
          have HK := Lib.hid hK
          clear hK
          go_simp
          refine HK.out _ _ ob.and ?_
          clear HK
          generalize (w14.alloc (.cells #[.int .i64 2, .int .i64 0, .string nos, .slice oa2 on2 oc2] 100)) = W15 at *
          refine m_app tyItems HR15.out.own HONE.out (by simp [Value.oneCell']) (by omega) (by omega) (by omega) (by omega) rfl rfl rfl rfl rfl ?_
          intro g gcap w16 h2 h3 h4 h5
          have hne := HNE.out
          have ob : OpBox w16 tb ⟨kind, .slice ia ins.length ic, ins, arg, num, rounds, test, lim⟩ := by
            have hx : some tb ≠ (Value.slice la xs.length lc).ownBlock := fun e => hne _ (Nat.le_refl _) e.symm
            exact ⟨h4.cell ob.c0 hx, h4.cell ob.c1 hx, h4.cell ob.c2 hx, h4.cell ob.c3 hx, h4.cell ob.c4 hx, h4.cell ob.c5 hx, h4.cell ob.c6 hx⟩
          refine ⟨ob.and, ?_⟩
          have HPU := Lib.hid (HR15.out.keep ⟨opE ⟨kind, .slice ia ins.length ic, ins, arg, num, rounds, test, lim⟩, .slice oa2 on2 oc2⟩ (HOL15.out.mono (fun j hj => ⟨by omega, by omega, hne j (by omega)⟩)) h2 h4 h5)
          have HBF := Lib.hid (show Below X.heap.size X w16 from (HBX1.out.trans ((HBA.out.mono (by omega)).trans (HAL15.out.mono (by omega)))).trans ((Below.refl X.heap.size _).grown h4 (by omega) HLTX.out))
          clear h2 h3 h4 h5 ob
          iterate 1
            first
            | (refine m_take (v := ?_) rfl rfl ?_ ?_
               rotate_left
               · intro W hW
                 go_simp
                 with_reducible rfl
               simp only [Act.put, List.setIfInBounds_toArray, List.set_cons_zero, List.set_cons_succ])
            | (refine m_skip rfl rfl ?_
               simp only [Act.put, List.setIfInBounds_toArray, List.set_cons_zero, List.set_cons_succ])
          refine m_done ?_
          simp only [List.drop_succ_cons, List.drop_zero]
          go_wp2_with fail
          simp only [NP]
          go_wp2_with fail
          go_roundw
          case rel => exact ⟨j + 1, _, by omega, by go_num, by rw [List.map_append, HXS.out, HTK.out, List.map_append]; rfl, HPU.out, HBF.out⟩
          case measure => simp [intOf]; omega
    · obtain rfl : j = os.length := by omega
      rw [List.take_length] at HXS
      have HLI := Lib.hid HROW.out.its
      have hsb := HB.out.size
      clear HROW
      go_wp2_with fail
      refine (wlistP_calls _ 7 _ _ _ HLI.out (fun j hj => hj.2) (by simp; omega)).mono ?_
      rintro e w17 ⟨rlv, rfl, hrl, hb⟩
      have HRL := Lib.hid hrl
      have hrone : rlv.oneCell' = true := hrl.one
      have HB17 := Lib.hid (HB.out.trans (hb.mono HB.out.size))
      have HTH := Lib.hid (there_only HT.out (Only.of_below (S := fun _ => False) HB17.out) (by omega) (fun h => h))
      have hzz := hb.size
      clear hrl hb
      go_wp2_with (first | (refine wpList_store_mid rfl 100 _ _ rfl (w.heap.size + 1) 0 (Iv.cells ⟨.mk 2 0 nos [], rlv⟩).toArray rfl rfl HTH.out (by show _ = some 4; kernel_rfl) (iv_all _ hrone) ?_) | (refine wp_store_mid 100 _ _ rfl (w.heap.size + 1) 0 (Iv.cells ⟨.mk 2 0 nos [], rlv⟩).toArray rfl rfl HTH.out (by show _ = some 4; kernel_rfl) (iv_all _ hrone) ?_))
      have hon := onlyC w17 (w.heap.size + 1) (Iv.cells ⟨.mk 2 0 nos [], rlv⟩) 0
      refine bodyPost_ret (v := ivList rlv) (res_cell Try.results74 rfl (run_item (x := ⟨.mk 2 0 nos [], rlv⟩) ?_)) rfl ⟨_, rfl, ?_, ?_⟩
      · exact World.rangeAt_setCells_same w17 _ 0 _ HTH.out
      · have h1 := HRL.out
        rw [HXS.out] at h1
        exact (ItR.only hon (fun j hj e => by omega) h1).mono (fun j hj => ⟨by omega, by have := hon.size; omega⟩)
      · exact HBX.out.trans ((HB17.out.mono (by omega)).trans (hon.below (by have := HB17.out.size; omega) (fun j hj e => by omega)))
end Go.Proofs.Ytkabfjbmofpkdaa

/- Layer 9: Encode of a record's entry and of a graph's entry, walked. -/
namespace Go.Proofs.Ytkabfjbmofpkdaa
open Go.RowKit Go.Shelf
set_option linter.unusedVariables false
set_option linter.unusedSimpArgs false
set_option maxRecDepth 100000

theorem goodEnt_rec {r : Rec} (h : goodRec r = true) : goodEnt 1 r [] 0 = true := by
  unfold goodEnt
  rw [h]
  rfl
theorem goodEnt_dep {os : List Opr} (hl : os.length ≤ 16) (hi : ∀ o ∈ os, o.ins.length ≤ 2) : goodEnt 3 zR os 0 = true := by
  have hio : insOk os = true := by
    unfold insOk
    rw [List.all_eq_true]
    exact fun o ho => decide_eq_true (hi o ho)
  have hg : goodRec zR = true := by decide
  have hb : zR.bare = true := by decide
  unfold goodEnt
  rw [hio, hg]
  simp [hl, hb]
/-- A row of items without children. -/
theorem its_plain {w : World} {base d : Nat} {v : Value} (xs : List Iv) (h : w.ownsRow base 100 4 v xs.length (flatF Iv.cells xs)) (h0 : ∀ x ∈ xs, x.v = .slice none 0 0 ∧ x.c.l = []) : ItR (fun j => base ≤ j ∧ j < w.heap.size) (d + 1) w v (xs.map Iv.c) :=
  ⟨xs, rfl, Rd.of_own h, fun a n c e hn => World.ownsRow.lt h a.block (by rw [e]; rfl), fun x hx => by
    obtain ⟨h1, h2⟩ := h0 x hx
    rw [h1, h2]
    exact ItR.nil _ _ _⟩

set_option maxHeartbeats 8000000 in
theorem encRec_calls (r : Rec) (w : World) (hg : goodRec r = true) (hk : r.ok) (hv : U32 r.val) :
    Calls Try.prog 48 #[.agg #[.int .i64 1, .int .i64 r.p, .int .i64 r.s, .int .i64 r.q, .string r.key, .int .u32 r.val, .slice none 0 0, .int .i64 0]] w fun e w' => e = .returned (.tuple #[.string (encB (recE r)), .int .i64 0]) ∧ Below w.heap.size w w' := by
  have HGD := Lib.hid (goodEnt_rec hg)
  have HEN := Lib.hid (fun v w h => wencode_calls v (recE r) w h (recE_ok hk (key_le hg) hv) (recE_sum r) (by have := recE_len (key_le hg); omega))
  have HRE := Lib.hid (show recE r = [iI 1, iI r.p, iI r.s, iI r.q, iT r.key, iI r.val] from rfl)
  generalize recE r = is at *
  have q1 : IntKind.i64.wrap r.val = r.val := by unfold U32 at hv; rw [IntKind.wrap_i64]; omega
  have q2 : wrap64 r.val = r.val := by rw [← q1, IntKind.wrap_i64]; unfold wrap64; omega
  obtain ⟨rp, rs, rq, key, val⟩ := r
  simp only at HGD HRE q1 q2 ⊢
  clear hg hk hv
  obtain ⟨X, hX⟩ : ∃ X, X = w.alloc (.cells #[.int .i64 1, .int .i64 rp, .int .i64 rs, .int .i64 rq, .string key, .int .u32 val, .slice none 0 0, .int .i64 0] 35) := ⟨_, rfl⟩
  have hbX : Below w.heap.size w X := by rw [hX]; exact below_alloc _ _
  have hXS : X.heap.size = w.heap.size + 1 := by rw [hX]; simp
  have c0 : X.cell? ⟨w.heap.size, 0, none⟩ = some (.int .i64 1) := by rw [hX]; exact box_self 0 _ rfl
  have c1 : X.cell? ⟨w.heap.size, 1, none⟩ = some (.int .i64 rp) := by rw [hX]; exact box_self 1 _ rfl
  have c2 : X.cell? ⟨w.heap.size, 2, none⟩ = some (.int .i64 rs) := by rw [hX]; exact box_self 2 _ rfl
  have c3 : X.cell? ⟨w.heap.size, 3, none⟩ = some (.int .i64 rq) := by rw [hX]; exact box_self 3 _ rfl
  have c4 : X.cell? ⟨w.heap.size, 4, none⟩ = some (.string key) := by rw [hX]; exact box_self 4 _ rfl
  have c5 : X.cell? ⟨w.heap.size, 5, none⟩ = some (.int .u32 val) := by rw [hX]; exact box_self 5 _ rfl
  have c6 : X.cell? ⟨w.heap.size, 6, none⟩ = some (.slice none 0 0) := by rw [hX]; exact box_self 6 _ rfl
  have c7 : X.cell? ⟨w.heap.size, 7, none⟩ = some (.int .i64 0) := by rw [hX]; exact box_self 7 _ rfl
  have HBX := Lib.hid hbX
  have HX := Lib.hid hX
  clear hX hbX
  go_enter Try.func48, Try.ntmps48
  go_upto_region 1 with fail
  rw [← HX.out]
  go_wp2_with fail
  refine (entGood_calls 1 ⟨rp, rs, rq, key, val⟩ (.slice none 0 0) [] 0 X ⟨Rd.nil _ _, fun o ho => by cases ho⟩).mono ?_
  rintro e w2 ⟨rfl, hb2⟩
  rw [HGD.out]
  have c0 := cell_later hb2 c0
  have c1 := cell_later hb2 c1
  have c2 := cell_later hb2 c2
  have c3 := cell_later hb2 c3
  have c4 := cell_later hb2 c4
  have c5 := cell_later hb2 c5
  have HB2 := Lib.hid (HBX.out.trans (hb2.mono (by omega)))
  have hs2 := hb2.size
  clear hb2
  go_wp2_with fail
  refine (wint_calls 1 _).mono ?_
  rintro e w3 ⟨rfl, hb3⟩
  have c0 := cell_later hb3 c0
  have c1 := cell_later hb3 c1
  have c2 := cell_later hb3 c2
  have c3 := cell_later hb3 c3
  have c4 := cell_later hb3 c4
  have c5 := cell_later hb3 c5
  have HB3 := Lib.hid (HB2.out.trans (hb3.mono (by omega)))
  have hs3 := hb3.size
  clear hb3
  go_upto_region 4 with fail
  have ho := World.ownsRow_lit (base := w.heap.size) (size := 4) (e := 100) w3 #[.int .i64 0, .int .i64 1, .string nos, .slice none 0 0] 1 (by omega) (by unfold maxLen; omega) (by simp)
  have hal := below_alloc w3 (.cells #[.int .i64 0, .int .i64 1, .string nos, .slice none 0 0] 100)
  obtain ⟨W4, hW4⟩ : ∃ W4, W4 = w3.alloc (.cells #[.int .i64 0, .int .i64 1, .string nos, .slice none 0 0] 100) := ⟨_, rfl⟩
  rw [← hW4] at ho hal ⊢
  have c0 := cell_later hal c0
  have c1 := cell_later hal c1
  have c2 := cell_later hal c2
  have c3 := cell_later hal c3
  have c4 := cell_later hal c4
  have c5 := cell_later hal c5
  have HO := Lib.hid ho
  have HB4 := Lib.hid (HB3.out.trans (hal.mono (by omega)))
  have hs4 : w3.heap.size < W4.heap.size := by rw [hW4]; simp
  clear hal ho hW4
  go_upto_region 9 with fail
  go_upto_region 10 with fail
  have hal := below_alloc W4 (.cells #[.int .i64 rp, .int .i64 rs, .int .i64 rq, .string key, .int .u32 val] 33)
  obtain ⟨W5, hW5⟩ : ∃ W5, W5 = W4.alloc (.cells #[.int .i64 rp, .int .i64 rs, .int .i64 rq, .string key, .int .u32 val] 33) := ⟨_, rfl⟩
  have k0 : W5.cell? ⟨W4.heap.size, 0, none⟩ = some (.int .i64 rp) := by rw [hW5]; exact box_self 0 _ rfl
  have k1 : W5.cell? ⟨W4.heap.size, 1, none⟩ = some (.int .i64 rs) := by rw [hW5]; exact box_self 1 _ rfl
  have k2 : W5.cell? ⟨W4.heap.size, 2, none⟩ = some (.int .i64 rq) := by rw [hW5]; exact box_self 2 _ rfl
  have k3 : W5.cell? ⟨W4.heap.size, 3, none⟩ = some (.string key) := by rw [hW5]; exact box_self 3 _ rfl
  have k4 : W5.cell? ⟨W4.heap.size, 4, none⟩ = some (.int .u32 val) := by rw [hW5]; exact box_self 4 _ rfl
  rw [← hW5] at hal ⊢
  have HO := Lib.hid (ownsRow_below HO.out hal (Nat.le_refl _))
  have HB5 := Lib.hid (HB4.out.trans (hal.mono (by omega)))
  clear hal hW5 c0 c1 c2 c3 c4 c5 c6 c7
  refine region_m [(0, false), (1, false), (2, false), (4, false), (5, false), (7, false), (8, false), (10, false), (11, false), (13, false), (14, false), (15, false), (3, true), (6, true), (9, true), (12, true), (16, true), (17, true), (18, true), (19, false)] 20 (fun V => V.cell? ⟨W4.heap.size, 0, none⟩ = some (.int .i64 rp) ∧ V.cell? ⟨W4.heap.size, 1, none⟩ = some (.int .i64 rs) ∧ V.cell? ⟨W4.heap.size, 2, none⟩ = some (.int .i64 rq) ∧ V.cell? ⟨W4.heap.size, 3, none⟩ = some (.string key) ∧ V.cell? ⟨W4.heap.size, 4, none⟩ = some (.int .u32 val)) (by kernel_rfl) (by kernel_rfl) ⟨k0, k1, k2, k3, k4⟩ ?_
  have hdr := (Below.refl W5.heap.size W5).drew
  have k0 := cell_later hdr k0
  have k1 := cell_later hdr k1
  have k2 := cell_later hdr k2
  have k3 := cell_later hdr k3
  have k4 := cell_later hdr k4
  have HO := Lib.hid (ownsRow_below HO.out hdr (Nat.le_refl _))
  have HB5 := Lib.hid HB5.out.drew
  clear hdr
  generalize W5.drew = V5 at *
  iterate 12
    first
    | (refine m_take (v := ?_) rfl rfl ?_ ?_
       rotate_left
       · intro W hW
         go_simp
         with_reducible rfl
       simp only [Act.put, List.setIfInBounds_toArray, List.set_cons_zero, List.set_cons_succ])
    | (refine m_skip rfl rfl ?_
       simp only [Act.put, List.setIfInBounds_toArray, List.set_cons_zero, List.set_cons_succ])
  refine m_loud rfl (fun K hK => ?_)
  have HK := Lib.hid hK
  clear hK
  go_simp
  refine (wint_calls rp _).mono ?_
  rintro e w6 ⟨rfl, hb⟩
  have HB6 := Lib.hid (HB5.out.trans (hb.mono (by have := HB5.out.size; omega)))
  have k0 := cell_later hb k0
  have k1 := cell_later hb k1
  have k2 := cell_later hb k2
  have k3 := cell_later hb k3
  have k4 := cell_later hb k4
  have HO := Lib.hid (ownsRow_below HO.out hb (Nat.le_refl _))
  clear hb
  refine HK.out _ _ ⟨k0, k1, k2, k3, k4⟩ ?_
  clear HK
  refine m_loud rfl (fun K hK => ?_)
  have HK := Lib.hid hK
  clear hK
  go_simp
  refine (wint_calls rs _).mono ?_
  rintro e w7 ⟨rfl, hb⟩
  have HB7 := Lib.hid (HB6.out.trans (hb.mono (by have := HB6.out.size; omega)))
  have k0 := cell_later hb k0
  have k1 := cell_later hb k1
  have k2 := cell_later hb k2
  have k3 := cell_later hb k3
  have k4 := cell_later hb k4
  have HO := Lib.hid (ownsRow_below HO.out hb (Nat.le_refl _))
  clear hb
  refine HK.out _ _ ⟨k0, k1, k2, k3, k4⟩ ?_
  clear HK
  refine m_loud rfl (fun K hK => ?_)
  have HK := Lib.hid hK
  clear hK
  go_simp
  refine (wint_calls rq _).mono ?_
  rintro e w8 ⟨rfl, hb⟩
  have HB8 := Lib.hid (HB7.out.trans (hb.mono (by have := HB7.out.size; omega)))
  have k0 := cell_later hb k0
  have k1 := cell_later hb k1
  have k2 := cell_later hb k2
  have k3 := cell_later hb k3
  have k4 := cell_later hb k4
  have HO := Lib.hid (ownsRow_below HO.out hb (Nat.le_refl _))
  clear hb
  refine HK.out _ _ ⟨k0, k1, k2, k3, k4⟩ ?_
  clear HK
  refine m_loud rfl (fun K hK => ?_)
  have HK := Lib.hid hK
  clear hK
  go_simp
  refine (wtext_calls key _).mono ?_
  rintro e w9 ⟨rfl, hb⟩
  have HB9 := Lib.hid (HB8.out.trans (hb.mono (by have := HB8.out.size; omega)))
  have k0 := cell_later hb k0
  have k1 := cell_later hb k1
  have k2 := cell_later hb k2
  have k3 := cell_later hb k3
  have k4 := cell_later hb k4
  have HO := Lib.hid (ownsRow_below HO.out hb (Nat.le_refl _))
  clear hb
  refine HK.out _ _ ⟨k0, k1, k2, k3, k4⟩ ?_
  clear HK
  refine m_loud rfl (fun K hK => ?_)
  have HK := Lib.hid hK
  clear hK
  go_simp
  refine (wint_calls val _).mono ?_
  rintro e w10 ⟨rfl, hb⟩
  have HB10 := Lib.hid (HB9.out.trans (hb.mono (by have := HB9.out.size; omega)))
  have k0 := cell_later hb k0
  have k1 := cell_later hb k1
  have k2 := cell_later hb k2
  have k3 := cell_later hb k3
  have k4 := cell_later hb k4
  have HO := Lib.hid (ownsRow_below HO.out hb (Nat.le_refl _))
  clear hb
  refine HK.out _ _ ⟨k0, k1, k2, k3, k4⟩ ?_
  clear HK
  have hal := below_alloc w10 (.cells #[.int .i64 0, .int .i64 rp, .string nos, .slice none 0 0, .int .i64 0, .int .i64 rs, .string nos, .slice none 0 0, .int .i64 0, .int .i64 rq, .string nos, .slice none 0 0, .int .i64 1, .int .i64 0, .string key, .slice none 0 0, .int .i64 0, .int .i64 val, .string nos, .slice none 0 0] 100)
  have k0 := cell_later hal k0
  have k1 := cell_later hal k1
  have k2 := cell_later hal k2
  have k3 := cell_later hal k3
  have k4 := cell_later hal k4
  have HO := Lib.hid (ownsRow_below HO.out hal (Nat.le_refl _))
  have HLIT := Lib.hid (Rd.lit (w := w10) (cs := #[.int .i64 0, .int .i64 rp, .string nos, .slice none 0 0, .int .i64 0, .int .i64 rs, .string nos, .slice none 0 0, .int .i64 0, .int .i64 rq, .string nos, .slice none 0 0, .int .i64 1, .int .i64 0, .string key, .slice none 0 0, .int .i64 0, .int .i64 val, .string nos, .slice none 0 0]) (e := 100) (n := 5) (sz := 4) rfl (by omega))
  have HB11 := Lib.hid (HB10.out.trans (hal.mono (by have := HB10.out.size; omega)))
  clear hal
  refine m_loud rfl (fun K hK => ?_)
  have HK := Lib.hid hK
  clear hK
  go_simp
  refine HK.out _ _ ⟨k0, k1, k2, k3, k4⟩ ?_
  clear HK
  generalize (w10.alloc (.cells #[.int .i64 0, .int .i64 rp, .string nos, .slice none 0 0, .int .i64 0, .int .i64 rs, .string nos, .slice none 0 0, .int .i64 0, .int .i64 rq, .string nos, .slice none 0 0, .int .i64 1, .int .i64 0, .string key, .slice none 0 0, .int .i64 0, .int .i64 val, .string nos, .slice none 0 0] 100)) = W11 at *
  have hs11 := HB11.out.size
  have hs5 := HB5.out.size
  refine m_app tyItems HO.out HLIT.out (by simp [Value.oneCell']) (by omega) (by omega) (by omega) (by omega) rfl rfl rfl rfl rfl ?_
  intro g gcap w12 h2 h3 h4 h5
  have hx : some W4.heap.size ≠ (Value.slice (some ⟨w3.heap.size, 0, none⟩) 1 1).ownBlock := fun e => by simp [Value.ownBlock] at e; omega
  refine ⟨⟨h4.cell k0 hx, h4.cell k1 hx, h4.cell k2 hx, h4.cell k3 hx, h4.cell k4 hx⟩, ?_⟩
  have HITS := Lib.hid (its_plain (d := 7) [⟨iI 1, .slice none 0 0⟩, ⟨iI rp, .slice none 0 0⟩, ⟨iI rs, .slice none 0 0⟩, ⟨iI rq, .slice none 0 0⟩, ⟨iT key, .slice none 0 0⟩, ⟨iI val, .slice none 0 0⟩] h2 (fun x hx => by
    simp only [List.mem_cons, List.not_mem_nil, or_false] at hx
    rcases hx with rfl | rfl | rfl | rfl | rfl | rfl <;> exact ⟨rfl, rfl⟩))
  have HB12 := Lib.hid (show Below w.heap.size w w12 from HB11.out.trans ((Below.refl w.heap.size _).grown h4 (by omega) (fun j e => (World.ownsRow.lt HO.out j e).1)))
  clear h2 h3 h4 h5 hx k0 k1 k2 k3 k4
  iterate 1
    first
    | (refine m_take (v := ?_) rfl rfl ?_ ?_
       rotate_left
       · intro W hW
         go_simp
         with_reducible rfl
       simp only [Act.put, List.setIfInBounds_toArray, List.set_cons_zero, List.set_cons_succ])
    | (refine m_skip rfl rfl ?_
       simp only [Act.put, List.setIfInBounds_toArray, List.set_cons_zero, List.set_cons_succ])
  refine m_done ?_
  simp only [List.drop_succ_cons, List.drop_zero]
  go_wp2_with fail
  simp only [NP]
  have hz12 := HB12.out.size
  have HEC := Lib.hid (HEN.out _ w12 (by have h := HITS.out.mono (Q := fun j => j < w12.heap.size) (fun j hj => hj.2); rw [HRE.out]; exact h))
  go_wp2_with fail
  refine HEC.out.mono ?_
  rintro e w13 ⟨bv, rfl, ho, hb⟩
  have hs := run_bytes_str (P := Try.prog) (src := 96) (e := 5) (dst := 9) Try.underlying96 Try.underlying5 Try.underlying9 (Bytes.of_own ho)
  obtain ⟨ba, bc, rfl⟩ := own_slice ho
  have HB13 := Lib.hid (HB12.out.trans (hb.mono hz12))
  clear ho hb
  go_wp2_with fail
  go_ret2
  exact ⟨rfl, HB13.out⟩
end Go.Proofs.Ytkabfjbmofpkdaa

/- Layer 14, plain: a ledger that is read of texts fits. -/
namespace Go.Proofs.Ytkabfjbmofpkdaa
open Go.RowKit
set_option linter.unusedSimpArgs false
set_option linter.unusedVariables false

theorem decA_len : ∀ (f : Nat) (r : List UInt8) (c : Nat) (l : List Itc), decA f r c = some l → l.length ≤ r.length
  | 0, _, _, _, h => by cases h
  | f + 1, r, c, l, h => by
    unfold decA at h
    split at h
    · simp only [Option.some.injEq] at h
      subst h
      simp
    · rename_i k r1
      split at h
      · cases h
      · rename_i i r' c' h1
        have h2 := decI_wf 8 _ _ _ _ _ h1
        split at h
        · cases h
        · rename_i l2 h3
          have h4 := decA_len f _ _ _ h3
          simp only [Option.some.injEq] at h
          subst h
          have := h2.2
          simp at this ⊢
          omega
theorem decB_len {s : ByteArray} {is : List Itc} (h : decB s = some is) : is.length ≤ s.size := by
  unfold decB dec at h
  split at h
  · cases h
  · have := decA_len _ _ _ _ h
    rw [Array.length_toList] at this
    exact this
theorem recV_ok (i : Itc) : (recV i).ok := by
  unfold recV
  split
  · rename_i E h
    exact (entD_ok h).2.2.1
  · exact zR_ok
theorem getD_wf {m : Nat} {l : List Itc} (h : ∀ i ∈ l, wfI m 8 i) (i : Nat) : I64 (l.getD i zI).n ∧ (l.getD i zI).l.length ≤ m ∧ (l.getD i zI).s.size ≤ m := by
  rw [List.getD_eq_getElem?_getD]
  cases e : l[i]? with
  | none => exact ⟨by unfold I64; decide, Nat.zero_le _, Nat.zero_le _⟩
  | some x =>
    have := h x (List.mem_of_getElem? e)
    exact ⟨wfI_n this, wfI_len this, wfI_s this⟩
theorem nth_ok {m : Nat} {l : List Itc} (h : ∀ i ∈ l, wfI m 8 i) (i : Nat) : I64 (nth l i) := (getD_wf h i).1
theorem nth_pos {l : List Itc} (h : nth l 0 ≠ 0) : 1 ≤ l.length := by
  cases l with
  | nil => exact (h rfl).elim
  | cons x l => simp
/-- What one text does to a ledger. -/
theorem actD_fits {M M' : Led} {t : ByteArray} {l : List Itc} (hd : decB t = some l) (h : actD M l = some M') (hok : M.Ok) {n : Nat} (hn : 16 ≤ n) (hs : M.Sz n) : M'.Ok ∧ M'.Sz (n + t.size) := by
  have hw := decB_wf hd
  have hl := decB_len hd
  have hs' := hs.mono (Nat.le_add_right n t.size)
  unfold actD at h
  split at h
  · split at h
    · simp only [Option.some.injEq] at h
      subst h
      refine ⟨⟨hok.rows, fun i hi => ?_, hok.opn, hok.bats, ⟨nth_ok hw 1, nth_ok hw 2, nth_ok hw 3⟩, hok.ops⟩, ⟨hs'.rows, hs'.opn, hs'.bats, hs'.recs, hs'.all, hs'.ops, hs'.ins⟩⟩
      show I64 (if i < 8 then nth l (5 + i) else 0)
      rw [if_pos hi]
      exact nth_ok hw _
    · cases h
  · split at h
    · split at h
      · split at h
        · rename_i E he
          split at h
          · simp only [Option.some.injEq] at h
            subst h
            have hE := entD_ok he
            have hg := good_ops hE.1
            exact ⟨⟨hok.rows, hok.C, hok.opn, hok.bats, hok.nums, hE.2.2.2.2⟩, ⟨hs'.rows, hs'.opn, hs'.bats, hs'.recs, hs'.all, by show E.os.length ≤ _; omega, fun o ho => by have := hg.2 o ho; omega⟩⟩
          · cases h
        · cases h
      · cases h
    · split at h
      · rename_i h1
        split at h
        · simp only [Option.some.injEq] at h
          subst h
          have hp := nth_pos (l := l) (by rw [h1]; decide)
          refine ⟨⟨fun r hr => ?_, hok.C, hok.opn, hok.bats, hok.nums, hok.ops⟩, ⟨?_, hs'.opn, hs'.bats, hs'.recs, hs'.all, hs'.ops, hs'.ins⟩⟩
          · rcases List.mem_append.1 hr with hr | hr
            · exact hok.rows r hr
            · rw [List.mem_singleton] at hr
              subst hr
              exact ⟨nth_ok hw 1, nth_ok hw 2, nth_ok hw 3⟩
          · have := hs.rows
            rw [List.length_append]
            show _ + 1 ≤ _
            omega
        · cases h
      · split at h
        · rename_i h2
          split at h
          · simp only [Option.some.injEq] at h
            subst h
            have hp := nth_pos (l := l) (by rw [h2]; decide)
            have hx := (getD_wf hw 2).2.1
            have hb : ∀ b ∈ M.bats ++ [(⟨nth l 1, nv, (l.getD 2 zI).l.map recV⟩ : Bt)], (I64 b.ep ∧ ∀ r ∈ b.recs, r.ok) ∧ b.recs.length ≤ n + t.size := by
              intro b hb
              rcases List.mem_append.1 hb with hb | hb
              · exact ⟨hok.bats b hb, hs'.recs b hb⟩
              · rw [List.mem_singleton] at hb
                subst hb
                refine ⟨⟨nth_ok hw 1, fun r hr => ?_⟩, ?_⟩
                · obtain ⟨i, -, rfl⟩ := List.mem_map.1 hr
                  exact recV_ok i
                · show ((l.getD 2 zI).l.map recV).length ≤ _
                  rw [List.length_map]
                  omega
            refine ⟨⟨hok.rows, hok.C, hok.opn, fun b h => (hb b h).1, hok.nums, hok.ops⟩, ⟨hs'.rows, hs'.opn, ?_, fun b h => (hb b h).2, ?_, hs'.ops, hs'.ins⟩⟩
            · have := hs.bats
              rw [List.length_append]
              show _ + 1 ≤ _
              omega
            · have := hs.all
              unfold Led.all at this ⊢
              simp only [List.flatMap_append, List.flatMap_cons, List.flatMap_nil, List.append_nil, List.length_append, List.length_map] at this ⊢
              omega
          · cases h
        · split at h
          · split at h
            · simp only [Option.some.injEq] at h
              subst h
              have hx := (getD_wf hw 2).2.1
              refine ⟨⟨hok.rows, hok.C, fun r hr => ?_, hok.bats, hok.nums, hok.ops⟩, ⟨hs'.rows, ?_, hs'.bats, hs'.recs, ?_, hs'.ops, hs'.ins⟩⟩
              · obtain ⟨i, -, rfl⟩ := List.mem_map.1 hr
                exact recV_ok i
              · show ((l.getD 2 zI).l.map recV).length ≤ _
                rw [List.length_map]
                omega
              · have := hs.all
                unfold Led.all at this ⊢
                simp only [List.length_append, List.length_map] at this ⊢
                omega
            · cases h
          · cases h
theorem zeroL_fits : zeroL.Ok ∧ zeroL.Sz 16 := by
  refine ⟨⟨fun r hr => (List.not_mem_nil hr).elim, fun i hi => by show I64 0; unfold I64; omega, fun r hr => (List.not_mem_nil hr).elim, fun r hr => (List.not_mem_nil hr).elim, ⟨by show I64 0; unfold I64; omega, by show I64 0; unfold I64; omega, by show I64 0; unfold I64; omega⟩, fun r hr => (List.not_mem_nil hr).elim⟩, zeroL_sz.mono (by omega)⟩
theorem foldTo_fits {ss : List ByteArray} : ∀ (k : Nat) (L : Led), foldTo ss k = some L → L.Ok ∧ L.Sz (16 + ((ss.take k).map (·.size)).sum)
  | 0, L, h => by
    have e : zeroL = L := Option.some.inj h
    subst e
    exact ⟨zeroL_fits.1, zeroL_fits.2.mono (by omega)⟩
  | k + 1, L, h => by
    cases h1 : foldTo ss k with
    | none => rw [foldTo_none h1] at h; cases h
    | some M =>
      cases h2 : ss[k]? with
      | none =>
        have : foldTo ss (k + 1) = none := by
          show (match foldTo ss k, ss[k]? with | some L, some t => stepT L (k == 0) t | _, _ => none) = _
          rw [h1, h2]
        rw [this] at h; cases h
      | some t =>
        rw [foldTo_succ h1 h2] at h
        have ih := foldTo_fits k M h1
        unfold stepT at h
        split at h
        · cases h
        · rename_i l hl
          split at h
          · have := actD_fits hl h ih.1 (by omega) ih.2
            have hk : k < ss.length := (List.getElem?_eq_some_iff.1 h2).1
            have ht : ss[k] = t := (List.getElem?_eq_some_iff.1 h2).2
            rw [List.take_succ_eq_append_getElem hk, List.map_append, List.sum_append, ht]
            exact ⟨this.1, this.2.mono (by simp; omega)⟩
          · cases h
theorem ledD_fits {ss : List ByteArray} {L : Led} (h : ledD ss = some L) : L.Ok ∧ L.Sz (16 + (ss.map (·.size)).sum) ∧ L.good = true := by
  unfold ledD at h
  split at h
  · cases h
  · split at h
    · cases h
    · rename_i M hM
      split at h
      · rename_i hg
        simp only [Option.some.injEq] at h
        subst h
        have := foldTo_fits _ _ hM
        rw [List.take_length] at this
        exact ⟨this.1, this.2, hg⟩
      · cases h
end Go.Proofs.Ytkabfjbmofpkdaa

/- Layer 9: Encode of a graph's entry, walked. -/
namespace Go.Proofs.Ytkabfjbmofpkdaa
open Go.RowKit Go.Shelf
set_option linter.unusedVariables false
set_option linter.unusedSimpArgs false
set_option maxRecDepth 100000

set_option maxHeartbeats 8000000 in
theorem encDep_calls (gv : Value) (os : List Opr) (w : World) (hO : OpsR w gv os) (hok : ∀ o ∈ os, o.ok) (hl : os.length ≤ 16) (hi : ∀ o ∈ os, o.ins.length ≤ 2) :
    Calls Try.prog 48 #[.agg #[.int .i64 3, .int .i64 0, .int .i64 0, .int .i64 0, .string nos, .int .u32 0, gv, .int .i64 0]] w fun e w' => e = .returned (.tuple #[.string (encB (depE os)), .int .i64 0]) ∧ Below w.heap.size w w' := by
  have HGD := Lib.hid (goodEnt_dep hl hi)
  have HEN := Lib.hid (fun v w h => wencode_calls v (depE os) w h (depE_ok hok) (depE_sum hl hi) (by have := depE_len hl hi; omega))
  have HRE := Lib.hid (show depE os = [iI 3, iL (os.map opE)] from rfl)
  have HOPS := Lib.hid (fun w h => eops_calls gv os w h hok hl hi)
  obtain ⟨ga, gc, rfl, -, -⟩ := hO.row.slice
  have HO := Lib.hid hO
  generalize depE os = is at *
  clear hO hok hi
  obtain ⟨X, hX⟩ : ∃ X, X = w.alloc (.cells #[.int .i64 3, .int .i64 0, .int .i64 0, .int .i64 0, .string nos, .int .u32 0, .slice ga os.length gc, .int .i64 0] 35) := ⟨_, rfl⟩
  have hbX : Below w.heap.size w X := by rw [hX]; exact below_alloc _ _
  have hXS : X.heap.size = w.heap.size + 1 := by rw [hX]; simp
  have c0 : X.cell? ⟨w.heap.size, 0, none⟩ = some (.int .i64 3) := by rw [hX]; exact box_self 0 _ rfl
  have c1 : X.cell? ⟨w.heap.size, 1, none⟩ = some (.int .i64 0) := by rw [hX]; exact box_self 1 _ rfl
  have c2 : X.cell? ⟨w.heap.size, 2, none⟩ = some (.int .i64 0) := by rw [hX]; exact box_self 2 _ rfl
  have c3 : X.cell? ⟨w.heap.size, 3, none⟩ = some (.int .i64 0) := by rw [hX]; exact box_self 3 _ rfl
  have c4 : X.cell? ⟨w.heap.size, 4, none⟩ = some (.string nos) := by rw [hX]; exact box_self 4 _ rfl
  have c5 : X.cell? ⟨w.heap.size, 5, none⟩ = some (.int .u32 0) := by rw [hX]; exact box_self 5 _ rfl
  have c6 : X.cell? ⟨w.heap.size, 6, none⟩ = some (.slice ga os.length gc) := by rw [hX]; exact box_self 6 _ rfl
  have c7 : X.cell? ⟨w.heap.size, 7, none⟩ = some (.int .i64 0) := by rw [hX]; exact box_self 7 _ rfl
  have HBX := Lib.hid hbX
  have HX := Lib.hid hX
  clear hX hbX
  go_enter Try.func48, Try.ntmps48
  go_upto_region 1 with fail
  rw [← HX.out]
  go_wp2_with fail
  refine (entGood_calls 3 zR (.slice ga os.length gc) os 0 X (HO.out.below HBX.out (Nat.le_refl _))).mono ?_
  rintro e w2 ⟨rfl, hb2⟩
  rw [HGD.out]
  have c0 := cell_later hb2 c0
  have c6 := cell_later hb2 c6
  have HB2 := Lib.hid (HBX.out.trans (hb2.mono (by omega)))
  have hs2 := hb2.size
  clear hb2 c1 c2 c3 c4 c5 c7
  go_wp2_with fail
  refine (wint_calls 3 _).mono ?_
  rintro e w3 ⟨rfl, hb3⟩
  have c0 := cell_later hb3 c0
  have c6 := cell_later hb3 c6
  have HB3 := Lib.hid (HB2.out.trans (hb3.mono (by omega)))
  have hs3 := hb3.size
  clear hb3
  go_upto_region 4 with fail
  have ho := World.ownsRow_lit (base := w.heap.size) (size := 4) (e := 100) w3 #[.int .i64 0, .int .i64 3, .string nos, .slice none 0 0] 1 (by omega) (by unfold maxLen; omega) (by simp)
  have hal := below_alloc w3 (.cells #[.int .i64 0, .int .i64 3, .string nos, .slice none 0 0] 100)
  obtain ⟨W4, hW4⟩ : ∃ W4, W4 = w3.alloc (.cells #[.int .i64 0, .int .i64 3, .string nos, .slice none 0 0] 100) := ⟨_, rfl⟩
  rw [← hW4] at ho hal ⊢
  have HR4 := Lib.hid (show IRow W4 w.heap.size 7 (.slice (some ⟨w3.heap.size, 0, none⟩) 1 1) [⟨iI 3, .slice none 0 0⟩] from ⟨ho, fun x hx => by
    rw [List.mem_singleton] at hx
    subst hx
    exact ItR.nil _ _ _⟩)
  have c0 := cell_later hal c0
  have c6 := cell_later hal c6
  have HB4 := Lib.hid (HB3.out.trans (hal.mono (by omega)))
  have hs4 : w3.heap.size < W4.heap.size := by rw [hW4]; simp
  clear hal ho hW4
  go_wp2_with fail
  refine (HOPS.out W4 (HO.out.below HB4.out (Nat.le_refl _))).mono ?_
  rintro e w5 ⟨lv, rfl, hlv, hb5⟩
  obtain ⟨a2, n2, c2, rfl⟩ : ∃ a n c, lv = .slice a n c := by obtain ⟨a, c, h, -⟩ := hlv.slice; exact ⟨_, _, _, h⟩
  have hal := below_alloc w5 (.cells #[.int .i64 2, .int .i64 0, .string nos, .slice a2 n2 c2] 100)
  have HR5 := Lib.hid ((HR4.out.below hb5).below hal)
  have HLV := Lib.hid (ItR.below hal (fun j hj => hj.2) hlv)
  have HB5 := Lib.hid ((HB4.out.trans (hb5.mono (by omega))).trans (hal.mono (by have := hb5.size; omega)))
  have HLIT := Lib.hid (Rd.lit (w := w5) (cs := #[.int .i64 2, .int .i64 0, .string nos, .slice a2 n2 c2]) (e := 100) (n := 1) (sz := 4) rfl (by omega))
  have hs5 := HB5.out.size
  have hs5' := hb5.size
  have hs5'' := hal.size
  have HOW5 := Lib.hid (show World.ownsRow (w5.alloc (.cells #[.int .i64 2, .int .i64 0, .string nos, .slice a2 n2 c2] 100)) w.heap.size 100 4 (.slice (some ⟨w3.heap.size, 0, none⟩) 1 1) 1 (flatF Iv.cells [⟨iI 3, .slice none 0 0⟩]) from HR5.out.own)
  clear hb5 hlv hal
  go_upto_region 13 with (at_builtin; go_loud (refine app_keep tyItems HOW5.out HLIT.out (by simp [Value.oneCell']) (by omega) (by omega) (by omega) hs5 rfl rfl rfl rfl ?_; intro g gcap w6 h2 h3 h4 h5; have H2 := Lib.hid h2; have H4 := Lib.hid h4; have H5 := Lib.hid h5; clear h2 h3 h4 h5))
  have HR6 := Lib.hid (HR5.out.keep ⟨iL (os.map opE), .slice a2 n2 c2⟩ (HLV.out.mono (fun j hj => ⟨by omega, by omega, fun e => by simp [Value.ownBlock] at e; omega⟩)) H2.out H4.out H5.out)
  have HB6 := Lib.hid (HB5.out.trans ((Below.refl w.heap.size _).grown H4.out hs5 (fun j e => (World.ownsRow.lt HR5.out.own j e).1)))
  have hz6 := HB6.out.size
  have HEC := Lib.hid (HEN.out _ w6 (by have h := HR6.out.its.mono (Q := fun j => j < w6.heap.size) (fun j hj => hj.2); rw [HRE.out]; exact h))
  clear H2 H4 H5
  go_wp2_with fail
  refine HEC.out.mono ?_
  rintro e w13 ⟨bv, rfl, ho, hb⟩
  have hs := run_bytes_str (P := Try.prog) (src := 96) (e := 5) (dst := 9) Try.underlying96 Try.underlying5 Try.underlying9 (Bytes.of_own ho)
  obtain ⟨ba, bc, rfl⟩ := own_slice ho
  have HB13 := Lib.hid (HB6.out.trans (hb.mono hz6))
  clear ho hb
  go_wp2_with fail
  go_ret2
  exact ⟨rfl, HB13.out⟩
end Go.Proofs.Ytkabfjbmofpkdaa
