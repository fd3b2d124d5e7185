/- Walks and plain laws of the chapter, laid together; each part says what it proves. -/
import Derived.Lib.AppendStr
import Derived.Deep.CutRange
import Derived.Deep.MidRow
import Derived.WalkMore
import Derived.Laws.DeepNot64
import Derived.BigQuiet
import Derived.Test.YtmafnjidhjabgaaPkA
namespace Go.Proofs.Ytmafnjidhjabgaa
inductive Itc where
 | mk (k n : Int) (s : ByteArray) (l : List Itc)
def Itc.k : Itc → Int | .mk k _ _ _ => k
def Itc.n : Itc → Int | .mk _ n _ _ => n
def Itc.s : Itc → ByteArray | .mk _ _ s _ => s
def Itc.l : Itc → List Itc | .mk _ _ _ l => l
abbrev nos : ByteArray := ⟨#[]⟩
def numF : Nat → Nat → List UInt8
 | 0, n => [UInt8.ofNat n]
 | f + 1, n => if n < 128 then [UInt8.ofNat n] else UInt8.ofNat (n % 128 + 128) :: numF f (n / 128)
def num (n : Nat) : List UInt8 := numF 10 n
theorem numF_small {f n : Nat} (h : n < 128) : numF f n = [UInt8.ofNat n] := by
 cases f with
 | zero => rfl
 | succ f => unfold numF; rw [if_pos h]
theorem numF_more : ∀ (f g n : Nat), n < 128 ^ (f + 1) → f ≤ g → numF g n = numF f n
 | 0, g, n, h, _ => by rw [numF_small (by omega), numF_small (by omega)]
 | f + 1, g, n, h, hg => by
  obtain ⟨g', rfl⟩ : ∃ g', g = g' + 1 := ⟨g - 1, by omega⟩
  unfold numF
  split
  · rfl
  ·
   rw [numF_more f g' (n / 128) ?_ (by omega)]
   rw [Nat.pow_succ] at h
   omega
theorem num_big {n : Nat} (h : 128 ≤ n) (hn : n < 18446744073709551616) : num n = UInt8.ofNat (n % 128 + 128) :: num (n / 128) := by
 have e : numF 10 n = UInt8.ofNat (n % 128 + 128) :: numF 9 (n / 128) := by
  show (if n < 128 then _ else _) = _
  rw [if_neg (by omega)]
 unfold num
 rw [e, numF_more 9 10 (n / 128) (by simp; omega) (by omega)]
theorem num_small {n : Nat} (h : n < 128) : num n = [UInt8.ofNat n] := numF_small h
theorem numF_len : ∀ f n, (numF f n).length ≤ f + 1 ∧ 1 ≤ (numF f n).length
 | 0, n => by simp [numF]
 | f + 1, n => by
  unfold numF
  split
  · simp
  ·
   have := numF_len f (n / 128)
   simp; omega
theorem num_len (n : Nat) : (num n).length ≤ 11 ∧ 1 ≤ (num n).length := numF_len 10 n
def rdN : Nat → Nat → Nat → List UInt8 → Option (Nat × List UInt8)
 | 0, _, _, _ => none
 | _ + 1, _, _, [] => none
 | f + 1, j, n, c :: r => if (j = 9 ∧ 1 < c.toNat) ∨ (c.toNat = 0 ∧ 0 < j) then none else if c.toNat < 128 then some (n + c.toNat % 128 * 2 ^ (7 * j), r) else rdN f (j + 1) (n + c.toNat % 128 * 2 ^ (7 * j)) r
def readNum (r : List UInt8) : Option (Nat × List UInt8) := rdN 10 0 0 r
theorem rdN_len : ∀ (f j n : Nat) (r : List UInt8) (x : Nat) (r' : List UInt8), rdN f j n r = some (x, r') → r'.length < r.length
 | 0, _, _, _, _, _, h => by simp [rdN] at h
 | _ + 1, _, _, [], _, _, h => by simp [rdN] at h
 | f + 1, j, n, c :: r, x, r', h => by
  unfold rdN at h
  split at h
  · cases h
  ·
   split at h
   ·
    simp only [Option.some.injEq, Prod.mk.injEq] at h
    obtain ⟨_, rfl⟩ := h
    simp
   ·
    have := rdN_len f _ _ r x r' h
    simp; omega
theorem readNum_len {r r' : List UInt8} {x : Nat} (h : readNum r = some (x, r')) : r'.length < r.length := rdN_len _ _ _ _ _ _ h
def zig (n : Int) : Nat := if 0 ≤ n then (2 * n).toNat else (-2 * n - 1).toNat
def unzig (n : Nat) : Int := if n % 2 = 0 then (n / 2 : Nat) else -((n / 2 : Nat) : Int) - 1
theorem zig_lt {n : Int} (h : -9223372036854775808 ≤ n ∧ n ≤ 9223372036854775807) : zig n < 18446744073709551616 := by
 unfold zig
 split <;> omega
def encI : Nat → Itc → List UInt8
 | 0, _ => []
 | d + 1, .mk k n s l => UInt8.ofNat k.toNat :: (if k = 0 then num (zig n) else if k = 1 then num s.size ++ s.data.toList else num l.length ++ l.flatMap (encI d))
def szI : Nat → Itc → Nat
 | 0, _ => 0
 | d + 1, .mk _ _ _ l => 1 + (l.map (szI d)).sum
def okI : Nat → Itc → Prop
 | 0, _ => False
 | d + 1, .mk k n s l => (k = 0 ∧ (-9223372036854775808 ≤ n ∧ n ≤ 9223372036854775807) ∧ s = nos ∧ l = []) ∨ (k = 1 ∧ n = 0 ∧ s.size ≤ 65536 ∧ l = []) ∨ (k = 2 ∧ n = 0 ∧ s = nos ∧ ∀ i ∈ l, okI d i)
def decN (f : List UInt8 → Nat → Option (Itc × List UInt8 × Nat)) : Nat → List UInt8 → Nat → Option (List Itc × List UInt8 × Nat)
 | 0, r, c => some ([], r, c)
 | n + 1, r, c => match f r c with
  | none => none
  | some (i, r', c') => match decN f n r' c' with
   | none => none
   | some (l, r'', c'') => some (i :: l, r'', c'')
def decK (f : List UInt8 → Nat → Option (Itc × List UInt8 × Nat)) (k n : Nat) (r : List UInt8) (c : Nat) : Option (Itc × List UInt8 × Nat) :=
 if k = 0 then some (.mk 0 (unzig n) nos [], r, c)
 else if 9223372036854775807 < n then none
 else if k = 1 then (if r.length < n then none else some (.mk 1 0 ⟨(r.take n).toArray⟩ [], r.drop n, c))
 else match decN f n r c with
  | none => none
  | some (l, r', c') => some (.mk 2 0 nos l, r', c')
def decI : Nat → List UInt8 → Nat → Option (Itc × List UInt8 × Nat)
 | 0, _, _ => none
 | d + 1, r, c => if 4096 ≤ c then none else match r with
  | [] => none
  | k :: r1 => if 2 < k.toNat then none else match readNum r1 with
   | none => none
   | some (n, r2) => decK (decI d) k.toNat n r2 (c + 1)
def decA : Nat → List UInt8 → Nat → Option (List Itc)
 | 0, _, _ => none
 | f + 1, r, c => match r with
  | [] => some []
  | k :: r1 => match decI 8 (k :: r1) c with
   | none => none
   | some (i, r', c') => match decA f r' c' with
    | none => none
    | some l => some (i :: l)
def dec (b : List UInt8) : Option (List Itc) := if 65536 < b.length then none else decA (b.length + 1) b 0
def enc (is : List Itc) : List UInt8 := is.flatMap (encI 8)
end Go.Proofs.Ytmafnjidhjabgaa
namespace Go.Proofs.Ytmafnjidhjabgaa
open Go.RowKit Go.Shelf
set_option linter.unusedVariables false
structure Kp (E : TypeId → Prop) (base : Nat) (w w' : World) : Prop where
 b : Below base w w'
 k : ∀ (j : Nat) (cs : Array Value) (e : TypeId) (x : Nat × Nat), w.heap[j]? = some (Obj.cells cs e x) → ¬ E e → w'.heap[j]? = w.heap[j]?
theorem Kp.refl (E : TypeId → Prop) (base : Nat) (w : World) : Kp E base w w := ⟨Below.refl _ _, fun _ _ _ _ _ _ => rfl⟩
theorem Kp.trans {E : TypeId → Prop} {base : Nat} {a b c : World} (h : Kp E base a b) (k : Kp E base b c) : Kp E base a c :=
 ⟨h.b.trans k.b, fun j cs e x hj hE => by have h1 := h.k j cs e x hj hE; exact (k.k j cs e x (h1.trans hj) hE).trans h1⟩
theorem Kp.mono {E F : TypeId → Prop} {base base' : Nat} {w w' : World} (h : Kp E base w w') (hE : ∀ e, E e → F e) (hb : base' ≤ base) : Kp F base' w w' :=
 ⟨h.b.mono hb, fun j cs e x hj hF => h.k j cs e x hj (fun he => hF (hE e he))⟩
theorem Kp.of_below {E : TypeId → Prop} {base : Nat} {w w' : World} (h : Below w.heap.size w w') (hb : base ≤ w.heap.size) : Kp E base w w' :=
 ⟨h.mono hb, fun j cs e x hj _ => h.block j (Array.getElem?_eq_some_iff.1 hj).1⟩
theorem Kp.of_grown {E : TypeId → Prop} {base sz n : Nat} {e : TypeId} {v : Value} {xs : List Value} {w w' : World} (hown : w.ownsRow base e sz v n xs) (hb : base ≤ w.heap.size) (hE : E e) (hg : w.grownBy w' v.ownBlock) : Kp E base w w' := by
 refine ⟨(Below.refl base w).grown hg hb (fun k hk => (World.ownsRow.lt hown k hk).1), fun j cs e' x hj hE' => hg.block j (Array.getElem?_eq_some_iff.1 hj).1 (fun he => ?_)⟩
 rcases hown.2 with ⟨rfl, _⟩ | ⟨g, cap, cur, rfl, _, hg2, _⟩
 · cases he
 ·
  simp only [Value.ownBlock, Option.some.injEq] at he
  subst he
  rw [hg2] at hj
  simp only [Option.some.injEq, Obj.cells.injEq] at hj
  obtain ⟨_, rfl, _⟩ := hj
  exact hE' hE
theorem Kp.own {E : TypeId → Prop} {base base' sz n : Nat} {e : TypeId} {v : Value} {xs : List Value} {w w' : World} (h : Kp E base w w') (hown : w.ownsRow base' e sz v n xs) (hE : ¬ E e) : w'.ownsRow base' e sz v n xs := by
 refine ⟨hown.1, ?_⟩
 rcases hown.2 with h0 | ⟨g, cap, cur, rfl, hb, hg, h1, h2, h3, h4⟩
 · exact .inl h0
 · exact .inr ⟨g, cap, cur, rfl, hb, (h.k g cur e (0, 0) hg hE).trans hg, h1, h2, h3, h4⟩
theorem tyU8 : STy Try.prog 46 5 (.int .u8 0) 1 1 := .of Try.underlying46 (by kernel_rfl) rfl (by omega)
theorem tyItems : STy Try.prog 68 72 (.agg #[.int .i64 0, .int .i64 0, .string nos, .slice none 0 0]) 4 56 := .of Try.underlying68 (by kernel_rfl) rfl (by omega)
structure Iv where
 c : Itc
 v : Value
def Iv.cells (x : Iv) : List Value := [.int .i64 x.c.k, .int .i64 x.c.n, .string x.c.s, x.v]
theorem iv4 (x : Iv) : (Iv.cells x).length = 4 := rfl
def ItR (P : Nat → Prop) : Nat → World → Value → List Itc → Prop
 | 0, w, v, is => is = [] ∧ Rd w 4 v 0 []
 | d + 1, w, v, is => ∃ xs : List Iv, xs.map Iv.c = is ∧ Rd w 4 v xs.length (flatF Iv.cells xs) ∧ (∀ a n c, v = .slice (some a) n c → 0 < xs.length → P a.block) ∧ ∀ x ∈ xs, ItR P d w x.v x.c.l
theorem ItR.nil (P : Nat → Prop) (d : Nat) (w : World) : ItR P d w (.slice none 0 0) [] := by
 cases d with
 | zero => exact ⟨rfl, Rd.nil _ _⟩
 | succ d => exact ⟨[], rfl, Rd.nil _ _, fun a n c h => by simp at h, fun x hx => by cases hx⟩
theorem ItR.slice {P : Nat → Prop} {d : Nat} {w : World} {v : Value} {is : List Itc} (h : ItR P d w v is) : ∃ a c, v = .slice a is.length c ∧ is.length ≤ c ∧ c ≤ 9223372036854775807 := by
 cases d with
 | zero =>
  obtain ⟨rfl, hr⟩ := h
  obtain ⟨a, c, rfl, h1, h2⟩ := Rd.slice hr
  exact ⟨a, c, rfl, h1, h2⟩
 | succ d =>
  obtain ⟨xs, rfl, hr, -, -⟩ := h
  obtain ⟨a, c, rfl, h1, h2⟩ := Rd.slice hr
  exact ⟨a, c, by simp, by simpa using h1, h2⟩
theorem ItR.one {P : Nat → Prop} {d : Nat} {w : World} {v : Value} {is : List Itc} (h : ItR P d w v is) : v.oneCell' = true := by
 obtain ⟨a, c, rfl, -⟩ := h.slice
 rfl
theorem Rd.only {S : Nat → Prop} {w w' : World} {sz n : Nat} {v : Value} {cs : List Value} (h : Rd w sz v n cs) (ho : Only S w w') (hS : ∀ a n' c, v = .slice (some a) n' c → 0 < n → ¬ S a.block) : Rd w' sz v n cs := by
 obtain ⟨a, cap, rfl, h0, h1, h2, h3⟩ := h
 refine ⟨a, cap, rfl, h0, h1, h2, ?_⟩
 rcases h3 with h3 | ⟨b, off, rfl, hc⟩
 · exact .inl h3
 ·
  rcases Nat.eq_zero_or_pos n with rfl | hn
  ·
   refine .inr ⟨b, off, rfl, fun j u hj => ?_⟩
   have := (List.getElem?_eq_some_iff.1 hj).1
   omega
  · exact .inr ⟨b, off, rfl, fun j u hj => ho.cell (hS _ _ _ rfl hn) (hc j u hj)⟩
theorem ItR.only {P S : Nat → Prop} {w w' : World} (ho : Only S w w') (hPS : ∀ j, P j → ¬ S j) : ∀ {d : Nat} {v : Value} {is : List Itc}, ItR P d w v is → ItR P d w' v is
 | 0, v, is, h => ⟨h.1, Rd.only h.2 ho (fun a n c _ hn => by omega)⟩
 | d + 1, v, is, ⟨xs, h1, h2, h3, h4⟩ => ⟨xs, h1, Rd.only h2 ho (fun a n c e hn => hPS _ (h3 a n c e hn)), h3, fun x hx => ItR.only ho hPS (h4 x hx)⟩
theorem ItR.mono {P Q : Nat → Prop} {w : World} (hPQ : ∀ j, P j → Q j) : ∀ {d : Nat} {v : Value} {is : List Itc}, ItR P d w v is → ItR Q d w v is
 | 0, _, _, h => h
 | d + 1, v, is, ⟨xs, h1, h2, h3, h4⟩ => ⟨xs, h1, h2, fun a n c e hn => hPQ _ (h3 a n c e hn), fun x hx => ItR.mono hPQ (h4 x hx)⟩
theorem ItR.below {P : Nat → Prop} {w w' : World} {B : Nat} (hb : Below B w w') (hP : ∀ j, P j → j < B) {d : Nat} {v : Value} {is : List Itc} (h : ItR P d w v is) : ItR P d w' v is :=
 h.only (S := fun j => B ≤ j) ⟨hb.os, hb.tape, hb.output, hb.size, fun j _ hs => hb.block j (by omega)⟩ (fun j hp hs => by have := hP j hp; omega)
theorem u8_or_128 (m : Nat) : bits BinOp.or IntKind.u8 ((m : Int) % 256) 128 = ((m % 128 + 128 : Nat) : Int) := by
 have h := (bits_nat .u8 8 (by decide) (fun n h0 h1 => by simp [IntKind.wrap, IntKind.bits, IntKind.signed]; omega) (m % 256) 128 (by omega) (by omega)).2
 have h2 : ∀ b : Fin 256, b.val ||| 128 = b.val % 128 + 128 := by decide +kernel
 have h3 := h2 ⟨m % 256, by omega⟩
 simp only at h3
 rw [h3] at h
 have h4 : (((m % 256 : Nat) : Int)) = (m : Int) % 256 := by omega
 rw [h4] at h
 rw [show ((128 : Int)) = ((128 : Nat) : Int) from rfl, h]
 omega
theorem bvs_snoc (xs : List UInt8) (k : Nat) (hk : k < 256) : bvs xs ++ [Value.int .u8 (k : Int)] = bvs (xs ++ [UInt8.ofNat k]) := by
 have : (UInt8.ofNat k).toNat = k := by simp; omega
 simp [bvs, byteV, this]
theorem own_snoc {w : World} {base : Nat} {v : Value} {xs : List UInt8} {k : Nat} (hk : k < 256) (h : w.ownsRow base 5 1 v (xs.length + 1) (bvs xs ++ [Value.int .u8 (k : Int)])) : w.ownsRow base 5 1 v (xs ++ [UInt8.ofNat k]).length (bvs (xs ++ [UInt8.ofNat k])) := by
 rw [bvs_snoc xs k hk] at h
 rw [List.length_append]
 exact h
set_option maxHeartbeats 1000000 in
theorem wnumber_calls (v : Value) (xs : List UInt8) (n base : Nat) (w : World) (hown : w.ownsRow base 5 1 v xs.length (bvs xs)) (hn : n < 18446744073709551616) (hlen : xs.length ≤ 1000000000) (hbase : base ≤ w.heap.size) :
  Calls Try.prog 101 #[v, .int .u64 n] w fun e w' => ∃ v', e = .returned v' ∧ w'.ownsRow base 5 1 v' (xs ++ num n).length (bvs (xs ++ num n)) ∧ Kp (fun e => e = 5) base w w' := by
 have HO := Lib.hid hown
 obtain ⟨a, c, rfl⟩ := own_slice hown
 clear hown
 go_enter Try.func101, Try.ntmps101
 go_wp2_with fail
 go_loopw [0, 1] (fun bv nv wr => ∃ (pre : List UInt8) (m : Nat), nv = .int .u64 m ∧ m < 18446744073709551616 ∧ pre ++ num m = num n ∧ wr.ownsRow base 5 1 bv (xs ++ pre).length (bvs (xs ++ pre)) ∧ Kp (fun e => e = 5) base w wr) (fun _ nv _ => (intOf nv).toNat)
 case atStart => exact ⟨[], n, rfl, hn, rfl, by simpa using HO.out, Kp.refl _ _ _⟩
 case round =>
  obtain ⟨pre, m, rfl, hm, hpre, hown, hkp⟩ := hrel
  have hpl : pre.length ≤ 11 := by
   have := congrArg List.length hpre
   rw [List.length_append] at this
   have := (num_len n).1
   omega
  have hxl : (xs ++ pre).length ≤ 1000000011 := by rw [List.length_append]; omega
  have HOW := Lib.hid hown
  have HKP := Lib.hid hkp
  have HPRE := Lib.hid hpre
  have HU := Lib.hid (u8_or_128 m)
  have hsz := hkp.b.size
  obtain ⟨ba, bc, rfl⟩ := own_slice hown
  clear hown hkp hpre
  generalize hYS : xs ++ pre = ys at *
  have HYS := Lib.hid hYS
  clear hYS
  by_cases hbig : 128 ≤ m
  ·
   have hb1 : decide ((128 : Int) ≤ (m : Int)) = true := decide_eq_true (by omega)
   go_upto_region 3 with (at_builtin; go_loud (refine app_list tyU8 (HOW.out.alloc _) (Rd.lit (n := 1) rfl (by omega)) (by simp [Value.oneCell']) (by omega) (by omega) (by simp; omega) rfl rfl rfl rfl ?_; intro v2 w2 hm2 hg2 hn2; rw [HU.out] at hm2; obtain ⟨ga, gc, rfl⟩ := own_slice hm2))
   have HM2 := Lib.hid (own_snoc (by omega) hm2)
   have HK2 := Lib.hid ((HKP.out.trans (Kp.of_below (below_alloc wr _) (by omega))).trans (Kp.of_grown (E := fun e => e = 5) (HOW.out.alloc _) (by simp; omega) rfl hg2))
   clear hm2 hg2 hn2
   go_wp2_with fail
   go_roundw
   case rel => exact ⟨pre ++ [UInt8.ofNat (m % 128 + 128)], m / 128, by go_num, by omega, by rw [← HPRE.out, num_big hbig hm]; simp, by rw [← List.append_assoc, HYS.out]; simpa using HM2.out, HK2.out⟩
   case measure => simp [intOf]; omega
  ·
   have hb1 : decide ((128 : Int) ≤ (m : Int)) = false := decide_eq_false (by omega)
   go_wp2_with (at_builtin; go_loud (refine app_list tyU8 (HOW.out.alloc _) (Rd.lit (n := 1) rfl (by omega)) (by simp [Value.oneCell']) (by omega) (by omega) (by simp; omega) rfl rfl rfl rfl ?_; intro v2 w2 hm2 hg2 hn2; obtain ⟨ga, gc, rfl⟩ := own_slice hm2))
   go_ret
   refine ⟨_, rfl, ?_, (HKP.out.trans (Kp.of_below (below_alloc wr _) (by omega))).trans (Kp.of_grown (E := fun e => e = 5) (HOW.out.alloc _) (by simp; omega) rfl hg2)⟩
   have := own_snoc (k := m) (by omega) (by simpa using hm2)
   have e : xs ++ num n = ys ++ [UInt8.ofNat m] := by rw [← HPRE.out, num_small (by omega), ← List.append_assoc, HYS.out]
   rw [← List.length_append, e]
   simpa using this
end Go.Proofs.Ytmafnjidhjabgaa
namespace Go.Proofs.Ytmafnjidhjabgaa
open Go.RowKit Go.Shelf
set_option linter.unusedVariables false
set_option linter.unusedSimpArgs false
section
variable {P : Program} {l : List Oper} {Q : Exit → Act → World → Prop} {S : World → Prop} {T : Act → World → Prop} {i : Nat} {o : Oper} {π : List (Nat × Bool)} {a : Act} {w : World}
theorem m_appstr {s x : Operand} {t u e : TypeId} {base n : Nat} {v : Value} {xs : List Value} {str : ByteArray} (T' : STy P t e (.int .u8 0) 1 1) (hu : P.underlying u = some .string)
  (hown : w.ownsRow base e 1 v n xs) (hb : n + str.size ≤ 140737488355328) (hbase : base ≤ w.heap.size)
  (ho : l[i]? = some o) (hw : Region.wanted o (yielded l.toArray a.tmps) = true) (hop : o.op = .call { callee := .builtin .append, args := #[s, x], argTypes := #[t, u] }) (hs : a.eval s = v) (hx : a.eval x = .string str)
  (h : ∀ v' w', w'.ownsRow base e 1 v' (n + str.size) (xs ++ Lib.strCells str) → w.grownBy w' v.ownBlock → S w' ∧ wpM P l.toArray Q S T π (a.put o.dst v') w') :
  wpM P l.toArray Q S T ((i, true) :: π) a w := by
 obtain ⟨i', hi, hz, hsz, hby⟩ := T'.hi
 obtain ⟨v', w', hrun, h2, h3, -⟩ := Lib.run_append_own_string (P := P) w base t u o.type e i' T'.ht hu hi hz hsz hby v n xs hown str (by unfold maxLen; omega) hb hbase
 have := h v' w' h2 h3
 refine m_value ho hw ?_ this.1 this.2
 simp [execOp, hop, resolve, invoke, builtin, hs, hx, hrun, Result.andThen]
end
theorem strCells_bvs (s : ByteArray) : Lib.strCells s = bvs s.data.toList := rfl
def WBox (w : World) (base wb : Nat) (bv : Value) (cnt : Int) : Prop := w.ownsRow base 159 2 (.slice (some ⟨wb, 0, none⟩) 1 1) 1 [bv, .int .i64 cnt]
theorem WBox.c0 {w : World} {base wb : Nat} {bv : Value} {cnt : Int} (h : WBox w base wb bv cnt) : w.cell? ⟨wb, 0, none⟩ = some bv := by
 have := World.ownsRow.cells h (g := wb) rfl 0 bv rfl
 rwa [add_off, Nat.zero_add] at this
theorem WBox.c1 {w : World} {base wb : Nat} {bv : Value} {cnt : Int} (h : WBox w base wb bv cnt) : w.cell? ⟨wb, 1, none⟩ = some (.int .i64 cnt) := by
 have := World.ownsRow.cells h (g := wb) rfl 1 _ rfl
 rwa [add_off, Nat.zero_add] at this
theorem WBox.frz {w : World} {base wb : Nat} {bv : Value} {cnt : Int} (h : WBox w base wb bv cnt) (j : Nat) : w.frozen? ⟨wb, j, none⟩ = false := World.ownsRow.frozenAt h j
theorem WBox.kp {E : TypeId → Prop} {w w' : World} {base wb b' : Nat} {bv : Value} {cnt : Int} (h : WBox w base wb bv cnt) (k : Kp E b' w w') (hE : ¬ E 159) : WBox w' base wb bv cnt := k.own h hE
theorem WBox.set0 {w : World} {base wb : Nat} {bv : Value} {cnt : Int} (h : WBox w base wb bv cnt) (v : Value) : WBox (w.setCell ⟨wb, 0, none⟩ v) base wb v cnt ∧ w.grownBy (w.setCell ⟨wb, 0, none⟩ v) (some wb) := World.ownsRow.stored h 0 v
theorem WBox.set1 {w : World} {base wb : Nat} {bv : Value} {cnt : Int} (h : WBox w base wb bv cnt) (v : Int) : WBox (w.setCell ⟨wb, 1, none⟩ (.int .i64 v)) base wb bv v ∧ w.grownBy (w.setCell ⟨wb, 1, none⟩ (.int .i64 v)) (some wb) := World.ownsRow.stored h 1 _
abbrev EW : TypeId → Prop := fun e => e = 5 ∨ e = 159
theorem WBox.kset {w w' : World} {base wb : Nat} {bv : Value} {cnt : Int} (h : WBox w base wb bv cnt) (hb : base ≤ w.heap.size) (hg : w.grownBy w' (some wb)) : Kp EW base w w' := Kp.of_grown (E := EW) h hb (.inr rfl) hg
theorem Kp.drew {E : TypeId → Prop} {base : Nat} {a w : World} (h : Kp E base a w) : Kp E base a w.drew := ⟨h.b.drew, h.k⟩
def IBox (w : World) (base ib : Nat) (k n : Int) (s : ByteArray) (v : Value) : Prop := w.ownsRow base 72 4 (.slice (some ⟨ib, 0, none⟩) 1 1) 1 [.int .i64 k, .int .i64 n, .string s, v]
theorem IBox.at {w : World} {base ib : Nat} {k n : Int} {s : ByteArray} {v : Value} (h : IBox w base ib k n s v) : w.cell? ⟨ib, 0, none⟩ = some (.int .i64 k) ∧ w.cell? ⟨ib, 1, none⟩ = some (.int .i64 n) ∧ w.cell? ⟨ib, 2, none⟩ = some (.string s) ∧ w.cell? ⟨ib, 3, none⟩ = some v := by
 have e := fun j u hj => World.ownsRow.cells h (g := ib) rfl j u hj
 simp only [add_off, Nat.zero_add] at e
 exact ⟨e 0 _ rfl, e 1 _ rfl, e 2 _ rfl, e 3 _ rfl⟩
theorem IBox.new {w : World} {base : Nat} {k n : Int} {s : ByteArray} {v : Value} (hb : base ≤ w.heap.size) : IBox (w.alloc (.cells #[.int .i64 k, .int .i64 n, .string s, v] 72)) base w.heap.size k n s v := by
 have := World.ownsRow_lit (base := base) (size := 4) (e := 72) w #[.int .i64 k, .int .i64 n, .string s, v] 1 hb (by unfold maxLen; omega) (by simp)
 exact this
structure Pt (base wb ib : Nat) (w W : World) (bv : Value) (B : List UInt8) (cnt : Int) (k n : Int) (s : ByteArray) (lv : Value) : Prop where
 sz : base ≤ W.heap.size
 box : WBox W base wb bv cnt
 row : W.ownsRow base 5 1 bv B.length (bvs B)
 it : IBox W base ib k n s lv
 kp : Kp EW base w W
theorem Pt.grow {base wb ib : Nat} {w W W' : World} {bv bv' : Value} {B B' : List UInt8} {cnt k n : Int} {s : ByteArray} {lv : Value} (h : Pt base wb ib w W bv B cnt k n s lv) (hk : Kp (fun e => e = 5) base W W') (hr : W'.ownsRow base 5 1 bv' B'.length (bvs B')) :
  Pt base wb ib w (W'.setCell ⟨wb, 0, none⟩ bv') bv' B' cnt k n s lv := by
 have hb := h.box.kp hk (by decide)
 have hz : base ≤ W'.heap.size := Nat.le_trans h.sz hk.b.size
 have hset := hb.set0 bv'
 have hk2 := hb.kset hz hset.2
 refine ⟨Nat.le_trans hz hk2.b.size, hset.1, ownsRow_only hr (Only.of_grown hset.2) (fun g hg e => own_apart hr hb (by decide) g hg e), hk2.own (hk.own h.it (by decide)) (by decide), (h.kp.trans (hk.mono (fun e he => .inl he) (Nat.le_refl _))).trans hk2⟩
theorem Pt.drew {base wb ib : Nat} {w W : World} {bv : Value} {B : List UInt8} {cnt k n : Int} {s : ByteArray} {lv : Value} (h : Pt base wb ib w W bv B cnt k n s lv) : Pt base wb ib w W.drew bv B cnt k n s lv := ⟨h.sz, h.box, h.row, h.it, h.kp.drew⟩
theorem Pt.cells {base wb ib : Nat} {w W : World} {bv : Value} {B : List UInt8} {cnt k n : Int} {s : ByteArray} {lv : Value} (h : Pt base wb ib w W bv B cnt k n s lv) :
  W.cell? ⟨wb, 0, none⟩ = some bv ∧ W.cell? ⟨ib, 0, none⟩ = some (.int .i64 k) ∧ W.cell? ⟨ib, 1, none⟩ = some (.int .i64 n) ∧ W.cell? ⟨ib, 2, none⟩ = some (.string s) ∧ W.cell? ⟨ib, 3, none⟩ = some lv :=
 ⟨h.box.c0, h.it.at.1, h.it.at.2.1, h.it.at.2.2.1, h.it.at.2.2.2⟩
theorem Pt.kcells {base wb ib : Nat} {w W W' : World} {bv : Value} {B : List UInt8} {cnt k n : Int} {s : ByteArray} {lv : Value} (h : Pt base wb ib w W bv B cnt k n s lv) (hk : Kp (fun e => e = 5) base W W') :
  W'.cell? ⟨wb, 0, none⟩ = some bv ∧ W'.cell? ⟨ib, 0, none⟩ = some (.int .i64 k) ∧ W'.cell? ⟨ib, 1, none⟩ = some (.int .i64 n) ∧ W'.cell? ⟨ib, 2, none⟩ = some (.string s) ∧ W'.cell? ⟨ib, 3, none⟩ = some lv := by
 have hb := h.box.kp hk (by decide)
 have hi : IBox W' base ib k n s lv := hk.own h.it (by decide)
 exact ⟨hb.c0, hi.at.1, hi.at.2.1, hi.at.2.2.1, hi.at.2.2.2⟩
theorem u64_nat {n : Nat} (h : n < 18446744073709551616) : IntKind.u64.wrap (n : Int) = (n : Int) := by
 simp [IntKind.wrap, IntKind.bits, IntKind.signed]
 omega
theorem xor_ones {a : Nat} (ha : a < 2 ^ 64) : a ^^^ (2 ^ 64 - 1) = 2 ^ 64 - (a + 1) := by
 apply Nat.eq_of_testBit_eq
 intro i
 rw [Nat.testBit_xor, Nat.testBit_two_pow_sub_one, Nat.testBit_two_pow_sub_succ ha]
 by_cases h : i < 64
 · simp [h]
 ·
  have : a.testBit i = false := Nat.testBit_lt_two_pow (Nat.lt_of_lt_of_le ha (Nat.pow_le_pow_right (by decide) (by omega)))
  simp [h, this]
theorem zig_bits {n : Int} (h : -9223372036854775808 ≤ n ∧ n ≤ 9223372036854775807) :
  bits BinOp.xor IntKind.u64 (IntKind.u64.wrap (IntKind.u64.wrap n * 2)) (IntKind.u64.wrap (n / 9223372036854775808)) = ((zig n : Nat) : Int) := by
 have e : ∀ m : Int, IntKind.u64.wrap m = m % 18446744073709551616 := fun m => by simp [IntKind.wrap, IntKind.bits, IntKind.signed]
 rw [e, e, e]
 by_cases h0 : 0 ≤ n
 ·
  have h1 : n % 18446744073709551616 * 2 % 18446744073709551616 = ((2 * n).toNat : Nat) := by omega
  have h2 : n / 9223372036854775808 % 18446744073709551616 = ((0 : Nat) : Int) := by omega
  rw [h1, h2, bits_xor_u64_nat _ _ (by omega) (by omega)]
  unfold zig
  rw [if_pos h0]
  simp
 ·
  have h1 : n % 18446744073709551616 * 2 % 18446744073709551616 = (((2 * n + 18446744073709551616).toNat : Nat) : Int) := by omega
  have h2 : n / 9223372036854775808 % 18446744073709551616 = ((18446744073709551615 : Nat) : Int) := by omega
  rw [h1, h2, bits_xor_u64_nat _ _ (by omega) (by omega)]
  have h3 := xor_ones (a := (2 * n + 18446744073709551616).toNat) (by omega)
  simp only [show (2 ^ 64 - 1 : Nat) = 18446744073709551615 by decide, show (2 ^ 64 : Nat) = 18446744073709551616 by decide] at h3
  rw [h3]
  unfold zig
  rw [if_neg h0]
  omega
theorem sum_map_take {α : Type} (f : α → Nat) (l : List α) (k : Nat) : ((l.take k).map f).sum ≤ (l.map f).sum := by
 conv => rhs; rw [← List.take_append_drop k l]
 rw [List.map_append, List.sum_append]
 omega
theorem flatMap_take_len {α β : Type} (f : α → List β) (l : List α) (k : Nat) : ((l.take k).flatMap f).length ≤ (l.flatMap f).length := by
 conv => rhs; rw [← List.take_append_drop k l]
 simp only [List.flatMap_append, List.length_append]
 omega
theorem len_le_sum (d : Nat) : ∀ l : List Itc, (∀ i ∈ l, okI d i) → l.length ≤ (l.map (szI d)).sum := by
 intro l
 induction l with
 | nil => intro _; simp
 | cons i l ih =>
  intro h
  have := ih (fun x hx => h x (by simp [hx]))
  have h1 : 1 ≤ szI d i := by
   have := h i (by simp)
   cases d with
   | zero => exact this.elim
   | succ d => obtain ⟨k, n, s, l⟩ := i; unfold szI; omega
  simp only [List.map_cons, List.sum_cons, List.length_cons]
  omega
def PutSpec (P : Nat → Prop) (d : Nat) : Prop := ∀ (v : Value) (is : List Itc) (base wb : Nat) (bv : Value) (bs : List UInt8) (cnt : Nat) (w : World), ItR P d w v is → (∀ j, P j → j < base) → (∀ i ∈ is, okI d i) →
 cnt + (is.map (szI d)).sum ≤ 4096 → bs.length + (is.flatMap (encI d)).length ≤ 100000000 → base ≤ w.heap.size → WBox w base wb bv cnt → w.ownsRow base 5 1 bv bs.length (bvs bs) →
 Calls Try.prog 92 #[.pointer (some ⟨wb, 0, none⟩), v, .int .i64 (9 - (d : Int))] w fun e w' => ∃ bv', e = .returned (.int .i64 0) ∧ WBox w' base wb bv' ((cnt + (is.map (szI d)).sum : Nat)) ∧
  w'.ownsRow base 5 1 bv' (bs ++ is.flatMap (encI d)).length (bvs (bs ++ is.flatMap (encI d))) ∧ Kp EW base w w'
set_option maxHeartbeats 40000000 in
set_option maxRecDepth 100000 in
theorem put_step (P : Nat → Prop) (d : Nat) (hd8 : d ≤ 8) (ih : ∀ d', d = d' + 1 → PutSpec P d') : PutSpec P d := by
 intro v is base wb bv bs cnt w hI hP hok hcnt hlen hbase hwb hown
 obtain ⟨a, cap, rfl, hle, hcap⟩ := hI.slice
 have HI := Lib.hid hI
 have HP := Lib.hid hP
 have HOK := Lib.hid hok
 have HWB := Lib.hid hwb
 have HOWN := Lib.hid hown
 have IH := Lib.hid ih
 obtain ⟨dp, hdp⟩ : ∃ dp : Int, dp = 9 - (d : Int) := ⟨_, rfl⟩
 rw [← hdp]
 have HDP := Lib.hid hdp
 have hil : is.length ≤ 4096 := by
  have := len_le_sum d is hok
  omega
 clear hI hP hok hwb hown ih hdp
 go_enter Try.func92, Try.ntmps92
 go_wp2_with fail
 go_loopw [8, 9, 12] (fun _ _ iv wr => ∃ (k : Nat) (bv' : Value), k ≤ is.length ∧ iv = .int .i64 k ∧ WBox wr base wb bv' ((cnt + ((is.take k).map (szI d)).sum : Nat)) ∧ wr.ownsRow base 5 1 bv' (bs ++ (is.take k).flatMap (encI d)).length (bvs (bs ++ (is.take k).flatMap (encI d))) ∧ Kp EW base w wr) (fun _ _ iv _ => is.length - (intOf iv).toNat)
 case atStart => exact ⟨0, bv, by omega, rfl, by simpa using HWB.out, by simpa using HOWN.out, Kp.refl _ _ _⟩
 case round =>
  obtain ⟨k, bv', hk, rfl, hwb, hown, hkp⟩ := hrel
  have hsz := hkp.b.size
  by_cases hlt : k < is.length
  ·
   have hd0 : d ≠ 0 := fun e => by subst e; exact (HOK.out is[k] (List.getElem_mem _)).elim
   obtain ⟨d, rfl⟩ : ∃ d', d = d' + 1 := ⟨d - 1, by omega⟩
   have hd1 : decide (8 < dp) = false := decide_eq_false (by have := HDP.out; omega)
   have hIr := HI.out.below hkp.b HP.out
   obtain ⟨xs, hxs, hrd, -, hch⟩ := hIr
   have hxl : xs.length = is.length := by rw [← hxs]; simp
   have hkx : k < xs.length := by omega
   rw [← hxl] at hrd
   obtain ⟨ab, ao, rfl, hc⟩ := rdF_at (k := 4) (f := Iv.cells) iv4 hrd k hkx
   have e0 : wr.cell? ⟨ab, ao + k * 4, none⟩ = some (.int .i64 xs[k].c.k) := hc 0 _ (by omega) rfl
   have e1 := hc 1 _ (by omega) rfl
   have e2 := hc 2 _ (by omega) rfl
   have e3 := hc 3 _ (by omega) rfl
   have hxc : xs[k].c = is[k] := by subst hxs; simp
   have hItl := hch xs[k] (List.getElem_mem _)
   have hoki := HOK.out is[k] (List.getElem_mem _)
   have htk : is.take (k + 1) = is.take k ++ [is[k]] := List.take_succ_eq_append_getElem hlt
   have hs1 : cnt + ((is.take (k + 1)).map (szI (d + 1))).sum = cnt + ((is.take k).map (szI (d + 1))).sum + szI (d + 1) is[k] := by
    rw [htk, List.map_append, List.sum_append]
    simp only [List.map_cons, List.map_nil, List.sum_cons, List.sum_nil]
    omega
   have hs2 : bs ++ (is.take (k + 1)).flatMap (encI (d + 1)) = bs ++ (is.take k).flatMap (encI (d + 1)) ++ encI (d + 1) is[k] := by
    rw [htk, List.flatMap_append, ← List.append_assoc]
    simp only [List.flatMap_cons, List.flatMap_nil, List.append_nil]
   have hs3 : cnt + ((is.take (k + 1)).map (szI (d + 1))).sum ≤ 4096 := by
    have := sum_map_take (szI (d + 1)) is (k + 1)
    omega
   have hs4 : (bs ++ (is.take (k + 1)).flatMap (encI (d + 1))).length ≤ 100000000 := by
    have := flatMap_take_len (encI (d + 1)) is (k + 1)
    rw [List.length_append]
    omega
   rw [hs1] at hs3
   rw [hs2] at hs4
   rw [← hxc] at hoki hs1 hs2 hs3 hs4
   generalize cnt + ((is.take k).map (szI (d + 1))).sum = A at *
   generalize bs ++ (is.take k).flatMap (encI (d + 1)) = B at *
   generalize xs[k] = X at *
   obtain ⟨⟨kd, n, s, l⟩, lv⟩ := X
   simp only [Itc.k, Itc.n, Itc.s, Itc.l, szI, encI, okI] at e0 e1 e2 e3 hItl hoki hs1 hs2 hs3 hs4
   obtain ⟨la, lc, rfl, -⟩ := hItl.slice
   obtain ⟨ba, bc, rfl⟩ := own_slice hown
   have HS1 := Lib.hid hs1
   have HS2 := Lib.hid hs2
   have HITL := Lib.hid hItl
   have HKP := Lib.hid hkp
   have HO0 := Lib.hid hown
   have HB0 := Lib.hid hwb
   have w1 := hwb.c1
   have f1 := hwb.frz 1
   obtain ⟨ib, hib⟩ : ∃ ib, ib = wr.heap.size := ⟨_, rfl⟩
   have hAl : A + 1 ≤ 4096 := by omega
   have hBl : B.length + 1 ≤ 100000000 := by
    rw [List.length_append, List.length_cons] at hs4
    omega
   clear hs1 hs2 hItl hkp hown hwb hc hch hrd hxs hxc htk
   go_upto_region 4 with fail
   obtain ⟨V1, hV1⟩ : ∃ V1, V1 = wr.alloc (.cells #[.int .i64 kd, .int .i64 n, .string s, .slice la l.length lc] 72) := ⟨_, rfl⟩
   have hk1 : Kp EW base wr V1 := by rw [hV1]; exact Kp.of_below (below_alloc wr _) (by omega)
   have hi1 : IBox V1 base ib kd n s (.slice la l.length lc) := by rw [hV1, hib]; exact IBox.new (by omega)
   have hwb1 : WBox V1 base wb (.slice ba B.length bc) A := by rw [hV1]; exact World.ownsRow.alloc HB0.out _
   have ho1 : V1.ownsRow base 5 1 (.slice ba B.length bc) B.length (bvs B) := by rw [hV1]; exact World.ownsRow.alloc HO0.out _
   have h1s : base ≤ V1.heap.size := by have := hk1.b.size; omega
   rw [← hV1, ← hib]
   clear hib
   have w1 := hwb1.c1
   have f1 := hwb1.frz 1
   have hset := hwb1.set1 ((A : Int) + 1)
   have hk2 := hwb1.kset h1s hset.2
   have HK2 := Lib.hid ((HKP.out.trans hk1).trans hk2)
   have hi2 : IBox (V1.setCell ⟨wb, 1, none⟩ (.int .i64 ((A : Int) + 1))) base ib kd n s (.slice la l.length lc) := hk2.own hi1 (by decide)
   have ho2 : (V1.setCell ⟨wb, 1, none⟩ (.int .i64 ((A : Int) + 1))).ownsRow base 5 1 (.slice ba B.length bc) B.length (bvs B) := ownsRow_only ho1 (Only.of_grown hset.2) (fun g hg e => own_apart ho1 hwb1 (by decide) g hg e)
   have HT := Lib.hid (show Pt base wb ib wr (V1.setCell ⟨wb, 1, none⟩ (.int .i64 ((A : Int) + 1))) (.slice ba B.length bc) B ((A : Int) + 1) kd n s (.slice la l.length lc) from ⟨Nat.le_trans h1s hk2.b.size, hset.1, ho2, hi2, hk1.trans hk2⟩)
   clear hV1 hk1 hi1 hwb1 ho1 hset hk2 HO0 HB0 hi2 ho2
   go_upto_region 5 with fail
   generalize V1.setCell ⟨wb, 1, none⟩ (.int .i64 ((A : Int) + 1)) = V2 at *
   obtain ⟨w0, i0, i1, i2, i3⟩ := HT.out.cells
   have w1 := HT.out.box.c1
   clear f1 e0 e1 e2 e3
   rcases hoki with ⟨rfl, hn, rfl, rfl⟩ | ⟨rfl, rfl, hs, rfl⟩ | ⟨rfl, rfl, rfl, hl⟩
   ·
    go_upto_region 12 with fail
    refine region_m [(0, false), (1, false), (2, false), (3, false), (4, false), (5, false), (6, false), (7, false), (8, true), (9, true)] 10 (fun V => V.cell? ⟨wb, 0, none⟩ = some (.slice ba B.length bc) ∧ V.cell? ⟨ib, 0, none⟩ = some (.int .i64 0)) (by kernel_rfl) (by kernel_rfl) ⟨w0, i0⟩ ?_
    iterate 8
     first
     | (
      refine m_take (v := ?_) rfl rfl ?_ ?_
      rotate_left
      ·
       intro W hW
       go_simp
       with_reducible rfl
      simp only [Act.put, List.setIfInBounds_toArray, List.set_cons_zero, List.set_cons_succ])
     | (
      refine m_skip rfl rfl ?_
      simp only [Act.put, List.setIfInBounds_toArray, List.set_cons_zero, List.set_cons_succ])
    refine m_loud rfl (fun K hK => ?_)
    have HK := Lib.hid hK
    clear hK
    go_simp
    have hka : Kp (fun e => e = 5) base V2 (V2.drew.alloc (.cells #[.int .u8 0] 5)) := (Kp.refl _ _ _).drew.trans (Kp.of_below (below_alloc V2.drew _) HT.out.sz)
    refine HK.out _ _ ⟨(HT.out.kcells hka).1, (HT.out.kcells hka).2.1⟩ ?_
    clear HK
    have HO3 := Lib.hid (show (V2.drew.alloc (.cells #[.int .u8 0] 5)).ownsRow base 5 1 (.slice ba B.length bc) B.length (bvs B) from World.ownsRow.alloc (show V2.drew.ownsRow base 5 1 (.slice ba B.length bc) B.length (bvs B) from HT.out.row) _)
    refine m_app tyU8 HO3.out (Rd.lit (n := 1) rfl (by omega)) (by simp [Value.oneCell']) (by omega) (by omega) (by omega) (Nat.le_trans HT.out.sz hka.b.size) rfl rfl rfl rfl rfl ?_
    intro g gcap V4 h2 _ h4 _
    have hkb : Kp (fun e => e = 5) base V2 V4 := hka.trans (Kp.of_grown (E := fun e => e = 5) HO3.out (Nat.le_trans HT.out.sz hka.b.size) rfl h4)
    have hr4 := own_snoc (k := 0) (by omega) (by rw [show IntKind.u8.wrap 0 = ((0 : Nat) : Int) by decide] at h2; exact h2)
    have HT5 := Lib.hid (HT.out.grow hkb (B' := B ++ [UInt8.ofNat 0]) hr4)
    have y0 := (HT.out.kcells hkb)
    have yf := (HT.out.box.kp hkb (by decide)).frz 0
    refine ⟨⟨y0.1, y0.2.1⟩, ?_⟩
    have y0 := y0.1
    clear h2 h4 hka hkb hr4 HO3
    refine m_done ?_
    simp only [List.drop_succ_cons, List.drop_zero]
    go_upto_region 13 with fail
    simp only [NP]
    clear y0 yf w0 w1 i0 i1 i2 i3
    generalize V4.setCell ⟨wb, 0, none⟩ (.slice (some ⟨g, 0, none⟩) (B.length + 1) gcap) = V5 at *
    have hBB : (B ++ [UInt8.ofNat 0]).length = B.length + 1 := by simp
    rw [← hBB] at HT5 ⊢
    have hbl5 : (B ++ [UInt8.ofNat 0]).length ≤ 100000000 := by rw [hBB]; omega
    clear hBB
    generalize hB5 : B ++ [UInt8.ofNat 0] = B5 at *
    have HB5 := Lib.hid hB5
    clear hB5
    obtain ⟨w0, i0, i1, i2, i3⟩ := HT5.out.cells
    go_upto_region 19 with fail
    have HZ := Lib.hid (zig_bits hn)
    have hzl := zig_lt hn
    refine region_m [(0, false), (1, false), (2, false), (3, false), (4, false), (5, false), (6, false), (7, false), (8, false), (9, false), (10, false), (11, false), (12, false), (13, false), (14, true)] 15 (fun V => V.cell? ⟨wb, 0, none⟩ = some (.slice (some ⟨g, 0, none⟩) B5.length gcap) ∧ V.cell? ⟨ib, 1, none⟩ = some (.int .i64 n)) (by kernel_rfl) (by kernel_rfl) ⟨w0, i1⟩ ?_
    iterate 14
     first
     | (
      refine m_take (v := ?_) rfl rfl ?_ ?_
      rotate_left
      ·
       intro W hW
       go_simp
       with_reducible rfl
      simp only [Act.put, List.setIfInBounds_toArray, List.set_cons_zero, List.set_cons_succ])
     | (
      refine m_skip rfl rfl ?_
      simp only [Act.put, List.setIfInBounds_toArray, List.set_cons_zero, List.set_cons_succ])
    refine m_loud rfl (fun K hK => ?_)
    have HK := Lib.hid hK
    clear hK
    go_simp
    rw [HZ.out]
    refine (wnumber_calls _ B5 (zig n) base V5.drew HT5.out.drew.row (by omega) (by omega) HT5.out.sz).mono ?_
    rintro e w6 ⟨v6, rfl, ho6, hk6⟩
    generalize hB6 : B5 ++ num (zig n) = B6 at *
    have HB6 := Lib.hid hB6
    clear hB6
    obtain ⟨g6, c6, rfl⟩ := own_slice ho6
    have y0 := HT5.out.drew.kcells hk6
    have yf := (HT5.out.drew.box.kp hk6 (by decide)).frz 0
    have HT7 := Lib.hid (HT5.out.drew.grow hk6 ho6)
    refine HK.out _ _ ⟨y0.1, y0.2.2.1⟩ ?_
    clear HK
    have y0 := y0.1
    clear ho6 hk6
    refine m_done ?_
    simp only [List.drop_succ_cons, List.drop_zero]
    go_wp2_with fail
    simp only [NP]
    go_wp2_with fail
    go_roundw
    case rel =>
     have e : bs ++ (is.take (k + 1)).flatMap (encI (d + 1)) = B6 := by rw [HS2.out, ← HB6.out, ← HB5.out]; simp
     exact ⟨k + 1, _, by omega, by go_num, by rw [HS1.out]; simpa using HT7.out.box, by rw [e]; exact HT7.out.row, HKP.out.trans HT7.out.kp⟩
    case measure => simp [intOf]; omega
   ·
    go_upto_region 12 with fail
    refine region_m [(0, false), (1, false), (2, false), (3, false), (4, false), (5, false), (6, false), (7, false), (8, true), (9, true)] 10 (fun V => V.cell? ⟨wb, 0, none⟩ = some (.slice ba B.length bc) ∧ V.cell? ⟨ib, 0, none⟩ = some (.int .i64 1)) (by kernel_rfl) (by kernel_rfl) ⟨w0, i0⟩ ?_
    iterate 8
     first
     | (
      refine m_take (v := ?_) rfl rfl ?_ ?_
      rotate_left
      ·
       intro W hW
       go_simp
       with_reducible rfl
      simp only [Act.put, List.setIfInBounds_toArray, List.set_cons_zero, List.set_cons_succ])
     | (
      refine m_skip rfl rfl ?_
      simp only [Act.put, List.setIfInBounds_toArray, List.set_cons_zero, List.set_cons_succ])
    refine m_loud rfl (fun K hK => ?_)
    have HK := Lib.hid hK
    clear hK
    go_simp
    have hka : Kp (fun e => e = 5) base V2 (V2.drew.alloc (.cells #[.int .u8 1] 5)) := (Kp.refl _ _ _).drew.trans (Kp.of_below (below_alloc V2.drew _) HT.out.sz)
    refine HK.out _ _ ⟨(HT.out.kcells hka).1, (HT.out.kcells hka).2.1⟩ ?_
    clear HK
    have HO3 := Lib.hid (show (V2.drew.alloc (.cells #[.int .u8 1] 5)).ownsRow base 5 1 (.slice ba B.length bc) B.length (bvs B) from World.ownsRow.alloc (show V2.drew.ownsRow base 5 1 (.slice ba B.length bc) B.length (bvs B) from HT.out.row) _)
    refine m_app tyU8 HO3.out (Rd.lit (n := 1) rfl (by omega)) (by simp [Value.oneCell']) (by omega) (by omega) (by omega) (Nat.le_trans HT.out.sz hka.b.size) rfl rfl rfl rfl rfl ?_
    intro g gcap V4 h2 _ h4 _
    have hkb : Kp (fun e => e = 5) base V2 V4 := hka.trans (Kp.of_grown (E := fun e => e = 5) HO3.out (Nat.le_trans HT.out.sz hka.b.size) rfl h4)
    have hr4 := own_snoc (k := 1) (by omega) (by rw [show IntKind.u8.wrap 1 = ((1 : Nat) : Int) by decide] at h2; exact h2)
    have HT5 := Lib.hid (HT.out.grow hkb (B' := B ++ [UInt8.ofNat 1]) hr4)
    have y0 := (HT.out.kcells hkb)
    have yf := (HT.out.box.kp hkb (by decide)).frz 0
    refine ⟨⟨y0.1, y0.2.1⟩, ?_⟩
    have y0 := y0.1
    clear h2 h4 hka hkb hr4 HO3
    refine m_done ?_
    simp only [List.drop_succ_cons, List.drop_zero]
    go_upto_region 13 with fail
    simp only [NP]
    clear y0 yf w0 w1 i0 i1 i2 i3
    generalize V4.setCell ⟨wb, 0, none⟩ (.slice (some ⟨g, 0, none⟩) (B.length + 1) gcap) = V5 at *
    have hBB : (B ++ [UInt8.ofNat 1]).length = B.length + 1 := by simp
    rw [← hBB] at HT5 ⊢
    have hbl5 : (B ++ [UInt8.ofNat 1]).length ≤ 100000000 := by rw [hBB]; omega
    clear hBB
    generalize hB5 : B ++ [UInt8.ofNat 1] = B5 at *
    have HB5 := Lib.hid hB5
    clear hB5
    obtain ⟨w0, i0, i1, i2, i3⟩ := HT5.out.cells
    go_upto_region 21 with fail
    have hzl : s.size < 18446744073709551616 := by omega
    have HZ := Lib.hid (u64_nat hzl)
    refine region_m [(0, false), (1, false), (2, false), (3, false), (4, false), (5, false), (6, false), (7, false), (8, false), (9, true)] 10 (fun V => V.cell? ⟨wb, 0, none⟩ = some (.slice (some ⟨g, 0, none⟩) B5.length gcap) ∧ V.cell? ⟨ib, 2, none⟩ = some (.string s)) (by kernel_rfl) (by kernel_rfl) ⟨w0, i2⟩ ?_
    iterate 9
     first
     | (
      refine m_take (v := ?_) rfl rfl ?_ ?_
      rotate_left
      ·
       intro W hW
       go_simp
       with_reducible rfl
      simp only [Act.put, List.setIfInBounds_toArray, List.set_cons_zero, List.set_cons_succ])
     | (
      refine m_skip rfl rfl ?_
      simp only [Act.put, List.setIfInBounds_toArray, List.set_cons_zero, List.set_cons_succ])
    refine m_loud rfl (fun K hK => ?_)
    have HK := Lib.hid hK
    clear hK
    go_simp
    rw [HZ.out]
    refine (wnumber_calls _ B5 (s.size) base V5.drew HT5.out.drew.row (by omega) (by omega) HT5.out.sz).mono ?_
    rintro e w6 ⟨v6, rfl, ho6, hk6⟩
    generalize hB6 : B5 ++ num (s.size) = B6 at *
    have HB6 := Lib.hid hB6
    clear hB6
    obtain ⟨g6, c6, rfl⟩ := own_slice ho6
    have y0 := HT5.out.drew.kcells hk6
    have yf := (HT5.out.drew.box.kp hk6 (by decide)).frz 0
    have HT7 := Lib.hid (HT5.out.drew.grow hk6 ho6)
    refine HK.out _ _ ⟨y0.1, y0.2.2.2.1⟩ ?_
    clear HK
    have y0 := y0.1
    clear ho6 hk6
    refine m_done ?_
    simp only [List.drop_succ_cons, List.drop_zero]
    go_wp2_with fail
    simp only [NP]
    clear y0 yf w0 w1 i0 i1 i2 i3
    generalize w6.setCell ⟨wb, 0, none⟩ (.slice g6 B6.length c6) = V7 at *
    obtain ⟨w0, i0, i1, i2, i3⟩ := HT7.out.cells
    have hsd : decide ((s.size : Int) ≤ 65536) = true := decide_eq_true (by omega)
    have hb6 : B6.length + s.size ≤ 100000000 := by
     have h := hs4
     rw [← HB6.out, ← HB5.out]
     have e : s.data.toList.length = s.size := by rw [Array.length_toList]; rfl
     simp [e] at h ⊢
     omega
    go_upto_region 23 with fail
    refine region_m [(0, false), (1, false), (2, false), (3, false), (4, false), (5, false), (6, false), (7, true)] 8 (fun V => V.cell? ⟨wb, 0, none⟩ = some (.slice g6 B6.length c6) ∧ V.cell? ⟨ib, 2, none⟩ = some (.string s)) (by kernel_rfl) (by kernel_rfl) ⟨w0, i2⟩ ?_
    iterate 7
     first
     | (
      refine m_take (v := ?_) rfl rfl ?_ ?_
      rotate_left
      ·
       intro W hW
       go_simp
       with_reducible rfl
      simp only [Act.put, List.setIfInBounds_toArray, List.set_cons_zero, List.set_cons_succ])
     | (
      refine m_skip rfl rfl ?_
      simp only [Act.put, List.setIfInBounds_toArray, List.set_cons_zero, List.set_cons_succ])
    have hown7 := HT7.out.drew.row
    refine m_appstr tyU8 Try.underlying9 hown7 (by omega) HT7.out.sz rfl rfl rfl rfl rfl ?_
    intro v8 w8 h2 h4
    rw [strCells_bvs, ← bvs_append] at h2
    have hk8 : Kp (fun e => e = 5) base V7 w8 := (Kp.refl _ _ _).drew.trans (Kp.of_grown (E := fun e => e = 5) hown7 HT7.out.sz rfl h4)
    have hr8 : w8.ownsRow base 5 1 v8 (B6 ++ s.data.toList).length (bvs (B6 ++ s.data.toList)) := by
     have e : s.data.toList.length = s.size := by rw [Array.length_toList]; rfl
     rw [List.length_append, e]
     exact h2
    generalize hB8 : B6 ++ s.data.toList = B8 at *
    have HB8 := Lib.hid hB8
    obtain ⟨g8, c8, rfl⟩ := own_slice hr8
    have y0 := HT7.out.kcells hk8
    have yf := (HT7.out.box.kp hk8 (by decide)).frz 0
    have HT9 := Lib.hid (HT7.out.grow hk8 hr8)
    refine ⟨⟨y0.1, y0.2.2.2.1⟩, ?_⟩
    have y0 := y0.1
    clear h2 h4 hk8 hr8 hown7 hB8
    refine m_done ?_
    simp only [List.drop_succ_cons, List.drop_zero]
    go_wp2_with fail
    simp only [NP]
    go_wp2_with fail
    go_roundw
    case rel =>
     have e : bs ++ (is.take (k + 1)).flatMap (encI (d + 1)) = B8 := by rw [HS2.out, ← HB8.out, ← HB6.out, ← HB5.out]; simp
     exact ⟨k + 1, _, by omega, by go_num, by rw [HS1.out]; simpa using HT9.out.box, by rw [e]; exact HT9.out.row, HKP.out.trans HT9.out.kp⟩
    case measure => simp [intOf]; omega
   ·
    go_upto_region 12 with fail
    refine region_m [(0, false), (1, false), (2, false), (3, false), (4, false), (5, false), (6, false), (7, false), (8, true), (9, true)] 10 (fun V => V.cell? ⟨wb, 0, none⟩ = some (.slice ba B.length bc) ∧ V.cell? ⟨ib, 0, none⟩ = some (.int .i64 2)) (by kernel_rfl) (by kernel_rfl) ⟨w0, i0⟩ ?_
    iterate 8
     first
     | (
      refine m_take (v := ?_) rfl rfl ?_ ?_
      rotate_left
      ·
       intro W hW
       go_simp
       with_reducible rfl
      simp only [Act.put, List.setIfInBounds_toArray, List.set_cons_zero, List.set_cons_succ])
     | (
      refine m_skip rfl rfl ?_
      simp only [Act.put, List.setIfInBounds_toArray, List.set_cons_zero, List.set_cons_succ])
    refine m_loud rfl (fun K hK => ?_)
    have HK := Lib.hid hK
    clear hK
    go_simp
    have hka : Kp (fun e => e = 5) base V2 (V2.drew.alloc (.cells #[.int .u8 2] 5)) := (Kp.refl _ _ _).drew.trans (Kp.of_below (below_alloc V2.drew _) HT.out.sz)
    refine HK.out _ _ ⟨(HT.out.kcells hka).1, (HT.out.kcells hka).2.1⟩ ?_
    clear HK
    have HO3 := Lib.hid (show (V2.drew.alloc (.cells #[.int .u8 2] 5)).ownsRow base 5 1 (.slice ba B.length bc) B.length (bvs B) from World.ownsRow.alloc (show V2.drew.ownsRow base 5 1 (.slice ba B.length bc) B.length (bvs B) from HT.out.row) _)
    refine m_app tyU8 HO3.out (Rd.lit (n := 1) rfl (by omega)) (by simp [Value.oneCell']) (by omega) (by omega) (by omega) (Nat.le_trans HT.out.sz hka.b.size) rfl rfl rfl rfl rfl ?_
    intro g gcap V4 h2 _ h4 _
    have hkb : Kp (fun e => e = 5) base V2 V4 := hka.trans (Kp.of_grown (E := fun e => e = 5) HO3.out (Nat.le_trans HT.out.sz hka.b.size) rfl h4)
    have hr4 := own_snoc (k := 2) (by omega) (by rw [show IntKind.u8.wrap 2 = ((2 : Nat) : Int) by decide] at h2; exact h2)
    have HT5 := Lib.hid (HT.out.grow hkb (B' := B ++ [UInt8.ofNat 2]) hr4)
    have y0 := (HT.out.kcells hkb)
    have yf := (HT.out.box.kp hkb (by decide)).frz 0
    refine ⟨⟨y0.1, y0.2.1⟩, ?_⟩
    have y0 := y0.1
    clear h2 h4 hka hkb hr4 HO3
    refine m_done ?_
    simp only [List.drop_succ_cons, List.drop_zero]
    go_upto_region 13 with fail
    simp only [NP]
    clear y0 yf w0 w1 i0 i1 i2 i3
    generalize V4.setCell ⟨wb, 0, none⟩ (.slice (some ⟨g, 0, none⟩) (B.length + 1) gcap) = V5 at *
    have hBB : (B ++ [UInt8.ofNat 2]).length = B.length + 1 := by simp
    rw [← hBB] at HT5 ⊢
    have hbl5 : (B ++ [UInt8.ofNat 2]).length ≤ 100000000 := by rw [hBB]; omega
    clear hBB
    generalize hB5 : B ++ [UInt8.ofNat 2] = B5 at *
    have HB5 := Lib.hid hB5
    clear hB5
    obtain ⟨w0, i0, i1, i2, i3⟩ := HT5.out.cells
    go_upto_region 14 with fail
    have hll := len_le_sum d l hl
    have hzl : l.length < 18446744073709551616 := by omega
    have HZ := Lib.hid (u64_nat hzl)
    refine region_m [(0, false), (1, false), (2, false), (3, false), (4, false), (5, false), (6, false), (7, false), (8, false), (9, true)] 10 (fun V => V.cell? ⟨wb, 0, none⟩ = some (.slice (some ⟨g, 0, none⟩) B5.length gcap) ∧ V.cell? ⟨ib, 3, none⟩ = some (.slice la l.length lc)) (by kernel_rfl) (by kernel_rfl) ⟨w0, i3⟩ ?_
    iterate 9
     first
     | (
      refine m_take (v := ?_) rfl rfl ?_ ?_
      rotate_left
      ·
       intro W hW
       go_simp
       with_reducible rfl
      simp only [Act.put, List.setIfInBounds_toArray, List.set_cons_zero, List.set_cons_succ])
     | (
      refine m_skip rfl rfl ?_
      simp only [Act.put, List.setIfInBounds_toArray, List.set_cons_zero, List.set_cons_succ])
    refine m_loud rfl (fun K hK => ?_)
    have HK := Lib.hid hK
    clear hK
    go_simp
    rw [HZ.out]
    refine (wnumber_calls _ B5 (l.length) base V5.drew HT5.out.drew.row (by omega) (by omega) HT5.out.sz).mono ?_
    rintro e w6 ⟨v6, rfl, ho6, hk6⟩
    generalize hB6 : B5 ++ num (l.length) = B6 at *
    have HB6 := Lib.hid hB6
    clear hB6
    obtain ⟨g6, c6, rfl⟩ := own_slice ho6
    have y0 := HT5.out.drew.kcells hk6
    have yf := (HT5.out.drew.box.kp hk6 (by decide)).frz 0
    have HT7 := Lib.hid (HT5.out.drew.grow hk6 ho6)
    refine HK.out _ _ ⟨y0.1, y0.2.2.2.2⟩ ?_
    clear HK
    have y0 := y0.1
    clear ho6 hk6
    refine m_done ?_
    simp only [List.drop_succ_cons, List.drop_zero]
    have HD1 := Lib.hid (show dp + 1 = 9 - (d : Int) by have := HDP.out; omega)
    have hdw : IntKind.i64.wrap (dp + 1) = dp + 1 := by rw [HD1.out, IntKind.wrap_i64]; omega
    go_wp2_with fail
    simp only [NP]
    clear y0 yf w0 w1 i0 i1 i2 i3
    generalize w6.setCell ⟨wb, 0, none⟩ (.slice g6 B6.length c6) = V7 at *
    obtain ⟨w0, i0, i1, i2, i3⟩ := HT7.out.cells
    have hb6 : B6.length + (l.flatMap (encI d)).length ≤ 100000000 := by
     have h := hs4
     rw [← HB6.out, ← HB5.out]
     simp at h ⊢
     omega
    go_wp2_with fail
    rw [HD1.out]
    refine (IH.out d rfl _ l base wb _ B6 (A + 1) V7 (HITL.out.below HT7.out.kp.b HP.out) HP.out hl (by omega) hb6 HT7.out.sz (by simpa using HT7.out.box) HT7.out.row).mono ?_
    rintro e w8 ⟨v8, rfl, hb8, ho8, hk8⟩
    have HB8 := Lib.hid hb8
    have HO8 := Lib.hid ho8
    have HK8 := Lib.hid hk8
    clear hb8 ho8 hk8
    go_wp2_with fail
    go_roundw
    case rel =>
     have e : bs ++ (is.take (k + 1)).flatMap (encI (d + 1)) = B6 ++ l.flatMap (encI d) := by rw [HS2.out, ← HB6.out, ← HB5.out]; simp
     exact ⟨k + 1, _, by omega, by go_num, by rw [HS1.out]; have := HB8.out; rwa [Nat.add_assoc] at this, by rw [e]; exact HO8.out, HKP.out.trans (HT7.out.kp.trans HK8.out)⟩
    case measure => simp [intOf]; omega
  ·
   obtain rfl : k = is.length := by omega
   rw [List.take_length] at hwb hown
   have HB1 := Lib.hid hwb
   have HO1 := Lib.hid hown
   have HK1 := Lib.hid hkp
   clear hlt hwb hown hkp
   go_wp2_with fail
   go_ret
   exact ⟨bv', rfl, HB1.out, HO1.out, HK1.out⟩
theorem put_calls (P : Nat → Prop) : ∀ d, d ≤ 8 → PutSpec P d
 | 0, h => put_step P 0 h (fun d' e => by omega)
 | d + 1, h => put_step P (d + 1) h (fun d' e => by cases e; exact put_calls P d (by omega))
end Go.Proofs.Ytmafnjidhjabgaa
namespace Go.Proofs.Ytmafnjidhjabgaa
open Go.RowKit Go.Shelf
set_option linter.unusedVariables false
set_option linter.unusedSimpArgs false
def Its (w : World) (d : Nat) (v : Value) (is : List Itc) : Prop := ItR (fun j => j < w.heap.size) d w v is
theorem Its.below {w w' : World} {d : Nat} {v : Value} {is : List Itc} (h : Its w d v is) (hb : Below w.heap.size w w') : Its w' d v is :=
 (ItR.below hb (fun j hj => hj) h).mono (fun j hj => Nat.lt_of_lt_of_le hj hb.size)
theorem Its.nil (w : World) (d : Nat) : Its w d (.slice none 0 0) [] := ItR.nil _ _ _
theorem Its.slice {w : World} {d : Nat} {v : Value} {is : List Itc} (h : Its w d v is) : ∃ a c, v = .slice a is.length c ∧ is.length ≤ c ∧ c ≤ 9223372036854775807 := ItR.slice h
theorem flat_iv_one {P : Nat → Prop} {d : Nat} {w : World} {xs : List Iv} (h : ∀ x ∈ xs, ItR P d w x.v x.c.l) : ∀ u ∈ flatF Iv.cells xs, u.oneCell' = true := by
 intro u hu
 obtain ⟨x, hx, hu⟩ := List.mem_flatMap.1 hu
 simp only [Iv.cells, List.mem_cons, List.not_mem_nil, or_false] at hu
 rcases hu with rfl | rfl | rfl | rfl
 · rfl
 · rfl
 · rfl
 · exact (h x hx).one
abbrev ivInt (n : Int) : Value := .agg #[.int .i64 0, .int .i64 n, .string nos, .slice none 0 0]
abbrev ivText (s : ByteArray) : Value := .agg #[.int .i64 1, .int .i64 0, .string s, .slice none 0 0]
abbrev ivList (v : Value) : Value := .agg #[.int .i64 2, .int .i64 0, .string nos, v]
theorem res_cell {P : Program} {fn : Func} {tmps : Array Value} {w : World} {a t b o : Nat} {v : Value} (hr : fn.results = #[.cell a t]) (ha : tmps.getD a undef = .pointer (some ⟨b, o, none⟩)) (hl : (loadVar t ⟨b, o, none⟩).run P w = .ok v w) : (results fn tmps).run P w = .ok v w := by
 have ha' : tmps[a]?.getD undef = .pointer (some ⟨b, o, none⟩) := by rw [← ha]; simp
 simp [results, hr, ha', hl, asAddr]
theorem res_cell2 {P : Program} {fn : Func} {tmps : Array Value} {w : World} {a t b o x : Nat} {v : Value} (hr : fn.results = #[.cell a t, .tmp x]) (ha : tmps.getD a undef = .pointer (some ⟨b, o, none⟩)) (hl : (loadVar t ⟨b, o, none⟩).run P w = .ok v w) : (results fn tmps).run P w = .ok (.tuple #[v, tmps.getD x undef]) w := by
 have ha' : tmps[a]?.getD undef = .pointer (some ⟨b, o, none⟩) := by rw [← ha]; simp
 simp [results, hr, ha', hl, asAddr]
theorem run_item {w : World} {b o : Nat} {x : Iv} (h : w.rangeAt b o (Iv.cells x)) : (loadVar 72 ⟨b, o, none⟩).run Try.prog w = .ok (.agg (Iv.cells x).toArray) w :=
 run_loadVar_mid (P := Try.prog) w b o 72 (Iv.cells x) _ h Try.underlying72 rfl (by show _ = some 4; kernel_rfl)
theorem range_box {w : World} {cs : List Value} {e : TypeId} : (w.alloc (.cells cs.toArray e)).rangeAt w.heap.size 0 cs := fun j u hj => by
 rw [Nat.zero_add]; exact box_self j u (by simpa using hj)
theorem there_box {w w' : World} {cs : Array Value} {e : TypeId} (hb : Below (w.alloc (.cells cs e)).heap.size (w.alloc (.cells cs e)) w') : w'.there w.heap.size 0 cs.size := fun j hj => by
 rw [Nat.zero_add]
 exact ⟨by rw [box_cell hb j _ (Array.getElem?_eq_getElem hj)]; rfl, box_frozen hb j⟩
theorem iv_all (x : Iv) (h : x.v.oneCell' = true) : (Iv.cells x).toArray.all (·.oneCell') = true := by
 refine all_oneCell_toArray (fun u hu => ?_)
 simp only [Iv.cells, List.mem_cons, List.not_mem_nil, or_false] at hu
 rcases hu with rfl | rfl | rfl | rfl
 · rfl
 · rfl
 · rfl
 · exact h
theorem onlyC (w : World) (b : Nat) : ∀ (vs : List Value) (o : Nat), Only (fun j => j = b) w (w.setCells b o vs)
 | [], _ => Only.refl _ _
 | v :: r, o => ((Only.refl (fun j => j = b) w).setCell ⟨b, o, none⟩ v (.inl rfl)).trans (onlyC (w.setCell ⟨b, o, none⟩ v) b r (o + 1)) (fun _ _ h => h)
theorem wint_calls (n : Int) (w : World) : Calls Try.prog 64 #[.int .i64 n] w fun e w' => e = .returned (ivInt n) ∧ Below w.heap.size w w' := by
 go_enter Try.func64, Try.ntmps64
 go_wp2_with fail
 refine bodyPost_ret (v := ivInt n) (res_cell Try.results64 rfl (run_item (x := ⟨.mk 0 n nos [], .slice none 0 0⟩) ?_)) rfl ⟨rfl, ?_⟩
 · exact range_box (cs := Iv.cells ⟨.mk 0 n nos [], .slice none 0 0⟩)
 · exact below_alloc _ _
theorem wtext_calls (s : ByteArray) (w : World) : Calls Try.prog 89 #[.string s] w fun e w' => e = .returned (ivText s) ∧ Below w.heap.size w w' := by
 go_enter Try.func89, Try.ntmps89
 go_wp2_with fail
 refine bodyPost_ret (v := ivText s) (res_cell Try.results89 rfl (run_item (x := ⟨.mk 1 0 s [], .slice none 0 0⟩) ?_)) rfl ⟨rfl, ?_⟩
 · exact range_box (cs := Iv.cells ⟨.mk 1 0 s [], .slice none 0 0⟩)
 · exact below_alloc _ _
set_option maxRecDepth 100000 in
theorem wlist_calls (d : Nat) (v : Value) (is : List Itc) (w : World) (h : Its w d v is) (hlen : is.length ≤ 1000000000) :
  Calls Try.prog 90 #[v] w fun e w' => ∃ lv, e = .returned (ivList lv) ∧ Its w' d lv is ∧ Below w.heap.size w w' := by
 obtain ⟨a, cap, rfl, hle, hcap⟩ := h.slice
 have H := Lib.hid h
 have hx : ∃ xs : List Iv, xs.map Iv.c = is ∧ Rd w 4 (.slice a is.length cap) xs.length (flatF Iv.cells xs) ∧ ∀ x ∈ xs, ItR (fun j => j < w.heap.size) (d - 1) w x.v x.c.l := by
  cases d with
  | zero => obtain ⟨h1, h2⟩ := h; subst h1; exact ⟨[], rfl, h2, fun x hx => by cases hx⟩
  | succ d => obtain ⟨xs, h1, h2, -, h4⟩ := h; exact ⟨xs, h1, h2, h4⟩
 obtain ⟨xs, hxs, hrd, hch⟩ := hx
 have hxl : xs.length = is.length := by rw [← hxs]; simp
 have HRD := Lib.hid hrd
 have HXS := Lib.hid hxs
 have HCH := Lib.hid hch
 have H1 := Lib.hid (flat_iv_one hch)
 have hx9 : xs.length ≤ 1000000000 := by omega
 have HXL := Lib.hid hxl
 rw [← hxl] at HRD ⊢
 clear h hrd hxs hch hxl
 go_enter Try.func90, Try.ntmps90
 have HBA := Lib.hid (below_alloc w (.cells #[.int .i64 0, .int .i64 0, .string nos, .slice none 0 0] 72))
 go_wp2_with (first | (at_builtin; go_loud (refine app_list tyItems (World.ownsRow_nil _ (w.heap.size + 1) _ _) (Rd.below HRD.out HBA.out (Nat.le_refl _)) H1.out (by omega) (by omega) (by simp) rfl rfl rfl rfl ?_; intro v2 w2 hm2 hg2 hn2; rw [Nat.zero_add] at hm2; obtain ⟨ga, gc, rfl⟩ := own_slice hm2; have HBB := Lib.hid ((Below.refl (w.alloc (.cells #[.int .i64 0, .int .i64 0, .string nos, .slice none 0 0] 72)).heap.size _).grown hg2 (Nat.le_refl _) (by simp [Value.ownBlock])); have HTH := Lib.hid (show w2.there w.heap.size 0 4 from there_box HBB.out); have HM2 := Lib.hid hm2; clear hm2 hg2 hn2)) | (refine wpList_store_mid rfl 72 _ _ rfl (w.heap.size) 0 (Iv.cells ⟨.mk 2 0 nos [], .slice ga xs.length gc⟩).toArray rfl rfl HTH.out (by show _ = some 4; kernel_rfl) (iv_all _ rfl) ?_) | (refine wp_store_mid 72 _ _ rfl (w.heap.size) 0 (Iv.cells ⟨.mk 2 0 nos [], .slice ga xs.length gc⟩).toArray rfl rfl HTH.out (by show _ = some 4; kernel_rfl) (iv_all _ rfl) ?_))
 have hwz := HBB.out.size
 rw [World.size_alloc] at hwz
 have hon := onlyC w2 w.heap.size (Iv.cells ⟨.mk 2 0 nos [], .slice ga xs.length gc⟩) 0
 have hb1 : Below w.heap.size w w2 := HBA.out.trans (HBB.out.mono (by rw [World.size_alloc]; omega))
 have hb2 : Below w.heap.size w (w2.setCells w.heap.size 0 (Iv.cells ⟨.mk 2 0 nos [], .slice ga xs.length gc⟩)) := hb1.trans (hon.below (by omega) (fun j hj e => by omega))
 refine bodyPost_ret (v := ivList (.slice ga xs.length gc)) (res_cell Try.results90 rfl (run_item (x := ⟨.mk 2 0 nos [], .slice ga xs.length gc⟩) ?_)) rfl ⟨_, rfl, ?_, hb2⟩
 · exact World.rangeAt_setCells_same w2 w.heap.size 0 _ HTH.out
 ·
  have hr := ownsRow_only HM2.out hon (fun g hg e => by have := (World.ownsRow.lt HM2.out g hg).1; omega)
  rw [List.nil_append] at hr
  cases d with
  | zero =>
   have h0 : is = [] := H.out.1
   subst h0
   have : xs = [] := List.length_eq_zero_iff.1 (by rw [HXL.out]; rfl)
   subst this
   exact ⟨rfl, Rd.of_own hr⟩
  | succ d => exact ⟨xs, HXS.out, Rd.of_own hr, fun a n c e hn => by
    have := World.ownsRow.lt hr a.block (by rw [e]; rfl)
    exact this.2, fun x hx => (ItR.below hb2 (fun j hj => hj) (HCH.out x hx)).mono (fun j hj => Nat.lt_of_lt_of_le hj hb2.size)⟩
end Go.Proofs.Ytmafnjidhjabgaa
namespace Go.Proofs.Ytmafnjidhjabgaa
open Go.RowKit Go.Shelf
set_option linter.unusedVariables false
set_option linter.unusedSimpArgs false
theorem wencode_calls (v : Value) (is : List Itc) (w : World) (h : Its w 8 v is) (hok : ∀ i ∈ is, okI 8 i) (hsum : (is.map (szI 8)).sum ≤ 4096) (hlen : (enc is).length ≤ 65536) :
  Calls Try.prog 66 #[v] w fun e w' => ∃ v', e = .returned (.tuple #[v', .int .i64 0]) ∧ w'.ownsRow w.heap.size 5 1 v' (enc is).length (bvs (enc is)) ∧ Below w.heap.size w w' := by
 have hba := below_alloc w (.cells #[.slice none 0 0, .int .i64 0] 159)
 have hbox : WBox (w.alloc (.cells #[.slice none 0 0, .int .i64 0] 159)) w.heap.size w.heap.size (.slice none 0 0) ((0 : Nat) : Int) :=
  World.ownsRow_lit (base := w.heap.size) (size := 2) (e := 159) w #[.slice none 0 0, .int .i64 0] 1 (Nat.le_refl _) (by unfold maxLen; omega) (by simp)
 have hput := put_calls (fun j => j < w.heap.size) 8 (by omega) v is w.heap.size w.heap.size (.slice none 0 0) [] 0 (w.alloc (.cells #[.slice none 0 0, .int .i64 0] 159))
  (ItR.below hba (fun j hj => hj) h) (fun j hj => hj) hok (by omega) (by show 0 + (is.flatMap (encI 8)).length ≤ _; have : (is.flatMap (encI 8)).length ≤ 65536 := hlen; omega) hba.size hbox (World.ownsRow_nil _ _ _ _)
 rw [show (9 - ((8 : Nat) : Int)) = 1 by decide] at hput
 have HP := Lib.hid hput
 have HBA := Lib.hid hba
 obtain ⟨a, cap, rfl, -⟩ := h.slice
 have hl : (enc is).length ≤ 65536 := hlen
 clear hput hbox hba h hok
 go_enter Try.func66, Try.ntmps66
 go_wp2_with fail
 refine HP.out.mono ?_
 rintro e w2 ⟨bv, rfl, hb2, ho2, hk2⟩
 have e1 : [] ++ is.flatMap (encI 8) = enc is := rfl
 rw [e1] at ho2
 have HO2 := Lib.hid ho2
 have HB2 := Lib.hid (HBA.out.trans hk2.b)
 obtain ⟨g, c, rfl⟩ := own_slice ho2
 have y0 := hb2.c0
 clear hb2 ho2 hk2 e1 HP
 generalize hbs : enc is = bs at *
 have HBS := Lib.hid hbs
 clear hbs
 have d1 : decide (65536 < (bs.length : Int)) = false := decide_eq_false (by omega)
 go_wp2_with fail
 go_ret2
 refine ⟨_, rfl, ?_, HB2.out⟩
 rw [HBS.out]
 exact HO2.out
def RBox (w : World) (base rb : Nat) (bv : Value) (at_ cnt : Int) : Prop := w.ownsRow base 107 3 (.slice (some ⟨rb, 0, none⟩) 1 1) 1 [bv, .int .i64 at_, .int .i64 cnt]
theorem RBox.at {w : World} {base rb : Nat} {bv : Value} {at_ cnt : Int} (h : RBox w base rb bv at_ cnt) : w.cell? ⟨rb, 0, none⟩ = some bv ∧ w.cell? ⟨rb, 1, none⟩ = some (.int .i64 at_) ∧ w.cell? ⟨rb, 2, none⟩ = some (.int .i64 cnt) := by
 have e := fun j u hj => World.ownsRow.cells h (g := rb) rfl j u hj
 simp only [add_off, Nat.zero_add] at e
 exact ⟨e 0 _ rfl, e 1 _ rfl, e 2 _ rfl⟩
theorem RBox.frz {w : World} {base rb : Nat} {bv : Value} {at_ cnt : Int} (h : RBox w base rb bv at_ cnt) (j : Nat) : w.frozen? ⟨rb, j, none⟩ = false := World.ownsRow.frozenAt h j
theorem RBox.set1 {w : World} {base rb : Nat} {bv : Value} {at_ cnt : Int} (h : RBox w base rb bv at_ cnt) (v : Int) : RBox (w.setCell ⟨rb, 1, none⟩ (.int .i64 v)) base rb bv v cnt ∧ w.grownBy (w.setCell ⟨rb, 1, none⟩ (.int .i64 v)) (some rb) := World.ownsRow.stored h 1 _
theorem RBox.set2 {w : World} {base rb : Nat} {bv : Value} {at_ cnt : Int} (h : RBox w base rb bv at_ cnt) (v : Int) : RBox (w.setCell ⟨rb, 2, none⟩ (.int .i64 v)) base rb bv at_ v ∧ w.grownBy (w.setCell ⟨rb, 2, none⟩ (.int .i64 v)) (some rb) := World.ownsRow.stored h 2 _
abbrev ER : TypeId → Prop := fun e => e = 107
theorem RBox.kset {w w' : World} {base rb : Nat} {bv : Value} {at_ cnt : Int} (h : RBox w base rb bv at_ cnt) (hb : base ≤ w.heap.size) (hg : w.grownBy w' (some rb)) : Kp ER base w w' := Kp.of_grown (E := ER) h hb rfl hg
theorem dig_bits {acc c j : Nat} (hj : j ≤ 9) (hacc : acc < 2 ^ (7 * j)) (hc : c < 256) (h9 : j = 9 → c ≤ 1) :
  bits BinOp.or IntKind.u64 (acc : Int) (IntKind.u64.wrap (IntKind.u64.wrap (bits BinOp.and IntKind.u8 (c : Int) 127) * 2 ^ (7 * j))) = ((acc + c % 128 * 2 ^ (7 * j) : Nat) : Int) := by
 have h1 := (bits_nat .u8 8 (by decide) (fun n h0 h1 => by simp [IntKind.wrap, IntKind.bits, IntKind.signed]; omega) c 127 (by omega) (by omega)).1
 have h2 : c &&& 127 = c % 128 := Nat.and_two_pow_sub_one_eq_mod c 7
 rw [h2] at h1
 have h1' : bits BinOp.and IntKind.u8 (c : Int) 127 = ((c % 128 : Nat) : Int) := h1
 have hpos : 0 < 2 ^ (7 * j) := Nat.pow_pos (by decide)
 have hlt : c % 128 * 2 ^ (7 * j) < 18446744073709551616 := by
  by_cases e : j = 9
  ·
   subst e
   have := h9 rfl
   have e2 : (2 : Nat) ^ (7 * 9) = 9223372036854775808 := by decide
   rw [e2]
   omega
  ·
   have h3 : 2 ^ (7 * j) ≤ 2 ^ 56 := Nat.pow_le_pow_right (by decide) (by omega)
   have e2 : (2 : Nat) ^ 56 = 72057594037927936 := by decide
   rw [e2] at h3
   calc c % 128 * 2 ^ (7 * j) ≤ 127 * 72057594037927936 := Nat.mul_le_mul (by omega) h3
    _ < 18446744073709551616 := by decide
 have hacc2 : acc < 18446744073709551616 := Nat.lt_of_lt_of_le hacc (by
  have h3 : 2 ^ (7 * j) ≤ 2 ^ 63 := Nat.pow_le_pow_right (by decide) (by omega)
  have e2 : (2 : Nat) ^ 63 = 9223372036854775808 := by decide
  omega)
 have hcast : ((c % 128 : Nat) : Int) * 2 ^ (7 * j) = ((c % 128 * 2 ^ (7 * j) : Nat) : Int) := by
  rw [Int.natCast_mul, Int.natCast_pow]
  rfl
 rw [h1', u64_nat (by omega), hcast, u64_nat hlt, bits_or_u64_nat _ _ hacc2 hlt, Nat.or_comm, ← Nat.shiftLeft_eq, ← Nat.shiftLeft_add_eq_or_of_lt hacc, Nat.add_comm]
theorem rd_at {l r : List UInt8} {b : UInt8} {j acc : Nat} (hj : j ≤ 9) (h : readNum l = rdN (10 - j) j acc (b :: r)) :
  ((j = 9 ∧ 1 < b.toNat) ∨ (b.toNat = 0 ∧ 0 < j) → readNum l = none) ∧
  (¬((j = 9 ∧ 1 < b.toNat) ∨ (b.toNat = 0 ∧ 0 < j)) → b.toNat < 128 → readNum l = some (acc + b.toNat % 128 * 2 ^ (7 * j), r)) ∧
  (¬((j = 9 ∧ 1 < b.toNat) ∨ (b.toNat = 0 ∧ 0 < j)) → ¬ b.toNat < 128 → readNum l = rdN (10 - (j + 1)) (j + 1) (acc + b.toNat % 128 * 2 ^ (7 * j)) r) := by
 obtain ⟨f, hf⟩ : ∃ f, 10 - j = f + 1 := ⟨9 - j, by omega⟩
 rw [hf] at h
 have e : rdN (f + 1) j acc (b :: r) = if (j = 9 ∧ 1 < b.toNat) ∨ (b.toNat = 0 ∧ 0 < j) then none else if b.toNat < 128 then some (acc + b.toNat % 128 * 2 ^ (7 * j), r) else rdN f (j + 1) (acc + b.toNat % 128 * 2 ^ (7 * j)) r := rfl
 rw [e] at h
 refine ⟨fun hb => by rw [h, if_pos hb], fun hb h1 => by rw [h, if_neg hb, if_pos h1], fun hb h1 => ?_⟩
 rw [h, if_neg hb, if_neg h1, show 10 - (j + 1) = f by omega]
theorem acc_next {acc c j : Nat} (hacc : acc < 2 ^ (7 * j)) : acc + c % 128 * 2 ^ (7 * j) < 2 ^ (7 * (j + 1)) := by
 have e : 2 ^ (7 * (j + 1)) = 128 * 2 ^ (7 * j) := by rw [show 7 * (j + 1) = 7 * j + 7 by omega, Nat.pow_add]; omega
 rw [e]
 have h1 : c % 128 ≤ 127 := by omega
 have h2 : c % 128 * 2 ^ (7 * j) ≤ 127 * 2 ^ (7 * j) := Nat.mul_le_mul_right _ h1
 omega
set_option maxHeartbeats 4000000 in
set_option maxRecDepth 100000 in
theorem wrnum_calls (bv : Value) (xs : List UInt8) (base rb : Nat) (at_ : Nat) (cnt : Int) (w : World) (hx : ∀ V, Below base w V → Bytes V bv xs) (hat : at_ ≤ xs.length) (hlen : xs.length ≤ 65536) (hbase : base ≤ w.heap.size) (hb : RBox w base rb bv at_ cnt) :
  Calls Try.prog 72 #[.pointer (some ⟨rb, 0, none⟩)] w fun e w' => ∃ (x : Nat) (cd : Int) (at' : Nat), e = .returned (.tuple #[.int .u64 x, .int .i64 cd]) ∧ RBox w' base rb bv at' cnt ∧ (Kp ER base w w' ∧ Only (fun j => j = rb) w w') ∧ at' ≤ xs.length ∧
   (match readNum (xs.drop at_) with | none => cd ≠ 0 | some (y, r) => cd = 0 ∧ x = y ∧ r = xs.drop at') := by
 have HX := Lib.hid hx
 have HB := Lib.hid hb
 obtain ⟨ba, bcap, rfl, hbc1, hbc2, -⟩ := hx w (Below.refl _ _)
 clear hx hb
 go_enter Try.func72, Try.ntmps72
 go_wp2_with fail
 refine wp_scope_straight ?_
 go_wp2_with fail
 refine wp_label ?_
 go_wp2_with fail
 go_loopw [4, 5, 6] (fun nv sv _ wr => ∃ (j acc : Nat), j ≤ 9 ∧ acc < 2 ^ (7 * j) ∧ at_ + j ≤ xs.length ∧ nv = .int .u64 acc ∧ sv = .int .i64 (7 * (j : Int)) ∧ readNum (xs.drop at_) = rdN (10 - j) j acc (xs.drop (at_ + j)) ∧ RBox wr base rb (.slice ba xs.length bcap) ((at_ + j : Nat) : Int) cnt ∧ (Kp ER base w wr ∧ Only (fun j => j = rb) w wr)) (fun _ sv _ _ => 63 - (intOf sv).toNat)
 case atStart => exact ⟨0, 0, by omega, by simp, by omega, rfl, rfl, rfl, HB.out, Kp.refl _ _ _, Only.refl _ _⟩
 case round =>
  obtain ⟨j, acc, hj, hacc, haj, rfl, rfl, hrd, hbx, hkp, hon⟩ := hrel
  have HRD := Lib.hid hrd
  have HBX := Lib.hid hbx
  have HKP := Lib.hid hkp
  have HON := Lib.hid hon
  obtain ⟨r0, r1, r2⟩ := hbx.at
  have hsz := hkp.b.size
  have HBY := Lib.hid (HX.out wr hkp.b)
  clear hrd hbx hkp hon
  generalize hP : at_ + j = p at *
  have HPP := Lib.hid hP
  clear hP
  go_upto_region 3 with fail
  refine region_m [(0, false), (1, false), (2, false), (3, false), (4, false), (5, false), (6, false), (7, false), (8, false), (9, false)] 10 (fun V => V.cell? ⟨rb, 0, none⟩ = some (.slice ba xs.length bcap) ∧ V.cell? ⟨rb, 1, none⟩ = some (.int .i64 (p : Int))) (by kernel_rfl) (by kernel_rfl) ⟨r0, r1⟩ ?_
  iterate 10
   first
   | (
     refine m_take (v := ?_) rfl rfl ?_ ?_
     rotate_left
     ·
       intro W hW
       go_simp
       with_reducible rfl
     simp only [Act.put, List.setIfInBounds_toArray, List.set_cons_zero, List.set_cons_succ])
   | (
     refine m_skip rfl rfl ?_
     simp only [Act.put, List.setIfInBounds_toArray, List.set_cons_zero, List.set_cons_succ])
  refine m_done ?_
  simp only [List.drop_succ_cons, List.drop_zero]
  go_wp2_with fail
  simp only [NP]
  by_cases hlt : p < xs.length
  ·
   have d1 : decide ((xs.length : Int) ≤ (p : Int)) = false := decide_eq_false (by omega)
   obtain ⟨a2, c2, he, hb1, hb2, hb3⟩ := HBY.out
   simp only [Value.slice.injEq, true_and] at he
   obtain ⟨rfl, rfl⟩ := he
   rcases hb3 with hb3 | ⟨bb, off, rfl, hcb⟩
   · omega
   have hc := hcb p hlt
   have hnat : p < bcap := by omega
   go_upto_region 5 with fail
   refine region_m [(0, false), (1, false), (2, false), (3, false), (4, false), (5, false), (6, false), (7, false), (8, false), (9, false), (10, false)] 11 (fun V => V.cell? ⟨rb, 0, none⟩ = some (.slice (some ⟨bb, off, none⟩) xs.length bcap) ∧ V.cell? ⟨rb, 1, none⟩ = some (.int .i64 (p : Int)) ∧ V.cell? ⟨bb, off + p, none⟩ = some (.int .u8 (bt xs p))) (by kernel_rfl) (by kernel_rfl) ⟨r0, r1, hc⟩ ?_
   iterate 11
    first
    | (
       refine m_take (v := ?_) rfl rfl ?_ ?_
       rotate_left
       ·
         intro W hW
         go_simp
         with_reducible rfl
       simp only [Act.put, List.setIfInBounds_toArray, List.set_cons_zero, List.set_cons_succ])
    | (
       refine m_skip rfl rfl ?_
       simp only [Act.put, List.setIfInBounds_toArray, List.set_cons_zero, List.set_cons_succ])
   refine m_done ?_
   simp only [List.drop_succ_cons, List.drop_zero]
   go_wp2_with fail
   simp only [NP]
   have f1 := HBX.out.frz 1
   go_upto_region 7 with fail
   obtain ⟨c, hcx⟩ : ∃ c : Nat, c = xs[p].toNat := ⟨_, rfl⟩
   have hbt : bt xs p = (c : Int) := by rw [hcx]; unfold bt; simp [hlt]
   have hc256 : c < 256 := by rw [hcx]; exact xs[p].toNat_lt
   have hdr : xs.drop p = xs[p] :: xs.drop (p + 1) := List.drop_eq_getElem_cons hlt
   have HDR := Lib.hid hdr
   have HCX := Lib.hid hcx
   rw [hbt] at hc ⊢
   clear hdr hcx hbt
   generalize hV : ((wr.setCell ⟨rb, 1, none⟩ (.int .i64 ((p : Int) + 1))).drew).drew = V at *
   have hset := HBX.out.set1 ((p : Int) + 1)
   have HBV := Lib.hid (show RBox V base rb (.slice (some ⟨bb, off, none⟩) xs.length bcap) ((p : Int) + 1) cnt by rw [← hV]; exact hset.1)
   have HKV := Lib.hid (show Kp ER base w V by rw [← hV]; exact ((HKP.out.trans (HBX.out.kset (by omega) hset.2)).drew).drew)
   have HOV := Lib.hid (show Only (fun j => j = rb) w V by rw [← hV]; exact ((HON.out.trans (Only.of_grown hset.2) (fun j _ e => by simp only [Option.some.injEq] at e; exact e.symm)).drew).drew)
   clear hV hset
   have hra := rd_at hj (HDR.out ▸ HRD.out)
   rw [← HCX.out] at hra
   have HRA := Lib.hid hra
   clear hra hc hcb
   by_cases hbad : (j = 9 ∧ 1 < c) ∨ (c = 0 ∧ 0 < j)
   ·
    have HRES := Lib.hid (HRA.out.1 hbad)
    by_cases hj9 : j = 9 ∧ 1 < c
    ·
      have e63 : (7 * (j : Int) == 63) = true := beq_iff_eq.2 (by omega)
      have ec1 : decide (1 < (c : Int)) = true := decide_eq_true (by omega)
      clear hbad hj9
      go_wp2_with fail
      simp only [Exit.noGoto_ret]
      go_ret2
      exact ⟨0, 3, p + 1, rfl, HBV.out, ⟨HKV.out, HOV.out⟩, by omega, by rw [HRES.out]; simp⟩
    ·
      have hc0 : c = 0 := by omega
      have hj0 : 0 < j := by omega
      have ec0 : ((c : Int) == 0) = true := beq_iff_eq.2 (by omega)
      have ej0 : decide (0 < 7 * (j : Int)) = true := decide_eq_true (by omega)
      by_cases h9 : j = 9
      ·
        have e63 : (7 * (j : Int) == 63) = true := beq_iff_eq.2 (by omega)
        have ec1 : decide (1 < (c : Int)) = false := decide_eq_false (by omega)
        clear hbad hj9 h9 hc0
        go_wp2_with fail
        simp only [Exit.noGoto_ret]
        go_ret2
        exact ⟨0, 3, p + 1, rfl, HBV.out, ⟨HKV.out, HOV.out⟩, by omega, by rw [HRES.out]; simp⟩
      ·
        have e63 : (7 * (j : Int) == 63) = false := beq_eq_false_iff_ne.2 (by omega)
        clear hbad hj9 h9 hc0
        go_wp2_with fail
        simp only [Exit.noGoto_ret]
        go_ret2
        exact ⟨0, 3, p + 1, rfl, HBV.out, ⟨HKV.out, HOV.out⟩, by omega, by rw [HRES.out]; simp⟩
   ·
    have HNB := Lib.hid hbad
    by_cases hj9 : j = 9
    ·
      have hc1 : c = 1 := by omega
      have HDG := Lib.hid (dig_bits hj hacc hc256 (fun _ => by omega))
      have e63 : (7 * (j : Int) == 63) = true := beq_iff_eq.2 (by omega)
      have ec1 : decide (1 < (c : Int)) = false := decide_eq_false (by omega)
      have ec0 : ((c : Int) == 0) = false := beq_eq_false_iff_ne.2 (by omega)
      clear hc1 hbad hj9
      go_upto_region 11 with fail
      rw [HDG.out]
      by_cases h128 : c < 128
      ·
        have d2 : decide ((c : Int) < 128) = true := decide_eq_true (by omega)
        have HRES := Lib.hid (HRA.out.2.1 HNB.out h128)
        generalize acc + c % 128 * 2 ^ (7 * j) = acc2 at *
        go_wp2_with fail
        simp only [Exit.noGoto_ret]
        go_ret2
        exact ⟨acc2, 0, p + 1, rfl, HBV.out, ⟨HKV.out, HOV.out⟩, by omega, by rw [HRES.out]; exact ⟨rfl, rfl, rfl⟩⟩
      ·
        have d2 : decide ((c : Int) < 128) = false := decide_eq_false (by omega)
        have HRES := Lib.hid (HRA.out.2.2 HNB.out h128)
        have HAN := Lib.hid (acc_next (c := c) hacc)
        generalize acc + c % 128 * 2 ^ (7 * j) = acc2 at *
        have hj8 : j ≤ 8 := by have := HNB.out; omega
        go_wp2_with fail
        go_roundw
        case rel => exact ⟨j + 1, acc2, by omega, HAN.out, by have := HPP.out; omega, rfl, by congr 1 <;> omega, by have := HPP.out; rw [HRES.out, ← this, Nat.add_assoc], by have := HPP.out; rw [← Nat.add_assoc, this]; exact HBV.out, HKV.out, HOV.out⟩
        case measure => simp [intOf]; omega
    ·
      have HDG := Lib.hid (dig_bits hj hacc hc256 (fun h => absurd h hj9))
      have e63 : (7 * (j : Int) == 63) = false := beq_eq_false_iff_ne.2 (by omega)
      by_cases hc0 : c = 0
      ·
        have ec0 : ((c : Int) == 0) = true := beq_iff_eq.2 (by omega)
        have ej0 : decide (0 < 7 * (j : Int)) = false := decide_eq_false (by omega)
        clear hbad hc0 hj9
        go_upto_region 11 with fail
        rw [HDG.out]
        by_cases h128 : c < 128
        ·
          have d2 : decide ((c : Int) < 128) = true := decide_eq_true (by omega)
          have HRES := Lib.hid (HRA.out.2.1 HNB.out h128)
          generalize acc + c % 128 * 2 ^ (7 * j) = acc2 at *
          go_wp2_with fail
          simp only [Exit.noGoto_ret]
          go_ret2
          exact ⟨acc2, 0, p + 1, rfl, HBV.out, ⟨HKV.out, HOV.out⟩, by omega, by rw [HRES.out]; exact ⟨rfl, rfl, rfl⟩⟩
        ·
          have d2 : decide ((c : Int) < 128) = false := decide_eq_false (by omega)
          have HRES := Lib.hid (HRA.out.2.2 HNB.out h128)
          have HAN := Lib.hid (acc_next (c := c) hacc)
          generalize acc + c % 128 * 2 ^ (7 * j) = acc2 at *
          have hj8 : j ≤ 8 := by have := HNB.out; omega
          go_wp2_with fail
          go_roundw
          case rel => exact ⟨j + 1, acc2, by omega, HAN.out, by have := HPP.out; omega, rfl, by congr 1 <;> omega, by have := HPP.out; rw [HRES.out, ← this, Nat.add_assoc], by have := HPP.out; rw [← Nat.add_assoc, this]; exact HBV.out, HKV.out, HOV.out⟩
          case measure => simp [intOf]; omega
      ·
        have ec0 : ((c : Int) == 0) = false := beq_eq_false_iff_ne.2 (by omega)
        clear hbad
        go_upto_region 11 with fail
        rw [HDG.out]
        by_cases h128 : c < 128
        ·
          have d2 : decide ((c : Int) < 128) = true := decide_eq_true (by omega)
          have HRES := Lib.hid (HRA.out.2.1 HNB.out h128)
          generalize acc + c % 128 * 2 ^ (7 * j) = acc2 at *
          go_wp2_with fail
          simp only [Exit.noGoto_ret]
          go_ret2
          exact ⟨acc2, 0, p + 1, rfl, HBV.out, ⟨HKV.out, HOV.out⟩, by omega, by rw [HRES.out]; exact ⟨rfl, rfl, rfl⟩⟩
        ·
          have d2 : decide ((c : Int) < 128) = false := decide_eq_false (by omega)
          have HRES := Lib.hid (HRA.out.2.2 HNB.out h128)
          have HAN := Lib.hid (acc_next (c := c) hacc)
          generalize acc + c % 128 * 2 ^ (7 * j) = acc2 at *
          have hj8 : j ≤ 8 := by have := HNB.out; omega
          go_wp2_with fail
          go_roundw
          case rel => exact ⟨j + 1, acc2, by omega, HAN.out, by have := HPP.out; omega, rfl, by congr 1 <;> omega, by have := HPP.out; rw [HRES.out, ← this, Nat.add_assoc], by have := HPP.out; rw [← Nat.add_assoc, this]; exact HBV.out, HKV.out, HOV.out⟩
          case measure => simp [intOf]; omega
  ·
   have d1 : decide ((xs.length : Int) ≤ (p : Int)) = true := decide_eq_true (by omega)
   have HRES := Lib.hid (show readNum (xs.drop at_) = none by
    rw [HRD.out, List.drop_of_length_le (by omega), show 10 - j = (9 - j) + 1 by omega]
    rfl)
   go_wp2_with fail
   simp only [Exit.noGoto_ret]
   go_ret2
   exact ⟨0, 5, p, rfl, HBX.out, ⟨HKP.out.drew, HON.out.drew⟩, by omega, by rw [HRES.out]; simp⟩
end Go.Proofs.Ytmafnjidhjabgaa
namespace Go.Proofs.Ytmafnjidhjabgaa
open Go.RowKit Go.Shelf
set_option linter.unusedVariables false
set_option linter.unusedSimpArgs false
theorem decN_bound {f : List UInt8 → Nat → Option (Itc × List UInt8 × Nat)} (hf : ∀ r c i r' c', f r c = some (i, r', c') → c < c' ∧ c' ≤ 4096) :
  ∀ (n : Nat) (r : List UInt8) (c : Nat) (l : List Itc) (r' : List UInt8) (c' : Nat), c ≤ 4096 → decN f n r c = some (l, r', c') → c + n ≤ c' ∧ c' ≤ 4096 ∧ l.length = n
 | 0, r, c, l, r', c', hc, h => by
  simp only [decN, Option.some.injEq, Prod.mk.injEq] at h
  obtain ⟨rfl, rfl, rfl⟩ := h
  exact ⟨by omega, hc, rfl⟩
 | n + 1, r, c, l, r', c', hc, h => by
  unfold decN at h
  split at h
  · cases h
  ·
   rename_i i r1 c1 h1
   have h2 := hf _ _ _ _ _ h1
   split at h
   · cases h
   ·
    rename_i l2 r2 c2 h3
    have h4 := decN_bound hf n r1 c1 l2 r2 c2 h2.2 h3
    simp only [Option.some.injEq, Prod.mk.injEq] at h
    obtain ⟨rfl, rfl, rfl⟩ := h
    exact ⟨by omega, h4.2.1, by simp [h4.2.2]⟩
theorem decI_bound : ∀ (d : Nat) (r : List UInt8) (c : Nat) (i : Itc) (r' : List UInt8) (c' : Nat), decI d r c = some (i, r', c') → c < c' ∧ c' ≤ 4096
 | 0, _, _, _, _, _, h => by cases h
 | d + 1, r, c, i, r', c', h => by
  unfold decI at h
  split at h
  · cases h
  ·
   rename_i hc
   split at h
   · cases h
   ·
    split at h
    · cases h
    ·
     split at h
     · cases h
     ·
      unfold decK at h
      split at h
      ·
       simp only [Option.some.injEq, Prod.mk.injEq] at h
       omega
      ·
       split at h
       · cases h
       ·
        split at h
        ·
         split at h
         · cases h
         ·
          simp only [Option.some.injEq, Prod.mk.injEq] at h
          omega
        ·
         split at h
         · cases h
         ·
          rename_i l r3 c3 h3
          have := decN_bound (decI_bound d) _ _ _ _ _ _ (by omega) h3
          simp only [Option.some.injEq, Prod.mk.injEq] at h
          omega
def ItemRes (d : Nat) (w w' : World) (xs : List UInt8) (x : Iv) (cd : Int) (at_ at' cnt cnt' : Nat) : Prop := match decI d (xs.drop at_) cnt with
 | none => cd ≠ 0
 | some (i, r, c) => cd = 0 ∧ x.c = i ∧ ItR (fun j => w.heap.size ≤ j ∧ j < w'.heap.size) d w' x.v i.l ∧ r = xs.drop at' ∧ cnt' = c
def ItemSpec (d : Nat) : Prop := ∀ (bv : Value) (xs : List UInt8) (base rb at_ cnt : Nat) (w : World), (∀ V, Below base w V → Bytes V bv xs) → at_ ≤ xs.length → xs.length ≤ 65536 → cnt ≤ 4096 → base ≤ w.heap.size → RBox w base rb bv at_ cnt →
 Calls Try.prog 47 #[.pointer (some ⟨rb, 0, none⟩), .int .i64 (9 - (d : Int))] w fun e w' => ∃ (x : Iv) (cd : Int) (at' cnt' : Nat), e = .returned (.tuple #[.agg (Iv.cells x).toArray, .int .i64 cd]) ∧ (∃ a n c, x.v = .slice a n c) ∧ RBox w' base rb bv at' cnt' ∧ (Kp ER base w w' ∧ Only (fun j => j = rb) w w') ∧ at' ≤ xs.length ∧ ItemRes d w w' xs x cd at_ at' cnt cnt'
theorem i64_xor_zero (a : Nat) (ha : a < 9223372036854775808) : bits .xor .i64 (a : Int) 0 = (a : Int) := by
 show IntKind.i64.wrap ((BitVec.ofInt 64 (a : Int) ^^^ BitVec.ofInt 64 0).toNat : Int) = _
 have h1 : BitVec.ofInt 64 0 = 0#64 := by decide
 rw [h1, BitVec.xor_zero, ofInt_u64 a (by omega)]
 simp [IntKind.wrap, IntKind.bits, IntKind.signed]
 omega
theorem i64_xor_neg (a : Nat) (ha : a < 9223372036854775808) : bits .xor .i64 (a : Int) (-1) = -1 - (a : Int) := by
 show IntKind.i64.wrap ((BitVec.ofInt 64 (a : Int) ^^^ BitVec.ofInt 64 (-1)).toNat : Int) = _
 rw [BitVec.xor_comm]
 exact i64_not a ha
theorem unzig_bits {x : Nat} (hx : x < 18446744073709551616) : bits BinOp.xor IntKind.i64 (wrap64 ((x : Int) / 2)) (wrap64 (-wrap64 (bits BinOp.and IntKind.u64 (x : Int) 1))) = unzig x := by
 have h1 : bits BinOp.and IntKind.u64 (x : Int) 1 = ((x % 2 : Nat) : Int) := by
  have := bits_and_u64_nat x 1 hx (by omega)
  rw [Nat.and_one_is_mod] at this
  exact this
 have h2 : wrap64 ((x : Int) / 2) = ((x / 2 : Nat) : Int) := by unfold wrap64; omega
 rw [h1, h2]
 unfold unzig
 by_cases h : x % 2 = 0
 · rw [h, if_pos rfl, show wrap64 (-wrap64 ((0 : Nat) : Int)) = 0 by unfold wrap64; omega, i64_xor_zero _ (by omega)]
 ·
  rw [show x % 2 = 1 by omega, if_neg (by omega), show wrap64 (-wrap64 ((1 : Nat) : Int)) = -1 by unfold wrap64; omega, i64_xor_neg _ (by omega)]
  omega
theorem rdN_lt : ∀ (f j n : Nat) (r : List UInt8) (x : Nat) (r' : List UInt8), f + j = 10 → n < 2 ^ (7 * j) → rdN f j n r = some (x, r') → x < 18446744073709551616
 | 0, _, _, _, _, _, _, _, h => by cases h
 | _ + 1, _, _, [], _, _, _, _, h => by cases h
 | f + 1, j, n, b :: r, x, r', hf, hn, h => by
  have e : rdN (f + 1) j n (b :: r) = if (j = 9 ∧ 1 < b.toNat) ∨ (b.toNat = 0 ∧ 0 < j) then none else if b.toNat < 128 then some (n + b.toNat % 128 * 2 ^ (7 * j), r) else rdN f (j + 1) (n + b.toNat % 128 * 2 ^ (7 * j)) r := rfl
  rw [e] at h
  split at h
  · cases h
  ·
   rename_i hb
   split at h
   ·
    simp only [Option.some.injEq, Prod.mk.injEq] at h
    obtain ⟨rfl, -⟩ := h
    by_cases e9 : j = 9
    ·
     subst e9
     have e2 : (2 : Nat) ^ (7 * 9) = 9223372036854775808 := by decide
     rw [e2] at hn ⊢
     omega
    ·
     have h1 := acc_next (c := b.toNat) hn
     have h3 : 2 ^ (7 * (j + 1)) ≤ 2 ^ 63 := Nat.pow_le_pow_right (by decide) (by omega)
     have e2 : (2 : Nat) ^ 63 = 9223372036854775808 := by decide
     omega
   · exact rdN_lt f (j + 1) _ r x r' (by omega) (acc_next hn) h
theorem readNum_lt {r r' : List UInt8} {x : Nat} (h : readNum r = some (x, r')) : x < 18446744073709551616 := rdN_lt 10 0 0 r x r' rfl (by simp) h
section
variable {P : Program} {l : List Oper} {Q : Exit → Act → World → Prop} {S : World → Prop} {T : Act → World → Prop} {i : Nat} {o : Oper} {π : List (Nat × Bool)} {a : Act} {w : World}
theorem m_bstr {x : Operand} {src dst e : TypeId} {v : Value} {ys : List UInt8} (hs : P.underlying src = some (.slice e)) (he : P.underlying e = some (.int .u8)) (hd : P.underlying dst = some .string)
  (ho : l[i]? = some o) (hw : Region.wanted o (yielded l.toArray a.tmps) = true) (hop : o.op = .convert src dst x) (hx : a.eval x = v) (hc : ∀ W, S W → Bytes W v ys)
  (h : wpM P l.toArray Q S T π (a.put o.dst (.string (bstr ys))) w) : wpM P l.toArray Q S T ((i, false) :: π) a w :=
 m_take ho hw (fun W hW => by
  have := run_bytes_str (P := P) hs he hd (hc W hW)
  simp [execOp, hop, hx, this, Result.andThen]) h
end
abbrev zeroIv : Iv := ⟨.mk 0 0 nos [], .slice none 0 0⟩
theorem Kp.new {E : TypeId → Prop} {base : Nat} {w W W' : World} (h : Kp E base w W) (ho : Only (fun j => w.heap.size ≤ j) W W') (hb : base ≤ w.heap.size) : Kp E base w W' := by
 have hz := h.b.size
 refine ⟨h.b.trans (ho.below (by omega) (fun j hj e => by omega)), fun j cs e x hj hE => ?_⟩
 have hl := (Array.getElem?_eq_some_iff.1 hj).1
 exact (ho.block j (by omega) (by omega)).trans (h.k j cs e x hj hE)
structure RS (base rb : Nat) (bv : Value) (w W : World) (at_ cnt : Int) : Prop where
 sz : w.heap.size < W.heap.size
 hb : base ≤ w.heap.size
 hrb : rb < w.heap.size
 box : RBox W base rb bv at_ cnt
 res : W.ownsRow base 72 4 (.slice (some ⟨w.heap.size, 0, none⟩) 1 1) 1 (Iv.cells zeroIv)
 kp : Kp ER base w W
 on : Only (fun j => j = rb) w W
theorem some_eq {j rb : Nat} (e : some rb = some j) : j = rb := by simp only [Option.some.injEq] at e; exact e.symm
theorem RS.set1 {base rb : Nat} {bv : Value} {w W : World} {at_ cnt : Int} (h : RS base rb bv w W at_ cnt) (v : Int) : RS base rb bv w (W.setCell ⟨rb, 1, none⟩ (.int .i64 v)) v cnt := by
 have hs := h.box.set1 v
 have hk := h.box.kset (by have := h.sz; have := h.hb; omega) hs.2
 exact ⟨Nat.lt_of_lt_of_le h.sz hk.b.size, h.hb, h.hrb, hs.1, hk.own h.res (by decide), h.kp.trans hk, h.on.trans (Only.of_grown hs.2) (fun j _ e => some_eq e)⟩
theorem RS.set2 {base rb : Nat} {bv : Value} {w W : World} {at_ cnt : Int} (h : RS base rb bv w W at_ cnt) (v : Int) : RS base rb bv w (W.setCell ⟨rb, 2, none⟩ (.int .i64 v)) at_ v := by
 have hs := h.box.set2 v
 have hk := h.box.kset (by have := h.sz; have := h.hb; omega) hs.2
 exact ⟨Nat.lt_of_lt_of_le h.sz hk.b.size, h.hb, h.hrb, hs.1, hk.own h.res (by decide), h.kp.trans hk, h.on.trans (Only.of_grown hs.2) (fun j _ e => some_eq e)⟩
theorem RS.drew {base rb : Nat} {bv : Value} {w W : World} {at_ cnt : Int} (h : RS base rb bv w W at_ cnt) : RS base rb bv w W.drew at_ cnt := ⟨h.sz, h.hb, h.hrb, h.box, h.res, h.kp.drew, h.on.drew⟩
theorem RS.call {base rb : Nat} {bv : Value} {w W W' : World} {at_ cnt at' cnt' : Int} (h : RS base rb bv w W at_ cnt) (hk : Kp ER base W W' ∧ Only (fun j => j = rb) W W') (hb : RBox W' base rb bv at' cnt') : RS base rb bv w W' at' cnt' :=
 ⟨Nat.lt_of_lt_of_le h.sz hk.1.b.size, h.hb, h.hrb, hb, hk.1.own h.res (by decide), h.kp.trans hk.1, h.on.trans hk.2 (fun j _ e => e)⟩
theorem RS.alloc {base rb : Nat} {bv : Value} {w W : World} {at_ cnt : Int} (h : RS base rb bv w W at_ cnt) (o : Obj) : RS base rb bv w (W.alloc o) at_ cnt :=
 ⟨by rw [World.size_alloc]; have := h.sz; omega, h.hb, h.hrb, World.ownsRow.alloc h.box o, World.ownsRow.alloc h.res o, h.kp.trans (Kp.of_below (below_alloc W o) (by have := h.sz; have := h.hb; omega)), h.on.alloc o⟩
theorem RS.new {base rb : Nat} {bv : Value} {w W W' : World} {at_ cnt : Int} {S : Nat → Prop} (h : RS base rb bv w W at_ cnt) (ho : Only S W W') (hS : ∀ j, S j → w.heap.size < j) : RS base rb bv w W' at_ cnt :=
 ⟨Nat.lt_of_lt_of_le h.sz ho.size, h.hb, h.hrb, ownsRow_only h.box ho (fun g hg e => by simp only [Value.ownBlock, Option.some.injEq] at hg; have := hS g e; have := h.hrb; omega), ownsRow_only h.res ho (fun g hg e => by simp only [Value.ownBlock, Option.some.injEq] at hg; have := hS g e; omega), h.kp.new (ho.weak (fun j _ hj => by have := hS j hj; omega)) h.hb, h.on.trans ho (fun j hj e => by have := hS j e; omega)⟩
theorem RS.there {base rb : Nat} {bv : Value} {w W : World} {at_ cnt : Int} (h : RS base rb bv w W at_ cnt) : W.there w.heap.size 0 4 := fun j hj => by
 rw [Nat.zero_add]
 exact ⟨own_there' h.res j (by omega), World.ownsRow.frozenAt h.res j⟩
theorem RS.fin {base rb : Nat} {bv : Value} {w W : World} {at_ cnt : Int} (h : RS base rb bv w W at_ cnt) (x : Iv) :
  RBox (W.setCells w.heap.size 0 (Iv.cells x)) base rb bv at_ cnt ∧ (Kp ER base w (W.setCells w.heap.size 0 (Iv.cells x)) ∧ Only (fun j => j = rb) w (W.setCells w.heap.size 0 (Iv.cells x))) ∧ (loadVar 72 ⟨w.heap.size, 0, none⟩).run Try.prog (W.setCells w.heap.size 0 (Iv.cells x)) = .ok (.agg (Iv.cells x).toArray) (W.setCells w.heap.size 0 (Iv.cells x)) := by
 have ho := onlyC W w.heap.size (Iv.cells x) 0
 have hr := h.hrb
 refine ⟨ownsRow_only h.box ho (fun g hg e => ?_), ⟨h.kp.new (ho.weak (fun j _ hj => by omega)) h.hb, h.on.trans ho (fun j hj e => by omega)⟩, run_item (World.rangeAt_setCells_same W w.heap.size 0 (Iv.cells x) h.there)⟩
 simp only [Value.ownBlock, Option.some.injEq] at hg
 omega
structure WLs (base rb ib c d x at2 cnt : Nat) (bv : Value) (xs : List UInt8) (w wr : World) (j : Nat) (l : List Iv) (lv : Value) (p cj : Nat) : Prop where
 len : l.length = j
 jx : j ≤ x
 le : p ≤ xs.length
 c1 : cnt + 1 + j ≤ cj
 c2 : cj ≤ 4096
 h1 : w.heap.size < ib
 h2 : ib < wr.heap.size
 rs : RS base rb bv w wr p cj
 it : IBox wr ib ib c 0 nos lv
 row : wr.ownsRow (ib + 1) 72 4 lv j (flatF Iv.cells l)
 kids : ∀ y ∈ l, ItR (fun b => ib < b ∧ b < wr.heap.size ∧ lv.ownBlock ≠ some b) d wr y.v y.c.l
 dec : decN (decI d) x (xs.drop at2) (cnt + 1) = match decN (decI d) (x - j) (xs.drop p) cj with
  | none => none
  | some (l2, r2, c2) => some (l.map Iv.c ++ l2, r2, c2)
theorem WLs.start {base rb ib c d x at2 cnt : Nat} {bv : Value} {xs : List UInt8} {w wr : World} (hle : at2 ≤ xs.length) (hc : cnt < 4096) (h1 : w.heap.size < ib) (h2 : ib < wr.heap.size) (hr : RS base rb bv w wr at2 ((cnt + 1 : Nat) : Int)) (hi : IBox wr ib ib c 0 nos (.slice none 0 0)) :
  WLs base rb ib c d x at2 cnt bv xs w wr 0 [] (.slice none 0 0) at2 (cnt + 1) := by
 refine ⟨rfl, by omega, hle, by omega, by omega, h1, h2, hr, hi, World.ownsRow_nil _ _ _ _, (fun y hy => by cases hy), ?_⟩
 rw [Nat.sub_zero]
 cases decN (decI d) x (xs.drop at2) (cnt + 1) with
 | none => rfl
 | some z => rfl
theorem WLs.bad {base rb ib c d x at2 cnt : Nat} {bv : Value} {xs : List UInt8} {w wr : World} {j : Nat} {l : List Iv} {lv : Value} {p cj : Nat} (h : WLs base rb ib c d x at2 cnt bv xs w wr j l lv p cj) (hj : j < x) (hd : decI d (xs.drop p) cj = none) : decN (decI d) x (xs.drop at2) (cnt + 1) = none := by
 rw [h.dec, show x - j = (x - (j + 1)) + 1 by omega]
 unfold decN
 rw [hd]
theorem WLs.all {base rb ib c d x at2 cnt : Nat} {bv : Value} {xs : List UInt8} {w wr : World} {l : List Iv} {lv : Value} {p cj : Nat} (h : WLs base rb ib c d x at2 cnt bv xs w wr x l lv p cj) : decN (decI d) x (xs.drop at2) (cnt + 1) = some (l.map Iv.c, xs.drop p, cj) := by
 rw [h.dec, Nat.sub_self]
 show some (l.map Iv.c ++ [], xs.drop p, cj) = _
 rw [List.append_nil]
theorem WLs.next {base rb ib c d x at2 cnt : Nat} {bv : Value} {xs : List UInt8} {w wr : World} {j : Nat} {l : List Iv} {lv : Value} {p cj : Nat} (h : WLs base rb ib c d x at2 cnt bv xs w wr j l lv p cj) (hj : j < x) {y : Iv} {w5 w7 w8 : World} {p' c' : Nat}
  (hd : decI d (xs.drop p) cj = some (y.c, xs.drop p', c')) (hle : p' ≤ xs.length) (hk : Kp ER base wr w5 ∧ Only (fun j => j = rb) wr w5) (hb : RBox w5 base rb bv p' c') (hI : ItR (fun b => wr.heap.size ≤ b ∧ b < w5.heap.size) d w5 y.v y.c.l)
  (h57 : ∃ A B, w7 = (w5.alloc A).alloc B) {lv' : Value} (ho : w8.ownsRow (ib + 1) 72 4 lv' (j + 1) (flatF Iv.cells l ++ Iv.cells y)) (hg : w7.grownBy w8 lv.ownBlock) (hf : ∀ g, lv'.ownBlock = some g → lv.ownBlock = some g ∨ w7.heap.size ≤ g) :
  WLs base rb ib c d x at2 cnt bv xs w (w8.setCell ⟨ib, 3, none⟩ lv') (j + 1) (l ++ [y]) lv' p' c' := by
 obtain ⟨A, B, rfl⟩ := h57
 have hbd := decI_bound d _ _ _ _ _ hd
 have z1 := hk.1.b.size
 have z2 := hg.size
 rw [World.size_alloc, World.size_alloc] at z2
 have r5 := h.rs.call hk hb
 have r7 := (r5.alloc A).alloc B
 have hlv : ∀ g, lv.ownBlock = some g → ib + 1 ≤ g ∧ g < wr.heap.size := fun g e => World.ownsRow.lt h.row g e
 have hh1 := h.h1
 have hh2 := h.h2
 have r8 := r7.new (Only.of_grown hg) (fun j e => by have := (hlv j e).1; omega)
 have i5 : IBox w5 ib ib c 0 nos lv := hk.1.own h.it (by decide)
 have i7 : IBox ((w5.alloc A).alloc B) ib ib c 0 nos lv := World.ownsRow.alloc (World.ownsRow.alloc i5 _) _
 have i8 : IBox w8 ib ib c 0 nos lv := ownsRow_only i7 (Only.of_grown hg) (fun g hg' e => by simp only [Value.ownBlock, Option.some.injEq] at hg'; have := (hlv g e).1; omega)
 have hst := World.ownsRow.stored i8 3 lv'
 have ho9 := Only.of_grown hst.2
 have zs : (w8.setCell ⟨ib, 3, none⟩ lv').heap.size = w8.heap.size := by simp [World.setCell]
 refine ⟨by rw [List.length_append, h.len]; rfl, by omega, hle, by have := h.c1; omega, hbd.2, h.h1, by omega, r8.new ho9 (fun j e => by simp only [Option.some.injEq] at e; omega), hst.1, ?_, fun y' hy => ?_, ?_⟩
 ·
  rw [flatF_append, flatF_one]
  exact ownsRow_only ho ho9 (fun g e1 e2 => by have := (World.ownsRow.lt ho g e1).1; simp only [Option.some.injEq] at e2; omega)
 ·
  have hnew : ∀ b, b < w5.heap.size → lv.ownBlock ≠ some b → lv'.ownBlock ≠ some b := fun b h1 h2 e => by
   rcases hf b e with h3 | h3
   · exact h2 h3
   · rw [World.size_alloc, World.size_alloc] at h3; omega
  have hb57 : Below w5.heap.size w5 ((w5.alloc A).alloc B) := below_box (below_alloc w5 A) B
  rcases List.mem_append.1 hy with hy | hy
  ·
   have k5 := ItR.only hk.2 (fun b hp e => by have := h.rs.hrb; omega) (h.kids y' hy)
   have k7 := ItR.only (Only.of_below (S := fun _ => False) hb57) (fun _ _ e => e) k5
   have k8 := ItR.only (Only.of_grown hg) (fun b hp e => hp.2.2 e) k7
   have k9 := ItR.only ho9 (fun b hp e => by simp only [Option.some.injEq] at e; omega) k8
   exact k9.mono (fun b hp => ⟨hp.1, by omega, hnew b (by omega) hp.2.2⟩)
  ·
   rw [List.mem_singleton] at hy
   subst hy
   have hne : ∀ b, wr.heap.size ≤ b → lv.ownBlock ≠ some b := fun b hb e => by have := (hlv b e).2; omega
   have k7 := ItR.only (Only.of_below (S := fun _ => False) hb57) (fun _ _ e => e) hI
   have k8 := ItR.only (Only.of_grown hg) (fun b hp e => hne b hp.1 e) k7
   have k9 := ItR.only ho9 (fun b hp e => by simp only [Option.some.injEq] at e; omega) k8
   exact k9.mono (fun b hp => ⟨by omega, by omega, hnew b hp.2 (hne b hp.1)⟩)
 ·
  rw [h.dec, show x - j = (x - (j + 1)) + 1 by omega]
  have e : decN (decI d) (x - (j + 1) + 1) (xs.drop p) cj = match decI d (xs.drop p) cj with
    | none => none
    | some (i, r', c') => match decN (decI d) (x - (j + 1)) r' c' with
     | none => none
     | some (l, r'', c'') => some (i :: l, r'', c'') := rfl
  rw [e, hd]
  simp only
  cases decN (decI d) (x - (j + 1)) (xs.drop p') c' with
  | none => rfl
  | some z => obtain ⟨l2, r2, c2⟩ := z; simp
set_option maxHeartbeats 40000000 in
set_option maxRecDepth 100000 in
theorem item_step (d : Nat) (hd8 : d ≤ 8) (ih : ∀ d', d = d' + 1 → ItemSpec d') : ItemSpec d := by
 intro bv xs base rb at_ cnt w hx hat hlen hcnt hbase hb
 have HX := Lib.hid hx
 have HB := Lib.hid hb
 have IH := Lib.hid ih
 obtain ⟨ba, bcap, rfl, hbc1, hbc2, -⟩ := hx w (Below.refl _ _)
 obtain ⟨dp, hdp⟩ : ∃ dp : Int, dp = 9 - (d : Int) := ⟨_, rfl⟩
 rw [← hdp]
 have HDP := Lib.hid hdp
 have hrs : RS base rb (.slice ba xs.length bcap) w (w.alloc (.cells #[.int .i64 0, .int .i64 0, .string nos, .slice none 0 0] 72)) at_ cnt :=
  ⟨by simp, hbase, by have := World.block_lt_of_cell? _ _ hb.at.1; exact this, World.ownsRow.alloc hb _, World.ownsRow_lit (base := base) (size := 4) (e := 72) w #[.int .i64 0, .int .i64 0, .string nos, .slice none 0 0] 1 hbase (by unfold maxLen; omega) (by simp), Kp.of_below (below_alloc w _) hbase, Only.of_below (below_alloc w _)⟩
 obtain ⟨r0, r1, r2⟩ := hrs.box.at
 have f2 := hrs.box.frz 2
 have HR1 := Lib.hid (hrs.set2 ((cnt : Int) + 1))
 clear hx hb ih hdp hrs
 go_enter Try.func47, Try.ntmps47
 go_upto_region 2 with fail
 generalize hV : (w.alloc (.cells #[.int .i64 0, .int .i64 0, .string nos, .slice none 0 0] 72)).setCell ⟨rb, 2, none⟩ (.int .i64 ((cnt : Int) + 1)) = V1 at *
 clear hV r0 r1 r2 f2
 obtain ⟨r0, r1, r2⟩ := HR1.out.box.at
 cases d with
 | zero =>
  have e8 : decide (8 < dp) = true := decide_eq_true (by have := HDP.out; omega)
  by_cases h96 : 4096 ≤ cnt
  ·
   have e96 : decide (4096 < (cnt : Int) + 1) = true := decide_eq_true (by omega)
   have HTH := Lib.hid HR1.out.there
   have HFN := Lib.hid (HR1.out.fin zeroIv)
   go_wp2_with (first | (refine wpList_store_mid rfl 72 _ _ rfl (w.heap.size) 0 (Iv.cells zeroIv).toArray rfl rfl HTH.out (by show _ = some 4; kernel_rfl) (iv_all _ rfl) ?_) | (refine wp_store_mid 72 _ _ rfl (w.heap.size) 0 (Iv.cells zeroIv).toArray rfl rfl HTH.out (by show _ = some 4; kernel_rfl) (iv_all _ rfl) ?_))
   refine bodyPost_ret (v := .tuple #[.agg (Iv.cells zeroIv).toArray, .int .i64 (2)]) (res_cell2 Try.results47 rfl HFN.out.2.2) rfl ⟨zeroIv, 2, _, _, rfl, ⟨_, _, _, rfl⟩, HFN.out.1, HFN.out.2.1, hat, ?_⟩
   unfold ItemRes decI
   simp
  ·
   have e96 : decide (4096 < (cnt : Int) + 1) = false := decide_eq_false (by omega)
   have HTH := Lib.hid HR1.out.there
   have HFN := Lib.hid (HR1.out.fin zeroIv)
   go_wp2_with (first | (refine wpList_store_mid rfl 72 _ _ rfl (w.heap.size) 0 (Iv.cells zeroIv).toArray rfl rfl HTH.out (by show _ = some 4; kernel_rfl) (iv_all _ rfl) ?_) | (refine wp_store_mid 72 _ _ rfl (w.heap.size) 0 (Iv.cells zeroIv).toArray rfl rfl HTH.out (by show _ = some 4; kernel_rfl) (iv_all _ rfl) ?_))
   refine bodyPost_ret (v := .tuple #[.agg (Iv.cells zeroIv).toArray, .int .i64 (2)]) (res_cell2 Try.results47 rfl HFN.out.2.2) rfl ⟨zeroIv, 2, _, _, rfl, ⟨_, _, _, rfl⟩, HFN.out.1, HFN.out.2.1, hat, ?_⟩
   unfold ItemRes decI
   simp
 | succ d =>
  have e8 : decide (8 < dp) = false := decide_eq_false (by have := HDP.out; omega)
  by_cases h96 : 4096 ≤ cnt
  ·
   have e96 : decide (4096 < (cnt : Int) + 1) = true := decide_eq_true (by omega)
   have HTH := Lib.hid HR1.out.there
   have HFN := Lib.hid (HR1.out.fin zeroIv)
   go_wp2_with (first | (refine wpList_store_mid rfl 72 _ _ rfl (w.heap.size) 0 (Iv.cells zeroIv).toArray rfl rfl HTH.out (by show _ = some 4; kernel_rfl) (iv_all _ rfl) ?_) | (refine wp_store_mid 72 _ _ rfl (w.heap.size) 0 (Iv.cells zeroIv).toArray rfl rfl HTH.out (by show _ = some 4; kernel_rfl) (iv_all _ rfl) ?_))
   refine bodyPost_ret (v := .tuple #[.agg (Iv.cells zeroIv).toArray, .int .i64 (2)]) (res_cell2 Try.results47 rfl HFN.out.2.2) rfl ⟨zeroIv, 2, _, _, rfl, ⟨_, _, _, rfl⟩, HFN.out.1, HFN.out.2.1, hat, ?_⟩
   unfold ItemRes decI
   rw [if_pos h96]
   simp
  ·
   have e96 : decide (4096 < (cnt : Int) + 1) = false := decide_eq_false (by omega)
   go_upto_region 4 with fail
   refine region_m [(0, false), (1, false), (2, false), (3, false), (4, false), (5, false), (6, false), (7, false), (8, false), (9, false)] 10 (fun V => V.cell? ⟨rb, 0, none⟩ = some (.slice ba xs.length bcap) ∧ V.cell? ⟨rb, 1, none⟩ = some (.int .i64 (at_ : Int))) (by kernel_rfl) (by kernel_rfl) ⟨r0, r1⟩ ?_
   iterate 10
    first
    | (
      refine m_take (v := ?_) rfl rfl ?_ ?_
      rotate_left
      ·
        intro W hW
        go_simp
        with_reducible rfl
      simp only [Act.put, List.setIfInBounds_toArray, List.set_cons_zero, List.set_cons_succ])
    | (
      refine m_skip rfl rfl ?_
      simp only [Act.put, List.setIfInBounds_toArray, List.set_cons_zero, List.set_cons_succ])
   refine m_done ?_
   simp only [List.drop_succ_cons, List.drop_zero]
   go_wp2_with fail
   simp only [NP]
   by_cases hlt : at_ < xs.length
   ·
    have d1 : decide ((xs.length : Int) ≤ (at_ : Int)) = false := decide_eq_false (by omega)
    have hby := HX.out V1 HR1.out.kp.b
    obtain ⟨a2, c2, he, hb1, hb2, hb3⟩ := hby
    simp only [Value.slice.injEq, true_and] at he
    obtain ⟨rfl, rfl⟩ := he
    rcases hb3 with hb3 | ⟨bb, off, rfl, hcb⟩
    · omega
    have hc := hcb at_ hlt
    have hnat : at_ < bcap := by omega
    obtain ⟨c, hcx⟩ : ∃ c : Nat, c = xs[at_].toNat := ⟨_, rfl⟩
    have hbt : bt xs at_ = (c : Int) := by rw [hcx]; unfold bt; simp [hlt]
    have hc256 : c < 256 := by rw [hcx]; exact xs[at_].toNat_lt
    rw [hbt] at hc
    have HD := Lib.hid (show decI (d + 1) (xs.drop at_) cnt = if 2 < c then none else match readNum (xs.drop (at_ + 1)) with
       | none => none
       | some (n, r2) => decK (decI d) c n r2 (cnt + 1) by
     rw [List.drop_eq_getElem_cons hlt, hcx]
     show (if 4096 ≤ cnt then none else if 2 < xs[at_].toNat then none else match readNum (xs.drop (at_ + 1)) with
       | none => none
       | some (n, r2) => decK (decI d) xs[at_].toNat n r2 (cnt + 1)) = _
     rw [if_neg h96])
    have hcw : IntKind.i64.wrap (c : Int) = (c : Int) := by rw [IntKind.wrap_i64]; omega
    clear hcb hbt hcx
    go_upto_region 6 with fail
    refine region_m [(0, false), (1, false), (2, false), (3, false), (4, false), (5, false), (6, false), (7, false), (8, false), (9, false), (10, false), (11, false)] 12 (fun V => V.cell? ⟨rb, 0, none⟩ = some (.slice (some ⟨bb, off, none⟩) xs.length bcap) ∧ V.cell? ⟨rb, 1, none⟩ = some (.int .i64 (at_ : Int)) ∧ V.cell? ⟨bb, off + at_, none⟩ = some (.int .u8 (c : Int))) (by kernel_rfl) (by kernel_rfl) ⟨r0, r1, hc⟩ ?_
    iterate 12
     first
     | (
        refine m_take (v := ?_) rfl rfl ?_ ?_
        rotate_left
        ·
          intro W hW
          go_simp
          with_reducible rfl
        simp only [Act.put, List.setIfInBounds_toArray, List.set_cons_zero, List.set_cons_succ])
     | (
        refine m_skip rfl rfl ?_
        simp only [Act.put, List.setIfInBounds_toArray, List.set_cons_zero, List.set_cons_succ])
    refine m_done ?_
    simp only [List.drop_succ_cons, List.drop_zero]
    go_wp2_with fail
    simp only [NP]
    have f1 := HR1.out.box.frz 1
    have HR3 := Lib.hid (((HR1.out.set1 ((at_ : Int) + 1)).drew).drew)
    go_upto_region 8 with fail
    generalize ((V1.setCell ⟨rb, 1, none⟩ (.int .i64 ((at_ : Int) + 1))).drew).drew = V2 at *
    clear r0 r1 r2 f1 hc
    by_cases hk2 : 2 < c
    ·
     have ek : decide (2 < (c : Int)) = true := decide_eq_true (by omega)
     have HTH := Lib.hid HR3.out.there
     have HFN := Lib.hid (HR3.out.fin zeroIv)
     go_wp2_with (first | (refine wpList_store_mid rfl 72 _ _ rfl (w.heap.size) 0 (Iv.cells zeroIv).toArray rfl rfl HTH.out (by show _ = some 4; kernel_rfl) (iv_all _ rfl) ?_) | (refine wp_store_mid 72 _ _ rfl (w.heap.size) 0 (Iv.cells zeroIv).toArray rfl rfl HTH.out (by show _ = some 4; kernel_rfl) (iv_all _ rfl) ?_))
     refine bodyPost_ret (v := .tuple #[.agg (Iv.cells zeroIv).toArray, .int .i64 (3)]) (res_cell2 Try.results47 rfl HFN.out.2.2) rfl ⟨zeroIv, 3, _, _, rfl, ⟨_, _, _, rfl⟩, HFN.out.1, HFN.out.2.1, (show at_ + 1 ≤ xs.length by omega), ?_⟩
     unfold ItemRes
     rw [HD.out, if_pos hk2]
     simp
    ·
     have ek : decide (2 < (c : Int)) = false := decide_eq_false (by omega)
     go_wp2_with fail
     refine (wrnum_calls _ xs base rb (at_ + 1) ((cnt : Int) + 1) V2 (fun V hV => HX.out V (HR3.out.kp.b.trans hV)) (by omega) hlen (by have := HR3.out.sz; omega) (by simpa using HR3.out.box)).mono ?_
     rintro e w3 ⟨x, cd, at2, rfl, hb3, hk3, hle, hm⟩
     have HR4 := Lib.hid (HR3.out.call hk3 hb3)
     have HD := HD
     cases hrn : readNum (xs.drop (at_ + 1)) with
     | none =>
       rw [hrn] at hm HD
       have hcd : (cd != 0) = true := by simpa using hm
       have HM := Lib.hid hm
       clear hrn hm hb3 hk3
       have HTH := Lib.hid HR4.out.there
       have HFN := Lib.hid (HR4.out.fin zeroIv)
       go_wp2_with (first | (refine wpList_store_mid rfl 72 _ _ rfl (w.heap.size) 0 (Iv.cells zeroIv).toArray rfl rfl HTH.out (by show _ = some 4; kernel_rfl) (iv_all _ rfl) ?_) | (refine wp_store_mid 72 _ _ rfl (w.heap.size) 0 (Iv.cells zeroIv).toArray rfl rfl HTH.out (by show _ = some 4; kernel_rfl) (iv_all _ rfl) ?_))
       refine bodyPost_ret (v := .tuple #[.agg (Iv.cells zeroIv).toArray, .int .i64 (cd)]) (res_cell2 Try.results47 rfl HFN.out.2.2) rfl ⟨zeroIv, cd, _, _, rfl, ⟨_, _, _, rfl⟩, HFN.out.1, HFN.out.2.1, hle, ?_⟩
       unfold ItemRes
       rw [HD.out, if_neg hk2]
       exact HM.out
     | some z =>
       obtain ⟨y, rr⟩ := z
       have hxl := readNum_lt hrn
       rw [hrn] at hm HD
       simp only at hm HD
       obtain ⟨rfl, hxy, hrr⟩ := hm
       rw [if_neg hk2, ← hxy, hrr] at HD
       have HD := Lib.hid HD
       rw [← hxy] at hxl
       have HXL := Lib.hid hxl
       clear hxy hrr hxl
       clear hrn hb3 hk3
       go_upto_region 14 with fail
       have HR5 := Lib.hid (HR4.out.alloc (.cells #[.int .i64 c, .int .i64 0, .string nos, .slice none 0 0] 72))
       have hi5 : IBox (w3.alloc (.cells #[.int .i64 c, .int .i64 0, .string nos, .slice none 0 0] 72)) w3.heap.size w3.heap.size c 0 nos (.slice none 0 0) := IBox.new (Nat.le_refl _)
       have hib := HR4.out.sz
       have hrbi : rb ≠ w3.heap.size := fun e => by
         have := World.block_lt_of_cell? _ _ HR4.out.box.at.1
         simp only at this
         omega
       obtain ⟨ib, hibe⟩ : ∃ ib, ib = w3.heap.size := ⟨_, rfl⟩
       rw [← hibe] at hi5 hib hrbi ⊢
       have HI5 := Lib.hid hi5
       clear hi5
       generalize hV : w3.alloc (.cells #[.int .i64 c, .int .i64 0, .string nos, .slice none 0 0] 72) = V5 at *
       have hV5 : ib < V5.heap.size := by rw [← hV, World.size_alloc]; omega
       clear hV hibe
       obtain ⟨r0, r1, r2⟩ := HR5.out.box.at
       obtain ⟨i0, i1, i2, i3⟩ := HI5.out.at
       have fi := fun j => World.ownsRow.frozenAt HI5.out j
       by_cases hc0 : c = 0
       ·
         have e0 : ((c : Int) == 0) = true := beq_iff_eq.2 (by omega)
         have HD0 := Lib.hid (show decI (d + 1) (xs.drop at_) cnt = some (.mk (c : Int) (unzig x) nos [], xs.drop at2, cnt + 1) by
           rw [HD.out, hc0]; rfl)
         clear hc0
         have fi1 := fi 1
         have HUZ := Lib.hid (unzig_bits HXL.out)
         clear fi
         go_upto_region 16 with fail
         rw [HUZ.out]
         have hst := World.ownsRow.stored HI5.out 1 (.int .i64 (unzig x))
         have HI6 := Lib.hid (show IBox (V5.setCell ⟨ib, 1, none⟩ (.int .i64 (unzig x))) ib ib c (unzig x) nos (.slice none 0 0) from hst.1)
         have HR6 := Lib.hid (HR5.out.new (Only.of_grown hst.2) (fun j e => by simp only [Option.some.injEq] at e; omega))
         generalize V5.setCell ⟨ib, 1, none⟩ (.int .i64 (unzig x)) = V6 at *
         clear hst i0 i1 i2 i3
         obtain ⟨i0, i1, i2, i3⟩ := HI6.out.at
         have HTH := Lib.hid HR6.out.there
         have HFN := Lib.hid (HR6.out.fin ⟨.mk c (unzig x) nos [], .slice none 0 0⟩)
         go_wp2_with (first | (refine wpList_store_mid rfl 72 _ _ rfl (w.heap.size) 0 (Iv.cells ⟨.mk c (unzig x) nos [], .slice none 0 0⟩).toArray rfl rfl HTH.out (by show _ = some 4; kernel_rfl) (iv_all _ rfl) ?_) | (refine wp_store_mid 72 _ _ rfl (w.heap.size) 0 (Iv.cells ⟨.mk c (unzig x) nos [], .slice none 0 0⟩).toArray rfl rfl HTH.out (by show _ = some 4; kernel_rfl) (iv_all _ rfl) ?_))
         refine bodyPost_ret (v := .tuple #[.agg (Iv.cells ⟨.mk c (unzig x) nos [], .slice none 0 0⟩).toArray, .int .i64 0]) (res_cell2 Try.results47 rfl HFN.out.2.2) rfl ⟨⟨.mk c (unzig x) nos [], .slice none 0 0⟩, 0, _, _, rfl, ⟨_, _, _, rfl⟩, HFN.out.1, HFN.out.2.1, hle, ?_⟩
         unfold ItemRes
         rw [HD0.out]
         exact ⟨rfl, rfl, ItR.nil _ _ _, rfl, rfl⟩
       ·
         have e0 : ((c : Int) == 0) = false := beq_eq_false_iff_ne.2 (by omega)
         by_cases hbig : 9223372036854775807 < x
         ·
           have eb : decide (9223372036854775807 < (x : Int)) = true := decide_eq_true (by omega)
           have HD0 := Lib.hid (show decI (d + 1) (xs.drop at_) cnt = none by
            rw [HD.out]; unfold decK; rw [if_neg hc0, if_pos hbig])
           clear hc0 hbig
           have HTH := Lib.hid HR5.out.there
           have HFN := Lib.hid (HR5.out.fin zeroIv)
           go_wp2_with (first | (refine wpList_store_mid rfl 72 _ _ rfl (w.heap.size) 0 (Iv.cells zeroIv).toArray rfl rfl HTH.out (by show _ = some 4; kernel_rfl) (iv_all _ rfl) ?_) | (refine wp_store_mid 72 _ _ rfl (w.heap.size) 0 (Iv.cells zeroIv).toArray rfl rfl HTH.out (by show _ = some 4; kernel_rfl) (iv_all _ rfl) ?_))
           refine bodyPost_ret (v := .tuple #[.agg (Iv.cells zeroIv).toArray, .int .i64 (3)]) (res_cell2 Try.results47 rfl HFN.out.2.2) rfl ⟨zeroIv, 3, _, _, rfl, ⟨_, _, _, rfl⟩, HFN.out.1, HFN.out.2.1, hle, ?_⟩
           unfold ItemRes
           rw [HD0.out]
           simp
         ·
           have eb : decide (9223372036854775807 < (x : Int)) = false := decide_eq_false (by omega)
           have hxw : IntKind.i64.wrap (x : Int) = (x : Int) := by rw [IntKind.wrap_i64]; omega
           by_cases hc1 : c = 1
           ·
            have e1 : ((c : Int) == 1) = true := beq_iff_eq.2 (by omega)
            have hsw : IntKind.i64.wrap ((xs.length : Int) - (at2 : Int)) = (xs.length : Int) - (at2 : Int) := by rw [IntKind.wrap_i64]; omega
            have haw : IntKind.i64.wrap ((at2 : Int) + (x : Int)) = (at2 : Int) + (x : Int) ∨ True := .inr trivial
            clear haw
            go_upto_region 20 with fail
            refine region_m [(0, false), (1, false), (2, false), (3, false), (4, false), (5, false), (6, false), (7, false), (8, false), (9, false), (10, false), (11, false), (12, false)] 13 (fun V => V.cell? ⟨rb, 0, none⟩ = some (.slice (some ⟨bb, off, none⟩) xs.length bcap) ∧ V.cell? ⟨rb, 1, none⟩ = some (.int .i64 (at2 : Int))) (by kernel_rfl) (by kernel_rfl) ⟨r0, r1⟩ ?_
            iterate 13
             first
             | (
               refine m_take (v := ?_) rfl rfl ?_ ?_
               rotate_left
               ·
                 intro W hW
                 go_simp
                 with_reducible rfl
               simp only [Act.put, List.setIfInBounds_toArray, List.set_cons_zero, List.set_cons_succ])
             | (
               refine m_skip rfl rfl ?_
               simp only [Act.put, List.setIfInBounds_toArray, List.set_cons_zero, List.set_cons_succ])
            refine m_done ?_
            simp only [List.drop_succ_cons, List.drop_zero]
            go_wp2_with fail
            simp only [NP]
            by_cases hlong : xs.length - at2 < x
            ·
             have el : decide ((xs.length : Int) - (at2 : Int) < (x : Int)) = true := decide_eq_true (by omega)
             have HD0 := Lib.hid (show decI (d + 1) (xs.drop at_) cnt = none by
              rw [HD.out]; unfold decK; rw [if_neg hc0, if_neg hbig, if_pos hc1, if_pos (by rw [List.length_drop]; exact hlong)])
             clear hc0 hbig hc1
             have HTH := Lib.hid HR5.out.drew.there
             have HFN := Lib.hid (HR5.out.drew.fin zeroIv)
             go_wp2_with (first | (refine wpList_store_mid rfl 72 _ _ rfl (w.heap.size) 0 (Iv.cells zeroIv).toArray rfl rfl HTH.out (by show _ = some 4; kernel_rfl) (iv_all _ rfl) ?_) | (refine wp_store_mid 72 _ _ rfl (w.heap.size) 0 (Iv.cells zeroIv).toArray rfl rfl HTH.out (by show _ = some 4; kernel_rfl) (iv_all _ rfl) ?_))
             refine bodyPost_ret (v := .tuple #[.agg (Iv.cells zeroIv).toArray, .int .i64 (5)]) (res_cell2 Try.results47 rfl HFN.out.2.2) rfl ⟨zeroIv, 5, _, _, rfl, ⟨_, _, _, rfl⟩, HFN.out.1, HFN.out.2.1, hle, ?_⟩
             unfold ItemRes
             rw [HD0.out]
             simp
            ·
             have el : decide ((xs.length : Int) - (at2 : Int) < (x : Int)) = false := decide_eq_false (by omega)
             have HD0 := Lib.hid (show decI (d + 1) (xs.drop at_) cnt = some (.mk (c : Int) 0 (bstr ((xs.drop at2).take x)) [], xs.drop (at2 + x), cnt + 1) by
              rw [HD.out]; unfold decK; rw [if_neg hc0, if_neg hbig, if_pos hc1, if_neg (by rw [List.length_drop]; exact hlong), hc1, List.drop_drop]; rfl)
             clear hc0 hbig hc1
             go_upto_region 22 with fail
             refine region_m [(0, false), (1, false), (2, false), (3, false), (4, false), (5, false), (6, false), (7, false), (8, false), (9, false), (10, false), (11, false), (12, false), (13, false), (14, false), (15, false), (16, false)] 17 (fun V => V.cell? ⟨rb, 0, none⟩ = some (.slice (some ⟨bb, off, none⟩) xs.length bcap) ∧ V.cell? ⟨rb, 1, none⟩ = some (.int .i64 (at2 : Int)) ∧ Bytes V (.slice (some ⟨bb, off, none⟩) xs.length bcap) xs) (by kernel_rfl) (by kernel_rfl) ⟨r0, r1, HX.out V5.drew.drew HR5.out.drew.drew.kp.b⟩ ?_
             obtain ⟨q, hq⟩ : ∃ q, q = at2 + x := ⟨_, rfl⟩
             have hax : IntKind.i64.wrap ((at2 : Int) + (x : Int)) = (q : Int) := by rw [IntKind.wrap_i64]; omega
             have hqx : q - at2 = x := by omega
             have hq1 : at2 ≤ q := by omega
             have hq2 : q ≤ bcap := by omega
             have hq3 : (q : Int) ≤ (bcap : Int) := by omega
             have HQ := Lib.hid hq
             clear hq
             iterate 15
              first
              | (
                 refine m_take (v := ?_) rfl rfl ?_ ?_
                 rotate_left
                 ·
                   intro W hW
                   go_simp
                   with_reducible rfl
                 simp only [Act.put, List.setIfInBounds_toArray, List.set_cons_zero, List.set_cons_succ])
              | (
                 refine m_skip rfl rfl ?_
                 simp only [Act.put, List.setIfInBounds_toArray, List.set_cons_zero, List.set_cons_succ])
             have fi2 := fi 2
             clear fi
             by_cases hcm : bcap = at2
             ·
              have hx0 : x = 0 := by omega
              have HX0 := Lib.hid hx0
              clear hx0
              obtain rfl := hcm.symm
              iterate 1
                first
                | (
                   refine m_take (v := ?_) rfl rfl ?_ ?_
                   rotate_left
                   ·
                    intro W hW
                    go_simp
                    with_reducible rfl
                   simp only [Act.put, List.setIfInBounds_toArray, List.set_cons_zero, List.set_cons_succ])
                | (
                   refine m_skip rfl rfl ?_
                   simp only [Act.put, List.setIfInBounds_toArray, List.set_cons_zero, List.set_cons_succ])
              refine m_bstr Try.underlying46 Try.underlying5 Try.underlying9 rfl rfl rfl rfl (ys := (xs.drop at2).take x) (fun W hW => ?_) ?_
              ·
                rw [HX0.out, List.take_zero]
                exact ⟨_, _, rfl, by simp, by omega, .inr ⟨_, _, rfl, fun i hi => by simp at hi⟩⟩
              simp only [Act.put, List.setIfInBounds_toArray, List.set_cons_zero, List.set_cons_succ]
              refine m_done ?_
              simp only [List.drop_succ_cons, List.drop_zero]
              go_wp2_with fail
              simp only [NP]
              have hst := World.ownsRow.stored HI5.out 2 (.string (bstr ((xs.drop at2).take x)))
              have HI7 := Lib.hid (show IBox ((V5.setCell ⟨ib, 2, none⟩ (.string (bstr ((xs.drop at2).take x)))).drew.drew) ib ib c 0 (bstr ((xs.drop at2).take x)) (.slice none 0 0) from hst.1)
              have HR7 := Lib.hid (HR5.out.new (Only.of_grown hst.2) (fun j e => by simp only [Option.some.injEq] at e; omega)).drew.drew
              generalize ((V5.setCell ⟨ib, 2, none⟩ (.string (bstr ((xs.drop at2).take x)))).drew).drew = V7 at *
              clear hst r0 r1 r2 i0 i1 i2 i3
              obtain ⟨r0, r1, r2⟩ := HR7.out.box.at
              have f1 := HR7.out.box.frz 1
              have HR8 := Lib.hid (HR7.out.set1 (q : Int))
              have hk8 := HR7.out.box.set1 (q : Int)
              have HI8 := Lib.hid (show IBox (V7.setCell ⟨rb, 1, none⟩ (.int .i64 (q : Int))) ib ib c 0 (bstr ((xs.drop at2).take x)) (.slice none 0 0) from ownsRow_only HI7.out (Only.of_grown hk8.2) (fun g hg e => by simp only [Value.ownBlock, Option.some.injEq] at hg e; omega))
              clear hk8
              go_upto_region 24 with fail
              generalize V7.setCell ⟨rb, 1, none⟩ (.int .i64 (q : Int)) = V8 at *
              clear r0 r1 r2 f1
              obtain ⟨i0, i1, i2, i3⟩ := HI8.out.at
              have HTH := Lib.hid HR8.out.there
              have HFN := Lib.hid (HR8.out.fin ⟨.mk c 0 (bstr ((xs.drop at2).take x)) [], .slice none 0 0⟩)
              go_wp2_with (first | (refine wpList_store_mid rfl 72 _ _ rfl (w.heap.size) 0 (Iv.cells ⟨.mk c 0 (bstr ((xs.drop at2).take x)) [], .slice none 0 0⟩).toArray rfl rfl HTH.out (by show _ = some 4; kernel_rfl) (iv_all _ rfl) ?_) | (refine wp_store_mid 72 _ _ rfl (w.heap.size) 0 (Iv.cells ⟨.mk c 0 (bstr ((xs.drop at2).take x)) [], .slice none 0 0⟩).toArray rfl rfl HTH.out (by show _ = some 4; kernel_rfl) (iv_all _ rfl) ?_))
              refine bodyPost_ret (v := .tuple #[.agg (Iv.cells ⟨.mk c 0 (bstr ((xs.drop at2).take x)) [], .slice none 0 0⟩).toArray, .int .i64 0]) (res_cell2 Try.results47 rfl HFN.out.2.2) rfl ⟨⟨.mk c 0 (bstr ((xs.drop at2).take x)) [], .slice none 0 0⟩, 0, _, _, rfl, ⟨_, _, _, rfl⟩, HFN.out.1, HFN.out.2.1, (show q ≤ xs.length by omega), ?_⟩
              unfold ItemRes
              rw [HD0.out, HQ.out]
              exact ⟨rfl, rfl, ItR.nil _ _ _, rfl, rfl⟩
             ·
              skip
              iterate 1
                first
                | (
                   refine m_take (v := ?_) rfl rfl ?_ ?_
                   rotate_left
                   ·
                    intro W hW
                    go_simp
                    with_reducible rfl
                   simp only [Act.put, List.setIfInBounds_toArray, List.set_cons_zero, List.set_cons_succ])
                | (
                   refine m_skip rfl rfl ?_
                   simp only [Act.put, List.setIfInBounds_toArray, List.set_cons_zero, List.set_cons_succ])
              refine m_bstr Try.underlying46 Try.underlying5 Try.underlying9 rfl rfl rfl rfl (ys := (xs.drop at2).take x) (fun W hW => ?_) ?_
              · exact hW.2.2.sub at2 x (bcap - at2) (by omega) (by omega) (by omega)
              simp only [Act.put, List.setIfInBounds_toArray, List.set_cons_zero, List.set_cons_succ]
              refine m_done ?_
              simp only [List.drop_succ_cons, List.drop_zero]
              go_wp2_with fail
              simp only [NP]
              have hst := World.ownsRow.stored HI5.out 2 (.string (bstr ((xs.drop at2).take x)))
              have HI7 := Lib.hid (show IBox ((V5.setCell ⟨ib, 2, none⟩ (.string (bstr ((xs.drop at2).take x)))).drew.drew) ib ib c 0 (bstr ((xs.drop at2).take x)) (.slice none 0 0) from hst.1)
              have HR7 := Lib.hid (HR5.out.new (Only.of_grown hst.2) (fun j e => by simp only [Option.some.injEq] at e; omega)).drew.drew
              generalize ((V5.setCell ⟨ib, 2, none⟩ (.string (bstr ((xs.drop at2).take x)))).drew).drew = V7 at *
              clear hst r0 r1 r2 i0 i1 i2 i3
              obtain ⟨r0, r1, r2⟩ := HR7.out.box.at
              have f1 := HR7.out.box.frz 1
              have HR8 := Lib.hid (HR7.out.set1 (q : Int))
              have hk8 := HR7.out.box.set1 (q : Int)
              have HI8 := Lib.hid (show IBox (V7.setCell ⟨rb, 1, none⟩ (.int .i64 (q : Int))) ib ib c 0 (bstr ((xs.drop at2).take x)) (.slice none 0 0) from ownsRow_only HI7.out (Only.of_grown hk8.2) (fun g hg e => by simp only [Value.ownBlock, Option.some.injEq] at hg e; omega))
              clear hk8
              go_upto_region 24 with fail
              generalize V7.setCell ⟨rb, 1, none⟩ (.int .i64 (q : Int)) = V8 at *
              clear r0 r1 r2 f1
              obtain ⟨i0, i1, i2, i3⟩ := HI8.out.at
              have HTH := Lib.hid HR8.out.there
              have HFN := Lib.hid (HR8.out.fin ⟨.mk c 0 (bstr ((xs.drop at2).take x)) [], .slice none 0 0⟩)
              go_wp2_with (first | (refine wpList_store_mid rfl 72 _ _ rfl (w.heap.size) 0 (Iv.cells ⟨.mk c 0 (bstr ((xs.drop at2).take x)) [], .slice none 0 0⟩).toArray rfl rfl HTH.out (by show _ = some 4; kernel_rfl) (iv_all _ rfl) ?_) | (refine wp_store_mid 72 _ _ rfl (w.heap.size) 0 (Iv.cells ⟨.mk c 0 (bstr ((xs.drop at2).take x)) [], .slice none 0 0⟩).toArray rfl rfl HTH.out (by show _ = some 4; kernel_rfl) (iv_all _ rfl) ?_))
              refine bodyPost_ret (v := .tuple #[.agg (Iv.cells ⟨.mk c 0 (bstr ((xs.drop at2).take x)) [], .slice none 0 0⟩).toArray, .int .i64 0]) (res_cell2 Try.results47 rfl HFN.out.2.2) rfl ⟨⟨.mk c 0 (bstr ((xs.drop at2).take x)) [], .slice none 0 0⟩, 0, _, _, rfl, ⟨_, _, _, rfl⟩, HFN.out.1, HFN.out.2.1, (show q ≤ xs.length by omega), ?_⟩
              unfold ItemRes
              rw [HD0.out, HQ.out]
              exact ⟨rfl, rfl, ItR.nil _ _ _, rfl, rfl⟩
           ·
            have e1 : ((c : Int) == 1) = false := beq_eq_false_iff_ne.2 (by omega)
            have hc2 : c = 2 := by omega
            have HDL := Lib.hid (show decI (d + 1) (xs.drop at_) cnt = match decN (decI d) x (xs.drop at2) (cnt + 1) with
              | none => none
              | some (l, r', c') => some (.mk (c : Int) 0 nos l, r', c') by
             rw [HD.out]; unfold decK; rw [if_neg hc0, if_neg hbig, if_neg hc1, hc2]; rfl)
            have HD1 := Lib.hid (show dp + 1 = 9 - (d : Int) by have := HDP.out; omega)
            have hdw : IntKind.i64.wrap (dp + 1) = dp + 1 := by rw [HD1.out, IntKind.wrap_i64]; omega
            have HST := Lib.hid (WLs.start (x := x) (d := d) hle (by omega : cnt < 4096) hib hV5 (by have := HR5.out; simpa using this) HI5.out)
            have hx63 : x ≤ 9223372036854775807 := by omega
            clear hc0 hc1 hbig hc2 fi r0 r1 r2 i0 i1 i2 i3
            go_wp2_with fail
            go_loopw [10, 11, 135] (fun _ _ jv wr => ∃ (j : Nat) (l : List Iv) (lv : Value) (p cj : Nat), jv = .int .u64 j ∧ WLs base rb ib c d x at2 cnt (.slice (some ⟨bb, off, none⟩) xs.length bcap) xs w wr j l lv p cj) (fun _ _ jv _ => x - (intOf jv).toNat)
            case atStart => exact ⟨0, [], _, _, _, rfl, HST.out⟩
            case round =>
             obtain ⟨j, l, lv, p, cj, rfl, hs⟩ := hrel
             have HS := Lib.hid hs
             have hjx := hs.jx
             have hpl := hs.le
             have hcj := hs.c2
             have hjc := hs.c1
             obtain ⟨la, lc, rfl⟩ := own_slice hs.row
             clear hs
             by_cases hj : j < x
             ·
              have ej : decide ((j : Int) < (x : Int)) = true := decide_eq_true (by omega)
              go_wp2_with fail
              rw [HD1.out]
              refine (IH.out d rfl _ xs base rb p cj wr (fun V hV => HX.out V (HS.out.rs.kp.b.trans hV)) hpl hlen hcj (by have := HS.out.rs.sz; omega) HS.out.rs.box).mono ?_
              rintro e w5 ⟨y, cd, p', c', rfl, hyv, hb5, hk5, hle5, hres⟩
              obtain ⟨⟨yk, yn, ys, yl⟩, yv⟩ := y
              obtain ⟨ya, yln, yc, hyv⟩ := hyv
              simp only at hyv
              subst hyv
              have HB5 := Lib.hid hb5
              have HK5 := Lib.hid hk5
              unfold ItemRes at hres
              cases hdi : decI d (xs.drop p) cj with
              | none =>
                rw [hdi] at hres
                have hcd : (cd != 0) = true := by simpa using hres
                have HM := Lib.hid hres
                have HBAD := Lib.hid (HS.out.bad hj hdi)
                have HR6 := Lib.hid ((HS.out.rs.call hk5 hb5).alloc (.cells #[.int .i64 yk, .int .i64 yn, .string ys, .slice ya yln yc] 72))
                clear hres hb5 hk5 hdi
                simp only [Iv.cells, Itc.k, Itc.n, Itc.s]
                have HTH := Lib.hid HR6.out.there
                have HFN := Lib.hid (HR6.out.fin zeroIv)
                go_wp2_with (first | (refine wpList_store_mid rfl 72 _ _ rfl (w.heap.size) 0 (Iv.cells zeroIv).toArray rfl rfl HTH.out (by show _ = some 4; kernel_rfl) (iv_all _ rfl) ?_) | (refine wp_store_mid 72 _ _ rfl (w.heap.size) 0 (Iv.cells zeroIv).toArray rfl rfl HTH.out (by show _ = some 4; kernel_rfl) (iv_all _ rfl) ?_))
                refine bodyPost_ret (v := .tuple #[.agg (Iv.cells zeroIv).toArray, .int .i64 cd]) (res_cell2 Try.results47 rfl HFN.out.2.2) rfl ⟨zeroIv, cd, rfl, ⟨_, _, _, rfl⟩, p', c', HFN.out.1, HFN.out.2.1, hle5, ?_⟩
                unfold ItemRes
                rw [HDL.out, HBAD.out]
                exact HM.out
              | some z =>
                obtain ⟨zi, zr, zc⟩ := z
                rw [hdi] at hres
                obtain ⟨rfl, hyc, hIy, hrr, hcc⟩ := hres
                simp only at hyc hIy
                subst hyc hrr hcc
                have HDI := Lib.hid hdi
                have HIY := Lib.hid hIy
                have hrow5 : w5.ownsRow (ib + 1) 72 4 (.slice la j lc) j (flatF Iv.cells l) := hk5.1.own HS.out.row (by decide)
                have hi5 : IBox w5 ib ib c 0 nos (.slice la j lc) := hk5.1.own HS.out.it (by decide)
                have HROW := Lib.hid (World.ownsRow.alloc (World.ownsRow.alloc hrow5 (.cells #[.int .i64 yk, .int .i64 yn, .string ys, .slice ya yln yc] 72)) (.cells #[.int .i64 yk, .int .i64 yn, .string ys, .slice ya yln yc] 72))
                have HI7 := Lib.hid (show IBox ((w5.alloc (.cells #[.int .i64 yk, .int .i64 yn, .string ys, .slice ya yln yc] 72)).alloc (.cells #[.int .i64 yk, .int .i64 yn, .string ys, .slice ya yln yc] 72)) ib ib c 0 nos (.slice la j lc) from World.ownsRow.alloc (World.ownsRow.alloc hi5 _) _)
                have i3 := (show IBox (w5.alloc (.cells #[.int .i64 yk, .int .i64 yn, .string ys, .slice ya yln yc] 72)) ib ib c 0 nos (.slice la j lc) from World.ownsRow.alloc hi5 _).at.2.2.2
                have hz7 : ib + 1 ≤ ((w5.alloc (.cells #[.int .i64 yk, .int .i64 yn, .string ys, .slice ya yln yc] 72)).alloc (.cells #[.int .i64 yk, .int .i64 yn, .string ys, .slice ya yln yc] 72)).heap.size := by
                  have := World.block_lt_of_cell? _ _ HI7.out.at.1
                  exact this
                have HZ7 := Lib.hid hz7
                have hlit := Rd.lit (w := w5.alloc (.cells #[.int .i64 yk, .int .i64 yn, .string ys, .slice ya yln yc] 72)) (cs := #[.int .i64 yk, .int .i64 yn, .string ys, .slice ya yln yc]) (e := 72) (n := 1) (sz := 4) rfl (by omega)
                rw [World.size_alloc] at hlit
                have HLIT := Lib.hid hlit
                clear hlit
                have hj4 : j ≤ 4096 := by omega
                clear hb5 hk5 hdi hIy hrow5 hi5 hz7
                simp only [Iv.cells, Itc.k, Itc.n, Itc.s]
                go_wp2_with (at_builtin; go_loud (refine app_keep tyItems HROW.out HLIT.out (by simp [Value.oneCell']) (by omega) (by omega) (by omega) HZ7.out rfl rfl rfl rfl ?_; intro g gcap w8 h2 h3 h4 h5; have H2 := Lib.hid h2; have H4 := Lib.hid h4; have H5 := Lib.hid h5; have hi8 : IBox w8 ib ib c 0 nos (.slice la j lc) := ownsRow_only HI7.out (Only.of_grown h4) (fun g' hg' e => by simp only [Value.ownBlock, Option.some.injEq] at hg'; have := (World.ownsRow.lt HROW.out g' e).1; omega); have y3 := hi8.at.2.2.2; have yf := World.ownsRow.frozenAt hi8 3; clear h2 h3 h4 h5 hi8))
                have HN := Lib.hid (HS.out.next (y := ⟨.mk yk yn ys yl, .slice ya yln yc⟩) (lv' := .slice (some ⟨g, 0, none⟩) (j + 1) gcap) hj HDI.out hle5 HK5.out HB5.out HIY.out ⟨_, _, rfl⟩ H2.out H4.out (by
                  intro g' hg'
                  simp only [Value.ownBlock, Option.some.injEq] at hg'
                  subst hg'
                  rcases H5.out with ⟨k', c', hk', -⟩ | h5
                  · exact .inl (by rw [hk']; rfl)
                  · exact .inr h5))
                go_roundw
                case rel => exact ⟨j + 1, _, _, p', c', by go_num, HN.out⟩
                case measure => simp [intOf]; omega
             ·
              obtain rfl : j = x := by omega
              have HALL := Lib.hid HS.out.all
              obtain ⟨i0, i1, i2, i3⟩ := HS.out.it.at
              have HTH := Lib.hid HS.out.rs.there
              have HFN := Lib.hid (HS.out.rs.fin ⟨.mk c 0 nos (l.map Iv.c), .slice la j lc⟩)
              go_wp2_with (first | (refine wpList_store_mid rfl 72 _ _ rfl (w.heap.size) 0 (Iv.cells ⟨.mk c 0 nos (l.map Iv.c), .slice la j lc⟩).toArray rfl rfl HTH.out (by show _ = some 4; kernel_rfl) (iv_all _ rfl) ?_) | (refine wp_store_mid 72 _ _ rfl (w.heap.size) 0 (Iv.cells ⟨.mk c 0 nos (l.map Iv.c), .slice la j lc⟩).toArray rfl rfl HTH.out (by show _ = some 4; kernel_rfl) (iv_all _ rfl) ?_))
              refine bodyPost_ret (v := .tuple #[.agg (Iv.cells ⟨.mk c 0 nos (l.map Iv.c), .slice la j lc⟩).toArray, .int .i64 0]) (res_cell2 Try.results47 rfl HFN.out.2.2) rfl ⟨⟨.mk c 0 nos (l.map Iv.c), .slice la j lc⟩, 0, p, cj, rfl, ⟨_, _, _, rfl⟩, HFN.out.1, HFN.out.2.1, hpl, ?_⟩
              unfold ItemRes
              rw [HDL.out, HALL.out]
              have ho := onlyC wr w.heap.size (Iv.cells ⟨.mk c 0 nos (l.map Iv.c), .slice la j lc⟩) 0
              have hh := HS.out.h1
              refine ⟨rfl, rfl, ⟨l, rfl, ?_, fun a n c' e hn => ?_, fun y hy => ?_⟩, rfl, rfl⟩
              ·
                have hr := ownsRow_only HS.out.row ho (fun g hg e => by have := (World.ownsRow.lt HS.out.row g hg).1; omega)
                have h9 := Rd.of_own hr
                show Rd _ 4 (.slice la j lc) l.length (flatF Iv.cells l)
                rw [HS.out.len]
                exact h9
              ·
                have e : Value.slice la j lc = .slice (some a) n c' := e
                have := World.ownsRow.lt HS.out.row a.block (by rw [e]; rfl)
                have hz := ho.size
                omega
              ·
                have hz := ho.size
                exact (ItR.only ho (fun b hp e => by omega) (HS.out.kids y hy)).mono (fun b hp => by omega)
   ·
    have HD0 := Lib.hid (show decI (d + 1) (xs.drop at_) cnt = none by
     rw [List.drop_of_length_le (by omega)]
     unfold decI
     rw [if_neg h96])
    have d1 : decide ((xs.length : Int) ≤ (at_ : Int)) = true := decide_eq_true (by omega)
    have HTH := Lib.hid HR1.out.drew.there
    have HFN := Lib.hid (HR1.out.drew.fin zeroIv)
    go_wp2_with (first | (refine wpList_store_mid rfl 72 _ _ rfl (w.heap.size) 0 (Iv.cells zeroIv).toArray rfl rfl HTH.out (by show _ = some 4; kernel_rfl) (iv_all _ rfl) ?_) | (refine wp_store_mid 72 _ _ rfl (w.heap.size) 0 (Iv.cells zeroIv).toArray rfl rfl HTH.out (by show _ = some 4; kernel_rfl) (iv_all _ rfl) ?_))
    refine bodyPost_ret (v := .tuple #[.agg (Iv.cells zeroIv).toArray, .int .i64 (5)]) (res_cell2 Try.results47 rfl HFN.out.2.2) rfl ⟨zeroIv, 5, _, _, rfl, ⟨_, _, _, rfl⟩, HFN.out.1, HFN.out.2.1, hat, ?_⟩
    unfold ItemRes
    rw [HD0.out]
    simp
theorem item_calls : ∀ d, d ≤ 8 → ItemSpec d
 | 0, h => item_step 0 h (fun d' e => by omega)
 | d + 1, h => item_step (d + 1) h (fun d' e => by cases e; exact item_calls d (by omega))
end Go.Proofs.Ytmafnjidhjabgaa
namespace Go.Proofs.Ytmafnjidhjabgaa
open Go.RowKit Go.Shelf
set_option linter.unusedVariables false
set_option linter.unusedSimpArgs false
theorem decN_len {f : List UInt8 → Nat → Option (Itc × List UInt8 × Nat)} (hf : ∀ r c i r' c', f r c = some (i, r', c') → r'.length < r.length) :
  ∀ (n : Nat) (r : List UInt8) (c : Nat) (l : List Itc) (r' : List UInt8) (c' : Nat), decN f n r c = some (l, r', c') → r'.length ≤ r.length
 | 0, r, c, l, r', c', h => by
  simp only [decN, Option.some.injEq, Prod.mk.injEq] at h
  obtain ⟨rfl, rfl, rfl⟩ := h
  exact Nat.le_refl _
 | n + 1, r, c, l, r', c', h => by
  unfold decN at h
  split at h
  · cases h
  ·
   rename_i i r1 c1 h1
   have h2 := hf _ _ _ _ _ h1
   split at h
   · cases h
   ·
    rename_i l2 r2 c2 h3
    have h4 := decN_len hf n r1 c1 l2 r2 c2 h3
    simp only [Option.some.injEq, Prod.mk.injEq] at h
    obtain ⟨rfl, rfl, rfl⟩ := h
    omega
theorem decI_len : ∀ (d : Nat) (r : List UInt8) (c : Nat) (i : Itc) (r' : List UInt8) (c' : Nat), decI d r c = some (i, r', c') → r'.length < r.length
 | 0, _, _, _, _, _, h => by cases h
 | d + 1, r, c, i, r', c', h => by
  unfold decI at h
  split at h
  · cases h
  ·
   split at h
   · cases h
   ·
    rename_i k r1
    split at h
    · cases h
    ·
     split at h
     · cases h
     ·
      rename_i n r2 hn
      have h1 := readNum_len hn
      unfold decK at h
      split at h
      ·
       simp only [Option.some.injEq, Prod.mk.injEq] at h
       obtain ⟨_, rfl, _⟩ := h
       simp; omega
      ·
       split at h
       · cases h
       ·
        split at h
        ·
         split at h
         · cases h
         ·
          simp only [Option.some.injEq, Prod.mk.injEq] at h
          obtain ⟨_, rfl, _⟩ := h
          simp; omega
        ·
         split at h
         · cases h
         ·
          rename_i l r3 c3 h3
          have := decN_len (decI_len d) _ _ _ _ _ _ h3
          simp only [Option.some.injEq, Prod.mk.injEq] at h
          obtain ⟨_, rfl, _⟩ := h
          simp; omega
structure DSt (rb : Nat) (bv : Value) (xs : List UInt8) (w wr : World) (l : List Iv) (lv : Value) (p cj : Nat) : Prop where
 le : p ≤ xs.length
 c1 : l.length ≤ cj
 c2 : cj ≤ 4096
 h1 : w.heap.size = rb
 h2 : rb < wr.heap.size
 b : Below w.heap.size w wr
 box : RBox wr rb rb bv p cj
 row : wr.ownsRow (rb + 1) 72 4 lv l.length (flatF Iv.cells l)
 kids : ∀ y ∈ l, ItR (fun b => rb < b ∧ b < wr.heap.size ∧ lv.ownBlock ≠ some b) 8 wr y.v y.c.l
 dec : ∃ f, (xs.drop p).length < f ∧ decA (xs.length + 1) xs 0 = match decA f (xs.drop p) cj with
  | none => none
  | some l2 => some (l.map Iv.c ++ l2)
theorem DSt.start {rb : Nat} {bv : Value} {xs : List UInt8} {w wr : World} (h1 : w.heap.size = rb) (h2 : rb < wr.heap.size) (hb : Below w.heap.size w wr) (hr : RBox wr rb rb bv ((0 : Nat) : Int) ((0 : Nat) : Int)) : DSt rb bv xs w wr [] (.slice none 0 0) 0 0 := by
 refine ⟨by omega, by simp, by omega, h1, h2, hb, hr, World.ownsRow_nil _ _ _ _, (fun y hy => by cases hy), xs.length + 1, by simp, ?_⟩
 rw [List.drop_zero]
 cases decA (xs.length + 1) xs 0 with
 | none => rfl
 | some z => rfl
theorem decA_cons (f : Nat) (k : UInt8) (r : List UInt8) (c : Nat) : decA (f + 1) (k :: r) c = match decI 8 (k :: r) c with
 | none => none
 | some (i, r', c') => match decA f r' c' with
  | none => none
  | some l => some (i :: l) := rfl
theorem DSt.bad {rb : Nat} {bv : Value} {xs : List UInt8} {w wr : World} {l : List Iv} {lv : Value} {p cj : Nat} (h : DSt rb bv xs w wr l lv p cj) (hp : p < xs.length) (hd : decI 8 (xs.drop p) cj = none) : decA (xs.length + 1) xs 0 = none := by
 obtain ⟨f, hf, he⟩ := h.dec
 obtain ⟨f', rfl⟩ : ∃ f', f = f' + 1 := ⟨f - 1, by omega⟩
 rw [he]
 rw [List.drop_eq_getElem_cons hp] at hd ⊢
 rw [decA_cons, hd]
theorem DSt.all {rb : Nat} {bv : Value} {xs : List UInt8} {w wr : World} {l : List Iv} {lv : Value} {p cj : Nat} (h : DSt rb bv xs w wr l lv p cj) (hp : ¬ p < xs.length) : decA (xs.length + 1) xs 0 = some (l.map Iv.c) := by
 obtain ⟨f, hf, he⟩ := h.dec
 obtain ⟨f', rfl⟩ : ∃ f', f = f' + 1 := ⟨f - 1, by omega⟩
 rw [he, List.drop_of_length_le (by omega)]
 show some (l.map Iv.c ++ []) = _
 rw [List.append_nil]
theorem DSt.next {rb : Nat} {bv : Value} {xs : List UInt8} {w wr : World} {l : List Iv} {lv : Value} {p cj : Nat} (h : DSt rb bv xs w wr l lv p cj) (hp : p < xs.length) {y : Iv} {w5 w7 w8 : World} {p' c' : Nat}
  (hd : decI 8 (xs.drop p) cj = some (y.c, xs.drop p', c')) (hle : p' ≤ xs.length) (hk : Kp ER rb wr w5 ∧ Only (fun j => j = rb) wr w5) (hb : RBox w5 rb rb bv p' c') (hI : ItR (fun b => wr.heap.size ≤ b ∧ b < w5.heap.size) 8 w5 y.v y.c.l)
  (h57 : ∃ A B, w7 = (w5.alloc A).alloc B) {lv' : Value} (ho : w8.ownsRow (rb + 1) 72 4 lv' (l.length + 1) (flatF Iv.cells l ++ Iv.cells y)) (hg : w7.grownBy w8 lv.ownBlock) (hf : ∀ g, lv'.ownBlock = some g → lv.ownBlock = some g ∨ w7.heap.size ≤ g) :
  DSt rb bv xs w w8 (l ++ [y]) lv' p' c' ∧ p < p' := by
 obtain ⟨A, B, rfl⟩ := h57
 have hbd := decI_bound 8 _ _ _ _ _ hd
 have hln := decI_len 8 _ _ _ _ _ hd
 rw [List.length_drop, List.length_drop] at hln
 have z1 := hk.1.b.size
 have z2 := hg.size
 rw [World.size_alloc, World.size_alloc] at z2
 have hlv : ∀ g, lv.ownBlock = some g → rb + 1 ≤ g ∧ g < wr.heap.size := fun g e => World.ownsRow.lt h.row g e
 have hh1 := h.h1
 have hh2 := h.h2
 have hb57 : Below w5.heap.size w5 ((w5.alloc A).alloc B) := below_box (below_alloc w5 A) B
 have b5 : RBox ((w5.alloc A).alloc B) rb rb bv p' c' := World.ownsRow.alloc (World.ownsRow.alloc hb _) _
 have b8 : RBox w8 rb rb bv p' c' := ownsRow_only b5 (Only.of_grown hg) (fun g hg' e => by simp only [Value.ownBlock, Option.some.injEq] at hg'; have := (hlv g e).1; omega)
 have hbw : Below w.heap.size w w8 := by
  have e1 : Below w.heap.size wr w5 := by rw [hh1]; exact hk.1.b
  have e2 : Below w.heap.size w5 ((w5.alloc A).alloc B) := hb57.mono (by omega)
  exact ((h.b.trans e1).trans e2).grown hg (by rw [World.size_alloc, World.size_alloc]; omega) (fun k e => by have := (hlv k e).1; omega)
 refine ⟨⟨hle, by rw [List.length_append]; have := h.c1; simp; omega, hbd.2, h.h1, by omega, hbw, b8, ?_, fun y' hy => ?_, ?_⟩, by omega⟩
 ·
  rw [flatF_append, flatF_one, List.length_append]
  exact ho
 ·
  have hnew : ∀ b, b < w5.heap.size → lv.ownBlock ≠ some b → lv'.ownBlock ≠ some b := fun b h1 h2 e => by
   rcases hf b e with h3 | h3
   · exact h2 h3
   · rw [World.size_alloc, World.size_alloc] at h3; omega
  rcases List.mem_append.1 hy with hy | hy
  ·
   have k5 := ItR.only hk.2 (fun b hp e => by omega) (h.kids y' hy)
   have k7 := ItR.only (Only.of_below (S := fun _ => False) hb57) (fun _ _ e => e) k5
   have k8 := ItR.only (Only.of_grown hg) (fun b hp e => hp.2.2 e) k7
   exact k8.mono (fun b hp => ⟨hp.1, by omega, hnew b (by omega) hp.2.2⟩)
  ·
   rw [List.mem_singleton] at hy
   subst hy
   have hne : ∀ b, wr.heap.size ≤ b → lv.ownBlock ≠ some b := fun b hb e => by have := (hlv b e).2; omega
   have k7 := ItR.only (Only.of_below (S := fun _ => False) hb57) (fun _ _ e => e) hI
   have k8 := ItR.only (Only.of_grown hg) (fun b hp e => hne b hp.1 e) k7
   exact k8.mono (fun b hp => ⟨by omega, by omega, hnew b hp.2 (hne b hp.1)⟩)
 ·
  obtain ⟨f, hf', he⟩ := h.dec
  obtain ⟨f', rfl⟩ : ∃ f', f = f' + 1 := ⟨f - 1, by omega⟩
  refine ⟨f', by rw [List.length_drop] at hf' ⊢; omega, ?_⟩
  rw [he]
  rw [List.drop_eq_getElem_cons hp] at hd ⊢
  rw [decA_cons, hd]
  simp only
  cases decA f' (xs.drop p') c' with
  | none => rfl
  | some l2 => simp
def atOf (w : World) (rb : Nat) : Nat := match w.cell? ⟨rb, 1, none⟩ with
 | some v => (intOf v).toNat
 | none => 0
theorem atOf_box {w : World} {base rb : Nat} {bv : Value} {p : Nat} {cnt : Int} (h : RBox w base rb bv p cnt) : atOf w rb = p := by
 unfold atOf
 rw [h.at.2.1]
 rfl
def DecRes2 (b : Nat) (xs : List UInt8) (w' : World) (lv : Value) (cd : Int) : Prop := match dec xs with
 | none => cd ≠ 0 ∧ lv = .slice none 0 0
 | some l => cd = 0 ∧ ∃ ys : List Iv, ys.map Iv.c = l ∧ w'.ownsRow b 72 4 lv ys.length (flatF Iv.cells ys) ∧ ∀ y ∈ ys, ItR (fun j => b ≤ j ∧ j < w'.heap.size) 8 w' y.v y.c.l
set_option maxHeartbeats 4000000 in
set_option maxRecDepth 100000 in
theorem wdecode2_calls (bv : Value) (xs : List UInt8) (w : World) (hx : Bytes w bv xs) (hlen : xs.length ≤ 9223372036854775807) :
  Calls Try.prog 24 #[bv] w fun e w' => ∃ (lv : Value) (cd : Int), e = .returned (.tuple #[lv, .int .i64 cd]) ∧ Below w.heap.size w w' ∧ (∃ a n c, lv = .slice a n c) ∧ DecRes2 w.heap.size xs w' lv cd := by
 have HX := Lib.hid hx
 obtain ⟨ba, bcap, rfl, hbc1, hbc2, -⟩ := hx
 go_enter Try.func24, Try.ntmps24
 by_cases hbig : 65536 < xs.length
 ·
  have d1 : decide (65536 < (xs.length : Int)) = true := decide_eq_true (by omega)
  have HD := Lib.hid (show dec xs = none by unfold dec; rw [if_pos hbig])
  clear hbig
  go_wp2_with fail
  go_ret2
  exact ⟨_, _, rfl, Below.refl _ _, ⟨_, _, _, rfl⟩, by unfold DecRes2; rw [HD.out]; exact ⟨by simp, rfl⟩⟩
 ·
  have d1 : decide (65536 < (xs.length : Int)) = false := decide_eq_false (by omega)
  have HD := Lib.hid (show dec xs = decA (xs.length + 1) xs 0 by unfold dec; rw [if_neg hbig])
  have hl65 : xs.length ≤ 65536 := by omega
  clear hbig
  have HXB := Lib.hid (fun V (hV : Below w.heap.size w V) => (HX.out.below hV (Nat.le_refl _) : Bytes V (.slice ba xs.length bcap) xs))
  obtain ⟨rb, hrb⟩ : ∃ rb, rb = w.heap.size := ⟨_, rfl⟩
  have HST := Lib.hid (show DSt rb (.slice ba xs.length bcap) xs w (w.alloc (.cells #[.slice ba xs.length bcap, .int .i64 0, .int .i64 0] 107)) [] (.slice none 0 0) 0 0 from
   DSt.start hrb.symm (by rw [World.size_alloc]; omega) (below_alloc w _) (by
    rw [hrb]
    exact World.ownsRow_lit (base := w.heap.size) (size := 3) (e := 107) w #[.slice ba xs.length bcap, .int .i64 0, .int .i64 0] 1 (Nat.le_refl _) (by unfold maxLen; omega) (by simp)))
  go_wp2_with fail
  rw [← hrb]
  clear hrb
  go_loopw [5, 6, 7] (fun lv _ _ wr => ∃ (l : List Iv) (p cj : Nat), DSt rb (.slice ba xs.length bcap) xs w wr l lv p cj) (fun _ _ _ wr => xs.length - atOf wr rb)
  case atStart => exact ⟨[], 0, 0, HST.out⟩
  case round =>
   obtain ⟨l, p, cj, hs⟩ := hrel
   have HS := Lib.hid hs
   have hpl := hs.le
   have hcj := hs.c2
   have hcl := hs.c1
   have HP := Lib.hid (atOf_box hs.box)
   obtain ⟨la, lc, rfl⟩ := own_slice hs.row
   obtain ⟨r0, r1, r2⟩ := hs.box.at
   clear hs
   by_cases hp : p < xs.length
   ·
    have ep : decide ((p : Int) < (xs.length : Int)) = true := decide_eq_true (by omega)
    go_wp2_with fail
    rw [show (1 : Int) = 9 - ((8 : Nat) : Int) by decide]
    refine (item_calls 8 (by omega) _ xs rb rb p cj wr (fun V hV => HXB.out V (HS.out.b.trans (HS.out.h1 ▸ hV))) hpl hl65 hcj (by have := HS.out.h2; omega) HS.out.box).mono ?_
    rintro e w5 ⟨y, cd, p', c', rfl, hyv, hb5, hk5, hle5, hres⟩
    obtain ⟨⟨yk, yn, ys, yl⟩, yv⟩ := y
    obtain ⟨ya, yln, yc, hyv⟩ := hyv
    simp only at hyv
    subst hyv
    have HB5 := Lib.hid hb5
    have HK5 := Lib.hid hk5
    unfold ItemRes at hres
    cases hdi : decI 8 (xs.drop p) cj with
    | none =>
     rw [hdi] at hres
     have hcd : (cd != 0) = true := by simpa using hres
     have HM := Lib.hid hres
     have HBAD := Lib.hid (HS.out.bad hp hdi)
     have HBW := Lib.hid (show Below w.heap.size w w5 from HS.out.b.trans (by have := hk5.1.b; rw [HS.out.h1]; exact this))
     clear hres hb5 hk5 hdi
     simp only [Iv.cells, Itc.k, Itc.n, Itc.s]
     go_wp2_with fail
     go_ret2
     refine ⟨_, _, rfl, HBW.out.trans (Below.mono (below_alloc w5 _) HBW.out.size), ⟨_, _, _, rfl⟩, ?_⟩
     unfold DecRes2
     rw [HD.out, HBAD.out]
     exact ⟨HM.out, rfl⟩
    | some z =>
     obtain ⟨zi, zr, zc⟩ := z
     rw [hdi] at hres
     obtain ⟨rfl, hyc, hIy, hrr, hcc⟩ := hres
     simp only at hyc hIy
     subst hyc hrr hcc
     have HDI := Lib.hid hdi
     have HIY := Lib.hid hIy
     have hrow5 : w5.ownsRow (rb + 1) 72 4 (.slice la l.length lc) l.length (flatF Iv.cells l) := ownsRow_only HS.out.row HK5.out.2 (fun g hg e => by have := (World.ownsRow.lt HS.out.row g hg).1; omega)
     have HROW := Lib.hid (World.ownsRow.alloc (World.ownsRow.alloc hrow5 (.cells #[.int .i64 yk, .int .i64 yn, .string ys, .slice ya yln yc] 72)) (.cells #[.int .i64 yk, .int .i64 yn, .string ys, .slice ya yln yc] 72))
     have hz7 : rb + 1 ≤ ((w5.alloc (.cells #[.int .i64 yk, .int .i64 yn, .string ys, .slice ya yln yc] 72)).alloc (.cells #[.int .i64 yk, .int .i64 yn, .string ys, .slice ya yln yc] 72)).heap.size := by
      have h1 := HK5.out.1.b.size
      have h2 := HS.out.h2
      rw [World.size_alloc, World.size_alloc]
      omega
     have HZ7 := Lib.hid hz7
     have hlit := Rd.lit (w := w5.alloc (.cells #[.int .i64 yk, .int .i64 yn, .string ys, .slice ya yln yc] 72)) (cs := #[.int .i64 yk, .int .i64 yn, .string ys, .slice ya yln yc]) (e := 72) (n := 1) (sz := 4) rfl (by omega)
     rw [World.size_alloc] at hlit
     have HLIT := Lib.hid hlit
     clear hlit
     have hj4 : l.length ≤ 4096 := by omega
     clear hb5 hk5 hdi hIy hrow5 hz7
     simp only [Iv.cells, Itc.k, Itc.n, Itc.s]
     go_wp2_with (at_builtin; go_loud (refine app_keep tyItems HROW.out HLIT.out (by simp [Value.oneCell']) (by omega) (by omega) (by omega) HZ7.out rfl rfl rfl rfl ?_; intro g gcap w8 h2 h3 h4 h5; have H2 := Lib.hid h2; have H4 := Lib.hid h4; have H5 := Lib.hid h5; clear h2 h3 h4 h5))
     have HN := Lib.hid (HS.out.next (y := ⟨.mk yk yn ys yl, .slice ya yln yc⟩) (lv' := .slice (some ⟨g, 0, none⟩) (l.length + 1) gcap) hp HDI.out hle5 HK5.out HB5.out HIY.out ⟨_, _, rfl⟩ H2.out H4.out (by
      intro g' hg'
      simp only [Value.ownBlock, Option.some.injEq] at hg'
      subst hg'
      rcases H5.out with ⟨k', c', hk', -⟩ | h5
      · exact .inl (by rw [hk']; rfl)
      · exact .inr h5))
     go_roundw
     case rel => exact ⟨_, p', c', HN.out.1⟩
     case measure => rw [atOf_box HN.out.1.box, HP.out]; have := HN.out.2; have := HN.out.1.le; omega
   ·
    have ep : decide ((p : Int) < (xs.length : Int)) = false := decide_eq_false (by omega)
    have HALL := Lib.hid (HS.out.all hp)
    go_wp2_with fail
    go_ret2
    refine ⟨_, _, rfl, HS.out.b, ⟨_, _, _, rfl⟩, ?_⟩
    unfold DecRes2
    rw [HD.out, HALL.out]
    refine ⟨rfl, l, rfl, ownsRow_mono HS.out.row (by have := HS.out.h1; omega), fun y hy => (HS.out.kids y hy).mono (fun b hp => ⟨by have := HS.out.h1; omega, hp.2.1⟩)⟩
end Go.Proofs.Ytmafnjidhjabgaa
namespace Go.Proofs.Ytmafnjidhjabgaa
open Go.RowKit Go.Shelf
set_option linter.unusedVariables false
theorem iv_at {P : Nat → Prop} {d : Nat} {w : World} {a : Option Addr} {n cap : Nat} {l : List Itc} (h : ItR P (d + 1) w (.slice a n cap) l) (i : Nat) (hi : i < l.length) :
  ∃ b o lv, a = some ⟨b, o, none⟩ ∧ w.cell? ⟨b, o + i * 4, none⟩ = some (.int .i64 l[i].k) ∧ w.cell? ⟨b, o + i * 4 + 1, none⟩ = some (.int .i64 l[i].n) ∧ w.cell? ⟨b, o + i * 4 + 2, none⟩ = some (.string l[i].s) ∧ w.cell? ⟨b, o + i * 4 + 3, none⟩ = some lv ∧ ItR P d w lv l[i].l ∧ P b := by
 obtain ⟨xs, rfl, hr, hp, hc⟩ := h
 rw [List.length_map] at hi
 obtain ⟨b, o, rfl, he⟩ := rdF_at (k := 4) iv4 hr i hi
 have e := List.getElem_map Iv.c (l := xs) (i := i) (h := by simpa using hi)
 rw [e]
 exact ⟨b, o, xs[i].v, rfl, he 0 _ (by omega) rfl, he 1 _ (by omega) rfl, he 2 _ (by omega) rfl, he 3 _ (by omega) rfl, hc _ (List.getElem_mem _), hp _ _ _ rfl (by omega)⟩
theorem below_dn {B : Nat} {a w : World} (h : Below B a w) (n : Nat) : Below B a (w.drewN n) := ⟨h.os, h.tape, h.output, h.size, h.block⟩
end Go.Proofs.Ytmafnjidhjabgaa
namespace Go.Proofs.Ytmafnjidhjabgaa
open Go.RowKit
set_option linter.unusedSimpArgs false
set_option linter.unusedVariables false
def I64 (n : Int) : Prop := -9223372036854775808 ≤ n ∧ n ≤ 9223372036854775807
theorem dig_next {acc c j : Nat} (hacc : acc < 2 ^ (7 * j)) : acc + c % 128 * 2 ^ (7 * j) < 2 ^ (7 * (j + 1)) := by
 have e : 2 ^ (7 * (j + 1)) = 128 * 2 ^ (7 * j) := by rw [show 7 * (j + 1) = 7 * j + 7 by omega, Nat.pow_add]; omega
 rw [e]
 have h2 : c % 128 * 2 ^ (7 * j) ≤ 127 * 2 ^ (7 * j) := Nat.mul_le_mul_right _ (by omega)
 omega
theorem rdN_lt2 : ∀ (f j n : Nat) (r : List UInt8) (x : Nat) (r' : List UInt8), f + j = 10 → n < 2 ^ (7 * j) → rdN f j n r = some (x, r') → x < 18446744073709551616
 | 0, _, _, _, _, _, _, _, h => by cases h
 | _ + 1, _, _, [], _, _, _, _, h => by cases h
 | f + 1, j, n, c :: r, x, r', hf, hn, h => by
  unfold rdN at h
  split at h
  · cases h
  ·
   rename_i hb
   split at h
   ·
    simp only [Option.some.injEq, Prod.mk.injEq] at h
    obtain ⟨rfl, _⟩ := h
    by_cases h9 : j = 9
    ·
     subst h9
     have hc : c.toNat ≤ 1 := by omega
     have e : (2 : Nat) ^ (7 * 9) = 9223372036854775808 := by decide
     rw [e] at hn ⊢
     have : c.toNat % 128 * 9223372036854775808 ≤ 1 * 9223372036854775808 := Nat.mul_le_mul_right _ (by omega)
     omega
    ·
     have h1 := dig_next (c := c.toNat) hn
     have h3 : 2 ^ (7 * (j + 1)) ≤ 2 ^ 63 := Nat.pow_le_pow_right (by decide) (by omega)
     have e2 : (2 : Nat) ^ 63 = 9223372036854775808 := by decide
     omega
   · exact rdN_lt2 f (j + 1) _ r x r' (by omega) (dig_next hn) h
theorem readNum_lt2 {r r' : List UInt8} {x : Nat} (h : readNum r = some (x, r')) : x < 18446744073709551616 := rdN_lt2 10 0 0 r x r' rfl (by decide) h
theorem unzig_ok {n : Nat} (h : n < 18446744073709551616) : I64 (unzig n) := by
 unfold unzig I64
 split <;> omega
def wfI : Nat → Nat → Itc → Prop
 | _, 0, _ => False
 | m, d + 1, .mk k n s l => I64 n ∧ s.size ≤ m ∧ l.length ≤ m ∧ ∀ i ∈ l, wfI m d i
theorem wfI_mono {m m' : Nat} (hm : m ≤ m') : ∀ {d : Nat} {i : Itc}, wfI m d i → wfI m' d i
 | 0, _, h => h
 | d + 1, .mk k n s l, ⟨h1, h2, h3, h4⟩ => ⟨h1, by omega, by omega, fun i hi => wfI_mono hm (h4 i hi)⟩
theorem wfI_n {m d : Nat} {i : Itc} (h : wfI m d i) : I64 i.n := by
 cases d with
 | zero => exact h.elim
 | succ d => obtain ⟨k, n, s, l⟩ := i; exact h.1
theorem wfI_s {m d : Nat} {i : Itc} (h : wfI m d i) : i.s.size ≤ m := by
 cases d with
 | zero => exact h.elim
 | succ d => obtain ⟨k, n, s, l⟩ := i; exact h.2.1
theorem wfI_len {m d : Nat} {i : Itc} (h : wfI m d i) : i.l.length ≤ m := by
 cases d with
 | zero => exact h.elim
 | succ d => obtain ⟨k, n, s, l⟩ := i; exact h.2.2.1
theorem wfI_l {m d : Nat} {i : Itc} (h : wfI m (d + 1) i) : ∀ j ∈ i.l, wfI m d j := by
 obtain ⟨k, n, s, l⟩ := i; exact h.2.2.2
theorem decN_wf {d : Nat} (hf : ∀ r c i r' c', decI d r c = some (i, r', c') → wfI r.length d i ∧ r'.length < r.length) :
  ∀ (n : Nat) (r : List UInt8) (c : Nat) (l : List Itc) (r' : List UInt8) (c' : Nat), decN (decI d) n r c = some (l, r', c') → (∀ i ∈ l, wfI r.length d i) ∧ l.length + r'.length ≤ r.length
 | 0, r, c, l, r', c', h => by
  simp only [decN, Option.some.injEq, Prod.mk.injEq] at h
  obtain ⟨rfl, rfl, rfl⟩ := h
  exact ⟨fun i hi => (List.not_mem_nil hi).elim, by simp⟩
 | n + 1, r, c, l, r', c', h => by
  unfold decN at h
  split at h
  · cases h
  ·
   rename_i i r1 c1 h1
   have h2 := hf _ _ _ _ _ h1
   split at h
   · cases h
   ·
    rename_i l2 r2 c2 h3
    have h4 := decN_wf hf n r1 c1 l2 r2 c2 h3
    simp only [Option.some.injEq, Prod.mk.injEq] at h
    obtain ⟨rfl, rfl, rfl⟩ := h
    refine ⟨fun x hx => ?_, by simp; omega⟩
    rcases List.mem_cons.1 hx with rfl | hx
    · exact h2.1
    · exact wfI_mono (by omega) (h4.1 x hx)
theorem decI_wf : ∀ (d : Nat) (r : List UInt8) (c : Nat) (i : Itc) (r' : List UInt8) (c' : Nat), decI d r c = some (i, r', c') → wfI r.length d i ∧ r'.length < r.length
 | 0, _, _, _, _, _, h => by cases h
 | d + 1, r, c, i, r', c', h => by
  have z : I64 0 := by unfold I64; omega
  unfold decI at h
  split at h
  · cases h
  ·
   split at h
   · cases h
   ·
    rename_i k r1
    split at h
    · cases h
    ·
     split at h
     · cases h
     ·
      rename_i n r2 hn
      have h1 := readNum_len hn
      have h2 := readNum_lt2 hn
      unfold decK at h
      split at h
      ·
       simp only [Option.some.injEq, Prod.mk.injEq] at h
       obtain ⟨rfl, rfl, _⟩ := h
       exact ⟨⟨unzig_ok h2, Nat.zero_le _, Nat.zero_le _, fun i hi => by cases hi⟩, by simp; omega⟩
      ·
       split at h
       · cases h
       ·
        split at h
        ·
         split at h
         · cases h
         ·
          simp only [Option.some.injEq, Prod.mk.injEq] at h
          obtain ⟨rfl, rfl, _⟩ := h
          refine ⟨⟨z, ?_, Nat.zero_le _, fun i hi => by cases hi⟩, by simp; omega⟩
          show (r2.take n).toArray.size ≤ _
          simp; omega
        ·
         split at h
         · cases h
         ·
          rename_i l r3 c3 h3
          have h5 := decN_wf (decI_wf d) _ _ _ _ _ _ h3
          simp only [Option.some.injEq, Prod.mk.injEq] at h
          obtain ⟨rfl, rfl, _⟩ := h
          refine ⟨⟨z, Nat.zero_le _, by simp; omega, fun i hi => wfI_mono (by simp; omega) (h5.1 i hi)⟩, by simp; omega⟩
theorem decA_wf : ∀ (f : Nat) (r : List UInt8) (c : Nat) (l : List Itc), decA f r c = some l → ∀ i ∈ l, wfI r.length 8 i
 | 0, _, _, _, h => by cases h
 | f + 1, r, c, l, h => by
  unfold decA at h
  split at h
  ·
   simp only [Option.some.injEq] at h
   subst h
   intro i hi; cases hi
  ·
   rename_i k r1
   split at h
   · cases h
   ·
    rename_i i r' c' h1
    have h2 := decI_wf 8 _ _ _ _ _ h1
    split at h
    · cases h
    ·
     rename_i l2 h3
     have h4 := decA_wf f _ _ _ h3
     simp only [Option.some.injEq] at h
     subst h
     intro x hx
     rcases List.mem_cons.1 hx with rfl | hx
     · exact h2.1
     · exact wfI_mono (by omega) (h4 x hx)
theorem dec_wf {b : List UInt8} {l : List Itc} (h : dec b = some l) : b.length ≤ 65536 ∧ ∀ i ∈ l, wfI 65536 8 i := by
 unfold dec at h
 split at h
 · cases h
 ·
  rename_i hn
  exact ⟨by omega, fun i hi => wfI_mono (by omega) (decA_wf _ _ _ _ h i hi)⟩
end Go.Proofs.Ytmafnjidhjabgaa
