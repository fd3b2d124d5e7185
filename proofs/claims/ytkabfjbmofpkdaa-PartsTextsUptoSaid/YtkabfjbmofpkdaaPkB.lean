/- Walks and plain laws of the chapter, laid together; each part says what it proves. -/
import Derived.Lib.Strings
import Derived.Test.YtkabfjbmofpkdaaPkA
/- Layers 9, 11, 14: entries, graphs, batches and ledgers as data; how they are read in a world. -/
namespace Go.Proofs.Ytkabfjbmofpkdaa
open Go.RowKit

/-- A slice of whole numbers reads ns. -/
def ints (ns : List Int) : List Value := ns.map (Value.int .i64)
theorem ints_length (ns : List Int) : (ints ns).length = ns.length := by simp [ints]
theorem ints_get (ns : List Int) (i : Nat) (hi : i < ns.length) : (ints ns)[i]? = some (.int .i64 ns[i]) := by simp [ints, hi]
theorem ints_one (ns : List Int) : ∀ u ∈ ints ns, u.oneCell' = true := by
  intro u hu
  obtain ⟨n, -, rfl⟩ := List.mem_map.1 hu
  rfl
def Ints (w : World) (v : Value) (ns : List Int) : Prop := Rd w 1 v ns.length (ints ns)

structure Bt where
  ep : Int
  rv : Value
  recs : List Rec
structure Opr where
  kind : Int
  iv : Value
  ins : List Int
  arg : Int
  num : Int
  rounds : Int
  test : Int
  lim : Int
def Bt.cells (b : Bt) : List Value := [.int .i64 b.ep, b.rv]
def Opr.cells (o : Opr) : List Value := [.int .i64 o.kind, o.iv, .int .i64 o.arg, .int .u32 o.num, .int .i64 o.rounds, .int .i64 o.test, .int .u32 o.lim]
theorem bt2 (b : Bt) : (Bt.cells b).length = 2 := rfl
theorem op7 (o : Opr) : (Opr.cells o).length = 7 := rfl
def U32 (n : Int) : Prop := 0 ≤ n ∧ n ≤ 4294967295
def Opr.ok (o : Opr) : Prop := I64 o.kind ∧ I64 o.arg ∧ U32 o.num ∧ I64 o.rounds ∧ I64 o.test ∧ U32 o.lim ∧ ∀ i ∈ o.ins, I64 i

/-- Operators that are read. -/
structure OpsR (w : World) (v : Value) (os : List Opr) : Prop where
  row : Rd w 7 v os.length (flatF Opr.cells os)
  ins : ∀ o ∈ os, Ints w o.iv o.ins
/-- Batches that are read. -/
structure BtsR (w : World) (v : Value) (bs : List Bt) : Prop where
  row : Rd w 2 v bs.length (flatF Bt.cells bs)
  recs : ∀ b ∈ bs, Recs w b.rv b.recs
theorem OpsR.below {w w' : World} {v : Value} {os : List Opr} (h : OpsR w v os) {B : Nat} (hb : Below B w w') (hB : w.heap.size ≤ B) : OpsR w' v os := ⟨h.row.below hb hB, fun o ho => (h.ins o ho).below hb hB⟩
theorem BtsR.below {w w' : World} {v : Value} {bs : List Bt} (h : BtsR w v bs) {B : Nat} (hb : Below B w w') (hB : w.heap.size ≤ B) : BtsR w' v bs := ⟨h.row.below hb hB, fun b hb' => (h.recs b hb').below hb hB⟩

theorem bt_at {w : World} {a : Option Addr} {n cap : Nat} {bs : List Bt} (h : BtsR w (.slice a n cap) bs) (i : Nat) (hi : i < bs.length) :
    ∃ b o, a = some ⟨b, o, none⟩ ∧ w.cell? ⟨b, o + i * 2, none⟩ = some (.int .i64 bs[i].ep) ∧ w.cell? ⟨b, o + i * 2 + 1, none⟩ = some bs[i].rv := by
  obtain ⟨b, o, rfl, hc⟩ := rdF_at (k := 2) bt2 h.row i hi
  exact ⟨b, o, rfl, hc 0 _ (by omega) rfl, hc 1 _ (by omega) rfl⟩
theorem op_at {w : World} {a : Option Addr} {n cap : Nat} {os : List Opr} (h : OpsR w (.slice a n cap) os) (i : Nat) (hi : i < os.length) :
    ∃ b o, a = some ⟨b, o, none⟩ ∧ w.cell? ⟨b, o + i * 7, none⟩ = some (.int .i64 os[i].kind) ∧ w.cell? ⟨b, o + i * 7 + 1, none⟩ = some os[i].iv ∧ w.cell? ⟨b, o + i * 7 + 2, none⟩ = some (.int .i64 os[i].arg) ∧ w.cell? ⟨b, o + i * 7 + 3, none⟩ = some (.int .u32 os[i].num) ∧
      w.cell? ⟨b, o + i * 7 + 4, none⟩ = some (.int .i64 os[i].rounds) ∧ w.cell? ⟨b, o + i * 7 + 5, none⟩ = some (.int .i64 os[i].test) ∧ w.cell? ⟨b, o + i * 7 + 6, none⟩ = some (.int .u32 os[i].lim) := by
  obtain ⟨b, o, rfl, hc⟩ := rdF_at (k := 7) op7 h.row i hi
  exact ⟨b, o, rfl, hc 0 _ (by omega) rfl, hc 1 _ (by omega) rfl, hc 2 _ (by omega) rfl, hc 3 _ (by omega) rfl, hc 4 _ (by omega) rfl, hc 5 _ (by omega) rfl, hc 6 _ (by omega) rfl⟩
theorem int_at {w : World} {a : Option Addr} {n cap : Nat} {ns : List Int} (h : Ints w (.slice a n cap) ns) (i : Nat) (hi : i < ns.length) :
    ∃ b o, a = some ⟨b, o, none⟩ ∧ w.cell? ⟨b, o + i, none⟩ = some (.int .i64 ns[i]) := by
  obtain ⟨a', cap', hv, h0, h1, h2, h3⟩ := h
  simp only [Value.slice.injEq] at hv
  obtain ⟨rfl, rfl, rfl⟩ := hv
  rcases h3 with h3 | ⟨b, o, rfl, hc⟩
  · omega
  · exact ⟨b, o, rfl, hc _ _ (ints_get ns i hi)⟩

/-! ### Entries in form -/
def Rec.bare (r : Rec) : Bool := r.p == 0 && r.s == 0 && r.q == 0 && r.key.size == 0 && r.val == 0
def insOk (os : List Opr) : Bool := os.all fun o => decide (o.ins.length ≤ 2)
def goodEnt (k : Int) (r : Rec) (os : List Opr) (n : Int) : Bool :=
  decide (0 ≤ k ∧ k ≤ 5 ∧ 0 ≤ n ∧ os.length ≤ 16) && (decide (k = 1) || r.bare) && (decide (k = 3) || decide (os.length = 0)) && (decide (k = 2 ∨ k = 4 ∨ k = 5) || decide (n = 0)) && insOk os && goodRec r

/-! ### Graphs that are right -/
def Opr.zero (o : Opr) : Bool := decide (o.num = 0 ∧ o.rounds = 0 ∧ o.test = 0 ∧ o.lim = 0)
def Opr.zero3 (o : Opr) : Bool := decide (o.rounds = 0 ∧ o.test = 0 ∧ o.lim = 0)
def Opr.form (o : Opr) : Bool :=
  if o.kind = 1 then decide (-1 ≤ o.arg ∧ o.arg ≤ 7) && o.zero
  else if o.kind = 2 then decide (0 ≤ o.arg ∧ o.arg ≤ 5) && o.zero3
  else if o.kind = 3 then decide (0 ≤ o.arg ∧ o.arg ≤ 3) && o.zero3
  else if o.kind = 4 ∨ o.kind = 5 then decide (0 ≤ o.arg ∧ o.arg ≤ 6) && o.zero
  else if o.kind = 6 ∨ o.kind = 8 then decide (o.arg = 0) && o.zero
  else if o.kind = 7 then decide (0 ≤ o.arg ∧ o.arg ≤ 5 ∧ 1 ≤ o.rounds ∧ o.rounds ≤ 16 ∧ 0 ≤ o.test ∧ o.test ≤ 3)
  else false
def wantOf (k : Int) : Nat := if k = 1 then 0 else if k = 5 ∨ k = 6 then 2 else 1
def Opr.right (o : Opr) (i n : Nat) : Bool := o.form && decide (o.ins.length = wantOf o.kind) && decide ((i + 1 = n) ↔ o.kind = 8) && o.ins.all fun k => decide (0 ≤ k ∧ k < i)
/-- Are the operators ahead of m right? -/
def rightTo (os : List Opr) (m : Nat) : Bool := (List.range m).all fun i => match os[i]? with
  | some o => o.right i os.length
  | none => true
def checkOk (os : List Opr) : Bool := decide (1 ≤ os.length ∧ os.length ≤ 16) && rightTo os os.length
theorem rightTo_zero (os : List Opr) : rightTo os 0 = true := rfl
theorem rightTo_succ (os : List Opr) (m : Nat) (h : m < os.length) : rightTo os (m + 1) = (rightTo os m && os[m].right m os.length) := by
  simp [rightTo, List.range_succ, h]
theorem rightTo_no (os : List Opr) (m : Nat) (h : m < os.length) (hr : os[m].right m os.length = false) : rightTo os os.length = false := by
  cases hq : rightTo os os.length with
  | false => rfl
  | true =>
    have := List.all_eq_true.1 hq m (by simp [h])
    simp only [List.getElem?_eq_getElem h] at this
    rw [this] at hr
    cases hr

/-! ### Ledgers -/
structure Led where
  rv : Value
  rows : List Row
  C : Nat → Int
  ov : Value
  opn : List Rec
  bv : Value
  bats : List Bt
  sealed : Int
  decided : Int
  dep : Bool
  gv : Value
  ops : List Opr
  keep : Int
def Led.cells (L : Led) : List Value := [L.rv, .int .i64 (L.C 0), .int .i64 (L.C 1), .int .i64 (L.C 2), .int .i64 (L.C 3), .int .i64 (L.C 4), .int .i64 (L.C 5), .int .i64 (L.C 6), .int .i64 (L.C 7), L.ov, L.bv, .int .i64 L.sealed, .int .i64 L.decided, .bool L.dep, L.gv, .int .i64 L.keep]
structure LedR (w : World) (L : Led) : Prop where
  rows : Rows w L.rv L.rows
  opn : Recs w L.ov L.opn
  bats : BtsR w L.bv L.bats
  ops : OpsR w L.gv L.ops
theorem LedR.below {w w' : World} {L : Led} (h : LedR w L) {B : Nat} (hb : Below B w w') (hB : w.heap.size ≤ B) : LedR w' L := ⟨h.rows.below hb hB, h.opn.below hb hB, h.bats.below hb hB, h.ops.below hb hB⟩
/-- Its numbers fit. -/
structure Led.Ok (L : Led) : Prop where
  rows : ∀ r ∈ L.rows, r.ok
  C : ∀ i, i < 8 → I64 (L.C i)
  opn : ∀ r ∈ L.opn, r.ok
  bats : ∀ b ∈ L.bats, I64 b.ep ∧ ∀ r ∈ b.recs, r.ok
  nums : I64 L.sealed ∧ I64 L.decided ∧ I64 L.keep
  ops : ∀ o ∈ L.ops, o.ok
def Led.all (L : Led) : List Rec := L.bats.flatMap (·.recs) ++ L.opn
/-- How much there is of it, all told. -/
structure Led.Small (L : Led) : Prop where
  rows : L.rows.length ≤ 1100000
  opn : L.opn.length ≤ 1100000
  bats : L.bats.length ≤ 1100000
  recs : ∀ b ∈ L.bats, b.recs.length ≤ 1100000
  all : L.all.length ≤ 1100000
  ops : L.ops.length ≤ 1100000
  ins : ∀ o ∈ L.ops, o.ins.length ≤ 1100000

def epochsTo (L : Led) (m : Nat) : Bool := (List.range m).all fun i => match L.bats[i]? with
  | some b => decide (b.recs.length ≤ 512 ∧ b.ep = L.sealed - L.bats.length + i)
  | none => true
theorem epochsTo_zero (L : Led) : epochsTo L 0 = true := rfl
theorem epochsTo_succ (L : Led) (m : Nat) (h : m < L.bats.length) : epochsTo L (m + 1) = (epochsTo L m && decide (L.bats[m].recs.length ≤ 512 ∧ L.bats[m].ep = L.sealed - L.bats.length + m)) := by
  simp [epochsTo, List.range_succ, h]
theorem epochsTo_no (L : Led) (m : Nat) (h : m < L.bats.length) (hr : ¬ (L.bats[m].recs.length ≤ 512 ∧ L.bats[m].ep = L.sealed - L.bats.length + m)) : epochsTo L L.bats.length = false := by
  cases hq : epochsTo L L.bats.length with
  | false => rfl
  | true =>
    have := List.all_eq_true.1 hq m (by simp [h])
    simp only [List.getElem?_eq_getElem h, decide_eq_true_eq] at this
    exact absurd this hr
/-- How many records of a partition are among the first m. -/
def ofPart (rs : List Rec) (q : Int) : List Rec := rs.filter fun r => r.q == q
def have_ (rs : List Rec) (q : Int) : Nat := (ofPart rs q).length
def Led.frame (L : Led) : Bool := goodRows L.rows && decide (L.opn.length ≤ 512 ∧ 0 ≤ L.decided ∧ L.decided ≤ L.sealed ∧ L.sealed - L.decided ≤ 64 ∧ 0 ≤ L.keep ∧ L.keep ≤ 64) && epochsTo L L.bats.length && decide (L.sealed - L.decided ≤ L.bats.length ∧ L.bats.length ≤ L.sealed) && (if L.dep = true then checkOk L.ops else decide (L.ops.length = 0 ∧ L.sealed ≤ 0))
def countsTo (L : Led) (m : Nat) : Bool := (List.range m).all fun p => decide ((have_ L.all p : Int) ≤ L.C p)
def Led.good (L : Led) : Bool := L.frame && L.all.all goodRec && countsTo L 8
theorem countsTo_zero (L : Led) : countsTo L 0 = true := rfl
theorem countsTo_succ (L : Led) (m : Nat) : countsTo L (m + 1) = (countsTo L m && decide ((have_ L.all m : Int) ≤ L.C m)) := by
  simp [countsTo, List.range_succ]
theorem countsTo_no (L : Led) (m : Nat) (h : m < 8) (hr : ¬ ((have_ L.all m : Int) ≤ L.C m)) : countsTo L 8 = false := by
  cases hq : countsTo L 8 with
  | false => rfl
  | true =>
    have := List.all_eq_true.1 hq m (by simp [h])
    simp only [decide_eq_true_eq] at this
    exact absurd this hr
end Go.Proofs.Ytkabfjbmofpkdaa

/- Layer 9: Good of an entry, walked. -/
namespace Go.Proofs.Ytkabfjbmofpkdaa
open Go.RowKit
set_option maxRecDepth 100000

theorem goodEnt_iff (k : Int) (r : Rec) (os : List Opr) (n : Int) : goodEnt k r os n = true ↔ (0 ≤ k ∧ k ≤ 5 ∧ 0 ≤ n ∧ os.length ≤ 16) ∧ (k = 1 ∨ r.bare = true) ∧ (k = 3 ∨ os.length = 0) ∧ ((k = 2 ∨ k = 4 ∨ k = 5) ∨ n = 0) ∧ insOk os = true ∧ goodRec r = true := by
  simp only [goodEnt, Bool.and_eq_true, Bool.or_eq_true, decide_eq_true_eq, and_assoc]
theorem goodEnt_no {k : Int} {r : Rec} {os : List Opr} {n : Int} (h : (0 ≤ k ∧ k ≤ 5 ∧ 0 ≤ n ∧ os.length ≤ 16) → (k = 1 ∨ r.bare = true) → (k = 3 ∨ os.length = 0) → ((k = 2 ∨ k = 4 ∨ k = 5) ∨ n = 0) → insOk os = true → goodRec r = true → False) : goodEnt k r os n = false := by
  cases hg : goodEnt k r os n with
  | false => rfl
  | true =>
    obtain ⟨a, b, c, d, e, f⟩ := (goodEnt_iff k r os n).1 hg
    exact (h a b c d e f).elim
theorem bare_iff (r : Rec) : r.bare = true ↔ r = ⟨0, 0, 0, ⟨#[]⟩, 0⟩ := by
  obtain ⟨p, s, q, key, val⟩ := r
  simp only [Rec.bare, Bool.and_eq_true, beq_iff_eq, Rec.mk.injEq]
  constructor
  · rintro ⟨⟨⟨⟨a, b⟩, c⟩, d⟩, e⟩
    refine ⟨a, b, c, ?_, e⟩
    exact ByteArray.ext (Array.eq_empty_of_size_eq_zero d)
  · rintro ⟨a, b, c, d, e⟩
    exact ⟨⟨⟨⟨a, b⟩, c⟩, by rw [d]; rfl⟩, e⟩
theorem bare_not {r : Rec} (h : r.bare = false) : r.p = 0 → r.s = 0 → r.q = 0 → r.key.toList = [] → r.val = 0 → False := by
  intro a b c d e
  have : r.bare = true := by
    rw [bare_iff]
    obtain ⟨p, s, q, key, val⟩ := r
    simp only at a b c d e
    subst a b c e
    have hk : key = ⟨#[]⟩ := by
      apply ByteArray.ext
      have h2 : key.data.toList = [] := by rw [← ByteArray.toList_eq]; exact d
      exact Array.toList_eq_nil_iff.1 h2
    rw [hk]
  rw [this] at h
  cases h
theorem goodRec_bare : goodRec ⟨0, 0, 0, ⟨#[]⟩, 0⟩ = true := by decide

theorem ent_early_ways {k : Int} {r : Rec} {os : List Opr} {n : Int} (hno : k < 0 ∨ 5 < k ∨ n < 0 ∨ 16 < os.length ∨ (k ≠ 1 ∧ r.bare = false) ∨ (k ≠ 3 ∧ 0 < os.length) ∨ ((k = 0 ∨ k = 1 ∨ k = 3) ∧ n ≠ 0)) :
    decide (k < 0) = true ∨ (decide (k < 0) = false ∧ decide (5 < k) = true) ∨ (decide (k < 0) = false ∧ decide (5 < k) = false ∧ decide (n < 0) = true) ∨
    (decide (k < 0) = false ∧ decide (5 < k) = false ∧ decide (n < 0) = false ∧ (16 : Int) < os.length) ∨
    (decide (k < 0) = false ∧ decide (5 < k) = false ∧ decide (n < 0) = false ∧ ¬ (16 : Int) < os.length ∧
      ((((k == 1) = false ∧ (k != 1) = true) ∧ r.bare = false) ∨ (((k == 1) = false ∧ (k != 1) = true) ∧ r = ⟨0, 0, 0, ⟨#[]⟩, 0⟩ ∧ ((k == 3) = false ∧ (k != 3) = true) ∧ 0 < os.length) ∨ (k = 1 ∧ 0 < os.length) ∨ (k = 1 ∧ ¬ 0 < os.length ∧ ((n == 0) = false ∧ (n != 0) = true)) ∨
       (k = 3 ∧ r = ⟨0, 0, 0, ⟨#[]⟩, 0⟩ ∧ ((n == 0) = false ∧ (n != 0) = true)) ∨ (k = 0 ∧ r = ⟨0, 0, 0, ⟨#[]⟩, 0⟩ ∧ ¬ 0 < os.length ∧ ((n == 0) = false ∧ (n != 0) = true)))) := by
  simp only [decide_eq_true_eq, decide_eq_false_iff_not, beq_eq_false_iff_ne, bne_iff_ne, ← bare_iff]
  generalize os.length = m at *
  cases hb : r.bare <;> simp [hb] at hno ⊢ <;> omega

set_option maxHeartbeats 4000000 in
theorem entGood_early (k : Int) (r : Rec) (gv : Value) (os : List Opr) (n : Int) (w : World) (hO : OpsR w gv os)
    (hno : k < 0 ∨ 5 < k ∨ n < 0 ∨ 16 < os.length ∨ (k ≠ 1 ∧ r.bare = false) ∨ (k ≠ 3 ∧ 0 < os.length) ∨ ((k = 0 ∨ k = 1 ∨ k = 3) ∧ n ≠ 0)) :
    Calls Try.prog 28 #[.agg #[.int .i64 k, .int .i64 r.p, .int .i64 r.s, .int .i64 r.q, .string r.key, .int .u32 r.val, gv, .int .i64 n]] w fun e w' => e = .returned (.bool false) ∧ Below w.heap.size w w' := by
  obtain ⟨ga, gc, rfl, -⟩ := hO.row.slice
  clear hO
  have hw := ent_early_ways hno
  clear hno
  rcases hw with h | ⟨h, h2⟩ | ⟨h, h2, h3⟩ | ⟨h, h2, h3, h4⟩ | ⟨h, h2, h3, h4, hK⟩
  · go_enter Try.func28, Try.ntmps28
    go_wp2_with fail
    go_ret
    exact ⟨rfl, (Below.refl _ _).alloc (Nat.le_refl _) _⟩
  · go_enter Try.func28, Try.ntmps28
    go_wp2_with fail
    go_ret
    exact ⟨rfl, (Below.refl _ _).alloc (Nat.le_refl _) _⟩
  · go_enter Try.func28, Try.ntmps28
    go_wp2_with fail
    go_ret
    exact ⟨rfl, (Below.refl _ _).alloc (Nat.le_refl _) _⟩
  · go_enter Try.func28, Try.ntmps28
    go_wp2_with fail
    go_ret
    exact ⟨rfl, (Below.refl _ _).alloc (Nat.le_refl _) _⟩
  · rcases hK with ⟨⟨k1, k1'⟩, hb⟩ | ⟨⟨k1, k1'⟩, hb, ⟨k2, k2'⟩, hl⟩ | ⟨rfl, hl⟩ | ⟨rfl, hl, ⟨hn, hn'⟩⟩ | ⟨rfl, hb, ⟨hn, hn'⟩⟩ | ⟨rfl, hb, hl, ⟨hn, hn'⟩⟩
    · have hbn := bare_not hb
      go_enter Try.func28, Try.ntmps28
      go_wp2_with fail
      all_goals first
           | exact (hbn (by assumption) (by assumption) (by assumption) (by assumption) (by assumption)).elim
           | (go_ret; exact ⟨rfl, (Below.refl _ _).alloc (Nat.le_refl _) _⟩)
    all_goals
      try subst hb
      go_enter Try.func28, Try.ntmps28
      go_wp2_with fail
      go_ret
      exact ⟨rfl, (Below.refl _ _).alloc (Nat.le_refl _) _⟩

end Go.Proofs.Ytkabfjbmofpkdaa

/- Layer 9: Good of an entry, walked: its end. -/
namespace Go.Proofs.Ytkabfjbmofpkdaa
open Go.RowKit
set_option maxRecDepth 100000

/-- The ways to the loop. -/
theorem ent_late_ways {k : Int} {r : Rec} {os : List Opr} {n : Int} (hno : ¬ (k < 0 ∨ 5 < k ∨ n < 0 ∨ 16 < os.length ∨ (k ≠ 1 ∧ r.bare = false) ∨ (k ≠ 3 ∧ 0 < os.length) ∨ ((k = 0 ∨ k = 1 ∨ k = 3) ∧ n ≠ 0))) :
    decide (k < 0) = false ∧ decide (5 < k) = false ∧ decide (n < 0) = false ∧ ¬ (16 : Int) < os.length ∧ os.length ≤ 16 ∧
     ((k = 1 ∧ ¬ 0 < os.length ∧ n = 0) ∨ (k = 3 ∧ r = ⟨0, 0, 0, ⟨#[]⟩, 0⟩ ∧ n = 0) ∨ (k = 0 ∧ r = ⟨0, 0, 0, ⟨#[]⟩, 0⟩ ∧ ¬ 0 < os.length ∧ n = 0) ∨
      (((k == 1) = false ∧ (k != 1) = true) ∧ r = ⟨0, 0, 0, ⟨#[]⟩, 0⟩ ∧ ((k == 3) = false ∧ (k != 3) = true) ∧ ¬ 0 < os.length ∧ (k == 0) = false)) := by
  simp only [decide_eq_false_iff_not, beq_eq_false_iff_ne, bne_iff_ne, ← bare_iff]
  generalize os.length = m at *
  cases hb : r.bare <;> simp [hb] at hno ⊢ <;> omega
theorem rec_ways (r : Rec) :
    (decide (0 ≤ r.p) = false ∧ goodRec r = false) ∨
    ((decide (0 ≤ r.p) = true ∧ decide (r.p ≤ 63) = false) ∧ goodRec r = false) ∨
    ((decide (0 ≤ r.p) = true ∧ decide (r.p ≤ 63) = true ∧ decide (0 ≤ r.s) = false) ∧ goodRec r = false) ∨
    ((decide (0 ≤ r.p) = true ∧ decide (r.p ≤ 63) = true ∧ decide (0 ≤ r.s) = true ∧ decide (0 ≤ r.q) = false) ∧ goodRec r = false) ∨
    ((decide (0 ≤ r.p) = true ∧ decide (r.p ≤ 63) = true ∧ decide (0 ≤ r.s) = true ∧ decide (0 ≤ r.q) = true ∧ decide (r.q < 8) = false ∧ decide (r.q ≤ 7) = false) ∧ goodRec r = false) ∨
    ((decide (0 ≤ r.p) = true ∧ decide (r.p ≤ 63) = true ∧ decide (0 ≤ r.s) = true ∧ decide (0 ≤ r.q) = true ∧ decide (r.q < 8) = true ∧ decide (r.q ≤ 7) = true ∧ decide (r.key.size ≤ 32) = false ∧ decide ((r.key.size : Int) ≤ 32) = false) ∧ goodRec r = false) ∨
    ((decide (0 ≤ r.p) = true ∧ decide (r.p ≤ 63) = true ∧ decide (0 ≤ r.s) = true ∧ decide (0 ≤ r.q) = true ∧ decide (r.q < 8) = true ∧ decide (r.q ≤ 7) = true ∧ decide (r.key.size ≤ 32) = true ∧ decide ((r.key.size : Int) ≤ 32) = true) ∧ goodRec r = true) := by
  unfold goodRec
  simp only [decide_eq_true_eq, decide_eq_false_iff_not]
  omega
theorem insOk_at {os : List Opr} (j : Nat) (hj : j < os.length) (h : 2 < os[j].ins.length) : insOk os = false := by
  cases hq : insOk os with
  | false => rfl
  | true =>
    have := List.all_eq_true.1 hq os[j] (List.getElem_mem _)
    simp at this
    omega
theorem insOk_all {os : List Opr} (h : ∀ i, ∀ hi : i < os.length, os[i].ins.length ≤ 2) : insOk os = true := by
  refine List.all_eq_true.2 fun o ho => ?_
  obtain ⟨i, hi, rfl⟩ := List.getElem_of_mem ho
  simpa using h i hi
set_option maxHeartbeats 4000000 in
theorem entGood_late (k : Int) (r : Rec) (gv : Value) (os : List Opr) (n : Int) (w : World) (hO : OpsR w gv os)
    (hno : ¬ (k < 0 ∨ 5 < k ∨ n < 0 ∨ 16 < os.length ∨ (k ≠ 1 ∧ r.bare = false) ∨ (k ≠ 3 ∧ 0 < os.length) ∨ ((k = 0 ∨ k = 1 ∨ k = 3) ∧ n ≠ 0))) :
    Calls Try.prog 28 #[.agg #[.int .i64 k, .int .i64 r.p, .int .i64 r.s, .int .i64 r.q, .string r.key, .int .u32 r.val, gv, .int .i64 n]] w fun e w' => e = .returned (.bool (insOk os && goodRec r)) ∧ Below w.heap.size w w' := by
  have HO := Lib.hid hO
  obtain ⟨ga, gc, rfl, hgc, hgc2⟩ := hO.row.slice
  clear hO
  obtain ⟨h, h2, h3, h4, hl16, hK⟩ := ent_late_ways hno
  clear hno
  rcases hK with ⟨rfl, hl, rfl⟩ | ⟨rfl, hb, rfl⟩ | ⟨rfl, hb, hl, rfl⟩ | ⟨⟨k1, k1'⟩, hb, ⟨k2, k2'⟩, hl, k0⟩
  all_goals
    try subst hb
    go_enter Try.func28, Try.ntmps28
    go_wp2_with fail
  · obtain ⟨X, hX⟩ : ∃ X, X = w.alloc (.cells #[.int .i64 1, .int .i64 r.p, .int .i64 r.s, .int .i64 r.q, .string r.key, .int .u32 r.val, .slice ga os.length gc, .int .i64 0] 35) := ⟨_, rfl⟩
    have hbX : Below w.heap.size w X := by rw [hX]; exact (Below.refl _ _).alloc (Nat.le_refl _) _
    have hXs : X.heap.size = w.heap.size + 1 := by rw [hX]; simp
    have xq : ∀ o u, (#[.int .i64 1, .int .i64 r.p, .int .i64 r.s, .int .i64 r.q, .string r.key, .int .u32 r.val, .slice ga os.length gc, .int .i64 0] : Array Value)[o]? = some u → X.cell? ⟨w.heap.size, o, none⟩ = some u := fun o u h => by rw [hX, World.cell?_alloc_at _ _ _ _ rfl]; exact h
    have x1 := xq 1 _ rfl
    have x2 := xq 2 _ rfl
    have x3 := xq 3 _ rfl
    have x4 := xq 4 _ rfl
    have x5 := xq 5 _ rfl
    rw [← hX]
    clear hX xq
    have HX := Lib.hid (And.intro hbX hXs)
    have HXC := Lib.hid (And.intro x1 (And.intro x2 (And.intro x3 (And.intro x4 x5))))
    clear hbX hXs x1 x2 x3 x4 x5
    go_loopw [4, 68] (fun _ iv wr => ∃ j : Nat, j ≤ os.length ∧ iv = .int .i64 j ∧ (∀ i, i < j → ∀ hi : i < os.length, os[i].ins.length ≤ 2) ∧ Below X.heap.size X wr) (fun _ iv _ => os.length - (intOf iv).toNat)
    case atStart => exact ⟨0, by omega, rfl, fun i hi => by omega, Below.refl _ _⟩
    case round =>
      obtain ⟨j, hj, rfl, hins, hb⟩ := hrel
      have HB := Lib.hid hb
      have HINS := Lib.hid hins
      clear hb hins
      by_cases hlt : j < os.length
      · exact absurd (show 0 < os.length from by omega) hl
      · obtain rfl : j = os.length := by omega
        have hok := insOk_all (fun i hi => HINS.out i hi hi)
        have HOK := Lib.hid hok
        have x1 := cell_later HB.out HXC.out.1
        have x2 := cell_later HB.out HXC.out.2.1
        have x3 := cell_later HB.out HXC.out.2.2.1
        have x4 := cell_later HB.out HXC.out.2.2.2.1
        have x5 := cell_later HB.out HXC.out.2.2.2.2
        clear hok
        have hway := rec_ways r
        rcases hway with ⟨k1, hg⟩ | ⟨⟨k1, k2⟩, hg⟩ | ⟨⟨k1, k2, k3⟩, hg⟩ | ⟨⟨k1, k2, k3, k4⟩, hg⟩ | ⟨⟨k1, k2, k3, k4, k5, k5'⟩, hg⟩ | ⟨⟨k1, k2, k3, k4, k5, k5', k6, k6'⟩, hg⟩ | ⟨⟨k1, k2, k3, k4, k5, k5', k6, k6'⟩, hg⟩
        all_goals
          have HG := Lib.hid hg
          clear hg
          go_wp2_with fail
          go_ret
          exact ⟨by rw [HOK.out, HG.out]; rfl, (HX.out.1.trans (HB.out.mono HX.out.1.size)).alloc (by have := HX.out.1.size; have := HB.out.size; omega) _⟩
  · obtain ⟨X, hX⟩ : ∃ X, X = w.alloc (.cells #[.int .i64 3, .int .i64 0, .int .i64 0, .int .i64 0, .string ⟨#[]⟩, .int .u32 0, .slice ga os.length gc, .int .i64 0] 35) := ⟨_, rfl⟩
    have hbX : Below w.heap.size w X := by rw [hX]; exact (Below.refl _ _).alloc (Nat.le_refl _) _
    have hXs : X.heap.size = w.heap.size + 1 := by rw [hX]; simp
    have xq : ∀ o u, (#[.int .i64 3, .int .i64 0, .int .i64 0, .int .i64 0, .string ⟨#[]⟩, .int .u32 0, .slice ga os.length gc, .int .i64 0] : Array Value)[o]? = some u → X.cell? ⟨w.heap.size, o, none⟩ = some u := fun o u h => by rw [hX, World.cell?_alloc_at _ _ _ _ rfl]; exact h
    have x1 := xq 1 _ rfl
    have x2 := xq 2 _ rfl
    have x3 := xq 3 _ rfl
    have x4 := xq 4 _ rfl
    have x5 := xq 5 _ rfl
    rw [← hX]
    clear hX xq
    have HX := Lib.hid (And.intro hbX hXs)
    have HXC := Lib.hid (And.intro x1 (And.intro x2 (And.intro x3 (And.intro x4 x5))))
    clear hbX hXs x1 x2 x3 x4 x5
    go_loopw [4, 68] (fun _ iv wr => ∃ j : Nat, j ≤ os.length ∧ iv = .int .i64 j ∧ (∀ i, i < j → ∀ hi : i < os.length, os[i].ins.length ≤ 2) ∧ Below X.heap.size X wr) (fun _ iv _ => os.length - (intOf iv).toNat)
    case atStart => exact ⟨0, by omega, rfl, fun i hi => by omega, Below.refl _ _⟩
    case round =>
      obtain ⟨j, hj, rfl, hins, hb⟩ := hrel
      have HB := Lib.hid hb
      have HINS := Lib.hid hins
      clear hb hins
      by_cases hlt : j < os.length
      · have hor := HO.out.below (HX.out.1.trans (HB.out.mono HX.out.1.size)) (Nat.le_refl _)
        obtain ⟨b, o, rfl, c0, c1, c2, c3, c4, c5, c6⟩ := op_at hor j hlt
        have hi := hor.ins os[j] (List.getElem_mem _)
        obtain ⟨ia, ic, hiv, -⟩ := hi.slice
        rw [hiv] at c1
        have hmore := HINS.out
        clear hor hi
        by_cases h2 : 2 < os[j].ins.length
        · have hno := insOk_at j hlt h2
          have h2' : decide (2 < os[j].ins.length) = true := decide_eq_true h2
          have h2'' : decide ((2 : Int) < os[j].ins.length) = true := decide_eq_true (by omega)
          have HNO := Lib.hid hno
          clear hno h2 hiv hmore
          go_wp2_with fail
          go_ret
          exact ⟨by rw [HNO.out]; rfl, (HX.out.1.trans (HB.out.mono HX.out.1.size)).alloc (by have := HX.out.1.size; have := HB.out.size; omega) _⟩
        · have h2' : decide (2 < os[j].ins.length) = false := decide_eq_false h2
          have h2'' : decide ((2 : Int) < os[j].ins.length) = false := decide_eq_false (by omega)
          have hle : os[j].ins.length ≤ 2 := by omega
          clear h2 hiv
          have HLE := Lib.hid hle
          have HM := Lib.hid hmore
          clear hle hmore
          go_wp2_with fail
          go_roundw
          case rel =>
            refine ⟨j + 1, by omega, by go_num, fun i hi hi' => ?_, HB.out.alloc HB.out.size _⟩
            rcases (show i < j ∨ i = j from by omega) with h | rfl
            · exact HM.out i h hi'
            · exact HLE.out
          case measure => simp [intOf]; omega
      · obtain rfl : j = os.length := by omega
        have hok := insOk_all (fun i hi => HINS.out i hi hi)
        have HOK := Lib.hid hok
        have x1 := cell_later HB.out HXC.out.1
        have x2 := cell_later HB.out HXC.out.2.1
        have x3 := cell_later HB.out HXC.out.2.2.1
        have x4 := cell_later HB.out HXC.out.2.2.2.1
        have x5 := cell_later HB.out HXC.out.2.2.2.2
        clear hok
        go_wp2_with fail
        go_ret
        exact ⟨by rw [HOK.out, goodRec_bare]; rfl, (HX.out.1.trans (HB.out.mono HX.out.1.size)).alloc (by have := HX.out.1.size; have := HB.out.size; omega) _⟩
  · obtain ⟨X, hX⟩ : ∃ X, X = w.alloc (.cells #[.int .i64 0, .int .i64 0, .int .i64 0, .int .i64 0, .string ⟨#[]⟩, .int .u32 0, .slice ga os.length gc, .int .i64 0] 35) := ⟨_, rfl⟩
    have hbX : Below w.heap.size w X := by rw [hX]; exact (Below.refl _ _).alloc (Nat.le_refl _) _
    have hXs : X.heap.size = w.heap.size + 1 := by rw [hX]; simp
    have xq : ∀ o u, (#[.int .i64 0, .int .i64 0, .int .i64 0, .int .i64 0, .string ⟨#[]⟩, .int .u32 0, .slice ga os.length gc, .int .i64 0] : Array Value)[o]? = some u → X.cell? ⟨w.heap.size, o, none⟩ = some u := fun o u h => by rw [hX, World.cell?_alloc_at _ _ _ _ rfl]; exact h
    have x1 := xq 1 _ rfl
    have x2 := xq 2 _ rfl
    have x3 := xq 3 _ rfl
    have x4 := xq 4 _ rfl
    have x5 := xq 5 _ rfl
    rw [← hX]
    clear hX xq
    have HX := Lib.hid (And.intro hbX hXs)
    have HXC := Lib.hid (And.intro x1 (And.intro x2 (And.intro x3 (And.intro x4 x5))))
    clear hbX hXs x1 x2 x3 x4 x5
    go_loopw [4, 68] (fun _ iv wr => ∃ j : Nat, j ≤ os.length ∧ iv = .int .i64 j ∧ (∀ i, i < j → ∀ hi : i < os.length, os[i].ins.length ≤ 2) ∧ Below X.heap.size X wr) (fun _ iv _ => os.length - (intOf iv).toNat)
    case atStart => exact ⟨0, by omega, rfl, fun i hi => by omega, Below.refl _ _⟩
    case round =>
      obtain ⟨j, hj, rfl, hins, hb⟩ := hrel
      have HB := Lib.hid hb
      have HINS := Lib.hid hins
      clear hb hins
      by_cases hlt : j < os.length
      · exact absurd (show 0 < os.length from by omega) hl
      · obtain rfl : j = os.length := by omega
        have hok := insOk_all (fun i hi => HINS.out i hi hi)
        have HOK := Lib.hid hok
        have x1 := cell_later HB.out HXC.out.1
        have x2 := cell_later HB.out HXC.out.2.1
        have x3 := cell_later HB.out HXC.out.2.2.1
        have x4 := cell_later HB.out HXC.out.2.2.2.1
        have x5 := cell_later HB.out HXC.out.2.2.2.2
        clear hok
        go_wp2_with fail
        go_ret
        exact ⟨by rw [HOK.out, goodRec_bare]; rfl, (HX.out.1.trans (HB.out.mono HX.out.1.size)).alloc (by have := HX.out.1.size; have := HB.out.size; omega) _⟩
  · obtain ⟨X, hX⟩ : ∃ X, X = w.alloc (.cells #[.int .i64 k, .int .i64 0, .int .i64 0, .int .i64 0, .string ⟨#[]⟩, .int .u32 0, .slice ga os.length gc, .int .i64 n] 35) := ⟨_, rfl⟩
    have hbX : Below w.heap.size w X := by rw [hX]; exact (Below.refl _ _).alloc (Nat.le_refl _) _
    have hXs : X.heap.size = w.heap.size + 1 := by rw [hX]; simp
    have xq : ∀ o u, (#[.int .i64 k, .int .i64 0, .int .i64 0, .int .i64 0, .string ⟨#[]⟩, .int .u32 0, .slice ga os.length gc, .int .i64 n] : Array Value)[o]? = some u → X.cell? ⟨w.heap.size, o, none⟩ = some u := fun o u h => by rw [hX, World.cell?_alloc_at _ _ _ _ rfl]; exact h
    have x1 := xq 1 _ rfl
    have x2 := xq 2 _ rfl
    have x3 := xq 3 _ rfl
    have x4 := xq 4 _ rfl
    have x5 := xq 5 _ rfl
    rw [← hX]
    clear hX xq
    have HX := Lib.hid (And.intro hbX hXs)
    have HXC := Lib.hid (And.intro x1 (And.intro x2 (And.intro x3 (And.intro x4 x5))))
    clear hbX hXs x1 x2 x3 x4 x5
    go_loopw [4, 68] (fun _ iv wr => ∃ j : Nat, j ≤ os.length ∧ iv = .int .i64 j ∧ (∀ i, i < j → ∀ hi : i < os.length, os[i].ins.length ≤ 2) ∧ Below X.heap.size X wr) (fun _ iv _ => os.length - (intOf iv).toNat)
    case atStart => exact ⟨0, by omega, rfl, fun i hi => by omega, Below.refl _ _⟩
    case round =>
      obtain ⟨j, hj, rfl, hins, hb⟩ := hrel
      have HB := Lib.hid hb
      have HINS := Lib.hid hins
      clear hb hins
      by_cases hlt : j < os.length
      · exact absurd (show 0 < os.length from by omega) hl
      · obtain rfl : j = os.length := by omega
        have hok := insOk_all (fun i hi => HINS.out i hi hi)
        have HOK := Lib.hid hok
        have x1 := cell_later HB.out HXC.out.1
        have x2 := cell_later HB.out HXC.out.2.1
        have x3 := cell_later HB.out HXC.out.2.2.1
        have x4 := cell_later HB.out HXC.out.2.2.2.1
        have x5 := cell_later HB.out HXC.out.2.2.2.2
        clear hok
        go_wp2_with fail
        go_ret
        exact ⟨by rw [HOK.out, goodRec_bare]; rfl, (HX.out.1.trans (HB.out.mono HX.out.1.size)).alloc (by have := HX.out.1.size; have := HB.out.size; omega) _⟩
theorem entGood_calls (k : Int) (r : Rec) (gv : Value) (os : List Opr) (n : Int) (w : World) (hO : OpsR w gv os) :
    Calls Try.prog 28 #[.agg #[.int .i64 k, .int .i64 r.p, .int .i64 r.s, .int .i64 r.q, .string r.key, .int .u32 r.val, gv, .int .i64 n]] w fun e w' => e = .returned (.bool (goodEnt k r os n)) ∧ Below w.heap.size w w' := by
  by_cases hno : k < 0 ∨ 5 < k ∨ n < 0 ∨ 16 < os.length ∨ (k ≠ 1 ∧ r.bare = false) ∨ (k ≠ 3 ∧ 0 < os.length) ∨ ((k = 0 ∨ k = 1 ∨ k = 3) ∧ n ≠ 0)
  · have hg : goodEnt k r os n = false := goodEnt_no (fun a b c d e f => by
      cases hb : r.bare <;> simp [hb] at hno b <;> omega)
    rw [hg]
    exact entGood_early k r gv os n w hO hno
  · have hg : goodEnt k r os n = (insOk os && goodRec r) := by
      have h1 : (0 ≤ k ∧ k ≤ 5 ∧ 0 ≤ n ∧ os.length ≤ 16) ∧ (k = 3 ∨ os.length = 0) ∧ ((k = 2 ∨ k = 4 ∨ k = 5) ∨ n = 0) := by omega
      have h2 : k = 1 ∨ r.bare = true := by
        by_cases hk : k = 1
        · exact .inl hk
        · right
          cases hb : r.bare with
          | true => rfl
          | false => exact absurd (.inr (.inr (.inr (.inr (.inl ⟨hk, hb⟩))))) hno
      rw [Bool.eq_iff_iff, goodEnt_iff, Bool.and_eq_true]
      exact ⟨fun h => h.2.2.2.2, fun h => ⟨h1.1, h2, h1.2.1, h1.2.2, h⟩⟩
    rw [hg]
    exact entGood_late k r gv os n w hO hno
end Go.Proofs.Ytkabfjbmofpkdaa

/- Layer 9: the document's Good of an entry, walked. -/
namespace Go.Proofs.Ytkabfjbmofpkdaa
open Go.RowKit
set_option maxRecDepth 100000

theorem key_nil (k : ByteArray) : k.toList = [] ↔ k.size = 0 := by
  rw [ByteArray.toList_eq, Array.toList_eq_nil_iff]
  exact ⟨fun h => by show k.data.size = 0; rw [h]; rfl, fun h => Array.eq_empty_of_size_eq_zero h⟩
theorem bare_calls (r : Rec) (w : World) :
    Calls Try.prog 65 #[.agg #[.int .i64 r.p, .int .i64 r.s, .int .i64 r.q, .string r.key, .int .u32 r.val]] w fun e w' => e = .returned (.bool r.bare) ∧ Below w.heap.size w w' := by
  have HB := Lib.hid ((Below.refl w.heap.size w).alloc (Nat.le_refl _) (.cells #[.int .i64 r.p, .int .i64 r.s, .int .i64 r.q, .string r.key, .int .u32 r.val] 33))
  go_enter Try.func65, Try.ntmps65
  go_wp2_with fail
  all_goals
    go_ret
    refine ⟨?_, (Below.refl _ _).alloc (Nat.le_refl _) _⟩
    simp_all [Rec.bare, key_nil]

theorem bare_good {r : Rec} (h : r.bare = true) : goodRec r = true := by rw [(bare_iff r).1 h]; exact goodRec_bare
theorem insOk_zero {os : List Opr} (h : os.length = 0) : insOk os = true := by rw [List.eq_nil_of_length_eq_zero h]; rfl
theorem ent0 (r : Rec) (os : List Opr) (n : Int) : goodEnt 0 r os n = (r.bare && decide (n = 0) && decide (os.length = 0)) := by
  rw [Bool.eq_iff_iff, goodEnt_iff]
  simp only [Bool.and_eq_true, decide_eq_true_eq]
  constructor
  · rintro ⟨h1, h2, h3, h4, h5, h6⟩
    exact ⟨⟨by rcases h2 with h | h; omega; exact h, by omega⟩, by omega⟩
  · rintro ⟨⟨h1, h2⟩, h3⟩
    exact ⟨by omega, .inr h1, .inr h3, .inr h2, insOk_zero h3, bare_good h1⟩
theorem ent1 (r : Rec) (os : List Opr) (n : Int) : goodEnt 1 r os n = (decide (n = 0) && decide (os.length = 0) && goodRec r) := by
  rw [Bool.eq_iff_iff, goodEnt_iff]
  simp only [Bool.and_eq_true, decide_eq_true_eq]
  constructor
  · rintro ⟨h1, h2, h3, h4, h5, h6⟩
    exact ⟨⟨by omega, by omega⟩, h6⟩
  · rintro ⟨⟨h1, h2⟩, h3⟩
    exact ⟨by omega, .inl trivial, .inr h2, .inr h1, insOk_zero h2, h3⟩
theorem ent3 (r : Rec) (os : List Opr) (n : Int) : goodEnt 3 r os n = (insOk os && (r.bare && decide (n = 0) && decide (os.length ≤ 16))) := by
  rw [Bool.eq_iff_iff, goodEnt_iff]
  simp only [Bool.and_eq_true, decide_eq_true_eq]
  constructor
  · rintro ⟨h1, h2, h3, h4, h5, h6⟩
    exact ⟨h5, ⟨by rcases h2 with h | h; omega; exact h, by omega⟩, by omega⟩
  · rintro ⟨h5, ⟨h1, h2⟩, h3⟩
    exact ⟨by omega, .inr h1, .inl trivial, .inr h2, h5, bare_good h1⟩
theorem ent2 {k : Int} (hk : k = 2 ∨ k = 4 ∨ k = 5) (r : Rec) (os : List Opr) (n : Int) : goodEnt k r os n = (r.bare && decide (0 ≤ n) && decide (os.length = 0)) := by
  rw [Bool.eq_iff_iff, goodEnt_iff]
  simp only [Bool.and_eq_true, decide_eq_true_eq]
  constructor
  · rintro ⟨h1, h2, h3, h4, h5, h6⟩
    exact ⟨⟨by rcases h2 with h | h; omega; exact h, by omega⟩, by omega⟩
  · rintro ⟨⟨h1, h2⟩, h3⟩
    exact ⟨by omega, .inr h1, .inr h3, .inl hk, insOk_zero h3, bare_good h1⟩
theorem goodRec_eq (r : Rec) : goodRec r = (decide (0 ≤ r.p) && decide (r.p ≤ 63) && decide (0 ≤ r.s) && decide (0 ≤ r.q) && decide (r.q ≤ 7) && decide (r.key.size ≤ 32)) := by
  rw [Bool.eq_iff_iff]
  simp only [goodRec, Bool.and_eq_true, decide_eq_true_eq]
  omega

set_option maxHeartbeats 4000000 in
theorem entRgood_calls (k : Int) (r : Rec) (gv : Value) (os : List Opr) (n : Int) (w : World) (hO : OpsR w gv os) :
    Calls Try.prog 33 #[.agg #[.int .i64 k, .int .i64 r.p, .int .i64 r.s, .int .i64 r.q, .string r.key, .int .u32 r.val, gv, .int .i64 n]] w fun e w' => e = .returned (.bool (goodEnt k r os n)) ∧ Below w.heap.size w w' := by
  have HO := Lib.hid hO
  obtain ⟨ga, gc, rfl, hgc, hgc2⟩ := hO.row.slice
  clear hO
  have hb1 : ∀ x, Below w.heap.size w (w.alloc (.cells x 35)) := fun x => (Below.refl w.heap.size w).alloc (Nat.le_refl _) _
  have HB1 := Lib.hid hb1
  clear hb1
  rcases (show k = 0 ∨ k = 1 ∨ k = 2 ∨ k = 3 ∨ k = 4 ∨ k = 5 ∨ (k < 0 ∨ 5 < k) from by omega) with rfl | rfl | rfl | rfl | rfl | rfl | hk
  · go_enter Try.func33, Try.ntmps33
    go_wp2_with fail
    refine (bare_calls _ _).mono ?_
    rintro e w1 ⟨rfl, hb⟩
    have HB := Lib.hid ((HB1.out _).trans (hb.mono (HB1.out _).size))
    have c6 := box_cell hb 6 _ rfl
    have c7 := box_cell hb 7 _ rfl
    clear hb
    go_wp2_with fail
    all_goals
      go_ret
      refine ⟨?_, HB.out⟩
      refine congrArg Ending.returned (congrArg Value.bool ?_)
      rw [Bool.eq_iff_iff, ent0]
      have hm0 : os.length = 0 ↔ os = [] := List.length_eq_zero_iff
      generalize os.length = m at *
      simp_all
      try omega
  · go_enter Try.func33, Try.ntmps33
    go_wp2_with fail
    all_goals
      go_ret
      refine ⟨?_, below_box (below_alloc _ _) _⟩
      refine congrArg Ending.returned (congrArg Value.bool ?_)
      rw [Bool.eq_iff_iff, ent1, goodRec_eq]
      have hm0 : os.length = 0 ↔ os = [] := List.length_eq_zero_iff
      generalize os.length = m at *
      simp_all
      try omega
  · go_enter Try.func33, Try.ntmps33
    go_wp2_with fail
    refine (bare_calls _ _).mono ?_
    rintro e w1 ⟨rfl, hb⟩
    have HB := Lib.hid ((HB1.out _).trans (hb.mono (HB1.out _).size))
    have c6 := box_cell hb 6 _ rfl
    have c7 := box_cell hb 7 _ rfl
    clear hb
    go_wp2_with fail
    all_goals
      go_ret
      refine ⟨?_, HB.out⟩
      refine congrArg Ending.returned (congrArg Value.bool ?_)
      rw [Bool.eq_iff_iff, ent2 (by omega)]
      have hm0 : os.length = 0 ↔ os = [] := List.length_eq_zero_iff
      generalize os.length = m at *
      simp_all
      try omega
  · go_enter Try.func33, Try.ntmps33
    go_wp2_with fail
    obtain ⟨X, hX⟩ : ∃ X, X = w.alloc (.cells #[.int .i64 3, .int .i64 r.p, .int .i64 r.s, .int .i64 r.q, .string r.key, .int .u32 r.val, .slice ga os.length gc, .int .i64 n] 35) := ⟨_, rfl⟩
    have hXs : X.heap.size = w.heap.size + 1 := by rw [hX]; simp
    have hbX : Below w.heap.size w X := by rw [hX]; exact below_alloc _ _
    have xq : ∀ o u, (#[.int .i64 3, .int .i64 r.p, .int .i64 r.s, .int .i64 r.q, .string r.key, .int .u32 r.val, .slice ga os.length gc, .int .i64 n] : Array Value)[o]? = some u → X.cell? ⟨w.heap.size, o, none⟩ = some u := fun o u h => by rw [hX]; exact box_self o u h
    have x1 := xq 1 _ rfl
    have x2 := xq 2 _ rfl
    have x3 := xq 3 _ rfl
    have x4 := xq 4 _ rfl
    have x5 := xq 5 _ rfl
    have x6 := xq 6 _ rfl
    have x7 := xq 7 _ rfl
    rw [← hX]
    clear hX xq
    have HBX := Lib.hid hbX
    have hO2 := HO.out.below hbX (Nat.le_refl _)
    have HO2 := Lib.hid hO2
    clear hO2 hbX hXs
    go_loopw [4] (fun iv wr => ∃ j : Nat, j ≤ os.length ∧ iv = .int .i64 j ∧ (∀ i, i < j → ∀ hi : i < os.length, os[i].ins.length ≤ 2) ∧ wr = X) (fun iv _ => os.length - (intOf iv).toNat)
    case atStart => exact ⟨0, by omega, rfl, fun i hi => by omega, rfl⟩
    case round =>
      obtain ⟨j, hj, rfl, hins, rfl⟩ := hrel
      have HINS := Lib.hid hins
      clear hins
      by_cases hlt : j < os.length
      · obtain ⟨b, o, rfl, c0, c1, c2, c3, c4, c5, c6⟩ := op_at HO2.out j hlt
        have hi := HO2.out.ins os[j] (List.getElem_mem _)
        obtain ⟨ia, ic, hiv, -⟩ := hi.slice
        rw [hiv] at c1
        clear hi
        by_cases h2 : 2 < os[j].ins.length
        · have HNO := Lib.hid (insOk_at j hlt h2)
          have h2' : decide (2 < os[j].ins.length) = true := decide_eq_true h2
          have h2'' : decide ((2 : Int) < os[j].ins.length) = true := decide_eq_true (by omega)
          clear h2 hiv
          go_wp2_with fail
          go_ret
          exact ⟨by rw [ent3, HNO.out]; rfl, HBX.out⟩
        · have h2' : decide (2 < os[j].ins.length) = false := decide_eq_false h2
          have h2'' : decide ((2 : Int) < os[j].ins.length) = false := decide_eq_false (by omega)
          have hle : os[j].ins.length ≤ 2 := by omega
          have HLE := Lib.hid hle
          clear h2 hiv hle
          go_wp2_with fail
          refine ⟨⟨j + 1, by omega, by go_num, fun i hi hi' => ?_, trivial⟩, by simp [intOf]; omega⟩
          rcases (show i < j ∨ i = j from by omega) with h | rfl
          · exact HINS.out i h hi'
          · exact HLE.out
      · obtain rfl : j = os.length := by omega
        have HOK := Lib.hid (insOk_all (fun i hi => HINS.out i hi hi))
        go_wp2_with fail
        refine (bare_calls _ _).mono ?_
        rintro e w1 ⟨rfl, hb⟩
        have c6 := cell_later hb x6
        have c7 := cell_later hb x7
        have HB := Lib.hid (below_go HBX.out hb)
        clear hb x1 x2 x3 x4 x5 x6 x7
        go_wp2_with fail
        all_goals
          go_ret
          refine ⟨?_, HB.out⟩
          refine congrArg Ending.returned (congrArg Value.bool ?_)
          rw [Bool.eq_iff_iff, ent3, HOK.out]
          clear HINS HO HO2 hj hgc c6 c7
          generalize os.length = m at *
          simp_all
          try omega
  · go_enter Try.func33, Try.ntmps33
    go_wp2_with fail
    refine (bare_calls _ _).mono ?_
    rintro e w1 ⟨rfl, hb⟩
    have HB := Lib.hid ((HB1.out _).trans (hb.mono (HB1.out _).size))
    have c6 := box_cell hb 6 _ rfl
    have c7 := box_cell hb 7 _ rfl
    clear hb
    go_wp2_with fail
    all_goals
      go_ret
      refine ⟨?_, HB.out⟩
      refine congrArg Ending.returned (congrArg Value.bool ?_)
      rw [Bool.eq_iff_iff, ent2 (by omega)]
      have hm0 : os.length = 0 ↔ os = [] := List.length_eq_zero_iff
      generalize os.length = m at *
      simp_all
      try omega
  · go_enter Try.func33, Try.ntmps33
    go_wp2_with fail
    refine (bare_calls _ _).mono ?_
    rintro e w1 ⟨rfl, hb⟩
    have HB := Lib.hid ((HB1.out _).trans (hb.mono (HB1.out _).size))
    have c6 := box_cell hb 6 _ rfl
    have c7 := box_cell hb 7 _ rfl
    clear hb
    go_wp2_with fail
    all_goals
      go_ret
      refine ⟨?_, HB.out⟩
      refine congrArg Ending.returned (congrArg Value.bool ?_)
      rw [Bool.eq_iff_iff, ent2 (by omega)]
      have hm0 : os.length = 0 ↔ os = [] := List.length_eq_zero_iff
      generalize os.length = m at *
      simp_all
      try omega
  · have e0 : (k == 0) = false := beq_eq_false_iff_ne.2 (by omega)
    have e1 : (k == 1) = false := beq_eq_false_iff_ne.2 (by omega)
    have e2 : (k == 2) = false := beq_eq_false_iff_ne.2 (by omega)
    have e3 : (k == 3) = false := beq_eq_false_iff_ne.2 (by omega)
    have e4 : (k == 4) = false := beq_eq_false_iff_ne.2 (by omega)
    have e5 : (k == 5) = false := beq_eq_false_iff_ne.2 (by omega)
    have hg : goodEnt k r os n = false := goodEnt_no (fun h _ _ _ _ _ => by omega)
    rw [hg]
    go_enter Try.func33, Try.ntmps33
    go_wp2_with fail
    all_goals
      go_ret
      exact ⟨rfl, below_alloc _ _⟩
end Go.Proofs.Ytkabfjbmofpkdaa

/- Layer 11: an operator that is right, walked. -/
namespace Go.Proofs.Ytkabfjbmofpkdaa
open Go.RowKit
set_option maxRecDepth 100000

theorem c_drew {w : World} {a : Addr} {v : Value} (h : w.cell? a = some v) : w.drew.cell? a = some v := h
theorem within_calls (n lo hi : Int) (w : World) : Calls Try.prog 61 #[.int .i64 n, .int .i64 lo, .int .i64 hi] w fun e w' => e = .returned (.bool (decide (lo ≤ n ∧ n ≤ hi))) ∧ w' = w := by
  go_enter Try.func61, Try.ntmps61
  go_wp2_with fail
  all_goals
    go_ret
    refine ⟨?_, rfl⟩
    refine congrArg Ending.returned (congrArg Value.bool ?_)
    rw [Bool.eq_iff_iff]
    simp_all
    try omega
theorem inputs_calls (k : Int) (w : World) : Calls Try.prog 83 #[.int .i64 k] w fun e w' => e = .returned (.int .i64 (wantOf k)) ∧ w' = w := by
  by_cases h1 : k = 1
  · subst h1
    go_enter Try.func83, Try.ntmps83
    go_wp2_with fail
    go_ret
    exact ⟨rfl, rfl⟩
  by_cases h5 : k = 5
  · subst h5
    go_enter Try.func83, Try.ntmps83
    go_wp2_with fail
    go_ret
    exact ⟨rfl, rfl⟩
  by_cases h6 : k = 6
  · subst h6
    go_enter Try.func83, Try.ntmps83
    go_wp2_with fail
    go_ret
    exact ⟨rfl, rfl⟩
  have e1 : (k == 1) = false := beq_eq_false_iff_ne.2 h1
  have e5 : (k == 5) = false := beq_eq_false_iff_ne.2 h5
  have e6 : (k == 6) = false := beq_eq_false_iff_ne.2 h6
  have hw : wantOf k = 1 := by unfold wantOf; rw [if_neg h1, if_neg (by omega)]
  rw [hw]
  clear hw h1 h5 h6
  go_enter Try.func83, Try.ntmps83
  go_wp2_with fail
  go_ret
  exact ⟨rfl, rfl⟩

theorem right_no {o : Opr} {i n : Nat} (h : ¬ ((1 ≤ o.kind ∧ o.kind ≤ 8) ∧ ((i + 1 = n) ↔ o.kind = 8) ∧ o.ins.length = wantOf o.kind)) : o.right i n = false := by
  cases hr : o.right i n with
  | false => rfl
  | true =>
    simp only [Opr.right, Bool.and_eq_true, decide_eq_true_eq] at hr
    obtain ⟨⟨⟨hf, hl⟩, hi⟩, -⟩ := hr
    refine absurd ⟨?_, hi, hl⟩ h
    unfold Opr.form at hf
    split at hf
    · omega
    split at hf
    · omega
    split at hf
    · omega
    split at hf
    · omega
    split at hf
    · omega
    split at hf
    · omega
    · cases hf
theorem right_ins {o : Opr} {i n : Nat} (j : Nat) (hj : j < o.ins.length) (h : ¬ (0 ≤ o.ins[j] ∧ o.ins[j] ≤ (i : Int) - 1)) : o.right i n = false := by
  cases hr : o.right i n with
  | false => rfl
  | true =>
    simp only [Opr.right, Bool.and_eq_true] at hr
    have := List.all_eq_true.1 hr.2 o.ins[j] (List.getElem_mem _)
    simp only [decide_eq_true_eq] at this
    omega
theorem right_form {o : Opr} {i n : Nat} (h : ((i + 1 = n) ↔ o.kind = 8) ∧ o.ins.length = wantOf o.kind) (hi : ∀ j, ∀ hj : j < o.ins.length, 0 ≤ o.ins[j] ∧ o.ins[j] ≤ (i : Int) - 1) : o.right i n = o.form := by
  have ha : (o.ins.all fun k => decide (0 ≤ k ∧ k < (i : Int))) = true := by
    refine List.all_eq_true.2 fun k hk => ?_
    obtain ⟨j, hj, rfl⟩ := List.getElem_of_mem hk
    have := hi j hj
    simp only [decide_eq_true_eq]
    omega
  simp only [Opr.right, ha, h.2, decide_true, Bool.and_true, decide_eq_true h.1]

theorem opright_ways (k : Int) (i n l : Nat) :
    (decide (1 ≤ k ∧ k ≤ 8) = false ∧ ¬ (1 ≤ k ∧ k ≤ 8)) ∨
    (decide (1 ≤ k ∧ k ≤ 8) = true ∧ ((k == 8) == ((i : Int) == (n : Int) - 1)) = false ∧ ¬ ((i + 1 = n) ↔ k = 8)) ∨
    (decide (1 ≤ k ∧ k ≤ 8) = true ∧ ((k == 8) == ((i : Int) == (n : Int) - 1)) = true ∧ ((l : Int) != (wantOf k : Int)) = true ∧ ¬ l = wantOf k) ∨
    (decide (1 ≤ k ∧ k ≤ 8) = true ∧ ((k == 8) == ((i : Int) == (n : Int) - 1)) = true ∧ ((l : Int) != (wantOf k : Int)) = false ∧ (1 ≤ k ∧ k ≤ 8) ∧ ((i + 1 = n) ↔ k = 8) ∧ l = wantOf k) := by
  have hq : ((k == 8) == ((i : Int) == (n : Int) - 1)) = true ↔ ((i + 1 = n) ↔ k = 8) := by
    rw [beq_iff_eq, Bool.eq_iff_iff, beq_iff_eq, beq_iff_eq]
    omega
  have hq2 : ((k == 8) == ((i : Int) == (n : Int) - 1)) = false ↔ ¬ ((i + 1 = n) ↔ k = 8) := by
    rw [← hq]; simp
  have hl : ((l : Int) != (wantOf k : Int)) = false ↔ l = wantOf k := by rw [bne_eq_false_iff_eq]; omega
  have hl2 : ((l : Int) != (wantOf k : Int)) = true ↔ ¬ l = wantOf k := by rw [bne_iff_ne]; omega
  rw [hq, hq2, hl, hl2]
  simp only [decide_eq_true_eq, decide_eq_false_iff_not]
  omega

set_option maxHeartbeats 4000000 in
theorem opright_calls (o : Opr) (i n : Nat) (w : World) (hI : Ints w o.iv o.ins) (hn : n ≤ 1000000000) (hi : i ≤ n) :
    Calls Try.prog 62 #[.agg #[.int .i64 o.kind, o.iv, .int .i64 o.arg, .int .u32 o.num, .int .i64 o.rounds, .int .i64 o.test, .int .u32 o.lim], .int .i64 i, .int .i64 n] w fun e w' => e = .returned (.bool (o.right i n)) ∧ Below w.heap.size w w' := by
  have HNO := Lib.hid (right_no (o := o) (i := i) (n := n))
  have HNI := Lib.hid (right_ins (o := o) (i := i) (n := n))
  have HRF := Lib.hid (right_form (o := o) (i := i) (n := n))
  have HFM : Hid (o.form = o.form) := Lib.hid rfl
  generalize o.right i n = R at *
  have hform : ∃ F, F = o.form := ⟨_, rfl⟩
  obtain ⟨F, hF⟩ := hform
  have HF := Lib.hid hF
  clear hF HFM
  obtain ⟨kind, iv, ins, arg, num, rounds, test, lim⟩ := o
  simp only at hI HNO HNI ⊢
  have HI := Lib.hid hI
  obtain ⟨ia, ic, rfl, hic, hic2⟩ := Rd.slice hI
  clear hI
  obtain ⟨X, hX⟩ : ∃ X, X = w.alloc (.cells #[.int .i64 kind, .slice ia ins.length ic, .int .i64 arg, .int .u32 num, .int .i64 rounds, .int .i64 test, .int .u32 lim] 90) := ⟨_, rfl⟩
  have hbX : Below w.heap.size w X := by rw [hX]; exact below_alloc _ _
  have x0 : X.cell? ⟨w.heap.size, 0, none⟩ = some (.int .i64 kind) := by rw [hX]; exact box_self _ _ rfl
  have x1 : X.cell? ⟨w.heap.size, 1, none⟩ = some (.slice ia ins.length ic) := by rw [hX]; exact box_self _ _ rfl
  have x2 : X.cell? ⟨w.heap.size, 2, none⟩ = some (.int .i64 arg) := by rw [hX]; exact box_self _ _ rfl
  have x3 : X.cell? ⟨w.heap.size, 3, none⟩ = some (.int .u32 num) := by rw [hX]; exact box_self _ _ rfl
  have x4 : X.cell? ⟨w.heap.size, 4, none⟩ = some (.int .i64 rounds) := by rw [hX]; exact box_self _ _ rfl
  have x5 : X.cell? ⟨w.heap.size, 5, none⟩ = some (.int .i64 test) := by rw [hX]; exact box_self _ _ rfl
  have x6 : X.cell? ⟨w.heap.size, 6, none⟩ = some (.int .u32 lim) := by rw [hX]; exact box_self _ _ rfl
  have HIX := Lib.hid (Rd.below HI.out hbX (Nat.le_refl _))
  have HBX := Lib.hid hbX
  have HX := Lib.hid hX
  have HC := Lib.hid (And.intro x0 x1)
  clear hX hbX
  have hwr : IntKind.i64.wrap ((n : Int) - 1) = (n : Int) - 1 := by rw [IntKind.wrap_i64]; omega
  rcases opright_ways kind i n ins.length with ⟨k1, hg⟩ | ⟨k1, k2, hg⟩ | ⟨k1, k2, k3, hg⟩ | ⟨k1, k2, k3, hg⟩
  · have HG := Lib.hid hg
    clear hg
    go_enter Try.func62, Try.ntmps62
    go_wp2_with fail
    rw [← HX.out]
    refine region_m [(0, false), (1, false), (2, true), (3, false), (4, false), (5, false), (6, false), (7, false), (8, false), (9, false), (10, false), (11, false), (12, false), (13, false), (14, false), (15, false), (16, false), (17, false), (18, false), (19, false), (20, false), (21, false), (22, false)] 23 (fun V => V.cell? ⟨w.heap.size, 0, none⟩ = some (.int .i64 kind) ∧ V.cell? ⟨w.heap.size, 1, none⟩ = some (.slice ia ins.length ic)) (by kernel_rfl) (by kernel_rfl) HC.out ?_
    iterate 2
      first
      | (refine m_take (v := ?_) rfl rfl ?_ ?_
         rotate_left
         · intro W hW
           go_simp
           with_reducible rfl
         simp only [Act.put, List.setIfInBounds_toArray, List.set_cons_zero, List.set_cons_succ])
      | (refine m_skip rfl rfl ?_
         simp only [Act.put, List.setIfInBounds_toArray, List.set_cons_zero, List.set_cons_succ])
    refine m_loud rfl (fun K hK => ?_)
    have HK := Lib.hid hK
    clear hK
    go_simp
    refine (within_calls _ _ _ _).mono ?_
    rintro e w1 ⟨rfl, rfl⟩
    rw [k1]
    refine HK.out _ _ HC.out ?_
    clear HK
    iterate 20
      first
      | (refine m_take (v := ?_) rfl rfl ?_ ?_
         rotate_left
         · intro W hW
           go_simp
           with_reducible rfl
         simp only [Act.put, List.setIfInBounds_toArray, List.set_cons_zero, List.set_cons_succ])
      | (refine m_skip rfl rfl ?_
         simp only [Act.put, List.setIfInBounds_toArray, List.set_cons_zero, List.set_cons_succ])
    refine m_done ?_
    simp only [List.drop_succ_cons, List.drop_zero]
    go_wp2
    simp only [NP]
    go_wp2_with fail
    go_ret
    exact ⟨by rw [HNO.out (fun h => HG.out h.1)]; rfl, HBX.out.drew⟩
  · have HG := Lib.hid hg
    clear hg
    go_enter Try.func62, Try.ntmps62
    go_wp2_with fail
    rw [← HX.out]
    refine region_m [(0, false), (1, false), (2, true), (3, false), (4, false), (5, false), (6, false), (7, false), (8, false), (9, false), (10, false), (11, false), (12, false), (13, false), (14, false), (15, false), (16, false), (17, false), (18, false), (19, false), (20, false), (21, false), (22, false)] 23 (fun V => V.cell? ⟨w.heap.size, 0, none⟩ = some (.int .i64 kind) ∧ V.cell? ⟨w.heap.size, 1, none⟩ = some (.slice ia ins.length ic)) (by kernel_rfl) (by kernel_rfl) HC.out ?_
    iterate 2
      first
      | (refine m_take (v := ?_) rfl rfl ?_ ?_
         rotate_left
         · intro W hW
           go_simp
           with_reducible rfl
         simp only [Act.put, List.setIfInBounds_toArray, List.set_cons_zero, List.set_cons_succ])
      | (refine m_skip rfl rfl ?_
         simp only [Act.put, List.setIfInBounds_toArray, List.set_cons_zero, List.set_cons_succ])
    refine m_loud rfl (fun K hK => ?_)
    have HK := Lib.hid hK
    clear hK
    go_simp
    refine (within_calls _ _ _ _).mono ?_
    rintro e w1 ⟨rfl, rfl⟩
    rw [k1]
    refine HK.out _ _ HC.out ?_
    clear HK
    iterate 20
      first
      | (refine m_take (v := ?_) rfl rfl ?_ ?_
         rotate_left
         · intro W hW
           go_simp
           with_reducible rfl
         simp only [Act.put, List.setIfInBounds_toArray, List.set_cons_zero, List.set_cons_succ])
      | (refine m_skip rfl rfl ?_
         simp only [Act.put, List.setIfInBounds_toArray, List.set_cons_zero, List.set_cons_succ])
    refine m_done ?_
    simp only [List.drop_succ_cons, List.drop_zero]
    go_wp2
    simp only [NP]
    go_wp2_with fail
    go_ret
    exact ⟨by rw [HNO.out (fun h => HG.out h.2.1)]; rfl, HBX.out.drew⟩
  · have HG := Lib.hid hg
    clear hg
    go_enter Try.func62, Try.ntmps62
    go_wp2_with fail
    rw [← HX.out]
    refine region_m [(0, false), (1, false), (2, true), (3, false), (4, false), (5, false), (6, false), (7, false), (8, false), (9, false), (10, false), (11, false), (12, false), (13, false), (14, false), (15, false), (16, false), (17, false), (18, false), (19, false), (20, true), (21, false), (22, false)] 23 (fun V => V.cell? ⟨w.heap.size, 0, none⟩ = some (.int .i64 kind) ∧ V.cell? ⟨w.heap.size, 1, none⟩ = some (.slice ia ins.length ic)) (by kernel_rfl) (by kernel_rfl) HC.out ?_
    iterate 2
      first
      | (refine m_take (v := ?_) rfl rfl ?_ ?_
         rotate_left
         · intro W hW
           go_simp
           with_reducible rfl
         simp only [Act.put, List.setIfInBounds_toArray, List.set_cons_zero, List.set_cons_succ])
      | (refine m_skip rfl rfl ?_
         simp only [Act.put, List.setIfInBounds_toArray, List.set_cons_zero, List.set_cons_succ])
    refine m_loud rfl (fun K hK => ?_)
    have HK := Lib.hid hK
    clear hK
    go_simp
    refine (within_calls _ _ _ _).mono ?_
    rintro e w1 ⟨rfl, rfl⟩
    rw [k1]
    refine HK.out _ _ HC.out ?_
    clear HK
    iterate 17
      first
      | (refine m_take (v := ?_) rfl rfl ?_ ?_
         rotate_left
         · intro W hW
           go_simp
           with_reducible rfl
         simp only [Act.put, List.setIfInBounds_toArray, List.set_cons_zero, List.set_cons_succ])
      | (refine m_skip rfl rfl ?_
         simp only [Act.put, List.setIfInBounds_toArray, List.set_cons_zero, List.set_cons_succ])
    refine m_loud rfl (fun K hK => ?_)
    have HK := Lib.hid hK
    clear hK
    go_simp
    refine (inputs_calls _ _).mono ?_
    rintro e w1 ⟨rfl, rfl⟩
    refine HK.out _ _ HC.out ?_
    clear HK
    iterate 2
      first
      | (refine m_take (v := ?_) rfl rfl ?_ ?_
         rotate_left
         · intro W hW
           go_simp
           with_reducible rfl
         simp only [Act.put, List.setIfInBounds_toArray, List.set_cons_zero, List.set_cons_succ])
      | (refine m_skip rfl rfl ?_
         simp only [Act.put, List.setIfInBounds_toArray, List.set_cons_zero, List.set_cons_succ])
    refine m_done ?_
    simp only [List.drop_succ_cons, List.drop_zero]
    go_wp2
    simp only [NP]
    go_wp2_with fail
    go_ret
    exact ⟨by rw [HNO.out (fun h => HG.out h.2.2)]; rfl, HBX.out.drew⟩
  · have HG := Lib.hid hg
    clear hg
    go_enter Try.func62, Try.ntmps62
    go_wp2_with fail
    rw [← HX.out]
    refine region_m [(0, false), (1, false), (2, true), (3, false), (4, false), (5, false), (6, false), (7, false), (8, false), (9, false), (10, false), (11, false), (12, false), (13, false), (14, false), (15, false), (16, false), (17, false), (18, false), (19, false), (20, true), (21, false), (22, false)] 23 (fun V => V.cell? ⟨w.heap.size, 0, none⟩ = some (.int .i64 kind) ∧ V.cell? ⟨w.heap.size, 1, none⟩ = some (.slice ia ins.length ic)) (by kernel_rfl) (by kernel_rfl) HC.out ?_
    iterate 2
      first
      | (refine m_take (v := ?_) rfl rfl ?_ ?_
         rotate_left
         · intro W hW
           go_simp
           with_reducible rfl
         simp only [Act.put, List.setIfInBounds_toArray, List.set_cons_zero, List.set_cons_succ])
      | (refine m_skip rfl rfl ?_
         simp only [Act.put, List.setIfInBounds_toArray, List.set_cons_zero, List.set_cons_succ])
    refine m_loud rfl (fun K hK => ?_)
    have HK := Lib.hid hK
    clear hK
    go_simp
    refine (within_calls _ _ _ _).mono ?_
    rintro e w1 ⟨rfl, rfl⟩
    rw [k1]
    refine HK.out _ _ HC.out ?_
    clear HK
    iterate 17
      first
      | (refine m_take (v := ?_) rfl rfl ?_ ?_
         rotate_left
         · intro W hW
           go_simp
           with_reducible rfl
         simp only [Act.put, List.setIfInBounds_toArray, List.set_cons_zero, List.set_cons_succ])
      | (refine m_skip rfl rfl ?_
         simp only [Act.put, List.setIfInBounds_toArray, List.set_cons_zero, List.set_cons_succ])
    refine m_loud rfl (fun K hK => ?_)
    have HK := Lib.hid hK
    clear hK
    go_simp
    refine (inputs_calls _ _).mono ?_
    rintro e w1 ⟨rfl, rfl⟩
    refine HK.out _ _ HC.out ?_
    clear HK
    iterate 2
      first
      | (refine m_take (v := ?_) rfl rfl ?_ ?_
         rotate_left
         · intro W hW
           go_simp
           with_reducible rfl
         simp only [Act.put, List.setIfInBounds_toArray, List.set_cons_zero, List.set_cons_succ])
      | (refine m_skip rfl rfl ?_
         simp only [Act.put, List.setIfInBounds_toArray, List.set_cons_zero, List.set_cons_succ])
    refine m_done ?_
    simp only [List.drop_succ_cons, List.drop_zero]
    go_wp2
    simp only [NP]
    go_wp2_with fail
    go_loopw [8, 38] (fun _ iv wr => ∃ j : Nat, j ≤ ins.length ∧ iv = .int .i64 j ∧ (∀ i', i' < j → ∀ hi : i' < ins.length, 0 ≤ ins[i'] ∧ ins[i'] ≤ (i : Int) - 1) ∧ Below X.heap.size X wr) (fun _ iv _ => ins.length - (intOf iv).toNat)
    case atStart => exact ⟨0, by omega, rfl, fun i hi => by omega, (Below.refl _ _).drew⟩
    case round =>
      obtain ⟨j, hj, rfl, hins, hb⟩ := hrel
      have HINS := Lib.hid hins
      have HB := Lib.hid hb
      clear hins hb
      by_cases hlt : j < ins.length
      · have hor := Rd.below HIX.out HB.out (Nat.le_refl _)
        obtain ⟨b, o, rfl, c0⟩ := int_at hor j hlt
        clear hor
        by_cases h2 : 0 ≤ ins[j] ∧ ins[j] ≤ (i : Int) - 1
        · have h2' : decide (0 ≤ ins[j] ∧ ins[j] ≤ (i : Int) - 1) = true := decide_eq_true h2
          have H2 := Lib.hid h2
          clear h2
          go_wp2_with fail
          refine (within_calls _ _ _ _).mono ?_
          rintro e w1 ⟨rfl, rfl⟩
          rw [h2']
          go_wp2_with fail
          go_roundw
          case rel =>
            refine ⟨j + 1, by omega, by go_num, fun i hi hi' => ?_, HB.out⟩
            rcases (show i < j ∨ i = j from by omega) with h | rfl
            · exact HINS.out i h hi'
            · exact H2.out
          case measure => simp [intOf]; omega
        · have h2' : decide (0 ≤ ins[j] ∧ ins[j] ≤ (i : Int) - 1) = false := decide_eq_false h2
          have H2 := Lib.hid (HNI.out j hlt h2)
          clear h2
          go_wp2_with fail
          refine (within_calls _ _ _ _).mono ?_
          rintro e w1 ⟨rfl, rfl⟩
          rw [h2']
          go_wp2_with fail
          go_ret
          exact ⟨by rw [H2.out]; rfl, below_go HBX.out HB.out⟩
      · obtain rfl : j = ins.length := by omega
        have hr := HRF.out HG.out.2 (fun j hj => HINS.out j hj hj)
        have HR := Lib.hid hr
        have hk := HG.out.1
        have HBW := Lib.hid (below_go HBX.out HB.out)
        have y0 := cell_later HB.out x0
        have y2 := cell_later HB.out x2
        have y3 := cell_later HB.out x3
        have y4 := cell_later HB.out x4
        have y5 := cell_later HB.out x5
        have y6 := cell_later HB.out x6
        clear hr x0 x1 x2 x3 x4 x5 x6 HNI HNO HRF HINS HIX HB HC
        go_wp2_with fail
        refine region_m [(0, false), (1, false), (2, false), (3, false), (4, false), (5, false)] 6 (fun V => V.cell? ⟨w.heap.size, 0, none⟩ = some (.int .i64 kind)) (by kernel_rfl) (by kernel_rfl) y0 ?_
        iterate 6
          first
          | (refine m_take (v := ?_) rfl rfl ?_ ?_
             rotate_left
             · intro W hW
               go_simp
               with_reducible rfl
             simp only [Act.put, List.setIfInBounds_toArray, List.set_cons_zero, List.set_cons_succ])
          | (refine m_skip rfl rfl ?_
             simp only [Act.put, List.setIfInBounds_toArray, List.set_cons_zero, List.set_cons_succ])
        refine m_done ?_
        simp only [List.drop_succ_cons, List.drop_zero]
        go_wp2
        simp only [NP]
        have y0 := c_drew y0
        have y2 := c_drew y2
        have y3 := c_drew y3
        have y4 := c_drew y4
        have y5 := c_drew y5
        have y6 := c_drew y6
        have HBW := Lib.hid HBW.out.drew
        generalize wr.drew = wd at *
        rcases (show kind = 1 ∨ kind = 2 ∨ kind = 3 ∨ kind = 4 ∨ kind = 5 ∨ kind = 6 ∨ kind = 7 ∨ kind = 8 from by omega) with rfl | rfl | rfl | rfl | rfl | rfl | rfl | rfl
        all_goals
          go_wp2_with (go_at_call 61; refine (within_calls _ _ _ _).mono ?_; rintro e w1 ⟨rfl, rfl⟩)
          all_goals
            go_ret
            refine ⟨?_, HBW.out⟩
            refine congrArg Ending.returned (congrArg Value.bool ?_)
            rw [HR.out, Bool.eq_iff_iff]
            simp_all [Opr.form, Opr.zero, Opr.zero3]
            try omega
end Go.Proofs.Ytkabfjbmofpkdaa

/- Layer 11: Check of a graph, walked; the document's too. -/
namespace Go.Proofs.Ytkabfjbmofpkdaa
open Go.RowKit
set_option maxRecDepth 100000

def graphCode (os : List Opr) : Int := if 1 ≤ os.length ∧ os.length ≤ 16 then (if rightTo os os.length = true then 0 else 13) else 2
theorem graphCode_ok (os : List Opr) : (graphCode os = 0) ↔ checkOk os = true := by
  unfold graphCode checkOk
  simp only [Bool.and_eq_true, decide_eq_true_eq]
  split
  · rename_i h
    split
    · rename_i h2; exact ⟨fun _ => ⟨h, h2⟩, fun _ => rfl⟩
    · rename_i h2; exact ⟨fun h => by omega, fun h => absurd h.2 h2⟩
  · rename_i h
    exact ⟨fun h => by omega, fun h2 => absurd h2.1 h⟩
theorem graphCode_beq (os : List Opr) : (graphCode os == 0) = checkOk os := by
  rw [Bool.eq_iff_iff, beq_iff_eq, graphCode_ok]

set_option maxHeartbeats 2000000 in
theorem check_calls (gv : Value) (os : List Opr) (w : World) (hO : OpsR w gv os) (hl : os.length ≤ 1000000000) :
    Calls Try.prog 31 #[.agg #[gv]] w fun e w' => (∃ k, e = .returned (.tuple #[.int .i64 k, .int .i64 (graphCode os)])) ∧ Below w.heap.size w w' := by
  have HO := Lib.hid hO
  obtain ⟨ga, gc, rfl, hgc, hgc2⟩ := hO.row.slice
  clear hO
  obtain ⟨X, hX⟩ : ∃ X, X = w.alloc (.cells #[.slice ga os.length gc] 28) := ⟨_, rfl⟩
  have hbX : Below w.heap.size w X := by rw [hX]; exact below_alloc _ _
  have x0 : X.cell? ⟨w.heap.size, 0, none⟩ = some (.slice ga os.length gc) := by rw [hX]; exact box_self _ _ rfl
  have HOX := Lib.hid (HO.out.below hbX (Nat.le_refl _))
  have HBX := Lib.hid hbX
  have HX := Lib.hid hX
  clear hX hbX
  by_cases hr : 1 ≤ (os.length : Int) ∧ (os.length : Int) ≤ 16
  · have hd : decide (1 ≤ (os.length : Int) ∧ (os.length : Int) ≤ 16) = true := decide_eq_true hr
    have HR := Lib.hid (show 1 ≤ os.length ∧ os.length ≤ 16 from by omega)
    clear hr
    go_enter Try.func31, Try.ntmps31
    go_wp2_with fail
    refine (within_calls _ _ _ _).mono ?_
    rintro e w1 ⟨rfl, rfl⟩
    rw [hd]
    rw [← HX.out]
    go_wp2_with fail
    go_loopw [4, 5, 14] (fun _ _ iv wr => ∃ j : Nat, j ≤ os.length ∧ iv = .int .i64 j ∧ rightTo os j = true ∧ Below X.heap.size X wr) (fun _ _ iv _ => os.length - (intOf iv).toNat)
    case atStart => exact ⟨0, by omega, rfl, rightTo_zero os, Below.refl _ _⟩
    case round =>
      obtain ⟨j, hj, rfl, hto, hb⟩ := hrel
      have HTO := Lib.hid hto
      have HB := Lib.hid hb
      clear hto hb
      have x0' := cell_later HB.out x0
      have hws : w.heap.size < wr.heap.size := World.block_lt_of_cell? wr _ x0'
      by_cases hlt : j < os.length
      · have hor := HOX.out.below HB.out (Nat.le_refl _)
        obtain ⟨b, o, rfl, c0, c1, c2, c3, c4, c5, c6⟩ := op_at hor j hlt
        have hin := hor.ins os[j] (List.getElem_mem _)
        obtain ⟨ia, ic, hiv, -⟩ := hin.slice
        rw [hiv] at c1 hin
        have HIN := Lib.hid hin
        have HS := Lib.hid (rightTo_succ os j hlt)
        have HNO := Lib.hid (rightTo_no os j hlt)
        have HCALL := Lib.hid (opright_calls os[j] j os.length)
        clear hor hin
        generalize os[j] = O at *
        obtain ⟨kind, iv, ins, arg, num, rounds, test, lim⟩ := O
        simp only at c0 c1 c2 c3 c4 c5 c6 hiv HIN
        subst hiv
        have hal := below_alloc wr (.cells #[.int .i64 kind, .slice ia ins.length ic, .int .i64 arg, .int .u32 num, .int .i64 rounds, .int .i64 test, .int .u32 lim] 90)
        have HAL := Lib.hid hal
        clear hal
        go_wp2_with fail
        refine (HCALL.out _ (Rd.below HIN.out HAL.out (Nat.le_refl _)) (by omega) (by omega)).mono ?_
        rintro e w3 ⟨rfl, hb3⟩
        have HB3 := Lib.hid (below_go HB.out (below_go HAL.out hb3))
        have y0 := cell_later (below_go HAL.out hb3) x0'
        clear hb3
        cases hq : Opr.right ⟨kind, .slice ia ins.length ic, ins, arg, num, rounds, test, lim⟩ j os.length with
        | true =>
          have HQ := Lib.hid hq
          clear hq
          go_wp2_with fail
          go_roundw
          case rel => exact ⟨j + 1, by omega, by go_num, by rw [HS.out, HTO.out, HQ.out]; rfl, HB3.out⟩
          case measure => simp [intOf]; omega
        | false =>
          have HQ := Lib.hid (HNO.out hq)
          clear hq
          go_wp2_with fail
          go_ret2
          refine ⟨⟨(j : Int), ?_⟩, below_go HBX.out HB3.out⟩
          unfold graphCode
          rw [if_pos HR.out, if_neg (by rw [HQ.out]; decide)]
          rfl
      · obtain rfl : j = os.length := by omega
        go_wp2_with fail
        go_ret2
        refine ⟨⟨(0 : Int), ?_⟩, below_go HBX.out HB.out⟩
        unfold graphCode
        rw [if_pos HR.out, if_pos HTO.out]
        rfl
  · have hd : decide (1 ≤ (os.length : Int) ∧ (os.length : Int) ≤ 16) = false := decide_eq_false hr
    have HR := Lib.hid (show ¬ (1 ≤ os.length ∧ os.length ≤ 16) from by omega)
    clear hr
    go_enter Try.func31, Try.ntmps31
    go_wp2_with fail
    refine (within_calls _ _ _ _).mono ?_
    rintro e w1 ⟨rfl, rfl⟩
    rw [hd]
    rw [← HX.out]
    go_wp2_with fail
    go_ret2
    refine ⟨⟨(0 : Int), ?_⟩, HBX.out⟩
    unfold graphCode
    rw [if_neg HR.out]
    rfl
end Go.Proofs.Ytkabfjbmofpkdaa

/- Layer 11: the document's Check of a graph, walked: its parts. -/
namespace Go.Proofs.Ytkabfjbmofpkdaa
open Go.RowKit
set_option maxRecDepth 100000

theorem rwant_calls (k : Int) (w : World) : Calls Try.prog 68 #[.int .i64 k] w fun e w' => e = .returned (.int .i64 (wantOf k)) ∧ w' = w := by
  by_cases h1 : k = 1
  · subst h1
    go_enter Try.func68, Try.ntmps68
    go_wp2_with fail
    go_ret
    exact ⟨rfl, rfl⟩
  by_cases h5 : k = 5
  · subst h5
    go_enter Try.func68, Try.ntmps68
    go_wp2_with fail
    go_ret
    exact ⟨rfl, rfl⟩
  by_cases h6 : k = 6
  · subst h6
    go_enter Try.func68, Try.ntmps68
    go_wp2_with fail
    go_ret
    exact ⟨rfl, rfl⟩
  have e1 : (k == 1) = false := beq_eq_false_iff_ne.2 h1
  have e5 : (k == 5) = false := beq_eq_false_iff_ne.2 h5
  have e6 : (k == 6) = false := beq_eq_false_iff_ne.2 h6
  have hw : wantOf k = 1 := by unfold wantOf; rw [if_neg h1, if_neg (by omega)]
  rw [hw]
  clear hw h1 h5 h6
  go_enter Try.func68, Try.ntmps68
  go_wp2_with fail
  go_ret
  exact ⟨rfl, rfl⟩

theorem rzero_calls (o : Opr) (w : World) : Calls Try.prog 86 #[.agg #[.int .i64 o.kind, o.iv, .int .i64 o.arg, .int .u32 o.num, .int .i64 o.rounds, .int .i64 o.test, .int .u32 o.lim]] w fun e w' => e = .returned (.bool o.zero) ∧ Below w.heap.size w w' := by
  go_enter Try.func86, Try.ntmps86
  go_wp2_with fail
  all_goals
    go_ret
    refine ⟨?_, below_alloc _ _⟩
    refine congrArg Ending.returned (congrArg Value.bool ?_)
    rw [Bool.eq_iff_iff]
    simp_all [Opr.zero]

set_option maxHeartbeats 2000000 in
theorem rform_calls (o : Opr) (w : World) (ia : Option Addr) (n ic : Nat) (hiv : o.iv = .slice ia n ic) : Calls Try.prog 67 #[.agg #[.int .i64 o.kind, o.iv, .int .i64 o.arg, .int .u32 o.num, .int .i64 o.rounds, .int .i64 o.test, .int .u32 o.lim]] w fun e w' => e = .returned (.bool o.form) ∧ Below w.heap.size w w' := by
  obtain ⟨kind, iv, ins, arg, num, rounds, test, lim⟩ := o
  simp only at hiv ⊢
  subst hiv
  by_cases hk : 1 ≤ kind ∧ kind ≤ 8
  · rcases (show kind = 1 ∨ kind = 2 ∨ kind = 3 ∨ kind = 4 ∨ kind = 5 ∨ kind = 6 ∨ kind = 7 ∨ kind = 8 from by omega) with rfl | rfl | rfl | rfl | rfl | rfl | rfl | rfl
    all_goals
      go_enter Try.func67, Try.ntmps67
      go_wp2_with (go_at_call 86; refine (rzero_calls ⟨_, _, ins, _, _, _, _, _⟩ _).mono ?_; rintro e w1 ⟨rfl, hb1⟩; have HB := Lib.hid (below_go (below_alloc _ _) hb1); clear hb1)
    all_goals
      go_ret
      refine ⟨?_, by first | exact HB.out | exact below_alloc _ _⟩
      refine congrArg Ending.returned (congrArg Value.bool ?_)
      rw [Bool.eq_iff_iff]
      simp_all [Opr.form, Opr.zero, Opr.zero3]
      try omega
  · have e1 : (kind == 1) = false := beq_eq_false_iff_ne.2 (by omega)
    have e2 : (kind == 2) = false := beq_eq_false_iff_ne.2 (by omega)
    have e3 : (kind == 3) = false := beq_eq_false_iff_ne.2 (by omega)
    have e4 : (kind == 4) = false := beq_eq_false_iff_ne.2 (by omega)
    have e5 : (kind == 5) = false := beq_eq_false_iff_ne.2 (by omega)
    have e6 : (kind == 6) = false := beq_eq_false_iff_ne.2 (by omega)
    have e7 : (kind == 7) = false := beq_eq_false_iff_ne.2 (by omega)
    have e8 : (kind == 8) = false := beq_eq_false_iff_ne.2 (by omega)
    have hf : Opr.form ⟨kind, .slice ia n ic, ins, arg, num, rounds, test, lim⟩ = false := by
      unfold Opr.form
      simp only
      rw [if_neg (by omega), if_neg (by omega), if_neg (by omega), if_neg (by omega), if_neg (by omega), if_neg (by omega)]
    rw [hf]
    clear hf hk
    go_enter Try.func67, Try.ntmps67
    go_wp2_with fail
    go_ret
    exact ⟨rfl, below_alloc _ _⟩
end Go.Proofs.Ytkabfjbmofpkdaa

/- Layer 11: the document's Check of a graph, walked. -/
namespace Go.Proofs.Ytkabfjbmofpkdaa
open Go.RowKit
set_option maxRecDepth 100000

def insTo (o : Opr) (i m : Nat) : Bool := (o.ins.take m).all fun k => decide (0 ≤ k ∧ k < (i : Int))
theorem insTo_zero (o : Opr) (i : Nat) : insTo o i 0 = true := by simp [insTo]
theorem insTo_succ (o : Opr) (i m : Nat) (h : m < o.ins.length) : insTo o i (m + 1) = (insTo o i m && decide (0 ≤ o.ins[m] ∧ o.ins[m] < (i : Int))) := by
  unfold insTo
  rw [List.take_succ_eq_append_getElem h, List.all_append]
  simp only [List.all_cons, List.all_nil, Bool.and_true]
theorem right_eq (o : Opr) (i n : Nat) : o.right i n = (o.form && ((o.ins.length : Int) == (wantOf o.kind : Int)) && (((i : Int) == (n : Int) - 1) == (o.kind == 8)) && insTo o i o.ins.length) := by
  have e1 : decide (o.ins.length = wantOf o.kind) = ((o.ins.length : Int) == (wantOf o.kind : Int)) := by rw [Bool.eq_iff_iff, decide_eq_true_eq, beq_iff_eq]; omega
  have e2 : decide ((i + 1 = n) ↔ o.kind = 8) = (((i : Int) == (n : Int) - 1) == (o.kind == 8)) := by
    rw [Bool.eq_iff_iff, decide_eq_true_eq, beq_iff_eq, Bool.eq_iff_iff, beq_iff_eq, beq_iff_eq]
    omega
  rw [Opr.right, e1, e2, insTo, List.take_length]
/-- The ways through the first test: form fails; the count; the place; none. -/
theorem first_ways (f a b : Bool) : (f = false ∧ (f && a && b) = false) ∨ (f = true ∧ a = false ∧ (f && a && b) = false) ∨ (f = true ∧ a = true ∧ (f && a && b) = b) := by cases f <;> cases a <;> simp

set_option maxHeartbeats 4000000 in
theorem rcheck_calls (gv : Value) (os : List Opr) (w : World) (hO : OpsR w gv os) (hl : os.length ≤ 1000000000) :
    Calls Try.prog 35 #[.agg #[gv]] w fun e w' => (∃ k, e = .returned (.tuple #[.int .i64 k, .int .i64 (graphCode os)])) ∧ Below w.heap.size w w' := by
  have HO := Lib.hid hO
  obtain ⟨ga, gc, rfl, hgc, hgc2⟩ := hO.row.slice
  clear hO
  obtain ⟨X, hX⟩ : ∃ X, X = w.alloc (.cells #[.slice ga os.length gc] 28) := ⟨_, rfl⟩
  have hbX : Below w.heap.size w X := by rw [hX]; exact below_alloc _ _
  have x0 : X.cell? ⟨w.heap.size, 0, none⟩ = some (.slice ga os.length gc) := by rw [hX]; exact box_self _ _ rfl
  have HOX := Lib.hid (HO.out.below hbX (Nat.le_refl _))
  have HBX := Lib.hid hbX
  have HX := Lib.hid hX
  clear hX hbX
  by_cases hr : 1 ≤ os.length ∧ os.length ≤ 16
  · have d1 : decide ((os.length : Int) < 1) = false := decide_eq_false (by omega)
    have d2 : decide ((16 : Int) < os.length) = false := decide_eq_false (by omega)
    have HR := Lib.hid hr
    clear hr
    go_enter Try.func35, Try.ntmps35
    go_wp2_with fail
    rw [← HX.out]
    go_loopw [5, 6, 7, 8] (fun iv _ _ _ wr => ∃ j : Nat, j ≤ os.length ∧ iv = .int .i64 j ∧ rightTo os j = true ∧ Below X.heap.size X wr) (fun iv _ _ _ _ => os.length - (intOf iv).toNat)
    case atStart => exact ⟨0, by omega, rfl, rightTo_zero os, Below.refl _ _⟩
    case round =>
      obtain ⟨j, hj, rfl, hto, hb⟩ := hrel
      have HTO := Lib.hid hto
      have HB := Lib.hid hb
      clear hto hb
      have x0' := cell_later HB.out x0
      have hws : w.heap.size < wr.heap.size := World.block_lt_of_cell? wr _ x0'
      by_cases hlt : j < os.length
      · have hor := HOX.out.below HB.out (Nat.le_refl _)
        obtain ⟨b, o, rfl, c0, c1, c2, c3, c4, c5, c6⟩ := op_at hor j hlt
        have hin := hor.ins os[j] (List.getElem_mem _)
        obtain ⟨ia, ic, hiv, hic, hic2⟩ := hin.slice
        rw [hiv] at c1 hin
        have HIN := Lib.hid hin
        have HS := Lib.hid (rightTo_succ os j hlt)
        have HNO := Lib.hid (rightTo_no os j hlt)
        have HQ := Lib.hid (right_eq os[j] j os.length)
        have HIS := Lib.hid (insTo_succ os[j] j)
        have HI0 := Lib.hid (insTo_zero os[j] j)
        clear hor hin
        generalize os[j] = O at *
        obtain ⟨kind, iv, ins, arg, num, rounds, test, lim⟩ := O
        simp only at c0 c1 c2 c3 c4 c5 c6 hiv HIN HIS HQ
        subst hiv
        obtain ⟨Y, hY⟩ : ∃ Y, Y = wr.alloc (.cells #[.int .i64 kind, .slice ia ins.length ic, .int .i64 arg, .int .u32 num, .int .i64 rounds, .int .i64 test, .int .u32 lim] 90) := ⟨_, rfl⟩
        have hbY : Below wr.heap.size wr Y := by rw [hY]; exact below_alloc _ _
        have b0 : Y.cell? ⟨wr.heap.size, 0, none⟩ = some (.int .i64 kind) := by rw [hY]; exact box_self _ _ rfl
        have b1 : Y.cell? ⟨wr.heap.size, 1, none⟩ = some (.slice ia ins.length ic) := by rw [hY]; exact box_self _ _ rfl
        have b2 : Y.cell? ⟨wr.heap.size, 2, none⟩ = some (.int .i64 arg) := by rw [hY]; exact box_self _ _ rfl
        have b3 : Y.cell? ⟨wr.heap.size, 3, none⟩ = some (.int .u32 num) := by rw [hY]; exact box_self _ _ rfl
        have b4 : Y.cell? ⟨wr.heap.size, 4, none⟩ = some (.int .i64 rounds) := by rw [hY]; exact box_self _ _ rfl
        have b5 : Y.cell? ⟨wr.heap.size, 5, none⟩ = some (.int .i64 test) := by rw [hY]; exact box_self _ _ rfl
        have b6 : Y.cell? ⟨wr.heap.size, 6, none⟩ = some (.int .u32 lim) := by rw [hY]; exact box_self _ _ rfl
        have HY := Lib.hid hY
        have HBY := Lib.hid hbY
        have HINY := Lib.hid (Rd.below HIN.out hbY (Nat.le_refl _))
        have y0 := cell_later hbY x0'
        have HC := Lib.hid (And.intro b0 (And.intro b1 (And.intro b2 (And.intro b3 (And.intro b4 (And.intro b5 b6))))))
        have hfm : ∃ F, F = Opr.form ⟨kind, .slice ia ins.length ic, ins, arg, num, rounds, test, lim⟩ := ⟨_, rfl⟩
        obtain ⟨F, hF⟩ := hfm
        have HF := Lib.hid hF
        have hfirst := first_ways F ((ins.length : Int) == (wantOf kind : Int)) (((j : Int) == (os.length : Int) - 1) == (kind == 8))
        have hwr : IntKind.i64.wrap ((os.length : Int) - 1) = (os.length : Int) - 1 := by rw [IntKind.wrap_i64]; omega
        rw [← hF] at HQ
        clear hY hbY hF b0 b1 b2 b3 b4 b5 b6
        rcases hfirst with ⟨f1, fe⟩ | ⟨f1, f2, fe⟩ | ⟨f1, f2, fe⟩
        · go_wp2_with fail
          rw [← HY.out]
          clear c0 c1 c2 c3 c4 c5 c6
          refine region_m [(0, false), (1, true), (2, false), (3, false), (4, false), (5, false), (6, false), (7, false), (8, false), (9, false), (10, false), (11, false), (12, false), (13, false), (14, false), (15, false), (16, false), (17, false), (18, false), (19, false), (20, false), (21, false)] 22 (fun V => V.cell? ⟨wr.heap.size, 0, none⟩ = some (.int .i64 kind) ∧ V.cell? ⟨wr.heap.size, 1, none⟩ = some (.slice ia ins.length ic) ∧ V.cell? ⟨wr.heap.size, 2, none⟩ = some (.int .i64 arg) ∧ V.cell? ⟨wr.heap.size, 3, none⟩ = some (.int .u32 num) ∧ V.cell? ⟨wr.heap.size, 4, none⟩ = some (.int .i64 rounds) ∧ V.cell? ⟨wr.heap.size, 5, none⟩ = some (.int .i64 test) ∧ V.cell? ⟨wr.heap.size, 6, none⟩ = some (.int .u32 lim)) (by kernel_rfl) (by kernel_rfl) HC.out ?_
          iterate 1
            first
            | (refine m_take (v := ?_) rfl rfl ?_ ?_
               rotate_left
               · intro W hW
                 go_simp
                 with_reducible rfl
               simp only [Act.put, List.setIfInBounds_toArray, List.set_cons_zero, List.set_cons_succ])
            | (refine m_skip rfl rfl ?_
               simp only [Act.put, List.setIfInBounds_toArray, List.set_cons_zero, List.set_cons_succ])
          refine m_loud rfl (fun K hK => ?_)
          have HK := Lib.hid hK
          clear hK
          go_simp
          refine (rform_calls ⟨kind, .slice ia ins.length ic, ins, arg, num, rounds, test, lim⟩ _ ia ins.length ic rfl).mono ?_
          rintro e w1 ⟨rfl, hb1⟩
          rw [← HF.out, f1]
          have hb1 := ((Below.refl _ _).drew).trans hb1
          have hcx := HC.out
          refine HK.out _ _ ⟨cell_later hb1 hcx.1, cell_later hb1 hcx.2.1, cell_later hb1 hcx.2.2.1, cell_later hb1 hcx.2.2.2.1, cell_later hb1 hcx.2.2.2.2.1, cell_later hb1 hcx.2.2.2.2.2.1, cell_later hb1 hcx.2.2.2.2.2.2⟩ ?_
          clear HK
          clear hcx
          iterate 20
            first
            | (refine m_take (v := ?_) rfl rfl ?_ ?_
               rotate_left
               · intro W hW
                 go_simp
                 with_reducible rfl
               simp only [Act.put, List.setIfInBounds_toArray, List.set_cons_zero, List.set_cons_succ])
            | (refine m_skip rfl rfl ?_
               simp only [Act.put, List.setIfInBounds_toArray, List.set_cons_zero, List.set_cons_succ])
          refine m_done ?_
          simp only [List.drop_succ_cons, List.drop_zero]
          go_wp2
          simp only [NP]
          have HB1 := Lib.hid hb1
          have i1 := cell_later hb1 HC.out.2.1
          clear hb1
          have HI1 := Lib.hid (Rd.below HINY.out HB1.out (Nat.le_refl _))
          have z0 := cell_later HB1.out y0
          have hq : ∃ Q, Q = (F && ((ins.length : Int) == (wantOf kind : Int)) && (((j : Int) == (os.length : Int) - 1) == (kind == 8))) := ⟨_, rfl⟩
          obtain ⟨Q, hQ⟩ := hq
          have HQQ := Lib.hid (hQ.trans fe)
          have HQ2 := Lib.hid hQ
          clear hQ fe
          go_wp2_with fail
          go_loopw [7, 8] (fun okv mv wq => ∃ m : Nat, m ≤ ins.length ∧ mv = .int .i64 m ∧ okv = .bool (Q && insTo ⟨kind, .slice ia ins.length ic, ins, arg, num, rounds, test, lim⟩ j m) ∧ wq = w1) (fun _ mv _ => ins.length - (intOf mv).toNat)
          case atStart => exact ⟨0, by omega, rfl, by rw [insTo_zero, HQQ.out, Bool.and_true], rfl⟩
          case round =>
            obtain ⟨m, hm, rfl, rfl, rfl⟩ := hrel
            by_cases hlm : m < ins.length
            · obtain ⟨ib, io, hia, ci⟩ := int_at HI1.out m hlm
              subst hia
              have HSU := Lib.hid (HIS.out m hlm)
              generalize ins[m] = z at *
              cases hok : (Q && insTo ⟨kind, .slice (some ⟨ib, io, none⟩) ins.length ic, ins, arg, num, rounds, test, lim⟩ j m)
              all_goals
                have HOK := Lib.hid hok
                clear hok
                go_wp2_with fail
                all_goals
                  go_roundw
                  case rel =>
                    refine ⟨m + 1, by omega, by go_num, ?_, trivial⟩
                    rw [HSU.out, ← Bool.and_assoc, HOK.out]
                    simp_all
                    try omega
                  case measure => simp [intOf]; omega
            · obtain rfl : m = ins.length := by omega
              have HRIGHT := Lib.hid (show Opr.right ⟨kind, .slice ia ins.length ic, ins, arg, num, rounds, test, lim⟩ j os.length = _ from by rw [HQ.out, ← HQ2.out])
              have HBA := Lib.hid (below_go HB.out (below_go HBY.out HB1.out))
              cases hok : (Q && insTo ⟨kind, .slice ia ins.length ic, ins, arg, num, rounds, test, lim⟩ j ins.length) with
              | true =>
                have HOK := Lib.hid hok
                clear hok
                go_wp2_with fail
                go_roundw
                case rel => exact ⟨j + 1, by omega, by go_num, by rw [HS.out, HTO.out, HRIGHT.out, HOK.out]; rfl, HBA.out⟩
                case measure => simp [intOf]; omega
              | false =>
                have HOK := Lib.hid hok
                clear hok
                go_wp2_with fail
                go_ret2
                refine ⟨⟨(j : Int), ?_⟩, below_go HBX.out HBA.out⟩
                unfold graphCode
                rw [if_pos HR.out, if_neg (by rw [HNO.out (HRIGHT.out.trans HOK.out)]; decide)]
                rfl
        · go_wp2_with fail
          rw [← HY.out]
          clear c0 c1 c2 c3 c4 c5 c6
          refine region_m [(0, false), (1, true), (2, false), (3, false), (4, false), (5, false), (6, false), (7, false), (8, true), (9, false), (10, false), (11, false), (12, false), (13, false), (14, false), (15, false), (16, false), (17, false), (18, false), (19, false), (20, false), (21, false)] 22 (fun V => V.cell? ⟨wr.heap.size, 0, none⟩ = some (.int .i64 kind) ∧ V.cell? ⟨wr.heap.size, 1, none⟩ = some (.slice ia ins.length ic) ∧ V.cell? ⟨wr.heap.size, 2, none⟩ = some (.int .i64 arg) ∧ V.cell? ⟨wr.heap.size, 3, none⟩ = some (.int .u32 num) ∧ V.cell? ⟨wr.heap.size, 4, none⟩ = some (.int .i64 rounds) ∧ V.cell? ⟨wr.heap.size, 5, none⟩ = some (.int .i64 test) ∧ V.cell? ⟨wr.heap.size, 6, none⟩ = some (.int .u32 lim)) (by kernel_rfl) (by kernel_rfl) HC.out ?_
          iterate 1
            first
            | (refine m_take (v := ?_) rfl rfl ?_ ?_
               rotate_left
               · intro W hW
                 go_simp
                 with_reducible rfl
               simp only [Act.put, List.setIfInBounds_toArray, List.set_cons_zero, List.set_cons_succ])
            | (refine m_skip rfl rfl ?_
               simp only [Act.put, List.setIfInBounds_toArray, List.set_cons_zero, List.set_cons_succ])
          refine m_loud rfl (fun K hK => ?_)
          have HK := Lib.hid hK
          clear hK
          go_simp
          refine (rform_calls ⟨kind, .slice ia ins.length ic, ins, arg, num, rounds, test, lim⟩ _ ia ins.length ic rfl).mono ?_
          rintro e w1 ⟨rfl, hb1⟩
          rw [← HF.out, f1]
          have hb1 := ((Below.refl _ _).drew).trans hb1
          have hcx := HC.out
          refine HK.out _ _ ⟨cell_later hb1 hcx.1, cell_later hb1 hcx.2.1, cell_later hb1 hcx.2.2.1, cell_later hb1 hcx.2.2.2.1, cell_later hb1 hcx.2.2.2.2.1, cell_later hb1 hcx.2.2.2.2.2.1, cell_later hb1 hcx.2.2.2.2.2.2⟩ ?_
          clear HK
          clear hcx
          iterate 6
            first
            | (refine m_take (v := ?_) rfl rfl ?_ ?_
               rotate_left
               · intro W hW
                 go_simp
                 with_reducible rfl
               simp only [Act.put, List.setIfInBounds_toArray, List.set_cons_zero, List.set_cons_succ])
            | (refine m_skip rfl rfl ?_
               simp only [Act.put, List.setIfInBounds_toArray, List.set_cons_zero, List.set_cons_succ])
          refine m_loud rfl (fun K hK => ?_)
          have HK := Lib.hid hK
          clear hK
          go_simp
          refine (rwant_calls _ _).mono ?_
          rintro e w2 ⟨rfl, hw⟩
          have hw := hw.symm
          subst hw
          have hcx := HC.out
          refine HK.out _ _ ⟨cell_later hb1 hcx.1, cell_later hb1 hcx.2.1, cell_later hb1 hcx.2.2.1, cell_later hb1 hcx.2.2.2.1, cell_later hb1 hcx.2.2.2.2.1, cell_later hb1 hcx.2.2.2.2.2.1, cell_later hb1 hcx.2.2.2.2.2.2⟩ ?_
          clear HK
          clear hcx
          iterate 13
            first
            | (refine m_take (v := ?_) rfl rfl ?_ ?_
               rotate_left
               · intro W hW
                 go_simp
                 with_reducible rfl
               simp only [Act.put, List.setIfInBounds_toArray, List.set_cons_zero, List.set_cons_succ])
            | (refine m_skip rfl rfl ?_
               simp only [Act.put, List.setIfInBounds_toArray, List.set_cons_zero, List.set_cons_succ])
          refine m_done ?_
          simp only [List.drop_succ_cons, List.drop_zero]
          go_wp2
          simp only [NP]
          have HB1 := Lib.hid hb1
          have i1 := cell_later hb1 HC.out.2.1
          clear hb1
          have HI1 := Lib.hid (Rd.below HINY.out HB1.out (Nat.le_refl _))
          have z0 := cell_later HB1.out y0
          have hq : ∃ Q, Q = (F && ((ins.length : Int) == (wantOf kind : Int)) && (((j : Int) == (os.length : Int) - 1) == (kind == 8))) := ⟨_, rfl⟩
          obtain ⟨Q, hQ⟩ := hq
          have HQQ := Lib.hid (hQ.trans fe)
          have HQ2 := Lib.hid hQ
          clear hQ fe
          go_wp2_with fail
          go_loopw [7, 8] (fun okv mv wq => ∃ m : Nat, m ≤ ins.length ∧ mv = .int .i64 m ∧ okv = .bool (Q && insTo ⟨kind, .slice ia ins.length ic, ins, arg, num, rounds, test, lim⟩ j m) ∧ wq = w1) (fun _ mv _ => ins.length - (intOf mv).toNat)
          case atStart => exact ⟨0, by omega, rfl, by rw [insTo_zero, HQQ.out, Bool.and_true], rfl⟩
          case round =>
            obtain ⟨m, hm, rfl, rfl, rfl⟩ := hrel
            by_cases hlm : m < ins.length
            · obtain ⟨ib, io, hia, ci⟩ := int_at HI1.out m hlm
              subst hia
              have HSU := Lib.hid (HIS.out m hlm)
              generalize ins[m] = z at *
              cases hok : (Q && insTo ⟨kind, .slice (some ⟨ib, io, none⟩) ins.length ic, ins, arg, num, rounds, test, lim⟩ j m)
              all_goals
                have HOK := Lib.hid hok
                clear hok
                go_wp2_with fail
                all_goals
                  go_roundw
                  case rel =>
                    refine ⟨m + 1, by omega, by go_num, ?_, trivial⟩
                    rw [HSU.out, ← Bool.and_assoc, HOK.out]
                    simp_all
                    try omega
                  case measure => simp [intOf]; omega
            · obtain rfl : m = ins.length := by omega
              have HRIGHT := Lib.hid (show Opr.right ⟨kind, .slice ia ins.length ic, ins, arg, num, rounds, test, lim⟩ j os.length = _ from by rw [HQ.out, ← HQ2.out])
              have HBA := Lib.hid (below_go HB.out (below_go HBY.out HB1.out))
              cases hok : (Q && insTo ⟨kind, .slice ia ins.length ic, ins, arg, num, rounds, test, lim⟩ j ins.length) with
              | true =>
                have HOK := Lib.hid hok
                clear hok
                go_wp2_with fail
                go_roundw
                case rel => exact ⟨j + 1, by omega, by go_num, by rw [HS.out, HTO.out, HRIGHT.out, HOK.out]; rfl, HBA.out⟩
                case measure => simp [intOf]; omega
              | false =>
                have HOK := Lib.hid hok
                clear hok
                go_wp2_with fail
                go_ret2
                refine ⟨⟨(j : Int), ?_⟩, below_go HBX.out HBA.out⟩
                unfold graphCode
                rw [if_pos HR.out, if_neg (by rw [HNO.out (HRIGHT.out.trans HOK.out)]; decide)]
                rfl
        · go_wp2_with fail
          rw [← HY.out]
          clear c0 c1 c2 c3 c4 c5 c6
          refine region_m [(0, false), (1, true), (2, false), (3, false), (4, false), (5, false), (6, false), (7, false), (8, true), (9, false), (10, false), (11, false), (12, false), (13, false), (14, false), (15, false), (16, false), (17, false), (18, false), (19, false), (20, false), (21, false)] 22 (fun V => V.cell? ⟨wr.heap.size, 0, none⟩ = some (.int .i64 kind) ∧ V.cell? ⟨wr.heap.size, 1, none⟩ = some (.slice ia ins.length ic) ∧ V.cell? ⟨wr.heap.size, 2, none⟩ = some (.int .i64 arg) ∧ V.cell? ⟨wr.heap.size, 3, none⟩ = some (.int .u32 num) ∧ V.cell? ⟨wr.heap.size, 4, none⟩ = some (.int .i64 rounds) ∧ V.cell? ⟨wr.heap.size, 5, none⟩ = some (.int .i64 test) ∧ V.cell? ⟨wr.heap.size, 6, none⟩ = some (.int .u32 lim)) (by kernel_rfl) (by kernel_rfl) HC.out ?_
          iterate 1
            first
            | (refine m_take (v := ?_) rfl rfl ?_ ?_
               rotate_left
               · intro W hW
                 go_simp
                 with_reducible rfl
               simp only [Act.put, List.setIfInBounds_toArray, List.set_cons_zero, List.set_cons_succ])
            | (refine m_skip rfl rfl ?_
               simp only [Act.put, List.setIfInBounds_toArray, List.set_cons_zero, List.set_cons_succ])
          refine m_loud rfl (fun K hK => ?_)
          have HK := Lib.hid hK
          clear hK
          go_simp
          refine (rform_calls ⟨kind, .slice ia ins.length ic, ins, arg, num, rounds, test, lim⟩ _ ia ins.length ic rfl).mono ?_
          rintro e w1 ⟨rfl, hb1⟩
          rw [← HF.out, f1]
          have hb1 := ((Below.refl _ _).drew).trans hb1
          have hcx := HC.out
          refine HK.out _ _ ⟨cell_later hb1 hcx.1, cell_later hb1 hcx.2.1, cell_later hb1 hcx.2.2.1, cell_later hb1 hcx.2.2.2.1, cell_later hb1 hcx.2.2.2.2.1, cell_later hb1 hcx.2.2.2.2.2.1, cell_later hb1 hcx.2.2.2.2.2.2⟩ ?_
          clear HK
          clear hcx
          iterate 6
            first
            | (refine m_take (v := ?_) rfl rfl ?_ ?_
               rotate_left
               · intro W hW
                 go_simp
                 with_reducible rfl
               simp only [Act.put, List.setIfInBounds_toArray, List.set_cons_zero, List.set_cons_succ])
            | (refine m_skip rfl rfl ?_
               simp only [Act.put, List.setIfInBounds_toArray, List.set_cons_zero, List.set_cons_succ])
          refine m_loud rfl (fun K hK => ?_)
          have HK := Lib.hid hK
          clear hK
          go_simp
          refine (rwant_calls _ _).mono ?_
          rintro e w2 ⟨rfl, hw⟩
          have hw := hw.symm
          subst hw
          have hcx := HC.out
          refine HK.out _ _ ⟨cell_later hb1 hcx.1, cell_later hb1 hcx.2.1, cell_later hb1 hcx.2.2.1, cell_later hb1 hcx.2.2.2.1, cell_later hb1 hcx.2.2.2.2.1, cell_later hb1 hcx.2.2.2.2.2.1, cell_later hb1 hcx.2.2.2.2.2.2⟩ ?_
          clear HK
          clear hcx
          iterate 13
            first
            | (refine m_take (v := ?_) rfl rfl ?_ ?_
               rotate_left
               · intro W hW
                 go_simp
                 with_reducible rfl
               simp only [Act.put, List.setIfInBounds_toArray, List.set_cons_zero, List.set_cons_succ])
            | (refine m_skip rfl rfl ?_
               simp only [Act.put, List.setIfInBounds_toArray, List.set_cons_zero, List.set_cons_succ])
          refine m_done ?_
          simp only [List.drop_succ_cons, List.drop_zero]
          go_wp2
          simp only [NP]
          have HB1 := Lib.hid hb1
          have i1 := cell_later hb1 HC.out.2.1
          clear hb1
          have HI1 := Lib.hid (Rd.below HINY.out HB1.out (Nat.le_refl _))
          have z0 := cell_later HB1.out y0
          have hq : ∃ Q, Q = (F && ((ins.length : Int) == (wantOf kind : Int)) && (((j : Int) == (os.length : Int) - 1) == (kind == 8))) := ⟨_, rfl⟩
          obtain ⟨Q, hQ⟩ := hq
          have HQQ := Lib.hid (hQ.trans fe)
          have HQ2 := Lib.hid hQ
          clear hQ fe
          go_wp2_with fail
          go_loopw [7, 8] (fun okv mv wq => ∃ m : Nat, m ≤ ins.length ∧ mv = .int .i64 m ∧ okv = .bool (Q && insTo ⟨kind, .slice ia ins.length ic, ins, arg, num, rounds, test, lim⟩ j m) ∧ wq = w1) (fun _ mv _ => ins.length - (intOf mv).toNat)
          case atStart => exact ⟨0, by omega, rfl, by rw [insTo_zero, HQQ.out, Bool.and_true], rfl⟩
          case round =>
            obtain ⟨m, hm, rfl, rfl, rfl⟩ := hrel
            by_cases hlm : m < ins.length
            · obtain ⟨ib, io, hia, ci⟩ := int_at HI1.out m hlm
              subst hia
              have HSU := Lib.hid (HIS.out m hlm)
              generalize ins[m] = z at *
              cases hok : (Q && insTo ⟨kind, .slice (some ⟨ib, io, none⟩) ins.length ic, ins, arg, num, rounds, test, lim⟩ j m)
              all_goals
                have HOK := Lib.hid hok
                clear hok
                go_wp2_with fail
                all_goals
                  go_roundw
                  case rel =>
                    refine ⟨m + 1, by omega, by go_num, ?_, trivial⟩
                    rw [HSU.out, ← Bool.and_assoc, HOK.out]
                    simp_all
                    try omega
                  case measure => simp [intOf]; omega
            · obtain rfl : m = ins.length := by omega
              have HRIGHT := Lib.hid (show Opr.right ⟨kind, .slice ia ins.length ic, ins, arg, num, rounds, test, lim⟩ j os.length = _ from by rw [HQ.out, ← HQ2.out])
              have HBA := Lib.hid (below_go HB.out (below_go HBY.out HB1.out))
              cases hok : (Q && insTo ⟨kind, .slice ia ins.length ic, ins, arg, num, rounds, test, lim⟩ j ins.length) with
              | true =>
                have HOK := Lib.hid hok
                clear hok
                go_wp2_with fail
                go_roundw
                case rel => exact ⟨j + 1, by omega, by go_num, by rw [HS.out, HTO.out, HRIGHT.out, HOK.out]; rfl, HBA.out⟩
                case measure => simp [intOf]; omega
              | false =>
                have HOK := Lib.hid hok
                clear hok
                go_wp2_with fail
                go_ret2
                refine ⟨⟨(j : Int), ?_⟩, below_go HBX.out HBA.out⟩
                unfold graphCode
                rw [if_pos HR.out, if_neg (by rw [HNO.out (HRIGHT.out.trans HOK.out)]; decide)]
                rfl
      · obtain rfl : j = os.length := by omega
        go_wp2_with fail
        go_ret2
        refine ⟨⟨(0 : Int), ?_⟩, below_go HBX.out HB.out⟩
        unfold graphCode
        rw [if_pos HR.out, if_pos HTO.out]
        rfl
  · have HR := Lib.hid hr
    rcases (show os.length < 1 ∨ 16 < os.length from by omega) with h | h
    · have d1 : decide ((os.length : Int) < 1) = true := decide_eq_true (by omega)
      clear hr h
      go_enter Try.func35, Try.ntmps35
      go_wp2_with fail
      rw [← HX.out]
      go_ret2
      refine ⟨⟨(0 : Int), ?_⟩, HBX.out⟩
      unfold graphCode
      rw [if_neg HR.out]
      rfl
    · have d1 : decide ((os.length : Int) < 1) = false := decide_eq_false (by omega)
      have d2 : decide ((16 : Int) < os.length) = true := decide_eq_true (by omega)
      clear hr h
      go_enter Try.func35, Try.ntmps35
      go_wp2_with fail
      rw [← HX.out]
      go_ret2
      refine ⟨⟨(0 : Int), ?_⟩, HBX.out⟩
      unfold graphCode
      rw [if_neg HR.out]
      rfl
end Go.Proofs.Ytkabfjbmofpkdaa

/- Layer 14: a record in form; the range over a ledger's records, walked. -/
namespace Go.Proofs.Ytkabfjbmofpkdaa
open Go.RowKit Go.Shelf
set_option maxRecDepth 100000
attribute [local go_sem] Oper.semAt_some

theorem pgood_calls (r : Rec) (w : World) :
    Calls Try.prog 39 #[.agg #[.int .i64 r.p, .int .i64 r.s, .int .i64 r.q, .string r.key, .int .u32 r.val]] w fun e w' => e = .returned (.bool (goodRec r)) ∧ Below w.heap.size w w' := by
  have he := ent1 r [] 0
  go_enter Try.func39, Try.ntmps39
  go_wp2_with fail
  refine (entGood_calls 1 r (.slice none 0 0) [] 0 _ ⟨Rd.nil _ _, fun o h => by simp at h⟩).mono ?_
  rintro e w1 ⟨rfl, hb⟩
  have HB := Lib.hid (below_go (below_alloc _ _) hb)
  rw [he]
  clear hb he
  go_wp2_with fail
  go_ret
  exact ⟨by simp, HB.out⟩

/-- A ledger in a box. -/
def BoxL (W : World) (b : Nat) (L : Led) : Prop := ∀ j v, L.cells[j]? = some v → W.cell? ⟨b, j, none⟩ = some v
theorem BoxL.later {W W' : World} {b : Nat} {L : Led} (h : BoxL W b L) (hb : Below W.heap.size W W') : BoxL W' b L := fun j v hj => cell_later hb (h j v hj)
theorem BoxL.lt {W : World} {b : Nat} {L : Led} (h : BoxL W b L) : b < W.heap.size := World.block_lt_of_cell? W _ (h 0 L.rv rfl)
theorem boxL_self (w : World) (L : Led) (T : TypeId) : BoxL (w.alloc (.cells L.cells.toArray T)) w.heap.size L := fun j v h => box_self j v (by simpa using h)

/-- The records of the first i batches. -/
def Led.pre (L : Led) (i : Nat) : List Rec := (L.bats.take i).flatMap (·.recs)
theorem pre_zero (L : Led) : L.pre 0 = [] := by simp [Led.pre]
theorem pre_succ (L : Led) (i : Nat) (h : i < L.bats.length) : L.pre (i + 1) = L.pre i ++ L.bats[i].recs := by
  unfold Led.pre
  rw [List.take_succ_eq_append_getElem h, List.flatMap_append]
  simp
theorem pre_all (L : Led) (i : Nat) : ∃ t, L.all = L.pre i ++ t := by
  refine ⟨(L.bats.drop i).flatMap (·.recs) ++ L.opn, ?_⟩
  unfold Led.all Led.pre
  rw [← List.append_assoc, ← List.flatMap_append, List.take_append_drop]
theorem pre_end (L : Led) : L.all = L.pre L.bats.length ++ L.opn := by simp [Led.all, Led.pre]
theorem all_at (L : Led) (i j : Nat) (hi : i < L.bats.length) (hj : j < L.bats[i].recs.length) : ∃ h : (L.pre i).length + j < L.all.length, L.all[(L.pre i).length + j] = L.bats[i].recs[j] := by
  obtain ⟨t, ht⟩ := pre_all L (i + 1)
  rw [pre_succ L i hi, List.append_assoc] at ht
  have h : (L.pre i).length + j < L.all.length := by rw [ht]; simp; omega
  refine ⟨h, ?_⟩
  have h2 : L.all[(L.pre i).length + j]? = some L.bats[i].recs[j] := by
    rw [ht, List.getElem?_append_right (by omega), List.getElem?_append_left (by omega), List.getElem?_eq_getElem (by omega)]
    simp
  rw [List.getElem?_eq_getElem h] at h2
  exact Option.some.inj h2
theorem all_open (L : Led) (j : Nat) (hj : j < L.opn.length) : ∃ h : (L.pre L.bats.length).length + j < L.all.length, L.all[(L.pre L.bats.length).length + j] = L.opn[j] := by
  have ht := pre_end L
  have h : (L.pre L.bats.length).length + j < L.all.length := by rw [ht]; simp; omega
  refine ⟨h, ?_⟩
  have h2 : L.all[(L.pre L.bats.length).length + j]? = some L.opn[j] := by
    rw [ht, List.getElem?_append_right (by omega), List.getElem?_eq_getElem (by omega)]
    simp
  rw [List.getElem?_eq_getElem h] at h2
  exact Option.some.inj h2

/-- What the closure tells: the next record. -/
def RStep (L : Led) (k : Nat) (args : Array Value) (k' : Nat) (_W : World) : Prop :=
  ∃ h : k < L.all.length, k' = k + 1 ∧ args = #[.agg #[.int .i64 L.all[k].p, .int .i64 L.all[k].s, .int .i64 L.all[k].q, .string L.all[k].key, .int .u32 L.all[k].val]]

theorem records_calls (L : Led) (w : World) : CallsIn Fence.wide 0 Try.prog 38 #[.agg L.cells.toArray] w fun e w' => e = .returned (.func (.func 71) #[] #[.pointer (some ⟨w.heap.size, 0, none⟩)]) ∧ w' = w.alloc (.cells L.cells.toArray 30) := by
  refine callsIn_of_wp Try.func38 rfl trivial ?_
  simp only [Try.ntmps38, List.size_toArray, List.length_cons, List.length_nil, Nat.reduceAdd, Nat.reduceSub, Array.replicate_succ, Array.replicate_zero, List.push_toArray, List.append_toArray, List.nil_append, List.cons_append]
  gi_wp2
  go_ret
  exact ⟨rfl, rfl⟩

set_option maxHeartbeats 2000000 in
theorem records1_iter (L : Led) (bx l : Nat) (J : Nat → World → Prop) (Jx : World → Prop) (w : World) (hsm : L.Small)
    (hm : ∀ s W W', Below W.heap.size W W' → J s W → J s W') (hk : ∀ s W, J s W → LedR W L ∧ BoxL W bx L)
    (hy : ∀ s args s' W, J s W → RStep L s args s' W → YieldAt Fence.wide 0 Try.prog l args W fun e W' => (e = .returned (.bool true) ∧ J s' W') ∨ (e = .returned (.bool false) ∧ Jx W'))
    (h0 : J 0 w) :
    CallsIn Fence.wide 0 Try.prog 71 #[.func (.yield l) #[] #[], .pointer (some ⟨bx, 0, none⟩)] w fun e W' => (∃ v, e = .returned v) ∧ ((∃ s, s = L.all.length ∧ J s W') ∨ Jx W') := by
  have HY := Lib.hid hy
  have H0 := Lib.hid h0
  have HM := Lib.hid hm
  have HK := Lib.hid hk
  have HSM := Lib.hid hsm
  have hk0 := hk 0 w h0
  have hbn := hsm.bats
  have hon := hsm.opn
  obtain ⟨ba, bc, hbv, hbc, -⟩ := hk0.1.bats.row.slice
  obtain ⟨oa, oc, hov, hoc, -⟩ := Rd.slice hk0.1.opn
  have c10 := hk0.2 10 _ rfl
  rw [hbv] at c10
  have HBV := Lib.hid hbv
  have HOV := Lib.hid hov
  clear hy h0 hm hk hk0 hsm hbv hov
  refine callsIn_of_wp Try.func71 rfl trivial ?_
  simp only [Try.ntmps71, List.size_toArray, List.length_cons, List.length_nil, Nat.reduceAdd, Nat.reduceSub, Array.replicate_succ, Array.replicate_zero, List.push_toArray, List.append_toArray, List.nil_append, List.cons_append]
  gi_wp2_with fail
  gi_loopw [4, 6, 12] (fun _ _ iv wr => ∃ i : Nat, i ≤ L.bats.length ∧ iv = .int .i64 i ∧ J (L.pre i).length wr) (fun _ _ iv _ => L.bats.length - (intOf iv).toNat)
  case atStart => exact ⟨0, by omega, rfl, by rw [pre_zero]; exact H0.out⟩
  case round =>
    obtain ⟨i, hi, rfl, hj⟩ := hrel
    have HJ := Lib.hid hj
    clear hj
    by_cases hlt : i < L.bats.length
    · have hkk := HK.out _ _ HJ.out
      have hrow := hkk.1.bats
      rw [HBV.out] at hrow
      obtain ⟨b, o, rfl, c0, c1⟩ := bt_at hrow i hlt
      have hrec := hkk.1.bats.recs L.bats[i] (List.getElem_mem _)
      obtain ⟨ra, rc, hrv, hrc, -⟩ := Rd.slice hrec
      have hrn := HSM.out.recs L.bats[i] (List.getElem_mem _)
      have HRV := Lib.hid hrv
      rw [hrv] at c1
      have hal := below_alloc wr (.cells #[.int .i64 L.bats[i].ep, .slice ra L.bats[i].recs.length rc] 67)
      have HJ1 := Lib.hid (HM.out _ _ _ hal HJ.out)
      have HPS := Lib.hid (pre_succ L i hlt)
      have HAT := Lib.hid (all_at L i)
      clear hkk hrow hrec hrv hal
      gi_wp2_with fail
      gi_loopw [6, 19] (fun _ jv wq => ∃ j : Nat, j ≤ L.bats[i].recs.length ∧ jv = .int .i64 j ∧ J ((L.pre i).length + j) wq) (fun _ jv _ => L.bats[i].recs.length - (intOf jv).toNat)
      case atStart => exact ⟨0, by omega, rfl, HJ1.out⟩
      case round =>
        obtain ⟨j, hj, rfl, hjj⟩ := hrel
        have HJJ := Lib.hid hjj
        clear hjj
        by_cases hlj : j < L.bats[i].recs.length
        · have hkk := HK.out _ _ HJJ.out
          have hrec := hkk.1.bats.recs L.bats[i] (List.getElem_mem _)
          rw [HRV.out] at hrec
          obtain ⟨rb, ro, rfl, d0, d1, d2, d3, d4⟩ := rec_at hrec j hlj
          obtain ⟨hak, hae⟩ := HAT.out j hlt hlj
          have hal := below_alloc wr (.cells #[.int .i64 L.bats[i].recs[j].p, .int .i64 L.bats[i].recs[j].s, .int .i64 L.bats[i].recs[j].q, .string L.bats[i].recs[j].key, .int .u32 L.bats[i].recs[j].val] 33)
          have hj2 := HM.out _ _ _ hal HJJ.out
          obtain ⟨fn, tmps, assign, body, hyy, hR⟩ := HY.out _ #[.agg #[.int .i64 L.bats[i].recs[j].p, .int .i64 L.bats[i].recs[j].s, .int .i64 L.bats[i].recs[j].q, .string L.bats[i].recs[j].key, .int .u32 L.bats[i].recs[j].val]] ((L.pre i).length + j + 1) _ hj2 ⟨hak, rfl, by rw [hae]⟩
          clear hkk hrec hal hj2 hak hae
          gi_wp2_with fail
          refine hR.mono ?_
          clear hR hyy
          rintro e W' (⟨rfl, hj1⟩ | ⟨rfl, hjx⟩)
          · gi_wp2_with fail
            go_roundw
            case rel => exact ⟨j + 1, by omega, by go_num, hj1⟩
            case measure => simp [intOf]; omega
          · gi_wp2_with fail
            refine bodyPost_ret (results_none rfl _ _ _) rfl ?_
            exact ⟨⟨_, rfl⟩, .inr hjx⟩
        · obtain rfl : j = L.bats[i].recs.length := by omega
          gi_wp2_with fail
          go_roundw
          case rel => exact ⟨i + 1, by omega, by go_num, by rw [HPS.out, List.length_append]; exact HJJ.out⟩
          case measure => simp [intOf]; omega
    · obtain rfl : i = L.bats.length := by omega
      have hkk := HK.out _ _ HJ.out
      have c9 := hkk.2 9 _ rfl
      rw [HOV.out] at c9
      have HAO := Lib.hid (all_open L)
      have HPE := Lib.hid (pre_end L)
      clear hkk
      gi_wp2_with fail
      gi_loopw [8, 32] (fun _ jv wq => ∃ j : Nat, j ≤ L.opn.length ∧ jv = .int .i64 j ∧ J ((L.pre L.bats.length).length + j) wq) (fun _ jv _ => L.opn.length - (intOf jv).toNat)
      case atStart => exact ⟨0, by omega, rfl, HJ.out⟩
      case round =>
        obtain ⟨j, hj, rfl, hjj⟩ := hrel
        have HJJ := Lib.hid hjj
        clear hjj
        by_cases hlj : j < L.opn.length
        · have hkk := HK.out _ _ HJJ.out
          have hrec := hkk.1.opn
          rw [HOV.out] at hrec
          obtain ⟨rb, ro, rfl, d0, d1, d2, d3, d4⟩ := rec_at hrec j hlj
          obtain ⟨hak, hae⟩ := HAO.out j hlj
          have hal := below_alloc wr (.cells #[.int .i64 L.opn[j].p, .int .i64 L.opn[j].s, .int .i64 L.opn[j].q, .string L.opn[j].key, .int .u32 L.opn[j].val] 33)
          have hj2 := HM.out _ _ _ hal HJJ.out
          obtain ⟨fn, tmps, assign, body, hyy, hR⟩ := HY.out _ #[.agg #[.int .i64 L.opn[j].p, .int .i64 L.opn[j].s, .int .i64 L.opn[j].q, .string L.opn[j].key, .int .u32 L.opn[j].val]] ((L.pre L.bats.length).length + j + 1) _ hj2 ⟨hak, rfl, by rw [hae]⟩
          clear hkk hrec hal hj2 hak hae
          gi_wp2_with fail
          refine hR.mono ?_
          clear hR hyy
          rintro e W' (⟨rfl, hj1⟩ | ⟨rfl, hjx⟩)
          · gi_wp2_with fail
            go_roundw
            case rel => exact ⟨j + 1, by omega, by go_num, hj1⟩
            case measure => simp [intOf]; omega
          · gi_wp2_with fail
            refine bodyPost_ret (results_none rfl _ _ _) rfl ?_
            exact ⟨⟨_, rfl⟩, .inr hjx⟩
        · obtain rfl : j = L.opn.length := by omega
          gi_wp2_with fail
          refine bodyPost_end (results_none rfl _ _ _) rfl ?_
          exact ⟨⟨_, rfl⟩, .inl ⟨_, rfl, by rw [HPE.out, List.length_append]; exact HJJ.out⟩⟩
end Go.Proofs.Ytkabfjbmofpkdaa

/- Layer 14: what makes a ledger good, told by ways. -/
namespace Go.Proofs.Ytkabfjbmofpkdaa
open Go.RowKit

theorem Only.calm {S : Nat → Prop} {Y W W' : World} {B : Nat} (h : Only S Y W) (hB : Y.heap.size ≤ B) (hc : Calm B W W') : Only S Y W' :=
  ⟨hc.os.trans h.os, hc.tape.trans h.tape, hc.output.trans h.output, Nat.le_trans h.size hc.size, fun k hk hs => (hc.block k (by omega)).trans (h.block k hk hs)⟩

theorem good_iff (L : Led) : L.good = true ↔ (goodRows L.rows = true ∧ (L.opn.length ≤ 512 ∧ 0 ≤ L.decided ∧ L.decided ≤ L.sealed ∧ L.sealed - L.decided ≤ 64 ∧ 0 ≤ L.keep ∧ L.keep ≤ 64) ∧ epochsTo L L.bats.length = true ∧ (L.sealed - L.decided ≤ L.bats.length ∧ L.bats.length ≤ L.sealed) ∧ (if L.dep = true then checkOk L.ops = true else (L.ops.length = 0 ∧ L.sealed ≤ 0))) ∧ L.all.all goodRec = true ∧ countsTo L 8 = true := by
  simp only [Led.good, Led.frame, Bool.and_eq_true, decide_eq_true_eq, and_assoc]
  cases L.dep <;> simp
theorem good_no {L : Led} (h : L.good = true → False) : L.good = false := by
  cases hg : L.good with
  | false => rfl
  | true => exact (h hg).elim
theorem no_rows {L : Led} (h : goodRows L.rows = false) : L.good = false := good_no fun hg => by rw [((good_iff L).1 hg).1.1] at h; cases h
theorem no_nums {L : Led} (h : ¬ (L.opn.length ≤ 512 ∧ 0 ≤ L.decided ∧ L.decided ≤ L.sealed ∧ L.sealed - L.decided ≤ 64 ∧ 0 ≤ L.keep ∧ L.keep ≤ 64)) : L.good = false := good_no fun hg => h ((good_iff L).1 hg).1.2.1
theorem no_epochs {L : Led} (i : Nat) (hi : i < L.bats.length) (h : ¬ (L.bats[i].recs.length ≤ 512 ∧ L.bats[i].ep = L.sealed - L.bats.length + i)) : L.good = false := good_no fun hg => by
  have := ((good_iff L).1 hg).1.2.2.1
  rw [epochsTo_no L i hi h] at this
  cases this
theorem no_ep {L : Led} (i : Nat) (hi : i < L.bats.length) (h : ¬ (L.bats[i].recs.length ≤ 512 ∧ 0 ≤ L.bats[i].ep ∧ L.bats[i].ep = L.sealed - L.bats.length + i)) : L.good = false := good_no fun hg => by
  have h1 := ((good_iff L).1 hg).1.2.2.1
  have h2 := ((good_iff L).1 hg).1.2.2.2.1
  by_cases hq : L.bats[i].recs.length ≤ 512 ∧ L.bats[i].ep = L.sealed - L.bats.length + i
  · exact h ⟨hq.1, by omega, hq.2⟩
  · rw [epochsTo_no L i hi hq] at h1
    cases h1
theorem no_count {L : Led} (h : ¬ (L.sealed - L.decided ≤ L.bats.length ∧ L.bats.length ≤ L.sealed)) : L.good = false := good_no fun hg => h ((good_iff L).1 hg).1.2.2.2.1
theorem no_graph {L : Led} (hd : L.dep = true) (h : checkOk L.ops = false) : L.good = false := good_no fun hg => by
  have := ((good_iff L).1 hg).1.2.2.2.2
  rw [if_pos hd, h] at this
  cases this
theorem no_bare {L : Led} (hd : L.dep = false) (h : ¬ (L.ops.length = 0 ∧ L.sealed ≤ 0)) : L.good = false := good_no fun hg => by
  have := ((good_iff L).1 hg).1.2.2.2.2
  rw [if_neg (by rw [hd]; decide)] at this
  exact h this
theorem no_rec {L : Led} (k : Nat) (hk : k < L.all.length) (h : goodRec L.all[k] = false) : L.good = false := good_no fun hg => by
  have := List.all_eq_true.1 ((good_iff L).1 hg).2.1 L.all[k] (List.getElem_mem _)
  rw [h] at this
  cases this
theorem no_counts {L : Led} (p : Nat) (hp : p < 8) (h : ¬ ((have_ L.all p : Int) ≤ L.C p)) : L.good = false := good_no fun hg => by
  have := ((good_iff L).1 hg).2.2
  rw [countsTo_no L p hp h] at this
  cases this
theorem all_good {L : Led} (h : ∀ i, ∀ hi : i < L.all.length, goodRec L.all[i] = true) : L.all.all goodRec = true := by
  refine List.all_eq_true.2 fun r hr => ?_
  obtain ⟨i, hi, rfl⟩ := List.getElem_of_mem hr
  exact h i hi
theorem have_zero (q : Int) : have_ [] q = 0 := rfl
theorem have_succ (rs : List Rec) (k : Nat) (hk : k < rs.length) (q : Int) : have_ (rs.take (k + 1)) q = have_ (rs.take k) q + (if rs[k].q = q then 1 else 0) := by
  unfold have_ ofPart
  rw [List.take_succ_eq_append_getElem hk, List.filter_append, List.length_append]
  congr 1
  simp only [List.filter_cons, List.filter_nil]
  by_cases h : rs[k].q = q
  · simp [h]
  · simp [h]
theorem have_le (rs : List Rec) (k : Nat) (q : Int) : have_ (rs.take k) q ≤ k := by
  unfold have_ ofPart
  refine Nat.le_trans (List.length_filter_le _ _) ?_
  rw [List.length_take]; omega
theorem goodRec_part {r : Rec} (h : goodRec r = true) : 0 ≤ r.q ∧ r.q < 8 := by
  unfold goodRec at h
  simp only [decide_eq_true_eq] at h
  omega

/-- The counts of the first records, in their box. -/
structure Haves (W : World) (H : Nat) (rs : List Rec) (k : Nat) : Prop where
  c : ∀ p : Nat, p < 8 → W.cell? ⟨H, p, none⟩ = some (.int .i64 (have_ (rs.take k) p))
  f : ∀ p : Nat, W.frozen? ⟨H, p, none⟩ = false
theorem Haves.calm {W W' : World} {H : Nat} {rs : List Rec} {k B : Nat} (h : Haves W H rs k) (hc : Calm B W W') : Haves W' H rs k := by
  refine ⟨fun p hp => hc.cell (h.c p hp), fun p => ?_⟩
  have h0 := hc.frozen (h.c 0 (by omega))
  have e : ∀ (V : World) (a b : Nat), V.heap[H]? = W.heap[H]? → True := fun _ _ _ _ => trivial
  have hb : W'.heap[H]? = W.heap[H]? := by
    have hc0 := h.c 0 (by omega)
    cases hq : W.heap[H]? with
    | none => simp [World.cell?, hq] at hc0
    | some o =>
      cases ho : o.isCells with
      | true => exact hc.cells _ _ hq ho
      | false =>
        cases o <;> simp [World.cell?, hq, Obj.isCells] at hc0 ho
  exact (World.frozen?_of_block (a := ⟨H, p, none⟩) hb).trans (h.f p)
theorem Haves.below {W W' : World} {H : Nat} {rs : List Rec} {k : Nat} (h : Haves W H rs k) (hb : Below W.heap.size W W') : Haves W' H rs k :=
  ⟨fun p hp => cell_later hb (h.c p hp), fun p => (World.frozen?_of_block (a := ⟨H, p, none⟩) (hb.block H (World.block_lt_of_cell? W _ (h.c 0 (by omega))))).trans (h.f p)⟩
/-- One record more. -/
theorem Haves.step {W : World} {H : Nat} {rs : List Rec} {k : Nat} (h : Haves W H rs k) (hk : k < rs.length) (p : Nat) (hp : p < 8) (hq : rs[k].q = p) :
    Haves (W.setCell ⟨H, p, none⟩ (.int .i64 ((have_ (rs.take k) p : Int) + 1))) H rs (k + 1) := by
  refine ⟨fun q hq' => ?_, fun q => by rw [World.frozen?_setCell]; exact h.f q⟩
  rw [have_succ rs k hk]
  by_cases e : q = p
  · subst e
    rw [cell_set_same _ (h.c q hp), hq]
    simp
  · rw [cell_set_off _ e, h.c q hq', hq, if_neg (by omega)]
    rfl
end Go.Proofs.Ytkabfjbmofpkdaa

/- Rows, records and ledgers, read of an argument. -/
namespace Go.Proofs.Ytkabfjbmofpkdaa
open Go.RowKit Go.ChangeShapes Go.WideShapes Go.ChangeAt
set_option maxRecDepth 100000

instance : Inhabited Row := ⟨⟨0, 0, 0⟩⟩
instance : Inhabited Rec := ⟨⟨0, 0, 0, ⟨#[]⟩, 0⟩⟩

section
variable {H : Type} {enc : TypeId × Value → H} {W : World} {held : Bool} {fuel : Nat} {cs : List Value} {y : DataW H × List MemPlace}

theorem cells_row (hf : DataW.trod enc Try.prog W 0 (fun _ => true) held fuel 92 cs = some y) : ∃ r : Row, cs = Row.cells r ∧ r.ok := by
  obtain ⟨xs, n, -, -, hl, hxl, hx⟩ := DataW.trod_struct Try.underlying92 hf
  have hl3 : cs.length = 3 := hl.trans (by kernel_rfl)
  have hc : Try.prog.cellsOf 3 = 1 := by kernel_rfl
  match cs, hl3 with
  | [v0, v1, v2], _ =>
    have h0 : DataW.trod enc Try.prog W 0 (fun _ => true) held n 3 (([v0, v1, v2].drop 0).take (Try.prog.cellsOf 3)) = xs[0]? := hx 0 _ rfl
    have h1 : DataW.trod enc Try.prog W 0 (fun _ => true) held n 3 (([v0, v1, v2].drop 1).take (Try.prog.cellsOf 3)) = xs[1]? := hx 1 _ rfl
    have h2 : DataW.trod enc Try.prog W 0 (fun _ => true) held n 3 (([v0, v1, v2].drop 2).take (Try.prog.cellsOf 3)) = xs[2]? := hx 2 _ rfl
    simp only [hc, List.drop_zero, List.drop_succ_cons, List.take_succ_cons, List.take_zero] at h0 h1 h2
    have hs : ∀ i, i < 3 → ∃ z, xs[i]? = some z := fun i hi => ⟨_, List.getElem?_eq_getElem (by rw [hxl]; exact hi)⟩
    obtain ⟨z0, e0⟩ := hs 0 (by omega)
    obtain ⟨z1, e1⟩ := hs 1 (by omega)
    obtain ⟨z2, e2⟩ := hs 2 (by omega)
    rw [e0] at h0; rw [e1] at h1; rw [e2] at h2
    obtain ⟨a, ha, -, wa⟩ := DataW.trod_int Try.underlying3 h0
    obtain ⟨b, hb, -, wb⟩ := DataW.trod_int Try.underlying3 h1
    obtain ⟨c, hc, -, wc⟩ := DataW.trod_int Try.underlying3 h2
    cases ha; cases hb; cases hc
    exact ⟨⟨a, b, c⟩, rfl, Go.bounds_i64 wa, Go.bounds_i64 wb, Go.bounds_i64 wc⟩

theorem cells_rec (hf : DataW.trod enc Try.prog W 0 (fun _ => true) held fuel 33 cs = some y) : ∃ r : Rec, cs = Rec.cells r ∧ r.ok := by
  obtain ⟨xs, n, -, -, hl, hxl, hx⟩ := DataW.trod_struct Try.underlying33 hf
  have hl3 : cs.length = 5 := hl.trans (by kernel_rfl)
  have hc : Try.prog.cellsOf 3 = 1 := by kernel_rfl
  have hcs : Try.prog.cellsOf 9 = 1 := by kernel_rfl
  have hcu : Try.prog.cellsOf 31 = 1 := by kernel_rfl
  match cs, hl3 with
  | [v0, v1, v2, v3, v4], _ =>
    have h0 : DataW.trod enc Try.prog W 0 (fun _ => true) held n 3 (([v0, v1, v2, v3, v4].drop 0).take (Try.prog.cellsOf 3)) = xs[0]? := hx 0 _ rfl
    have h1 : DataW.trod enc Try.prog W 0 (fun _ => true) held n 3 (([v0, v1, v2, v3, v4].drop 1).take (Try.prog.cellsOf 3)) = xs[1]? := hx 1 _ rfl
    have h2 : DataW.trod enc Try.prog W 0 (fun _ => true) held n 3 (([v0, v1, v2, v3, v4].drop 2).take (Try.prog.cellsOf 3)) = xs[2]? := hx 2 _ rfl
    have h3 : DataW.trod enc Try.prog W 0 (fun _ => true) held n 9 (([v0, v1, v2, v3, v4].drop 3).take (Try.prog.cellsOf 9)) = xs[3]? := hx 3 _ rfl
    have h4 : DataW.trod enc Try.prog W 0 (fun _ => true) held n 31 (([v0, v1, v2, v3, v4].drop 4).take (Try.prog.cellsOf 31)) = xs[4]? := hx 4 _ rfl
    simp only [hc, hcs, hcu, List.drop_zero, List.drop_succ_cons, List.take_succ_cons, List.take_zero] at h0 h1 h2 h3 h4
    have hs : ∀ i, i < 5 → ∃ z, xs[i]? = some z := fun i hi => ⟨_, List.getElem?_eq_getElem (by rw [hxl]; exact hi)⟩
    obtain ⟨z0, e0⟩ := hs 0 (by omega)
    obtain ⟨z1, e1⟩ := hs 1 (by omega)
    obtain ⟨z2, e2⟩ := hs 2 (by omega)
    obtain ⟨z3, e3⟩ := hs 3 (by omega)
    obtain ⟨z4, e4⟩ := hs 4 (by omega)
    rw [e0] at h0; rw [e1] at h1; rw [e2] at h2; rw [e3] at h3; rw [e4] at h4
    obtain ⟨a, ha, -, wa⟩ := DataW.trod_int Try.underlying3 h0
    obtain ⟨b, hb, -, wb⟩ := DataW.trod_int Try.underlying3 h1
    obtain ⟨c, hc, -, wc⟩ := DataW.trod_int Try.underlying3 h2
    obtain ⟨s, hst, -, ws⟩ := DataW.trod_string Try.underlying9 h3
    obtain ⟨d, hd, -, wd⟩ := DataW.trod_int Try.underlying31 h4
    cases ha; cases hb; cases hc; cases hst; cases hd
    exact ⟨⟨a, b, c, s, d⟩, rfl, Go.bounds_i64 wa, Go.bounds_i64 wb, Go.bounds_i64 wc, by unfold maxLen at ws; omega⟩

theorem cells_rows (hf : DataW.trod enc Try.prog W 0 (fun _ => true) held fuel 22 cs = some y) : ∃ v rs, cs = [v] ∧ Rows W v rs ∧ (∀ r ∈ rs, r.ok) ∧ rs.length + 1 ≤ Rows.uptoBulk y.1 ∧ Shape y.1 rs.length :=
  cells_structs (f := Row.cells) Try.underlying22 (by kernel_rfl) row3 (by omega) (fun _ _ _ h => cells_row h) hf
theorem cells_recs (hf : DataW.trod enc Try.prog W 0 (fun _ => true) held fuel 24 cs = some y) : ∃ v rs, cs = [v] ∧ Recs W v rs ∧ (∀ r ∈ rs, r.ok) ∧ rs.length + 1 ≤ Rows.uptoBulk y.1 ∧ Shape y.1 rs.length :=
  cells_structs (f := Rec.cells) Try.underlying24 (by kernel_rfl) rec5 (by omega) (fun _ _ _ h => cells_rec h) hf

theorem cells_cnt (hf : DataW.trod enc Try.prog W 0 (fun _ => true) held fuel 23 cs = some y) : ∃ C : Nat → Int, cs = [.int .i64 (C 0), .int .i64 (C 1), .int .i64 (C 2), .int .i64 (C 3), .int .i64 (C 4), .int .i64 (C 5), .int .i64 (C 6), .int .i64 (C 7)] := by
  obtain ⟨xs, n, -, -, hl, hxl, hx⟩ := DataW.trod_array Try.underlying23 hf
  have hl8 : cs.length = 8 := hl.trans (by kernel_rfl)
  have hc : Try.prog.cellsOf 3 = 1 := by kernel_rfl
  have hex : ∀ i, i < 8 → ∃ k : Int, cs[i]? = some (.int .i64 k) := by
    intro i hi
    have h := hx i hi
    rw [hc, Nat.mul_one, List.getElem?_eq_getElem (by omega)] at h
    obtain ⟨k, hk, -, -⟩ := DataW.trod_int Try.underlying3 h
    have hi8 : i < cs.length := by omega
    rw [List.drop_eq_getElem_cons hi8] at hk
    simp only [List.take_succ_cons, List.take_zero, List.cons.injEq, and_true] at hk
    exact ⟨k, by rw [List.getElem?_eq_getElem hi8, hk]⟩
  obtain ⟨C, hC⟩ := Go.Deep.choose_lt hex
  refine ⟨C, ?_⟩
  match cs, hl8, hC with
  | [v0, v1, v2, v3, v4, v5, v6, v7], _, hC =>
    have e0 := hC 0 (by omega)
    have e1 := hC 1 (by omega)
    have e2 := hC 2 (by omega)
    have e3 := hC 3 (by omega)
    have e4 := hC 4 (by omega)
    have e5 := hC 5 (by omega)
    have e6 := hC 6 (by omega)
    have e7 := hC 7 (by omega)
    simp at e0 e1 e2 e3 e4 e5 e6 e7
    simp [e0, e1, e2, e3, e4, e5, e6, e7]
end

/-- A ledger by value. -/
theorem open_led {H : Type} {enc : TypeId × Value → H} {W : World} {B : Nat} {held : Bool} {v : Value} {d : DataW H} {p : List MemPlace}
    (ok : Value.okWide Try.prog W .any B 30 v) (h : DataW.Trod enc Try.prog W 0 (fun _ => true) held 30 v d p) :
    ∃ (rows opn batches ops : Value) (C : Nat → Int) (sealed decided keep : Int) (deployed : Bool) (rs : List Row) (os : List Rec) (parts : List (DataW H)) (dO : DataW H),
      v = .agg #[rows, .int .i64 (C 0), .int .i64 (C 1), .int .i64 (C 2), .int .i64 (C 3), .int .i64 (C 4), .int .i64 (C 5), .int .i64 (C 6), .int .i64 (C 7), opn, batches, .int .i64 sealed, .int .i64 decided, .bool deployed, ops, .int .i64 keep] ∧
      Rows W rows rs ∧ (∀ r ∈ rs, r.ok) ∧ Recs W opn os ∧ d = .agg parts ∧ parts[2]? = some dO ∧ Shape dO os.length := by
  obtain ⟨csA, rfl, hsz⟩ := okWide_struct Try.underlying30 ok
  obtain ⟨fuel, hf⟩ := h
  have hs16 : csA.toList.length = 16 := by have : csA.size = 16 := hsz.trans (by kernel_rfl); simpa using this
  simp only [Value.cells] at hf
  obtain ⟨xs, n, -, hxy, -, hxl, hx⟩ := DataW.trod_struct Try.underlying30 hf
  have hc : Try.prog.cellsOf 3 = 1 := by kernel_rfl
  have hcr : Try.prog.cellsOf 22 = 1 := by kernel_rfl
  have hco : Try.prog.cellsOf 24 = 1 := by kernel_rfl
  have hcb : Try.prog.cellsOf 4 = 1 := by kernel_rfl
  have hcc : Try.prog.cellsOf 23 = 8 := by kernel_rfl
  obtain ⟨L, hL⟩ : ∃ L, L = csA.toList := ⟨_, rfl⟩
  have hcs : csA = L.toArray := by rw [hL]
  rw [← hL] at hs16 hx
  subst hcs
  clear hL hsz hf ok
  match L, hs16 with
  | [v0, v1, v2, v3, v4, v5, v6, v7, v8, v9, v10, v11, v12, v13, v14, v15], _ =>
    have h0 : DataW.trod enc Try.prog W 0 (fun _ => true) held n 22 (([v0, v1, v2, v3, v4, v5, v6, v7, v8, v9, v10, v11, v12, v13, v14, v15].drop 0).take (Try.prog.cellsOf 22)) = xs[0]? := hx 0 _ rfl
    have h1 : DataW.trod enc Try.prog W 0 (fun _ => true) held n 23 (([v0, v1, v2, v3, v4, v5, v6, v7, v8, v9, v10, v11, v12, v13, v14, v15].drop 1).take (Try.prog.cellsOf 23)) = xs[1]? := hx 1 _ rfl
    have h2 : DataW.trod enc Try.prog W 0 (fun _ => true) held n 24 (([v0, v1, v2, v3, v4, v5, v6, v7, v8, v9, v10, v11, v12, v13, v14, v15].drop 9).take (Try.prog.cellsOf 24)) = xs[2]? := hx 2 _ rfl
    have h4 : DataW.trod enc Try.prog W 0 (fun _ => true) held n 3 (([v0, v1, v2, v3, v4, v5, v6, v7, v8, v9, v10, v11, v12, v13, v14, v15].drop 11).take (Try.prog.cellsOf 3)) = xs[4]? := hx 4 _ rfl
    have h5 : DataW.trod enc Try.prog W 0 (fun _ => true) held n 3 (([v0, v1, v2, v3, v4, v5, v6, v7, v8, v9, v10, v11, v12, v13, v14, v15].drop 12).take (Try.prog.cellsOf 3)) = xs[5]? := hx 5 _ rfl
    have h6 : DataW.trod enc Try.prog W 0 (fun _ => true) held n 4 (([v0, v1, v2, v3, v4, v5, v6, v7, v8, v9, v10, v11, v12, v13, v14, v15].drop 13).take (Try.prog.cellsOf 4)) = xs[6]? := hx 6 _ rfl
    have h8 : DataW.trod enc Try.prog W 0 (fun _ => true) held n 3 (([v0, v1, v2, v3, v4, v5, v6, v7, v8, v9, v10, v11, v12, v13, v14, v15].drop 15).take (Try.prog.cellsOf 3)) = xs[8]? := hx 8 _ rfl
    simp only [hc, hcr, hco, hcb, hcc, List.drop_zero, List.drop_succ_cons, List.take_succ_cons, List.take_zero] at h0 h1 h2 h4 h5 h6 h8
    have hs : ∀ i, i < 9 → ∃ z, xs[i]? = some z := fun i hi => ⟨_, List.getElem?_eq_getElem (by rw [hxl]; exact hi)⟩
    obtain ⟨z0, e0⟩ := hs 0 (by omega)
    obtain ⟨z1, e1⟩ := hs 1 (by omega)
    obtain ⟨z2, e2⟩ := hs 2 (by omega)
    obtain ⟨z4, e4⟩ := hs 4 (by omega)
    obtain ⟨z5, e5⟩ := hs 5 (by omega)
    obtain ⟨z6, e6⟩ := hs 6 (by omega)
    obtain ⟨z8, e8⟩ := hs 8 (by omega)
    rw [e0] at h0; rw [e1] at h1; rw [e2] at h2; rw [e4] at h4; rw [e5] at h5; rw [e6] at h6; rw [e8] at h8
    obtain ⟨u0, rs, hu0, hrs, hok, -, -⟩ := cells_rows h0
    obtain ⟨C, hC⟩ := cells_cnt h1
    obtain ⟨u2, os, hu2, hos, -, -, hsh⟩ := cells_recs h2
    obtain ⟨a, ha, -, -⟩ := DataW.trod_int Try.underlying3 h4
    obtain ⟨b, hb, -, -⟩ := DataW.trod_int Try.underlying3 h5
    obtain ⟨c, hc', -⟩ := DataW.trod_bool Try.underlying4 h6
    obtain ⟨k, hk, -, -⟩ := DataW.trod_int Try.underlying3 h8
    cases hu0; cases hu2; cases ha; cases hb; cases hc'; cases hk
    simp only [List.cons.injEq, and_true] at hC
    obtain ⟨rfl, rfl, rfl, rfl, rfl, rfl, rfl, rfl⟩ := hC
    exact ⟨_, _, _, _, C, a, b, k, c, rs, os, xs.map (·.1), z2.1, rfl, hrs, hok, hos, (congrArg (fun x => x.1) hxy), by rw [List.getElem?_map, e2]; rfl, hsh⟩

/-- A slice of records. -/
theorem open_recs {H : Type} {enc : TypeId × Value → H} {W : World} {B : Nat} {held : Bool} {v : Value} {d : DataW H} {p : List MemPlace}
    (ok : Value.okWide Try.prog W .any B 24 v) (h : DataW.Trod enc Try.prog W 0 (fun _ => true) held 24 v d p) : ∃ rs, Recs W v rs ∧ (∀ r ∈ rs, r.ok) ∧ Shape d rs.length := by
  obtain ⟨a, len, cap, rfl⟩ := okWide_slice Try.underlying24 ok
  obtain ⟨fuel, hf⟩ := h
  obtain ⟨v, rs, hcs, h1, h2, -, h3⟩ := cells_recs hf
  simp [Value.cells] at hcs
  subst hcs
  exact ⟨rs, h1, h2, h3⟩
/-- A record by value. -/
theorem open_rec {H : Type} {enc : TypeId × Value → H} {W : World} {B : Nat} {held : Bool} {v : Value} {d : DataW H} {p : List MemPlace}
    (ok : Value.okWide Try.prog W .any B 33 v) (h : DataW.Trod enc Try.prog W 0 (fun _ => true) held 33 v d p) : ∃ r : Rec, v = .agg #[.int .i64 r.p, .int .i64 r.s, .int .i64 r.q, .string r.key, .int .u32 r.val] ∧ r.ok := by
  obtain ⟨csA, rfl, hsz⟩ := okWide_struct Try.underlying33 ok
  obtain ⟨fuel, hf⟩ := h
  simp only [Value.cells] at hf
  obtain ⟨r, hr, hk⟩ := cells_rec hf
  refine ⟨r, ?_, hk⟩
  have : csA = (Rec.cells r).toArray := by rw [← hr]
  rw [this]; rfl

theorem reach_recs {H : Type} {ts : List TypeId} {ds : List (DataW H)} {d : DataW H} {n j : Nat} (h : (DataW.weightsEach Try.prog ts ds).all (· ≤ reachBytes) = true) (ht : ts[j]? = some 24) (hd : ds[j]? = some d) (hs : Shape d n) : n ≤ 140737488351232 := by
  rcases hs with rfl | ⟨es, sp, rfl, rfl⟩
  · omega
  · have := sized_slice h ht hd Try.underlying24
    have hb : Try.prog.bytesOf 33 = 48 := by kernel_rfl
    have hr : reachBytes = 140737488351232 := rfl
    rw [hb, hr] at this
    omega
theorem reach_led {H : Type} {ts : List TypeId} {ds : List (DataW H)} {parts : List (DataW H)} {dO : DataW H} {n j : Nat} (h : (DataW.weightsEach Try.prog ts ds).all (· ≤ reachBytes) = true) (ht : ts[j]? = some 30) (hd : ds[j]? = some (.agg parts)) (hp : parts[2]? = some dO) (hs : Shape dO n) : n ≤ 140737488351232 := by
  rcases hs with rfl | ⟨es, sp, rfl, rfl⟩
  · omega
  · have hmem : ∀ k ∈ (DataW.slice es sp : DataW H).weights Try.prog 24, k ≤ reachBytes := by
      intro k hk
      have h1 : k ∈ (DataW.agg parts : DataW H).weights Try.prog 30 := by
        simp only [DataW.weights, Try.underlying30]
        exact DataW.weights_mem_each (j := 2) rfl hp k hk
      have := List.all_eq_true.1 h _ (DataW.weights_mem_each ht hd k h1)
      simpa using this
    have := hmem ((es.length + sp.length) * Try.prog.bytesOf 33) (by simp [DataW.weights, Try.underlying24])
    have hb : Try.prog.bytesOf 33 = 48 := by kernel_rfl
    have hr : reachBytes = 140737488351232 := rfl
    rw [hb, hr] at this
    omega
end Go.Proofs.Ytkabfjbmofpkdaa
