/- Layers 13 and 15, plain: rows, records, Last, Look, Check. -/
import Derived.Test.YtbelhdnbmkemjaaLib
namespace Go.Proofs.Ytbelhdnbmkemjaa

structure Row where
  p : Int
  q : Int
  l : Int
structure Rec where
  p : Int
  s : Int
  q : Int
  key : ByteArray
  val : Int

/-- The last number that was taken. -/
def lastOf (rs : List Row) (p q : Int) : Int := match rs.find? fun r => r.p == p && r.q == q with
  | some r => r.l
  | none => -1
theorem lastOf_nil (p q : Int) : lastOf [] p q = -1 := rfl
theorem lastOf_hit (r : Row) (rs : List Row) : lastOf (r :: rs) r.p r.q = r.l := by simp [lastOf]
theorem lastOf_miss (r : Row) (rs : List Row) (p q : Int) (h : ¬ (r.p = p ∧ r.q = q)) : lastOf (r :: rs) p q = lastOf rs p q := by
  have : (r.p == p && r.q == q) = false := by
    rw [Bool.and_eq_false_iff]
    by_cases h1 : r.p = p
    · exact .inr (beq_eq_false_iff_ne.2 fun h2 => h ⟨h1, h2⟩)
    · exact .inl (beq_eq_false_iff_ne.2 h1)
  unfold lastOf
  rw [List.find?_cons, this]

/-- What a number is. -/
def lookOf (rs : List Row) (p q s : Int) : Int :=
  if lastOf rs p q = 9223372036854775807 ∧ s = 9223372036854775807 then 4 else if s ≤ lastOf rs p q then 2 else if s = lastOf rs p q + 1 then 1 else 3

def goodRec (r : Rec) : Bool := decide (0 ≤ r.p ∧ r.p ≤ 63 ∧ 0 ≤ r.s ∧ 0 ≤ r.q ∧ r.q < 8 ∧ r.key.size ≤ 32)

/-- Is a number of the record's producer and part on the way? -/
def onWay (way : List Rec) (r : Rec) (s : Int) : Bool := way.any fun o => o.p == r.p && o.q == r.q && o.s == s
def mine (l : List Rec) (p : Int) : Nat := (l.filter fun o => o.p == p).length

/-- What Check answers, from the last number, the counter and the open records. -/
def checkCode (rs : List Row) (cnt : Int) (os way : List Rec) (r : Rec) : Int :=
  if goodRec r = false then 3
  else if lookOf rs r.p r.q r.s = 2 then 0
  else if lookOf rs r.p r.q r.s = 4 ∨ cnt = 9223372036854775807 then 14
  else if onWay way r r.s then 0
  else if ∃ d : Nat, d < (r.s - (lastOf rs r.p r.q + 1)).toNat ∧ onWay way r (lastOf rs r.p r.q + 1 + d) = false then 11
  else if 32 ≤ mine os r.p + mine way r.p ∨ 256 ≤ way.length ∨ 512 ≤ os.length + way.length then 10
  else 0

theorem onWay_reverse (way : List Rec) (r : Rec) (s : Int) : onWay way.reverse r s = onWay way r s := by
  unfold onWay
  rw [List.any_reverse]
theorem mine_reverse (l : List Rec) (p : Int) : mine l.reverse p = mine l p := by simp [mine, List.filter_reverse]
theorem checkCode_reverse (rs : List Row) (cnt : Int) (os way : List Rec) (r : Rec) : checkCode rs cnt os way.reverse r = checkCode rs cnt os way r := by
  unfold checkCode
  simp only [onWay_reverse, mine_reverse, List.length_reverse]
end Go.Proofs.Ytbelhdnbmkemjaa
