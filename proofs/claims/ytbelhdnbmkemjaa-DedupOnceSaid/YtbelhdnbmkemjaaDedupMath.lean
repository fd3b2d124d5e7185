/- Layer 13, plain: tables of rows, and what a number that is taken does to them. -/
import Derived.Test.YtbelhdnbmkemjaaQuotaMath
namespace Go.Proofs.Ytbelhdnbmkemjaa

def Row.key (r : Row) : Int := 8 * r.p + r.q
def rightB (p q : Int) : Bool := decide (0 ≤ p ∧ p ≤ 63 ∧ 0 ≤ q ∧ q < 8)

/-- What Good asks of row i. -/
def goodAt (rs : List Row) (i : Nat) : Bool := match rs[i]? with
  | some r => rightB r.p r.q && decide (0 ≤ r.l) && (match i with
    | 0 => true
    | j + 1 => match rs[j]? with
      | some r' => decide (r'.key < r.key)
      | none => true)
  | none => true
def goodTo (rs : List Row) (n : Nat) : Bool := (List.range n).all (goodAt rs)
def goodRows (rs : List Row) : Bool := goodTo rs rs.length
theorem goodTo_zero (rs : List Row) : goodTo rs 0 = true := rfl
theorem goodTo_succ (rs : List Row) (n : Nat) : goodTo rs (n + 1) = (goodTo rs n && goodAt rs n) := by simp [goodTo, List.range_succ]
theorem goodTo_no (rs : List Row) (n i : Nat) (hi : i < n) (h : goodAt rs i = false) : goodTo rs n = false := by
  unfold goodTo
  rw [List.all_eq_false]
  exact ⟨i, List.mem_range.2 hi, by rw [h]; simp⟩

/-- The ordered rows, with the row of a number put in its place. -/
def putRowAt (row : Row) : List Row → List Row
  | [] => [row]
  | r :: rs => if r.key < row.key then r :: putRowAt row rs else if r.key = row.key then row :: rs else row :: r :: rs

/-- What Take hands back. -/
def takeRows (rs : List Row) (p q s : Int) : List Row := if rightB p q = true ∧ lookOf rs p q s = 1 then putRowAt ⟨p, q, s⟩ rs else rs
def takeCode (rs : List Row) (p q s : Int) : Int := if rightB p q = true then lookOf rs p q s else 0

/-- Rows whose keys rise. -/
def Rising : List Row → Prop
  | [] => True
  | r :: rs => (∀ x ∈ rs, r.key < x.key) ∧ Rising rs
def Table (rs : List Row) : Prop := Rising rs ∧ ∀ r ∈ rs, rightB r.p r.q = true ∧ 0 ≤ r.l

theorem key_inj {a b : Row} (ha : rightB a.p a.q = true) (hb : rightB b.p b.q = true) (h : a.key = b.key) : a.p = b.p ∧ a.q = b.q := by
  unfold rightB at ha hb
  simp only [decide_eq_true_eq] at ha hb
  unfold Row.key at h
  omega

theorem mem_putRowAt {row x : Row} : ∀ {rs : List Row}, x ∈ putRowAt row rs → x = row ∨ x ∈ rs
  | [], h => by simp [putRowAt] at h; exact .inl h
  | r :: rs, h => by
    unfold putRowAt at h
    split at h
    · rcases List.mem_cons.1 h with h | h
      · exact .inr (by rw [h]; simp)
      · rcases mem_putRowAt h with h | h
        · exact .inl h
        · exact .inr (by simp [h])
    · split at h
      · rcases List.mem_cons.1 h with h | h
        · exact .inl h
        · exact .inr (by simp [h])
      · rcases List.mem_cons.1 h with h | h
        · exact .inl h
        · exact .inr h
theorem rising_put (row : Row) : ∀ (rs : List Row), Rising rs → Rising (putRowAt row rs)
  | [], _ => ⟨fun x h => by simp at h, trivial⟩
  | r :: rs, h => by
    unfold putRowAt
    split
    · rename_i hlt
      refine ⟨fun x hx => ?_, rising_put row rs h.2⟩
      rcases mem_putRowAt hx with rfl | hx
      · exact hlt
      · exact h.1 x hx
    · split
      · rename_i hn he
        exact ⟨fun x hx => by have := h.1 x hx; omega, h.2⟩
      · rename_i hn he
        refine ⟨fun x hx => ?_, h⟩
        rcases List.mem_cons.1 hx with rfl | hx
        · omega
        · have := h.1 x hx; omega
theorem table_put {rs : List Row} (h : Table rs) (p q s : Int) (hr : rightB p q = true) (hs : 0 ≤ s) : Table (putRowAt ⟨p, q, s⟩ rs) := by
  refine ⟨rising_put _ _ h.1, fun x hx => ?_⟩
  rcases mem_putRowAt hx with rfl | hx
  · exact ⟨hr, hs⟩
  · exact h.2 x hx

/-- What is known of a place behind a put. -/
theorem last_put {rs : List Row} (h : Table rs) (p q s : Int) : lastOf (putRowAt ⟨p, q, s⟩ rs) p q = s := by
  induction rs with
  | nil => exact lastOf_hit ⟨p, q, s⟩ []
  | cons r rs ih =>
    have ht : Table rs := ⟨h.1.2, fun x hx => h.2 x (by simp [hx])⟩
    unfold putRowAt
    split
    · rename_i hlt
      rw [lastOf_miss _ _ _ _ (fun e => by unfold Row.key at hlt; simp only at hlt; omega)]
      exact ih ht
    · split
      · exact lastOf_hit ⟨p, q, s⟩ rs
      · exact lastOf_hit ⟨p, q, s⟩ (r :: rs)
theorem last_put_other {rs : List Row} (h : Table rs) (p q s p' q' : Int) (hr : rightB p q = true) (hne : ¬ (p = p' ∧ q = q')) : lastOf (putRowAt ⟨p, q, s⟩ rs) p' q' = lastOf rs p' q' := by
  induction rs with
  | nil => exact lastOf_miss ⟨p, q, s⟩ [] _ _ hne
  | cons r rs ih =>
    have ht : Table rs := ⟨h.1.2, fun x hx => h.2 x (by simp [hx])⟩
    unfold putRowAt
    split
    · by_cases e : r.p = p' ∧ r.q = q'
      · obtain ⟨rfl, rfl⟩ := e
        rw [lastOf_hit, lastOf_hit]
      · rw [lastOf_miss _ _ _ _ e, lastOf_miss _ _ _ _ e]
        exact ih ht
    · split
      · rename_i hk
        have hri := (h.2 r (by simp)).1
        have e := key_inj hri (b := ⟨p, q, s⟩) hr hk
        rw [lastOf_miss ⟨p, q, s⟩ _ _ _ hne, lastOf_miss r _ _ _ (fun e2 => hne ⟨by rw [← e2.1]; exact e.1.symm, by rw [← e2.2]; exact e.2.symm⟩)]
      · exact lastOf_miss ⟨p, q, s⟩ _ _ _ hne
end Go.Proofs.Ytbelhdnbmkemjaa
