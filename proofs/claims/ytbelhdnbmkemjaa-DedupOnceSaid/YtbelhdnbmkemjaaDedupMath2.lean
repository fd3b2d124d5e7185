/- Layer 13, plain: where a row is put into a table, and what the document's loop makes. -/
import Derived.Test.YtbelhdnbmkemjaaDedup02
namespace Go.Proofs.Ytbelhdnbmkemjaa

theorem rising_pair : ∀ (rs : List Row), Rising rs ↔ rs.Pairwise (fun a b => a.key < b.key)
  | [] => by simp [Rising]
  | r :: rs => by rw [List.pairwise_cons, ← rising_pair rs]; rfl
theorem rising_at {rs : List Row} (h : Rising rs) (i j : Nat) (hi : i < rs.length) (hj : j < rs.length) (hij : i < j) : rs[i].key < rs[j].key :=
  List.pairwise_iff_getElem.1 ((rising_pair rs).1 h) i j hi hj hij
theorem rising_adj {rs : List Row} (h : ∀ i, ∀ hi : i + 1 < rs.length, rs[i].key < rs[i + 1].key) : Rising rs := by
  rw [rising_pair, List.pairwise_iff_getElem]
  intro i j hi hj hij
  induction j with
  | zero => omega
  | succ j ih =>
    have h1 := h j hj
    rcases Nat.lt_or_ge i j with hl | hg
    · have := ih (by omega) hl; omega
    · obtain rfl : i = j := by omega
      exact h1

theorem table_good (rs : List Row) : goodRows rs = true ↔ Table rs := by
  constructor
  · intro hg
    refine ⟨rising_adj (fun i hi => ?_), fun r hr => ?_⟩
    · have := goodTo_at rs rs.length (i + 1) hi hg
      rw [goodAt_succ rs i hi] at this
      simp only [Bool.and_eq_true, decide_eq_true_eq] at this
      exact this.2
    · obtain ⟨i, hi, rfl⟩ := List.getElem_of_mem hr
      exact goodAt_right rs i hi (goodTo_at rs rs.length i hi hg)
  · intro h
    unfold goodRows goodTo
    rw [List.all_eq_true]
    intro i hi
    have hi := List.mem_range.1 hi
    have hm := h.2 rs[i] (List.getElem_mem hi)
    cases i with
    | zero => rw [goodAt_zero rs hi, hm.1]; simpa using hm.2
    | succ j => rw [goodAt_succ rs j hi, hm.1, decide_eq_true hm.2, decide_eq_true (rising_at h.1 j (j + 1) (by omega) hi (by omega))]; rfl

theorem key_range {r : Row} (h : rightB r.p r.q = true) : 0 ≤ r.key ∧ r.key ≤ 511 := by
  unfold rightB at h
  simp only [decide_eq_true_eq] at h
  unfold Row.key
  omega
theorem rising_len : ∀ (rs : List Row) (lo : Int), Rising rs → (∀ r ∈ rs, lo ≤ r.key ∧ r.key ≤ 511) → (rs.length : Int) ≤ 512 - lo ∨ rs = []
  | [], _, _, _ => .inr rfl
  | r :: rs, lo, h, hr => by
    left
    have h0 := hr r (by simp)
    rcases rising_len rs (r.key + 1) h.2 (fun x hx => ⟨by have := h.1 x hx; omega, (hr x (by simp [hx])).2⟩) with h1 | rfl
    · rw [List.length_cons]; omega
    · simp only [List.length_cons, List.length_nil]; omega
theorem table_len {rs : List Row} (h : Table rs) : rs.length ≤ 512 := by
  rcases rising_len rs 0 h.1 (fun r hr => key_range (h.2 r hr).1) with h1 | rfl
  · omega
  · simp

theorem put_less (row : Row) : ∀ (xs ys : List Row), (∀ x ∈ xs, x.key < row.key) → putRowAt row (xs ++ ys) = xs ++ putRowAt row ys
  | [], _, _ => rfl
  | x :: xs, ys, h => by
    rw [List.cons_append, putRowAt, if_pos (h x (by simp)), put_less row xs ys (fun z hz => h z (by simp [hz]))]
    rfl
theorem put_front (row : Row) (ys : List Row) (h : ∀ y ∈ ys, row.key < y.key) : putRowAt row ys = row :: ys := by
  cases ys with
  | nil => rfl
  | cons y ys =>
    have := h y (by simp)
    rw [putRowAt, if_neg (by omega), if_neg (by omega)]
theorem put_snoc (row x : Row) (hx : row.key < x.key) : ∀ (xs : List Row), (∃ z ∈ xs, row.key ≤ z.key) → putRowAt row (xs ++ [x]) = putRowAt row xs ++ [x]
  | [], ⟨z, hz, _⟩ => by cases hz
  | y :: xs, ⟨z, hz, h⟩ => by
    rw [List.cons_append, putRowAt, putRowAt]
    split
    · rename_i hlt
      rw [put_snoc row x hx xs ⟨z, by
        rcases List.mem_cons.1 hz with rfl | hz
        · omega
        · exact hz, h⟩]
      rfl
    · split
      · rfl
      · rfl
theorem put_eq (row : Row) : ∀ (rs : List Row) (i : Nat) (hi : i < rs.length), Rising rs → rs[i].key = row.key → putRowAt row rs = rs.set i row
  | r :: rs, 0, _, _, he => by
    simp only [List.getElem_cons_zero] at he
    rw [putRowAt, if_neg (by omega), if_pos he]
    rfl
  | r :: rs, i + 1, hi, h, he => by
    simp only [List.getElem_cons_succ] at he
    have hi' : i < rs.length := by simpa using hi
    have h1 := h.1 rs[i] (List.getElem_mem hi')
    rw [putRowAt, if_pos (by omega), put_eq row rs i hi' h.2 he]
    rfl
theorem put_new (row : Row) (rs : List Row) (c : Nat) (hc : c ≤ rs.length) (hlo : ∀ k, ∀ h : k < rs.length, k < c → rs[k].key < row.key) (hhi : ∀ k, ∀ h : k < rs.length, c ≤ k → row.key < rs[k].key) :
    putRowAt row rs = rs.take c ++ row :: rs.drop c := by
  have h1 := put_less row (rs.take c) (rs.drop c) (fun x hx => by
    obtain ⟨k, hk, rfl⟩ := List.getElem_of_mem hx
    rw [List.length_take] at hk
    rw [List.getElem_take]
    exact hlo k (by omega) (by omega))
  rw [List.take_append_drop] at h1
  rw [h1, put_front row (rs.drop c) (fun y hy => by
    obtain ⟨k, hk, rfl⟩ := List.getElem_of_mem hy
    rw [List.length_drop] at hk
    rw [List.getElem_drop]
    exact hhi _ (by omega) (by omega))]
theorem cut_at (K : Int) : ∀ (rs : List Row), Rising rs → ∃ c, c ≤ rs.length ∧ (∀ k, ∀ h : k < rs.length, k < c → rs[k].key < K) ∧ (∀ k, ∀ h : k < rs.length, c ≤ k → K ≤ rs[k].key)
  | [], _ => ⟨0, Nat.le_refl _, fun k h => by simp at h, fun k h => by simp at h⟩
  | r :: rs, h => by
    by_cases hr : r.key < K
    · obtain ⟨c, hc, h1, h2⟩ := cut_at K rs h.2
      refine ⟨c + 1, by simpa using hc, fun k hk hkc => ?_, fun k hk hkc => ?_⟩
      · cases k with
        | zero => exact hr
        | succ k => simp only [List.getElem_cons_succ]; exact h1 k (by simpa using hk) (by omega)
      · cases k with
        | zero => omega
        | succ k => simp only [List.getElem_cons_succ]; exact h2 k (by simpa using hk) (by omega)
    · refine ⟨0, by omega, fun k _ h0 => by omega, fun k hk _ => ?_⟩
      cases k with
      | zero => simp only [List.getElem_cons_zero]; omega
      | succ k =>
        have := h.1 (rs[k]'(by simpa using hk)) (List.getElem_mem _)
        simp only [List.getElem_cons_succ]
        omega

/-- What the document's loop has behind k rows. -/
def docTo (row : Row) (rs : List Row) (k : Nat) (d : Bool) : List Row := if d = true then putRowAt row (rs.take k) else rs.take k
def DocAt (row : Row) (rs : List Row) (k : Nat) (d : Bool) : Prop := if d = true then ∃ z ∈ rs.take k, row.key ≤ z.key else ∀ z ∈ rs.take k, z.key < row.key

theorem doc_start (row : Row) (rs : List Row) : DocAt row rs 0 false ∧ docTo row rs 0 false = [] := by
  refine ⟨?_, rfl⟩
  unfold DocAt
  rw [if_neg (by simp)]
  intro z hz
  simp at hz
theorem doc_end {row : Row} {rs : List Row} {d : Bool} (h : DocAt row rs rs.length d) : docTo row rs rs.length d ++ (if d = true then [] else [row]) = putRowAt row rs := by
  unfold DocAt at h
  unfold docTo
  rw [List.take_length] at *
  cases d with
  | true => simp
  | false =>
    simp only [Bool.false_eq_true, if_false] at h ⊢
    have := put_less row rs [] h
    rw [List.append_nil] at this
    rw [this]
    rfl
/-- The four ways through the loop's body: done or not, the row before, at or behind. -/
theorem doc_ways {row : Row} {rs : List Row} (h : Rising rs) {k : Nat} (hk : k < rs.length) {d : Bool} (hd : DocAt row rs k d) :
    (d = false ∧ rs[k].key < row.key ∧ DocAt row rs (k + 1) false ∧ docTo row rs (k + 1) false = docTo row rs k d ++ [rs[k]]) ∨
    (d = false ∧ rs[k].key = row.key ∧ DocAt row rs (k + 1) true ∧ docTo row rs (k + 1) true = docTo row rs k d ++ [row]) ∨
    (d = false ∧ row.key < rs[k].key ∧ DocAt row rs (k + 1) true ∧ docTo row rs (k + 1) true = docTo row rs k d ++ [row] ++ [rs[k]]) ∨
    (d = true ∧ row.key < rs[k].key ∧ DocAt row rs (k + 1) true ∧ docTo row rs (k + 1) true = docTo row rs k d ++ [rs[k]]) := by
  have ht : rs.take (k + 1) = rs.take k ++ [rs[k]] := List.take_succ_eq_append_getElem hk
  unfold DocAt docTo at *
  rw [ht]
  cases d with
  | false =>
    simp only [Bool.false_eq_true, if_false, true_and, false_and, or_false, if_true] at hd ⊢
    have hp := put_less row (rs.take k) [rs[k]] hd
    rw [hp]
    rcases Int.lt_trichotomy rs[k].key row.key with h1 | h1 | h1
    · left
      refine ⟨h1, fun z hz => ?_, trivial⟩
      rcases List.mem_append.1 hz with hz | hz
      · exact hd z hz
      · rw [List.mem_singleton.1 hz]; exact h1
    · right; left
      exact ⟨h1, ⟨rs[k], List.mem_append.2 (.inr (List.mem_singleton.2 rfl)), by omega⟩, by rw [putRowAt, if_neg (by omega), if_pos h1]⟩
    · right; right
      exact ⟨h1, ⟨rs[k], List.mem_append.2 (.inr (List.mem_singleton.2 rfl)), by omega⟩, by rw [putRowAt, if_neg (by omega), if_neg (by omega)]; simp⟩
  | true =>
    simp only [if_true, true_and, reduceCtorEq, false_and, false_or] at hd ⊢
    obtain ⟨z, hz, hzk⟩ := hd
    obtain ⟨j, hj, rfl⟩ := List.getElem_of_mem hz
    rw [List.length_take] at hj
    rw [List.getElem_take] at hzk
    have h1 := rising_at h j k (by omega) hk (by omega)
    refine ⟨by omega, ⟨_, List.mem_append.2 (.inl hz), by rw [List.getElem_take]; exact hzk⟩, put_snoc row _ (by omega) _ ⟨_, hz, by rw [List.getElem_take]; exact hzk⟩⟩

theorem flat_set (rs : List Row) (i : Nat) (hi : i < rs.length) (row : Row) (hp : rs[i].p = row.p) (hq : rs[i].q = row.q) :
    flatF Row.cells (rs.set i row) = (flatF Row.cells rs).set (i * 3 + 2) (.int .i64 row.l) := by
  induction rs generalizing i with
  | nil => simp at hi
  | cons r rs ih =>
    cases i with
    | zero =>
      simp only [List.getElem_cons_zero] at hp hq
      obtain ⟨a, b, c⟩ := r
      obtain ⟨a', b', c'⟩ := row
      simp only at hp hq
      subst hp hq
      rfl
    | succ i =>
      have := ih i (by simpa using hi) hp hq
      have e : (i + 1) * 3 + 2 = i * 3 + 2 + 1 + 1 + 1 := by omega
      rw [e]
      show Row.cells r ++ flatF Row.cells (rs.set i row) = _
      rw [this]
      rfl
end Go.Proofs.Ytbelhdnbmkemjaa
