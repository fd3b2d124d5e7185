/- Rows of structs: cells one element behind the other; how such a row is read of an argument. -/
import Derived.Test.YtpmkepmnldkccaaTop
namespace Go.Proofs.Ytpmkepmnldkccaa
open Go.RowKit Go.ChangeShapes Go.WideShapes Go.ChangeAt

section
variable {α : Type} {f : α → List Value} {k : Nat}

def flatF (f : α → List Value) (es : List α) : List Value := es.flatMap f
theorem flatF_nil : flatF f [] = [] := rfl
theorem flatF_append (a b : List α) : flatF f (a ++ b) = flatF f a ++ flatF f b := by simp [flatF]
theorem flatF_one (e : α) : flatF f [e] = f e := by simp [flatF]
theorem flatF_length (hk : ∀ a, (f a).length = k) (es : List α) : (flatF f es).length = es.length * k := by
  induction es with
  | nil => simp [flatF]
  | cons e es ih =>
    simp only [flatF, List.flatMap_cons, List.length_append, List.length_cons] at ih ⊢
    rw [ih, hk, Nat.add_mul, Nat.one_mul, Nat.add_comm]
theorem flatF_take (hk : ∀ a, (f a).length = k) (es : List α) (n : Nat) (hn : n ≤ es.length) : (flatF f es).take (n * k) = flatF f (es.take n) := by
  have h1 := flatF_append (f := f) (es.take n) (es.drop n)
  rw [List.take_append_drop] at h1
  have h : (flatF f (es.take n)).length = n * k := by rw [flatF_length hk, List.length_take, Nat.min_eq_left hn]
  rw [h1, ← h, List.take_left]
theorem flatF_drop (hk : ∀ a, (f a).length = k) (es : List α) (n : Nat) (hn : n ≤ es.length) : (flatF f es).drop (n * k) = flatF f (es.drop n) := by
  have h1 := flatF_append (f := f) (es.take n) (es.drop n)
  rw [List.take_append_drop] at h1
  have h : (flatF f (es.take n)).length = n * k := by rw [flatF_length hk, List.length_take, Nat.min_eq_left hn]
  rw [h1, ← h, List.drop_left]
theorem flatF_get (hk : ∀ a, (f a).length = k) (es : List α) (i j : Nat) (hi : i < es.length) (hj : j < k) : (flatF f es)[i * k + j]? = (f es[i])[j]? := by
  have hd := flatF_drop hk es i (by omega)
  rw [List.drop_eq_getElem_cons hi] at hd
  rw [← List.getElem?_drop, hd]
  show (f es[i] ++ flatF f (es.drop (i + 1)))[j]? = _
  rw [List.getElem?_append_left (by rw [hk]; exact hj)]
/-- A cell of the row, by its place. -/
theorem flatF_cell (hk : ∀ a, (f a).length = k) (h0 : 0 < k) (es : List α) (j : Nat) (u : Value) (h : (flatF f es)[j]? = some u) : ∃ i, ∃ hi : i < es.length, ∃ r, r < k ∧ j = i * k + r ∧ (f es[i])[r]? = some u := by
  have hj : j < es.length * k := by have := (List.getElem?_eq_some_iff.1 h).1; rwa [flatF_length hk] at this
  have hi : j / k < es.length := Nat.div_lt_of_lt_mul (by rw [Nat.mul_comm]; exact hj)
  have hr : j % k < k := Nat.mod_lt _ h0
  have e : j = j / k * k + j % k := by rw [Nat.mul_comm]; exact (Nat.div_add_mod j k).symm
  refine ⟨j / k, hi, j % k, hr, e, ?_⟩
  rw [← flatF_get hk es _ _ hi hr, ← e, h]

/-- Element i of a row that is read. -/
theorem rdF_at (hk : ∀ a, (f a).length = k) {w : World} {a : Option Addr} {n cap : Nat} {es : List α} (h : Rd w k (.slice a n cap) es.length (flatF f es)) (i : Nat) (hi : i < es.length) :
    ∃ b o, a = some ⟨b, o, none⟩ ∧ ∀ (j : Nat) (u : Value), j < k → (f es[i])[j]? = some u → w.cell? ⟨b, o + i * k + j, none⟩ = some u := by
  obtain ⟨a', cap', hv, h0, h1, h2, h3⟩ := h
  simp only [Value.slice.injEq] at hv
  obtain ⟨rfl, rfl, rfl⟩ := hv
  rcases h3 with h3 | ⟨b, o, rfl, hc⟩
  · omega
  · refine ⟨b, o, rfl, fun j u hj hu => ?_⟩
    rw [Nat.add_assoc]
    exact hc _ _ (by rw [flatF_get hk es i j hi hj]; exact hu)
theorem Rd.slice {w : World} {sz n : Nat} {v : Value} {cs : List Value} (h : Rd w sz v n cs) : ∃ a cap, v = .slice a n cap ∧ n ≤ cap ∧ cap ≤ 9223372036854775807 := by
  obtain ⟨a, cap, hv, -, h1, h2, -⟩ := h
  exact ⟨a, cap, hv, h1, h2⟩

/-- A slice of structs, of its cells' reading. -/
theorem cells_structs [Inhabited α] {H : Type} {enc : TypeId × Value → H} {W : World} {held : Bool} {fuel : Nat} {cs : List Value} {y : DataW H × List MemPlace} {t e : TypeId} {Q : α → Prop}
    (ht : Try.prog.underlying t = some (.slice e)) (hc : Try.prog.cellsOf e = k) (hk : ∀ a, (f a).length = k) (h0 : 0 < k)
    (hE : ∀ fuel cs z, DataW.trod enc Try.prog W 0 (fun _ => true) held fuel e cs = some z → ∃ a : α, cs = f a ∧ Q a)
    (hf : DataW.trod enc Try.prog W 0 (fun _ => true) held fuel t cs = some y) : ∃ v es, cs = [v] ∧ Rd W k v es.length (flatF f es) ∧ (∀ e ∈ es, Q e) ∧ es.length + 1 ≤ Rows.uptoBulk y.1 ∧ Shape y.1 es.length := by
  rcases Go.Deep.open_slice ht hf with ⟨rfl, rfl⟩ | ⟨a, len, cap, m, n, D, Pl, rfl, -, hl, hm, hmm, rfl, hx⟩
  · exact ⟨_, [], rfl, Rd.nil W k, fun e he => by simp at he, by simp [Rows.uptoBulk], .inl rfl⟩
  · simp only [if_true] at hmm
    subst hmm
    rw [hc] at hx
    have hex : ∀ i, i < m → ∃ e : α, (∀ j u, j < k → (f e)[j]? = some u → W.cell? (a.add (i * k + j)) = some u) ∧ Q e := by
      intro i hi
      obtain ⟨cs', h1, h2⟩ := hx i hi
      obtain ⟨_, hlen, hcell⟩ := World.cells?_some h1
      obtain ⟨e, rfl, hq⟩ := hE _ _ _ h2
      refine ⟨e, fun j u hj hu => ?_, hq⟩
      have := hcell j hj
      rw [Go.Deep.add_add] at this
      rw [this, hu]
    obtain ⟨F, hF⟩ := Go.Deep.choose_lt hex
    have hget : ∀ i (hi : i < ((List.range len).map F).length), ((List.range len).map F)[i] = F i := fun i hi => by simp
    refine ⟨_, (List.range len).map F, rfl, ⟨some a, m, by simp, flatF_length hk _, by simpa using hl, by unfold maxLen at hm; omega, ?_⟩, ?_, ?_, ?_⟩
    · by_cases hz : m = 0
      · exact .inl hz
      · have hlt : 0 < (f (F 0)).length := by rw [hk]; exact h0
        have hs := addr_spot (a := a) (v := (f (F 0))[0]) (by have := (hF 0 (by omega)).1 0 _ h0 (List.getElem?_eq_getElem hlt); simpa using this)
        refine .inr ⟨a.block, a.off, by rw [← hs], fun j u hj => ?_⟩
        obtain ⟨i, hi, r, hr, rfl, hu⟩ := flatF_cell hk h0 _ j u hj
        rw [hget i hi] at hu
        have hil : i < len := by simpa using hi
        have := (hF i (by omega)).1 r u hr hu
        rw [hs, add_off] at this
        exact this
    · intro e he
      obtain ⟨i, hi, rfl⟩ := List.mem_map.1 he
      exact (hF i (by have := List.mem_range.1 hi; omega)).2
    · have h1 := bulk_all ((List.range len).map D)
      simp only [Rows.uptoBulk, List.length_map, List.length_range] at h1 ⊢
      omega
    · exact .inr ⟨_, _, rfl, by simp⟩
end
end Go.Proofs.Ytpmkepmnldkccaa
