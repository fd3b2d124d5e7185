/- From a reading of an argument as data to what the walks ask. -/
import Derived.Test.YtbelhdnbmkemjaaRows
import Derived.Test.YtbelhdnbmkemjaaOwn
import Derived.ProofKit
import Derived.OpenShut
import Derived.ShutString
import Derived.ChangeOld
import Derived.Deep.CondSized
import Derived.Deep.Slices
import Derived.SizedLaws
namespace Go.Proofs.Ytbelhdnbmkemjaa
open Go.RowKit Go.ChangeShapes Go.WideShapes Go.ChangeAt

theorem own_knob : ownKnob Try.prog.godebug = none := by kernel_rfl
theorem laid_out : laidOutB Try.prog = true := by kernel_rfl

theorem bulk_all {H : Type} (l : List (DataW H)) : l.length ≤ Rows.uptoBulkAll l := by
  induction l with
  | nil => simp
  | cons d l ih =>
    have : 1 ≤ Rows.uptoBulk d := by
      cases d with
      | lit x => cases x <;> simp only [Rows.uptoBulk] <;> omega
      | _ => simp only [Rows.uptoBulk] <;> omega
    simp only [List.length_cons, Rows.uptoBulkAll]; omega

theorem addr_spot {w : World} {a : Addr} {v : Value} (h : w.cell? (a.add 0) = some v) : a = ⟨a.block, a.off, none⟩ := by
  obtain ⟨b, o, s⟩ := a
  have := World.cell?_spot h
  simp [Addr.add] at this
  simp [this]

theorem length_bulk {H : Type} (es sp : List (DataW H)) : es.length ≤ Rows.uptoBulk (.slice es sp) := by
  have := bulk_all es
  simp only [Rows.uptoBulk]; omega

/-- A slice's datum of so many elements. -/
def Shape {H : Type} (d : DataW H) (n : Nat) : Prop := n = 0 ∨ ∃ es sp, d = .slice es sp ∧ es.length = n

/-- A slice whose elements are one cell each, read one by one. -/
def SliceOf {α : Type} (R : World → Value → α → Prop) (w : World) (v : Value) (ys : List α) : Prop :=
  ∃ vs : List Value, Rd w 1 v ys.length vs ∧ ∀ (i : Nat) (u : Value) (y : α), vs[i]? = some u → ys[i]? = some y → R w u y

theorem cells_slice1 {H : Type} {enc : TypeId × Value → H} {W : World} {held : Bool} {fuel : Nat} {cs : List Value} {y : DataW H × List MemPlace} {t e : TypeId} {α : Type} [Inhabited α] (R : World → Value → α → Prop) (m : α → Nat)
    (ht : Try.prog.underlying t = some (.slice e)) (hc : Try.prog.cellsOf e = 1)
    (hE : ∀ fuel v z, DataW.trod enc Try.prog W 0 (fun _ => true) held fuel e [v] = some z → ∃ y : α, R W v y ∧ m y ≤ Rows.uptoBulk z.1)
    (hf : DataW.trod enc Try.prog W 0 (fun _ => true) held fuel t cs = some y) : ∃ v ys, cs = [v] ∧ SliceOf R W v ys ∧ ys.length + 1 ≤ Rows.uptoBulk y.1 ∧ (ys.map m).sum + 1 ≤ Rows.uptoBulk y.1 := by
  rcases Go.Deep.open_slice1 ht hc hf with ⟨rfl, rfl⟩ | ⟨a, len, cap, mm, n, V, D, Pl, rfl, _, hl, hm, hmm, rfl, hx⟩
  · exact ⟨_, [], rfl, ⟨[], Rd.nil W 1, fun i u y h => by simp at h⟩, by simp [Rows.uptoBulk], by simp [Rows.uptoBulk]⟩
  · simp only [if_true] at hmm
    subst hmm
    have hex : ∀ i, i < len → ∃ y : α, R W (V i) y ∧ m y ≤ Rows.uptoBulk (D i) := fun i hi => hE _ _ _ (hx i (by omega)).2
    obtain ⟨Y, hY⟩ := Go.Deep.choose_lt hex
    refine ⟨_, (List.range len).map Y, rfl, ⟨(List.range len).map V, ⟨some a, mm, by simp, by simp, by simpa using hl, by unfold maxLen at hm; omega, ?_⟩, ?_⟩, ?_, ?_⟩
    · by_cases h0 : mm = 0
      · exact .inl h0
      · have hs := addr_spot (hx 0 (by omega)).1
        refine .inr ⟨a.block, a.off, by rw [← hs], fun j u hj => ?_⟩
        have hjl : j < len := by have := (List.getElem?_eq_some_iff.1 hj).1; simpa using this
        have := (hx j (by omega)).1
        rw [hs, add_off] at this
        simp [hjl] at hj
        rw [this, hj]
    · intro i u y hu hy
      have hil : i < len := by have := (List.getElem?_eq_some_iff.1 hu).1; simpa using this
      simp [hil] at hu hy
      rw [← hu, ← hy]
      exact (hY i hil).1
    · have h1 := bulk_all ((List.range len).map D)
      simp only [Rows.uptoBulk, List.length_map, List.length_range] at h1 ⊢
      omega
    · have hsum : ∀ l : List Nat, (∀ i ∈ l, i < len) → ((l.map Y).map m).sum ≤ Rows.uptoBulkAll (l.map D) := by
        intro l
        induction l with
        | nil => intro _; simp
        | cons i l ih =>
          intro hl
          have h1 := (hY i (hl i (by simp))).2
          have h2 := ih (fun j hj => hl j (by simp [hj]))
          simp only [List.map_cons, List.sum_cons, Rows.uptoBulkAll]; omega
      have := hsum (List.range len) (fun i hi => List.mem_range.1 hi)
      simp only [Rows.uptoBulk]
      omega


/-- uint32 -/
theorem open_u32 {H : Type} {enc : TypeId × Value → H} {W : World} {B : Nat} {held : Bool} {v : Value} {d : DataW H} {p : List MemPlace}
    (ok : Value.okWide Try.prog W .any B 64 v) (h : DataW.Trod enc Try.prog W 0 (fun _ => true) held 64 v d p) : ∃ s : BitVec 32, v = .int .u32 s.toNat := by
  obtain ⟨x, rfl, rfl, rfl, wx⟩ := open_int Try.underlying64 ok h
  refine ⟨BitVec.ofNat 32 x.toNat, ?_⟩
  have hb := Go.bounds_u32 wx
  congr 1
  simp; omega
/-- int -/
theorem open_i64 {H : Type} {enc : TypeId × Value → H} {W : World} {B : Nat} {held : Bool} {v : Value} {d : DataW H} {p : List MemPlace}
    (ok : Value.okWide Try.prog W .any B 3 v) (h : DataW.Trod enc Try.prog W 0 (fun _ => true) held 3 v d p) : ∃ n : Int, v = .int .i64 n ∧ -9223372036854775808 ≤ n ∧ n ≤ 9223372036854775807 := by
  obtain ⟨x, rfl, rfl, rfl, wx⟩ := open_int Try.underlying3 ok h
  exact ⟨x, rfl, Go.bounds_i64 wx⟩
end Go.Proofs.Ytbelhdnbmkemjaa
