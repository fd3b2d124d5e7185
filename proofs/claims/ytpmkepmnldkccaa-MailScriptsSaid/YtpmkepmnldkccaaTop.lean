/- From a reading of an argument as data to what the walks ask. -/
import Derived.Test.YtpmkepmnldkccaaRows
import Derived.Test.YtpmkepmnldkccaaOwn
import Derived.ProofKit
import Derived.OpenShut
import Derived.ShutString
import Derived.ChangeOld
import Derived.Deep.CondSized
import Derived.Deep.Slices
import Derived.SizedLaws
namespace Go.Proofs.Ytpmkepmnldkccaa
open Go.RowKit Go.ChangeShapes Go.WideShapes Go.ChangeAt

theorem own_knob : ownKnob Try.prog.godebug = none := by kernel_rfl
theorem laid_out : laidOutB Try.prog = true := by kernel_rfl

theorem bulk_all {H : Type} (l : List (DataW H)) : l.length ≤ Rows.uptoBulkAll l := by
  induction l with
  | nil => simp
  | cons d l ih =>
    have : 1 ≤ Rows.uptoBulk d := by
      cases d with
      | lit x => cases x <;> simp only [Rows.uptoBulk] <;> omega
      | _ => simp only [Rows.uptoBulk] <;> omega
    simp only [List.length_cons, Rows.uptoBulkAll]; omega

theorem addr_spot {w : World} {a : Addr} {v : Value} (h : w.cell? (a.add 0) = some v) : a = ⟨a.block, a.off, none⟩ := by
  obtain ⟨b, o, s⟩ := a
  have := World.cell?_spot h
  simp [Addr.add] at this
  simp [this]

theorem length_bulk {H : Type} (es sp : List (DataW H)) : es.length ≤ Rows.uptoBulk (.slice es sp) := by
  have := bulk_all es
  simp only [Rows.uptoBulk]; omega

/-- A slice's datum of so many elements. -/
def Shape {H : Type} (d : DataW H) (n : Nat) : Prop := n = 0 ∨ ∃ es sp, d = .slice es sp ∧ es.length = n

theorem reach_bytes {H : Type} {ts : List TypeId} {ds : List (DataW H)} {d : DataW H} {n j : Nat} (h : (DataW.weightsEach Try.prog ts ds).all (· ≤ reachBytes) = true) (ht : ts[j]? = some 30) (hd : ds[j]? = some d) (hs : Shape d n) : n ≤ 140737488351232 := by
  rcases hs with rfl | ⟨es, sp, rfl, rfl⟩
  · omega
  · have := sized_slice h ht hd Try.underlying30
    have hb : Try.prog.bytesOf 5 = 1 := by kernel_rfl
    have hr : reachBytes = 140737488351232 := rfl
    rw [hb, hr] at this
    omega

/-- []byte, as a cell -/
theorem cells_bytes {H : Type} {enc : TypeId × Value → H} {W : World} {held : Bool} {fuel : Nat} {cs : List Value} {y : DataW H × List MemPlace}
    (hf : DataW.trod enc Try.prog W 0 (fun _ => true) held fuel 30 cs = some y) : ∃ v xs, cs = [v] ∧ Bytes W v xs ∧ xs.length + 1 ≤ Rows.uptoBulk y.1 ∧ Shape y.1 xs.length := by
  rcases open_ints Try.underlying30 Try.underlying5 (by kernel_rfl) hf with ⟨rfl, rfl⟩ | ⟨x, len, cap, zs, rfl, _, hl, hm, hz, rfl, hcell, hwz⟩
  · exact ⟨_, [], rfl, Bytes.nil W, by simp [Rows.uptoBulk], .inl rfl⟩
  · simp only [if_true] at hz
    have hxl : ((zs.take len).map fun n => UInt8.ofNat n.toNat).length = len := by simp; omega
    refine ⟨_, (zs.take len).map fun n => UInt8.ofNat n.toNat, rfl, ⟨some x, cap, by rw [hxl], by rw [hxl]; exact hl, by unfold maxLen at hm; omega, ?_⟩, ?_, .inr ⟨_, _, rfl, by rw [hxl]; simp [lits]; omega⟩⟩
    · by_cases h0 : cap = 0
      · exact .inl h0
      · have hs := addr_spot (hcell 0 (by omega))
        refine .inr ⟨x.block, x.off, by rw [← hs], fun i hi => ?_⟩
        rw [hxl] at hi
        have hi2 : i < zs.length := by omega
        have := hcell i hi2
        rw [hs, add_off] at this
        rw [this]
        have hw := hwz (zs.getD i 0) (by rw [List.getD_eq_getElem?_getD, List.getElem?_eq_getElem hi2]; exact List.getElem_mem hi2)
        have hb := Go.bounds_u8 hw
        have e : ((zs.take len).map fun n => UInt8.ofNat n.toNat).getD i 0 = UInt8.ofNat (zs.getD i 0).toNat := by
          rw [List.getD_eq_getElem?_getD, List.getElem?_map, List.getElem?_take_of_lt hi, List.getD_eq_getElem?_getD, List.getElem?_eq_getElem hi2]; rfl
        unfold bt
        rw [e]
        generalize zs.getD i 0 = q at *
        congr 2
        simp; omega
    · rw [hxl]
      have h1 := bulk_all (lits .u8 (zs.take len) : List (DataW H))
      have h2 : (lits .u8 (zs.take len) : List (DataW H)).length = len := by simp [lits]; omega
      simp only [Rows.uptoBulk]
      omega

/-- []byte -/
theorem open_bytes {H : Type} {enc : TypeId × Value → H} {W : World} {B : Nat} {held : Bool} {v : Value} {d : DataW H} {p : List MemPlace}
    (ok : Value.okWide Try.prog W .any B 30 v) (h : DataW.Trod enc Try.prog W 0 (fun _ => true) held 30 v d p) : ∃ xs, Bytes W v xs ∧ xs.length + 1 ≤ Rows.uptoBulk d ∧ Shape d xs.length := by
  obtain ⟨a, len, cap, rfl⟩ := okWide_slice Try.underlying30 ok
  obtain ⟨fuel, hf⟩ := h
  obtain ⟨v, xs, hcs, hb, hl⟩ := cells_bytes hf
  simp [Value.cells] at hcs
  subst hcs
  exact ⟨xs, hb, hl⟩

/-- A slice whose elements are one cell each, read one by one. -/
def SliceOf {α : Type} (R : World → Value → α → Prop) (w : World) (v : Value) (ys : List α) : Prop :=
  ∃ vs : List Value, Rd w 1 v ys.length vs ∧ ∀ (i : Nat) (u : Value) (y : α), vs[i]? = some u → ys[i]? = some y → R w u y

theorem cells_slice1 {H : Type} {enc : TypeId × Value → H} {W : World} {held : Bool} {fuel : Nat} {cs : List Value} {y : DataW H × List MemPlace} {t e : TypeId} {α : Type} [Inhabited α] (R : World → Value → α → Prop) (m : α → Nat)
    (ht : Try.prog.underlying t = some (.slice e)) (hc : Try.prog.cellsOf e = 1)
    (hE : ∀ fuel v z, DataW.trod enc Try.prog W 0 (fun _ => true) held fuel e [v] = some z → ∃ y : α, R W v y ∧ m y ≤ Rows.uptoBulk z.1)
    (hf : DataW.trod enc Try.prog W 0 (fun _ => true) held fuel t cs = some y) : ∃ v ys, cs = [v] ∧ SliceOf R W v ys ∧ ys.length + 1 ≤ Rows.uptoBulk y.1 ∧ (ys.map m).sum + 1 ≤ Rows.uptoBulk y.1 := by
  rcases Go.Deep.open_slice1 ht hc hf with ⟨rfl, rfl⟩ | ⟨a, len, cap, mm, n, V, D, Pl, rfl, _, hl, hm, hmm, rfl, hx⟩
  · exact ⟨_, [], rfl, ⟨[], Rd.nil W 1, fun i u y h => by simp at h⟩, by simp [Rows.uptoBulk], by simp [Rows.uptoBulk]⟩
  · simp only [if_true] at hmm
    subst hmm
    have hex : ∀ i, i < len → ∃ y : α, R W (V i) y ∧ m y ≤ Rows.uptoBulk (D i) := fun i hi => hE _ _ _ (hx i (by omega)).2
    obtain ⟨Y, hY⟩ := Go.Deep.choose_lt hex
    refine ⟨_, (List.range len).map Y, rfl, ⟨(List.range len).map V, ⟨some a, mm, by simp, by simp, by simpa using hl, by unfold maxLen at hm; omega, ?_⟩, ?_⟩, ?_, ?_⟩
    · by_cases h0 : mm = 0
      · exact .inl h0
      · have hs := addr_spot (hx 0 (by omega)).1
        refine .inr ⟨a.block, a.off, by rw [← hs], fun j u hj => ?_⟩
        have hjl : j < len := by have := (List.getElem?_eq_some_iff.1 hj).1; simpa using this
        have := (hx j (by omega)).1
        rw [hs, add_off] at this
        simp [hjl] at hj
        rw [this, hj]
    · intro i u y hu hy
      have hil : i < len := by have := (List.getElem?_eq_some_iff.1 hu).1; simpa using this
      simp [hil] at hu hy
      rw [← hu, ← hy]
      exact (hY i hil).1
    · have h1 := bulk_all ((List.range len).map D)
      simp only [Rows.uptoBulk, List.length_map, List.length_range] at h1 ⊢
      omega
    · have hsum : ∀ l : List Nat, (∀ i ∈ l, i < len) → ((l.map Y).map m).sum ≤ Rows.uptoBulkAll (l.map D) := by
        intro l
        induction l with
        | nil => intro _; simp
        | cons i l ih =>
          intro hl
          have h1 := (hY i (hl i (by simp))).2
          have h2 := ih (fun j hj => hl j (by simp [hj]))
          simp only [List.map_cons, List.sum_cons, Rows.uptoBulkAll]; omega
      have := hsum (List.range len) (fun i hi => List.mem_range.1 hi)
      simp only [Rows.uptoBulk]
      omega

/-- [][]byte -/
theorem open_bytesl {H : Type} {enc : TypeId × Value → H} {W : World} {B : Nat} {held : Bool} {v : Value} {d : DataW H} {p : List MemPlace}
    (ok : Value.okWide Try.prog W .any B 40 v) (h : DataW.Trod enc Try.prog W 0 (fun _ => true) held 40 v d p) :
    ∃ xss, SliceOf Bytes W v xss ∧ xss.length + 1 ≤ Rows.uptoBulk d ∧ (xss.map fun xs => xs.length + 1).sum + 1 ≤ Rows.uptoBulk d := by
  obtain ⟨a, len, cap, rfl⟩ := okWide_slice Try.underlying40 ok
  obtain ⟨fuel, hf⟩ := h
  obtain ⟨v, xss, hcs, hb, hl, hs⟩ := cells_slice1 Bytes (fun xs => xs.length + 1) Try.underlying40 (by kernel_rfl) (fun fuel v z hz => by
    obtain ⟨v', xs, e, hb, hl, -⟩ := cells_bytes hz
    cases e
    exact ⟨xs, hb, hl⟩) hf
  simp [Value.cells] at hcs
  subst hcs
  exact ⟨xss, hb, hl, hs⟩

/-- uint32 -/
theorem open_u32 {H : Type} {enc : TypeId × Value → H} {W : World} {B : Nat} {held : Bool} {v : Value} {d : DataW H} {p : List MemPlace}
    (ok : Value.okWide Try.prog W .any B 77 v) (h : DataW.Trod enc Try.prog W 0 (fun _ => true) held 77 v d p) : ∃ s : BitVec 32, v = .int .u32 s.toNat := by
  obtain ⟨x, rfl, rfl, rfl, wx⟩ := open_int Try.underlying77 ok h
  refine ⟨BitVec.ofNat 32 x.toNat, ?_⟩
  have hb := Go.bounds_u32 wx
  congr 1
  simp; omega
/-- int -/
theorem open_i64 {H : Type} {enc : TypeId × Value → H} {W : World} {B : Nat} {held : Bool} {v : Value} {d : DataW H} {p : List MemPlace}
    (ok : Value.okWide Try.prog W .any B 3 v) (h : DataW.Trod enc Try.prog W 0 (fun _ => true) held 3 v d p) : ∃ n : Int, v = .int .i64 n ∧ -9223372036854775808 ≤ n ∧ n ≤ 9223372036854775807 := by
  obtain ⟨x, rfl, rfl, rfl, wx⟩ := open_int Try.underlying3 ok h
  exact ⟨x, rfl, Go.bounds_i64 wx⟩
end Go.Proofs.Ytpmkepmnldkccaa
