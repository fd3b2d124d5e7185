/- A list of rows of bytes, all owned by the call. -/
import Derived.Test.YtfmfmalhebfnhaaMine
import Derived.Test.YtfmfmalhebfnhaaTop
namespace Go.Proofs.Ytfmfmalhebfnhaa
open Go.RowKit

theorem ownsRow_calm {w w' : World} {B base : Nat} {e : TypeId} {sz n : Nat} {v : Value} {xs : List Value} (h : w.ownsRow base e sz v n xs) (hc : Calm B w w') : w'.ownsRow base e sz v n xs := by
  obtain ⟨h1, h2⟩ := h
  refine ⟨h1, ?_⟩
  rcases h2 with h2 | ⟨g, cap, cur, hv, hg, hh, r⟩
  · exact .inl h2
  · exact .inr ⟨g, cap, cur, hv, hg, hc.cells g _ hh rfl, r⟩
theorem Mine.calm {w w' : World} {B base : Nat} {v : Value} {xs : List UInt8} (h : Mine w base v xs) (hc : Calm B w w') : Mine w' base v xs := ownsRow_calm h hc
theorem ownsRow_set {w : World} {base : Nat} {e : TypeId} {sz n : Nat} {v : Value} {xs : List Value} (h : w.ownsRow base e sz v n xs) (a : Addr) (u : Value) (ha : a.block < base) : (w.setCell a u).ownsRow base e sz v n xs := by
  obtain ⟨h1, h2⟩ := h
  refine ⟨h1, ?_⟩
  rcases h2 with h2 | ⟨g, cap, cur, hv, hg, hh, r⟩
  · exact .inl h2
  · refine .inr ⟨g, cap, cur, hv, hg, ?_, r⟩
    rw [heap_setCell_other w a g u (by omega)]
    exact hh
theorem Mine.set {w : World} {base : Nat} {v : Value} {xs : List UInt8} (h : Mine w base v xs) (a : Addr) (u : Value) (ha : a.block < base) : Mine (w.setCell a u) base v xs := ownsRow_set h a u ha
theorem Mine.one {w : World} {base : Nat} {v : Value} {xs : List UInt8} (h : Mine w base v xs) : v.oneCell' = true := by
  rcases h.2 with ⟨rfl, -⟩ | ⟨g, cap, cur, rfl, -⟩ <;> rfl
theorem Mine.slice {w : World} {base : Nat} {v : Value} {xs : List UInt8} (h : Mine w base v xs) : ∃ a c, v = .slice a xs.length c := by
  rcases h.2 with ⟨rfl, h0⟩ | ⟨g, cap, cur, rfl, -⟩
  · exact ⟨none, 0, by rw [h0]⟩
  · exact ⟨_, _, rfl⟩

def MineL (w : World) (base : Nat) (v : Value) (pss : List (List UInt8)) : Prop :=
  ∃ vs : List Value, w.ownsRow base 22 1 v pss.length vs ∧ ∀ (i : Nat) (u : Value) (y : List UInt8), vs[i]? = some u → pss[i]? = some y → Mine w base u y

theorem MineL.nil (w : World) (base : Nat) : MineL w base (.slice none 0 0) [] := ⟨[], World.ownsRow_nil _ _ _ _, fun i u y h => by simp at h⟩
theorem MineL.slice {w : World} {base : Nat} {v : Value} {pss : List (List UInt8)} (h : MineL w base v pss) : ∃ a n c, v = .slice a n c := by
  obtain ⟨vs, h1, -⟩ := h
  rcases h1.2 with ⟨rfl, h0⟩ | ⟨g, cap, cur, rfl, -⟩
  · exact ⟨none, 0, 0, rfl⟩
  · exact ⟨_, _, _, rfl⟩
theorem MineL.slice' {w : World} {base : Nat} {v : Value} {pss : List (List UInt8)} (h : MineL w base v pss) : ∃ a c, v = .slice a pss.length c := by
  obtain ⟨vs, h1, -⟩ := h
  rcases h1.2 with ⟨rfl, h0⟩ | ⟨g, cap, cur, rfl, -⟩
  · exact ⟨none, 0, by rw [h0]⟩
  · exact ⟨_, _, rfl⟩
theorem MineL.below {w w' : World} {B base : Nat} {v : Value} {pss : List (List UInt8)} (h : MineL w base v pss) (hb : Below B w w') (hB : w.heap.size ≤ B) : MineL w' base v pss := by
  obtain ⟨vs, h1, h2⟩ := h
  exact ⟨vs, ownsRow_below h1 hb hB, fun i u y hu hy => (h2 i u y hu hy).below hb hB⟩
theorem MineL.calm {w w' : World} {B base : Nat} {v : Value} {pss : List (List UInt8)} (h : MineL w base v pss) (hc : Calm B w w') : MineL w' base v pss := by
  obtain ⟨vs, h1, h2⟩ := h
  exact ⟨vs, ownsRow_calm h1 hc, fun i u y hu hy => (h2 i u y hu hy).calm hc⟩
theorem MineL.set {w : World} {base : Nat} {v : Value} {pss : List (List UInt8)} (h : MineL w base v pss) (a : Addr) (u : Value) (ha : a.block < base) : MineL (w.setCell a u) base v pss := by
  obtain ⟨vs, h1, h2⟩ := h
  exact ⟨vs, ownsRow_set h1 a u ha, fun i u' y hu hy => (h2 i u' y hu hy).set a u ha⟩
theorem ownsRow_blocks {w w' : World} {base : Nat} {e : TypeId} {sz n : Nat} {v : Value} {xs : List Value} (h : w.ownsRow base e sz v n xs) (hk : ∀ j, base ≤ j → j < w.heap.size → w'.heap[j]? = w.heap[j]?) : w'.ownsRow base e sz v n xs := by
  obtain ⟨h1, h2⟩ := h
  refine ⟨h1, ?_⟩
  rcases h2 with h2 | ⟨g, cap, cur, hv, hg, hh, r⟩
  · exact .inl h2
  · exact .inr ⟨g, cap, cur, hv, hg, (hk g hg (Array.getElem?_eq_some_iff.1 hh).1).trans hh, r⟩
theorem MineL.blocks {w w' : World} {base : Nat} {v : Value} {pss : List (List UInt8)} (h : MineL w base v pss) (hk : ∀ j, base ≤ j → j < w.heap.size → w'.heap[j]? = w.heap[j]?) : MineL w' base v pss := by
  obtain ⟨vs, h1, h2⟩ := h
  exact ⟨vs, ownsRow_blocks h1 hk, fun i u y hu hy => ownsRow_blocks (h2 i u y hu hy) hk⟩
theorem MineL.mono {w : World} {base base' : Nat} {v : Value} {pss : List (List UInt8)} (h : MineL w base v pss) (hb : base' ≤ base) : MineL w base' v pss := by
  obtain ⟨vs, h1, h2⟩ := h
  refine ⟨vs, ⟨h1.1, ?_⟩, fun i u y hu hy => (h2 i u y hu hy).mono hb⟩
  rcases h1.2 with h3 | ⟨g, cap, cur, hv, hg, r⟩
  · exact .inl h3
  · exact .inr ⟨g, cap, cur, hv, Nat.le_trans hb hg, r⟩
theorem MineL.sliceOf {w : World} {base : Nat} {v : Value} {pss : List (List UInt8)} (h : MineL w base v pss) : SliceOf Bytes w v pss := by
  obtain ⟨vs, h1, h2⟩ := h
  exact ⟨vs, Rd.of_own h1, fun i u y hu hy => (h2 i u y hu hy).bytes⟩
theorem sliceOf_below {w w' : World} {B : Nat} {v : Value} {pss : List (List UInt8)} (h : SliceOf Bytes w v pss) (hb : Below B w w') (hB : w.heap.size ≤ B) : SliceOf Bytes w' v pss := by
  obtain ⟨vs, h1, h2⟩ := h
  exact ⟨vs, h1.below hb hB, fun i u y hu hy => (h2 i u y hu hy).below hb hB⟩

theorem tyBytesL : STy Try.prog 36 22 (.slice none 0 0) 1 24 := .of Try.underlying36 (by kernel_rfl) rfl (by omega)

theorem mineL_grown {w0 w w' : World} {base : Nat} {v v' : Value} {vs : List Value} {ps : List (List UInt8)} {u : Value} {p : List UInt8} (h1 : w.ownsRow base 22 1 v ps.length vs)
    (h2 : ∀ (i : Nat) (u : Value) (y : List UInt8), vs[i]? = some u → ps[i]? = some y → Mine w base u y) (hu : Mine w base u p) (hB : Below base w0 w) (hbase : base ≤ w.heap.size)
    (g1 : w'.ownsRow base 22 1 v' (ps.length + 1) (vs ++ [u])) (g2 : w.grownBy w' v.ownBlock) : MineL w' base v' (ps ++ [p]) ∧ Below base w0 w' := by
  have keep : ∀ (u : Value) (y : List UInt8), Mine w base u y → Mine w' base u y := by
    intro u y hy
    refine ⟨hy.1, ?_⟩
    rcases hy.2 with h | ⟨g, cap, cur, hv, hg, hh, r⟩
    · exact .inl h
    · refine .inr ⟨g, cap, cur, hv, hg, ?_, r⟩
      rw [g2.block g (Array.getElem?_eq_some_iff.1 hh).1 ?_]
      · exact hh
      · intro e
        rcases h1.2 with ⟨rfl, -⟩ | ⟨g', cap', cur', rfl, -, hh', -⟩
        · simp [Value.ownBlock] at e
        · simp [Value.ownBlock] at e
          subst e
          rw [hh] at hh'
          simp at hh'
  have hl : vs.length = ps.length := by have := h1.1; omega
  refine ⟨⟨vs ++ [u], by simpa using g1, fun i u' y hu' hy => ?_⟩, hB.grown g2 hbase (fun k e => (World.ownsRow.lt h1 k e).1)⟩
  by_cases hi : i < ps.length
  · rw [List.getElem?_append_left (by omega)] at hu' hy
    exact keep _ _ (h2 i u' y hu' hy)
  · rw [List.getElem?_append_right (by omega)] at hu' hy
    rw [hl] at hu'
    by_cases hz : i - ps.length = 0
    · rw [hz] at hu' hy
      simp at hu' hy
      subst hu' hy
      exact keep _ _ hu
    · rw [List.getElem?_eq_none (by simp; omega)] at hu'
      cases hu'

theorem own_cells {w : World} {base : Nat} {e : TypeId} {sz n : Nat} {v : Value} {xs : List Value} (h : w.ownsRow base e sz v n xs) (j : Nat) (o : Obj) (hj : v.ownBlock = some j) (ho : w.heap[j]? = some o) : o.isCells = true := by
  rcases h.2 with ⟨rfl, -⟩ | ⟨g, cap, cur, rfl, -, hh, -⟩
  · simp [Value.ownBlock] at hj
  · simp [Value.ownBlock] at hj
    subst hj
    rw [hh] at ho
    cases ho
    rfl

theorem app_mineL {ops : Array Oper} {rest : List Oper} {o : Oper} {a : Act} {Q : Exit → Act → World → Prop} {w0 w : World} {s x : Operand} {base : Nat} {v sv u : Value} {ps : List (List UInt8)} {p : List UInt8}
    (hown : MineL w base v ps) (hr : Rd w 1 sv 1 [u]) (hu : Mine w base u p) (hB : Below base w0 w) (hbase : base ≤ w.heap.size) (hb : ps.length ≤ 1099511627776)
    (hgd : Region.wanted o (yielded ops a.tmps) = true) (ho : o.op = .call { callee := .builtin .append, args := #[s, x], argTypes := #[36, 36] }) (hs : a.eval s = v) (hx : a.eval x = sv)
    (h : ∀ v' w', MineL w' base v' (ps ++ [p]) → Below base w0 w' → wpList Try.prog ops Q rest (a.put o.dst v') w') : wpList Try.prog ops Q (o :: rest) a w := by
  obtain ⟨vs, h1, h2⟩ := hown
  refine app_list tyBytesL h1 hr (by intro u' hu'; simp at hu'; subst hu'; exact hu.one) (by omega) (by omega) hbase hgd ho hs hx fun v' w' g1 g2 _ => ?_
  have := mineL_grown h1 h2 hu hB hbase g1 g2
  exact h v' w' this.1 this.2
theorem app_mineLIn {r : Option Nat} {ops : Array Oper} {rest : List Oper} {o : Oper} {a : Act} {Q : Exit → Act → World → Prop} {w0 w : World} {s x : Operand} {base : Nat} {v sv u : Value} {ps : List (List UInt8)} {p : List UInt8}
    (hown : MineL w base v ps) (hr : Rd w 1 sv 1 [u]) (hu : Mine w base u p) (hB : Below base w0 w) (hbase : base ≤ w.heap.size) (hb : ps.length ≤ 1099511627776)
    (hgd : Region.wanted o (yielded ops a.tmps) = true) (ho : o.op = .call { callee := .builtin .append, args := #[s, x], argTypes := #[36, 36] }) (hs : a.eval s = v) (hx : a.eval x = sv)
    (h : ∀ v' w', MineL w' base v' (ps ++ [p]) → Below base w0 w' → KeepsOthers w w' → wpListIn { Fence.wide with round := r } 0 Try.prog ops Q rest (a.put o.dst v') w') : wpListIn { Fence.wide with round := r } 0 Try.prog ops Q (o :: rest) a w := by
  obtain ⟨vs, h1, h2⟩ := hown
  refine app_listIn tyBytesL h1 hr (by intro u' hu'; simp at hu'; subst hu'; exact hu.one) (by omega) (by omega) hbase hgd ho hs hx fun v' w' g1 g2 _ => ?_
  have := mineL_grown h1 h2 hu hB hbase g1 g2
  exact h v' w' this.1 this.2 (KeepsOthers.of_grownBy g2 (own_cells h1))
end Go.Proofs.Ytfmfmalhebfnhaa
