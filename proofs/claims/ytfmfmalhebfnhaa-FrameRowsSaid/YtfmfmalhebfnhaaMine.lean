/- A row of bytes that the call owns. -/
import Derived.Test.YtfmfmalhebfnhaaCrcRef
namespace Go.Proofs.Ytfmfmalhebfnhaa
open Go.RowKit

def Mine (w : World) (base : Nat) (v : Value) (xs : List UInt8) : Prop := w.ownsRow base 5 1 v xs.length (bvs xs)

theorem Mine.bytes {w : World} {base : Nat} {v : Value} {xs : List UInt8} (h : Mine w base v xs) : Bytes w v xs := Bytes.of_own h
theorem Mine.below {w w' : World} {B base : Nat} {v : Value} {xs : List UInt8} (h : Mine w base v xs) (hb : Below B w w') (hB : w.heap.size ≤ B) : Mine w' base v xs := ownsRow_below h hb hB
theorem Mine.nil (w : World) (base : Nat) : Mine w base (.slice none 0 0) [] := World.ownsRow_nil _ _ _ _
theorem Mine.mono {w : World} {base base' : Nat} {v : Value} {xs : List UInt8} (h : Mine w base v xs) (hb : base' ≤ base) : Mine w base' v xs := by
  obtain ⟨h1, h2⟩ := h
  refine ⟨h1, ?_⟩
  rcases h2 with h2 | ⟨g, cap, cur, hv, hg, r⟩
  · exact .inl h2
  · exact .inr ⟨g, cap, cur, hv, Nat.le_trans hb hg, r⟩
theorem Mine.lit (w : World) (base n : Nat) (cs : Array Value) (xs : List UInt8) (hb : base ≤ w.heap.size) (hn : n ≤ 9223372036854775807) (hx : xs.length = n) (he : bvs xs = cs.toList) : Mine (w.alloc (.cells cs 5)) base (.slice (some ⟨w.heap.size, 0, none⟩) n n) xs := by
  subst hx
  have hs : cs.size = xs.length := by rw [← bvs_length, he]; simp
  have h := World.ownsRow_lit (base := base) (size := 1) (e := 5) w cs xs.length hb (by unfold maxLen; omega) (by omega)
  unfold Mine
  rw [he]
  exact h

/-- append to it. -/
theorem app_mine {ops : Array Oper} {rest : List Oper} {o : Oper} {a : Act} {Q : Exit → Act → World → Prop} {w0 w : World} {s x : Operand} {base : Nat} {v sv : Value} {xs ys : List UInt8}
    (hown : Mine w base v xs) (hr : Bytes w sv ys) (hB : Below base w0 w) (hbase : base ≤ w.heap.size) (hb : xs.length + ys.length ≤ 140737488355328)
    (hgd : Region.wanted o (yielded ops a.tmps) = true) (ho : o.op = .call { callee := .builtin .append, args := #[s, x], argTypes := #[22, 22] }) (hs : a.eval s = v) (hx : a.eval x = sv)
    (h : ∀ v' w', Mine w' base v' (xs ++ ys) → Below base w0 w' → wpList Try.prog ops Q rest (a.put o.dst v') w') : wpList Try.prog ops Q (o :: rest) a w := by
  refine app_list tyBytes hown hr.rd (bvs_one _) (by omega) (by omega) hbase hgd ho hs hx fun v' w' h1 h2 _ => h v' w' ?_ ?_
  · unfold Mine
    rw [List.length_append, bvs_append]
    exact h1
  · exact hB.grown h2 hbase (fun k e => (World.ownsRow.lt hown k e).1)
theorem app_mineIn {r : Option Nat} {ops : Array Oper} {rest : List Oper} {o : Oper} {a : Act} {Q : Exit → Act → World → Prop} {w0 w : World} {s x : Operand} {base : Nat} {v sv : Value} {xs ys : List UInt8}
    (hown : Mine w base v xs) (hr : Bytes w sv ys) (hB : Below base w0 w) (hbase : base ≤ w.heap.size) (hb : xs.length + ys.length ≤ 140737488355328)
    (hgd : Region.wanted o (yielded ops a.tmps) = true) (ho : o.op = .call { callee := .builtin .append, args := #[s, x], argTypes := #[22, 22] }) (hs : a.eval s = v) (hx : a.eval x = sv)
    (h : ∀ v' w', Mine w' base v' (xs ++ ys) → Below base w0 w' → wpListIn { Fence.wide with round := r } 0 Try.prog ops Q rest (a.put o.dst v') w') : wpListIn { Fence.wide with round := r } 0 Try.prog ops Q (o :: rest) a w := by
  refine app_listIn tyBytes hown hr.rd (bvs_one _) (by omega) (by omega) hbase hgd ho hs hx fun v' w' h1 h2 _ => h v' w' ?_ ?_
  · unfold Mine
    rw [List.length_append, bvs_append]
    exact h1
  · exact hB.grown h2 hbase (fun k e => (World.ownsRow.lt hown k e).1)

/-! ### Parts of bytes that lie somewhere -/
theorem Bytes.sub {w : World} {b o L C : Nat} {xs : List UInt8} (h : Bytes w (.slice (some ⟨b, o, none⟩) L C) xs) (i n C' : Nat) (hi : i + n ≤ L) (hC : n ≤ C') (hC2 : C' ≤ 9223372036854775807) :
    Bytes w (.slice (some ⟨b, o + i, none⟩) n C') ((xs.drop i).take n) := by
  obtain ⟨a', cap', hv, h1, h2, h3⟩ := h
  simp only [Value.slice.injEq] at hv
  obtain ⟨rfl, rfl, rfl⟩ := hv
  have hl : ((xs.drop i).take n).length = n := by simp; omega
  refine ⟨some ⟨b, o + i, none⟩, C', by rw [hl], by omega, hC2, ?_⟩
  by_cases hn : n = 0
  · by_cases hc : C' = 0
    · exact .inl hc
    · exact .inr ⟨b, o + i, rfl, fun j hj => by omega⟩
  refine .inr ⟨b, o + i, rfl, fun j hj => ?_⟩
  rw [hl] at hj
  rcases h3 with h3 | ⟨b', o', ha, hc⟩
  · omega
  · simp only [Option.some.injEq, Addr.mk.injEq, and_true] at ha
    obtain ⟨rfl, rfl⟩ := ha
    have := hc (i + j) (by omega)
    rw [← Nat.add_assoc] at this
    rw [this]
    congr 2
    unfold bt
    simp [List.getD, hj]
theorem Bytes.from {w : World} {b o L C : Nat} {xs : List UInt8} (h : Bytes w (.slice (some ⟨b, o, none⟩) L C) xs) (i n C' : Nat) (hi : i + n = L) (hC : n ≤ C') (hC2 : C' ≤ 9223372036854775807) :
    Bytes w (.slice (some ⟨b, o + i, none⟩) n C') (xs.drop i) := by
  have := h.sub i n C' (by omega) hC hC2
  obtain ⟨a', cap', hv, -⟩ := h
  simp only [Value.slice.injEq] at hv
  rw [List.take_of_length_le (by simp; omega)] at this
  exact this
theorem Bytes.part {w : World} {b o L C : Nat} {xs : List UInt8} (h : Bytes w (.slice (some ⟨b, o, none⟩) L C) xs) (n C' : Nat) (hi : n ≤ L) (hC : n ≤ C') (hC2 : C' ≤ 9223372036854775807) :
    Bytes w (.slice (some ⟨b, o, none⟩) n C') (xs.take n) := h.sub 0 n C' (by omega) hC hC2
theorem Bytes.length {w : World} {a : Option Addr} {L C : Nat} {xs : List UInt8} (h : Bytes w (.slice a L C) xs) : xs.length = L := by
  obtain ⟨a', cap', hv, -⟩ := h
  simp only [Value.slice.injEq] at hv
  exact hv.2.1.symm
end Go.Proofs.Ytfmfmalhebfnhaa
