/- Rows of bytes and frames of worlds: what the walks of the layers above share. -/
import Derived.Test.YtbelhdnbmkemjaaOwn
import Derived.Test.YtbelhdnbmkemjaaAppKeep
import Derived.Test.YtbelhdnbmkemjaaRows
import Derived.ProofKit
namespace Go.Proofs.Ytbelhdnbmkemjaa
open Go.RowKit

theorem ownsRow_below {w w' : World} {B base : Nat} {e : TypeId} {sz n : Nat} {v : Value} {xs : List Value} (h : w.ownsRow base e sz v n xs) (hb : Below B w w') (hB : w.heap.size ≤ B) : w'.ownsRow base e sz v n xs := by
  obtain ⟨h1, h2⟩ := h
  refine ⟨h1, ?_⟩
  rcases h2 with h2 | ⟨g, cap, cur, hv, hg, hh, r⟩
  · exact .inl h2
  · exact .inr ⟨g, cap, cur, hv, hg, (hb.block g (Nat.lt_of_lt_of_le (Array.getElem?_eq_some_iff.1 hh).1 hB)).trans hh, r⟩
theorem ownsRow_calm {w w' : World} {B base : Nat} {e : TypeId} {sz n : Nat} {v : Value} {xs : List Value} (h : w.ownsRow base e sz v n xs) (hc : Calm B w w') : w'.ownsRow base e sz v n xs := by
  obtain ⟨h1, h2⟩ := h
  refine ⟨h1, ?_⟩
  rcases h2 with h2 | ⟨g, cap, cur, hv, hg, hh, r⟩
  · exact .inl h2
  · exact .inr ⟨g, cap, cur, hv, hg, hc.cells g _ hh rfl, r⟩
theorem ownsRow_set {w : World} {base : Nat} {e : TypeId} {sz n : Nat} {v : Value} {xs : List Value} (h : w.ownsRow base e sz v n xs) (a : Addr) (u : Value) (ha : a.block < base) : (w.setCell a u).ownsRow base e sz v n xs := by
  obtain ⟨h1, h2⟩ := h
  refine ⟨h1, ?_⟩
  rcases h2 with h2 | ⟨g, cap, cur, hv, hg, hh, r⟩
  · exact .inl h2
  · refine .inr ⟨g, cap, cur, hv, hg, ?_, r⟩
    rw [heap_setCell_other w a g u (by omega)]
    exact hh
theorem ownsRow_blocks {w w' : World} {base : Nat} {e : TypeId} {sz n : Nat} {v : Value} {xs : List Value} (h : w.ownsRow base e sz v n xs) (hk : ∀ j, base ≤ j → j < w.heap.size → w'.heap[j]? = w.heap[j]?) : w'.ownsRow base e sz v n xs := by
  obtain ⟨h1, h2⟩ := h
  refine ⟨h1, ?_⟩
  rcases h2 with h2 | ⟨g, cap, cur, hv, hg, hh, r⟩
  · exact .inl h2
  · exact .inr ⟨g, cap, cur, hv, hg, (hk g hg (Array.getElem?_eq_some_iff.1 hh).1).trans hh, r⟩
theorem ownsRow_mono {w : World} {base base' : Nat} {e : TypeId} {sz n : Nat} {v : Value} {xs : List Value} (h : w.ownsRow base e sz v n xs) (hb : base' ≤ base) : w.ownsRow base' e sz v n xs := by
  obtain ⟨h1, h2⟩ := h
  refine ⟨h1, ?_⟩
  rcases h2 with h2 | ⟨g, cap, cur, hv, hg, r⟩
  · exact .inl h2
  · exact .inr ⟨g, cap, cur, hv, Nat.le_trans hb hg, r⟩
theorem own_one {w : World} {base : Nat} {e : TypeId} {sz n : Nat} {v : Value} {xs : List Value} (h : w.ownsRow base e sz v n xs) : v.oneCell' = true := by
  rcases h.2 with ⟨rfl, -⟩ | ⟨g, cap, cur, rfl, -⟩ <;> rfl
theorem own_slice {w : World} {base : Nat} {e : TypeId} {sz n : Nat} {v : Value} {xs : List Value} (h : w.ownsRow base e sz v n xs) : ∃ a c, v = .slice a n c := by
  rcases h.2 with ⟨rfl, h0⟩ | ⟨g, cap, cur, rfl, -⟩
  · exact ⟨none, 0, by rw [h0]⟩
  · exact ⟨_, _, rfl⟩
theorem own_cells {w : World} {base : Nat} {e : TypeId} {sz n : Nat} {v : Value} {xs : List Value} (h : w.ownsRow base e sz v n xs) (j : Nat) (o : Obj) (hj : v.ownBlock = some j) (ho : w.heap[j]? = some o) : o.isCells = true := by
  rcases h.2 with ⟨rfl, -⟩ | ⟨g, cap, cur, rfl, -, hh, -⟩
  · simp [Value.ownBlock] at hj
  · simp [Value.ownBlock] at hj
    subst hj
    rw [hh] at ho
    cases ho
    rfl
/-- A row that another append leaves: its elements are of another type. -/
theorem own_otherT {w w' : World} {base base' : Nat} {e e' : TypeId} {sz sz' n n' : Nat} {v v' : Value} {xs xs' : List Value} (h : w.ownsRow base e sz v n xs) (h' : w.ownsRow base' e' sz' v' n' xs') (hne : e ≠ e') (g : w.grownBy w' v.ownBlock) : w'.ownsRow base' e' sz' v' n' xs' := by
  refine h'.kept g ?_
  rcases h'.2 with ⟨rfl, -⟩ | ⟨b, cap, cur, rfl, hb, hh, r⟩
  · exact .inl rfl
  · right
    intro ee
    rcases h.2 with ⟨rfl, -⟩ | ⟨g', cap', cur', rfl, -, hh', -⟩
    · simp [Value.ownBlock] at ee
    · simp [Value.ownBlock] at ee
      subst ee
      rw [hh] at hh'
      simp at hh'
      exact hne hh'.2.symm


/-! ### Bytes of the call's own -/
def Mine (w : World) (base : Nat) (v : Value) (xs : List UInt8) : Prop := w.ownsRow base 5 1 v xs.length (bvs xs)

theorem Mine.bytes {w : World} {base : Nat} {v : Value} {xs : List UInt8} (h : Mine w base v xs) : Bytes w v xs := Bytes.of_own h
theorem Mine.below {w w' : World} {B base : Nat} {v : Value} {xs : List UInt8} (h : Mine w base v xs) (hb : Below B w w') (hB : w.heap.size ≤ B) : Mine w' base v xs := ownsRow_below h hb hB
theorem Mine.nil (w : World) (base : Nat) : Mine w base (.slice none 0 0) [] := World.ownsRow_nil _ _ _ _
theorem Mine.mono {w : World} {base base' : Nat} {v : Value} {xs : List UInt8} (h : Mine w base v xs) (hb : base' ≤ base) : Mine w base' v xs := by
  obtain ⟨h1, h2⟩ := h
  refine ⟨h1, ?_⟩
  rcases h2 with h2 | ⟨g, cap, cur, hv, hg, r⟩
  · exact .inl h2
  · exact .inr ⟨g, cap, cur, hv, Nat.le_trans hb hg, r⟩
theorem Mine.lit (w : World) (base n : Nat) (cs : Array Value) (xs : List UInt8) (hb : base ≤ w.heap.size) (hn : n ≤ 9223372036854775807) (hx : xs.length = n) (he : bvs xs = cs.toList) : Mine (w.alloc (.cells cs 5)) base (.slice (some ⟨w.heap.size, 0, none⟩) n n) xs := by
  subst hx
  have hs : cs.size = xs.length := by rw [← bvs_length, he]; simp
  have h := World.ownsRow_lit (base := base) (size := 1) (e := 5) w cs xs.length hb (by unfold maxLen; omega) (by omega)
  unfold Mine
  rw [he]
  exact h

theorem Mine.calm {w w' : World} {B base : Nat} {v : Value} {xs : List UInt8} (h : Mine w base v xs) (hc : Calm B w w') : Mine w' base v xs := ownsRow_calm h hc
theorem Mine.set {w : World} {base : Nat} {v : Value} {xs : List UInt8} (h : Mine w base v xs) (a : Addr) (u : Value) (ha : a.block < base) : Mine (w.setCell a u) base v xs := ownsRow_set h a u ha
theorem Mine.one {w : World} {base : Nat} {v : Value} {xs : List UInt8} (h : Mine w base v xs) : v.oneCell' = true := by
  rcases h.2 with ⟨rfl, -⟩ | ⟨g, cap, cur, rfl, -⟩ <;> rfl
theorem Mine.slice {w : World} {base : Nat} {v : Value} {xs : List UInt8} (h : Mine w base v xs) : ∃ a c, v = .slice a xs.length c := by
  rcases h.2 with ⟨rfl, h0⟩ | ⟨g, cap, cur, rfl, -⟩
  · exact ⟨none, 0, by rw [h0]⟩
  · exact ⟨_, _, rfl⟩


/-! ### What a call changes of the blocks that were there: those of S alone -/
structure Only (S : Nat → Prop) (w w' : World) : Prop where
  os : w'.os = w.os
  tape : w'.tape = w.tape
  output : w'.output = w.output
  size : w.heap.size ≤ w'.heap.size
  block : ∀ k, k < w.heap.size → ¬ S k → w'.heap[k]? = w.heap[k]?

theorem Only.refl (S : Nat → Prop) (w : World) : Only S w w := ⟨rfl, rfl, rfl, Nat.le_refl _, fun _ _ _ => rfl⟩
theorem Only.trans {S T : Nat → Prop} {a b c : World} (h : Only S a b) (k : Only T b c) (hT : ∀ j, j < a.heap.size → T j → S j) : Only S a c :=
  ⟨k.os.trans h.os, k.tape.trans h.tape, k.output.trans h.output, Nat.le_trans h.size k.size, fun j hj hs => (k.block j (Nat.lt_of_lt_of_le hj h.size) (fun ht => hs (hT j hj ht))).trans (h.block j hj hs)⟩
theorem Only.weak {S T : Nat → Prop} {a b : World} (h : Only S a b) (hT : ∀ j, j < a.heap.size → S j → T j) : Only T a b :=
  ⟨h.os, h.tape, h.output, h.size, fun j hj hs => h.block j hj (fun ht => hs (hT j hj ht))⟩
theorem Only.of_below {S : Nat → Prop} {w w' : World} (h : Below w.heap.size w w') : Only S w w' := ⟨h.os, h.tape, h.output, h.size, fun j hj _ => h.block j hj⟩
theorem Only.of_grown {w w' : World} {r : Option Nat} (h : w.grownBy w' r) : Only (fun j => r = some j) w w' := ⟨h.os, h.tape, h.output, h.size, fun j hj hs => h.block j hj (fun e => hs e.symm)⟩
theorem Only.below {S : Nat → Prop} {w w' : World} {B : Nat} (h : Only S w w') (hB : B ≤ w.heap.size) (hS : ∀ j, j < B → ¬ S j) : Below B w w' := ⟨h.os, h.tape, h.output, h.size, fun j hj => h.block j (by omega) (hS j hj)⟩
theorem Only.alloc {S : Nat → Prop} {a w : World} (h : Only S a w) (o : Obj) : Only S a (w.alloc o) := h.trans (Only.of_below (S := fun _ => False) ((Below.refl _ w).alloc (Nat.le_refl _) o)) (fun _ _ h => h.elim)
theorem Only.drew {S : Nat → Prop} {a w : World} (h : Only S a w) : Only S a w.drew := ⟨h.os, h.tape, h.output, h.size, h.block⟩
theorem Only.setCell {S : Nat → Prop} {a w : World} (h : Only S a w) (x : Addr) (u : Value) (hx : S x.block ∨ a.heap.size ≤ x.block) : Only S a (w.setCell x u) := by
  refine ⟨h.os, h.tape, h.output, by simpa using h.size, fun j hj hs => ?_⟩
  rw [heap_setCell_other w x j u ?_]
  · exact h.block j hj hs
  · rintro rfl
    rcases hx with h1 | h1
    · exact hs h1
    · omega
theorem Only.cell {S : Nat → Prop} {w w' : World} (h : Only S w w') {b o : Nat} {v : Value} (hS : ¬ S b) (hc : w.cell? ⟨b, o, none⟩ = some v) : w'.cell? ⟨b, o, none⟩ = some v :=
  (World.cell?_of_block (a := ⟨b, o, none⟩) (h.block b (World.block_lt_of_cell? w _ hc) hS)).trans hc
theorem Only.frozen {S : Nat → Prop} {w w' : World} (h : Only S w w') {b o : Nat} (hb : b < w.heap.size) (hS : ¬ S b) : w'.frozen? ⟨b, o, none⟩ = w.frozen? ⟨b, o, none⟩ := World.frozen?_of_block (a := ⟨b, o, none⟩) (h.block b hb hS)
theorem ownsRow_only {S : Nat → Prop} {w w' : World} {base : Nat} {e : TypeId} {sz n : Nat} {v : Value} {xs : List Value} (h : w.ownsRow base e sz v n xs) (ho : Only S w w') (hS : ∀ g, v.ownBlock = some g → ¬ S g) : w'.ownsRow base e sz v n xs := by
  obtain ⟨h1, h2⟩ := h
  refine ⟨h1, ?_⟩
  rcases h2 with h2 | ⟨g, cap, cur, hv, hg, hh, r⟩
  · exact .inl h2
  · exact .inr ⟨g, cap, cur, hv, hg, (ho.block g (Array.getElem?_eq_some_iff.1 hh).1 (hS g (by rw [hv]; rfl))).trans hh, r⟩
/-- Rows of other elements lie in other blocks. -/
theorem own_apart {w : World} {base base' : Nat} {e e' : TypeId} {sz sz' n n' : Nat} {v v' : Value} {xs xs' : List Value} (h : w.ownsRow base e sz v n xs) (h' : w.ownsRow base' e' sz' v' n' xs') (hne : e ≠ e') (g : Nat) (hg : v.ownBlock = some g) : v'.ownBlock ≠ some g := by
  intro ee
  rcases h.2 with ⟨rfl, -⟩ | ⟨g1, cap, cur, rfl, -, hh, -⟩
  · simp [Value.ownBlock] at hg
  rcases h'.2 with ⟨rfl, -⟩ | ⟨g2, cap', cur', rfl, -, hh', -⟩
  · simp [Value.ownBlock] at ee
  simp [Value.ownBlock] at hg ee
  subst hg ee
  rw [hh] at hh'
  simp at hh'
  exact hne hh'.2
theorem Bytes.only {S : Nat → Prop} {w w' : World} {v : Value} {xs : List UInt8} (h : Bytes w v xs) (ho : Only S w w') (hS : ∀ a n c, v = .slice (some a) n c → ¬ S a.block) : Bytes w' v xs := by
  obtain ⟨a, cap, hv, h1, h2, h3⟩ := h
  refine ⟨a, cap, hv, h1, h2, ?_⟩
  rcases h3 with h3 | ⟨b, off, rfl, hc⟩
  · exact .inl h3
  · exact .inr ⟨b, off, rfl, fun i hi => ho.cell (hS _ _ _ hv) (hc i hi)⟩

/-! ### One more step of a region's walk -/
section
variable {P : Program} {l : List Oper} {Q : Exit → Act → World → Prop} {S : World → Prop} {T : Act → World → Prop} {i : Nat} {o : Oper} {π : List (Nat × Bool)} {a : Act} {w w' : World} {v' : Value}
theorem m_value (ho : l[i]? = some o) (hw : Region.wanted o (yielded l.toArray a.tmps) = true) (hrun : (execOp a.eval o).run P w = .ok (.value v') w') (hS : S w') (h : wpM P l.toArray Q S T π (a.put o.dst v') w') : wpM P l.toArray Q S T ((i, true) :: π) a w := by
  refine m_loud ho fun K hK => ?_
  rw [if_pos hw]
  unfold Oper.wp
  rw [hrun]
  exact hK _ _ hS h
/-- append to what the call owns or to nil. -/
theorem m_app {s x : Operand} {t e : TypeId} {z : Value} {sz bytes base n m : Nat} {v sv : Value} {xs ys : List Value} (T' : STy P t e z sz bytes)
    (hown : w.ownsRow base e sz v n xs) (hr : Rd w sz sv m ys) (h1 : ∀ u ∈ ys, u.oneCell' = true) (hm0 : 0 < m) (hb : (n + m) * bytes ≤ 140737488355328) (hm : n + m ≤ 9223372036854775807) (hbase : base ≤ w.heap.size)
    (ho : l[i]? = some o) (hw : Region.wanted o (yielded l.toArray a.tmps) = true) (hop : o.op = .call { callee := .builtin .append, args := #[s, x], argTypes := #[t, t] }) (hs : a.eval s = v) (hx : a.eval x = sv)
    (h : ∀ g cap w', w'.ownsRow base e sz (.slice (some ⟨g, 0, none⟩) (n + m) cap) (n + m) (xs ++ ys) → w'.ownsRow base e sz v n xs → w.grownBy w' v.ownBlock → ((∃ k c, v = .slice (some ⟨g, 0, none⟩) k c ∧ cap = c) ∨ w.heap.size ≤ g) → S w' ∧ wpM P l.toArray Q S T π (a.put o.dst (.slice (some ⟨g, 0, none⟩) (n + m) cap)) w') :
    wpM P l.toArray Q S T ((i, true) :: π) a w := by
  rcases hown.2 with ⟨rfl, h0⟩ | ⟨g, cap, cur, rfl, -⟩
  · subst h0
    obtain ⟨i', hi, hz, hsz, hby⟩ := T'.hi
    obtain ⟨a', scap, rfl, hl, hle, hcap, hc⟩ := hr
    rcases hc with hc | ⟨b, off, rfl, hc⟩
    · omega
    obtain ⟨g, cap, w', hrun, h2, h3, h4, h5⟩ := run_append_lies (P := P) w t o.type base e i' z sz bytes T'.ht hi hz hsz hby T'.hz T'.pos _ 0 xs hown ⟨b, off, none⟩ m scap ys hl (fun j u hj => by rw [add_off]; exact hc j u hj) h1 hm0 (by unfold maxLen; omega) hb hbase _ rfl
    have := h g cap w' h2 ⟨hown.1, .inl ⟨rfl, rfl⟩⟩ h3 (.inr (by
      rcases h4 with h4 | h4
      · simp [Value.ownBlock] at h4
      · omega))
    exact m_value ho hw (exec_app hop hs hx hrun) this.1 this.2
  · obtain ⟨g', cap', w', hrun, h2, h3, h4, h5⟩ := run_app_keeps (ty := o.type) T' hown hr h1 hm0 hb hm hbase
    have := h g' cap' w' h2 h3 h4 (by
      rcases h5 with ⟨rfl, rfl⟩ | h5
      · exact .inl ⟨_, _, rfl, rfl⟩
      · exact .inr h5)
    exact m_value ho hw (exec_app hop hs hx hrun) this.1 this.2
end
end Go.Proofs.Ytbelhdnbmkemjaa
