/- Rows of bytes and frames of worlds: what the walks of the layers above share. -/
import Derived.Test.YtpmkepmnldkccaaOwn
import Derived.Test.YtpmkepmnldkccaaAppKeep
import Derived.Test.YtpmkepmnldkccaaRows
import Derived.ProofKit
namespace Go.Proofs.Ytpmkepmnldkccaa
open Go.RowKit

theorem tyBytes : STy Try.prog 30 5 (.int .u8 0) 1 1 := .of Try.underlying30 (by kernel_rfl) rfl (by omega)
theorem ownsRow_below {w w' : World} {B base : Nat} {e : TypeId} {sz n : Nat} {v : Value} {xs : List Value} (h : w.ownsRow base e sz v n xs) (hb : Below B w w') (hB : w.heap.size ≤ B) : w'.ownsRow base e sz v n xs := by
  obtain ⟨h1, h2⟩ := h
  refine ⟨h1, ?_⟩
  rcases h2 with h2 | ⟨g, cap, cur, hv, hg, hh, r⟩
  · exact .inl h2
  · exact .inr ⟨g, cap, cur, hv, hg, (hb.block g (Nat.lt_of_lt_of_le (Array.getElem?_eq_some_iff.1 hh).1 hB)).trans hh, r⟩
theorem ownsRow_calm {w w' : World} {B base : Nat} {e : TypeId} {sz n : Nat} {v : Value} {xs : List Value} (h : w.ownsRow base e sz v n xs) (hc : Calm B w w') : w'.ownsRow base e sz v n xs := by
  obtain ⟨h1, h2⟩ := h
  refine ⟨h1, ?_⟩
  rcases h2 with h2 | ⟨g, cap, cur, hv, hg, hh, r⟩
  · exact .inl h2
  · exact .inr ⟨g, cap, cur, hv, hg, hc.cells g _ hh rfl, r⟩
theorem ownsRow_set {w : World} {base : Nat} {e : TypeId} {sz n : Nat} {v : Value} {xs : List Value} (h : w.ownsRow base e sz v n xs) (a : Addr) (u : Value) (ha : a.block < base) : (w.setCell a u).ownsRow base e sz v n xs := by
  obtain ⟨h1, h2⟩ := h
  refine ⟨h1, ?_⟩
  rcases h2 with h2 | ⟨g, cap, cur, hv, hg, hh, r⟩
  · exact .inl h2
  · refine .inr ⟨g, cap, cur, hv, hg, ?_, r⟩
    rw [heap_setCell_other w a g u (by omega)]
    exact hh
theorem ownsRow_blocks {w w' : World} {base : Nat} {e : TypeId} {sz n : Nat} {v : Value} {xs : List Value} (h : w.ownsRow base e sz v n xs) (hk : ∀ j, base ≤ j → j < w.heap.size → w'.heap[j]? = w.heap[j]?) : w'.ownsRow base e sz v n xs := by
  obtain ⟨h1, h2⟩ := h
  refine ⟨h1, ?_⟩
  rcases h2 with h2 | ⟨g, cap, cur, hv, hg, hh, r⟩
  · exact .inl h2
  · exact .inr ⟨g, cap, cur, hv, hg, (hk g hg (Array.getElem?_eq_some_iff.1 hh).1).trans hh, r⟩
theorem ownsRow_mono {w : World} {base base' : Nat} {e : TypeId} {sz n : Nat} {v : Value} {xs : List Value} (h : w.ownsRow base e sz v n xs) (hb : base' ≤ base) : w.ownsRow base' e sz v n xs := by
  obtain ⟨h1, h2⟩ := h
  refine ⟨h1, ?_⟩
  rcases h2 with h2 | ⟨g, cap, cur, hv, hg, r⟩
  · exact .inl h2
  · exact .inr ⟨g, cap, cur, hv, Nat.le_trans hb hg, r⟩
theorem own_one {w : World} {base : Nat} {e : TypeId} {sz n : Nat} {v : Value} {xs : List Value} (h : w.ownsRow base e sz v n xs) : v.oneCell' = true := by
  rcases h.2 with ⟨rfl, -⟩ | ⟨g, cap, cur, rfl, -⟩ <;> rfl
theorem own_slice {w : World} {base : Nat} {e : TypeId} {sz n : Nat} {v : Value} {xs : List Value} (h : w.ownsRow base e sz v n xs) : ∃ a c, v = .slice a n c := by
  rcases h.2 with ⟨rfl, h0⟩ | ⟨g, cap, cur, rfl, -⟩
  · exact ⟨none, 0, by rw [h0]⟩
  · exact ⟨_, _, rfl⟩
theorem own_cells {w : World} {base : Nat} {e : TypeId} {sz n : Nat} {v : Value} {xs : List Value} (h : w.ownsRow base e sz v n xs) (j : Nat) (o : Obj) (hj : v.ownBlock = some j) (ho : w.heap[j]? = some o) : o.isCells = true := by
  rcases h.2 with ⟨rfl, -⟩ | ⟨g, cap, cur, rfl, -, hh, -⟩
  · simp [Value.ownBlock] at hj
  · simp [Value.ownBlock] at hj
    subst hj
    rw [hh] at ho
    cases ho
    rfl
/-- A row that another append leaves: its elements are of another type. -/
theorem own_otherT {w w' : World} {base base' : Nat} {e e' : TypeId} {sz sz' n n' : Nat} {v v' : Value} {xs xs' : List Value} (h : w.ownsRow base e sz v n xs) (h' : w.ownsRow base' e' sz' v' n' xs') (hne : e ≠ e') (g : w.grownBy w' v.ownBlock) : w'.ownsRow base' e' sz' v' n' xs' := by
  refine h'.kept g ?_
  rcases h'.2 with ⟨rfl, -⟩ | ⟨b, cap, cur, rfl, hb, hh, r⟩
  · exact .inl rfl
  · right
    intro ee
    rcases h.2 with ⟨rfl, -⟩ | ⟨g', cap', cur', rfl, -, hh', -⟩
    · simp [Value.ownBlock] at ee
    · simp [Value.ownBlock] at ee
      subst ee
      rw [hh] at hh'
      simp at hh'
      exact hne hh'.2.symm


/-! ### Bytes of the call's own -/
def Mine (w : World) (base : Nat) (v : Value) (xs : List UInt8) : Prop := w.ownsRow base 5 1 v xs.length (bvs xs)

theorem Mine.bytes {w : World} {base : Nat} {v : Value} {xs : List UInt8} (h : Mine w base v xs) : Bytes w v xs := Bytes.of_own h
theorem Mine.below {w w' : World} {B base : Nat} {v : Value} {xs : List UInt8} (h : Mine w base v xs) (hb : Below B w w') (hB : w.heap.size ≤ B) : Mine w' base v xs := ownsRow_below h hb hB
theorem Mine.nil (w : World) (base : Nat) : Mine w base (.slice none 0 0) [] := World.ownsRow_nil _ _ _ _
theorem Mine.mono {w : World} {base base' : Nat} {v : Value} {xs : List UInt8} (h : Mine w base v xs) (hb : base' ≤ base) : Mine w base' v xs := by
  obtain ⟨h1, h2⟩ := h
  refine ⟨h1, ?_⟩
  rcases h2 with h2 | ⟨g, cap, cur, hv, hg, r⟩
  · exact .inl h2
  · exact .inr ⟨g, cap, cur, hv, Nat.le_trans hb hg, r⟩
theorem Mine.lit (w : World) (base n : Nat) (cs : Array Value) (xs : List UInt8) (hb : base ≤ w.heap.size) (hn : n ≤ 9223372036854775807) (hx : xs.length = n) (he : bvs xs = cs.toList) : Mine (w.alloc (.cells cs 5)) base (.slice (some ⟨w.heap.size, 0, none⟩) n n) xs := by
  subst hx
  have hs : cs.size = xs.length := by rw [← bvs_length, he]; simp
  have h := World.ownsRow_lit (base := base) (size := 1) (e := 5) w cs xs.length hb (by unfold maxLen; omega) (by omega)
  unfold Mine
  rw [he]
  exact h

theorem Mine.calm {w w' : World} {B base : Nat} {v : Value} {xs : List UInt8} (h : Mine w base v xs) (hc : Calm B w w') : Mine w' base v xs := ownsRow_calm h hc
theorem Mine.set {w : World} {base : Nat} {v : Value} {xs : List UInt8} (h : Mine w base v xs) (a : Addr) (u : Value) (ha : a.block < base) : Mine (w.setCell a u) base v xs := ownsRow_set h a u ha
theorem Mine.one {w : World} {base : Nat} {v : Value} {xs : List UInt8} (h : Mine w base v xs) : v.oneCell' = true := by
  rcases h.2 with ⟨rfl, -⟩ | ⟨g, cap, cur, rfl, -⟩ <;> rfl
theorem Mine.slice {w : World} {base : Nat} {v : Value} {xs : List UInt8} (h : Mine w base v xs) : ∃ a c, v = .slice a xs.length c := by
  rcases h.2 with ⟨rfl, h0⟩ | ⟨g, cap, cur, rfl, -⟩
  · exact ⟨none, 0, by rw [h0]⟩
  · exact ⟨_, _, rfl⟩

/-- append to it. -/
theorem app_mine {ops : Array Oper} {rest : List Oper} {o : Oper} {a : Act} {Q : Exit → Act → World → Prop} {w0 w : World} {s x : Operand} {base : Nat} {v sv : Value} {xs ys : List UInt8}
    (hown : Mine w base v xs) (hr : Bytes w sv ys) (hB : Below base w0 w) (hbase : base ≤ w.heap.size) (hb : xs.length + ys.length ≤ 140737488355328)
    (hgd : Region.wanted o (yielded ops a.tmps) = true) (ho : o.op = .call { callee := .builtin .append, args := #[s, x], argTypes := #[30, 30] }) (hs : a.eval s = v) (hx : a.eval x = sv)
    (h : ∀ v' w', Mine w' base v' (xs ++ ys) → Below base w0 w' → wpList Try.prog ops Q rest (a.put o.dst v') w') : wpList Try.prog ops Q (o :: rest) a w := by
  refine app_list tyBytes hown hr.rd (bvs_one _) (by omega) (by omega) hbase hgd ho hs hx fun v' w' h1 h2 _ => h v' w' ?_ ?_
  · unfold Mine
    rw [List.length_append, bvs_append]
    exact h1
  · exact hB.grown h2 hbase (fun k e => (World.ownsRow.lt hown k e).1)
theorem app_mineIn {r : Option Nat} {ops : Array Oper} {rest : List Oper} {o : Oper} {a : Act} {Q : Exit → Act → World → Prop} {w0 w : World} {s x : Operand} {base : Nat} {v sv : Value} {xs ys : List UInt8}
    (hown : Mine w base v xs) (hr : Bytes w sv ys) (hB : Below base w0 w) (hbase : base ≤ w.heap.size) (hb : xs.length + ys.length ≤ 140737488355328)
    (hgd : Region.wanted o (yielded ops a.tmps) = true) (ho : o.op = .call { callee := .builtin .append, args := #[s, x], argTypes := #[30, 30] }) (hs : a.eval s = v) (hx : a.eval x = sv)
    (h : ∀ v' w', Mine w' base v' (xs ++ ys) → Below base w0 w' → wpListIn { Fence.wide with round := r } 0 Try.prog ops Q rest (a.put o.dst v') w') : wpListIn { Fence.wide with round := r } 0 Try.prog ops Q (o :: rest) a w := by
  refine app_listIn tyBytes hown hr.rd (bvs_one _) (by omega) (by omega) hbase hgd ho hs hx fun v' w' h1 h2 _ => h v' w' ?_ ?_
  · unfold Mine
    rw [List.length_append, bvs_append]
    exact h1
  · exact hB.grown h2 hbase (fun k e => (World.ownsRow.lt hown k e).1)

/-! ### Parts of bytes that lie somewhere -/
theorem Bytes.sub {w : World} {b o L C : Nat} {xs : List UInt8} (h : Bytes w (.slice (some ⟨b, o, none⟩) L C) xs) (i n C' : Nat) (hi : i + n ≤ L) (hC : n ≤ C') (hC2 : C' ≤ 9223372036854775807) :
    Bytes w (.slice (some ⟨b, o + i, none⟩) n C') ((xs.drop i).take n) := by
  obtain ⟨a', cap', hv, h1, h2, h3⟩ := h
  simp only [Value.slice.injEq] at hv
  obtain ⟨rfl, rfl, rfl⟩ := hv
  have hl : ((xs.drop i).take n).length = n := by simp; omega
  refine ⟨some ⟨b, o + i, none⟩, C', by rw [hl], by omega, hC2, ?_⟩
  by_cases hn : n = 0
  · by_cases hc : C' = 0
    · exact .inl hc
    · exact .inr ⟨b, o + i, rfl, fun j hj => by omega⟩
  refine .inr ⟨b, o + i, rfl, fun j hj => ?_⟩
  rw [hl] at hj
  rcases h3 with h3 | ⟨b', o', ha, hc⟩
  · omega
  · simp only [Option.some.injEq, Addr.mk.injEq, and_true] at ha
    obtain ⟨rfl, rfl⟩ := ha
    have := hc (i + j) (by omega)
    rw [← Nat.add_assoc] at this
    rw [this]
    congr 2
    unfold bt
    simp [List.getD, hj]
theorem Bytes.from {w : World} {b o L C : Nat} {xs : List UInt8} (h : Bytes w (.slice (some ⟨b, o, none⟩) L C) xs) (i n C' : Nat) (hi : i + n = L) (hC : n ≤ C') (hC2 : C' ≤ 9223372036854775807) :
    Bytes w (.slice (some ⟨b, o + i, none⟩) n C') (xs.drop i) := by
  have := h.sub i n C' (by omega) hC hC2
  obtain ⟨a', cap', hv, -⟩ := h
  simp only [Value.slice.injEq] at hv
  rw [List.take_of_length_le (by simp; omega)] at this
  exact this
theorem Bytes.part {w : World} {b o L C : Nat} {xs : List UInt8} (h : Bytes w (.slice (some ⟨b, o, none⟩) L C) xs) (n C' : Nat) (hi : n ≤ L) (hC : n ≤ C') (hC2 : C' ≤ 9223372036854775807) :
    Bytes w (.slice (some ⟨b, o, none⟩) n C') (xs.take n) := h.sub 0 n C' (by omega) hC hC2
theorem Bytes.length {w : World} {a : Option Addr} {L C : Nat} {xs : List UInt8} (h : Bytes w (.slice a L C) xs) : xs.length = L := by
  obtain ⟨a', cap', hv, -⟩ := h
  simp only [Value.slice.injEq] at hv
  exact hv.2.1.symm
set_option maxHeartbeats 400000 in
theorem same_calls (u v : Value) (xs ys : List UInt8) (w : World) (hu : Bytes w u xs) (hv : Bytes w v ys) :
    Calls Try.prog 26 #[u, v] w fun e w' => e = .returned (.bool (xs == ys)) ∧ w' = w := by
  have h1 := run_bytes_str (P := Try.prog) (src := 30) (e := 5) (dst := 9) Try.underlying30 Try.underlying5 Try.underlying9 hu
  have h2 := run_bytes_str (P := Try.prog) (src := 30) (e := 5) (dst := 9) Try.underlying30 Try.underlying5 Try.underlying9 hv
  obtain ⟨a, c, rfl, -⟩ := hu
  obtain ⟨a', c', rfl, -⟩ := hv
  go_enter Try.func26, Try.ntmps26
  go_wp2
  go_ret
  refine ⟨?_, rfl⟩
  show Ending.returned (.bool ((bstr xs).toList == (bstr ys).toList)) = _
  rw [bstr_toList, bstr_toList]

/-- What Room hands back: the bytes with three marked ones behind, cut to the bytes. -/
def RoomAt (w : World) (base : Nat) (r : Value) (xs : List UInt8) : Prop :=
  ∃ g cap, r = .slice (some ⟨g, 0, none⟩) xs.length cap ∧ w.ownsRow base 5 1 (.slice (some ⟨g, 0, none⟩) (xs.length + 3) cap) (xs.length + 3) (bvs (xs ++ [171, 172, 173]))

theorem RoomAt.bytes {w : World} {base : Nat} {r : Value} {xs : List UInt8} (h : RoomAt w base r xs) : Bytes w r xs := by
  obtain ⟨g, cap, rfl, h⟩ := h
  have := Rd.own_take h (m := xs.length) (by omega)
  rw [Nat.mul_one, bvs_append, List.take_left' (bvs_length xs)] at this
  exact this.bytes

theorem RoomAt.below {w w' : World} {B base : Nat} {r : Value} {xs : List UInt8} (h : RoomAt w base r xs) (hb : Below B w w') (hB : w.heap.size ≤ B) : RoomAt w' base r xs := by
  obtain ⟨g, cap, hr, ho⟩ := h
  exact ⟨g, cap, hr, ownsRow_below ho hb hB⟩

set_option maxHeartbeats 800000 in
theorem room_calls (v : Value) (xs : List UInt8) (w : World) (hv : Bytes w v xs) (hlen : xs.length ≤ 140737488351232) :
    Calls Try.prog 22 #[v] w fun e w' => (∃ r, e = .returned r ∧ RoomAt w' w.heap.size r xs) ∧ Below w.heap.size w w' := by
  have HV := Lib.hid hv
  obtain ⟨a, c, rfl, hl, hc, -⟩ := hv
  go_enter Try.func22, Try.ntmps22
  go_wp2_with (first
    | (at_make; refine make_list (base := w.heap.size) tyBytes rfl rfl rfl (c := xs.length + 3) rfl (by omega) (by omega) (by simp) ?_; intro w1 hown1 hg1)
    | (at_builtin; have _t := hown1; refine app_list tyBytes hown1 (HV.out.rd.below ((Below.refl _ w).grown hg1 (Nat.le_refl _) (by simp)) (Nat.le_refl _)) (bvs_one _) (by omega) (by omega) hg1.size rfl rfl rfl rfl ?_; intro v2 w2 hown2 hg2 hn2; clear hown1)
    | (at_builtin; have _t := hown2; refine app_list tyBytes (hown2.alloc _) (Rd.lit (n := 3) rfl (by omega)) (by simp [Value.oneCell']) (by omega) (by omega) (by have := hg1.size; have := hg2.size; simp; omega) rfl rfl rfl rfl ?_; intro v3 w3 hown3 hg3 hn3; clear hown2; obtain ⟨g, cap, rfl, hbg, hgl, hcl, hcm⟩ := own_succ hown3))
  go_ret
  have hb1 : Below w.heap.size w w1 := (Below.refl _ w).grown hg1 (Nat.le_refl _) (by simp)
  have hb2 : Below w.heap.size w w2 := hb1.grown hg2 hb1.size (fun k e => by simp [Value.ownBlock] at e; omega)
  have hb3 : Below w.heap.size w w3 := (hb2.alloc hb2.size _).grown hg3 (by have := hb2.size; simp; omega) (fun k e => (World.ownsRow.lt _t k e).1)
  refine ⟨⟨_, rfl, g, cap, rfl, ?_⟩, hb3⟩
  have e1 : 0 + xs.length + 2 + 1 = xs.length + 3 := by omega
  rw [e1] at hown3
  rw [bvs_append]
  exact hown3

/-- Room's row is told to stand as it did. -/
theorem kept_bytes {w : World} {base : Nat} {xs : List UInt8} {g cap : Nat} (h : w.ownsRow base 5 1 (.slice (some ⟨g, 0, none⟩) (xs.length + 3) cap) (xs.length + 3) (bvs (xs ++ [171, 172, 173]))) :
    w.cell? ⟨g, xs.length, none⟩ = some (.int .u8 171) ∧ w.cell? ⟨g, xs.length + 1, none⟩ = some (.int .u8 172) ∧ w.cell? ⟨g, xs.length + 2, none⟩ = some (.int .u8 173) := by
  have hc := World.ownsRow.cells h (g := g) rfl
  have hg : ∀ j, j < 3 → (bvs (xs ++ [171, 172, 173]))[xs.length + j]? = (bvs [171, 172, 173])[j]? := by
    intro j hj
    rw [bvs_append, List.getElem?_append_right (by rw [bvs_length]; omega), bvs_length]
    congr 1; omega
  have h0 := hc (xs.length + 0) (.int .u8 171) (by rw [hg 0 (by omega)]; rfl)
  have h1 := hc (xs.length + 1) (.int .u8 172) (by rw [hg 1 (by omega)]; rfl)
  have h2 := hc (xs.length + 2) (.int .u8 173) (by rw [hg 2 (by omega)]; rfl)
  rw [add_off] at h0 h1 h2
  simp only [Nat.zero_add, Nat.add_zero] at h0 h1 h2
  exact ⟨h0, h1, h2⟩

set_option maxHeartbeats 800000 in
theorem kept_calls (r v : Value) (xs : List UInt8) (base : Nat) (w : World) (hr : RoomAt w base r xs) (hv : Bytes w v xs) (hlen : xs.length ≤ 140737488351232) :
    Calls Try.prog 23 #[r, v] w fun e w' => e = .returned (.bool true) ∧ w' = w := by
  have hS := Lib.hid (same_calls r v xs xs w hr.bytes hv)
  obtain ⟨g, cap, rfl, ho⟩ := hr
  obtain ⟨k0, k1, k2⟩ := kept_bytes ho
  obtain ⟨_, _, hvv, _, _, hcl, hcm⟩ := own_succ ho
  simp only [Value.slice.injEq] at hvv
  obtain ⟨-, -, rfl⟩ := hvv
  clear ho
  obtain ⟨a, c, rfl, hl, hc, -⟩ := hv
  go_enter Try.func23, Try.ntmps23
  go_wp2_with (go_at_call 26; refine hS.out.mono ?_; rintro e w1 ⟨rfl, rfl⟩; simp only [beq_self_eq_true])
  go_ret
  exact ⟨rfl, rfl⟩

/-! ### What a call changes of the blocks that were there: those of S alone -/
structure Only (S : Nat → Prop) (w w' : World) : Prop where
  os : w'.os = w.os
  tape : w'.tape = w.tape
  output : w'.output = w.output
  size : w.heap.size ≤ w'.heap.size
  block : ∀ k, k < w.heap.size → ¬ S k → w'.heap[k]? = w.heap[k]?

theorem Only.refl (S : Nat → Prop) (w : World) : Only S w w := ⟨rfl, rfl, rfl, Nat.le_refl _, fun _ _ _ => rfl⟩
theorem Only.trans {S T : Nat → Prop} {a b c : World} (h : Only S a b) (k : Only T b c) (hT : ∀ j, j < a.heap.size → T j → S j) : Only S a c :=
  ⟨k.os.trans h.os, k.tape.trans h.tape, k.output.trans h.output, Nat.le_trans h.size k.size, fun j hj hs => (k.block j (Nat.lt_of_lt_of_le hj h.size) (fun ht => hs (hT j hj ht))).trans (h.block j hj hs)⟩
theorem Only.weak {S T : Nat → Prop} {a b : World} (h : Only S a b) (hT : ∀ j, j < a.heap.size → S j → T j) : Only T a b :=
  ⟨h.os, h.tape, h.output, h.size, fun j hj hs => h.block j hj (fun ht => hs (hT j hj ht))⟩
theorem Only.of_below {S : Nat → Prop} {w w' : World} (h : Below w.heap.size w w') : Only S w w' := ⟨h.os, h.tape, h.output, h.size, fun j hj _ => h.block j hj⟩
theorem Only.of_grown {w w' : World} {r : Option Nat} (h : w.grownBy w' r) : Only (fun j => r = some j) w w' := ⟨h.os, h.tape, h.output, h.size, fun j hj hs => h.block j hj (fun e => hs e.symm)⟩
theorem Only.below {S : Nat → Prop} {w w' : World} {B : Nat} (h : Only S w w') (hB : B ≤ w.heap.size) (hS : ∀ j, j < B → ¬ S j) : Below B w w' := ⟨h.os, h.tape, h.output, h.size, fun j hj => h.block j (by omega) (hS j hj)⟩
theorem Only.alloc {S : Nat → Prop} {a w : World} (h : Only S a w) (o : Obj) : Only S a (w.alloc o) := h.trans (Only.of_below (S := fun _ => False) ((Below.refl _ w).alloc (Nat.le_refl _) o)) (fun _ _ h => h.elim)
theorem Only.drew {S : Nat → Prop} {a w : World} (h : Only S a w) : Only S a w.drew := ⟨h.os, h.tape, h.output, h.size, h.block⟩
theorem Only.setCell {S : Nat → Prop} {a w : World} (h : Only S a w) (x : Addr) (u : Value) (hx : S x.block ∨ a.heap.size ≤ x.block) : Only S a (w.setCell x u) := by
  refine ⟨h.os, h.tape, h.output, by simpa using h.size, fun j hj hs => ?_⟩
  rw [heap_setCell_other w x j u ?_]
  · exact h.block j hj hs
  · rintro rfl
    rcases hx with h1 | h1
    · exact hs h1
    · omega
theorem Only.cell {S : Nat → Prop} {w w' : World} (h : Only S w w') {b o : Nat} {v : Value} (hS : ¬ S b) (hc : w.cell? ⟨b, o, none⟩ = some v) : w'.cell? ⟨b, o, none⟩ = some v :=
  (World.cell?_of_block (a := ⟨b, o, none⟩) (h.block b (World.block_lt_of_cell? w _ hc) hS)).trans hc
theorem Only.frozen {S : Nat → Prop} {w w' : World} (h : Only S w w') {b o : Nat} (hb : b < w.heap.size) (hS : ¬ S b) : w'.frozen? ⟨b, o, none⟩ = w.frozen? ⟨b, o, none⟩ := World.frozen?_of_block (a := ⟨b, o, none⟩) (h.block b hb hS)
theorem ownsRow_only {S : Nat → Prop} {w w' : World} {base : Nat} {e : TypeId} {sz n : Nat} {v : Value} {xs : List Value} (h : w.ownsRow base e sz v n xs) (ho : Only S w w') (hS : ∀ g, v.ownBlock = some g → ¬ S g) : w'.ownsRow base e sz v n xs := by
  obtain ⟨h1, h2⟩ := h
  refine ⟨h1, ?_⟩
  rcases h2 with h2 | ⟨g, cap, cur, hv, hg, hh, r⟩
  · exact .inl h2
  · exact .inr ⟨g, cap, cur, hv, hg, (ho.block g (Array.getElem?_eq_some_iff.1 hh).1 (hS g (by rw [hv]; rfl))).trans hh, r⟩
/-- Rows of other elements lie in other blocks. -/
theorem own_apart {w : World} {base base' : Nat} {e e' : TypeId} {sz sz' n n' : Nat} {v v' : Value} {xs xs' : List Value} (h : w.ownsRow base e sz v n xs) (h' : w.ownsRow base' e' sz' v' n' xs') (hne : e ≠ e') (g : Nat) (hg : v.ownBlock = some g) : v'.ownBlock ≠ some g := by
  intro ee
  rcases h.2 with ⟨rfl, -⟩ | ⟨g1, cap, cur, rfl, -, hh, -⟩
  · simp [Value.ownBlock] at hg
  rcases h'.2 with ⟨rfl, -⟩ | ⟨g2, cap', cur', rfl, -, hh', -⟩
  · simp [Value.ownBlock] at ee
  simp [Value.ownBlock] at hg ee
  subst hg ee
  rw [hh] at hh'
  simp at hh'
  exact hne hh'.2
theorem Bytes.only {S : Nat → Prop} {w w' : World} {v : Value} {xs : List UInt8} (h : Bytes w v xs) (ho : Only S w w') (hS : ∀ a n c, v = .slice (some a) n c → ¬ S a.block) : Bytes w' v xs := by
  obtain ⟨a, cap, hv, h1, h2, h3⟩ := h
  refine ⟨a, cap, hv, h1, h2, ?_⟩
  rcases h3 with h3 | ⟨b, off, rfl, hc⟩
  · exact .inl h3
  · exact .inr ⟨b, off, rfl, fun i hi => ho.cell (hS _ _ _ hv) (hc i hi)⟩

/-! ### One more step of a region's walk -/
section
variable {P : Program} {l : List Oper} {Q : Exit → Act → World → Prop} {S : World → Prop} {T : Act → World → Prop} {i : Nat} {o : Oper} {π : List (Nat × Bool)} {a : Act} {w w' : World} {v' : Value}
theorem m_value (ho : l[i]? = some o) (hw : Region.wanted o (yielded l.toArray a.tmps) = true) (hrun : (execOp a.eval o).run P w = .ok (.value v') w') (hS : S w') (h : wpM P l.toArray Q S T π (a.put o.dst v') w') : wpM P l.toArray Q S T ((i, true) :: π) a w := by
  refine m_loud ho fun K hK => ?_
  rw [if_pos hw]
  unfold Oper.wp
  rw [hrun]
  exact hK _ _ hS h
/-- append to what the call owns or to nil. -/
theorem m_app {s x : Operand} {t e : TypeId} {z : Value} {sz bytes base n m : Nat} {v sv : Value} {xs ys : List Value} (T' : STy P t e z sz bytes)
    (hown : w.ownsRow base e sz v n xs) (hr : Rd w sz sv m ys) (h1 : ∀ u ∈ ys, u.oneCell' = true) (hm0 : 0 < m) (hb : (n + m) * bytes ≤ 140737488355328) (hm : n + m ≤ 9223372036854775807) (hbase : base ≤ w.heap.size)
    (ho : l[i]? = some o) (hw : Region.wanted o (yielded l.toArray a.tmps) = true) (hop : o.op = .call { callee := .builtin .append, args := #[s, x], argTypes := #[t, t] }) (hs : a.eval s = v) (hx : a.eval x = sv)
    (h : ∀ g cap w', w'.ownsRow base e sz (.slice (some ⟨g, 0, none⟩) (n + m) cap) (n + m) (xs ++ ys) → w'.ownsRow base e sz v n xs → w.grownBy w' v.ownBlock → ((∃ k c, v = .slice (some ⟨g, 0, none⟩) k c ∧ cap = c) ∨ w.heap.size ≤ g) → S w' ∧ wpM P l.toArray Q S T π (a.put o.dst (.slice (some ⟨g, 0, none⟩) (n + m) cap)) w') :
    wpM P l.toArray Q S T ((i, true) :: π) a w := by
  rcases hown.2 with ⟨rfl, h0⟩ | ⟨g, cap, cur, rfl, -⟩
  · subst h0
    obtain ⟨i', hi, hz, hsz, hby⟩ := T'.hi
    obtain ⟨a', scap, rfl, hl, hle, hcap, hc⟩ := hr
    rcases hc with hc | ⟨b, off, rfl, hc⟩
    · omega
    obtain ⟨g, cap, w', hrun, h2, h3, h4, h5⟩ := run_append_lies (P := P) w t o.type base e i' z sz bytes T'.ht hi hz hsz hby T'.hz T'.pos _ 0 xs hown ⟨b, off, none⟩ m scap ys hl (fun j u hj => by rw [add_off]; exact hc j u hj) h1 hm0 (by unfold maxLen; omega) hb hbase _ rfl
    have := h g cap w' h2 ⟨hown.1, .inl ⟨rfl, rfl⟩⟩ h3 (.inr (by
      rcases h4 with h4 | h4
      · simp [Value.ownBlock] at h4
      · omega))
    exact m_value ho hw (exec_app hop hs hx hrun) this.1 this.2
  · obtain ⟨g', cap', w', hrun, h2, h3, h4, h5⟩ := run_app_keeps (ty := o.type) T' hown hr h1 hm0 hb hm hbase
    have := h g' cap' w' h2 h3 h4 (by
      rcases h5 with ⟨rfl, rfl⟩ | h5
      · exact .inl ⟨_, _, rfl, rfl⟩
      · exact .inr h5)
    exact m_value ho hw (exec_app hop hs hx hrun) this.1 this.2
end
end Go.Proofs.Ytpmkepmnldkccaa
