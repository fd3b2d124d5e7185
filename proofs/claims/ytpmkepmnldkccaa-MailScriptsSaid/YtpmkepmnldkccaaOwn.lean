/- Slices that are read, slices that the call owns, append: no program in sight. -/
import Derived.Test.YtpmkepmnldkccaaRegion
namespace Go.Proofs.Ytpmkepmnldkccaa
open Go.RowKit

/-- The value v is a slice of n elements, sz cells each, that reads the cells cs in w. -/
def Rd (w : World) (sz : Nat) (v : Value) (n : Nat) (cs : List Value) : Prop :=
  ∃ (a : Option Addr) (cap : Nat), v = .slice a n cap ∧ cs.length = n * sz ∧ n ≤ cap ∧ cap ≤ 9223372036854775807 ∧
    (cap = 0 ∨ ∃ b off, a = some ⟨b, off, none⟩ ∧ ∀ (j : Nat) (u : Value), cs[j]? = some u → w.cell? ⟨b, off + j, none⟩ = some u)

theorem Rd.below {w w' : World} {sz n : Nat} {v : Value} {cs : List Value} (h : Rd w sz v n cs) {B : Nat} (hb : Below B w w') (hB : w.heap.size ≤ B) : Rd w' sz v n cs := by
  obtain ⟨a, cap, hv, h0, h1, h2, h3⟩ := h
  refine ⟨a, cap, hv, h0, h1, h2, ?_⟩
  rcases h3 with h3 | ⟨b, off, ha, hc⟩
  · exact .inl h3
  · exact .inr ⟨b, off, ha, fun j u hj => (hb.cell (p := ⟨b, off + j, none⟩) (Nat.lt_of_lt_of_le (World.block_lt_of_cell? w _ (hc j u hj)) hB)).trans (hc j u hj)⟩
theorem Rd.nil (w : World) (sz : Nat) : Rd w sz (.slice none 0 0) 0 [] := ⟨none, 0, rfl, by simp, Nat.le_refl _, by omega, .inl rfl⟩

theorem add_off (b o j : Nat) : (⟨b, o, none⟩ : Addr).add j = ⟨b, o + j, none⟩ := by unfold Addr.add; split <;> simp_all

/-- What the call owns, it reads. -/
theorem Rd.of_own {w : World} {base sz n : Nat} {e : TypeId} {v : Value} {cs : List Value} (h : w.ownsRow base e sz v n cs) : Rd w sz v n cs := by
  obtain ⟨h1, h2⟩ := h
  rcases h2 with ⟨rfl, rfl⟩ | ⟨g, cap, cur, rfl, hb, hg, hn, hm, hs, ht⟩
  · exact ⟨none, 0, rfl, h1, Nat.le_refl _, by omega, .inl rfl⟩
  · refine ⟨_, cap, rfl, h1, hn, by unfold maxLen at hm; omega, .inr ⟨g, 0, rfl, fun j u hj => ?_⟩⟩
    have := World.ownsRow.cells (w := w) (base := base) (e := e) (size := sz) (n := n) (xs := cs) (v := .slice (some ⟨g, 0, none⟩) n cap) ⟨h1, .inr ⟨g, cap, cur, rfl, hb, hg, hn, hm, hs, ht⟩⟩ (g := g) rfl j u hj
    rw [add_off] at this
    exact this

/-- A slice's type and its elements', in the program's tables. -/
structure STy (P : Program) (t e : TypeId) (z : Value) (sz bytes : Nat) : Prop where
  ht : P.underlying t = some (.slice e)
  hi : ∃ i, P.info? e = some i ∧ i.zero = some z ∧ i.size = sz ∧ i.bytes = bytes
  hz : z.cells.size = sz
  pos : 0 < sz

variable {P : Program}

theorem STy.of {t e : TypeId} {z : Value} {sz bytes : Nat} (ht : P.underlying t = some (.slice e)) (h : (P.info? e).map (fun i => (i.zero, i.size, i.bytes)) = some (some z, sz, bytes)) (hz : z.cells.size = sz) (pos : 0 < sz) : STy P t e z sz bytes := by
  obtain ⟨i, hi, h1, h2, h3⟩ := info_parts h
  exact ⟨ht, ⟨i, hi, h1, h2, h3⟩, hz, pos⟩

theorem run_app {w : World} {t e ty : TypeId} {z : Value} {sz bytes base n m : Nat} {v sv : Value} {xs ys : List Value} (T : STy P t e z sz bytes) (hown : w.ownsRow base e sz v n xs) (hr : Rd w sz sv m ys)
    (h1 : ∀ u ∈ ys, u.oneCell' = true) (hb : (n + m) * bytes ≤ 140737488355328) (hm : n + m ≤ 9223372036854775807) (hbase : base ≤ w.heap.size) :
    ∃ v' w', (Builtin.append_ #[t, t] ty #[v, sv]).run P w = .ok v' w' ∧ w'.ownsRow base e sz v' (n + m) (xs ++ ys) ∧ w.grownBy w' v.ownBlock ∧ (v' = .slice none 0 0 ↔ v = .slice none 0 0 ∧ m = 0) := by
  obtain ⟨i, hi, hz, hsz, hby⟩ := T.hi
  obtain ⟨a, cap, rfl, hl, hle, hcap, hc⟩ := hr
  rcases hc with rfl | ⟨b, off, rfl, hc⟩
  · obtain rfl : m = 0 := by omega
    obtain rfl : ys = [] := List.eq_nil_of_length_eq_zero (by simpa using hl)
    cases a with
    | some x => exact run_append_own w base t ty e i z sz bytes T.ht hi hz hsz hby T.hz T.pos v n xs hown x 0 0 [] hl (fun j u hj => by simp at hj) h1 (by unfold maxLen; omega) hb hbase
    | none =>
    refine ⟨v, w, run_append_owned_none w base t ty e i sz T.ht hi v n xs hown, by simpa using hown, ⟨rfl, rfl, rfl, Nat.le_refl _, fun _ _ _ => rfl⟩, by simp⟩
  · exact run_append_own w base t ty e i z sz bytes T.ht hi hz hsz hby T.hz T.pos v n xs hown ⟨b, off, none⟩ m cap ys hl (fun j u hj => by rw [add_off]; exact hc j u hj) h1 (by unfold maxLen; omega) hb hbase

theorem exec_app {o : Oper} {a : Act} {w w' : World} {s x : Operand} {t : TypeId} {v sv v' : Value} (ho : o.op = .call { callee := .builtin .append, args := #[s, x], argTypes := #[t, t] }) (hs : a.eval s = v) (hx : a.eval x = sv)
    (hrun : (Builtin.append_ #[t, t] o.type #[v, sv]).run P w = .ok v' w') : (execOp a.eval o).run P w = .ok (.value v') w' := by
  simp [execOp, ho, resolve, invoke, builtin, hs, hx, hrun, Result.andThen]

/-- A list of operations whose first yields a value. -/
theorem list_value {ops : Array Oper} {rest : List Oper} {o : Oper} {a : Act} {Q : Exit → Act → World → Prop} {w w' : World} {v' : Value} (hgd : Region.wanted o (yielded ops a.tmps) = true) (hrun : (execOp a.eval o).run P w = .ok (.value v') w')
    (h : wpList P ops Q rest (a.put o.dst v') w') : wpList P ops Q (o :: rest) a w := by
  refine wpList_step fun K hK => ?_
  rw [if_pos hgd]
  unfold Oper.wp
  rw [hrun]
  exact hK _ _ h
theorem listIn_value {r : Option Nat} {ops : Array Oper} {rest : List Oper} {o : Oper} {a : Act} {Q : Exit → Act → World → Prop} {w w' : World} {v' : Value} (hgd : Region.wanted o (yielded ops a.tmps) = true) (hd : ∀ c, o.op ≠ .defer c) (hrun : (execOp a.eval o).run P w = .ok (.value v') w')
    (h : wpListIn { Fence.wide with round := r } 0 P ops Q rest (a.put o.dst v') w') : wpListIn { Fence.wide with round := r } 0 P ops Q (o :: rest) a w := by
  refine wpListIn_step fun K hK => ?_
  rw [if_pos hgd]
  refine ⟨fun f _ => trivial, ?_⟩
  rw [Oper.semAt_eq _ _ _ hd, hrun]
  exact hK _ _ h

/-- append to what the call owns. -/
theorem app_list {ops : Array Oper} {rest : List Oper} {o : Oper} {a : Act} {Q : Exit → Act → World → Prop} {w : World} {s x : Operand} {t e : TypeId} {z : Value} {sz bytes base n m : Nat} {v sv : Value} {xs ys : List Value} (T : STy P t e z sz bytes)
    (hown : w.ownsRow base e sz v n xs) (hr : Rd w sz sv m ys) (h1 : ∀ u ∈ ys, u.oneCell' = true) (hb : (n + m) * bytes ≤ 140737488355328) (hm : n + m ≤ 9223372036854775807) (hbase : base ≤ w.heap.size)
    (hgd : Region.wanted o (yielded ops a.tmps) = true) (ho : o.op = .call { callee := .builtin .append, args := #[s, x], argTypes := #[t, t] }) (hs : a.eval s = v) (hx : a.eval x = sv)
    (h : ∀ v' w', w'.ownsRow base e sz v' (n + m) (xs ++ ys) → w.grownBy w' v.ownBlock → (v' = .slice none 0 0 ↔ v = .slice none 0 0 ∧ m = 0) → wpList P ops Q rest (a.put o.dst v') w') : wpList P ops Q (o :: rest) a w := by
  obtain ⟨v', w', hrun, h2, h3, h4⟩ := run_app (ty := o.type) T hown hr h1 hb hm hbase
  exact list_value hgd (exec_app ho hs hx hrun) (h v' w' h2 h3 h4)
theorem app_listIn {r : Option Nat} {ops : Array Oper} {rest : List Oper} {o : Oper} {a : Act} {Q : Exit → Act → World → Prop} {w : World} {s x : Operand} {t e : TypeId} {z : Value} {sz bytes base n m : Nat} {v sv : Value} {xs ys : List Value} (T : STy P t e z sz bytes)
    (hown : w.ownsRow base e sz v n xs) (hr : Rd w sz sv m ys) (h1 : ∀ u ∈ ys, u.oneCell' = true) (hb : (n + m) * bytes ≤ 140737488355328) (hm : n + m ≤ 9223372036854775807) (hbase : base ≤ w.heap.size)
    (hgd : Region.wanted o (yielded ops a.tmps) = true) (ho : o.op = .call { callee := .builtin .append, args := #[s, x], argTypes := #[t, t] }) (hs : a.eval s = v) (hx : a.eval x = sv)
    (h : ∀ v' w', w'.ownsRow base e sz v' (n + m) (xs ++ ys) → w.grownBy w' v.ownBlock → (v' = .slice none 0 0 ↔ v = .slice none 0 0 ∧ m = 0) → wpListIn { Fence.wide with round := r } 0 P ops Q rest (a.put o.dst v') w') : wpListIn { Fence.wide with round := r } 0 P ops Q (o :: rest) a w := by
  obtain ⟨v', w', hrun, h2, h3, h4⟩ := run_app (ty := o.type) T hown hr h1 hb hm hbase
  exact listIn_value hgd (fun c hc => by rw [ho] at hc; cases hc) (exec_app ho hs hx hrun) (h v' w' h2 h3 h4)

/-- make of nothing with room. -/
theorem make_list {ops : Array Oper} {rest : List Oper} {o : Oper} {a : Act} {Q : Exit → Act → World → Prop} {w : World} {x y : Operand} {t e : TypeId} {z : Value} {sz bytes base c : Nat} (T : STy P t e z sz bytes)
    (hgd : Region.wanted o (yielded ops a.tmps) = true) (ho : o.op = .makeSlice t x y) (hx : a.eval x = .int .i64 0) (hy : a.eval y = .int .i64 (c : Int)) (hb : bytes * c ≤ 281474976710656) (hm : c ≤ 9223372036854775807) (hbase : base ≤ w.heap.size)
    (h : ∀ w', w'.ownsRow base e sz (.slice (some ⟨w.heap.size, 0, none⟩) 0 c) 0 [] → w.grownBy w' none → wpList P ops Q rest (a.put o.dst (.slice (some ⟨w.heap.size, 0, none⟩) 0 c)) w') : wpList P ops Q (o :: rest) a w := by
  obtain ⟨i, hi, hz, hsz, hby⟩ := T.hi
  obtain ⟨w', hrun, h1, h2⟩ := run_make_own (P := P) w base t e i z sz T.ht hi hz hsz .i64 .i64 c (by rw [hby]; exact hb) (by unfold maxLen; omega) hbase
  refine list_value hgd ?_ (h w' h1 h2)
  simp [execOp, ho, hx, hy, hrun, Result.andThen]

/-- A block that was just laid. -/
theorem Rd.lit {w : World} {cs : Array Value} {e : TypeId} {n sz : Nat} (hs : cs.size = n * sz) (hn : n ≤ 9223372036854775807) : Rd (w.alloc (.cells cs e)) sz (.slice (some ⟨w.heap.size, 0, none⟩) n n) n cs.toList := by
  refine ⟨_, n, rfl, by simpa using hs, Nat.le_refl _, hn, .inr ⟨_, _, rfl, fun j u hj => ?_⟩⟩
  rw [World.cell?_alloc_at _ _ _ _ rfl]
  simpa using hj

theorem own_succ {w : World} {base e sz n : Nat} {v : Value} {xs : List Value} (h : w.ownsRow base e sz v (n + 1) xs) : ∃ g cap, v = .slice (some ⟨g, 0, none⟩) (n + 1) cap ∧ base ≤ g ∧ g < w.heap.size ∧ n + 1 ≤ cap ∧ cap ≤ 9223372036854775807 := by
  rcases h.2 with ⟨_, h0⟩ | ⟨g, cap, cur, rfl, hb, hg, hn, hm, _⟩
  · omega
  · exact ⟨g, cap, rfl, hb, (Array.getElem?_eq_some_iff.1 hg).1, hn, by unfold maxLen at hm; omega⟩

/-- Of a row that is owned a part from the front. -/
theorem Rd.own_take {w : World} {base e sz n m g cap : Nat} {xs : List Value} (h : w.ownsRow base e sz (.slice (some ⟨g, 0, none⟩) n cap) n xs) (hm : m ≤ n) : Rd w sz (.slice (some ⟨g, 0, none⟩) m cap) m (xs.take (m * sz)) := by
  have h' := Rd.of_own h
  obtain ⟨a, cap', hv, h0, h1, h2, h3⟩ := h'
  simp only [Value.slice.injEq] at hv
  obtain ⟨rfl, -, rfl⟩ := hv
  refine ⟨_, cap, rfl, ?_, by omega, h2, ?_⟩
  · rw [List.length_take, h0]; exact Nat.min_eq_left (Nat.mul_le_mul_right _ hm)
  · rcases h3 with h3 | ⟨b, off, ha, hc⟩
    · exact .inl h3
    · refine .inr ⟨b, off, ha, fun j u hj => hc j u ?_⟩
      rw [List.getElem?_take] at hj
      split at hj
      · exact hj
      · cases hj

/-! ### Bytes -/
def byteV (b : UInt8) : Value := .int .u8 b.toNat
def bvs (xs : List UInt8) : List Value := xs.map byteV
theorem bvs_one (xs : List UInt8) : ∀ u ∈ bvs xs, u.oneCell' = true := by
  intro u hu; obtain ⟨b, _, rfl⟩ := List.mem_map.1 hu; rfl
theorem bvs_length (xs : List UInt8) : (bvs xs).length = xs.length := by simp [bvs]
theorem bvs_get (xs : List UInt8) (i : Nat) (h : i < xs.length) : (bvs xs)[i]? = some (.int .u8 (bt xs i)) := by
  simp [bvs, byteV, bt, List.getD, List.getElem?_eq_getElem h]
theorem bvs_append (a b : List UInt8) : bvs (a ++ b) = bvs a ++ bvs b := by simp [bvs]

theorem Bytes.rd {w : World} {v : Value} {xs : List UInt8} (h : Bytes w v xs) : Rd w 1 v xs.length (bvs xs) := by
  obtain ⟨a, cap, rfl, h1, h2, h3⟩ := h
  refine ⟨a, cap, rfl, by rw [bvs_length]; omega, h1, h2, ?_⟩
  rcases h3 with h3 | ⟨b, off, ha, hc⟩
  · exact .inl h3
  · refine .inr ⟨b, off, ha, fun j u hj => ?_⟩
    have hlt : j < xs.length := by have := (List.getElem?_eq_some_iff.1 hj).1; rwa [bvs_length] at this
    rw [bvs_get xs j hlt] at hj
    cases hj
    exact hc j hlt
theorem Rd.bytes {w : World} {v : Value} {xs : List UInt8} (h : Rd w 1 v xs.length (bvs xs)) : Bytes w v xs := by
  obtain ⟨a, cap, rfl, h0, h1, h2, h3⟩ := h
  refine ⟨a, cap, rfl, h1, h2, ?_⟩
  rcases h3 with h3 | ⟨b, off, ha, hc⟩
  · exact .inl h3
  · exact .inr ⟨b, off, ha, fun i hi => hc i _ (bvs_get xs i hi)⟩
theorem Bytes.of_own {w : World} {base : Nat} {e : TypeId} {v : Value} {xs : List UInt8} (h : w.ownsRow base e 1 v xs.length (bvs xs)) : Bytes w v xs := (Rd.of_own h).bytes

/-- []byte to string. -/
def bstr (xs : List UInt8) : ByteArray := ⟨xs.toArray⟩
theorem bstr_toList (xs : List UInt8) : (bstr xs).toList = xs := by rw [ByteArray.toList_eq]; simp [bstr]
theorem run_bytes_str {w : World} {v : Value} {xs : List UInt8} {src e dst : TypeId} (hs : P.underlying src = some (.slice e)) (he : P.underlying e = some (.int .u8)) (hd : P.underlying dst = some .string) (h : Bytes w v xs) :
    (convert src dst v).run P w = .ok (.string (bstr xs)) w := by
  obtain ⟨a, cap, rfl, h1, h2, h3⟩ := h
  rw [run_convert_bytes_string w src dst e _ _ _ hs he hd]
  have hfold : ∀ (l : List UInt8) (s : ByteArray), ((l.map fun b => (b.toNat : Int)).foldl (fun r n => r.push (UInt8.ofNat n.toNat)) s) = ⟨(s.data.toList ++ l).toArray⟩ := by
    intro l
    induction l with
    | nil => intro s; simp
    | cons b l ih =>
      intro s
      simp only [List.map_cons, List.foldl_cons]
      rw [ih]
      simp [ByteArray.push]
  rcases h3 with rfl | ⟨b, off, rfl, hc⟩
  · obtain rfl : xs = [] := List.eq_nil_of_length_eq_zero (by omega)
    cases a with
    | some x =>
      show (Conv.bytesToString (.slice (some x) 0 0)).run P w = _
      rw [run_bytesToString (P := P) w x 0 0 [] (run_loadCells_list (P := P) w x [] (fun j u hj => by simp at hj))]
      rfl
    | none =>
    simp [Conv.bytesToString, bstr]
    rfl
  · have hl : (loadCells ⟨b, off, none⟩ xs.length).run P w = .ok ((xs.map fun b => (b.toNat : Int)).map (Value.int .u8)).toArray w := by
      have := run_loadCells_list (P := P) (w := w) ⟨b, off, none⟩ (bvs xs) (fun j u hj => by
        rw [add_off]
        have hlt : j < xs.length := by have := (List.getElem?_eq_some_iff.1 hj).1; rwa [bvs_length] at this
        rw [bvs_get xs j hlt] at hj
        cases hj
        exact hc j hlt)
      rw [bvs_length] at this
      rw [this]
      simp [bvs, byteV, Function.comp_def]
    rw [run_bytesToString w _ _ _ _ hl, hfold]
    simp [bstr]
end Go.Proofs.Ytpmkepmnldkccaa
