/- copy between rows, what stands behind an owned row, append of zeros: no program in sight. -/
import Derived.Test.YtbelhdnbmkemjaaAppKeep
import Derived.Lib.AppendZerosOnto
import Derived.Lib.Overlaps
namespace Go.Proofs.Ytbelhdnbmkemjaa
open Go.RowKit Go.Lib
variable {P : Program}

/-- xs with vs written from place o on. -/
def writeL : List Value → Nat → List Value → List Value
  | xs, _, [] => xs
  | xs, o, v :: r => writeL (xs.set o v) (o + 1) r
theorem writeL_length : ∀ (vs xs : List Value) (o : Nat), (writeL xs o vs).length = xs.length
  | [], _, _ => rfl
  | v :: r, xs, o => by rw [writeL, writeL_length r]; simp
theorem writeL_eq : ∀ (vs xs : List Value) (o : Nat), o + vs.length ≤ xs.length → writeL xs o vs = xs.take o ++ vs ++ xs.drop (o + vs.length)
  | [], xs, o, _ => by simp [writeL]
  | v :: r, xs, o, h => by
    rw [List.length_cons] at h
    rw [writeL, writeL_eq r (xs.set o v) (o + 1) (by simp; omega)]
    have h1 : (xs.set o v).take (o + 1) = xs.take o ++ [v] := by
      rw [List.take_set, List.take_succ_eq_append_getElem (by omega), List.set_append_right _ _ (by simp; omega)]
      simp [Nat.min_eq_left (by omega : o ≤ xs.length)]
    have h2 : (xs.set o v).drop (o + 1 + r.length) = xs.drop (o + (v :: r).length) := by
      rw [List.drop_set_of_lt (by omega), List.length_cons]
      congr 1
      omega
    rw [h1, h2]
    simp

theorem own_write {base g n cap sz : Nat} {e : TypeId} : ∀ (vs : List Value) (o : Nat) (w : World) (xs : List Value), w.ownsRow base e sz (.slice (some ⟨g, 0, none⟩) n cap) n xs →
    (w.setCells g o vs).ownsRow base e sz (.slice (some ⟨g, 0, none⟩) n cap) n (writeL xs o vs) ∧ w.grownBy (w.setCells g o vs) (some g)
  | [], _, _, _, h => ⟨h, ⟨rfl, rfl, rfl, Nat.le_refl _, fun _ _ _ => rfl⟩⟩
  | v :: r, o, w, xs, h => by
    have h1 := World.ownsRow.stored h o v
    have h2 := own_write r (o + 1) _ _ h1.1
    exact ⟨h2.1, h1.2.trans h2.2⟩

/-- The row with one more of what stands behind it. -/
theorem own_extend {w : World} {base g n m cap sz : Nat} {e : TypeId} {xs : List Value} (h : w.ownsRow base e sz (.slice (some ⟨g, 0, none⟩) n cap) n xs) (hm : n + m ≤ cap) :
    ∃ tl, tl.length = m * sz ∧ w.ownsRow base e sz (.slice (some ⟨g, 0, none⟩) (n + m) cap) (n + m) (xs ++ tl) := by
  rcases h.2 with ⟨h', -⟩ | ⟨g', cap', cur, h', hb, hg, hnc, hcm, hcs, htake⟩
  · simp at h'
  · simp only [Value.slice.injEq, Option.some.injEq, Addr.mk.injEq, and_true, true_and] at h'
    obtain ⟨rfl, rfl⟩ := h'
    have hle : (n + m) * sz ≤ cap * sz := Nat.mul_le_mul_right _ hm
    have hl : cur.toList.length = cap * sz := by simpa using hcs
    have hn : n * sz + m * sz = (n + m) * sz := by rw [Nat.add_mul]
    have e1 : cur.toList.take ((n + m) * sz) = xs ++ (cur.toList.drop (n * sz)).take (m * sz) := by
      rw [← hn, List.take_add, htake]
    refine ⟨(cur.toList.drop (n * sz)).take (m * sz), by rw [List.length_take, List.length_drop, hl]; omega, ?_, .inr ⟨g, cap, cur, rfl, hb, hg, hm, hcm, hcs, e1⟩⟩
    rw [List.length_append, h.1, List.length_take, List.length_drop, hl]
    omega

theorem own_there' {w : World} {base g n cap sz : Nat} {e : TypeId} {xs : List Value} (h : w.ownsRow base e sz (.slice (some ⟨g, 0, none⟩) n cap) n xs) (j : Nat) (hj : j < cap * sz) : (w.cell? ⟨g, j, none⟩).isSome = true := by
  rcases h.2 with ⟨h', _⟩ | ⟨g', cap', cur, h', _, hg, _, _, hcs, _⟩
  · simp at h'
  · simp only [Value.slice.injEq, Option.some.injEq, Addr.mk.injEq, and_true, true_and] at h'
    obtain ⟨rfl, rfl⟩ := h'
    simp only [World.cell?, hg]
    simp [hcs, hj]
theorem own_shape {w : World} {base g n cap sz : Nat} {e : TypeId} {xs : List Value} (h : w.ownsRow base e sz (.slice (some ⟨g, 0, none⟩) n cap) n xs) : w.shape? g = some (e, cap * sz) := by
  rcases h.2 with ⟨h', _⟩ | ⟨g', cap', cur, h', _, hg, _, _, hcs, _⟩
  · simp at h'
  · simp only [Value.slice.injEq, Option.some.injEq, Addr.mk.injEq, and_true, true_and] at h'
    obtain ⟨rfl, rfl⟩ := h'
    simp [World.shape?, hg, hcs]

/-- copy(d, s) of elements of sz cells. -/
theorem run_copy_k (w : World) {dT sT ty elem : TypeId} {b o dLen dCap : Nat} {a : Addr} {sLen sCap sz n : Nat} {cs : List Value} {z : Value} {bytes : Nat} (T : STy P dT elem z sz bytes) (hn : Nat.min sLen dLen = n) (hcl : cs.length = n * sz)
    (hsrc : ∀ j v, cs[j]? = some v → w.cell? (a.add j) = some v) (hc : ∀ j, j < cs.length → (w.cell? ⟨b, o + j, none⟩).isSome = true) (hf : ∀ j, j < cs.length → w.frozen? ⟨b, o + j, none⟩ = false) (h1 : ∀ v ∈ cs, v.oneCell' = true) :
    (Builtin.copy_ #[dT, sT] ty #[.slice (some ⟨b, o, none⟩) dLen dCap, .slice (some a) sLen sCap]).run P w = .ok (goInt n) (w.setCells b o cs) := by
  have hl := run_loadCells_list (P := P) w a cs hsrc
  have hst := run_storeCells_cells (P := P) b o cs 0 w (by simpa using hc) (by simpa using hf) h1
  obtain ⟨i, hi, -, hs, -⟩ := T.hi
  rw [hcl] at hl
  simp [Builtin.copy_, run_underlying T.ht, Builtin.lenOf, Builtin.firstCells, sizeOf, typeInfo, hi, hs, hn, hl, hst]

theorem exec_copy {o : Oper} {a : Act} {w w' : World} {s x : Operand} {t : TypeId} {v sv v' : Value} (ho : o.op = .call { callee := .builtin .copy, args := #[s, x], argTypes := #[t, t] }) (hs : a.eval s = v) (hx : a.eval x = sv)
    (hrun : (Builtin.copy_ #[t, t] o.type #[v, sv]).run P w = .ok v' w') : (execOp a.eval o).run P w = .ok (.value v') w' := by
  simp [execOp, ho, resolve, invoke, builtin, hs, hx, hrun, Result.andThen]
theorem exec_appz {o : Oper} {a : Act} {w w' : World} {s x : Operand} {t t' : TypeId} {v sv v' : Value} (ho : o.op = .call { callee := .builtin .append, args := #[s, x], argTypes := #[t, t'] }) (hs : a.eval s = v) (hx : a.eval x = sv)
    (hrun : (Builtin.append_ #[t, t'] o.type #[v, sv]).run P w = .ok v' w') : (execOp a.eval o).run P w = .ok (.value v') w' := by
  simp [execOp, ho, resolve, invoke, builtin, hs, hx, hrun, Result.andThen]

/-- append(s[:i], make([]T, k)...) where there is no room: a new row. -/
theorem run_app_zeros {w : World} {t tn ty e : TypeId} {z : Value} {sz bytes base i k g cap n : Nat} {cs : List Value} {kn : IntKind} (T : STy P t e z sz bytes) (htn : P.underlying tn = some (.int kn)) (hown : w.ownsRow base e sz (.slice (some ⟨g, 0, none⟩) n cap) n cs)
    (hin : i ≤ n) (hk : 0 < k) (hroom : cap < i + k) (hbig : (i + k) * bytes ≤ 140737488355328) (h63 : i + k ≤ 9223372036854775807) :
    ∃ c w' zs, zs.length = k * sz ∧ i + k ≤ c ∧ c ≤ 9223372036854775807 ∧ (Builtin.append_ #[t, tn] ty #[.slice (some ⟨g, 0, none⟩) i cap, .int .i64 k]).run P w = .ok (.slice (some ⟨w.heap.size, 0, none⟩) (i + k) c) w' ∧
      w'.ownsRow w.heap.size e sz (.slice (some ⟨w.heap.size, 0, none⟩) (i + k) c) (i + k) (cs.take (i * sz) ++ zs) ∧ Below w.heap.size w w' := by
  obtain ⟨i0, hi, hz, hsz, hby⟩ := T.hi
  have hcl : cs.length = n * sz := hown.1
  have hle : i * sz ≤ n * sz := Nat.mul_le_mul_right _ hin
  have htl : (cs.take (i * sz)).length = i * sz := by rw [List.length_take]; omega
  have hold : (Builtin.firstCells i0.size i (.slice (some ⟨g, 0, none⟩) i cap)).run P w.drew = .ok (cs.take (i * sz)).toArray w.drew := by
    rw [hsz]
    refine run_firstCells_some w.drew sz i ⟨g, 0, none⟩ i cap (cs.take (i * sz)) htl (fun j v hj => ?_)
    rw [List.getElem?_take] at hj
    split at hj
    · have := World.ownsRow.cells hown rfl _ _ hj
      rw [add_off] at this ⊢
      exact this
    · cases hj
  have hfit := growslice_fits (need := i + k) (old := cap) (bytes := i0.bytes) hroom (by rw [hby]; exact hbig)
  have hkb : k * i0.bytes ≤ 281474976710656 := by
    have := Nat.mul_le_mul_right bytes (show k ≤ i + k by omega)
    rw [hby]
    omega
  have h := run_append_grow_zeros (P := P) w t tn ty e i0 z .i64 kn T.ht htn hi hz (some ⟨g, 0, none⟩) i cap (cs.take (i * sz)) hold k hk (by rw [hsz]; exact T.pos) hroom (by omega) hkb hfit
  have hge := grownCap_ge w (i + k) cap e
  have hmx := grownCap_le_maxLen w (i + k) cap e (by unfold maxLen; omega)
  have hmx' : grownCap w (i + k) cap e ≤ 9223372036854775807 := by unfold maxLen at hmx; omega
  have hzl : ∀ q, (Builtin.zeroCells z.cells q).size = q * sz := fun q => by simp [Builtin.zeroCells, T.hz]
  refine ⟨_, _, (Builtin.zeroCells z.cells k).toList, by simpa using hzl k, hge, hmx', h, ⟨?_, .inr ⟨w.heap.size, _, _, rfl, Nat.le_refl _, heap_alloc_new w.drew _, hge, hmx, ?_, ?_⟩⟩, ?_⟩
  · rw [List.length_append, htl]
    simp only [Array.length_toList, hzl]
    rw [Nat.add_mul]
  · simp only [Array.size_append, hzl, List.size_toArray, htl]
    rw [← Nat.add_mul, ← Nat.add_mul]
    congr 1
    omega
  · have e1 : (cs.take (i * sz)).length + (Builtin.zeroCells z.cells k).toList.length = (i + k) * sz := by
      rw [htl]; simp only [Array.length_toList, hzl]; rw [Nat.add_mul]
    simp only [Array.toList_append]
    exact List.take_left' (by rw [List.length_append]; exact e1)
  · exact ((Below.refl w.heap.size w).drew).alloc (Nat.le_refl _) _
end Go.Proofs.Ytbelhdnbmkemjaa
