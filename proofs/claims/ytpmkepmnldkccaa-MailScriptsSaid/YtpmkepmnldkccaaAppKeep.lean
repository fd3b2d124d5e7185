/- append to a row that the call owns: the slice that was appended to reads what it read. No program in sight. -/
import Derived.Test.YtpmkepmnldkccaaOwn
import Derived.Deep.AppendLies
namespace Go.Proofs.Ytpmkepmnldkccaa
open Go.RowKit
variable {P : Program}

theorem own_prefix {w : World} {base : Nat} {e : TypeId} {sz n m g cap : Nat} {xs ys : List Value} (h : w.ownsRow base e sz (.slice (some ⟨g, 0, none⟩) (n + m) cap) (n + m) (xs ++ ys)) (hx : xs.length = n * sz) : w.ownsRow base e sz (.slice (some ⟨g, 0, none⟩) n cap) n xs := by
  refine ⟨hx, .inr ?_⟩
  rcases h.2 with ⟨h', -⟩ | ⟨g', cap', cur, h', hb, hg, hnc, hcm, hcs, htake⟩
  · simp at h'
  · simp only [Value.slice.injEq, Option.some.injEq, Addr.mk.injEq, and_true, true_and] at h'
    obtain ⟨rfl, rfl⟩ := h'
    refine ⟨g, cap, cur, rfl, hb, hg, by omega, hcm, hcs, ?_⟩
    have e1 : (cur.toList.take ((n + m) * sz)).take (n * sz) = cur.toList.take (n * sz) := by rw [List.take_take, Nat.min_eq_left (Nat.mul_le_mul_right _ (by omega))]
    have e2 : (xs ++ ys).take (n * sz) = xs := by rw [← hx]; simp
    rw [← e1, htake, e2]

theorem run_app_keeps {w : World} {t e ty : TypeId} {z : Value} {sz bytes base n m g cap : Nat} {sv : Value} {xs ys : List Value} (T : STy P t e z sz bytes)
    (hown : w.ownsRow base e sz (.slice (some ⟨g, 0, none⟩) n cap) n xs) (hr : Rd w sz sv m ys) (h1 : ∀ u ∈ ys, u.oneCell' = true) (hm0 : 0 < m) (hb : (n + m) * bytes ≤ 140737488355328) (hm : n + m ≤ 9223372036854775807) (hbase : base ≤ w.heap.size) :
    ∃ g' cap' w', (Builtin.append_ #[t, t] ty #[.slice (some ⟨g, 0, none⟩) n cap, sv]).run P w = .ok (.slice (some ⟨g', 0, none⟩) (n + m) cap') w' ∧
      w'.ownsRow base e sz (.slice (some ⟨g', 0, none⟩) (n + m) cap') (n + m) (xs ++ ys) ∧ w'.ownsRow base e sz (.slice (some ⟨g, 0, none⟩) n cap) n xs ∧ w.grownBy w' (some g) ∧ ((g' = g ∧ cap' = cap) ∨ w.heap.size ≤ g') := by
  obtain ⟨i, hi, hz, hsz, hby⟩ := T.hi
  obtain ⟨a, scap, rfl, hl, hle, hcap, hc⟩ := hr
  rcases hc with hc | ⟨b, off, rfl, hc⟩
  · omega
  have hc' : ∀ j u, ys[j]? = some u → w.cell? ((⟨b, off, none⟩ : Addr).add j) = some u := fun j u hj => by rw [add_off]; exact hc j u hj
  by_cases hroom : n + m ≤ cap
  · obtain ⟨w', hrun, h2, h3⟩ := run_append_fits (P := P) w base t ty e i sz T.ht hi hsz g n cap xs hown ⟨b, off, none⟩ m scap ys hl hc' h1 hroom
    exact ⟨g, cap, w', hrun, h2, own_prefix h2 hown.1, h3, .inl ⟨rfl, rfl⟩⟩
  · obtain ⟨g', cap', w', hrun, h2, h3, h4, h5⟩ := run_append_lies (P := P) w t ty base e i z sz bytes T.ht hi hz hsz hby T.hz T.pos _ n xs hown ⟨b, off, none⟩ m scap ys hl hc' h1 hm0 (by unfold maxLen; omega) hb hbase _ rfl
    have hg := run_append_grow (P := P) w t ty e i z T.ht hi hz ⟨g, 0, none⟩ n cap xs (by rw [hsz]; exact hown.1) (fun j u hu => by rw [add_off, Nat.zero_add]; have := World.ownsRow.cells hown rfl j u hu; rwa [add_off, Nat.zero_add] at this)
      ⟨b, off, none⟩ m scap ys (by rw [hsz]; exact hl) hc' (by omega) (by omega) (growslice_fits (by omega) (by rw [hby]; exact hb))
    rw [hrun] at hg
    simp only [Result.ok.injEq, Value.slice.injEq, Option.some.injEq, Addr.mk.injEq, and_true, true_and] at hg
    obtain ⟨⟨rfl, rfl⟩, rfl⟩ := hg
    refine ⟨_, _, _, hrun, h2, ?_, h3, .inr (Nat.le_refl _)⟩
    refine World.ownsRow.alloc ?_ _
    exact hown.kept (row := none) ⟨rfl, rfl, rfl, Nat.le_refl _, fun _ _ _ => rfl⟩ (.inr (by simp [Value.ownBlock]))

/-- append to what the call owns or to nil, told what the walk wants. -/
theorem app_keep {ops : Array Oper} {rest : List Oper} {o : Oper} {a : Act} {Q : Exit → Act → World → Prop} {w : World} {s x : Operand} {t e : TypeId} {z : Value} {sz bytes base n m : Nat} {v sv : Value} {xs ys : List Value} (T : STy P t e z sz bytes)
    (hown : w.ownsRow base e sz v n xs) (hr : Rd w sz sv m ys) (h1 : ∀ u ∈ ys, u.oneCell' = true) (hm0 : 0 < m) (hb : (n + m) * bytes ≤ 140737488355328) (hm : n + m ≤ 9223372036854775807) (hbase : base ≤ w.heap.size)
    (hgd : Region.wanted o (yielded ops a.tmps) = true) (ho : o.op = .call { callee := .builtin .append, args := #[s, x], argTypes := #[t, t] }) (hs : a.eval s = v) (hx : a.eval x = sv)
    (h : ∀ g cap w', w'.ownsRow base e sz (.slice (some ⟨g, 0, none⟩) (n + m) cap) (n + m) (xs ++ ys) → w'.ownsRow base e sz v n xs → w.grownBy w' v.ownBlock → ((∃ k c, v = .slice (some ⟨g, 0, none⟩) k c ∧ cap = c) ∨ w.heap.size ≤ g) → wpList P ops Q rest (a.put o.dst (.slice (some ⟨g, 0, none⟩) (n + m) cap)) w') : wpList P ops Q (o :: rest) a w := by
  rcases hown.2 with ⟨rfl, h0⟩ | ⟨g, cap, cur, rfl, -⟩
  · subst h0
    obtain ⟨i, hi, hz, hsz, hby⟩ := T.hi
    obtain ⟨a', scap, rfl, hl, hle, hcap, hc⟩ := hr
    rcases hc with hc | ⟨b, off, rfl, hc⟩
    · omega
    obtain ⟨g, cap, w', hrun, h2, h3, h4, h5⟩ := run_append_lies (P := P) w t o.type base e i z sz bytes T.ht hi hz hsz hby T.hz T.pos _ 0 xs hown ⟨b, off, none⟩ m scap ys hl (fun j u hj => by rw [add_off]; exact hc j u hj) h1 hm0 (by unfold maxLen; omega) hb hbase _ rfl
    refine list_value hgd (exec_app ho hs hx hrun) (h g cap w' h2 ⟨hown.1, .inl ⟨rfl, rfl⟩⟩ h3 (.inr ?_))
    rcases h4 with h4 | h4
    · simp [Value.ownBlock] at h4
    · omega
  · obtain ⟨g', cap', w', hrun, h2, h3, h4, h5⟩ := run_app_keeps (ty := o.type) T hown hr h1 hm0 hb hm hbase
    refine list_value hgd (exec_app ho hs hx hrun) (h g' cap' w' h2 h3 h4 ?_)
    rcases h5 with ⟨rfl, rfl⟩ | h5
    · exact .inl ⟨_, _, rfl, rfl⟩
    · exact .inr h5
end Go.Proofs.Ytpmkepmnldkccaa
