/- From a reading of an argument as data to what the mail's walks ask: messages, whole numbers. -/
import Derived.Test.YtpmkepmnldkccaaTop
import Derived.Test.YtpmkepmnldkccaaMail01
namespace Go.Proofs.Ytpmkepmnldkccaa
open Go.RowKit Go.ChangeShapes Go.WideShapes Go.ChangeAt

instance : Inhabited Ent := ⟨⟨0, 0, .slice none 0 0, []⟩⟩

/-- A cell of a row of messages, by its place. -/
theorem flat_cell (es : List Ent) (j : Nat) (u : Value) (h : (flat es)[j]? = some u) : ∃ i, ∃ hi : i < es.length, (j = i * 3 ∧ u = .int .i64 es[i].f) ∨ (j = i * 3 + 1 ∧ u = .int .i64 es[i].t) ∨ (j = i * 3 + 2 ∧ u = es[i].dv) := by
  have hj : j < es.length * 3 := by have := (List.getElem?_eq_some_iff.1 h).1; rwa [flat_length] at this
  have hi : j / 3 < es.length := by omega
  obtain ⟨x, y, z⟩ := flat_get es (j / 3) hi
  refine ⟨j / 3, hi, ?_⟩
  rcases (show j = j / 3 * 3 ∨ j = j / 3 * 3 + 1 ∨ j = j / 3 * 3 + 2 from by omega) with e | e | e
  · left; rw [← e, h] at x; exact ⟨e, Option.some.inj x⟩
  · right; left; rw [← e, h] at y; exact ⟨e, Option.some.inj y⟩
  · right; right; rw [← e, h] at z; exact ⟨e, Option.some.inj z⟩

/-- one message, from its three cells -/
theorem cells_mail {H : Type} {enc : TypeId × Value → H} {W : World} {held : Bool} {fuel : Nat} {cs : List Value} {y : DataW H × List MemPlace}
    (hf : DataW.trod enc Try.prog W 0 (fun _ => true) held fuel 32 cs = some y) : ∃ e : Ent, cs = e.cells ∧ Bytes W e.dv e.data ∧ (-9223372036854775808 ≤ e.f ∧ e.f ≤ 9223372036854775807) ∧ (-9223372036854775808 ≤ e.t ∧ e.t ≤ 9223372036854775807) := by
  obtain ⟨xs, n, -, -, hl, hxl, hx⟩ := DataW.trod_struct Try.underlying32 hf
  have hl3 : cs.length = 3 := hl.trans (by kernel_rfl)
  have hc : Try.prog.cellsOf 3 = 1 := by kernel_rfl
  have hc2 : Try.prog.cellsOf 30 = 1 := by kernel_rfl
  match cs, hl3 with
  | [v0, v1, v2], _ =>
    have h0 : DataW.trod enc Try.prog W 0 (fun _ => true) held n 3 (([v0, v1, v2].drop 0).take (Try.prog.cellsOf 3)) = xs[0]? := hx 0 _ rfl
    have h1 : DataW.trod enc Try.prog W 0 (fun _ => true) held n 3 (([v0, v1, v2].drop 1).take (Try.prog.cellsOf 3)) = xs[1]? := hx 1 _ rfl
    have h2 : DataW.trod enc Try.prog W 0 (fun _ => true) held n 30 (([v0, v1, v2].drop 2).take (Try.prog.cellsOf 30)) = xs[2]? := hx 2 _ rfl
    simp only [hc, hc2, List.drop_zero, List.drop_succ_cons, List.take_succ_cons, List.take_zero] at h0 h1 h2
    have hs : ∀ i, i < 3 → ∃ z, xs[i]? = some z := fun i hi => by
      have : i < xs.length := by rw [hxl]; exact hi
      exact ⟨_, List.getElem?_eq_getElem this⟩
    obtain ⟨z0, e0⟩ := hs 0 (by omega)
    obtain ⟨z1, e1⟩ := hs 1 (by omega)
    obtain ⟨z2, e2⟩ := hs 2 (by omega)
    rw [e0] at h0
    rw [e1] at h1
    rw [e2] at h2
    obtain ⟨a, ha, -, wa⟩ := DataW.trod_int Try.underlying3 h0
    obtain ⟨b, hb, -, wb⟩ := DataW.trod_int Try.underlying3 h1
    obtain ⟨v, d, hv, hd, -, -⟩ := cells_bytes h2
    cases ha
    cases hb
    cases hv
    exact ⟨⟨a, b, _, d⟩, rfl, hd, Go.bounds_i64 wa, Go.bounds_i64 wb⟩

/-- []api.Mail, as a cell -/
theorem cells_mails {H : Type} {enc : TypeId × Value → H} {W : World} {held : Bool} {fuel : Nat} {cs : List Value} {y : DataW H × List MemPlace}
    (hf : DataW.trod enc Try.prog W 0 (fun _ => true) held fuel 22 cs = some y) : ∃ v ss, cs = [v] ∧ Rd W 3 v ss.length (flat ss) ∧ Reads W ss ∧ (∀ e ∈ ss, (-9223372036854775808 ≤ e.f ∧ e.f ≤ 9223372036854775807) ∧ (-9223372036854775808 ≤ e.t ∧ e.t ≤ 9223372036854775807)) ∧ ss.length + 1 ≤ Rows.uptoBulk y.1 := by
  have hc3 : Try.prog.cellsOf 32 = 3 := by kernel_rfl
  rcases Go.Deep.open_slice Try.underlying22 hf with ⟨rfl, rfl⟩ | ⟨a, len, cap, m, n, D, Pl, rfl, -, hl, hm, hmm, rfl, hx⟩
  · exact ⟨_, [], rfl, Rd.nil W 3, fun e he => by simp at he, fun e he => by simp at he, by simp [Rows.uptoBulk]⟩
  · simp only [if_true] at hmm
    subst hmm
    rw [hc3] at hx
    have hex : ∀ i, i < m → ∃ e : Ent, ((W.cell? (a.add (i * 3)) = some (.int .i64 e.f) ∧ W.cell? (a.add (i * 3 + 1)) = some (.int .i64 e.t) ∧ W.cell? (a.add (i * 3 + 2)) = some e.dv) ∧ Bytes W e.dv e.data) ∧ (-9223372036854775808 ≤ e.f ∧ e.f ≤ 9223372036854775807) ∧ (-9223372036854775808 ≤ e.t ∧ e.t ≤ 9223372036854775807) := by
      intro i hi
      obtain ⟨cs', h1, h2⟩ := hx i hi
      obtain ⟨_, hlen, hcell⟩ := World.cells?_some h1
      obtain ⟨e, rfl, hb, hf, ht⟩ := cells_mail h2
      have e0 := hcell 0 (by omega)
      have e1 := hcell 1 (by omega)
      have e2 := hcell 2 (by omega)
      rw [Go.Deep.add_add] at e0 e1 e2
      exact ⟨e, ⟨⟨e0, e1, e2⟩, hb⟩, hf, ht⟩
    obtain ⟨F, hF⟩ := Go.Deep.choose_lt hex
    have hget : ∀ i (hi : i < ((List.range len).map F).length), ((List.range len).map F)[i] = F i := fun i hi => by simp
    refine ⟨_, (List.range len).map F, rfl, ⟨some a, m, by simp, flat_length _, by simpa using hl, by unfold maxLen at hm; omega, ?_⟩, ?_, ?_, ?_⟩
    · by_cases h0 : m = 0
      · exact .inl h0
      · have hs := addr_spot (a := a) (v := .int .i64 (F 0).f) (by have := (hF 0 (by omega)).1.1.1; simpa using this)
        refine .inr ⟨a.block, a.off, by rw [← hs], fun j u hj => ?_⟩
        obtain ⟨i, hi, h⟩ := flat_cell _ j u hj
        rw [hget i hi] at h
        have hil : i < len := by simpa using hi
        obtain ⟨⟨c0, c1, c2⟩, -⟩ := (hF i (by omega)).1
        rw [hs, add_off] at c0 c1 c2
        rcases h with ⟨rfl, rfl⟩ | ⟨rfl, rfl⟩ | ⟨rfl, rfl⟩
        · exact c0
        · rw [← Nat.add_assoc] at c1 ⊢; exact c1
        · rw [← Nat.add_assoc] at c2 ⊢; exact c2
    · intro e he
      obtain ⟨i, hi, rfl⟩ := List.mem_map.1 he
      exact (hF i (by have := List.mem_range.1 hi; omega)).1.2
    · intro e he
      obtain ⟨i, hi, rfl⟩ := List.mem_map.1 he
      exact (hF i (by have := List.mem_range.1 hi; omega)).2
    · have h1 := bulk_all ((List.range len).map D)
      simp only [Rows.uptoBulk, List.length_map, List.length_range] at h1 ⊢
      omega

/-- []api.Mail -/
theorem open_mails {H : Type} {enc : TypeId × Value → H} {W : World} {B : Nat} {held : Bool} {v : Value} {d : DataW H} {p : List MemPlace}
    (ok : Value.okWide Try.prog W .any B 22 v) (h : DataW.Trod enc Try.prog W 0 (fun _ => true) held 22 v d p) : ∃ ss, Rd W 3 v ss.length (flat ss) ∧ Reads W ss ∧ (∀ e ∈ ss, (-9223372036854775808 ≤ e.f ∧ e.f ≤ 9223372036854775807) ∧ (-9223372036854775808 ≤ e.t ∧ e.t ≤ 9223372036854775807)) ∧ ss.length + 1 ≤ Rows.uptoBulk d := by
  obtain ⟨a, len, cap, rfl⟩ := okWide_slice Try.underlying22 ok
  obtain ⟨fuel, hf⟩ := h
  obtain ⟨v, ss, hcs, h1, h2, h3, h4⟩ := cells_mails hf
  simp [Value.cells] at hcs
  subst hcs
  exact ⟨ss, h1, h2, h3, h4⟩

/-- Whole numbers in a row. -/
def ints (ns : List Int) : List Value := ns.map (Value.int .i64)
theorem ints_get (ns : List Int) (i : Nat) (hi : i < ns.length) : (ints ns)[i]? = some (.int .i64 ns[i]) := by simp [ints, hi]
/-- []int -/
theorem open_intsl {H : Type} {enc : TypeId × Value → H} {W : World} {B : Nat} {held : Bool} {v : Value} {d : DataW H} {p : List MemPlace}
    (ok : Value.okWide Try.prog W .any B 23 v) (h : DataW.Trod enc Try.prog W 0 (fun _ => true) held 23 v d p) : ∃ ns : List Int, Rd W 1 v ns.length (ints ns) ∧ (∀ n ∈ ns, -9223372036854775808 ≤ n ∧ n ≤ 9223372036854775807) ∧ ns.length + 1 ≤ Rows.uptoBulk d := by
  obtain ⟨a, len, cap, rfl⟩ := okWide_slice Try.underlying23 ok
  obtain ⟨fuel, hf⟩ := h
  rcases open_ints Try.underlying23 Try.underlying3 (by kernel_rfl) hf with ⟨hcs, he⟩ | ⟨x, len', cap', zs, hcs, _, hl, hm, hz, he, hcell, hwz⟩
  · simp [Value.cells] at hcs
    obtain ⟨rfl, rfl, rfl⟩ := hcs
    obtain ⟨rfl, rfl⟩ := Prod.mk.inj he
    exact ⟨[], Rd.nil W 1, fun n hn => by simp at hn, by simp [Rows.uptoBulk]⟩
  · simp [Value.cells] at hcs
    obtain ⟨rfl, rfl, rfl⟩ := hcs
    obtain ⟨rfl, rfl⟩ := Prod.mk.inj he
    simp only [if_true] at hz
    have htl : (zs.take len).length = len := by simp; omega
    refine ⟨zs.take len, ⟨some x, cap, by rw [htl], by rw [ints, List.length_map]; omega, by omega, by unfold maxLen at hm; omega, ?_⟩, fun n hn => Go.bounds_i64 (hwz n (List.mem_of_mem_take hn)), ?_⟩
    · by_cases h0 : cap = 0
      · exact .inl h0
      · have hs := addr_spot (hcell 0 (by omega))
        refine .inr ⟨x.block, x.off, by rw [← hs], fun j u hj => ?_⟩
        have hjl : j < (zs.take len).length := by have := (List.getElem?_eq_some_iff.1 hj).1; simpa [ints] using this
        rw [ints_get _ j hjl] at hj
        have := hcell j (by omega)
        rw [hs, add_off] at this
        rw [this, ← Option.some.inj hj]
        congr 2
        rw [List.getElem_take, List.getD_eq_getElem?_getD, List.getElem?_eq_getElem (by omega)]
        rfl
    · rw [htl]
      have h1 := bulk_all (lits .i64 (zs.take len) : List (DataW H))
      have h2 : (lits .i64 (zs.take len) : List (DataW H)).length = len := by simp [lits]; omega
      simp only [Rows.uptoBulk]
      omega
end Go.Proofs.Ytpmkepmnldkccaa
