/- Layer 5: All walked: a range over the messages on their way. -/
import Derived.Test.YtpmkepmnldkccaaMail05
namespace Go.Proofs.Ytpmkepmnldkccaa
open Go.RowKit Go.Shelf
attribute [local go_sem] Oper.semAt_some

/-- Messages and bytes lie as they lay. -/
structure KeptT (w w' : World) : Prop where
  size : w.heap.size ≤ w'.heap.size
  cells : ∀ (j : Nat) (c : Array Value) (e : TypeId) (fz : Nat × Nat), w.heap[j]? = some (.cells c e fz) → (e = 32 ∨ e = 5) → w'.heap[j]? = some (.cells c e fz)
theorem KeptT.refl (w : World) : KeptT w w := ⟨Nat.le_refl _, fun _ _ _ _ h _ => h⟩
theorem KeptT.trans {a b c : World} (h : KeptT a b) (k : KeptT b c) : KeptT a c := ⟨Nat.le_trans h.size k.size, fun j x e fz hj he => k.cells j x e fz (h.cells j x e fz hj he) he⟩
theorem KeptT.of_below {w w' : World} (h : Below w.heap.size w w') : KeptT w w' := ⟨h.size, fun j _ _ _ hj _ => (h.block j (Array.getElem?_eq_some_iff.1 hj).1).trans hj⟩
theorem KeptT.of_calm {B : Nat} {w w' : World} (h : Calm B w w') : KeptT w w' := ⟨h.size, fun _ _ _ _ hj _ => h.cells _ _ hj rfl⟩
theorem KeptT.of_grown {w w' : World} {base : Nat} {e : TypeId} {sz n : Nat} {v : Value} {xs : List Value} (h : w.ownsRow base e sz v n xs) (h1 : e ≠ 32) (h2 : e ≠ 5) (g : w.grownBy w' v.ownBlock) : KeptT w w' := by
  refine ⟨g.size, fun j c e' fz hj he => (g.block j (Array.getElem?_eq_some_iff.1 hj).1 (fun hv => ?_)).trans hj⟩
  rcases h.2 with ⟨rfl, -⟩ | ⟨b, cap, cur, rfl, hb, hh, r⟩
  · simp [Value.ownBlock] at hv
  · simp [Value.ownBlock] at hv
    subst hv
    rw [hh] at hj
    simp at hj
    rcases he with rfl | rfl
    · exact h1 hj.2.1
    · exact h2 hj.2.1
theorem KeptT.of_set {w : World} {b o : Nat} {c : Array Value} {e : TypeId} {fz : Nat × Nat} (u : Value) (hb : w.heap[b]? = some (.cells c e fz)) (h1 : e ≠ 32) (h2 : e ≠ 5) : KeptT w (w.setCell ⟨b, o, none⟩ u) := by
  refine ⟨by simp, fun j c' e' fz' hj he => ?_⟩
  rw [heap_setCell_other w ⟨b, o, none⟩ j u (fun h => ?_)]
  · exact hj
  · simp only at h
    subst h
    rw [hb] at hj
    simp only [Option.some.injEq, Obj.cells.injEq] at hj
    obtain ⟨-, rfl, -⟩ := hj
    rcases he with rfl | rfl
    · exact h1 rfl
    · exact h2 rfl
theorem KeptT.own {w w' : World} {base : Nat} {e : TypeId} {sz n : Nat} {v : Value} {xs : List Value} (k : KeptT w w') (h : w.ownsRow base e sz v n xs) (he : e = 32 ∨ e = 5) : w'.ownsRow base e sz v n xs := by
  obtain ⟨h1, h2⟩ := h
  refine ⟨h1, ?_⟩
  rcases h2 with h2 | ⟨g, cap, cur, hv, hg, hh, r⟩
  · exact .inl h2
  · exact .inr ⟨g, cap, cur, hv, hg, k.cells g _ _ _ hh he, r⟩

/-- What All's closure tells: a message of its own, in a block that wasn't there before; the world in which it is told is kept. -/
def AStep (es : List Ent) (s : Nat × World) (args : Array Value) (s' : Nat × World) (W : World) : Prop :=
  ∃ h : s.1 < es.length, s'.1 = s.1 + 1 ∧ s'.2 = W ∧ ∃ dv, args = #[.agg #[.int .i64 es[s.1].f, .int .i64 es[s.1].t, dv]] ∧ Mine W s.2.heap.size dv es[s.1].data

set_option maxHeartbeats 1000000 in
set_option maxRecDepth 100000 in
theorem all1_iter (es : List Ent) (pb : Nat) (N : Int) (rv : Value) (b0 l : Nat) (J : Nat × World → World → Prop) (Jx : World → Prop) (w w0 : World) (hn : es.length ≤ 100000)
    (hm : ∀ s W W', Below W.heap.size W W' → J s W → J s W') (hk : ∀ s W, J s W → KeptT s.2 W)
    (hbox : w.cell? ⟨b0, 0, none⟩ = some (.pointer (some ⟨pb, 0, none⟩))) (hp : Post w pb N rv es)
    (hy : ∀ s args s' W, J s W → AStep es s args s' W → YieldAt Fence.wide 0 Try.prog l args W fun e W' => (e = .returned (.bool true) ∧ J s' W') ∨ (e = .returned (.bool false) ∧ Jx W'))
    (h0 : J (0, w0) w) :
    CallsIn Fence.wide 0 Try.prog 34 #[.func (.yield l) #[] #[], .pointer (some ⟨b0, 0, none⟩)] w fun e W' => (∃ v, e = .returned v) ∧ ((∃ s, s.1 = es.length ∧ J s W') ∨ Jx W') := by
  have HY := Lib.hid hy
  have H0 := Lib.hid h0
  have HM := Lib.hid hm
  have HK := Lib.hid hk
  have HP := Lib.hid hp
  have c1 := hp.c1
  obtain ⟨ra, rc, rfl⟩ := hp.slice
  clear hy h0 hm hk hp
  refine callsIn_of_wp Try.func34 rfl trivial ?_
  simp only [Try.ntmps34, List.size_toArray, List.length_cons, List.length_nil, Nat.reduceAdd, Nat.reduceSub, Array.replicate_succ, Array.replicate_zero, List.push_toArray, List.append_toArray, List.nil_append, List.cons_append]
  gi_wp2_with fail
  refine (callsIn_wide.2 (cloneL_calls _ es.length (flat es) _ (Rd.of_own HP.out.own) HP.out.reads.one (by omega))).mono ?_
  rintro e w1 ⟨v1, rfl, ho1, hb1⟩
  have hj1 := HM.out _ _ _ hb1 H0.out
  have hd1 : ∀ e ∈ es, Mine w1 (pb + 1) e.dv e.data := fun e he => (HP.out.data e he).below hb1 (Nat.le_refl _)
  obtain ⟨ca, cc, rfl⟩ := own_slice ho1
  have HO1 := Lib.hid ho1
  have HJ1 := Lib.hid hj1
  have HD1 := Lib.hid hd1
  have HSM := Lib.hid HP.out.small
  clear ho1 hb1 hj1 hd1 HP H0
  gi_wp2_with fail
  gi_loopw [4, 13] (fun _ iv wr => ∃ (k : Nat) (W0 : World), k ≤ es.length ∧ iv = .int .i64 k ∧ J (k, W0) wr ∧ wr.ownsRow w.heap.size 32 3 (.slice ca es.length cc) es.length (flat es) ∧ ∀ e ∈ es, Mine wr (pb + 1) e.dv e.data) (fun _ iv _ => es.length - (intOf iv).toNat)
  case atStart => exact ⟨0, w0, by omega, rfl, HJ1.out, HO1.out, HD1.out⟩
  case round =>
    obtain ⟨k, W0, hk, rfl, hj, ho, hd⟩ := hrel
    have HJ := Lib.hid hj
    have HO := Lib.hid ho
    have HD := Lib.hid hd
    by_cases hlt : k < es.length
    · obtain ⟨g, c', hv, y0, y1, y2⟩ := own_at ho k hlt
      simp only [Value.slice.injEq, true_and] at hv
      obtain ⟨rfl, rfl⟩ := hv
      have hbt := (hd es[k] (List.getElem_mem _)).bytes
      have hsm := HSM.out es[k] (List.getElem_mem _)
      have HV := Lib.hid hbt
      obtain ⟨da, dc, hdv, -⟩ := hbt
      rw [hdv] at y2
      clear hj ho hd
      gi_wp2_with fail
      have hal := (Below.refl wr.heap.size wr).alloc (Nat.le_refl _) (.cells #[.int .i64 es[k].f, .int .i64 es[k].t, .slice da es[k].data.length dc] 32)
      have hvd := HV.out.below hal (Nat.le_refl _)
      rw [hdv] at hvd
      have hca := hal.size
      have HHK := Lib.hid (HK.out _ _ HJ.out).size
      refine (callsIn_wide.2 (own_calls es[k].f es[k].t _ es[k].data _ hvd (by omega))).mono ?_
      rintro e w2 ⟨dv', rfl, hm2, hb2⟩
      have hb3 : Below wr.heap.size wr w2 := hal.trans (hb2.mono hca)
      have hj2 := HM.out _ _ _ hb3 HJ.out
      have HK2 := Lib.hid (And.intro (ownsRow_below HO.out hb3 (Nat.le_refl _)) (fun e he => (HD.out e he).below hb3 (Nat.le_refl _)))
      obtain ⟨va, vc, rfl⟩ := hm2.slice
      obtain ⟨fn, tmps, assign, body, hyy, hR⟩ := HY.out (k, W0) #[.agg #[.int .i64 es[k].f, .int .i64 es[k].t, .slice va es[k].data.length vc]] (k + 1, w2) w2 hj2 ⟨hlt, rfl, rfl, _, rfl, hm2.mono (Nat.le_trans HHK.out hca)⟩
      clear hal hvd hca hm2 hb2 hb3 hj2 y0 y1 y2 hdv hsm
      gi_wp2_with fail
      refine hR.mono ?_
      clear hR hyy
      rintro e W' (⟨rfl, hj1⟩ | ⟨rfl, hjx⟩)
      · have hkt := HK.out _ _ hj1
        have HKT := Lib.hid hkt
        clear hkt
        gi_wp2_with fail
        go_roundw
        case rel => exact ⟨k + 1, w2, by omega, by go_num, hj1, HKT.out.own HK2.out.1 (.inl rfl), fun e he => HKT.out.own (HK2.out.2 e he) (.inr rfl)⟩
        case measure => simp [intOf]; omega
      · gi_wp2_with fail
        refine bodyPost_ret (results_none rfl _ _ _) rfl ?_
        exact ⟨⟨_, rfl⟩, .inr hjx⟩
    · obtain rfl : k = es.length := by omega
      clear hj ho hd
      gi_wp2_with fail
      refine bodyPost_end (results_none rfl _ _ _) rfl ?_
      exact ⟨⟨_, rfl⟩, .inl ⟨_, rfl, HJ.out⟩⟩

/-- Of a nil post nothing is told. -/
theorem all1_none (b0 l : Nat) (w : World) (hbox : w.cell? ⟨b0, 0, none⟩ = some (.pointer none)) :
    CallsIn Fence.wide 0 Try.prog 34 #[.func (.yield l) #[] #[], .pointer (some ⟨b0, 0, none⟩)] w fun e W' => (∃ v, e = .returned v) ∧ W' = w := by
  refine callsIn_of_wp Try.func34 rfl trivial ?_
  simp only [Try.ntmps34, List.size_toArray, List.length_cons, List.length_nil, Nat.reduceAdd, Nat.reduceSub, Array.replicate_succ, Array.replicate_zero, List.push_toArray, List.append_toArray, List.nil_append, List.cons_append]
  gi_wp2_with fail
  refine bodyPost_ret (results_none rfl _ _ _) rfl ?_
  exact ⟨⟨_, rfl⟩, rfl⟩

theorem all_calls (b : Option Addr) (w : World) : CallsIn Fence.wide 0 Try.prog 24 #[.pointer b] w fun e w' => e = .returned (.func (.func 34) #[] #[.pointer (some ⟨w.heap.size, 0, none⟩)]) ∧ w' = w.alloc (.cells #[.pointer b] 25) := by
  refine callsIn_of_wp Try.func24 rfl trivial ?_
  simp only [Try.ntmps24, List.size_toArray, List.length_cons, List.length_nil, Nat.reduceAdd, Nat.reduceSub, Array.replicate_succ, Array.replicate_zero, List.push_toArray, List.append_toArray, List.nil_append, List.cons_append]
  gi_wp2
  go_ret
  exact ⟨rfl, rfl⟩
end Go.Proofs.Ytpmkepmnldkccaa
