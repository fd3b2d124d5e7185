/- Layer 5: slices.DeleteFunc over messages, walked. -/
import Derived.Test.YtpmkepmnldkccaaMail15
namespace Go.Proofs.Ytpmkepmnldkccaa
open Go.RowKit Go.Shelf

theorem flat_set (es : List Ent) (i : Nat) (hi : i < es.length) (e : Ent) : flat (es.set i e) = (((flat es).set (i * 3) (.int .i64 e.f)).set (i * 3 + 1) (.int .i64 e.t)).set (i * 3 + 2) e.dv := by
  induction es generalizing i with
  | nil => simp at hi
  | cons x es ih =>
    cases i with
    | zero => rfl
    | succ i =>
      have h := ih i (by simpa using hi)
      have e0 : (i + 1) * 3 = i * 3 + 1 + 1 + 1 := by omega
      rw [e0]
      show x.cells ++ flat (es.set i e) = _
      rw [h]
      rfl

/-- How the row stands while it is closed up. -/
structure Closed (w wr : World) (base g cap b : Nat) (n : Int) (es : List Ent) (i j : Nat) (xs : List Ent) : Prop where
  own : wr.ownsRow base 32 3 (.slice (some ⟨g, 0, none⟩) es.length cap) es.length (flat xs)
  len : xs.length = es.length
  front : xs.take i = lostTo es n j
  back : xs.drop j = es.drop j
  mem : ∀ e ∈ xs, e ∈ es
  ilen : i = (lostTo es n j).length
  lt : i < j
  le : j ≤ es.length
  box : wr.cell? ⟨b, 0, none⟩ = some (.int .i64 n)
  only : Only (fun k => some g = some k) w wr

theorem Closed.below {w wr w' : World} {base g cap b : Nat} {n : Int} {es xs : List Ent} {i j : Nat} (h : Closed w wr base g cap b n es i j xs) (hb : Below wr.heap.size wr w') : Closed w w' base g cap b n es i j xs :=
  ⟨ownsRow_below h.own hb (Nat.le_refl _), h.len, h.front, h.back, h.mem, h.ilen, h.lt, h.le, cell_later hb h.box, h.only.trans (Only.of_below (S := fun _ => False) hb) (fun _ _ h => h.elim)⟩
theorem Closed.skip {w wr : World} {base g cap b : Nat} {n : Int} {es xs : List Ent} {i j : Nat} (h : Closed w wr base g cap b n es i j xs) (hj : j < es.length) (hs : stays n es[j] = false) : Closed w wr base g cap b n es i (j + 1) xs := by
  have e := lostTo_hit es n j hj hs
  refine ⟨h.own, h.len, h.front.trans e.symm, ?_, h.mem, by rw [e]; exact h.ilen, by have := h.lt; omega, hj, h.box, h.only⟩
  rw [← List.drop_drop, ← List.drop_drop, h.back]
theorem Closed.keep {w wr : World} {base g cap b : Nat} {n : Int} {es xs : List Ent} {i j : Nat} (h : Closed w wr base g cap b n es i j xs) (hj : j < es.length) (hs : stays n es[j] = true) (hbg : b ≠ g) :
    Closed w (((wr.setCell ⟨g, i * 3, none⟩ (.int .i64 es[j].f)).setCell ⟨g, i * 3 + 1, none⟩ (.int .i64 es[j].t)).setCell ⟨g, i * 3 + 2, none⟩ es[j].dv) base g cap b n es (i + 1) (j + 1) (xs.set i es[j]) := by
  have e := lostTo_miss es n j hj hs
  have hlt := h.lt
  have hil : i < xs.length := by rw [h.len]; omega
  have o1 := World.ownsRow.stored h.own (i * 3) (.int .i64 es[j].f)
  have o2 := World.ownsRow.stored o1.1 (i * 3 + 1) (.int .i64 es[j].t)
  have o3 := World.ownsRow.stored o2.1 (i * 3 + 2) es[j].dv
  refine ⟨?_, by rw [List.length_set]; exact h.len, ?_, ?_, fun x hx => ?_, ?_, by omega, hj, ?_, ?_⟩
  · rw [flat_set xs i hil]; exact o3.1
  · rw [e, ← h.front, List.take_set, List.take_succ_eq_append_getElem hil, List.set_append_right _ _ (by rw [List.length_take]; omega)]
    have : i - (xs.take i).length = 0 := by rw [List.length_take]; omega
    rw [this]
    rfl
  · rw [List.drop_set_of_lt (by omega), ← List.drop_drop, ← List.drop_drop, h.back]
  · rcases List.mem_or_eq_of_mem_set hx with hx | rfl
    · exact h.mem x hx
    · exact List.getElem_mem hj
  · rw [e, List.length_append, ← h.ilen]; rfl
  · rw [cell_set_block _ hbg, cell_set_block _ hbg, cell_set_block _ hbg]
    exact h.box
  · exact ((h.only.setCell ⟨g, _, none⟩ _ (.inl rfl)).setCell ⟨g, _, none⟩ _ (.inl rfl)).setCell ⟨g, _, none⟩ _ (.inl rfl)
theorem Closed.at {w wr : World} {base g cap b : Nat} {n : Int} {es xs : List Ent} {i j : Nat} (h : Closed w wr base g cap b n es i j xs) (hj : j < es.length) : wr.cell? ⟨g, j * 3, none⟩ = some (.int .i64 es[j].f) ∧ wr.cell? ⟨g, j * 3 + 1, none⟩ = some (.int .i64 es[j].t) ∧ wr.cell? ⟨g, j * 3 + 2, none⟩ = some es[j].dv := by
  have hl := h.len
  have ho := h.own
  rw [← hl] at ho
  obtain ⟨g', c', e, y0, y1, y2⟩ := own_at ho j (by omega)
  simp only [Value.slice.injEq, Option.some.injEq, Addr.mk.injEq, and_true, true_and] at e
  obtain ⟨rfl, rfl⟩ := e
  have hx : xs[j]'(by omega) = es[j] := by
    have h1 : (xs.drop j)[0]? = (es.drop j)[0]? := by rw [h.back]
    rw [List.getElem?_drop, List.getElem?_drop, Nat.add_zero, List.getElem?_eq_getElem (by omega), List.getElem?_eq_getElem hj] at h1
    exact Option.some.inj h1
  rw [hx] at y0 y1 y2
  exact ⟨y0, y1, y2⟩
theorem Closed.slot {w wr : World} {base g cap b : Nat} {n : Int} {es xs : List Ent} {i j : Nat} (h : Closed w wr base g cap b n es i j xs) : ∃ u0 u1 u2, wr.cell? ⟨g, i * 3, none⟩ = some u0 ∧ wr.cell? ⟨g, i * 3 + 1, none⟩ = some u1 ∧ wr.cell? ⟨g, i * 3 + 2, none⟩ = some u2 ∧ ∀ o, wr.frozen? ⟨g, o, none⟩ = false := by
  have hl := h.len
  have ho := h.own
  have hlt := h.lt
  have hle := h.le
  rw [← hl] at ho
  obtain ⟨g', c', e, y0, y1, y2⟩ := own_at ho i (by omega)
  simp only [Value.slice.injEq, Option.some.injEq, Addr.mk.injEq, and_true, true_and] at e
  obtain ⟨rfl, rfl⟩ := e
  exact ⟨_, _, _, y0, y1, y2, fun o => World.ownsRow.frozenAt ho o⟩
theorem Closed.start {w wr : World} {base g cap b : Nat} {n : Int} {es : List Ent} {i : Nat} (hi : i < es.length) (hs : stays n es[i] = false) (hb : ∀ r ∈ es.take i, stays n r = true)
    (ho : wr.ownsRow base 32 3 (.slice (some ⟨g, 0, none⟩) es.length cap) es.length (flat es)) (hbox : wr.cell? ⟨b, 0, none⟩ = some (.int .i64 n)) (hon : Only (fun k => some g = some k) w wr) : Closed w wr base g cap b n es i (i + 1) es := by
  have e0 : lostTo es n i = es.take i := List.filter_eq_self.2 hb
  have e := (lostTo_hit es n i hi hs).trans e0
  refine ⟨ho, rfl, e.symm, rfl, fun _ h => h, ?_, by omega, hi, hbox, hon⟩
  rw [e, List.length_take]
  omega

set_option maxHeartbeats 2000000 in
theorem delF_calls (es : List Ent) (v : Value) (base b : Nat) (n : Int) (w : World) (eg : ∀ args w, (callFunc 33 args).run Try.prog w = .ok (.enter 33 args) w) (hown : w.ownsRow base 32 3 v es.length (flat es)) (hd : ∀ e ∈ es, ∃ a l c, e.dv = .slice a l c) (hb : w.cell? ⟨b, 0, none⟩ = some (.int .i64 n)) (hne : ∀ j, v.ownBlock = some j → b ≠ j) (hn : es.length ≤ 1000000) :
    Calls Try.prog 32 #[v, .func (.func 33) #[] #[.pointer (some ⟨b, 0, none⟩)]] w fun e w' => ∃ v', e = .returned v' ∧ w'.ownsRow base 32 3 v' (es.filter (stays n)).length (flat (es.filter (stays n))) ∧ (∀ j, v'.ownBlock = some j → v.ownBlock = some j) ∧ Only (fun k => v.ownBlock = some k) w w' := by
  have hidx := idxM_calls es v base b n w eg hown (fun e he => by obtain ⟨a, l, c, h⟩ := hd e he; rw [h]; rfl) hb hn
  have HO := Lib.hid hown
  have HD := Lib.hid hd
  have HBX := Lib.hid hb
  have HNE := Lib.hid hne
  obtain ⟨va, vc, rfl⟩ := own_slice hown
  have HIDX := Lib.hid hidx
  clear hown hd hb hne hidx
  go_enter Try.func32, Try.ntmps32
  go_wp2_with fail
  refine HIDX.out.mono ?_
  rintro e w1 ⟨hr, hb1⟩
  have HB1 := Lib.hid hb1
  clear hb1
  rcases hr with ⟨i, hi, hs, hbef, rfl⟩ | ⟨hall, rfl⟩
  · obtain ⟨m, hm⟩ : ∃ m, es.length = m + 1 := ⟨es.length - 1, by omega⟩
    have ho' := HO.out
    rw [hm] at ho'
    obtain ⟨g, cap, hv1, hg1, hg2, hg3, hg4⟩ := own_succ ho'
    rw [← hm] at hv1
    simp only [Value.slice.injEq, true_and] at hv1
    obtain ⟨rfl, rfl⟩ := hv1
    rw [← hm] at hg3
    have hbg := HNE.out g rfl
    have hst := Closed.start (w := w) hi hs hbef (ownsRow_below HO.out HB1.out (Nat.le_refl _)) (cell_later HB1.out HBX.out) (Only.of_below HB1.out)
    have HST := Lib.hid hst
    have hwi : ((i : Int) == -1) = false := beq_eq_false_iff_ne.2 (by omega)
    clear hst ho' hm hs hbef
    go_wp2_with fail
    go_loopw [5, 6, 7] (fun iv jv _ wr => ∃ (i' j : Nat) (xs : List Ent), iv = .int .i64 i' ∧ jv = .int .i64 j ∧ Closed w wr base g vc b n es i' j xs) (fun _ jv _ _ => es.length - (intOf jv).toNat)
    case atStart => exact ⟨i, i + 1, es, rfl, by go_num, HST.out⟩
    case round =>
      obtain ⟨k, j, xs, rfl, rfl, hc⟩ := hrel
      have HC := Lib.hid hc
      have hkj := hc.lt
      have hjn := hc.le
      by_cases hlt : j < es.length
      · obtain ⟨c0, c1, c2⟩ := hc.at hlt
        obtain ⟨da, dl, dc, hdv⟩ := HD.out es[j] (List.getElem_mem _)
        have hone : es[j].dv.oneCell' = true := by rw [hdv]; rfl
        have hal := (Below.refl wr.heap.size wr).alloc (Nat.le_refl _) (.cells #[.int .i64 es[j].f, .int .i64 es[j].t, es[j].dv] 32)
        have b0 : (wr.alloc (.cells #[.int .i64 es[j].f, .int .i64 es[j].t, es[j].dv] 32)).cell? ⟨wr.heap.size, 0, none⟩ = some (.int .i64 es[j].f) := by rw [World.cell?_alloc_at _ _ _ _ rfl]; rfl
        have b1 : (wr.alloc (.cells #[.int .i64 es[j].f, .int .i64 es[j].t, es[j].dv] 32)).cell? ⟨wr.heap.size, 1, none⟩ = some (.int .i64 es[j].t) := by rw [World.cell?_alloc_at _ _ _ _ rfl]; rfl
        have b2 : (wr.alloc (.cells #[.int .i64 es[j].f, .int .i64 es[j].t, es[j].dv] 32)).cell? ⟨wr.heap.size, 2, none⟩ = some es[j].dv := by rw [World.cell?_alloc_at _ _ _ _ rfl]; rfl
        have HCA := Lib.hid (hc.below hal)
        have hcall := lose1_calls b n es[j] _ HCA.out.box hone
        rw [hdv] at b0 b1 b2 c2 HCA hcall
        have HCALL := Lib.hid hcall
        clear hc hal hcall hone
        go_wp2_with fail
        refine HCALL.out.mono ?_
        rintro e w2 ⟨rfl, hb2⟩
        have HC2 := Lib.hid (HCA.out.below hb2)
        have b0 := cell_later hb2 b0
        have b1 := cell_later hb2 b1
        have b2 := cell_later hb2 b2
        clear hb2
        cases hst : stays n es[j] with
        | false =>
          have HS := Lib.hid (HC2.out.skip hlt hst)
          clear hst b0 b1 b2 c0 c1 c2 hdv
          go_wp2_with fail
          go_roundw
          case rel => exact ⟨k, j + 1, xs, rfl, by go_num, HS.out⟩
          case measure => simp [intOf]; omega
        | true =>
          have HS := Lib.hid (HC2.out.keep hlt hst hbg)
          rw [hdv] at HS
          obtain ⟨u0, u1, u2, s0, s1, s2, sz⟩ := HC2.out.slot
          clear hst c0 c1 c2 hdv
          have hkn : k < es.length := by omega
          go_wp2_with fail
          go_roundw
          case rel => exact ⟨k + 1, j + 1, _, by go_num, by go_num, HS.out⟩
          case measure => simp [intOf]; omega
      · obtain rfl : j = es.length := by omega
        have hil := hc.ilen
        have hfr := hc.front
        rw [lostTo_end] at hil hfr
        have HIL := Lib.hid hil
        have hown := hc.own
        obtain ⟨d, hd⟩ : ∃ d, es.length = k + d := ⟨es.length - k, by omega⟩
        have hd0 : 0 < d := by omega
        have hsp := hown
        rw [hd] at hsp
        have htd : flat xs = flat (xs.take k) ++ flat (xs.drop k) := by rw [← flat_append, List.take_append_drop]
        rw [htd] at hsp
        have hpre := own_prefix (n := k) (m := d) hsp (by rw [flat_length, List.length_take, hc.len]; congr 1; omega)
        rw [hfr] at hpre
        obtain ⟨w3, hrun, ho3, hg3'⟩ := run_clear_tail (P := Try.prog) (t := 22) (ty := 0) (m := d) (c := vc - k) tyMails (fun w => by kernel_rfl) (by simp [Value.cells, Value.oneCell']) hpre (by omega) hd0
        have hdd : es.length - k = d := by omega
        have HON := Lib.hid (hc.only.trans (Only.of_grown hg3') (fun j _ h => h))
        have HO3 := Lib.hid ho3
        clear hc hfr hil hown hsp htd hpre ho3 hg3'
        go_wp2_with fail
        go_ret
        refine ⟨_, rfl, ?_, fun j h => h, HON.out⟩
        rw [← HIL.out]
        exact HO3.out
  · have hf : es.filter (stays n) = es := List.filter_eq_self.2 hall
    have HF := Lib.hid hf
    clear hf hall
    go_wp2_with fail
    go_ret
    rw [HF.out]
    exact ⟨_, rfl, ownsRow_below HO.out HB1.out (Nat.le_refl _), fun j h => h, Only.of_below HB1.out⟩
end Go.Proofs.Ytpmkepmnldkccaa
