/- Walks and plain laws of the chapter, laid together; each part says what it proves. -/
import Derived.Test.YtkabfjbmofpkdaaPkC
import Derived.Test.YtkabfjbmofpkdaaPkF
import Derived.Test.YtkabfjbmofpkdaaPkG
/- A triple of numbers, and rows of entries, read of an argument. -/
namespace Go.Proofs.Ytkabfjbmofpkdaa
open Go.RowKit Go.ChangeShapes Go.WideShapes Go.ChangeAt
set_option maxRecDepth 100000

theorem okWide_array' {P : Program} {w : World} {r : Reach} {base : Nat} {t : TypeId} {v : Value} {n : Nat} {e : TypeId} (ht : P.underlying t = some (.array n e)) (h : Value.okWide P w r base t v) : ∃ cs, v = .agg cs ∧ cs.size = P.cellsOf t := by
  simp only [Value.okWide, ht] at h
  obtain ⟨cs, h1, h2, _⟩ := h
  exact ⟨cs, h1, h2⟩

theorem cells_arr3 {H : Type} {enc : TypeId × Value → H} {W : World} {held : Bool} {fuel : Nat} {cs : List Value} {y : DataW H × List MemPlace} (hf : DataW.trod enc Try.prog W 0 (fun _ => true) held fuel 62 cs = some y) : ∃ p q r : Int, cs = [.int .i64 p, .int .i64 q, .int .i64 r] ∧ I64 p ∧ I64 q ∧ I64 r := by
  obtain ⟨xs, n, -, -, hl, hxl, hx⟩ := DataW.trod_array Try.underlying62 hf
  have hl2 : cs.length = 3 := hl.trans (by kernel_rfl)
  have hc : Try.prog.cellsOf 3 = 1 := by kernel_rfl
  have hex : ∀ i, i < 3 → ∃ k : Int, cs[i]? = some (.int .i64 k) ∧ I64 k := by
    intro i hi
    have h := hx i hi
    rw [hc, Nat.mul_one, List.getElem?_eq_getElem (by omega)] at h
    obtain ⟨k, hk, -, wk⟩ := DataW.trod_int Try.underlying3 h
    have hi2 : i < cs.length := by omega
    rw [List.drop_eq_getElem_cons hi2] at hk
    simp only [List.take_succ_cons, List.take_zero, List.cons.injEq, and_true] at hk
    exact ⟨k, by rw [List.getElem?_eq_getElem hi2, hk], Go.bounds_i64 wk⟩
  obtain ⟨p, hp, bp⟩ := hex 0 (by omega)
  obtain ⟨q, hq, bq⟩ := hex 1 (by omega)
  obtain ⟨r, hr, br⟩ := hex 2 (by omega)
  refine ⟨p, q, r, ?_, bp, bq, br⟩
  match cs, hl2, hp, hq, hr with
  | [v0, v1, v2], _, hp, hq, hr =>
    simp at hp hq hr
    rw [hp, hq, hr]
theorem open_arr3 {H : Type} {enc : TypeId × Value → H} {W : World} {B : Nat} {held : Bool} {v : Value} {d : DataW H} {p : List MemPlace}
    (ok : Value.okWide Try.prog W .any B 62 v) (h : DataW.Trod enc Try.prog W 0 (fun _ => true) held 62 v d p) : ∃ a b c : Int, v = .agg #[.int .i64 a, .int .i64 b, .int .i64 c] ∧ I64 a ∧ I64 b ∧ I64 c := by
  obtain ⟨csA, rfl, hsz⟩ := okWide_array' Try.underlying62 ok
  obtain ⟨fuel, hf⟩ := h
  simp only [Value.cells] at hf
  obtain ⟨a, b, c, hr, hk⟩ := cells_arr3 hf
  refine ⟨a, b, c, ?_, hk⟩
  have : csA = [Value.int .i64 a, .int .i64 b, .int .i64 c].toArray := by rw [← hr]
  rw [this]

/-- Entries that are read. -/
structure EntsR (w : World) (v : Value) (es : List Ent) : Prop where
  row : Rd w 8 v es.length (flatF Ent.cells es)
  ops : ∀ E ∈ es, OpsR w E.gv E.os
instance : Inhabited Ent := ⟨⟨0, ⟨0, 0, 0, ⟨#[]⟩, 0⟩, .slice none 0 0, [], 0⟩⟩
open Classical in
theorem open_entries {H : Type} {enc : TypeId × Value → H} {W : World} {B : Nat} {held : Bool} {v : Value} {d : DataW H} {p : List MemPlace}
    (ok : Value.okWide Try.prog W .any B 49 v) (h : DataW.Trod enc Try.prog W 0 (fun _ => true) held 49 v d p) : ∃ es : List Ent, EntsR W v es ∧ (∀ E ∈ es, E.Ok) ∧ (Rows.uptoBulk d ≤ 1048576 → ∀ E ∈ es, E.Small) := by
  obtain ⟨a, len, cap, rfl⟩ := okWide_slice Try.underlying49 ok
  obtain ⟨fuel, hf⟩ := h
  obtain ⟨v, es, hcs, h1, h2, h3⟩ := cells_structsW (f := Ent.cells) (k := 8) (Q := fun E => OpsR W E.gv E.os ∧ E.Ok) (fun E => if E.Small then 0 else 1048576) Try.underlying49 (by kernel_rfl) (fun _ => rfl) (by omega) (fun fuel cs z h => by
    obtain ⟨E, hE, ho, hk, hs⟩ := cells_ent h
    obtain ⟨xs, n, -, hxy, -⟩ := DataW.trod_struct Try.underlying35 h
    have h1 : 1 ≤ Rows.uptoBulk z.1 := by rw [hxy]; simp only [Rows.uptoBulk]; omega
    refine ⟨E, hE, ⟨ho, hk⟩, ?_⟩
    split
    · omega
    · rename_i hn
      have : ¬ Rows.uptoBulk z.1 ≤ 1048576 := fun h => hn (hs h)
      omega) hf
  simp [Value.cells] at hcs
  subst hcs
  refine ⟨es, ⟨h1, fun E hE => (h2 E hE).1⟩, fun E hE => (h2 E hE).2, fun hb E hE => ?_⟩
  have hm := sum_mem (fun E : Ent => if E.Small then 0 else 1048576) hE
  by_cases hs : E.Small
  · exact hs
  · simp only [if_neg hs] at hm
    have h3 : (es.map (fun E : Ent => if E.Small then 0 else 1048576)).sum + es.length + 1 ≤ Rows.uptoBulk d := h3
    have : 0 < es.length := List.length_pos_of_mem hE
    omega
end Go.Proofs.Ytkabfjbmofpkdaa

/- Layer 14: the first offset of a partition, walked. -/
namespace Go.Proofs.Ytkabfjbmofpkdaa
open Go.RowKit Go.Shelf
set_option maxRecDepth 100000
attribute [local go_sem] Oper.semAt_some

/-- The first offset of a partition that is there. -/
def Led.firstOf (L : Led) (q : Int) : Int := if 0 ≤ q ∧ q < 8 ∧ L.good = true then L.C q.toNat - have_ L.all q else 0
theorem firstOf_good {L : Led} (hg : L.good = true) (p : Nat) (hp : p < 8) : L.firstOf p = L.C p - have_ L.all p := by
  unfold Led.firstOf
  rw [if_pos ⟨by omega, by omega, hg⟩]
  rfl
theorem have_take_le (rs : List Rec) (k : Nat) (q : Int) : have_ (rs.take k) q ≤ have_ rs q := have_sub (List.take_sublist _ _) q
theorem good_C {L : Led} (hg : L.good = true) (hok : L.Ok) (p : Nat) (hp : p < 8) : (have_ L.all p : Int) ≤ L.C p ∧ L.C p ≤ 9223372036854775807 :=
  ⟨counts_at ((good_iff L).1 hg).2.2 p hp, (hok.C p hp).2⟩
theorem cells_led_all (L : Led) : L.cells.toArray = #[L.rv, .int .i64 (L.C 0), .int .i64 (L.C 1), .int .i64 (L.C 2), .int .i64 (L.C 3), .int .i64 (L.C 4), .int .i64 (L.C 5), .int .i64 (L.C 6), .int .i64 (L.C 7), L.ov, L.bv, .int .i64 L.sealed, .int .i64 L.decided, .bool L.dep, L.gv, .int .i64 L.keep] := rfl

set_option maxHeartbeats 4000000 in
theorem first_calls (L : Led) (q : Int) (w : World) (hL : LedR w L) (hok : L.Ok) (hsm : L.Small) :
    Calls Try.prog 22 #[.agg L.cells.toArray, .int .i64 q] w fun e w' => e = .returned (.int .i64 (L.firstOf q)) ∧ Below w.heap.size w w' := by
  obtain ⟨X, hX⟩ : ∃ X, X = (w.alloc (.cells L.cells.toArray 30)).alloc (.cells #[.int .i64 q] 3) := ⟨_, rfl⟩
  have hbX : Below w.heap.size w X := by rw [hX]; exact below_box (below_alloc _ _) _
  have hXs : X.heap.size = w.heap.size + 2 := by rw [hX]; simp
  have hbox : BoxL X w.heap.size L := by rw [hX]; exact (boxL_self w L 30).later (below_alloc _ _)
  have hq : X.cell? ⟨w.heap.size + 1, 0, none⟩ = some (.int .i64 q) := by rw [hX, World.cell?_alloc_at _ _ _ _ (by simp)]; rfl
  have HL := Lib.hid hL
  have HBX := Lib.hid hbX
  have HOK := Lib.hid hok
  have HSM := Lib.hid hsm
  have HBOX := Lib.hid hbox
  have HX := Lib.hid hX
  have HXS := Lib.hid hXs
  have c0 := hbox 0 _ rfl
  have c1 := hbox 1 _ rfl
  have c2 := hbox 2 _ rfl
  have c3 := hbox 3 _ rfl
  have c4 := hbox 4 _ rfl
  have c5 := hbox 5 _ rfl
  have c6 := hbox 6 _ rfl
  have c7 := hbox 7 _ rfl
  have c8 := hbox 8 _ rfl
  have c9 := hbox 9 _ rfl
  have c10 := hbox 10 _ rfl
  have c11 := hbox 11 _ rfl
  have c12 := hbox 12 _ rfl
  have c13 := hbox 13 _ rfl
  have c14 := hbox 14 _ rfl
  have c15 := hbox 15 _ rfl
  clear hX hbX hL hok hsm hbox hXs
  refine (callsIn_wide (n := 0)).1 ?_
  refine callsIn_of_wp_marks Try.func22 rfl trivial ?_
  simp only [Try.ntmps22, List.size_toArray, List.length_cons, List.length_nil, Nat.reduceAdd, Nat.reduceSub, Array.replicate_succ, Array.replicate_zero, List.push_toArray, List.append_toArray, List.nil_append, List.cons_append]
  have HHX := Lib.hid (show (w.alloc (.cells #[L.rv, .int .i64 (L.C 0), .int .i64 (L.C 1), .int .i64 (L.C 2), .int .i64 (L.C 3), .int .i64 (L.C 4), .int .i64 (L.C 5), .int .i64 (L.C 6), .int .i64 (L.C 7), L.ov, L.bv, .int .i64 L.sealed, .int .i64 L.decided, .bool L.dep, L.gv, .int .i64 L.keep] 30)).alloc (.cells #[.int .i64 q] 3) = X from HX.out.symm)
  rw [cells_led_all]
  by_cases hb : q < 0 ∨ 8 ≤ q
  · have HF := Lib.hid (show L.firstOf q = 0 by unfold Led.firstOf; rw [if_neg (by omega)])
    rcases hb with hb | hb
    · have d1 : decide (q < 0) = true := decide_eq_true hb
      clear hb
      gi_wp2_with fail
      refine ⟨.int .i64 0, ?_, by rw [HF.out], by rw [HHX.out]; exact HBX.out⟩
      simp [results, Try.results22, go_sem]
    · have d1 : decide (q < 0) = false := decide_eq_false (by omega)
      have d2 : decide (8 ≤ q) = true := decide_eq_true hb
      clear hb
      gi_wp2_with fail
      refine ⟨.int .i64 0, ?_, by rw [HF.out], by rw [HHX.out]; exact HBX.out⟩
      simp [results, Try.results22, go_sem]
  · obtain ⟨p, hp⟩ : ∃ p : Nat, q = p := ⟨q.toNat, by omega⟩
    have hp8 : p < 8 := by omega
    subst hp
    have d1 : decide ((p : Int) < 0) = false := decide_eq_false (by omega)
    have d2 : decide (8 ≤ (p : Int)) = false := decide_eq_false (by omega)
    have d3 : decide (8 ≤ p) = false := decide_eq_false (by omega)
    clear hb
    gi_wp2_with fail
    rw [HHX.out]
    refine (callsIn_wide.2 (pGood_calls L X (HL.out.below HBX.out (Nat.le_refl _)) HOK.out HSM.out)).mono ?_
    rintro e w1 ⟨rfl, hb1⟩
    have HB1 := Lib.hid (below_go HBX.out hb1)
    have HBOX1 := Lib.hid (HBOX.out.later hb1)
    have hq := cell_later hb1 hq
    clear hb1 c0 c1 c2 c3 c4 c5 c6 c7 c8 c9 c10 c11 c12 c13 c14 c15
    cases hg : L.good with
    | false =>
      have HF := Lib.hid (show L.firstOf p = 0 by unfold Led.firstOf; rw [if_neg (by rw [hg]; simp)])
      clear hg
      gi_wp2_with fail
      refine ⟨.int .i64 0, ?_, by rw [HF.out], HB1.out⟩
      simp [results, Try.results22, go_sem]
    | true =>
      have HF := Lib.hid (firstOf_good hg p hp8)
      have hgc := good_C hg HOK.out p hp8
      have HG := Lib.hid hg
      have cp := HBOX1.out (1 + p) _ (cells_C L p hp8)
      have c0 := HBOX1.out 0 _ rfl
      have c1 := HBOX1.out 1 _ rfl
      have c2 := HBOX1.out 2 _ rfl
      have c3 := HBOX1.out 3 _ rfl
      have c4 := HBOX1.out 4 _ rfl
      have c5 := HBOX1.out 5 _ rfl
      have c6 := HBOX1.out 6 _ rfl
      have c7 := HBOX1.out 7 _ rfl
      have c8 := HBOX1.out 8 _ rfl
      have c9 := HBOX1.out 9 _ rfl
      have c10 := HBOX1.out 10 _ rfl
      have c11 := HBOX1.out 11 _ rfl
      have c12 := HBOX1.out 12 _ rfl
      have c13 := HBOX1.out 13 _ rfl
      have c14 := HBOX1.out 14 _ rfl
      have c15 := HBOX1.out 15 _ rfl
      obtain ⟨Z, hZ⟩ : ∃ Z, Z = w1.alloc (.cells #[.int .i64 (L.C p)] 3) := ⟨_, rfl⟩
      have hbZ : Below w1.heap.size w1 Z := by rw [hZ]; exact below_alloc _ _
      have hZs : Z.heap.size = w1.heap.size + 1 := by rw [hZ]; simp
      have hn0 : Z.cell? ⟨w1.heap.size, 0, none⟩ = some (.int .i64 (L.C p)) := by rw [hZ]; exact box_self 0 _ rfl
      have hnf : Z.frozen? ⟨w1.heap.size, 0, none⟩ = false := by rw [hZ, World.frozen?_alloc_at _ _ _ _ rfl]
      have hlt1 : w.heap.size < w1.heap.size := HBOX1.out.lt
      have HQL := Lib.hid (World.block_lt_of_cell? _ _ hq)
      have HRECS := Lib.hid (records_calls L Z)
      have HBYX := Lib.hid (boxL_self Z L 30)
      have HZ := Lib.hid hZ
      have HBZ := Lib.hid hbZ
      have HZS := Lib.hid hZs
      have HN := Lib.hid (And.intro hn0 hnf)
      clear hg hZ hbZ hZs hn0 hnf
      gi_wp2_with fail
      rw [← HZ.out]
      refine HRECS.out.mono ?_
      rintro e w4 ⟨rfl, rfl⟩
      obtain ⟨Y, hY⟩ : ∃ Y, Y = Z.alloc (.cells L.cells.toArray 30) := ⟨_, rfl⟩
      rw [← hY] at HBYX ⊢
      have HBY := Lib.hid (show Below Z.heap.size Z Y from by rw [hY]; exact below_alloc _ _)
      have HB3Y := Lib.hid (below_go HBZ.out HBY.out)
      have HYQ := Lib.hid (cell_later HB3Y.out hq)
      have HYN := Lib.hid (And.intro (cell_later HBY.out HN.out.1) (frozen_later HBY.out HN.out.1 HN.out.2))
      have HYS := Lib.hid (show Y.heap.size = w1.heap.size + 2 by rw [hY]; simp; have := HZS.out; omega)
      clear hY c0 c1 c2 c3 c4 c5 c6 c7 c8 c9 c10 c11 c12 c13 c14 c15 cp hq
      gi_wp2_with fail
      refine range_w (gf := 71) (lb := #[.pointer (some ⟨Z.heap.size, 0, none⟩)]) rfl (fun args w => enter_of Try.func71 (by kernel_rfl) rfl args w)
        (fun k W => Only (fun j => j = w1.heap.size) Y W ∧ k ≤ L.all.length ∧ W.cell? ⟨w1.heap.size, 0, none⟩ = some (.int .i64 (L.C p - have_ (L.all.take k) p)) ∧ W.frozen? ⟨w1.heap.size, 0, none⟩ = false)
        (fun c W => False) (RStep L) (fun k => k = L.all.length) 0
        (fun s W W' hc h => ⟨h.1.calm (Nat.le_refl _) hc, h.2.1, hc.cell h.2.2.1, (hc.frozen h.2.2.1).trans h.2.2.2⟩) (fun c W W' hc h => h) ⟨Only.refl _ _, Nat.zero_le _, by simpa [have_zero] using HYN.out.1, HYN.out.2⟩ ?iter ?body ?done ?stop
      case iter =>
        intro l J' Jx' W hm _ hJJ hc hJ0 hy
        refine records1_iter L Z.heap.size l J' Jx' W HSM.out hm (fun s W h => ?_) hy hJ0
        have ho := (hJJ s W h).1
        have h3 := ho.below (B := w1.heap.size) (by have := HB3Y.out.size; omega) (fun j hj e => by omega)
        exact ⟨HL.out.below (below_go HB1.out (HB3Y.out.trans h3)) (Nat.le_refl _), fun j v hj => ho.cell (by have := HZS.out; omega) (HBYX.out j v hj)⟩
      case body =>
        intro l k args s' W hr hst hsz
        obtain ⟨hlt, rfl, rfl⟩ := hst
        have HR := Lib.hid hr
        have HSU := Lib.hid (have_succ L.all k hlt p)
        have hle := have_take_le L.all k p
        have hls := have_take_le L.all (k + 1) p
        clear hr
        generalize L.all[k] = R at *
        obtain ⟨rp, rs, rq, rkey, rval⟩ := R
        refine ⟨rfl, ?_⟩
        gi_wp2_with fail
        refine ⟨KeepsOthers.alloc _ _, fun W₂ hc => ?_⟩
        have hc0 : Calm Y.heap.size W W₂ := (Calm.of_below hsz (below_alloc _ _)).trans hc
        have b2 : W₂.cell? ⟨W.heap.size, 2, none⟩ = some (.int .i64 rq) := hc.cell (box_self 2 _ rfl)
        have HO2 := Lib.hid (HR.out.1.calm (Nat.le_refl _) hc0)
        have hn := hc0.cell HR.out.2.2.1
        have hf := (hc0.frozen HR.out.2.2.1).trans HR.out.2.2.2
        have hq2 := HO2.out.cell (by have h := HQL.out; show ¬ w.heap.size + 1 = w1.heap.size; exact Nat.ne_of_lt h) HYQ.out
        clear hc hc0
        by_cases he : rq = p
        · have e1 : (rq == (p : Int)) = true := beq_iff_eq.2 he
          rw [if_pos he] at HSU
          rw [HSU.out] at hls
          have HN2 := Lib.hid (And.intro hn hf)
          clear he
          gi_wp2_with fail
          refine ⟨KeepsOthers.setCell _ _ _, HO2.out.setCell ⟨w1.heap.size, 0, none⟩ _ (.inl rfl), hlt, ?_, by rw [World.frozen?_setCell]; exact HN2.out.2⟩
          rw [cell_set_same _ HN2.out.1, HSU.out]
          simp only [Option.some.injEq, Value.int.injEq, true_and]
          omega
        · have e1 : (rq == (p : Int)) = false := beq_eq_false_iff_ne.2 he
          rw [if_neg he] at HSU
          have HN2 := Lib.hid (And.intro hn hf)
          clear he
          gi_wp2_with fail
          exact ⟨KeepsOthers.refl _, HO2.out, hlt, by rw [HSU.out]; exact HN2.out.1, HN2.out.2⟩
      case done =>
        intro D s W hD hs hr hK
        subst hs
        have HO := Lib.hid (hr.1.below (B := w1.heap.size) (by have := HYS.out; omega) (fun j hj e => by omega))
        have hn := hr.2.2.1
        rw [List.take_length] at hn
        have HKD := Lib.hid hK
        clear hr hK
        gi_wp2_with fail
        refine ⟨by simp, .inl ⟨_, _, rfl, run_takeDeferred HKD.out, ?_⟩⟩
        have hcal := Calm.putObj (B := w.heap.size) (.deferred none) (by have := HYS.out; have h : w.heap.size + 1 < w1.heap.size := HQL.out; omega) HKD.out rfl
        refine ⟨.int .i64 (L.C p - have_ L.all p), ?_, by rw [HF.out], ?_⟩
        · simp [results, Try.results22, go_sem]
        exact (below_go HB1.out (HB3Y.out.trans HO.out)).trans hcal.below
      case stop =>
        intro D c W hD hr hK
        exact hr.elim
end Go.Proofs.Ytkabfjbmofpkdaa

/- Layer 14: what is fetched of a partition, as data; how the loop's world stands. -/
namespace Go.Proofs.Ytkabfjbmofpkdaa
open Go.RowKit Go.Shelf
set_option maxRecDepth 100000

/-- What is fetched. -/
def Led.fetchOf (L : Led) (q frm most : Int) : List Rec × Int × Int :=
  if L.good = false then ([], 0, 3) else if q < 0 ∨ 8 ≤ q ∨ most < 0 then ([], 0, 1) else if frm < L.firstOf q ∨ L.C q.toNat < frm then ([], 0, 8)
  else (((ofPart L.all q).drop (frm - L.firstOf q).toNat).take most.toNat, frm + (((ofPart L.all q).drop (frm - L.firstOf q).toNat).take most.toNat).length, 0)
def outAt (rs : List Rec) (q : Int) (d k : Nat) : List Rec := (ofPart (rs.take k) q).drop d
theorem outAt_zero (rs : List Rec) (q : Int) (d : Nat) : outAt rs q d 0 = [] := by simp [outAt, ofPart]
theorem outAt_miss (rs : List Rec) (q : Int) (d k : Nat) (hk : k < rs.length) (h : rs[k].q ≠ q) : outAt rs q d (k + 1) = outAt rs q d k := by
  unfold outAt
  rw [ofPart_succ rs k hk, if_neg h, List.append_nil]
theorem outAt_skip (rs : List Rec) (q : Int) (d k : Nat) (hk : k < rs.length) (h : rs[k].q = q) (hd : have_ (rs.take k) q < d) : outAt rs q d (k + 1) = outAt rs q d k := by
  unfold outAt
  rw [ofPart_succ rs k hk, if_pos h]
  unfold have_ at hd
  rw [List.drop_eq_nil_of_le (by simp; omega), List.drop_eq_nil_of_le (by omega)]
theorem outAt_push (rs : List Rec) (q : Int) (d k : Nat) (hk : k < rs.length) (h : rs[k].q = q) (hd : d ≤ have_ (rs.take k) q) : outAt rs q d (k + 1) = outAt rs q d k ++ [rs[k]] := by
  unfold outAt
  rw [ofPart_succ rs k hk, if_pos h, List.drop_append_of_le_length hd]
theorem outAt_le (rs : List Rec) (q : Int) (d k : Nat) : (outAt rs q d k).length ≤ rs.length := by
  unfold outAt
  have := ofPart_le rs k q
  have h2 := have_take_le rs k q
  unfold have_ at h2
  have h3 : (ofPart rs q).length ≤ rs.length := List.length_filter_le _ _
  rw [List.length_drop]
  omega
theorem outAt_pre (rs : List Rec) (q : Int) (d k : Nat) : ∃ t, (ofPart rs q).drop d = outAt rs q d k ++ t := by
  have e : ofPart rs q = ofPart (rs.take k) q ++ ofPart (rs.drop k) q := by unfold ofPart; rw [← List.filter_append, List.take_append_drop]
  unfold outAt
  rw [e, List.drop_append]
  exact ⟨_, rfl⟩
theorem outAt_full (rs : List Rec) (q : Int) (d k m : Nat) (h : (outAt rs q d k).length = m) : ((ofPart rs q).drop d).take m = outAt rs q d k := by
  obtain ⟨t, ht⟩ := outAt_pre rs q d k
  rw [ht, ← h, List.take_left]
theorem outAt_end (rs : List Rec) (q : Int) (d m : Nat) (h : (outAt rs q d rs.length).length ≤ m) : ((ofPart rs q).drop d).take m = outAt rs q d rs.length := by
  unfold outAt at h ⊢
  rw [List.take_length] at h ⊢
  exact List.take_of_length_le h

/-- The loop of Fetch, behind k records. -/
structure FRel (Y W : World) (bo ba : Nat) (q F : Int) (d m : Nat) (rs : List Rec) (k : Nat) (v : Value) : Prop where
  only : Only (fun j => j = bo ∨ j = ba) Y W
  le : k ≤ rs.length
  co : W.cell? ⟨bo, 0, none⟩ = some v
  fo : W.frozen? ⟨bo, 0, none⟩ = false
  ca : W.cell? ⟨ba, 0, none⟩ = some (.int .i64 (F + have_ (rs.take k) q))
  fa : W.frozen? ⟨ba, 0, none⟩ = false
  own : W.ownsRow Y.heap.size 33 5 v (outAt rs q d k).length (flatF Rec.cells (outAt rs q d k))
  len : (outAt rs q d k).length ≤ m
variable {Y W W' w8 : World} {bo ba : Nat} {q F : Int} {d m : Nat} {rs : List Rec} {k : Nat} {v v' : Value}
theorem FRel.calm (h : FRel Y W bo ba q F d m rs k v) (hc : Calm Y.heap.size W W') : FRel Y W' bo ba q F d m rs k v :=
  ⟨h.only.calm (Nat.le_refl _) hc, h.le, hc.cell h.co, (hc.frozen h.co).trans h.fo, hc.cell h.ca, (hc.frozen h.ca).trans h.fa, ownsRow_calm h.own hc, h.len⟩
theorem FRel.miss (h : FRel Y W bo ba q F d m rs k v) (hk : k < rs.length) (hq : rs[k].q ≠ q) : FRel Y W bo ba q F d m rs (k + 1) v := by
  have e : have_ (rs.take (k + 1)) q = have_ (rs.take k) q := by rw [have_succ rs k hk, if_neg hq]; rfl
  exact ⟨h.only, hk, h.co, h.fo, by rw [e]; exact h.ca, h.fa, by rw [outAt_miss rs q d k hk hq]; exact h.own, by rw [outAt_miss rs q d k hk hq]; exact h.len⟩
theorem own_ne {w : World} {base : Nat} {e : TypeId} {sz n : Nat} {v : Value} {xs : List Value} (h : w.ownsRow base e sz v n xs) {b : Nat} (hb : b < base) : v.ownBlock ≠ some b := fun he => by
  have := (World.ownsRow.lt h b he).1
  omega
theorem FRel.skip (h : FRel Y W bo ba q F d m rs k v) (hk : k < rs.length) (hq : rs[k].q = q) (hd : have_ (rs.take k) q < d) (hba : ba < Y.heap.size) (hne : bo ≠ ba) :
    FRel Y (W.setCell ⟨ba, 0, none⟩ (.int .i64 (F + have_ (rs.take k) q + 1))) bo ba q F d m rs (k + 1) v := by
  have e : have_ (rs.take (k + 1)) q = have_ (rs.take k) q + 1 := by rw [have_succ rs k hk, if_pos hq]
  have eo := outAt_skip rs q d k hk hq hd
  refine ⟨h.only.setCell ⟨ba, 0, none⟩ _ (.inl (.inr rfl)), hk, by rw [cell_set_block _ hne]; exact h.co, by rw [World.frozen?_setCell]; exact h.fo, ?_, by rw [World.frozen?_setCell]; exact h.fa, ?_, by rw [eo]; exact h.len⟩
  · rw [cell_set_same _ h.ca, e]
    simp only [Option.some.injEq, Value.int.injEq, true_and]
    omega
  · rw [eo]
    exact ownsRow_set h.own ⟨ba, 0, none⟩ _ hba
theorem FRel.push (h : FRel Y W bo ba q F d m rs k v) (hk : k < rs.length) (hq : rs[k].q = q) (hd : d ≤ have_ (rs.take k) q) (hm : (outAt rs q d k).length < m) (o : Obj)
    (ho : w8.ownsRow Y.heap.size 33 5 v' ((outAt rs q d k).length + 1) (flatF Rec.cells (outAt rs q d k) ++ flatF Rec.cells [rs[k]])) (hg : (W.alloc o).grownBy w8 v.ownBlock) (hbo : bo < Y.heap.size) (hba : ba < Y.heap.size) (hne : bo ≠ ba) :
    (w8.cell? ⟨bo, 0, none⟩ = some v ∧ w8.frozen? ⟨bo, 0, none⟩ = false ∧ w8.cell? ⟨ba, 0, none⟩ = some (.int .i64 (F + have_ (rs.take k) q)) ∧ w8.frozen? ⟨ba, 0, none⟩ = false) ∧
    FRel Y ((w8.setCell ⟨bo, 0, none⟩ v').setCell ⟨ba, 0, none⟩ (.int .i64 (F + have_ (rs.take k) q + 1))) bo ba q F d m rs (k + 1) v' ∧
    KeepsOthers W ((w8.setCell ⟨bo, 0, none⟩ v').setCell ⟨ba, 0, none⟩ (.int .i64 (F + have_ (rs.take k) q + 1))) := by
  have e : have_ (rs.take (k + 1)) q = have_ (rs.take k) q + 1 := by rw [have_succ rs k hk, if_pos hq]
  have eo := outAt_push rs q d k hk hq hd
  have h8 : Only (fun j => v.ownBlock = some j) W w8 := ((Only.refl _ W).alloc o).trans (Only.of_grown hg) (fun j _ h => h)
  have hbl : bo < W.heap.size := Nat.lt_of_lt_of_le hbo h.only.size
  have hal : ba < W.heap.size := Nat.lt_of_lt_of_le hba h.only.size
  have c1 := h8.cell (own_ne h.own hbo) h.co
  have c2 := (h8.frozen (o := 0) hbl (own_ne h.own hbo)).trans h.fo
  have c3 := h8.cell (own_ne h.own hba) h.ca
  have c4 := (h8.frozen (o := 0) hal (own_ne h.own hba)).trans h.fa
  refine ⟨⟨c1, c2, c3, c4⟩, ⟨?_, hk, ?_, ?_, ?_, ?_, ?_, ?_⟩, ?_⟩
  · refine Only.setCell (Only.setCell (h.only.trans h8 (fun j hj hs => ?_)) ⟨bo, 0, none⟩ _ (.inl (.inl rfl))) ⟨ba, 0, none⟩ _ (.inl (.inr rfl))
    have := (World.ownsRow.lt h.own j hs).1
    omega
  · rw [cell_set_block _ hne, cell_set_same _ c1]
  · rw [World.frozen?_setCell, World.frozen?_setCell]; exact c2
  · rw [cell_set_same _ (by rw [cell_set_block _ (Ne.symm hne)]; exact c3), e]
    simp only [Option.some.injEq, Value.int.injEq, true_and]
    omega
  · rw [World.frozen?_setCell, World.frozen?_setCell]; exact c4
  · rw [eo, List.length_append, flatF_append]
    exact ownsRow_set (ownsRow_set ho ⟨bo, 0, none⟩ _ hbo) ⟨ba, 0, none⟩ _ hba
  · rw [eo, List.length_append]
    simp only [List.length_cons, List.length_nil]
    omega
  · exact ((KeepsOthers.alloc W o).trans (KeepsOthers.of_grownBy hg (own_cells (h.own.alloc o)))).trans ((KeepsOthers.setCell _ _ _).trans (KeepsOthers.setCell _ _ _))
/-- The same, with names for what is read. -/
theorem FRel.push' (h : FRel Y W bo ba q F d m rs k v) (hk : k < rs.length) {R : Rec} (hR : rs[k] = R) (hq : R.q = q) {H n : Nat} (hH : H = have_ (rs.take k) q) (hn : n = (outAt rs q d k).length) (hd : d ≤ H) (hm : n < m) (o : Obj)
    (ho : w8.ownsRow Y.heap.size 33 5 v' (n + 1) (flatF Rec.cells (outAt rs q d k) ++ flatF Rec.cells [R])) (hg : (W.alloc o).grownBy w8 v.ownBlock) (hbo : bo < Y.heap.size) (hba : ba < Y.heap.size) (hne : bo ≠ ba) :
    (w8.cell? ⟨bo, 0, none⟩ = some v ∧ w8.frozen? ⟨bo, 0, none⟩ = false ∧ w8.cell? ⟨ba, 0, none⟩ = some (.int .i64 (F + H)) ∧ w8.frozen? ⟨ba, 0, none⟩ = false) ∧
    FRel Y ((w8.setCell ⟨bo, 0, none⟩ v').setCell ⟨ba, 0, none⟩ (.int .i64 (F + H + 1))) bo ba q F d m rs (k + 1) v' ∧
    KeepsOthers W ((w8.setCell ⟨bo, 0, none⟩ v').setCell ⟨ba, 0, none⟩ (.int .i64 (F + H + 1))) := by
  subst hR hH hn
  exact h.push hk hq hd hm o ho hg hbo hba hne
end Go.Proofs.Ytkabfjbmofpkdaa

/- Layer 14: Fetch, walked. -/
namespace Go.Proofs.Ytkabfjbmofpkdaa
open Go.RowKit Go.Shelf
set_option maxRecDepth 100000
attribute [local go_sem] Oper.semAt_some

set_option maxHeartbeats 8000000 in
theorem fetch_calls (L : Led) (q frm most : Int) (w : World) (hL : LedR w L) (hok : L.Ok) (hsm : L.Small) (hfr : I64 frm) (hms : I64 most) :
    Calls Try.prog 23 #[.agg L.cells.toArray, .int .i64 q, .int .i64 frm, .int .i64 most] w fun e w' => ∃ v, e = .returned (.tuple #[v, .int .i64 (L.fetchOf q frm most).2.1, .int .i64 (L.fetchOf q frm most).2.2]) ∧
      w'.ownsRow w.heap.size 33 5 v (L.fetchOf q frm most).1.length (flatF Rec.cells (L.fetchOf q frm most).1) ∧ Below w.heap.size w w' := by
  obtain ⟨X, hX⟩ : ∃ X, X = (((w.alloc (.cells L.cells.toArray 30)).alloc (.cells #[.int .i64 q] 3)).alloc (.cells #[.int .i64 frm] 3)).alloc (.cells #[.int .i64 most] 3) := ⟨_, rfl⟩
  have hbX : Below w.heap.size w X := by rw [hX]; exact below_box (below_box (below_box (below_alloc _ _) _) _) _
  have hXs : X.heap.size = w.heap.size + 4 := by rw [hX]; simp
  have hbox : BoxL X w.heap.size L := by rw [hX]; exact (((boxL_self w L 30).later (below_alloc _ _)).later (below_alloc _ _)).later (below_alloc _ _)
  have hq : X.cell? ⟨w.heap.size + 1, 0, none⟩ = some (.int .i64 q) := by
    rw [hX, World.cell?_alloc_past _ _ _ (by simp <;> omega), World.cell?_alloc_past _ _ _ (by simp <;> omega), World.cell?_alloc_at _ _ _ _ (by simp)]; rfl
  have hf : X.cell? ⟨w.heap.size + 2, 0, none⟩ = some (.int .i64 frm) := by
    rw [hX, World.cell?_alloc_past _ _ _ (by simp <;> omega), World.cell?_alloc_at _ _ _ _ (by simp)]; rfl
  have hm : X.cell? ⟨w.heap.size + 3, 0, none⟩ = some (.int .i64 most) := by
    rw [hX, World.cell?_alloc_at _ _ _ _ (by simp)]; rfl
  have HL := Lib.hid hL
  have HBX := Lib.hid hbX
  have HOK := Lib.hid hok
  have HSM := Lib.hid hsm
  have HBOX := Lib.hid hbox
  have HX := Lib.hid hX
  have HXS := Lib.hid hXs
  have HFR := Lib.hid hfr
  have HMS := Lib.hid hms
  have HIN := Lib.hid (And.intro hq (And.intro hf hm))
  have c0 := hbox 0 _ rfl
  have c1 := hbox 1 _ rfl
  have c2 := hbox 2 _ rfl
  have c3 := hbox 3 _ rfl
  have c4 := hbox 4 _ rfl
  have c5 := hbox 5 _ rfl
  have c6 := hbox 6 _ rfl
  have c7 := hbox 7 _ rfl
  have c8 := hbox 8 _ rfl
  have c9 := hbox 9 _ rfl
  have c10 := hbox 10 _ rfl
  have c11 := hbox 11 _ rfl
  have c12 := hbox 12 _ rfl
  have c13 := hbox 13 _ rfl
  have c14 := hbox 14 _ rfl
  have c15 := hbox 15 _ rfl
  clear hX hbX hL hok hsm hbox hXs hfr hms hq hf hm
  refine (callsIn_wide (n := 0)).1 ?_
  refine callsIn_of_wp_marks Try.func23 rfl trivial ?_
  simp only [Try.ntmps23, List.size_toArray, List.length_cons, List.length_nil, Nat.reduceAdd, Nat.reduceSub, Array.replicate_succ, Array.replicate_zero, List.push_toArray, List.append_toArray, List.nil_append, List.cons_append]
  have HHX := Lib.hid (show (((w.alloc (.cells #[L.rv, .int .i64 (L.C 0), .int .i64 (L.C 1), .int .i64 (L.C 2), .int .i64 (L.C 3), .int .i64 (L.C 4), .int .i64 (L.C 5), .int .i64 (L.C 6), .int .i64 (L.C 7), L.ov, L.bv, .int .i64 L.sealed, .int .i64 L.decided, .bool L.dep, L.gv, .int .i64 L.keep] 30)).alloc (.cells #[.int .i64 q] 3)).alloc (.cells #[.int .i64 frm] 3)).alloc (.cells #[.int .i64 most] 3) = X from HX.out.symm)
  rw [cells_led_all]
  gi_wp2_with fail
  rw [HHX.out]
  refine (callsIn_wide.2 (pGood_calls L X (HL.out.below HBX.out (Nat.le_refl _)) HOK.out HSM.out)).mono ?_
  rintro e w1 ⟨rfl, hb1⟩
  have HB1 := Lib.hid (below_go HBX.out hb1)
  have HBOX1 := Lib.hid (HBOX.out.later hb1)
  have h1q := cell_later hb1 HIN.out.1
  have h1f := cell_later hb1 HIN.out.2.1
  have h1m := cell_later hb1 HIN.out.2.2
  have HIN1 := Lib.hid (And.intro h1q (And.intro h1f h1m))
  clear hb1 c0 c1 c2 c3 c4 c5 c6 c7 c8 c9 c10 c11 c12 c13 c14 c15
  cases hg : L.good with
  | false =>
    have HF := Lib.hid (show L.fetchOf q frm most = ([], 0, 3) by unfold Led.fetchOf; rw [if_pos hg])
    clear hg
    gi_wp2_with fail
    refine ⟨.tuple #[.slice none 0 0, .int .i64 0, .int .i64 3], ?_, .slice none 0 0, by rw [HF.out], by rw [HF.out]; exact World.ownsRow_nil _ _ _ _, HB1.out⟩
    simp [results, Try.results23, go_sem]
  | true =>
    have HG := Lib.hid hg
    clear hg
    by_cases hbad : q < 0 ∨ 8 ≤ q ∨ most < 0
    · have HF := Lib.hid (show L.fetchOf q frm most = ([], 0, 1) by unfold Led.fetchOf; rw [if_neg (by simp [HG.out]), if_pos hbad])
      have hways : decide (q < 0) = true ∨ (decide (q < 0) = false ∧ decide (8 ≤ q) = true) ∨ (decide (q < 0) = false ∧ decide (8 ≤ q) = false ∧ decide (most < 0) = true) := by
        simp only [decide_eq_true_eq, decide_eq_false_iff_not]
        omega
      clear hbad
      rcases hways with d1 | ⟨d1, d2⟩ | ⟨d1, d2, d3⟩
      all_goals
        gi_wp2_with fail
        refine ⟨.tuple #[.slice none 0 0, .int .i64 0, .int .i64 1], ?_, .slice none 0 0, by rw [HF.out], by rw [HF.out]; exact World.ownsRow_nil _ _ _ _, HB1.out⟩
        simp [results, Try.results23, go_sem]
    · obtain ⟨p, hp⟩ : ∃ p : Nat, q = p := ⟨q.toNat, by omega⟩
      obtain ⟨m, hm⟩ : ∃ m : Nat, most = m := ⟨most.toNat, by omega⟩
      have hp8 : p < 8 := by omega
      subst hp
      subst hm
      have hp8i : (p : Int) < 8 := by omega
      have d1 : decide ((p : Int) < 0) = false := decide_eq_false (by omega)
      have d2 : decide (8 ≤ (p : Int)) = false := decide_eq_false (by omega)
      have d2' : decide (8 ≤ p) = false := decide_eq_false (by omega)
      have d3 : decide ((m : Int) < 0) = false := decide_eq_false (by omega)
      have HF1 := Lib.hid (firstOf_good HG.out p hp8)
      have HGC := Lib.hid (good_C HG.out HOK.out p hp8)
      have HFE := Lib.hid (show L.fetchOf p frm m = if frm < L.firstOf p ∨ L.C p < frm then ([], 0, 8) else (((ofPart L.all p).drop (frm - L.firstOf p).toNat).take m, frm + (((ofPart L.all p).drop (frm - L.firstOf p).toNat).take m).length, 0) by
        unfold Led.fetchOf; rw [if_neg (by simp [HG.out]), if_neg hbad]; rfl)
      clear hbad
      have hcp := HBOX1.out (1 + p) _ (cells_C L p hp8)
      have HCP := Lib.hid hcp
      obtain ⟨F, hF⟩ : ∃ F, F = L.firstOf p := ⟨_, rfl⟩
      rw [← hF] at HF1 HFE
      have HFF := Lib.hid hF
      clear hF
      have hnf0 : 0 ≤ F := by have := HF1.out; have := HGC.out.1; omega
      by_cases hr : frm < F ∨ L.C p < frm
      · have HF := Lib.hid (show L.fetchOf p frm m = ([], 0, 8) by rw [HFE.out, if_pos hr])
        have hways : decide (frm < F) = true ∨ (decide (frm < F) = false ∧ decide (L.C p < frm) = true) := by
          simp only [decide_eq_true_eq, decide_eq_false_iff_not]
          omega
        clear hr
        rcases hways with d4 | ⟨d4, d5⟩
        all_goals
          gi_wp2_with fail
          refine region_mi [(0, false), (1, false), (2, false), (3, true), (4, false), (5, false), (6, false), (7, false), (8, false), (9, false), (10, false), (11, false), (12, false)] 13 (fun V => V.cell? ⟨w.heap.size + 1, 0, none⟩ = some (.int .i64 p) ∧ V.cell? ⟨w.heap.size + 2, 0, none⟩ = some (.int .i64 frm) ∧ V.rangeAt w.heap.size 0 L.cells ∧ V.cell? ⟨w.heap.size, 1 + p, none⟩ = some (.int .i64 (L.C p))) (by kernel_rfl) (by kernel_rfl) ⟨HIN1.out.1, HIN1.out.2.1, HBOX1.out.range, HCP.out⟩ ?_
          iterate 1
            first
            | (refine m_take (v := ?_) rfl rfl ?_ ?_
               rotate_left
               · intro W hW
                 go_simp
                 with_reducible rfl
               simp only [Act.put, List.setIfInBounds_toArray, List.set_cons_zero, List.set_cons_succ])
            | (refine m_skip rfl rfl ?_
               simp only [Act.put, List.setIfInBounds_toArray, List.set_cons_zero, List.set_cons_succ])
          refine m_loadk rfl rfl rfl rfl (fun W hW => hW.2.2.1) Try.underlying30 rfl (by show _ = some 16; kernel_rfl) ?_
          simp only [Act.put, List.setIfInBounds_toArray, List.set_cons_zero, List.set_cons_succ]
          iterate 1
            first
            | (refine m_take (v := ?_) rfl rfl ?_ ?_
               rotate_left
               · intro W hW
                 go_simp
                 with_reducible rfl
               simp only [Act.put, List.setIfInBounds_toArray, List.set_cons_zero, List.set_cons_succ])
            | (refine m_skip rfl rfl ?_
               simp only [Act.put, List.setIfInBounds_toArray, List.set_cons_zero, List.set_cons_succ])
          refine m_loud rfl (fun K hK => ?_)
          have HK := Lib.hid hK
          clear hK
          go_simp
          have hdr := (Below.refl w1.heap.size w1).drew
          refine (first_calls L p _ (HL.out.below (below_go HB1.out hdr) (Nat.le_refl _)) HOK.out HSM.out).mono ?_
          rintro e w2 ⟨rfl, hb2⟩
          have hb2 := hdr.trans hb2
          rw [← HFF.out]
          have HB2 := Lib.hid (below_go HB1.out hb2)
          have HD2 := Lib.hid hb2
          refine HK.out _ _ ⟨cell_later HD2.out HIN1.out.1, cell_later HD2.out HIN1.out.2.1, (HBOX1.out.later HD2.out).range, cell_later HD2.out HCP.out⟩ ?_
          clear HK
          clear hb2
          iterate 9
            first
            | (refine m_take (v := ?_) rfl rfl ?_ ?_
               rotate_left
               · intro W hW
                 go_simp
                 with_reducible rfl
               simp only [Act.put, List.setIfInBounds_toArray, List.set_cons_zero, List.set_cons_succ])
            | (refine m_skip rfl rfl ?_
               simp only [Act.put, List.setIfInBounds_toArray, List.set_cons_zero, List.set_cons_succ])
          refine m_done ?_
          simp only [List.drop_succ_cons, List.drop_zero]
          go_wp2_with fail
          simp only [NP]
          gi_wp2_with fail
          refine ⟨.tuple #[.slice none 0 0, .int .i64 0, .int .i64 8], ?_, .slice none 0 0, by rw [HF.out], by rw [HF.out]; exact World.ownsRow_nil _ _ _ _, HB2.out⟩
          simp [results, Try.results23, go_sem]
      · have d4 : decide (frm < F) = false := decide_eq_false (by omega)
        have d5 : decide (L.C p < frm) = false := decide_eq_false (by omega)
        obtain ⟨d, hd⟩ : ∃ d, d = (frm - F).toNat := ⟨_, rfl⟩
        have hfd : frm = F + d := by omega
        rw [if_neg hr, ← hd] at HFE
        have HFD := Lib.hid hfd
        clear hr hd hfd
        gi_wp2_with fail
        refine region_mi [(0, false), (1, false), (2, false), (3, true), (4, false), (5, false), (6, false), (7, false), (8, false), (9, false), (10, false), (11, false), (12, false)] 13 (fun V => V.cell? ⟨w.heap.size + 1, 0, none⟩ = some (.int .i64 p) ∧ V.cell? ⟨w.heap.size + 2, 0, none⟩ = some (.int .i64 frm) ∧ V.rangeAt w.heap.size 0 L.cells ∧ V.cell? ⟨w.heap.size, 1 + p, none⟩ = some (.int .i64 (L.C p))) (by kernel_rfl) (by kernel_rfl) ⟨HIN1.out.1, HIN1.out.2.1, HBOX1.out.range, HCP.out⟩ ?_
        iterate 1
          first
          | (refine m_take (v := ?_) rfl rfl ?_ ?_
             rotate_left
             · intro W hW
               go_simp
               with_reducible rfl
             simp only [Act.put, List.setIfInBounds_toArray, List.set_cons_zero, List.set_cons_succ])
          | (refine m_skip rfl rfl ?_
             simp only [Act.put, List.setIfInBounds_toArray, List.set_cons_zero, List.set_cons_succ])
        refine m_loadk rfl rfl rfl rfl (fun W hW => hW.2.2.1) Try.underlying30 rfl (by show _ = some 16; kernel_rfl) ?_
        simp only [Act.put, List.setIfInBounds_toArray, List.set_cons_zero, List.set_cons_succ]
        iterate 1
          first
          | (refine m_take (v := ?_) rfl rfl ?_ ?_
             rotate_left
             · intro W hW
               go_simp
               with_reducible rfl
             simp only [Act.put, List.setIfInBounds_toArray, List.set_cons_zero, List.set_cons_succ])
          | (refine m_skip rfl rfl ?_
             simp only [Act.put, List.setIfInBounds_toArray, List.set_cons_zero, List.set_cons_succ])
        refine m_loud rfl (fun K hK => ?_)
        have HK := Lib.hid hK
        clear hK
        go_simp
        have hdr := (Below.refl w1.heap.size w1).drew
        refine (first_calls L p _ (HL.out.below (below_go HB1.out hdr) (Nat.le_refl _)) HOK.out HSM.out).mono ?_
        rintro e w2 ⟨rfl, hb2⟩
        have hb2 := hdr.trans hb2
        rw [← HFF.out]
        have HB2 := Lib.hid (below_go HB1.out hb2)
        have HD2 := Lib.hid hb2
        refine HK.out _ _ ⟨cell_later HD2.out HIN1.out.1, cell_later HD2.out HIN1.out.2.1, (HBOX1.out.later HD2.out).range, cell_later HD2.out HCP.out⟩ ?_
        clear HK
        clear hb2 hdr
        iterate 9
          first
          | (refine m_take (v := ?_) rfl rfl ?_ ?_
             rotate_left
             · intro W hW
               go_simp
               with_reducible rfl
             simp only [Act.put, List.setIfInBounds_toArray, List.set_cons_zero, List.set_cons_succ])
          | (refine m_skip rfl rfl ?_
             simp only [Act.put, List.setIfInBounds_toArray, List.set_cons_zero, List.set_cons_succ])
        refine m_done ?_
        simp only [List.drop_succ_cons, List.drop_zero]
        go_wp2_with fail
        simp only [NP]
        obtain ⟨V1, hV1⟩ : ∃ V1, V1 = w2.alloc (.cells #[.slice none 0 0] 24) := ⟨_, rfl⟩
        have hbV : Below w2.heap.size w2 V1 := by rw [hV1]; exact below_alloc _ _
        have hVs : V1.heap.size = w2.heap.size + 1 := by rw [hV1]; simp
        have hv0 : V1.cell? ⟨w2.heap.size, 0, none⟩ = some (.slice none 0 0) := by rw [hV1]; exact box_self 0 _ rfl
        have hvf : V1.frozen? ⟨w2.heap.size, 0, none⟩ = false := by rw [hV1, World.frozen?_alloc_at _ _ _ _ rfl]
        have HBOX2 := Lib.hid (HBOX1.out.later HD2.out)
        have hlt1 : w.heap.size + 3 < w2.heap.size := by have h : w.heap.size + 3 < w1.heap.size := World.block_lt_of_cell? _ _ HIN1.out.2.2; have := HD2.out.size; omega
        have hlt10 : w.heap.size < w2.heap.size := by omega
        have hlt11 : w.heap.size + 1 < w2.heap.size := by omega
        have c0 := HBOX2.out 0 _ rfl
        have c1 := HBOX2.out 1 _ rfl
        have c2 := HBOX2.out 2 _ rfl
        have c3 := HBOX2.out 3 _ rfl
        have c4 := HBOX2.out 4 _ rfl
        have c5 := HBOX2.out 5 _ rfl
        have c6 := HBOX2.out 6 _ rfl
        have c7 := HBOX2.out 7 _ rfl
        have c8 := HBOX2.out 8 _ rfl
        have c9 := HBOX2.out 9 _ rfl
        have c10 := HBOX2.out 10 _ rfl
        have c11 := HBOX2.out 11 _ rfl
        have c12 := HBOX2.out 12 _ rfl
        have c13 := HBOX2.out 13 _ rfl
        have c14 := HBOX2.out 14 _ rfl
        have c15 := HBOX2.out 15 _ rfl
        have h2q := cell_later HD2.out HIN1.out.1
        have HV1 := Lib.hid hV1
        have HBV := Lib.hid hbV
        have HVS := Lib.hid hVs
        have HV0 := Lib.hid (And.intro hv0 hvf)
        clear hV1 hbV hVs hv0 hvf h1q h1f h1m hcp
        gi_wp2_with fail
        rw [← HV1.out]
        refine (callsIn_wide.2 (first_calls L p V1 (HL.out.below (below_go HB2.out HBV.out) (Nat.le_refl _)) HOK.out HSM.out)).mono ?_
        rintro e w3 ⟨rfl, hb3⟩
        rw [← HFF.out]
        have HD3 := Lib.hid (below_go HBV.out hb3)
        have HB3 := Lib.hid (below_go HB2.out HD3.out)
        have HV3 := Lib.hid (And.intro (cell_later hb3 HV0.out.1) (frozen_later hb3 HV0.out.1 HV0.out.2))
        have HW3 := Lib.hid hb3.size
        clear hb3 c0 c1 c2 c3 c4 c5 c6 c7 c8 c9 c10 c11 c12 c13 c14 c15 h2q hlt10 hlt11
        obtain ⟨Z, hZ⟩ : ∃ Z, Z = w3.alloc (.cells #[.int .i64 F] 3) := ⟨_, rfl⟩
        have hbZ : Below w3.heap.size w3 Z := by rw [hZ]; exact below_alloc _ _
        have hZs : Z.heap.size = w3.heap.size + 1 := by rw [hZ]; simp
        have hz0 : Z.cell? ⟨w3.heap.size, 0, none⟩ = some (.int .i64 F) := by rw [hZ]; exact box_self 0 _ rfl
        have hzf : Z.frozen? ⟨w3.heap.size, 0, none⟩ = false := by rw [hZ, World.frozen?_alloc_at _ _ _ _ rfl]
        have HRECS := Lib.hid (records_calls L Z)
        have HBYX := Lib.hid (boxL_self Z L 30)
        have HBOX3 := Lib.hid (HBOX2.out.later HD3.out)
        have hlt3 : w.heap.size + 3 < w3.heap.size := by have := HD3.out.size; omega
        have hlt30 : w.heap.size < w3.heap.size := by omega
        have c0 := HBOX3.out 0 _ rfl
        have c1 := HBOX3.out 1 _ rfl
        have c2 := HBOX3.out 2 _ rfl
        have c3 := HBOX3.out 3 _ rfl
        have c4 := HBOX3.out 4 _ rfl
        have c5 := HBOX3.out 5 _ rfl
        have c6 := HBOX3.out 6 _ rfl
        have c7 := HBOX3.out 7 _ rfl
        have c8 := HBOX3.out 8 _ rfl
        have c9 := HBOX3.out 9 _ rfl
        have c10 := HBOX3.out 10 _ rfl
        have c11 := HBOX3.out 11 _ rfl
        have c12 := HBOX3.out 12 _ rfl
        have c13 := HBOX3.out 13 _ rfl
        have c14 := HBOX3.out 14 _ rfl
        have c15 := HBOX3.out 15 _ rfl
        have HZ := Lib.hid hZ
        have HBZ := Lib.hid hbZ
        have HZS := Lib.hid hZs
        have HZ0 := Lib.hid (And.intro hz0 hzf)
        clear hZ hbZ hZs hz0 hzf
        gi_wp2_with fail
        rw [← HZ.out]
        refine HRECS.out.mono ?_
        rintro e w4 ⟨rfl, rfl⟩
        obtain ⟨Y, hY⟩ : ∃ Y, Y = Z.alloc (.cells L.cells.toArray 30) := ⟨_, rfl⟩
        rw [← hY] at HBYX ⊢
        have HBY := Lib.hid (show Below Z.heap.size Z Y from by rw [hY]; exact below_alloc _ _)
        have HD4 := Lib.hid (below_go HBZ.out HBY.out)
        have HB4 := Lib.hid (below_go HB3.out HD4.out)
        have HYS := Lib.hid (show Y.heap.size = w3.heap.size + 2 by rw [hY]; simp; have := HZS.out; omega)
        have HIN4 := Lib.hid (And.intro (cell_later (below_go HD3.out HD4.out) (cell_later HD2.out HIN1.out.1)) (And.intro (cell_later (below_go HD3.out HD4.out) (cell_later HD2.out HIN1.out.2.1)) (cell_later (below_go HD3.out HD4.out) (cell_later HD2.out HIN1.out.2.2))))
        have HR0 := Lib.hid (show FRel Y Y w2.heap.size w3.heap.size p F d m L.all 0 (.slice none 0 0) from
          ⟨Only.refl _ _, Nat.zero_le _, cell_later HD4.out HV3.out.1, frozen_later HD4.out HV3.out.1 HV3.out.2, by rw [List.take_zero, have_zero]; simpa using cell_later HBY.out HZ0.out.1, frozen_later HBY.out HZ0.out.1 HZ0.out.2, by rw [outAt_zero]; exact World.ownsRow_nil _ _ _ _, by rw [outAt_zero]; exact Nat.zero_le _⟩)
        have HLT := Lib.hid hlt1
        have HLT3 := Lib.hid (show w2.heap.size < w3.heap.size by have := HW3.out; have := HVS.out; omega)
        clear hY c0 c1 c2 c3 c4 c5 c6 c7 c8 c9 c10 c11 c12 c13 c14 c15 hlt1 hlt3 hlt30
        gi_wp2_with fail
        refine range_w (gf := 71) (lb := #[.pointer (some ⟨Z.heap.size, 0, none⟩)]) rfl (fun args w => enter_of Try.func71 (by kernel_rfl) rfl args w)
          (fun k W => ∃ v, FRel Y W w2.heap.size w3.heap.size p F d m L.all k v)
          (fun c W => c = .exit 1 ∧ ∃ k v, FRel Y W w2.heap.size w3.heap.size p F d m L.all k v ∧ (outAt L.all p d k).length = m) (RStep L) (fun k => k = L.all.length) 0
          (fun s W W' hc h => by obtain ⟨v, h⟩ := h; exact ⟨v, h.calm hc⟩) (fun c W W' hc h => by obtain ⟨h0, k, v, h, h1⟩ := h; exact ⟨h0, k, v, h.calm hc, h1⟩) ⟨_, HR0.out⟩ ?iter ?body ?done ?stop
        case iter =>
          intro l J' Jx' W hm _ hJJ hc hJ0 hy
          refine records1_iter L Z.heap.size l J' Jx' W HSM.out hm (fun s W h => ?_) hy hJ0
          obtain ⟨v, h⟩ := hJJ s W h
          have ho := h.only
          have h3 := ho.below (B := w2.heap.size) (by have := HYS.out; have := HLT3.out; omega) (fun j hj e => by have := HLT3.out; omega)
          exact ⟨HL.out.below (HB4.out.trans (h3.mono (by have := HLT.out; have := HB2.out.size; omega))) (Nat.le_refl _), fun j v hj => ho.cell (by have := HZS.out; have := HLT3.out; omega) (HBYX.out j v hj)⟩
        case body =>
          intro l k args s' W hr hst hsz
          obtain ⟨hlt, rfl, rfl⟩ := hst
          obtain ⟨v, hr⟩ := hr
          have HLTK := Lib.hid hlt
          have hle := have_take_le L.all k p
          have hls := have_take_le L.all (k + 1) p
          rw [have_succ L.all k hlt] at hls
          have hall := HSM.out.all
          have hol := outAt_le L.all p d k
          obtain ⟨n, hn⟩ : ∃ n, n = (outAt L.all p d k).length := ⟨_, rfl⟩
          obtain ⟨va, vc, rfl⟩ := own_slice hr.own
          have HR := Lib.hid hr
          have HNN := Lib.hid hn
          rw [← hn] at hol
          clear hr hn
          generalize hRk : L.all[k] = R at *
          obtain ⟨rp, rs, rq, rkey, rval⟩ := R
          have HRR := Lib.hid hRk
          clear hRk
          refine ⟨rfl, ?_⟩
          gi_wp2_with fail
          refine ⟨KeepsOthers.alloc _ _, fun W₂ hc => ?_⟩
          have hc0 : Calm Y.heap.size W W₂ := (Calm.of_below hsz (below_alloc _ _)).trans hc
          have b0 : W₂.cell? ⟨W.heap.size, 0, none⟩ = some (.int .i64 rp) := hc.cell (box_self 0 _ rfl)
          have b1 : W₂.cell? ⟨W.heap.size, 1, none⟩ = some (.int .i64 rs) := hc.cell (box_self 1 _ rfl)
          have b2 : W₂.cell? ⟨W.heap.size, 2, none⟩ = some (.int .i64 rq) := hc.cell (box_self 2 _ rfl)
          have b3 : W₂.cell? ⟨W.heap.size, 3, none⟩ = some (.string rkey) := hc.cell (box_self 3 _ rfl)
          have b4 : W₂.cell? ⟨W.heap.size, 4, none⟩ = some (.int .u32 rval) := hc.cell (box_self 4 _ rfl)
          have hr2 := HR.out.calm hc0
          rw [← HNN.out] at hr2
          have HR2 := Lib.hid hr2
          clear hc hc0 hr2
          have ho2 := HR2.out.only
          have hbo : w2.heap.size < Y.heap.size := by have := HYS.out; have := HLT3.out; omega
          have hba : w3.heap.size < Y.heap.size := by have := HYS.out; omega
          have hne : w2.heap.size ≠ w3.heap.size := by have := HLT3.out; omega
          have e1 := ho2.cell (by have := HLT.out; have := HLT3.out; omega) HIN4.out.1
          have e2 := ho2.cell (by have := HLT.out; have := HLT3.out; omega) HIN4.out.2.1
          have e3 := ho2.cell (by have := HLT.out; have := HLT3.out; omega) HIN4.out.2.2
          have co := HR2.out.co
          have fo := HR2.out.fo
          have ca := HR2.out.ca
          have fa := HR2.out.fa
          have HNE := Lib.hid (And.intro hbo (And.intro hba hne))
          clear ho2 hbo hba hne
          by_cases hnm : n = m
          · have x1 : ((n : Int) == (m : Int)) = true := beq_iff_eq.2 (by omega)
            have x2 : (n == m) = true := beq_iff_eq.2 hnm
            have HNM := Lib.hid hnm
            clear hnm
            gi_wp2_with fail
            exact ⟨KeepsOthers.refl _, rfl, k, ⟨_, HR2.out⟩, by rw [← HNN.out]; exact HNM.out⟩
          · have x1 : ((n : Int) == (m : Int)) = false := beq_eq_false_iff_ne.2 (by omega)
            have x2 : (n == m) = false := beq_eq_false_iff_ne.2 hnm
            have HNM := Lib.hid hnm
            clear hnm
            by_cases hqq : rq = p
            · have y1 : (rq == (p : Int)) = true := beq_iff_eq.2 hqq
              have HYQ := Lib.hid (show Rec.q ⟨rp, rs, rq, rkey, rval⟩ = p from hqq)
              have HQ := Lib.hid (show L.all[k].q = p from by rw [HRR.out]; exact hqq)
              rw [if_pos hqq] at hls
              clear hqq
              obtain ⟨h, hh⟩ : ∃ h, h = have_ (L.all.take k) p := ⟨_, rfl⟩
              have HH := Lib.hid hh
              rw [← hh] at ca hls
              have hwr : IntKind.i64.wrap (F + (h : Int) + 1) = F + (h : Int) + 1 := by rw [IntKind.wrap_i64]; have := HF1.out; have := HGC.out; omega
              by_cases hge : d ≤ h
              · have z1 : decide (frm ≤ F + (h : Int)) = true := decide_eq_true (by have := HFD.out; omega)
                have HGE := Lib.hid hge
                have hlit := Rd.lit (w := W₂) (cs := #[.int .i64 rp, .int .i64 rs, .int .i64 rq, .string rkey, .int .u32 rval]) (e := 33) (n := 1) (sz := 5) rfl (by omega)
                have HLIT := Lib.hid hlit
                have HOA := Lib.hid (HR2.out.own.alloc (.cells #[.int .i64 rp, .int .i64 rs, .int .i64 rq, .string rkey, .int .u32 rval] 33))
                rw [← HNN.out] at HOA
                have hbs := HR2.out.only.size
                have hn2 : n + 1 ≤ 2000000 := by have := HNN.out; omega
                have HPUSH := Lib.hid (fun (w8 : World) (v' : Value) => FRel.push' (w8 := w8) (v' := v') HR2.out HLTK.out HRR.out HYQ.out HH.out HNN.out HGE.out (by have := HNM.out; have h2 := HR2.out.len; have := HNN.out; omega))
                have hne1 : ¬ (w3.heap.size = w2.heap.size) := fun e => HNE.out.2.2 e.symm
                have hne2 : ¬ (w2.heap.size = w3.heap.size) := HNE.out.2.2
                clear hge hh hlit
                gi_wp2_with (gi_at_builtin; go_loud (refine app_listIn tyRecs HOA.out HLIT.out (recs_one [⟨rp, rs, rq, rkey, rval⟩]) (by omega) (by omega) (by simp; omega) rfl rfl rfl rfl ?_; intro v5 w8 hm5 hb5 hn5; obtain ⟨va5, vc5, rfl⟩ := own_slice hm5; have HEND := Lib.hid (HPUSH.out w8 (.slice va5 (n + 1) vc5) _ hm5 hb5 HNE.out.1 HNE.out.2.1 HNE.out.2.2); clear hm5 hb5 hn5 co fo ca fa; have co := HEND.out.1.1; have fo := HEND.out.1.2.1; have ca := HEND.out.1.2.2.1; have fa := HEND.out.1.2.2.2))
                exact ⟨HEND.out.2.2, _, HEND.out.2.1⟩
              · have z1 : decide (frm ≤ F + (h : Int)) = false := decide_eq_false (by have := HFD.out; omega)
                have HGE := Lib.hid hge
                clear hge hh
                gi_wp2_with fail
                have hsk := HR2.out.skip HLTK.out HQ.out (by have h1 := HGE.out; rw [HH.out] at h1; omega) HNE.out.2.1 HNE.out.2.2
                rw [← HH.out] at hsk
                exact ⟨KeepsOthers.setCell _ _ _, _, hsk⟩
            · have y1 : (rq == (p : Int)) = false := beq_eq_false_iff_ne.2 hqq
              have HQ := Lib.hid (show L.all[k].q ≠ p from by rw [HRR.out]; exact hqq)
              clear hqq
              gi_wp2_with fail
              exact ⟨KeepsOthers.refl _, _, HR2.out.miss HLTK.out HQ.out⟩
        case done =>
          intro D k W hD hs hr hK
          subst hs
          obtain ⟨v, hr⟩ := hr
          have HOUT := Lib.hid (outAt_end L.all p d m hr.len)
          have HR := Lib.hid hr
          have hol := outAt_le L.all p d L.all.length
          have hall := HSM.out.all
          obtain ⟨n, hn⟩ : ∃ n, n = (outAt L.all p d L.all.length).length := ⟨_, rfl⟩
          obtain ⟨va, vc, rfl⟩ := own_slice hr.own
          have HNN := Lib.hid hn
          rw [← hn] at hol
          have ho := hr.only
          have hbB := Lib.hid (ho.below (B := w2.heap.size) (by have := HYS.out; have := HLT3.out; omega) (fun j hj e => by have := HLT3.out; omega))
          have e2 := ho.cell (by have := HLT.out; have := HLT3.out; omega) HIN4.out.2.1
          have co := hr.co
          rw [← hn] at co
          have HKD := Lib.hid hK
          have hfrB := HFR.out
          unfold I64 at hfrB
          have hcb := HGC.out.2
          have hlenb : (n : Int) ≤ have_ L.all p := by
            have h1 : ((ofPart L.all p).drop d).length ≤ (ofPart L.all p).length := by rw [List.length_drop]; omega
            have h2 : (outAt L.all p d L.all.length).length = ((ofPart L.all p).drop d).length := by unfold outAt; rw [List.take_length]
            unfold have_
            omega
          have hsum : frm + (n : Int) ≤ L.C p := by
            have h2 : (outAt L.all p d L.all.length).length = (ofPart L.all p).length - d := by unfold outAt; rw [List.take_length, List.length_drop]
            have h3 : d ≤ (ofPart L.all p).length := by have := HF1.out; have := HFD.out; unfold have_ at *; have := of_decide_eq_false d5; omega
            have := HF1.out
            have := HFD.out
            unfold have_ at *
            omega
          have hwr : IntKind.i64.wrap (frm + (n : Int)) = frm + n := by rw [IntKind.wrap_i64]; omega
          clear ho hr hK hn hsum hcb hfrB hlenb
          gi_wp2_with fail
          refine region_mi [(0, false), (1, false), (2, false), (3, false), (4, false), (5, false)] 6 (fun V => V.cell? ⟨w2.heap.size, 0, none⟩ = some (.slice va n vc) ∧ V.cell? ⟨w.heap.size + 2, 0, none⟩ = some (.int .i64 frm)) (by kernel_rfl) (by kernel_rfl) ⟨co, e2⟩ ?_
          iterate 6
            first
            | (refine m_take (v := ?_) rfl rfl ?_ ?_
               rotate_left
               · intro W hW
                 go_simp
                 with_reducible rfl
               simp only [Act.put, List.setIfInBounds_toArray, List.set_cons_zero, List.set_cons_succ])
            | (refine m_skip rfl rfl ?_
               simp only [Act.put, List.setIfInBounds_toArray, List.set_cons_zero, List.set_cons_succ])
          refine m_done ?_
          simp only [List.drop_succ_cons, List.drop_zero]
          go_wp2_with fail
          simp only [NP]
          gi_wp2_with fail
          refine ⟨by simp, .inl ⟨_, _, rfl, run_takeDeferred HKD.out, ?_⟩⟩
          have hcal := Calm.putObj (W := W.drew) (B := w.heap.size) (.deferred none) (by have := HYS.out; have := HLT3.out; have := HLT.out; omega) HKD.out rfl
          refine ⟨.tuple #[.slice va n vc, .int .i64 (frm + n), .int .i64 0], ?_, .slice va n vc, ?_, ?_, ?_⟩
          · simp [results, Try.results23, go_sem]
          · rw [HFE.out, HOUT.out, ← HNN.out]
          · rw [HFE.out, HOUT.out]
            have ho := ownsRow_calm (w := W.drew) HR.out.own hcal
            rw [← HNN.out] at ho ⊢
            exact ownsRow_mono ho (by have := HYS.out; have := HLT3.out; have := HLT.out; omega)
          · exact (HB4.out.trans (hbB.out.mono (by have := HLT.out; omega))).drew.trans hcal.below
        case stop =>
          intro D c W hD hr hK
          obtain ⟨rfl, k, v, hr, hkm⟩ := hr
          have HOUT := Lib.hid (outAt_full L.all p d k m hkm)
          have HR := Lib.hid hr
          have hol := outAt_le L.all p d k
          have hall := HSM.out.all
          obtain ⟨n, hn⟩ : ∃ n, n = (outAt L.all p d k).length := ⟨_, rfl⟩
          obtain ⟨va, vc, rfl⟩ := own_slice hr.own
          have HNN := Lib.hid hn
          rw [← hn] at hol
          have ho := hr.only
          have hbB := Lib.hid (ho.below (B := w2.heap.size) (by have := HYS.out; have := HLT3.out; omega) (fun j hj e => by have := HLT3.out; omega))
          have e2 := ho.cell (by have := HLT.out; have := HLT3.out; omega) HIN4.out.2.1
          have co := hr.co
          rw [← hn] at co
          have HKD := Lib.hid hK
          have hfrB := HFR.out
          unfold I64 at hfrB
          have hcb := HGC.out.2
          have hlenb : (n : Int) ≤ have_ L.all p := by
            have h1 : ((ofPart L.all p).drop d).length ≤ (ofPart L.all p).length := by rw [List.length_drop]; omega
            obtain ⟨t, ht⟩ := outAt_pre L.all p d k
            have h2 := congrArg List.length ht
            rw [List.length_append] at h2
            unfold have_
            omega
          have hsum : frm + (n : Int) ≤ L.C p := by
            obtain ⟨t, ht⟩ := outAt_pre L.all p d k
            have h2 := congrArg List.length ht
            rw [List.length_append, List.length_drop] at h2
            have h3 : d ≤ (ofPart L.all p).length := by have := HF1.out; have := HFD.out; unfold have_ at *; have := of_decide_eq_false d5; omega
            have := HF1.out
            have := HFD.out
            unfold have_ at *
            omega
          have hwr : IntKind.i64.wrap (frm + (n : Int)) = frm + n := by rw [IntKind.wrap_i64]; omega
          clear ho hr hK hn hsum hcb hfrB hlenb
          gi_wp2_with fail
          refine region_mi [(0, false), (1, false), (2, false), (3, false), (4, false), (5, false)] 6 (fun V => V.cell? ⟨w2.heap.size, 0, none⟩ = some (.slice va n vc) ∧ V.cell? ⟨w.heap.size + 2, 0, none⟩ = some (.int .i64 frm)) (by kernel_rfl) (by kernel_rfl) ⟨co, e2⟩ ?_
          iterate 6
            first
            | (refine m_take (v := ?_) rfl rfl ?_ ?_
               rotate_left
               · intro W hW
                 go_simp
                 with_reducible rfl
               simp only [Act.put, List.setIfInBounds_toArray, List.set_cons_zero, List.set_cons_succ])
            | (refine m_skip rfl rfl ?_
               simp only [Act.put, List.setIfInBounds_toArray, List.set_cons_zero, List.set_cons_succ])
          refine m_done ?_
          simp only [List.drop_succ_cons, List.drop_zero]
          go_wp2_with fail
          simp only [NP]
          gi_wp2_with fail
          refine ⟨by simp, .inl ⟨_, _, rfl, run_takeDeferred HKD.out, ?_⟩⟩
          have hcal := Calm.putObj (W := W.drew) (B := w.heap.size) (.deferred none) (by have := HYS.out; have := HLT3.out; have := HLT.out; omega) HKD.out rfl
          refine ⟨.tuple #[.slice va n vc, .int .i64 (frm + n), .int .i64 0], ?_, .slice va n vc, ?_, ?_, ?_⟩
          · simp [results, Try.results23, go_sem]
          · rw [HFE.out, HOUT.out, ← HNN.out]
          · rw [HFE.out, HOUT.out]
            have ho := ownsRow_calm (w := W.drew) HR.out.own hcal
            rw [← HNN.out] at ho ⊢
            exact ownsRow_mono ho (by have := HYS.out; have := HLT3.out; have := HLT.out; omega)
          · exact (HB4.out.trans (hbB.out.mono (by have := HLT.out; omega))).drew.trans hcal.below
end Go.Proofs.Ytkabfjbmofpkdaa

/- Layer 14: PartsApplies walked. -/
namespace Go.Proofs.Ytkabfjbmofpkdaa
open Go.RowKit Go.Shelf
set_option maxRecDepth 100000

theorem range_later {w w' : World} {b : Nat} {cs : List Value} (hb : Below w.heap.size w w') (h : w.rangeAt b 0 cs) : w'.rangeAt b 0 cs := fun j v hj => cell_later hb (h j v hj)
theorem rd_one {w : World} {sz n : Nat} {v : Value} {cs : List Value} (h : Rd w sz v n cs) : v.oneCell' = true := by
  obtain ⟨a, c, rfl, -⟩ := Rd.slice h
  rfl

set_option maxHeartbeats 4000000 in
theorem applies_core (L : Led) (E : Ent) (w : World) (hL : LedR w L) (hok : L.Ok) (hsz : L.Sz 1048576) (hG : OpsR w E.gv E.os) (hek : E.Ok) (hes : E.Small) :
    Calls Try.prog 3 #[.agg L.cells.toArray, .agg E.cells.toArray] w fun e w' => e = .returned (.bool true) ∧ Below w.heap.size w w' := by
  obtain ⟨X, hX⟩ : ∃ X, X = (w.alloc (.cells L.cells.toArray 30)).alloc (.cells E.cells.toArray 35) := ⟨_, rfl⟩
  have hbX : Below w.heap.size w X := by rw [hX]; exact below_box (below_alloc _ _) _
  have hBL : BoxL X w.heap.size L := by rw [hX]; exact (boxL_self w L 30).later (below_alloc _ _)
  have hBE : BoxE X (w.heap.size + 1) E := by
    rw [hX]
    have := boxE_self (w.alloc (.cells L.cells.toArray 30)) E 35
    rwa [World.size_alloc] at this
  have HX := Lib.hid hX
  have HBL := Lib.hid hBL
  have HBE := Lib.hid hBE
  have HBX := Lib.hid hbX
  have HL := Lib.hid hL
  have HOK := Lib.hid hok
  have HSM := Lib.hid (hsz.small (by omega))
  have HAOK := Lib.hid (apply_ok L E hok hek)
  have HASM := Lib.hid ((apply_sz L E hsz).small (by omega))
  have HG := Lib.hid hG
  have HEK := Lib.hid hek
  have HES := Lib.hid hes
  have HRL := Lib.hid hBL.range
  have HGA := Lib.hid (good_apply L E)
  clear hX hBL hBE hbX hL hok hsz hG hek hes
  go_enter Try.func3, Try.ntmps3
  go_upto_region 1 with fail
  rw [show (w.alloc (.cells L.cells.toArray 30)).alloc (.cells E.cells.toArray 35) = X from HX.out.symm]
  have e0 := HBE.out 0 _ rfl
  have e1 := HBE.out 1 _ rfl
  have e2 := HBE.out 2 _ rfl
  have e3 := HBE.out 3 _ rfl
  have e4 := HBE.out 4 _ rfl
  have e5 := HBE.out 5 _ rfl
  have e6 := HBE.out 6 _ rfl
  have e7 := HBE.out 7 _ rfl
  go_wp2_with (first | (refine wpList_load_mid rfl 30 _ rfl (w.heap.size) 0 rfl (Led.cells L) _ (by exact HRL.out) Try.underlying30 rfl (by show _ = some 16; kernel_rfl) ?_) | (refine wp_load_mid 30 _ rfl (w.heap.size) 0 rfl (Led.cells L) _ (by exact HRL.out) Try.underlying30 rfl (by show _ = some 16; kernel_rfl) ?_) | (refine list_loadk rfl rfl (b := w.heap.size) (off := 0) rfl (cs := Led.cells L) Try.underlying30 rfl (by show _ = some 16; kernel_rfl) (by exact HRL.out) ?_))
  clear e0 e1 e2 e3 e4 e5 e6 e7
  refine (apply_calls L E X (HL.out.below HBX.out (Nat.le_refl _)) HOK.out HSM.out (HG.out.below HBX.out (Nat.le_refl _)) HEK.out HES.out).mono ?_
  rintro e w1 ⟨M, rfl, hS, hO, hb1⟩
  have HS := Lib.hid hS
  have HO := Lib.hid hO
  have HB1 := Lib.hid (below_go HBX.out hb1)
  have HE1 := Lib.hid (HBE.out.later hb1)
  have HR1 := Lib.hid (range_later hb1 HRL.out)
  have hT := there_new w1
  unfold zero16 at hT
  have HT := Lib.hid hT
  clear hT
  have H1 := Lib.hid (led_all M (own_one hO.rows) (own_one hO.opn) (own_one hO.bats) (own_one hO.ops))
  clear hS hO hb1
  have hbn := box_new w1 M
  unfold zero16 at hbn
  have HBN := Lib.hid hbn
  clear hbn
  go_upto_region 2 with (first | (refine wpList_store_mid rfl 30 _ _ rfl (w1.heap.size) 0 (Led.cells M).toArray rfl rfl (by exact HT.out) (by show _ = some 16; kernel_rfl) H1.out ?_; generalize hWgen : World.setCells _ _ _ _ = W2 at *; clear hWgen) | (refine wp_store_mid 30 _ _ rfl (w1.heap.size) 0 (Led.cells M).toArray rfl rfl (by exact HT.out) (by show _ = some 16; kernel_rfl) H1.out ?_; generalize hWgen : World.setCells _ _ _ _ = W2 at *; clear hWgen))
  have HB2 := Lib.hid (below_go HB1.out HBN.out.2)
  have HE2 := Lib.hid (HE1.out.later HBN.out.2)
  have HR2 := Lib.hid (range_later HBN.out.2 HR1.out)
  have HRM := Lib.hid HBN.out.1.range
  have HM2 := Lib.hid (HO.out.below HBN.out.2).reads
  clear HO HT H1 HB1 HE1 HR1
  have e0 := HE2.out 0 _ rfl
  have e1 := HE2.out 1 _ rfl
  have e2 := HE2.out 2 _ rfl
  have e3 := HE2.out 3 _ rfl
  have e4 := HE2.out 4 _ rfl
  have e5 := HE2.out 5 _ rfl
  have e6 := HE2.out 6 _ rfl
  have e7 := HE2.out 7 _ rfl
  go_wp2_with (first | (refine wpList_load_mid rfl 30 _ rfl (w.heap.size) 0 rfl (Led.cells L) _ (by exact HR2.out) Try.underlying30 rfl (by show _ = some 16; kernel_rfl) ?_) | (refine wp_load_mid 30 _ rfl (w.heap.size) 0 rfl (Led.cells L) _ (by exact HR2.out) Try.underlying30 rfl (by show _ = some 16; kernel_rfl) ?_) | (refine list_loadk rfl rfl (b := w.heap.size) (off := 0) rfl (cs := Led.cells L) Try.underlying30 rfl (by show _ = some 16; kernel_rfl) (by exact HR2.out) ?_))
  clear e0 e1 e2 e3 e4 e5 e6 e7
  refine (rapply_calls L E W2 (HL.out.below HB2.out (Nat.le_refl _)) HOK.out HSM.out (HG.out.below HB2.out (Nat.le_refl _)) HEK.out HES.out).mono ?_
  rintro e w3 ⟨N, rfl, hS3, hR3, hb3⟩
  have HS3 := Lib.hid hS3
  have HN3 := Lib.hid hR3
  have HB3 := Lib.hid (below_go HB2.out hb3)
  have HR3 := Lib.hid (range_later hb3 HR2.out)
  have HRM3 := Lib.hid (range_later hb3 HRM.out)
  have HM3 := Lib.hid (HM2.out.below hb3 (Nat.le_refl _))
  have hT := there_new w3
  unfold zero16 at hT
  have HT := Lib.hid hT
  clear hT
  have H1 := Lib.hid (led_allR hR3)
  clear hS3 hR3 hb3
  have hbn := box_new w3 N
  unfold zero16 at hbn
  have HBN3 := Lib.hid hbn
  clear hbn
  go_upto_region 3 with (first | (refine wpList_store_mid rfl 30 _ _ rfl (w3.heap.size) 0 (Led.cells N).toArray rfl rfl (by exact HT.out) (by show _ = some 16; kernel_rfl) H1.out ?_; generalize hWgen : World.setCells _ _ _ _ = W4 at *; clear hWgen) | (refine wp_store_mid 30 _ _ rfl (w3.heap.size) 0 (Led.cells N).toArray rfl rfl (by exact HT.out) (by show _ = some 16; kernel_rfl) H1.out ?_; generalize hWgen : World.setCells _ _ _ _ = W4 at *; clear hWgen))
  have HB4 := Lib.hid (below_go HB3.out HBN3.out.2)
  have HR4 := Lib.hid (range_later HBN3.out.2 HR3.out)
  have HRM4 := Lib.hid (range_later HBN3.out.2 HRM3.out)
  have HRN4 := Lib.hid HBN3.out.1.range
  have HM4 := Lib.hid (HM3.out.below HBN3.out.2 (Nat.le_refl _))
  have HN4 := Lib.hid (HN3.out.below HBN3.out.2 (Nat.le_refl _))
  have HGM := Lib.hid HS.out.good
  generalize hga : (applyL L E).2.1 = GA at *
  generalize hgc : (applyL L E).2.2 = GC at *
  clear hga hgc HT H1 HN3 HM3 HRM3 HR3 HB3 HE2 HR2 HRM HM2
  by_cases hc : GC = 3
  · have hc1 : (GC == 3) = true := beq_iff_eq.2 hc
    clear hc HGA
    refine region_m [(0, true), (1, false), (2, false), (4, false), (3, true), (5, true), (6, false), (7, false), (8, false), (9, false), (10, false), (11, true), (12, false), (13, false), (14, false), (15, false), (16, false), (17, false), (18, false), (19, false), (20, false), (21, false), (22, false), (23, false), (24, false), (25, false), (26, false), (27, false), (28, true), (29, false), (30, false)] 31 (fun V => V.rangeAt w.heap.size 0 L.cells ∧ V.rangeAt w1.heap.size 0 M.cells ∧ V.rangeAt w3.heap.size 0 N.cells) (by kernel_rfl) (by kernel_rfl) ⟨HR4.out, HRM4.out, HRN4.out⟩ ?_
    refine m_loud rfl (fun K hK => ?_)
    have HK := Lib.hid hK
    clear hK
    go_simp
    refine (known14_calls _).mono ?_
    rintro e w5 ⟨rfl, hb5⟩
    have hb5 : Below W4.heap.size W4 w5 := ((Below.refl W4.heap.size W4).drew).trans hb5
    have HB5 := Lib.hid hb5
    clear hb5
    refine HK.out _ _ ⟨range_later HB5.out HR4.out, range_later HB5.out HRM4.out, range_later HB5.out HRN4.out⟩ ?_
    clear HK
    iterate 1
      first
      | (refine m_take (v := ?_) rfl rfl ?_ ?_
         rotate_left
         · intro W hW
           go_simp
           with_reducible rfl
         simp only [Act.put, List.setIfInBounds_toArray, List.set_cons_zero, List.set_cons_succ])
      | (refine m_skip rfl rfl ?_
         simp only [Act.put, List.setIfInBounds_toArray, List.set_cons_zero, List.set_cons_succ])
    refine m_loadk rfl rfl rfl rfl (fun W hW => hW.1) Try.underlying30 rfl (by show _ = some 16; kernel_rfl) ?_
    refine m_loadk rfl rfl rfl rfl (fun W hW => hW.1) Try.underlying30 rfl (by show _ = some 16; kernel_rfl) ?_
    simp only [Act.put, List.setIfInBounds_toArray, List.set_cons_zero, List.set_cons_succ]
    refine m_loud rfl (fun K hK => ?_)
    have HK := Lib.hid hK
    clear hK
    go_simp
    refine (pGood_calls L w5 (HL.out.below (below_go HB4.out HB5.out) (Nat.le_refl _)) HOK.out HSM.out).mono ?_
    rintro e w6 ⟨rfl, hb6⟩
    have HB6 := Lib.hid (below_go HB5.out hb6)
    clear hb6
    refine HK.out _ _ ⟨range_later HB6.out HR4.out, range_later HB6.out HRM4.out, range_later HB6.out HRN4.out⟩ ?_
    clear HK
    refine m_loud rfl (fun K hK => ?_)
    have HK := Lib.hid hK
    clear hK
    go_simp
    refine (rGood_calls L w6 (HL.out.below (below_go HB4.out HB6.out) (Nat.le_refl _)) HOK.out HSM.out).mono ?_
    rintro e w7 ⟨rfl, hb7⟩
    have HB7 := Lib.hid (below_go HB6.out hb7)
    clear hb7
    refine HK.out _ _ ⟨range_later HB7.out HR4.out, range_later HB7.out HRM4.out, range_later HB7.out HRN4.out⟩ ?_
    clear HK
    generalize L.good = G
    iterate 3
      first
      | (refine m_take (v := ?_) rfl rfl ?_ ?_
         rotate_left
         · intro W hW
           go_simp
           with_reducible rfl
         simp only [Act.put, List.setIfInBounds_toArray, List.set_cons_zero, List.set_cons_succ])
      | (refine m_skip rfl rfl ?_
         simp only [Act.put, List.setIfInBounds_toArray, List.set_cons_zero, List.set_cons_succ])
    refine m_loadk rfl rfl rfl rfl (fun W hW => hW.2.1) Try.underlying30 rfl (by show _ = some 16; kernel_rfl) ?_
    refine m_loadk rfl rfl rfl rfl (fun W hW => hW.2.2) Try.underlying30 rfl (by show _ = some 16; kernel_rfl) ?_
    simp only [Act.put, List.setIfInBounds_toArray, List.set_cons_zero, List.set_cons_succ]
    refine m_loud rfl (fun K hK => ?_)
    have HK := Lib.hid hK
    clear hK
    go_simp
    refine (same14_calls M N w7 (HM4.out.below HB7.out (Nat.le_refl _)) (HN4.out.below HB7.out (Nat.le_refl _)) (HS.out.symm.trans HS3.out)).mono ?_
    rintro e w8 ⟨rfl, hb8⟩
    have HB8 := Lib.hid (below_go HB7.out hb8)
    clear hb8
    refine HK.out _ _ ⟨range_later HB8.out HR4.out, range_later HB8.out HRM4.out, range_later HB8.out HRN4.out⟩ ?_
    clear HK
    iterate 16
      first
      | (refine m_take (v := ?_) rfl rfl ?_ ?_
         rotate_left
         · intro W hW
           go_simp
           with_reducible rfl
         simp only [Act.put, List.setIfInBounds_toArray, List.set_cons_zero, List.set_cons_succ])
      | (refine m_skip rfl rfl ?_
         simp only [Act.put, List.setIfInBounds_toArray, List.set_cons_zero, List.set_cons_succ])
    refine m_loud rfl (fun K hK => ?_)
    have HK := Lib.hid hK
    clear hK
    go_simp
    refine HK.out _ _ ⟨range_later HB8.out HR4.out, range_later HB8.out HRM4.out, range_later HB8.out HRN4.out⟩ ?_
    clear HK
    iterate 2
      first
      | (refine m_take (v := ?_) rfl rfl ?_ ?_
         rotate_left
         · intro W hW
           go_simp
           with_reducible rfl
         simp only [Act.put, List.setIfInBounds_toArray, List.set_cons_zero, List.set_cons_succ])
      | (refine m_skip rfl rfl ?_
         simp only [Act.put, List.setIfInBounds_toArray, List.set_cons_zero, List.set_cons_succ])
    refine m_done ?_
    simp only [List.drop_succ_cons, List.drop_zero]
    go_wp2_with fail
    simp only [NP]
    go_wp2_with fail
    go_ret
    exact ⟨rfl, below_go HB4.out HB8.out⟩
  · have hc1 : (GC == 3) = false := beq_eq_false_iff_ne.2 hc
    have hgm : M.good = true := by rw [HGM.out]; exact HGA.out.resolve_left hc
    have HGM := Lib.hid hgm
    clear hc HGA hgm
    refine region_m [(0, true), (1, false), (2, false), (4, false), (3, true), (5, true), (6, false), (7, false), (8, false), (9, false), (10, false), (11, true), (12, false), (13, false), (14, false), (15, false), (16, false), (17, false), (18, false), (19, false), (20, false), (21, false), (22, false), (23, false), (24, false), (25, false), (26, false), (27, false), (28, true), (29, false), (30, false)] 31 (fun V => V.rangeAt w.heap.size 0 L.cells ∧ V.rangeAt w1.heap.size 0 M.cells ∧ V.rangeAt w3.heap.size 0 N.cells) (by kernel_rfl) (by kernel_rfl) ⟨HR4.out, HRM4.out, HRN4.out⟩ ?_
    refine m_loud rfl (fun K hK => ?_)
    have HK := Lib.hid hK
    clear hK
    go_simp
    refine (known14_calls _).mono ?_
    rintro e w5 ⟨rfl, hb5⟩
    have hb5 : Below W4.heap.size W4 w5 := ((Below.refl W4.heap.size W4).drew).trans hb5
    have HB5 := Lib.hid hb5
    clear hb5
    refine HK.out _ _ ⟨range_later HB5.out HR4.out, range_later HB5.out HRM4.out, range_later HB5.out HRN4.out⟩ ?_
    clear HK
    iterate 1
      first
      | (refine m_take (v := ?_) rfl rfl ?_ ?_
         rotate_left
         · intro W hW
           go_simp
           with_reducible rfl
         simp only [Act.put, List.setIfInBounds_toArray, List.set_cons_zero, List.set_cons_succ])
      | (refine m_skip rfl rfl ?_
         simp only [Act.put, List.setIfInBounds_toArray, List.set_cons_zero, List.set_cons_succ])
    refine m_loadk rfl rfl rfl rfl (fun W hW => hW.1) Try.underlying30 rfl (by show _ = some 16; kernel_rfl) ?_
    refine m_loadk rfl rfl rfl rfl (fun W hW => hW.1) Try.underlying30 rfl (by show _ = some 16; kernel_rfl) ?_
    simp only [Act.put, List.setIfInBounds_toArray, List.set_cons_zero, List.set_cons_succ]
    refine m_loud rfl (fun K hK => ?_)
    have HK := Lib.hid hK
    clear hK
    go_simp
    refine (pGood_calls L w5 (HL.out.below (below_go HB4.out HB5.out) (Nat.le_refl _)) HOK.out HSM.out).mono ?_
    rintro e w6 ⟨rfl, hb6⟩
    have HB6 := Lib.hid (below_go HB5.out hb6)
    clear hb6
    refine HK.out _ _ ⟨range_later HB6.out HR4.out, range_later HB6.out HRM4.out, range_later HB6.out HRN4.out⟩ ?_
    clear HK
    refine m_loud rfl (fun K hK => ?_)
    have HK := Lib.hid hK
    clear hK
    go_simp
    refine (rGood_calls L w6 (HL.out.below (below_go HB4.out HB6.out) (Nat.le_refl _)) HOK.out HSM.out).mono ?_
    rintro e w7 ⟨rfl, hb7⟩
    have HB7 := Lib.hid (below_go HB6.out hb7)
    clear hb7
    refine HK.out _ _ ⟨range_later HB7.out HR4.out, range_later HB7.out HRM4.out, range_later HB7.out HRN4.out⟩ ?_
    clear HK
    generalize L.good = G
    iterate 3
      first
      | (refine m_take (v := ?_) rfl rfl ?_ ?_
         rotate_left
         · intro W hW
           go_simp
           with_reducible rfl
         simp only [Act.put, List.setIfInBounds_toArray, List.set_cons_zero, List.set_cons_succ])
      | (refine m_skip rfl rfl ?_
         simp only [Act.put, List.setIfInBounds_toArray, List.set_cons_zero, List.set_cons_succ])
    refine m_loadk rfl rfl rfl rfl (fun W hW => hW.2.1) Try.underlying30 rfl (by show _ = some 16; kernel_rfl) ?_
    refine m_loadk rfl rfl rfl rfl (fun W hW => hW.2.2) Try.underlying30 rfl (by show _ = some 16; kernel_rfl) ?_
    simp only [Act.put, List.setIfInBounds_toArray, List.set_cons_zero, List.set_cons_succ]
    refine m_loud rfl (fun K hK => ?_)
    have HK := Lib.hid hK
    clear hK
    go_simp
    refine (same14_calls M N w7 (HM4.out.below HB7.out (Nat.le_refl _)) (HN4.out.below HB7.out (Nat.le_refl _)) (HS.out.symm.trans HS3.out)).mono ?_
    rintro e w8 ⟨rfl, hb8⟩
    have HB8 := Lib.hid (below_go HB7.out hb8)
    clear hb8
    refine HK.out _ _ ⟨range_later HB8.out HR4.out, range_later HB8.out HRM4.out, range_later HB8.out HRN4.out⟩ ?_
    clear HK
    iterate 15
      first
      | (refine m_take (v := ?_) rfl rfl ?_ ?_
         rotate_left
         · intro W hW
           go_simp
           with_reducible rfl
         simp only [Act.put, List.setIfInBounds_toArray, List.set_cons_zero, List.set_cons_succ])
      | (refine m_skip rfl rfl ?_
         simp only [Act.put, List.setIfInBounds_toArray, List.set_cons_zero, List.set_cons_succ])
    refine m_loadk rfl rfl rfl rfl (fun W hW => hW.2.1) Try.underlying30 rfl (by show _ = some 16; kernel_rfl) ?_
    simp only [Act.put, List.setIfInBounds_toArray, List.set_cons_zero, List.set_cons_succ]
    refine m_loud rfl (fun K hK => ?_)
    have HK := Lib.hid hK
    clear hK
    go_simp
    refine (pGood_calls M w8 (HM4.out.below HB8.out (Nat.le_refl _)) (HS.out.ok HAOK.out) (HS.out.small HASM.out)).mono ?_
    rintro e w9 ⟨rfl, hb9⟩
    have HB9 := Lib.hid (below_go HB8.out hb9)
    clear hb9
    rw [HGM.out]
    refine HK.out _ _ ⟨range_later HB9.out HR4.out, range_later HB9.out HRM4.out, range_later HB9.out HRN4.out⟩ ?_
    clear HK
    iterate 2
      first
      | (refine m_take (v := ?_) rfl rfl ?_ ?_
         rotate_left
         · intro W hW
           go_simp
           with_reducible rfl
         simp only [Act.put, List.setIfInBounds_toArray, List.set_cons_zero, List.set_cons_succ])
      | (refine m_skip rfl rfl ?_
         simp only [Act.put, List.setIfInBounds_toArray, List.set_cons_zero, List.set_cons_succ])
    refine m_done ?_
    simp only [List.drop_succ_cons, List.drop_zero]
    go_wp2_with fail
    simp only [NP]
    go_wp2_with fail
    go_ret
    exact ⟨rfl, below_go HB4.out HB9.out⟩
end Go.Proofs.Ytkabfjbmofpkdaa

/- Layer 14: a whole partition that is fetched; a record that is taken, as data. -/
namespace Go.Proofs.Ytkabfjbmofpkdaa
open Go.RowKit Go.Shelf

theorem mod8_nat (n : Int) : ∃ k : Nat, wrap64 ((IntKind.u64.wrap n).tmod 8) = k ∧ k < 8 := by
  have e : IntKind.u64.wrap n = n % 18446744073709551616 := by simp [IntKind.wrap, IntKind.bits, IntKind.signed]
  rw [e, Int.tmod_eq_emod_of_nonneg (by omega)]
  refine ⟨((n % 18446744073709551616) % 8).toNat, ?_, by omega⟩
  unfold wrap64
  omega

def recE (r : Rec) : Ent := ⟨1, r, .slice none 0 0, [], 0⟩
theorem recE_ok {r : Rec} (h : r.ok) : (recE r).Ok ∧ (recE r).Small := ⟨⟨by unfold I64 recE; simp, h, by unfold I64 recE; simp, fun o ho => by cases ho⟩, ⟨by unfold recE; simp, fun o ho => by cases ho⟩⟩
theorem took_of {L : Led} {r : Rec} (h : (applyL L (recE r)).2.1 = true) : L.good = true ∧ goodRec r = true ∧ L.recTook r = true ∧ (applyL L (recE r)).1 = { L with rows := putRowAt ⟨r.p, r.q, r.s⟩ L.rows, C := L.bump r.q.toNat, opn := L.opn ++ [r] } := by
  unfold applyL at h ⊢
  split at h
  · rename_i hg
    rw [if_pos hg]
    have hE := (goodEnt_iff _ _ _ _).1 hg.2
    unfold stepL at h ⊢
    rw [if_pos (show (recE r).k = 1 from rfl)] at h ⊢
    have ht : L.recTook r = true := h
    refine ⟨hg.1, hE.2.2.2.2.2, ht, ?_⟩
    show L.recL r = _
    unfold Led.recL
    rw [if_pos ht]
  · cases h
theorem fetchOf_same {L M : Led} (h : SameL L M) (q frm most : Int) : M.fetchOf q frm most = L.fetchOf q frm most ∧ M.firstOf q = L.firstOf q := by
  have hf : M.firstOf q = L.firstOf q := by unfold Led.firstOf; rw [h.good, h.C, h.all]
  refine ⟨?_, hf⟩
  unfold Led.fetchOf
  rw [hf, h.good, h.C, h.all]
theorem ofPart_len (rs : List Rec) (q : Int) : (ofPart rs q).length ≤ rs.length := List.length_filter_le _ _
theorem fetch_whole {L : Led} (hg : L.good = true) {p : Nat} (hp : p < 8) (hsm : L.Small) : L.fetchOf p (L.firstOf p) 1073741824 = (ofPart L.all p, L.C p, 0) := by
  have hl := ofPart_len L.all p
  have ha := hsm.all
  have hc := counts_at ((good_iff L).1 hg).2.2 p hp
  have ht : ((ofPart L.all p).drop (L.firstOf p - L.firstOf p).toNat).take (1073741824 : Int).toNat = ofPart L.all p := by
    rw [Int.sub_self]
    show ((ofPart L.all p).drop 0).take 1073741824 = _
    rw [List.drop_zero, List.take_of_length_le (by omega)]
  unfold Led.fetchOf
  rw [if_neg (by simp [hg]), if_neg (by omega), if_neg (by rw [firstOf_good hg p hp, show (p : Int).toNat = p from rfl]; omega), ht, firstOf_good hg p hp]
  show (_, L.C p - have_ L.all p + ((have_ L.all p : Nat) : Int), _) = _
  rw [Int.sub_add_cancel]
theorem firstOf_I64 {L : Led} (hg : L.good = true) (hok : L.Ok) {p : Nat} (hp : p < 8) : I64 (L.firstOf p) := by
  have := good_C hg hok p hp
  rw [firstOf_good hg p hp]
  unfold I64
  omega
theorem ofPart_snoc (rs : List Rec) (r : Rec) (q : Int) : ofPart (rs ++ [r]) q = if r.q = q then ofPart rs q ++ [r] else ofPart rs q := by
  unfold ofPart
  rw [List.filter_append]
  by_cases h : r.q = q
  · rw [if_pos h]
    simp [h]
  · rw [if_neg h]
    simp [h]
/-- What is there of a partition behind a record that was taken. -/
theorem took_whole {L M : Led} {r : Rec} (h : (applyL L (recE r)).2.1 = true) (hS : SameL (applyL L (recE r)).1 M) (hgm : M.good = true) {p : Nat} (hp : p < 8) (hsm : M.Small) :
    M.fetchOf p (M.firstOf p) 1073741824 = (if r.q = p then ofPart L.all p ++ [r] else ofPart L.all p, if r.q = p then L.C p + 1 else L.C p, 0) := by
  obtain ⟨hg, hr, ht, hE⟩ := took_of h
  have hpq := goodRec_part hr
  have hall : M.all = L.all ++ [r] := by
    rw [hS.all, hE]
    show L.bats.flatMap (·.recs) ++ (L.opn ++ [r]) = _
    rw [← List.append_assoc]; rfl
  have hC : M.C p = if r.q = p then L.C p + 1 else L.C p := by
    rw [hS.C, hE]
    show L.bump r.q.toNat p = _
    unfold Led.bump
    by_cases e : r.q = p
    · rw [if_pos e, if_pos (by omega)]
    · rw [if_neg e, if_neg (by omega)]
  rw [fetch_whole hgm hp hsm, hall, hC, ofPart_snoc]
theorem rd_front {w : World} {sz n m : Nat} {v : Value} {xs ys : List Value} (h : Rd w sz v n (xs ++ ys)) (hm : m ≤ n) (hx : xs.length = m * sz) : ∃ a c, v = .slice a n c ∧ Rd w sz (.slice a m c) m xs := by
  obtain ⟨a, c, hv, h0, h1, h2, h3⟩ := h
  refine ⟨a, c, hv, a, c, rfl, hx, by omega, h2, ?_⟩
  rcases h3 with h3 | ⟨b, o, ha, hc⟩
  · exact .inl h3
  · exact .inr ⟨b, o, ha, fun j u hj => hc j u (by rw [List.getElem?_append_left (List.getElem?_eq_some_iff.1 hj).1]; exact hj)⟩
end Go.Proofs.Ytkabfjbmofpkdaa

/- Layer 14: the document's Fetch, walked. -/
namespace Go.Proofs.Ytkabfjbmofpkdaa
open Go.RowKit Go.Shelf
set_option maxRecDepth 100000

theorem rd_cut {w : World} {a : Option Addr} {n c d : Nat} {cs : List Value} (h : Rd w 5 (.slice a n c) n cs) (hd : d ≤ n) (hc : ¬ c = d) : ∃ b o, a = some ⟨b, o, none⟩ ∧ Rd w 5 (.slice (some ⟨b, o + d * 5, none⟩) (n - d) (c - d)) (n - d) (cs.drop (d * 5)) := by
  obtain ⟨a', c', hv, h0, h1, h2, h3⟩ := h
  simp only [Value.slice.injEq, true_and] at hv
  obtain ⟨rfl, rfl⟩ := hv
  rcases h3 with h3 | ⟨b, o, ha, hcell⟩
  · omega
  · refine ⟨b, o, ha, _, c - d, rfl, ?_, by omega, by omega, .inr ⟨b, o + d * 5, rfl, fun j u hj => ?_⟩⟩
    · rw [List.length_drop, h0, Nat.sub_mul]
    · rw [List.getElem?_drop] at hj
      have := hcell _ _ hj
      rw [Nat.add_assoc]; exact this
theorem recs_cut {w : World} {a : Option Addr} {n c d : Nat} {rs : List Rec} (h : Recs w (.slice a n c) rs) (hn : n = rs.length) (hd : d ≤ n) (hc : ¬ c = d) : ∃ b o, a = some ⟨b, o, none⟩ ∧ Recs w (.slice (some ⟨b, o + d * 5, none⟩) (n - d) (c - d)) (rs.drop d) := by
  subst hn
  obtain ⟨b, o, ha, hr⟩ := rd_cut h hd hc
  refine ⟨b, o, ha, ?_⟩
  unfold Recs
  rw [List.length_drop, ← flatF_drop rec5 _ _ hd]
  exact hr
theorem recs_front {w : World} {a : Option Addr} {n c m : Nat} {rs : List Rec} (h : Recs w (.slice a n c) rs) (hm : m ≤ rs.length) : Recs w (.slice a m c) (rs.take m) := by
  have h' : Rd w 5 (.slice a n c) rs.length (flatF Rec.cells (rs.take m) ++ flatF Rec.cells (rs.drop m)) := by rw [← flatF_append, List.take_append_drop]; exact h
  obtain ⟨a', c', hv, hr⟩ := rd_front h' hm (by rw [flatF_length rec5, List.length_take, Nat.min_eq_left hm])
  simp only [Value.slice.injEq] at hv
  obtain ⟨rfl, -, rfl⟩ := hv
  unfold Recs
  rw [List.length_take, Nat.min_eq_left hm]
  exact hr

set_option maxHeartbeats 8000000 in
theorem rfetch_calls (L : Led) (q frm most : Int) (w : World) (hL : LedR w L) (hok : L.Ok) (hsm : L.Small) (hfr : I64 frm) (hms : I64 most) :
    Calls Try.prog 24 #[.agg L.cells.toArray, .int .i64 q, .int .i64 frm, .int .i64 most] w fun e w' => ∃ v, e = .returned (.tuple #[v, .int .i64 (L.fetchOf q frm most).2.1, .int .i64 (L.fetchOf q frm most).2.2]) ∧
      Recs w' v (L.fetchOf q frm most).1 ∧ Below w.heap.size w w' := by
  obtain ⟨X, hX⟩ : ∃ X, X = w.alloc (.cells L.cells.toArray 30) := ⟨_, rfl⟩
  have hbX : Below w.heap.size w X := by rw [hX]; exact below_alloc _ _
  have hBL : BoxL X w.heap.size L := by rw [hX]; exact boxL_self w L 30
  have HX := Lib.hid hX
  have HBL := Lib.hid hBL
  have HBX := Lib.hid hbX
  have HL := Lib.hid hL
  have HOK := Lib.hid hok
  have HSM := Lib.hid hsm
  have HFR := Lib.hid hfr
  have HMS := Lib.hid hms
  have HRL := Lib.hid hBL.range
  clear hX hBL hbX hL hok hsm hfr hms
  go_enter Try.func24, Try.ntmps24
  go_upto_region 1 with fail
  rw [show w.alloc (.cells L.cells.toArray 30) = X from HX.out.symm]
  go_wp2_with (first | (refine wpList_load_mid rfl 30 _ rfl (w.heap.size) 0 rfl (Led.cells L) _ (by exact HRL.out) Try.underlying30 rfl (by show _ = some 16; kernel_rfl) ?_) | (refine wp_load_mid 30 _ rfl (w.heap.size) 0 rfl (Led.cells L) _ (by exact HRL.out) Try.underlying30 rfl (by show _ = some 16; kernel_rfl) ?_) | (refine list_loadk rfl rfl (b := w.heap.size) (off := 0) rfl (cs := Led.cells L) Try.underlying30 rfl (by show _ = some 16; kernel_rfl) (by exact HRL.out) ?_))
  refine (rGood_calls L X (HL.out.below HBX.out (Nat.le_refl _)) HOK.out HSM.out).mono ?_
  rintro e w1 ⟨rfl, hb1⟩
  have HB1 := Lib.hid (below_go HBX.out hb1)
  have HBL1 := Lib.hid (HBL.out.later hb1)
  have HRL1 := Lib.hid (HBL.out.later hb1).range
  clear hb1
  cases hg : L.good with
  | false =>
    have HF := Lib.hid (show L.fetchOf q frm most = ([], 0, 3) by unfold Led.fetchOf; rw [if_pos hg])
    clear hg
    go_wp2_with fail
    exact bodyPost_ret (v := .tuple #[.slice none 0 0, .int .i64 0, .int .i64 3]) (by simp [results, Try.results24, go_sem]) rfl ⟨.slice none 0 0, by rw [HF.out], by rw [HF.out]; exact Rd.nil _ _, HB1.out⟩
  | true =>
    have HG := Lib.hid hg
    clear hg
    by_cases hbad : q < 0 ∨ 8 ≤ q ∨ most < 0
    · have HF := Lib.hid (show L.fetchOf q frm most = ([], 0, 1) by unfold Led.fetchOf; rw [if_neg (by simp [HG.out]), if_pos hbad])
      have hways : decide (q < 0) = true ∨ (decide (q < 0) = false ∧ decide (7 < q) = true) ∨ (decide (q < 0) = false ∧ decide (7 < q) = false ∧ decide (most < 0) = true) := by
        simp only [decide_eq_true_eq, decide_eq_false_iff_not]
        omega
      clear hbad
      rcases hways with d1 | ⟨d1, d2⟩ | ⟨d1, d2, d3⟩
      all_goals
        go_wp2_with fail
        exact bodyPost_ret (v := .tuple #[.slice none 0 0, .int .i64 0, .int .i64 1]) (by simp [results, Try.results24, go_sem]) rfl ⟨.slice none 0 0, by rw [HF.out], by rw [HF.out]; exact Rd.nil _ _, HB1.out⟩
    · obtain ⟨p, hp⟩ : ∃ p : Nat, q = p := ⟨q.toNat, by omega⟩
      obtain ⟨m, hm⟩ : ∃ m : Nat, most = m := ⟨most.toNat, by omega⟩
      have hp8 : p < 8 := by omega
      subst hp
      subst hm
      have hp8i : (p : Int) < 8 := by omega
      have d1 : decide ((p : Int) < 0) = false := decide_eq_false (by omega)
      have d2 : decide (7 < (p : Int)) = false := decide_eq_false (by omega)
      have d2' : decide (7 < p) = false := decide_eq_false (by omega)
      have d3 : decide ((m : Int) < 0) = false := decide_eq_false (by omega)
      have HF1 := Lib.hid (firstOf_good HG.out p hp8)
      have HGC := Lib.hid (good_C HG.out HOK.out p hp8)
      have HFE := Lib.hid (show L.fetchOf p frm m = if frm < L.firstOf p ∨ L.C p < frm then ([], 0, 8) else (((ofPart L.all p).drop (frm - L.firstOf p).toNat).take m, frm + (((ofPart L.all p).drop (frm - L.firstOf p).toNat).take m).length, 0) by
        unfold Led.fetchOf; rw [if_neg (by simp [HG.out]), if_neg hbad]; rfl)
      clear hbad
      go_wp2_with (first | (refine wpList_load_mid rfl 30 _ rfl (w.heap.size) 0 rfl (Led.cells L) _ (by exact HRL1.out) Try.underlying30 rfl (by show _ = some 16; kernel_rfl) ?_) | (refine wp_load_mid 30 _ rfl (w.heap.size) 0 rfl (Led.cells L) _ (by exact HRL1.out) Try.underlying30 rfl (by show _ = some 16; kernel_rfl) ?_) | (refine list_loadk rfl rfl (b := w.heap.size) (off := 0) rfl (cs := Led.cells L) Try.underlying30 rfl (by show _ = some 16; kernel_rfl) (by exact HRL1.out) ?_))
      refine (of_calls L p w1 (HL.out.below HB1.out (Nat.le_refl _)) HSM.out).mono ?_
      rintro e w2 ⟨v, rfl, ho, hb2⟩
      have HB2 := Lib.hid (below_go HB1.out hb2)
      have HCP := Lib.hid ((HBL1.out.later hb2) (1 + p) _ (cells_C L p hp8))
      have HO := Lib.hid (show Recs w2 v (ofPart L.all p) from Rd.of_own ho)
      obtain ⟨n, hn⟩ : ∃ n, n = (ofPart L.all p).length := ⟨_, rfl⟩
      obtain ⟨F, hF⟩ : ∃ F, F = L.firstOf p := ⟨_, rfl⟩
      have hCF : L.C p - n = F := by rw [hF, HF1.out, hn]; rfl
      have hwr : IntKind.i64.wrap (L.C p - n) = F := by
        rw [hCF, IntKind.wrap_i64]
        have := HGC.out
        have h2 : (n : Int) = have_ L.all p := by rw [hn]; rfl
        omega
      have HNN := Lib.hid hn
      have HFF := Lib.hid hF
      have hcp := HCP.out
      rw [← hF] at HFE
      have hlen := ofPart_len L.all p
      have hall := HSM.out.all
      obtain ⟨aa, ac, rfl, hac1, hac2⟩ := Rd.slice HO.out
      rw [← hn] at hlen hac1 ⊢
      have HCF := Lib.hid hCF
      clear ho hb2 hn hF hCF
      by_cases hr : frm < F ∨ L.C p < frm
      · have HF := Lib.hid (show L.fetchOf p frm m = ([], 0, 8) by rw [HFE.out, if_pos hr])
        have hways : decide (frm < F) = true ∨ (decide (frm < F) = false ∧ decide (L.C p < frm) = true) := by
          simp only [decide_eq_true_eq, decide_eq_false_iff_not]
          omega
        clear hr
        rcases hways with d4 | ⟨d4, d5⟩
        all_goals
          go_wp2_with fail
          exact bodyPost_ret (v := .tuple #[.slice none 0 0, .int .i64 0, .int .i64 8]) (by simp [results, Try.results24, go_sem]) rfl ⟨.slice none 0 0, by rw [HF.out], by rw [HF.out]; exact Rd.nil _ _, HB2.out⟩
      · have d4 : decide (frm < F) = false := decide_eq_false (by omega)
        have d5 : decide (L.C p < frm) = false := decide_eq_false (by omega)
        obtain ⟨d, hd⟩ : ∃ d, d = (frm - F).toNat := ⟨_, rfl⟩
        have hfd : frm - F = d := by omega
        rw [if_neg hr, ← hd] at HFE
        have hdn : d ≤ n := by have := HCF.out; omega
        have hdn' : (d : Int) ≤ n := by omega
        have hwf : IntKind.i64.wrap (frm - F) = d := by rw [hfd, IntKind.wrap_i64]; omega
        have HFD := Lib.hid hfd
        have HLD := Lib.hid (show ((ofPart L.all p).drop d).length = n - d by rw [List.length_drop, ← HNN.out])
        have h0d : (0 : Int) ≤ d := by omega
        have hdc : d ≤ ac := by omega
        have hdc' : (d : Int) ≤ ac := by omega
        clear hr hd hfd
        by_cases hac : ac = d
        · obtain rfl : n = d := by omega
          obtain rfl := hac
          have HE := Lib.hid (show L.fetchOf p frm m = ([], frm, 0) by
            have h0 : (ofPart L.all p).drop ac = [] := List.drop_eq_nil_of_le (by rw [← HNN.out]; omega)
            rw [HFE.out, h0]
            simp)
          have HW := Lib.hid (show wrap64 frm = frm by have := HFR.out; unfold I64 at this; unfold wrap64; omega)
          go_wp2_with fail
          exact bodyPost_ret (v := .tuple #[.slice aa 0 0, .int .i64 frm, .int .i64 0]) (by simp [results, Try.results24, go_sem, HW.out]) rfl ⟨.slice aa 0 0, by rw [HE.out], by rw [HE.out]; exact ⟨aa, 0, rfl, rfl, Nat.le_refl _, by omega, .inl rfl⟩, HB2.out⟩
        · obtain ⟨b, o, rfl, hcut⟩ := recs_cut HO.out rfl (by rw [← HNN.out]; exact hdn) hac
          rw [← HNN.out] at hcut
          have HCUT := Lib.hid hcut
          clear hcut
          by_cases hmn : m < n - d
          · have d6 : decide (m < n - d) = true := decide_eq_true hmn
            have d6' : decide ((m : Int) < ((n - d : Nat) : Int)) = true := decide_eq_true (by omega)
            have HE := Lib.hid (show L.fetchOf p frm m = (((ofPart L.all p).drop d).take m, frm + m, 0) by
              rw [HFE.out, List.length_take, HLD.out, Nat.min_eq_left (Nat.le_of_lt hmn)])
            have HW := Lib.hid (show wrap64 (frm + m) = frm + m by
              have := HFR.out; have := HFD.out; have := HCF.out; have := HGC.out; unfold I64 at *; unfold wrap64; omega)
            have HRC := Lib.hid (recs_front HCUT.out (m := m) (by rw [HLD.out]; omega))
            go_wp2_with fail
            exact bodyPost_ret (v := .tuple #[.slice (some ⟨b, o + d * 5, none⟩) m (ac - d), .int .i64 (frm + m), .int .i64 0]) (by simp [results, Try.results24, go_sem, HW.out]) rfl ⟨_, by rw [HE.out], by rw [HE.out]; exact HRC.out, HB2.out⟩
          · have d6 : decide (m < n - d) = false := decide_eq_false hmn
            have d6' : decide ((m : Int) < ((n - d : Nat) : Int)) = false := decide_eq_false (by omega)
            have HT := Lib.hid (show ((ofPart L.all p).drop d).take m = (ofPart L.all p).drop d from List.take_of_length_le (by rw [HLD.out]; omega))
            have HE := Lib.hid (show L.fetchOf p frm m = ((ofPart L.all p).drop d, frm + ((n - d : Nat) : Int), 0) by
              rw [HFE.out, HT.out, HLD.out])
            have HW := Lib.hid (show wrap64 (frm + ((n - d : Nat) : Int)) = frm + ((n - d : Nat) : Int) by
              have := HFR.out; have := HFD.out; have := HCF.out; have := HGC.out; unfold I64 at *; unfold wrap64; omega)
            go_wp2_with fail
            exact bodyPost_ret (v := .tuple #[.slice (some ⟨b, o + d * 5, none⟩) (n - d) (ac - d), .int .i64 (frm + ((n - d : Nat) : Int)), .int .i64 0]) (by simp [results, Try.results24, go_sem, HW.out]) rfl ⟨_, by rw [HE.out], by rw [HE.out]; exact HCUT.out, HB2.out⟩
end Go.Proofs.Ytkabfjbmofpkdaa

/- Layer 14: Batch, walked. -/
namespace Go.Proofs.Ytkabfjbmofpkdaa
open Go.RowKit Go.Shelf
set_option maxRecDepth 100000

/-- An epoch's records, and the error. -/
def Led.batchOf (L : Led) (ep : Int) : List Rec × Int := if L.good = false then ([], 3) else match L.bats.find? (fun b => b.ep == ep) with
  | some b => (b.recs, 0)
  | none => ([], 7)
theorem batchOf_at {L : Led} (hg : L.good = true) {ep : Int} {i : Nat} (hi : i < L.bats.length) (hne : ∀ b ∈ L.bats.take i, b.ep ≠ ep) (he : L.bats[i].ep = ep) : L.batchOf ep = (L.bats[i].recs, 0) := by
  have h : L.bats.find? (fun b => b.ep == ep) = some L.bats[i] := by
    refine (congrArg (List.find? _) (List.take_append_drop i L.bats).symm).trans ?_
    rw [List.find?_append, List.find?_eq_none.2 (fun b hb => by simpa using hne b hb), Option.none_or, List.drop_eq_getElem_cons hi, List.find?_cons_of_pos (by simpa using he)]
  unfold Led.batchOf
  rw [if_neg (by simp [hg]), h]
theorem batchOf_none {L : Led} (hg : L.good = true) {ep : Int} (hne : ∀ b ∈ L.bats, b.ep ≠ ep) : L.batchOf ep = ([], 7) := by
  unfold Led.batchOf
  rw [if_neg (by simp [hg]), List.find?_eq_none.2 (fun b hb => by simpa using hne b hb)]
theorem ne_succ {bs : List Bt} {ep : Int} {i : Nat} (hi : i < bs.length) (hne : ∀ b ∈ bs.take i, b.ep ≠ ep) (h : bs[i].ep ≠ ep) : ∀ b ∈ bs.take (i + 1), b.ep ≠ ep := by
  intro b hb
  rw [List.take_succ_eq_append_getElem hi] at hb
  rcases List.mem_append.1 hb with hb | hb
  · exact hne b hb
  · rw [List.mem_singleton] at hb; rw [hb]; exact h

set_option maxHeartbeats 8000000 in
theorem batch_calls (L : Led) (ep : Int) (w : World) (hL : LedR w L) (hok : L.Ok) (hsm : L.Small) :
    Calls Try.prog 20 #[.agg L.cells.toArray, .int .i64 ep] w fun e w' => ∃ v, e = .returned (.tuple #[v, .int .i64 (L.batchOf ep).2]) ∧
      w'.ownsRow w.heap.size 33 5 v (L.batchOf ep).1.length (flatF Rec.cells (L.batchOf ep).1) ∧ Below w.heap.size w w' := by
  obtain ⟨X, hX⟩ : ∃ X, X = w.alloc (.cells L.cells.toArray 30) := ⟨_, rfl⟩
  have hbX : Below w.heap.size w X := by rw [hX]; exact below_alloc _ _
  have hBL : BoxL X w.heap.size L := by rw [hX]; exact boxL_self w L 30
  have HX := Lib.hid hX
  have HBL := Lib.hid hBL
  have HBX := Lib.hid hbX
  have HL := Lib.hid hL
  have HOK := Lib.hid hok
  have HSM := Lib.hid hsm
  have HRL := Lib.hid hBL.range
  obtain ⟨ba, bc, hbv, hbc, -⟩ := hL.bats.row.slice
  have HBV := Lib.hid hbv
  clear hX hBL hbX hL hok hsm hbv
  go_enter Try.func20, Try.ntmps20
  go_upto_region 1 with fail
  rw [show w.alloc (.cells L.cells.toArray 30) = X from HX.out.symm]
  go_wp2_with (first | (refine wpList_load_mid rfl 30 _ rfl (w.heap.size) 0 rfl (Led.cells L) _ (by exact HRL.out) Try.underlying30 rfl (by show _ = some 16; kernel_rfl) ?_) | (refine wp_load_mid 30 _ rfl (w.heap.size) 0 rfl (Led.cells L) _ (by exact HRL.out) Try.underlying30 rfl (by show _ = some 16; kernel_rfl) ?_) | (refine list_loadk rfl rfl (b := w.heap.size) (off := 0) rfl (cs := Led.cells L) Try.underlying30 rfl (by show _ = some 16; kernel_rfl) (by exact HRL.out) ?_))
  refine (pGood_calls L X (HL.out.below HBX.out (Nat.le_refl _)) HOK.out HSM.out).mono ?_
  rintro e w1 ⟨rfl, hb1⟩
  have HB1 := Lib.hid (below_go HBX.out hb1)
  have HBL1 := Lib.hid (HBL.out.later hb1)
  clear hb1
  cases hg : L.good with
  | false =>
    have HF := Lib.hid (show L.batchOf ep = ([], 3) by unfold Led.batchOf; rw [if_pos hg])
    clear hg
    go_wp2_with fail
    exact bodyPost_ret (v := .tuple #[.slice none 0 0, .int .i64 3]) (by simp [results, Try.results20, go_sem]) rfl ⟨.slice none 0 0, by rw [HF.out], by rw [HF.out]; exact World.ownsRow_nil _ _ _ _, HB1.out⟩
  | true =>
    have HG := Lib.hid hg
    have hn := HSM.out.bats
    have c10 := HBL1.out 10 _ rfl
    rw [HBV.out] at c10
    clear hg
    go_wp2_with fail
    go_loopw [7, 14] (fun _ iv wr => ∃ i : Nat, i ≤ L.bats.length ∧ iv = .int .i64 i ∧ (∀ b ∈ L.bats.take i, b.ep ≠ ep) ∧ Below w1.heap.size w1 wr) (fun _ iv _ => L.bats.length - (intOf iv).toNat)
    case atStart => exact ⟨0, by omega, rfl, fun b hb => by simp at hb, Below.refl _ _⟩
    case round =>
      obtain ⟨i, hi, rfl, hne, hb⟩ := hrel
      have HNE := Lib.hid hne
      have HB := Lib.hid hb
      have HLR := Lib.hid (HL.out.below (below_go HB1.out hb) (Nat.le_refl _))
      clear hne hb c10
      by_cases hlt : i < L.bats.length
      · have hrow := HLR.out.bats
        rw [HBV.out] at hrow
        obtain ⟨b, o, rfl, c0, c1⟩ := bt_at hrow i hlt
        have hrec := HLR.out.bats.recs L.bats[i] (List.getElem_mem _)
        have HRC := Lib.hid hrec
        have HRN := Lib.hid (HSM.out.recs L.bats[i] (List.getElem_mem _))
        obtain ⟨ra', rc', hrv', hrc', -⟩ := Rd.slice hrec
        have HAT := Lib.hid (batchOf_at HG.out hlt HNE.out)
        have HSU := Lib.hid (ne_succ hlt HNE.out)
        clear hrow hrec
        generalize L.bats[i] = B at *
        obtain ⟨e1, rv', recs⟩ := B
        simp only at HAT HSU HRC HRN c0 c1 hrv'
        subst hrv'
        by_cases hq : e1 = ep
        · have HF := Lib.hid (HAT.out hq)
          have d1 : (e1 == ep) = true := beq_iff_eq.2 hq
          clear hq
          go_wp2_with fail
          refine (clRec_calls _ recs.length (flatF Rec.cells recs) _ (Rd.below HRC.out (below_alloc _ _) (Nat.le_refl _)) (recs_one _) (by have := HRN.out; omega)).mono ?_
          rintro e w3 ⟨v, rfl, ho, hb3⟩
          have HO := Lib.hid ho
          have HB3 := Lib.hid hb3
          clear ho hb3
          go_wp2_with fail
          exact bodyPost_ret (v := .tuple #[v, .int .i64 0]) (by simp [results, Try.results20, go_sem]) rfl ⟨v, by rw [HF.out], by rw [HF.out]; exact ownsRow_mono HO.out (by have := HB1.out.size; have := HB.out.size; simp; omega), below_go (below_go HB1.out HB.out) (below_go (below_alloc _ _) HB3.out)⟩
        · have HN1 := Lib.hid (HSU.out hq)
          have d1 : (e1 == ep) = false := beq_eq_false_iff_ne.2 hq
          clear hq
          go_wp2_with fail
          go_roundw
          case rel => exact ⟨i + 1, by omega, by go_num, HN1.out, below_go HB.out (below_alloc _ _)⟩
          case measure => simp [intOf]; omega
      · obtain rfl : i = L.bats.length := by omega
        have HF := Lib.hid (batchOf_none HG.out (ep := ep) (by have := HNE.out; rwa [List.take_length] at this))
        go_wp2_with fail
        exact bodyPost_ret (v := .tuple #[.slice none 0 0, .int .i64 7]) (by simp [results, Try.results20, go_sem]) rfl ⟨.slice none 0 0, by rw [HF.out], by rw [HF.out]; exact World.ownsRow_nil _ _ _ _, below_go HB1.out HB.out⟩
end Go.Proofs.Ytkabfjbmofpkdaa

/- Layer 14: PartsReads walked. -/
namespace Go.Proofs.Ytkabfjbmofpkdaa
open Go.RowKit Go.Shelf
set_option maxRecDepth 100000

theorem firstOf_bad {L : Led} (hg : L.good = false) (q : Int) : L.firstOf q = 0 := by
  unfold Led.firstOf
  rw [if_neg (by simp [hg])]
theorem firstOf_out {L : Led} {q : Int} (hq : q < 0 ∨ 8 ≤ q) : L.firstOf q = 0 := by
  unfold Led.firstOf
  rw [if_neg (by omega)]

set_option maxHeartbeats 8000000 in
theorem reads_core (L : Led) (a b c ep : Int) (w : World) (hL : LedR w L) (hok : L.Ok) (hsm : L.Small) (ha : I64 a) (hb : I64 b) (hc : I64 c) :
    Calls Try.prog 8 #[.agg L.cells.toArray, .agg #[.int .i64 a, .int .i64 b, .int .i64 c], .int .i64 ep] w fun e w' => e = .returned (.bool true) ∧ Below w.heap.size w w' := by
  obtain ⟨X, hX⟩ : ∃ X, X = (w.alloc (.cells L.cells.toArray 30)).alloc (.cells #[.int .i64 a, .int .i64 b, .int .i64 c] 62) := ⟨_, rfl⟩
  have hbX : Below w.heap.size w X := by rw [hX]; exact below_box (below_alloc _ _) _
  have hBL : BoxL X w.heap.size L := by rw [hX]; exact (boxL_self w L 30).later (below_alloc _ _)
  have hA : X.cell? ⟨w.heap.size + 1, 0, none⟩ = some (.int .i64 a) ∧ X.cell? ⟨w.heap.size + 1, 1, none⟩ = some (.int .i64 b) ∧ X.cell? ⟨w.heap.size + 1, 2, none⟩ = some (.int .i64 c) := by
    rw [hX]
    refine ⟨?_, ?_, ?_⟩ <;> rw [World.cell?_alloc_at _ _ _ _ (by simp)] <;> rfl
  obtain ⟨fr, fn, fe, hft⟩ : ∃ fr fn fe, L.fetchOf a b c = (fr, fn, fe) := ⟨_, _, _, rfl⟩
  obtain ⟨br, be, hbt⟩ : ∃ br be, L.batchOf ep = (br, be) := ⟨_, _, rfl⟩
  obtain ⟨ba, bc, hbv, hbc, -⟩ := hL.bats.row.slice
  have HBV := Lib.hid hbv
  have HX := Lib.hid hX
  have HBL := Lib.hid hBL
  have HBX := Lib.hid hbX
  have HL := Lib.hid hL
  have HOK := Lib.hid hok
  have HSM := Lib.hid hsm
  have HA := Lib.hid hA
  have HFT := Lib.hid hft
  have HBT := Lib.hid hbt
  have HI := Lib.hid (And.intro ha (And.intro hb hc))
  clear hX hBL hbX hL hok hsm hA hft hbt ha hb hc hbv
  go_enter Try.func8, Try.ntmps8
  go_upto_region 1 with fail
  rw [show (w.alloc (.cells L.cells.toArray 30)).alloc (.cells #[.int .i64 a, .int .i64 b, .int .i64 c] 62) = X from HX.out.symm]
  go_wp2_with fail
  refine (known14_calls _).mono ?_
  rintro e w0 ⟨rfl, hb0⟩
  have HB0 := Lib.hid (below_go HBX.out hb0)
  have HBL0 := Lib.hid (HBL.out.later hb0)
  have HRL := Lib.hid (HBL.out.later hb0).range
  have HA0 := Lib.hid (And.intro (cell_later hb0 HA.out.1) (And.intro (cell_later hb0 HA.out.2.1) (cell_later hb0 HA.out.2.2)))
  have a0 := HA0.out.1
  have a1 := HA0.out.2.1
  have a2 := HA0.out.2.2
  clear hb0
  go_wp2_with (first | (refine wpList_load_mid rfl 30 _ rfl (w.heap.size) 0 rfl (Led.cells L) _ (by exact HRL.out) Try.underlying30 rfl (by show _ = some 16; kernel_rfl) ?_) | (refine wp_load_mid 30 _ rfl (w.heap.size) 0 rfl (Led.cells L) _ (by exact HRL.out) Try.underlying30 rfl (by show _ = some 16; kernel_rfl) ?_) | (refine list_loadk rfl rfl (b := w.heap.size) (off := 0) rfl (cs := Led.cells L) Try.underlying30 rfl (by show _ = some 16; kernel_rfl) (by exact HRL.out) ?_))
  have hF := fetch_calls L a b c w0 (HL.out.below HB0.out (Nat.le_refl _)) HOK.out HSM.out HI.out.2.1 HI.out.2.2
  rw [HFT.out] at hF
  refine hF.mono ?_
  clear hF
  rintro e w1 ⟨va, rfl, hoa, hb1⟩
  have HB1 := Lib.hid (below_go HB0.out hb1)
  have HBL1 := Lib.hid (HBL0.out.later hb1)
  have HRL1 := Lib.hid HBL1.out.range
  have HA1 := Lib.hid (And.intro (cell_later hb1 HA0.out.1) (And.intro (cell_later hb1 HA0.out.2.1) (cell_later hb1 HA0.out.2.2)))
  have HVA := Lib.hid (show Recs w1 va fr from Rd.of_own hoa)
  obtain ⟨aa, ac, rfl⟩ := own_slice hoa
  clear hoa hb1 a0 a1 a2
  have a0 := HA1.out.1
  have a1 := HA1.out.2.1
  have a2 := HA1.out.2.2
  simp only
  go_wp2_with (first | (refine wpList_load_mid rfl 30 _ rfl (w.heap.size) 0 rfl (Led.cells L) _ (by exact HRL1.out) Try.underlying30 rfl (by show _ = some 16; kernel_rfl) ?_) | (refine wp_load_mid 30 _ rfl (w.heap.size) 0 rfl (Led.cells L) _ (by exact HRL1.out) Try.underlying30 rfl (by show _ = some 16; kernel_rfl) ?_) | (refine list_loadk rfl rfl (b := w.heap.size) (off := 0) rfl (cs := Led.cells L) Try.underlying30 rfl (by show _ = some 16; kernel_rfl) (by exact HRL1.out) ?_))
  have hF := rfetch_calls L a b c w1 (HL.out.below HB1.out (Nat.le_refl _)) HOK.out HSM.out HI.out.2.1 HI.out.2.2
  rw [HFT.out] at hF
  refine hF.mono ?_
  clear hF
  rintro e w2 ⟨vr, rfl, hor, hb2⟩
  have HB2 := Lib.hid (below_go HB1.out hb2)
  have HBL2 := Lib.hid (HBL1.out.later hb2)
  have HVA2 := Lib.hid (Rd.below HVA.out hb2 (Nat.le_refl _))
  have HVR := Lib.hid hor
  have HA2 := Lib.hid (And.intro (cell_later hb2 HA1.out.1) (And.intro (cell_later hb2 HA1.out.2.1) (cell_later hb2 HA1.out.2.2)))
  clear hor hb2 a0 a1 a2
  simp only
  have dn : (fn != fn) = false := bne_self_eq_false _
  have de : (fe != fe) = false := bne_self_eq_false _
  go_wp2_with fail
  refine (sameRecs_calls _ _ fr w2 HVA2.out HVR.out).mono ?_
  rintro e w3 ⟨rfl, hb3⟩
  have HB3 := Lib.hid (below_go HB2.out hb3)
  have HBL3 := Lib.hid (HBL2.out.later hb3)
  have HRL3 := Lib.hid HBL3.out.range
  have HA3 := Lib.hid (cell_later hb3 HA2.out.1)
  clear hb3
  go_wp2_with (first | (refine wpList_load_mid rfl 30 _ rfl (w.heap.size) 0 rfl (Led.cells L) _ (by exact HRL3.out) Try.underlying30 rfl (by show _ = some 16; kernel_rfl) ?_) | (refine wp_load_mid 30 _ rfl (w.heap.size) 0 rfl (Led.cells L) _ (by exact HRL3.out) Try.underlying30 rfl (by show _ = some 16; kernel_rfl) ?_) | (refine list_loadk rfl rfl (b := w.heap.size) (off := 0) rfl (cs := Led.cells L) Try.underlying30 rfl (by show _ = some 16; kernel_rfl) (by exact HRL3.out) ?_))
  refine (rGood_calls L w3 (HL.out.below HB3.out (Nat.le_refl _)) HOK.out HSM.out).mono ?_
  rintro e w4 ⟨rfl, hb4⟩
  have HB4 := Lib.hid (below_go HB3.out hb4)
  have HBL4 := Lib.hid (HBL3.out.later hb4)
  have HRL4 := Lib.hid HBL4.out.range
  have HA4 := Lib.hid (cell_later hb4 HA3.out)
  clear hb4 dn de
  have a0 := HA4.out
  cases hg : L.good with
  | false =>
    have HF1 := Lib.hid (firstOf_bad hg a)
    have hbt := HBT.out
    unfold Led.batchOf at hbt
    rw [if_pos hg] at hbt
    simp only [Prod.mk.injEq] at hbt
    obtain ⟨rfl, rfl⟩ := hbt
    have HG := Lib.hid hg
    clear hg
    go_wp2_with (first | (refine wpList_load_mid rfl 30 _ rfl (w.heap.size) 0 rfl (Led.cells L) _ (by exact HRL4.out) Try.underlying30 rfl (by show _ = some 16; kernel_rfl) ?_) | (refine wp_load_mid 30 _ rfl (w.heap.size) 0 rfl (Led.cells L) _ (by exact HRL4.out) Try.underlying30 rfl (by show _ = some 16; kernel_rfl) ?_) | (refine list_loadk rfl rfl (b := w.heap.size) (off := 0) rfl (cs := Led.cells L) Try.underlying30 rfl (by show _ = some 16; kernel_rfl) (by exact HRL4.out) ?_))
    have hF := batch_calls L ep w4 (HL.out.below HB4.out (Nat.le_refl _)) HOK.out HSM.out
    rw [HBT.out] at hF
    refine hF.mono ?_
    clear hF
    rintro e w5 ⟨vb, rfl, hob, hb5⟩
    have HB5 := Lib.hid (below_go HB4.out hb5)
    have HBL5 := Lib.hid (HBL4.out.later hb5)
    have HRL5 := Lib.hid HBL5.out.range
    have HA5 := Lib.hid (cell_later hb5 HA4.out)
    obtain ⟨ga, gc, rfl⟩ := own_slice hob
    clear hob hb5 a0
    have a0 := HA5.out
    simp only [List.length_nil]
    go_wp2_with (first | (refine wpList_load_mid rfl 30 _ rfl (w.heap.size) 0 rfl (Led.cells L) _ (by exact HRL5.out) Try.underlying30 rfl (by show _ = some 16; kernel_rfl) ?_) | (refine wp_load_mid 30 _ rfl (w.heap.size) 0 rfl (Led.cells L) _ (by exact HRL5.out) Try.underlying30 rfl (by show _ = some 16; kernel_rfl) ?_) | (refine list_loadk rfl rfl (b := w.heap.size) (off := 0) rfl (cs := Led.cells L) Try.underlying30 rfl (by show _ = some 16; kernel_rfl) (by exact HRL5.out) ?_))
    refine (first_calls L a w5 (HL.out.below HB5.out (Nat.le_refl _)) HOK.out HSM.out).mono ?_
    rintro e w6 ⟨rfl, hb6⟩
    rw [HF1.out]
    have HB6 := Lib.hid (below_go HB5.out hb6)
    have HRL6 := Lib.hid (HBL5.out.later hb6).range
    clear hb6 a0
    go_wp2_with (first | (refine wpList_load_mid rfl 30 _ rfl (w.heap.size) 0 rfl (Led.cells L) _ (by exact HRL6.out) Try.underlying30 rfl (by show _ = some 16; kernel_rfl) ?_) | (refine wp_load_mid 30 _ rfl (w.heap.size) 0 rfl (Led.cells L) _ (by exact HRL6.out) Try.underlying30 rfl (by show _ = some 16; kernel_rfl) ?_) | (refine list_loadk rfl rfl (b := w.heap.size) (off := 0) rfl (cs := Led.cells L) Try.underlying30 rfl (by show _ = some 16; kernel_rfl) (by exact HRL6.out) ?_))
    refine (rGood_calls L w6 (HL.out.below HB6.out (Nat.le_refl _)) HOK.out HSM.out).mono ?_
    rintro e w7 ⟨rfl, hb7⟩
    rw [HG.out]
    have HB7 := Lib.hid (below_go HB6.out hb7)
    clear hb7
    go_wp2_with fail
    go_ret
    exact ⟨rfl, HB7.out⟩
  | true =>
    have HG := Lib.hid hg
    clear hg
    obtain ⟨F, hF⟩ : ∃ F, F = L.firstOf a := ⟨_, rfl⟩
    have HF := Lib.hid hF
    clear hF
    have hways : (decide (0 ≤ a) = false ∧ F = 0) ∨ (decide (0 ≤ a) = true ∧ decide (a < 8) = false ∧ F = 0) ∨ (0 ≤ a ∧ a < 8) := by
      simp only [decide_eq_true_eq, decide_eq_false_iff_not]
      by_cases h : a < 0 ∨ 8 ≤ a
      · have := firstOf_out (L := L) h
        have := HF.out
        omega
      · omega
    rcases hways with ⟨d1, rfl⟩ | ⟨d1, d2, rfl⟩ | ⟨h0, h8⟩
    · skip
      go_wp2_with (first | (refine wpList_load_mid rfl 30 _ rfl (w.heap.size) 0 rfl (Led.cells L) _ (by exact HRL4.out) Try.underlying30 rfl (by show _ = some 16; kernel_rfl) ?_) | (refine wp_load_mid 30 _ rfl (w.heap.size) 0 rfl (Led.cells L) _ (by exact HRL4.out) Try.underlying30 rfl (by show _ = some 16; kernel_rfl) ?_) | (refine list_loadk rfl rfl (b := w.heap.size) (off := 0) rfl (cs := Led.cells L) Try.underlying30 rfl (by show _ = some 16; kernel_rfl) (by exact HRL4.out) ?_))
      have hF := batch_calls L ep _ (HL.out.below HB4.out (Nat.le_refl _)) HOK.out HSM.out
      rw [HBT.out] at hF
      refine hF.mono ?_
      clear hF
      rintro e w6 ⟨vb, rfl, hob, hb6⟩
      have HB6 := Lib.hid (below_go HB4.out hb6)
      have HBL6 := Lib.hid (HBL4.out.later hb6)
      have HRL6 := Lib.hid HBL6.out.range
      have HA6 := Lib.hid (cell_later hb6 HA4.out)
      obtain ⟨ga, gc, rfl⟩ := own_slice hob
      obtain ⟨nb, hnb⟩ : ∃ nb, nb = br.length := ⟨_, rfl⟩
      have HVB := Lib.hid (show Recs w6 (.slice ga nb gc) br by rw [hnb]; exact Rd.of_own hob)
      simp only
      rw [← hnb]
      have HNB := Lib.hid hnb
      clear hob hb6 hnb a0
      have a0 := HA6.out
      go_wp2_with (first | (refine wpList_load_mid rfl 30 _ rfl (w.heap.size) 0 rfl (Led.cells L) _ (by exact HRL6.out) Try.underlying30 rfl (by show _ = some 16; kernel_rfl) ?_) | (refine wp_load_mid 30 _ rfl (w.heap.size) 0 rfl (Led.cells L) _ (by exact HRL6.out) Try.underlying30 rfl (by show _ = some 16; kernel_rfl) ?_) | (refine list_loadk rfl rfl (b := w.heap.size) (off := 0) rfl (cs := Led.cells L) Try.underlying30 rfl (by show _ = some 16; kernel_rfl) (by exact HRL6.out) ?_))
      refine (first_calls L _ w6 (HL.out.below HB6.out (Nat.le_refl _)) HOK.out HSM.out).mono ?_
      rintro e w7 ⟨rfl, hb7⟩
      rw [← HF.out]
      have HB7 := Lib.hid (below_go HB6.out hb7)
      have HBL7 := Lib.hid (HBL6.out.later hb7)
      have HRL7 := Lib.hid HBL7.out.range
      have HVB7 := Lib.hid (Rd.below HVB.out hb7 (Nat.le_refl _))
      clear hb7 a0
      go_wp2_with (first | (refine wpList_load_mid rfl 30 _ rfl (w.heap.size) 0 rfl (Led.cells L) _ (by exact HRL7.out) Try.underlying30 rfl (by show _ = some 16; kernel_rfl) ?_) | (refine wp_load_mid 30 _ rfl (w.heap.size) 0 rfl (Led.cells L) _ (by exact HRL7.out) Try.underlying30 rfl (by show _ = some 16; kernel_rfl) ?_) | (refine list_loadk rfl rfl (b := w.heap.size) (off := 0) rfl (cs := Led.cells L) Try.underlying30 rfl (by show _ = some 16; kernel_rfl) (by exact HRL7.out) ?_))
      refine (rGood_calls L w7 (HL.out.below HB7.out (Nat.le_refl _)) HOK.out HSM.out).mono ?_
      rintro e w8 ⟨rfl, hb8⟩
      rw [HG.out]
      have HB8 := Lib.hid (below_go HB7.out hb8)
      have c10 := HBL7.out.later hb8 10 _ rfl
      rw [HBV.out] at c10
      have HVB8 := Lib.hid (show Recs w8 _ br from Rd.below HVB7.out hb8 (Nat.le_refl _))
      have HLB := Lib.hid (HL.out.below HB8.out (Nat.le_refl _)).bats
      clear hb8
      have hbn := HSM.out.bats
      go_wp2_with fail
      go_loopw [16] (fun iv wr => ∃ i : Nat, i ≤ L.bats.length ∧ iv = .int .i64 i ∧ (∀ b ∈ L.bats.take i, b.ep ≠ ep) ∧ wr = w8) (fun iv _ => L.bats.length - (intOf iv).toNat)
      case atStart => exact ⟨0, by omega, rfl, fun b hb => by simp at hb, rfl⟩
      case round =>
        obtain ⟨i, hi, rfl, hne, rfl⟩ := hrel
        have HNE := Lib.hid hne
        clear hne
        by_cases hlt : i < L.bats.length
        · have hrow := HLB.out
          rw [HBV.out] at hrow
          obtain ⟨bb, o, rfl, e0, e1⟩ := bt_at hrow i hlt
          have hrec := HLB.out.recs L.bats[i] (List.getElem_mem _)
          have HRC := Lib.hid hrec
          obtain ⟨ra', rc', hrv', hrc', -⟩ := Rd.slice hrec
          have HAT := Lib.hid (batchOf_at HG.out hlt HNE.out)
          have HSU := Lib.hid (ne_succ hlt HNE.out)
          clear hrow hrec
          generalize L.bats[i] = B at *
          obtain ⟨e1', rv', recs⟩ := B
          simp only at HAT HSU HRC e0 e1 hrv'
          subst hrv'
          by_cases hq : e1' = ep
          · have hbt := (HAT.out hq).symm.trans HBT.out
            simp only [Prod.mk.injEq] at hbt
            obtain ⟨rfl, rfl⟩ := hbt
            have d1 : (e1' == ep) = true := beq_iff_eq.2 hq
            clear hq
            go_wp2_with fail
            refine (sameRecs_calls _ _ recs _ HVB8.out HRC.out).mono ?_
            rintro e w9 ⟨rfl, hb9⟩
            have HB9 := Lib.hid (below_go HB8.out hb9)
            clear hb9
            go_wp2_with fail
            go_ret
            exact ⟨rfl, HB9.out⟩
          · have HN1 := Lib.hid (HSU.out hq)
            have d1 : (e1' == ep) = false := beq_eq_false_iff_ne.2 hq
            clear hq
            go_wp2_with fail
            go_roundw
            case rel => exact ⟨i + 1, by omega, by go_num, HN1.out, trivial⟩
            case measure => simp [intOf]; omega
        · obtain rfl : i = L.bats.length := by omega
          have hbt := (batchOf_none HG.out (ep := ep) (by have := HNE.out; rwa [List.take_length] at this)).symm.trans HBT.out
          simp only [Prod.mk.injEq] at hbt
          obtain ⟨rfl, rfl⟩ := hbt
          have hnb := HNB.out
          simp only [List.length_nil] at hnb
          subst hnb
          go_wp2_with fail
          go_ret
          exact ⟨rfl, HB8.out⟩
    · skip
      go_wp2_with (first | (refine wpList_load_mid rfl 30 _ rfl (w.heap.size) 0 rfl (Led.cells L) _ (by exact HRL4.out) Try.underlying30 rfl (by show _ = some 16; kernel_rfl) ?_) | (refine wp_load_mid 30 _ rfl (w.heap.size) 0 rfl (Led.cells L) _ (by exact HRL4.out) Try.underlying30 rfl (by show _ = some 16; kernel_rfl) ?_) | (refine list_loadk rfl rfl (b := w.heap.size) (off := 0) rfl (cs := Led.cells L) Try.underlying30 rfl (by show _ = some 16; kernel_rfl) (by exact HRL4.out) ?_))
      have hF := batch_calls L ep _ (HL.out.below HB4.out (Nat.le_refl _)) HOK.out HSM.out
      rw [HBT.out] at hF
      refine hF.mono ?_
      clear hF
      rintro e w6 ⟨vb, rfl, hob, hb6⟩
      have HB6 := Lib.hid (below_go HB4.out hb6)
      have HBL6 := Lib.hid (HBL4.out.later hb6)
      have HRL6 := Lib.hid HBL6.out.range
      have HA6 := Lib.hid (cell_later hb6 HA4.out)
      obtain ⟨ga, gc, rfl⟩ := own_slice hob
      obtain ⟨nb, hnb⟩ : ∃ nb, nb = br.length := ⟨_, rfl⟩
      have HVB := Lib.hid (show Recs w6 (.slice ga nb gc) br by rw [hnb]; exact Rd.of_own hob)
      simp only
      rw [← hnb]
      have HNB := Lib.hid hnb
      clear hob hb6 hnb a0
      have a0 := HA6.out
      go_wp2_with (first | (refine wpList_load_mid rfl 30 _ rfl (w.heap.size) 0 rfl (Led.cells L) _ (by exact HRL6.out) Try.underlying30 rfl (by show _ = some 16; kernel_rfl) ?_) | (refine wp_load_mid 30 _ rfl (w.heap.size) 0 rfl (Led.cells L) _ (by exact HRL6.out) Try.underlying30 rfl (by show _ = some 16; kernel_rfl) ?_) | (refine list_loadk rfl rfl (b := w.heap.size) (off := 0) rfl (cs := Led.cells L) Try.underlying30 rfl (by show _ = some 16; kernel_rfl) (by exact HRL6.out) ?_))
      refine (first_calls L _ w6 (HL.out.below HB6.out (Nat.le_refl _)) HOK.out HSM.out).mono ?_
      rintro e w7 ⟨rfl, hb7⟩
      rw [← HF.out]
      have HB7 := Lib.hid (below_go HB6.out hb7)
      have HBL7 := Lib.hid (HBL6.out.later hb7)
      have HRL7 := Lib.hid HBL7.out.range
      have HVB7 := Lib.hid (Rd.below HVB.out hb7 (Nat.le_refl _))
      clear hb7 a0
      go_wp2_with (first | (refine wpList_load_mid rfl 30 _ rfl (w.heap.size) 0 rfl (Led.cells L) _ (by exact HRL7.out) Try.underlying30 rfl (by show _ = some 16; kernel_rfl) ?_) | (refine wp_load_mid 30 _ rfl (w.heap.size) 0 rfl (Led.cells L) _ (by exact HRL7.out) Try.underlying30 rfl (by show _ = some 16; kernel_rfl) ?_) | (refine list_loadk rfl rfl (b := w.heap.size) (off := 0) rfl (cs := Led.cells L) Try.underlying30 rfl (by show _ = some 16; kernel_rfl) (by exact HRL7.out) ?_))
      refine (rGood_calls L w7 (HL.out.below HB7.out (Nat.le_refl _)) HOK.out HSM.out).mono ?_
      rintro e w8 ⟨rfl, hb8⟩
      rw [HG.out]
      have HB8 := Lib.hid (below_go HB7.out hb8)
      have c10 := HBL7.out.later hb8 10 _ rfl
      rw [HBV.out] at c10
      have HVB8 := Lib.hid (show Recs w8 _ br from Rd.below HVB7.out hb8 (Nat.le_refl _))
      have HLB := Lib.hid (HL.out.below HB8.out (Nat.le_refl _)).bats
      clear hb8
      have hbn := HSM.out.bats
      go_wp2_with fail
      go_loopw [16] (fun iv wr => ∃ i : Nat, i ≤ L.bats.length ∧ iv = .int .i64 i ∧ (∀ b ∈ L.bats.take i, b.ep ≠ ep) ∧ wr = w8) (fun iv _ => L.bats.length - (intOf iv).toNat)
      case atStart => exact ⟨0, by omega, rfl, fun b hb => by simp at hb, rfl⟩
      case round =>
        obtain ⟨i, hi, rfl, hne, rfl⟩ := hrel
        have HNE := Lib.hid hne
        clear hne
        by_cases hlt : i < L.bats.length
        · have hrow := HLB.out
          rw [HBV.out] at hrow
          obtain ⟨bb, o, rfl, e0, e1⟩ := bt_at hrow i hlt
          have hrec := HLB.out.recs L.bats[i] (List.getElem_mem _)
          have HRC := Lib.hid hrec
          obtain ⟨ra', rc', hrv', hrc', -⟩ := Rd.slice hrec
          have HAT := Lib.hid (batchOf_at HG.out hlt HNE.out)
          have HSU := Lib.hid (ne_succ hlt HNE.out)
          clear hrow hrec
          generalize L.bats[i] = B at *
          obtain ⟨e1', rv', recs⟩ := B
          simp only at HAT HSU HRC e0 e1 hrv'
          subst hrv'
          by_cases hq : e1' = ep
          · have hbt := (HAT.out hq).symm.trans HBT.out
            simp only [Prod.mk.injEq] at hbt
            obtain ⟨rfl, rfl⟩ := hbt
            have d1 : (e1' == ep) = true := beq_iff_eq.2 hq
            clear hq
            go_wp2_with fail
            refine (sameRecs_calls _ _ recs _ HVB8.out HRC.out).mono ?_
            rintro e w9 ⟨rfl, hb9⟩
            have HB9 := Lib.hid (below_go HB8.out hb9)
            clear hb9
            go_wp2_with fail
            go_ret
            exact ⟨rfl, HB9.out⟩
          · have HN1 := Lib.hid (HSU.out hq)
            have d1 : (e1' == ep) = false := beq_eq_false_iff_ne.2 hq
            clear hq
            go_wp2_with fail
            go_roundw
            case rel => exact ⟨i + 1, by omega, by go_num, HN1.out, trivial⟩
            case measure => simp [intOf]; omega
        · obtain rfl : i = L.bats.length := by omega
          have hbt := (batchOf_none HG.out (ep := ep) (by have := HNE.out; rwa [List.take_length] at this)).symm.trans HBT.out
          simp only [Prod.mk.injEq] at hbt
          obtain ⟨rfl, rfl⟩ := hbt
          have hnb := HNB.out
          simp only [List.length_nil] at hnb
          subst hnb
          go_wp2_with fail
          go_ret
          exact ⟨rfl, HB8.out⟩
    · obtain ⟨p, hp⟩ : ∃ p : Nat, a = p := ⟨a.toNat, by omega⟩
      subst hp
      have hp8 : p < 8 := by omega
      have hp8i : (p : Int) < 8 := by omega
      have d1 : decide (0 ≤ (p : Int)) = true := decide_eq_true (by omega)
      have d2 : decide ((p : Int) < 8) = true := decide_eq_true (by omega)
      have d2' : decide (p < 8) = true := decide_eq_true hp8
      have HF1 := Lib.hid (firstOf_good HG.out p hp8)
      have hgc := good_C HG.out HOK.out p hp8
      have hCP := HBL4.out (1 + p) _ (cells_C L p hp8)
      have HCP := Lib.hid hCP
      clear h0 h8
      have HI8 := Lib.hid hp8i
      obtain ⟨n, hn⟩ : ∃ n, n = (ofPart L.all p).length := ⟨_, rfl⟩
      have hwr : IntKind.i64.wrap (L.C p - n) = F := by
        have h1 : L.C p - n = F := by rw [HF.out, HF1.out, hn]; rfl
        have h2 : (n : Int) = have_ L.all p := by rw [hn]; rfl
        rw [h1, IntKind.wrap_i64]
        omega
      have HNN := Lib.hid hn
      have HWR := Lib.hid hwr
      clear hgc hn hwr
      go_wp2_with fail
      refine region_m [(0, false), (1, false), (2, false), (3, false), (4, false), (5, false), (6, false), (7, false), (8, true), (9, false), (10, false), (11, false)] 12 (fun V => V.cell? ⟨w.heap.size + 1, 0, none⟩ = some (.int .i64 p) ∧ V.rangeAt w.heap.size 0 L.cells ∧ V.cell? ⟨w.heap.size, 1 + p, none⟩ = some (.int .i64 (L.C p))) (by kernel_rfl) (by kernel_rfl) ⟨HA4.out, HRL4.out, HCP.out⟩ ?_
      iterate 5
        first
        | (refine m_take (v := ?_) rfl rfl ?_ ?_
           rotate_left
           · intro W hW
             go_simp
             with_reducible rfl
           simp only [Act.put, List.setIfInBounds_toArray, List.set_cons_zero, List.set_cons_succ])
        | (refine m_skip rfl rfl ?_
           simp only [Act.put, List.setIfInBounds_toArray, List.set_cons_zero, List.set_cons_succ])
      refine m_loadk rfl rfl rfl rfl (fun W hW => hW.2.1) Try.underlying30 rfl (by show _ = some 16; kernel_rfl) ?_
      simp only [Act.put, List.setIfInBounds_toArray, List.set_cons_zero, List.set_cons_succ]
      iterate 2
        first
        | (refine m_take (v := ?_) rfl rfl ?_ ?_
           rotate_left
           · intro W hW
             go_simp
             with_reducible rfl
           simp only [Act.put, List.setIfInBounds_toArray, List.set_cons_zero, List.set_cons_succ])
        | (refine m_skip rfl rfl ?_
           simp only [Act.put, List.setIfInBounds_toArray, List.set_cons_zero, List.set_cons_succ])
      refine m_loud rfl (fun K hK => ?_)
      have HK := Lib.hid hK
      clear hK
      go_simp
      have hdr := (Below.refl w4.heap.size w4).drew
      refine (of_calls L p _ (HL.out.below (below_go HB4.out hdr) (Nat.le_refl _)) HSM.out).mono ?_
      rintro e w5 ⟨v, rfl, ho, hb5⟩
      obtain ⟨oa, oc, rfl⟩ := own_slice ho
      rw [← HNN.out]
      have HD5 := Lib.hid (hdr.trans hb5)
      clear hb5 hdr ho
      have hwr := HWR.out
      refine HK.out _ _ ⟨cell_later HD5.out HA4.out, range_later HD5.out HRL4.out, cell_later HD5.out HCP.out⟩ ?_
      clear HK
      iterate 3
        first
        | (refine m_take (v := ?_) rfl rfl ?_ ?_
           rotate_left
           · intro W hW
             go_simp
             with_reducible rfl
           simp only [Act.put, List.setIfInBounds_toArray, List.set_cons_zero, List.set_cons_succ])
        | (refine m_skip rfl rfl ?_
           simp only [Act.put, List.setIfInBounds_toArray, List.set_cons_zero, List.set_cons_succ])
      refine m_done ?_
      simp only [List.drop_succ_cons, List.drop_zero]
      go_wp2_with fail
      simp only [NP]
      have HA5 := Lib.hid (cell_later HD5.out HA4.out)
      have HBL5 := Lib.hid (HBL4.out.later HD5.out)
      have HB5 := Lib.hid (below_go HB4.out HD5.out)
      clear HA4 HBL4 HB4 HRL4 HCP hCP HD5 a0 hwr
      have HA4 := HA5
      have HBL4 := HBL5
      have HB4 := HB5
      clear HA5 HBL5 HB5
      have a0 := HA4.out
      have HRL4 := Lib.hid HBL4.out.range
      have dF : (F != F) = false := bne_self_eq_false _
      go_wp2_with (first | (refine wpList_load_mid rfl 30 _ rfl (w.heap.size) 0 rfl (Led.cells L) _ (by exact HRL4.out) Try.underlying30 rfl (by show _ = some 16; kernel_rfl) ?_) | (refine wp_load_mid 30 _ rfl (w.heap.size) 0 rfl (Led.cells L) _ (by exact HRL4.out) Try.underlying30 rfl (by show _ = some 16; kernel_rfl) ?_) | (refine list_loadk rfl rfl (b := w.heap.size) (off := 0) rfl (cs := Led.cells L) Try.underlying30 rfl (by show _ = some 16; kernel_rfl) (by exact HRL4.out) ?_))
      have hF := batch_calls L ep _ (HL.out.below HB4.out (Nat.le_refl _)) HOK.out HSM.out
      rw [HBT.out] at hF
      refine hF.mono ?_
      clear hF
      rintro e w6 ⟨vb, rfl, hob, hb6⟩
      have HB6 := Lib.hid (below_go HB4.out hb6)
      have HBL6 := Lib.hid (HBL4.out.later hb6)
      have HRL6 := Lib.hid HBL6.out.range
      have HA6 := Lib.hid (cell_later hb6 HA4.out)
      obtain ⟨ga, gc, rfl⟩ := own_slice hob
      obtain ⟨nb, hnb⟩ : ∃ nb, nb = br.length := ⟨_, rfl⟩
      have HVB := Lib.hid (show Recs w6 (.slice ga nb gc) br by rw [hnb]; exact Rd.of_own hob)
      simp only
      rw [← hnb]
      have HNB := Lib.hid hnb
      clear hob hb6 hnb a0
      have a0 := HA6.out
      go_wp2_with (first | (refine wpList_load_mid rfl 30 _ rfl (w.heap.size) 0 rfl (Led.cells L) _ (by exact HRL6.out) Try.underlying30 rfl (by show _ = some 16; kernel_rfl) ?_) | (refine wp_load_mid 30 _ rfl (w.heap.size) 0 rfl (Led.cells L) _ (by exact HRL6.out) Try.underlying30 rfl (by show _ = some 16; kernel_rfl) ?_) | (refine list_loadk rfl rfl (b := w.heap.size) (off := 0) rfl (cs := Led.cells L) Try.underlying30 rfl (by show _ = some 16; kernel_rfl) (by exact HRL6.out) ?_))
      refine (first_calls L _ w6 (HL.out.below HB6.out (Nat.le_refl _)) HOK.out HSM.out).mono ?_
      rintro e w7 ⟨rfl, hb7⟩
      rw [← HF.out]
      have HB7 := Lib.hid (below_go HB6.out hb7)
      have HBL7 := Lib.hid (HBL6.out.later hb7)
      have HRL7 := Lib.hid HBL7.out.range
      have HVB7 := Lib.hid (Rd.below HVB.out hb7 (Nat.le_refl _))
      clear hb7 a0
      go_wp2_with (first | (refine wpList_load_mid rfl 30 _ rfl (w.heap.size) 0 rfl (Led.cells L) _ (by exact HRL7.out) Try.underlying30 rfl (by show _ = some 16; kernel_rfl) ?_) | (refine wp_load_mid 30 _ rfl (w.heap.size) 0 rfl (Led.cells L) _ (by exact HRL7.out) Try.underlying30 rfl (by show _ = some 16; kernel_rfl) ?_) | (refine list_loadk rfl rfl (b := w.heap.size) (off := 0) rfl (cs := Led.cells L) Try.underlying30 rfl (by show _ = some 16; kernel_rfl) (by exact HRL7.out) ?_))
      refine (rGood_calls L w7 (HL.out.below HB7.out (Nat.le_refl _)) HOK.out HSM.out).mono ?_
      rintro e w8 ⟨rfl, hb8⟩
      rw [HG.out]
      have HB8 := Lib.hid (below_go HB7.out hb8)
      have c10 := HBL7.out.later hb8 10 _ rfl
      rw [HBV.out] at c10
      have HVB8 := Lib.hid (show Recs w8 _ br from Rd.below HVB7.out hb8 (Nat.le_refl _))
      have HLB := Lib.hid (HL.out.below HB8.out (Nat.le_refl _)).bats
      clear hb8
      have hbn := HSM.out.bats
      go_wp2_with fail
      go_loopw [16] (fun iv wr => ∃ i : Nat, i ≤ L.bats.length ∧ iv = .int .i64 i ∧ (∀ b ∈ L.bats.take i, b.ep ≠ ep) ∧ wr = w8) (fun iv _ => L.bats.length - (intOf iv).toNat)
      case atStart => exact ⟨0, by omega, rfl, fun b hb => by simp at hb, rfl⟩
      case round =>
        obtain ⟨i, hi, rfl, hne, rfl⟩ := hrel
        have HNE := Lib.hid hne
        clear hne
        by_cases hlt : i < L.bats.length
        · have hrow := HLB.out
          rw [HBV.out] at hrow
          obtain ⟨bb, o, rfl, e0, e1⟩ := bt_at hrow i hlt
          have hrec := HLB.out.recs L.bats[i] (List.getElem_mem _)
          have HRC := Lib.hid hrec
          obtain ⟨ra', rc', hrv', hrc', -⟩ := Rd.slice hrec
          have HAT := Lib.hid (batchOf_at HG.out hlt HNE.out)
          have HSU := Lib.hid (ne_succ hlt HNE.out)
          clear hrow hrec
          generalize L.bats[i] = B at *
          obtain ⟨e1', rv', recs⟩ := B
          simp only at HAT HSU HRC e0 e1 hrv'
          subst hrv'
          by_cases hq : e1' = ep
          · have hbt := (HAT.out hq).symm.trans HBT.out
            simp only [Prod.mk.injEq] at hbt
            obtain ⟨rfl, rfl⟩ := hbt
            have d1 : (e1' == ep) = true := beq_iff_eq.2 hq
            clear hq
            go_wp2_with fail
            refine (sameRecs_calls _ _ recs _ HVB8.out HRC.out).mono ?_
            rintro e w9 ⟨rfl, hb9⟩
            have HB9 := Lib.hid (below_go HB8.out hb9)
            clear hb9
            go_wp2_with fail
            go_ret
            exact ⟨rfl, HB9.out⟩
          · have HN1 := Lib.hid (HSU.out hq)
            have d1 : (e1' == ep) = false := beq_eq_false_iff_ne.2 hq
            clear hq
            go_wp2_with fail
            go_roundw
            case rel => exact ⟨i + 1, by omega, by go_num, HN1.out, trivial⟩
            case measure => simp [intOf]; omega
        · obtain rfl : i = L.bats.length := by omega
          have hbt := (batchOf_none HG.out (ep := ep) (by have := HNE.out; rwa [List.take_length] at this)).symm.trans HBT.out
          simp only [Prod.mk.injEq] at hbt
          obtain ⟨rfl, rfl⟩ := hbt
          have hnb := HNB.out
          simp only [List.length_nil] at hnb
          subst hnb
          go_wp2_with fail
          go_ret
          exact ⟨rfl, HB8.out⟩
end Go.Proofs.Ytkabfjbmofpkdaa
