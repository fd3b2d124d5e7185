/- Walks and plain laws of the chapter, laid together; each part says what it proves. -/
import Derived.Deep.CutRange
import Derived.Deep.CutBlock
import Derived.Test.YtibmgjhpkdgnpaaPkA
import Derived.Test.YtibmgjhpkdgnpaaPkG
/- Layer 15: has, Of, Check walked. -/
namespace Go.Proofs.Ytibmgjhpkdgnpaa
open Go.RowKit Go.Shelf

theorem any_filter (way : List Rec) (p : Rec → Bool) : decide (0 < (way.filter p).length) = way.any p := by
  rw [Bool.eq_iff_iff, decide_eq_true_eq, List.length_pos_iff_exists_mem, List.any_eq_true]
  constructor
  · rintro ⟨x, hx⟩; exact ⟨x, (List.mem_filter.1 hx).1, (List.mem_filter.1 hx).2⟩
  · rintro ⟨x, h1, h2⟩; exact ⟨x, List.mem_filter.2 ⟨h1, h2⟩⟩

set_option maxHeartbeats 400000 in
theorem has_calls (wb rb : Nat) (v : Value) (way : List Rec) (r : Rec) (s : Int) (w : World) (hw : w.cell? ⟨wb, 0, none⟩ = some v) (hv : Recs w v way) (hr : RecBox w rb r) :
    Calls Try.prog 13 #[.int .i64 s, .pointer (some ⟨wb, 0, none⟩), .pointer (some ⟨rb, 0, none⟩)] w fun e w' => e = .returned (.bool (onWay way r s)) ∧ Below w.heap.size w w' := by
  have hal := (Below.refl w.heap.size w).alloc (Nat.le_refl _) (.cells #[.int .i64 s] 3)
  have hw' := cell_later hal hw
  have hs : (w.alloc (.cells #[.int .i64 s] 3)).cell? ⟨w.heap.size, 0, none⟩ = some (.int .i64 s) := by rw [World.cell?_alloc_at _ _ _ _ rfl]; rfl
  have HC := Lib.hid (count_calls v way 15 #[.pointer (some ⟨rb, 0, none⟩), .pointer (some ⟨w.heap.size, 0, none⟩)] (fun o => o.p == r.p && o.q == r.q && o.s == s) (w.alloc (.cells #[.int .i64 s] 3)) (enters_of Try.func15 (by kernel_rfl) rfl) (hv.below hal (Nat.le_refl _)) (chk11_asks _ rb w.heap.size r s (hr.below hal) hs))
  obtain ⟨a, cap, rfl, -, -⟩ := Rd.slice hv
  have HAL := Lib.hid hal
  have hany := any_filter way (fun o => o.p == r.p && o.q == r.q && o.s == s)
  unfold onWay
  generalize (way.filter fun o => o.p == r.p && o.q == r.q && o.s == s).length = L at *
  generalize (way.any fun o => o.p == r.p && o.q == r.q && o.s == s) = B at *
  have hany' : decide ((0 : Int) < (L : Int)) = B := by rw [← hany]; simp
  clear hal hw hs hv hr
  go_enter Try.func13, Try.ntmps13
  go_wp2_with fail
  refine HC.out.mono ?_
  rintro e w1 ⟨rfl, hb1⟩
  have HB := Lib.hid (HAL.out.trans (hb1.mono HAL.out.size))
  clear hb1
  go_wp2_with fail
  go_ret
  exact ⟨rfl, HB.out⟩

set_option maxHeartbeats 400000 in
theorem qof_calls (rows opn batches ops : Value) (C : Nat → Int) (sealed decided keep : Int) (deployed : Bool) (os : List Rec) (p : Int) (w : World) (ho : Recs w opn os) :
    Calls Try.prog 9 #[.agg #[rows, .int .i64 (C 0), .int .i64 (C 1), .int .i64 (C 2), .int .i64 (C 3), .int .i64 (C 4), .int .i64 (C 5), .int .i64 (C 6), .int .i64 (C 7), opn, batches, .int .i64 sealed, .int .i64 decided, .bool deployed, ops, .int .i64 keep], .int .i64 p] w fun e w' => e = .returned (.int .i64 (mine os p)) ∧ Below w.heap.size w w' := by
  obtain ⟨X, hX⟩ : ∃ X, X = (w.alloc (.cells #[rows, .int .i64 (C 0), .int .i64 (C 1), .int .i64 (C 2), .int .i64 (C 3), .int .i64 (C 4), .int .i64 (C 5), .int .i64 (C 6), .int .i64 (C 7), opn, batches, .int .i64 sealed, .int .i64 decided, .bool deployed, ops, .int .i64 keep] 30)).alloc (.cells #[.int .i64 p] 3) := ⟨_, rfl⟩
  have hb : Below w.heap.size w X := by rw [hX]; exact ((Below.refl w.heap.size w).alloc (Nat.le_refl _) _).alloc (by simp) _
  have c9 : X.cell? ⟨w.heap.size, 9, none⟩ = some opn := by rw [hX, World.cell?_alloc_past _ _ _ (by simp), World.cell?_alloc_at _ _ _ _ rfl]; rfl
  have cp : X.cell? ⟨w.heap.size + 1, 0, none⟩ = some (.int .i64 p) := by rw [hX, World.cell?_alloc_at _ _ _ _ (by simp)]; rfl
  have HC := Lib.hid (count_calls opn os 21 #[.pointer (some ⟨w.heap.size + 1, 0, none⟩)] (fun o => o.p == p) X (enters_of Try.func21 (by kernel_rfl) rfl) (ho.below hb (Nat.le_refl _)) (of1_asks X (w.heap.size + 1) p cp))
  obtain ⟨a, cap, rfl, -, -⟩ := Rd.slice ho
  have HB := Lib.hid hb
  have HX := Lib.hid hX
  clear hX hb ho c9 cp
  go_enter Try.func9, Try.ntmps9
  go_wp2_with fail
  rw [← HX.out]
  refine HC.out.mono ?_
  rintro e w1 ⟨rfl, hb1⟩
  have HB1 := Lib.hid (HB.out.trans (hb1.mono HB.out.size))
  clear hb1
  go_wp2_with fail
  go_ret
  exact ⟨rfl, HB1.out⟩

/-- The three boxes of Check. -/
theorem check_boxes (rows opn batches ops v : Value) (C : Nat → Int) (sealed decided keep : Int) (deployed : Bool) (r : Rec) (w X : World)
    (hX : X = ((w.alloc (.cells #[rows, .int .i64 (C 0), .int .i64 (C 1), .int .i64 (C 2), .int .i64 (C 3), .int .i64 (C 4), .int .i64 (C 5), .int .i64 (C 6), .int .i64 (C 7), opn, batches, .int .i64 sealed, .int .i64 decided, .bool deployed, ops, .int .i64 keep] 30)).alloc (.cells #[v] 24)).alloc (.cells #[.int .i64 r.p, .int .i64 r.s, .int .i64 r.q, .string r.key, .int .u32 r.val] 33)) :
    X.heap.size = w.heap.size + 3 ∧ Below w.heap.size w X ∧ X.cell? ⟨w.heap.size, 0, none⟩ = some rows ∧ (∀ Q, Q < 8 → X.cell? ⟨w.heap.size, 1 + Q, none⟩ = some (.int .i64 (C Q))) ∧ X.cell? ⟨w.heap.size, 9, none⟩ = some opn ∧ X.cell? ⟨w.heap.size + 1, 0, none⟩ = some v ∧ RecBox X (w.heap.size + 1 + 1) r ∧
    (∀ o, X.cell? ⟨w.heap.size, o, none⟩ = #[rows, .int .i64 (C 0), .int .i64 (C 1), .int .i64 (C 2), .int .i64 (C 3), .int .i64 (C 4), .int .i64 (C 5), .int .i64 (C 6), .int .i64 (C 7), opn, batches, .int .i64 sealed, .int .i64 decided, .bool deployed, ops, .int .i64 keep][o]?) := by
  subst hX
  have hall : ∀ o, (((w.alloc (.cells #[rows, .int .i64 (C 0), .int .i64 (C 1), .int .i64 (C 2), .int .i64 (C 3), .int .i64 (C 4), .int .i64 (C 5), .int .i64 (C 6), .int .i64 (C 7), opn, batches, .int .i64 sealed, .int .i64 decided, .bool deployed, ops, .int .i64 keep] 30)).alloc (.cells #[v] 24)).alloc (.cells #[.int .i64 r.p, .int .i64 r.s, .int .i64 r.q, .string r.key, .int .u32 r.val] 33)).cell? ⟨w.heap.size, o, none⟩ = #[rows, .int .i64 (C 0), .int .i64 (C 1), .int .i64 (C 2), .int .i64 (C 3), .int .i64 (C 4), .int .i64 (C 5), .int .i64 (C 6), .int .i64 (C 7), opn, batches, .int .i64 sealed, .int .i64 decided, .bool deployed, ops, .int .i64 keep][o]? := fun o => by
    rw [World.cell?_alloc_past _ _ _ (by simp; omega), World.cell?_alloc_past _ _ _ (by simp), World.cell?_alloc_at _ _ _ _ rfl]
  refine ⟨by simp, (((Below.refl w.heap.size w).alloc (Nat.le_refl _) _).alloc (by simp) _).alloc (by simp; omega) _, hall 0, fun Q hQ => ?_, hall 9, ?_, ⟨?_, ?_, ?_, ?_, ?_⟩, hall⟩
  · rw [hall]
    rcases (show Q = 0 ∨ Q = 1 ∨ Q = 2 ∨ Q = 3 ∨ Q = 4 ∨ Q = 5 ∨ Q = 6 ∨ Q = 7 from by omega) with rfl | rfl | rfl | rfl | rfl | rfl | rfl | rfl <;> rfl
  · rw [World.cell?_alloc_past _ _ _ (by simp), World.cell?_alloc_at _ _ _ _ (by simp)]; rfl
  · rw [World.cell?_alloc_at _ _ _ _ (by simp)]; rfl
  · rw [World.cell?_alloc_at _ _ _ _ (by simp)]; rfl
  · rw [World.cell?_alloc_at _ _ _ _ (by simp)]; rfl
  · rw [World.cell?_alloc_at _ _ _ _ (by simp)]; rfl
  · rw [World.cell?_alloc_at _ _ _ _ (by simp)]; rfl

/-- The boxes of Check, as they stand in a world. -/
structure CBox (W : World) (b : Nat) (rows opn batches ops v : Value) (C : Nat → Int) (sealed decided keep : Int) (deployed : Bool) (r : Rec) : Prop where
  all : ∀ (o : Nat) (u : Value), #[rows, .int .i64 (C 0), .int .i64 (C 1), .int .i64 (C 2), .int .i64 (C 3), .int .i64 (C 4), .int .i64 (C 5), .int .i64 (C 6), .int .i64 (C 7), opn, batches, .int .i64 sealed, .int .i64 decided, .bool deployed, ops, .int .i64 keep][o]? = some u → W.cell? ⟨b, o, none⟩ = some u
  C : ∀ Q, Q < 8 → W.cell? ⟨b, 1 + Q, none⟩ = some (.int .i64 (C Q))
  wayc : W.cell? ⟨b + 1, 0, none⟩ = some v
  box : RecBox W (b + 1 + 1) r
theorem CBox.below {W W' : World} {b : Nat} {rows opn batches ops v : Value} {C : Nat → Int} {sealed decided keep : Int} {deployed : Bool} {r : Rec} (h : CBox W b rows opn batches ops v C sealed decided keep deployed r) (hb : Below W.heap.size W W') : CBox W' b rows opn batches ops v C sealed decided keep deployed r :=
  ⟨fun o u hu => cell_later hb (h.all o u hu), fun Q hQ => cell_later hb (h.C Q hQ), cell_later hb h.wayc, h.box.below hb⟩

/-- The ways through Check ahead of its loop. -/
theorem check_ways (rs : List Row) (cnt : Int) (os way : List Rec) (r : Rec) (hr : r.ok) (hg : goodRec r = true) :
    (0 ≤ r.q ∧ r.q < 8) ∧
    (((lookOf rs r.p r.q r.s == 2) = true ∧ checkCode rs cnt os way r = 0) ∨
    (((lookOf rs r.p r.q r.s == 2) = false ∧ (lookOf rs r.p r.q r.s == 4) = true) ∧ checkCode rs cnt os way r = 14) ∨
    (((lookOf rs r.p r.q r.s == 2) = false ∧ (lookOf rs r.p r.q r.s == 4) = false ∧ (cnt == 9223372036854775807) = true) ∧ checkCode rs cnt os way r = 14) ∨
    (((lookOf rs r.p r.q r.s == 2) = false ∧ (lookOf rs r.p r.q r.s == 4) = false ∧ (cnt == 9223372036854775807) = false ∧ onWay way r r.s = true) ∧ checkCode rs cnt os way r = 0) ∨
    (((lookOf rs r.p r.q r.s == 2) = false ∧ (lookOf rs r.p r.q r.s == 4) = false ∧ (cnt == 9223372036854775807) = false ∧ onWay way r r.s = false) ∧ lastOf rs r.p r.q < r.s ∧
      checkCode rs cnt os way r = if ∃ d : Nat, d < (r.s - (lastOf rs r.p r.q + 1)).toNat ∧ onWay way r (lastOf rs r.p r.q + 1 + d) = false then 11
  else if 32 ≤ mine os r.p + mine way r.p ∨ 256 ≤ way.length ∨ 512 ≤ os.length + way.length then 10
  else 0)) := by
  have hq : 0 ≤ r.q ∧ r.q < 8 := by unfold goodRec at hg; simp at hg; omega
  refine ⟨hq, ?_⟩
  unfold checkCode
  rw [if_neg (by rw [hg]; simp)]
  simp only [beq_iff_eq, beq_eq_false_iff_ne]
  by_cases h2 : lookOf rs r.p r.q r.s = 2
  · left; exact ⟨h2, if_pos h2⟩
  rw [if_neg h2]
  by_cases h4 : lookOf rs r.p r.q r.s = 4
  · right; left; exact ⟨⟨h2, h4⟩, if_pos (.inl h4)⟩
  by_cases hc : cnt = 9223372036854775807
  · right; right; left; exact ⟨⟨h2, h4, hc⟩, if_pos (.inr hc)⟩
  rw [if_neg (by simp [h4, hc])]
  cases ho : onWay way r r.s with
  | true => right; right; right; left; exact ⟨⟨h2, h4, hc, rfl⟩, if_pos rfl⟩
  | false =>
    right; right; right; right
    refine ⟨⟨h2, h4, hc, rfl⟩, ?_, if_neg (by simp)⟩
    unfold lookOf at h2 h4
    have hs := hr.2.1
    unfold I64 at hs
    rcases Int.lt_or_le (lastOf rs r.p r.q) r.s with h | h
    · exact h
    · exfalso
      rw [if_neg (fun h5 => by rw [if_pos h5] at h4; exact h4 rfl), if_pos h] at h2
      exact h2 rfl

set_option maxHeartbeats 2000000 in
set_option maxRecDepth 100000 in
theorem qcheck_calls (rows opn batches ops v : Value) (C : Nat → Int) (sealed decided keep : Int) (deployed : Bool) (rs : List Row) (os way : List Rec) (r : Rec) (w : World)
    (hrs : Rows w rows rs) (hok : ∀ x ∈ rs, x.ok) (ho : Recs w opn os) (hv : Recs w v way) (hr : r.ok) (hlen : os.length + way.length ≤ 4611686018427387904) :
    Calls Try.prog 7 #[.agg #[rows, .int .i64 (C 0), .int .i64 (C 1), .int .i64 (C 2), .int .i64 (C 3), .int .i64 (C 4), .int .i64 (C 5), .int .i64 (C 6), .int .i64 (C 7), opn, batches, .int .i64 sealed, .int .i64 decided, .bool deployed, ops, .int .i64 keep], v, .agg #[.int .i64 r.p, .int .i64 r.s, .int .i64 r.q, .string r.key, .int .u32 r.val]] w fun e w' =>
      e = .returned (.int .i64 (checkCode rs (C r.q.toNat) os way r)) ∧ Below w.heap.size w w' := by
  obtain ⟨X, hX⟩ : ∃ X, X = ((w.alloc (.cells #[rows, .int .i64 (C 0), .int .i64 (C 1), .int .i64 (C 2), .int .i64 (C 3), .int .i64 (C 4), .int .i64 (C 5), .int .i64 (C 6), .int .i64 (C 7), opn, batches, .int .i64 sealed, .int .i64 decided, .bool deployed, ops, .int .i64 keep] 30)).alloc (.cells #[v] 24)).alloc (.cells #[.int .i64 r.p, .int .i64 r.s, .int .i64 r.q, .string r.key, .int .u32 r.val] 33) := ⟨_, rfl⟩
  obtain ⟨hXs, hbX, x0, xC, x9, xw, xr, xall⟩ := check_boxes rows opn batches ops v C sealed decided keep deployed r w X hX
  have hcb : CBox X w.heap.size rows opn batches ops v C sealed decided keep deployed r := ⟨fun o u hu => by rw [xall]; exact hu, xC, xw, xr⟩
  have HRS := Lib.hid (hrs.below hbX (Nat.le_refl _) : Rows X rows rs)
  have HO := Lib.hid (ho.below hbX (Nat.le_refl _) : Recs X opn os)
  have HV := Lib.hid (hv.below hbX (Nat.le_refl _) : Recs X v way)
  have HOK := Lib.hid hok
  have HR := Lib.hid hr
  obtain ⟨ra, rcap, rfl, -, -⟩ := Rd.slice hrs
  obtain ⟨oa, ocap, rfl, -, -⟩ := Rd.slice ho
  obtain ⟨va, vcap, rfl, -, -⟩ := Rd.slice hv
  have HX := Lib.hid hX
  have HBX := Lib.hid hbX
  have HCB := Lib.hid hcb
  have y0 := xr.c0
  have y1 := xr.c1
  have y2 := xr.c2
  have y3 := xr.c3
  have y4 := xr.c4
  have HW := Lib.hid (check_ways rs (C r.q.toNat) os way r hr)
  have HNG : Hid (goodRec r = false → checkCode rs (C r.q.toNat) os way r = 3) := Lib.hid (fun h => by unfold checkCode; rw [if_pos h])
  clear hrs ho hv hok hX hbX xr xall x0 xC x9 xw hcb hXs hr
  generalize hcode : checkCode rs (C r.q.toNat) os way r = code at *
  clear hcode
  go_enter Try.func7, Try.ntmps7
  go_wp2_with fail
  rw [← HX.out]
  refine (good_calls r X).mono ?_
  rintro e w1 ⟨rfl, hb1⟩
  have HB1 := Lib.hid hb1
  have cb1 := HCB.out.below hb1
  clear hb1 y0 y1 y2 y3 y4
  cases hg : goodRec r with
  | false =>
    have hc3 := HNG.out hg
    subst hc3
    clear hg cb1
    go_wp2_with fail
    go_ret
    exact ⟨rfl, HBX.out.trans (HB1.out.mono HBX.out.size)⟩
  | true =>
    obtain ⟨⟨hq1, hq2⟩, hway⟩ := HW.out hg
    obtain ⟨Q, hQ⟩ : ∃ Q : Nat, r.q = Q := ⟨r.q.toNat, by omega⟩
    rw [show r.q.toNat = Q from by omega] at hway
    have HWAY := Lib.hid hway
    have hQ8 : (Q : Int) < 8 := by omega
    have y0 := cb1.box.c0
    have y1 := cb1.box.c1
    have y2 := cb1.box.c2
    have x0 := cb1.all 0 _ rfl
    have CB1 := Lib.hid cb1
    have HQ := Lib.hid hQ
    clear hg hway cb1 hQ
    go_wp2_with fail
    refine (look_calls _ rs r.p r.q r.s w1 (HRS.out.below HB1.out (Nat.le_refl _)) HOK.out HR.out.2.1).mono ?_
    rintro e w2 ⟨rfl, hb2⟩
    have HB2 := Lib.hid (HB1.out.trans (hb2.mono HB1.out.size))
    have cb2 := CB1.out.below hb2
    have y0 := cb2.box.c0
    have y1 := cb2.box.c1
    have y2 := cb2.box.c2
    rw [HQ.out] at y2
    have x0 := cb2.all 0 _ rfl
    have xC := cb2.C Q (by omega)
    have CB2 := Lib.hid cb2
    have HVR := Lib.hid (HV.out.below HB2.out (Nat.le_refl _) : Recs w2 _ way)
    clear hb2 cb2
    generalize lookOf rs r.p r.q r.s = lk at *
    rcases HWAY.out with ⟨k1, rfl⟩ | ⟨⟨k1, k2⟩, rfl⟩ | ⟨⟨k1, k2, k3⟩, rfl⟩ | ⟨⟨k1, k2, k3, k4⟩, rfl⟩ | ⟨⟨k1, k2, k3, k4⟩, hlt, hcode⟩
    · go_wp2_with fail
      go_ret
      exact ⟨rfl, HBX.out.trans (HB2.out.mono HBX.out.size)⟩
    · go_wp2_with fail
      go_ret
      exact ⟨rfl, HBX.out.trans (HB2.out.mono HBX.out.size)⟩
    · go_wp2_with fail
      go_ret
      exact ⟨rfl, HBX.out.trans (HB2.out.mono HBX.out.size)⟩
    · go_wp2_with fail
      refine (has_calls (w.heap.size + 1) (w.heap.size + 1 + 1) _ way r r.s w2 CB2.out.wayc HVR.out CB2.out.box).mono ?_
      rintro e w3 ⟨rfl, hb3⟩
      rw [k4]
      have HB3 := Lib.hid (HB2.out.trans (hb3.mono HB2.out.size))
      clear hb3 k4
      go_wp2_with fail
      go_ret
      exact ⟨rfl, HBX.out.trans (HB3.out.mono HBX.out.size)⟩
    · have HCODE := Lib.hid hcode
      have hls := lastOf_ok rs r.p r.q HOK.out
      have hrs := HR.out.2.1
      unfold I64 at hls hrs
      obtain ⟨hl1, hl2⟩ := hls
      obtain ⟨hs1, hs2⟩ := hrs
      clear hcode
      go_wp2_with fail
      refine (has_calls (w.heap.size + 1) (w.heap.size + 1 + 1) _ way r r.s w2 CB2.out.wayc HVR.out CB2.out.box).mono ?_
      rintro e w3 ⟨rfl, hb3⟩
      rw [k4]
      have HB3 := Lib.hid (HB2.out.trans (hb3.mono HB2.out.size))
      have cb3 := CB2.out.below hb3
      have y0 := cb3.box.c0
      have y1 := cb3.box.c1
      have y2 := cb3.box.c2
      have x0 := cb3.all 0 _ rfl
      have CB3 := Lib.hid cb3
      clear hb3 k4 cb3
      go_wp2_with fail
      refine (last_calls _ rs r.p r.q w3 (HRS.out.below HB3.out (Nat.le_refl _))).mono ?_
      rintro e w4 ⟨rfl, hb4⟩
      have HB4 := Lib.hid (HB3.out.trans (hb4.mono HB3.out.size))
      have CB4 := Lib.hid (CB3.out.below hb4)
      clear hb4
      generalize lastOf rs r.p r.q = l at *
      have hl3 : l + 1 ≤ 9223372036854775807 := by omega
      go_wp2_with fail
      go_loopw [9] (fun i wr => ∃ d : Nat, d ≤ (r.s - (l + 1)).toNat ∧ i = .int .i64 (l + 1 + d) ∧ (∀ d' : Nat, d' < d → onWay way r (l + 1 + d') = true) ∧ Below X.heap.size X wr) (fun i _ => (r.s - intOf i).toNat)
      case atStart => exact ⟨0, by omega, by simp, fun d' h => by omega, HB4.out⟩
      case round =>
        obtain ⟨d, hd, rfl, hall, hb⟩ := hrel
        have HALL := Lib.hid hall
        have HB5 := Lib.hid hb
        have cb5 := HCB.out.below hb
        have y0 := cb5.box.c0
        have y1 := cb5.box.c1
        have y2 := cb5.box.c2
        have x0 := cb5.all 0 _ rfl
        have CB5 := Lib.hid cb5
        have HV5 := Lib.hid (HV.out.below hb (Nat.le_refl _) : Recs wr _ way)
        clear hall hb
        by_cases hdl : d < (r.s - (l + 1)).toNat
        · have k5 : (l + 1 + (d : Int) != r.s) = true := bne_iff_ne.2 (by omega)
          have k6 : l + 1 + (d : Int) ≤ 9223372036854775807 := by omega
          have k7 : -9223372036854775808 ≤ l + 1 + (d : Int) := by omega
          clear cb5
          go_wp2_with fail
          refine (has_calls (w.heap.size + 1) (w.heap.size + 1 + 1) _ way r (l + 1 + d) wr CB5.out.wayc HV5.out CB5.out.box).mono ?_
          rintro e w6 ⟨rfl, hb6⟩
          have HB6 := Lib.hid (HB5.out.trans (hb6.mono HB5.out.size))
          clear hb6
          cases ho : onWay way r (l + 1 + d) with
          | true =>
            have HON := Lib.hid ho
            clear ho
            have k8 : l + 1 + (d : Int) + 1 ≤ 9223372036854775807 := by omega
            go_wp2_with fail
            go_roundw
            case rel =>
              refine ⟨d + 1, by omega, ?_, fun d' h => ?_, HB6.out⟩
              · congr 1; omega
              · by_cases hdd : d' = d
                · subst hdd; exact HON.out
                · exact HALL.out d' (by omega)
            case measure => simp [intOf]; omega
          | false =>
            have hc : code = 11 := by rw [HCODE.out, if_pos ⟨d, hdl, ho⟩]
            subst hc
            clear ho HCODE
            go_wp2_with fail
            go_ret
            exact ⟨rfl, HBX.out.trans (HB6.out.mono HBX.out.size)⟩
        · have hds : l + 1 + (d : Int) = r.s := by omega
          rw [hds]
          have k5 : (r.s != r.s) = false := bne_self_eq_false r.s
          have hno : ¬ ∃ d' : Nat, d' < (r.s - (l + 1)).toNat ∧ onWay way r (l + 1 + d') = false := by
            rintro ⟨d', h1, h2⟩
            have := HALL.out d' (by omega)
            rw [this] at h2; cases h2
          have hc2 := HCODE.out
          rw [if_neg hno] at hc2
          have xw := cb5.wayc
          have HC2 := Lib.hid hc2
          clear hds hno hc2 cb5
          go_wp2_with fail
          refine (count_calls _ way 17 #[.pointer (some ⟨w.heap.size + 1 + 1, 0, none⟩)] (fun o => o.p == r.p) wr (enters_of Try.func17 (by kernel_rfl) rfl) HV5.out (chk2_asks wr _ r CB5.out.box)).mono ?_
          rintro e w6 ⟨rfl, hb6⟩
          rw [show (way.filter fun o => o.p == r.p).length = mine way r.p from rfl]
          have HB6 := Lib.hid (HB5.out.trans (hb6.mono HB5.out.size))
          have cb6 := CB5.out.below hb6
          have y0 := cb6.box.c0
          have z0 := cb6.all 0 _ rfl
          have z1 := cb6.all 1 _ rfl
          have z2 := cb6.all 2 _ rfl
          have z3 := cb6.all 3 _ rfl
          have z4 := cb6.all 4 _ rfl
          have z5 := cb6.all 5 _ rfl
          have z6 := cb6.all 6 _ rfl
          have z7 := cb6.all 7 _ rfl
          have z8 := cb6.all 8 _ rfl
          have z9 := cb6.all 9 _ rfl
          have z10 := cb6.all 10 _ rfl
          have z11 := cb6.all 11 _ rfl
          have z12 := cb6.all 12 _ rfl
          have z13 := cb6.all 13 _ rfl
          have z14 := cb6.all 14 _ rfl
          have z15 := cb6.all 15 _ rfl
          have CB6 := Lib.hid cb6
          clear hb6 cb6 xw y1 y2
          go_wp2_with fail
          refine (qof_calls _ _ _ _ C _ _ _ _ os r.p w6 (HO.out.below HB6.out (Nat.le_refl _))).mono ?_
          rintro e w7 ⟨rfl, hb7⟩
          have HB7 := Lib.hid (HB6.out.trans (hb7.mono HB6.out.size))
          have cb7 := CB6.out.below hb7
          have xw := cb7.wayc
          have x9 := cb7.all 9 _ rfl
          clear hb7 cb7 y0 z0 z1 z2 z3 z4 z5 z6 z7 z8 z9 z10 z11 z12 z13 z14 z15
          have hm1 : mine os r.p ≤ os.length := List.length_filter_le _ _
          have hm2 : mine way r.p ≤ way.length := List.length_filter_le _ _
          generalize mine os r.p = M1 at *
          generalize mine way r.p = M2 at *
          have hway : (decide ((32 : Int) ≤ (M1 : Int) + M2) = true ∧ code = 10) ∨ ((decide ((32 : Int) ≤ (M1 : Int) + M2) = false ∧ decide ((256 : Int) ≤ way.length) = true) ∧ code = 10) ∨ ((decide ((32 : Int) ≤ (M1 : Int) + M2) = false ∧ decide ((256 : Int) ≤ way.length) = false ∧ decide ((512 : Int) ≤ (os.length : Int) + way.length) = true) ∧ code = 10) ∨
              ((decide ((32 : Int) ≤ (M1 : Int) + M2) = false ∧ decide ((256 : Int) ≤ way.length) = false ∧ decide ((512 : Int) ≤ (os.length : Int) + way.length) = false) ∧ code = 0) := by
            have hc := HC2.out
            simp only [decide_eq_true_eq, decide_eq_false_iff_not]
            by_cases q1 : 32 ≤ M1 + M2
            · left; exact ⟨by omega, by rw [hc, if_pos (.inl q1)]⟩
            by_cases q2 : 256 ≤ way.length
            · right; left; exact ⟨by omega, by rw [hc, if_pos (.inr (.inl q2))]⟩
            by_cases q3 : 512 ≤ os.length + way.length
            · right; right; left; exact ⟨by omega, by rw [hc, if_pos (.inr (.inr q3))]⟩
            · right; right; right; exact ⟨by omega, by rw [hc, if_neg (by omega)]⟩
          clear HC2 HCODE
          rcases hway with ⟨j1, rfl⟩ | ⟨⟨j1, j2⟩, rfl⟩ | ⟨⟨j1, j2, j3⟩, rfl⟩ | ⟨⟨j1, j2, j3⟩, rfl⟩
          all_goals
            go_wp2_with fail
            go_ret
            exact ⟨rfl, HBX.out.trans (HB7.out.mono HBX.out.size)⟩
end Go.Proofs.Ytibmgjhpkdgnpaa

/- Layer 15: known walked; ledgers and records read of an argument. -/
namespace Go.Proofs.Ytibmgjhpkdgnpaa
open Go.RowKit Go.Shelf Go.ChangeShapes Go.WideShapes Go.ChangeAt

def rec0 : Rec := ⟨0, 0, 0, ⟨#[]⟩, 0⟩
def rec2 : Rec := ⟨0, 2, 0, ⟨#[]⟩, 0⟩
theorem code0 : checkCode [] 0 [] [] rec0 = 0 := by decide
theorem code2 : checkCode [] 0 [] [rec0] rec2 = 11 := by
  have h1 : goodRec rec2 = true := by decide
  have h2 : lookOf [] rec2.p rec2.q rec2.s = 3 := by decide
  have h3 : onWay [rec0] rec2 rec2.s = false := by decide
  unfold checkCode
  rw [if_neg (by rw [h1]; simp), if_neg (by rw [h2]; omega), if_neg (by rw [h2]; omega), if_neg (by rw [h3]; simp), if_pos ⟨1, by decide, by decide⟩]

set_option maxHeartbeats 1000000 in
set_option maxRecDepth 100000 in
theorem known_calls (w : World) : Calls Try.prog 6 #[] w fun e w' => e = .returned (.bool true) ∧ Below w.heap.size w w' := by
  obtain ⟨X, hX⟩ : ∃ X, X = (w.alloc (.cells #[.int .i64 0, .int .i64 0, .int .i64 0, .string ⟨#[]⟩, .int .u32 0] 33)).alloc (.cells #[.int .i64 0, .int .i64 2, .int .i64 0, .string ⟨#[]⟩, .int .u32 0] 33) := ⟨_, rfl⟩
  have hbX : Below w.heap.size w X := by rw [hX]; exact ((Below.refl w.heap.size w).alloc (Nat.le_refl _) _).alloc (by simp) _
  have hXs : X.heap.size = w.heap.size + 2 := by rw [hX]; simp
  have r0 : RecBox X w.heap.size rec0 := by
    constructor <;> (rw [hX, World.cell?_alloc_past _ _ _ (by simp), World.cell?_alloc_at _ _ _ _ rfl]; rfl)
  have r2 : RecBox X (w.heap.size + 1) rec2 := by
    constructor <;> (rw [hX, World.cell?_alloc_at _ _ _ _ (by simp)]; rfl)
  have hz0 : rec0.ok := ⟨⟨by decide, by decide⟩, ⟨by decide, by decide⟩, ⟨by decide, by decide⟩, by decide⟩
  have hz2 : rec2.ok := ⟨⟨by decide, by decide⟩, ⟨by decide, by decide⟩, ⟨by decide, by decide⟩, by decide⟩
  have hlit : ∀ W : World, Recs (W.alloc (.cells #[.int .i64 0, .int .i64 0, .int .i64 0, .string ⟨#[]⟩, .int .u32 0] 33)) (.slice (some ⟨W.heap.size, 0, none⟩) 1 1) [rec0] := fun W => Rd.lit (w := W) (cs := #[.int .i64 0, .int .i64 0, .int .i64 0, .string ⟨#[]⟩, .int .u32 0]) (e := 33) (n := 1) (sz := 5) rfl (by omega)
  have HX := Lib.hid hX
  have HBX := Lib.hid hbX
  have HLIT := Lib.hid hlit
  have R0 := Lib.hid r0
  have R2 := Lib.hid r2
  clear hX hbX r0 r2 hlit
  go_enter Try.func6, Try.ntmps6
  go_wp2_with fail
  rw [← HX.out]
  refine (qcheck_calls (.slice none 0 0) (.slice none 0 0) (.slice none 0 0) (.slice none 0 0) (.slice none 0 0) (fun _ => 0) 0 0 0 false [] [] [] rec0 X (Rd.nil _ _) (fun x h => by simp at h) (Rd.nil _ _) (Rd.nil _ _) hz0 (by simp)).mono ?_
  rintro e w1 ⟨rfl, hb1⟩
  rw [code0]
  have HB1 := Lib.hid hb1
  have q0 := R0.out.below hb1
  have q2 := R2.out.below hb1
  have y0 := q0.c0
  have y1 := q0.c1
  have y2 := q0.c2
  have y3 := q0.c3
  have y4 := q0.c4
  have z0 := cell_later ((Below.refl w1.heap.size w1).alloc (Nat.le_refl _) (.cells #[.int .i64 0, .int .i64 0, .int .i64 0, .string ⟨#[]⟩, .int .u32 0] 33)) q2.c0
  have z1 := cell_later ((Below.refl w1.heap.size w1).alloc (Nat.le_refl _) (.cells #[.int .i64 0, .int .i64 0, .int .i64 0, .string ⟨#[]⟩, .int .u32 0] 33)) q2.c1
  have z2 := cell_later ((Below.refl w1.heap.size w1).alloc (Nat.le_refl _) (.cells #[.int .i64 0, .int .i64 0, .int .i64 0, .string ⟨#[]⟩, .int .u32 0] 33)) q2.c2
  have z3 := cell_later ((Below.refl w1.heap.size w1).alloc (Nat.le_refl _) (.cells #[.int .i64 0, .int .i64 0, .int .i64 0, .string ⟨#[]⟩, .int .u32 0] 33)) q2.c3
  have z4 := cell_later ((Below.refl w1.heap.size w1).alloc (Nat.le_refl _) (.cells #[.int .i64 0, .int .i64 0, .int .i64 0, .string ⟨#[]⟩, .int .u32 0] 33)) q2.c4
  clear hb1 q0 q2
  simp only [rec0, rec2] at y0 y1 y2 y3 y4 z0 z1 z2 z3 z4
  go_wp2_with fail
  refine (qcheck_calls (.slice none 0 0) (.slice none 0 0) (.slice none 0 0) (.slice none 0 0) (.slice (some ⟨w1.heap.size, 0, none⟩) 1 1) (fun _ => 0) 0 0 0 false [] [] [rec0] rec2 _ (Rd.nil _ _) (fun x h => by simp at h) (Rd.nil _ _) (HLIT.out w1) hz2 (by simp)).mono ?_
  rintro e w2 ⟨rfl, hb2⟩
  rw [code2]
  have hb12 : Below w1.heap.size w1 w2 := ((Below.refl w1.heap.size w1).alloc (Nat.le_refl _) (.cells #[.int .i64 0, .int .i64 0, .int .i64 0, .string ⟨#[]⟩, .int .u32 0] 33)).trans (hb2.mono (by simp))
  have HB2 := Lib.hid (HB1.out.trans (hb12.mono HB1.out.size))
  have y0 := cell_later hb12 y0
  have y1 := cell_later hb12 y1
  have y2 := cell_later hb12 y2
  have y3 := cell_later hb12 y3
  have y4 := cell_later hb12 y4
  clear hb2 hb12 z0 z1 z2 z3 z4
  go_wp2_with fail
  refine (qof_calls (.slice none 0 0) (.slice (some ⟨w2.heap.size, 0, none⟩) 1 1) (.slice none 0 0) (.slice none 0 0) (fun _ => 0) 0 0 0 false [rec0] 0 _ (HLIT.out w2)).mono ?_
  rintro e w3 ⟨rfl, hb3⟩
  rw [show mine [rec0] 0 = 1 from by decide]
  have HB3 := Lib.hid (HB2.out.trans ((((Below.refl w2.heap.size w2).alloc (Nat.le_refl _) (.cells #[.int .i64 0, .int .i64 0, .int .i64 0, .string ⟨#[]⟩, .int .u32 0] 33)).trans (hb3.mono (by simp))).mono HB2.out.size))
  clear hb3 y0 y1 y2 y3 y4
  go_wp2_with fail
  go_ret
  exact ⟨rfl, HBX.out.trans (HB3.out.mono HBX.out.size)⟩
end Go.Proofs.Ytibmgjhpkdgnpaa

/- Layer 15: what is handed in, taken, sealed and decided; as data. -/
namespace Go.Proofs.Ytibmgjhpkdgnpaa
open Go.RowKit

def cq (rs : List Rec) (p q : Int) : Nat := (rs.filter fun r => r.p == p && r.q == q).length
theorem cq_nil (p q : Int) : cq [] p q = 0 := rfl
theorem cq_append (a b : List Rec) (p q : Int) : cq (a ++ b) p q = cq a p q + cq b p q := by simp [cq]
theorem cq_one (r : Rec) (p q : Int) : cq [r] p q = if r.p = p ∧ r.q = q then 1 else 0 := by
  unfold cq
  by_cases h : r.p = p ∧ r.q = q
  · rw [if_pos h]; simp [h.1, h.2]
  · rw [if_neg h]
    have : (r.p == p && r.q == q) = false := by
      cases hb : (r.p == p && r.q == q) with
      | false => rfl
      | true => simp at hb; exact absurd hb h
    simp [this]
theorem cq_cons (r : Rec) (rs : List Rec) (p q : Int) : cq (r :: rs) p q = (if r.p = p ∧ r.q = q then 1 else 0) + cq rs p q := by
  rw [← List.singleton_append, cq_append, cq_one]
theorem mine_append (a b : List Rec) (p : Int) : mine (a ++ b) p = mine a p + mine b p := by simp [mine]
theorem mine_cons (r : Rec) (rs : List Rec) (p : Int) : mine (r :: rs) p = (if r.p = p then 1 else 0) + mine rs p := by
  unfold mine
  by_cases h : r.p = p
  · simp [h]; omega
  · have : (r.p == p) = false := beq_eq_false_iff_ne.2 h
    simp [this, h]
theorem mine_nil (p : Int) : mine [] p = 0 := rfl
theorem sum4 : ∀ l : List Rec, (∀ r ∈ l, 0 ≤ r.p ∧ r.p ≤ 3) → l.length = mine l 0 + mine l 1 + mine l 2 + mine l 3
  | [], _ => rfl
  | r :: l, h => by
    have hr := h r (by simp)
    have ih := sum4 l (fun x hx => h x (by simp [hx]))
    simp only [mine_cons, List.length_cons]
    rcases (show r.p = 0 ∨ r.p = 1 ∨ r.p = 2 ∨ r.p = 3 by omega) with e | e | e | e <;> simp [e] <;> omega

/-- Each number of a producer and part on the way is the last one's, one behind the other. -/
def WayOrd (rows : List Row) (way : List Rec) : Prop := ∀ (a : List Rec) (r : Rec) (b : List Rec), way = a ++ r :: b → r.s = lastOf rows r.p r.q + 1 + (cq a r.p r.q : Int)
theorem WayOrd.front {rows : List Row} {way : List Rec} {x : Rec} (h : WayOrd rows (way ++ [x])) : WayOrd rows way := fun a r b e => h a r (b ++ [x]) (by rw [e]; simp)
theorem on_all (rows : List Row) (p q : Int) : ∀ (n : Nat) (way : List Rec), way.length = n → WayOrd rows way → ∀ d : Nat, d < cq way p q → ∃ o ∈ way, o.p = p ∧ o.q = q ∧ o.s = lastOf rows p q + 1 + d := by
  intro n
  induction n with
  | zero =>
    intro way hl _ d hd
    obtain rfl := List.length_eq_zero_iff.1 hl
    simp [cq] at hd
  | succ n ih =>
    intro way hl ho d hd
    obtain ⟨w', x, rfl⟩ : ∃ w' x, way = w' ++ [x] := by
      rcases List.eq_nil_or_concat way with rfl | ⟨w', x, e⟩
      · simp at hl
      · exact ⟨w', x, by rw [e, List.concat_eq_append]⟩
    have hl' : w'.length = n := by simp at hl; exact hl
    by_cases h : d < cq w' p q
    · obtain ⟨o, hm, h1⟩ := ih w' hl' ho.front d h
      exact ⟨o, List.mem_append_left _ hm, h1⟩
    · rw [cq_append, cq_one] at hd
      by_cases e : x.p = p ∧ x.q = q
      · rw [if_pos e] at hd
        have hx := ho w' x [] rfl
        obtain ⟨rfl, rfl⟩ := e
        exact ⟨x, by simp, rfl, rfl, by rw [hx]; omega⟩
      · rw [if_neg e] at hd; omega
theorem way_lt {rows : List Row} {way : List Rec} (ho : WayOrd rows way) {o : Rec} (hm : o ∈ way) : o.s < lastOf rows o.p o.q + 1 + (cq way o.p o.q : Int) := by
  obtain ⟨a, b, rfl⟩ := List.append_of_mem hm
  have := ho a o b rfl
  rw [this, cq_append, cq_cons, if_pos ⟨rfl, rfl⟩]
  omega

/-- What stands behind any steps. -/
structure Holds (L : Led) (way : List Rec) (nx : Nat → Int) (k : Nat) : Prop where
  good : L.good = true
  dep : L.dep = true
  wf : ∀ r ∈ way, 0 ≤ r.p ∧ r.p ≤ 3 ∧ 0 ≤ r.q ∧ r.q ≤ 1 ∧ goodRec r = true ∧ r.ok
  opf : ∀ r ∈ L.opn, 0 ≤ r.p ∧ r.p ≤ 3
  few : ∀ p : Int, 0 ≤ p → p ≤ 3 → mine L.opn p + mine way p ≤ 32
  num : ∀ p q : Nat, p ≤ 3 → q ≤ 1 → nx (8 * p + q) = lastOf L.rows p q + 1 + (cq way p q : Int)
  ord : WayOrd L.rows way
  C : ∀ q : Nat, q < 8 → L.C q ≤ k
  nxb : ∀ j, 0 ≤ nx j ∧ nx j ≤ k

theorem Holds.len {L : Led} {way : List Rec} {nx : Nat → Int} {k : Nat} (h : Holds L way nx k) : L.opn.length + way.length ≤ 128 := by
  have h1 := sum4 L.opn h.opf
  have h2 := sum4 way (fun r hr => ⟨(h.wf r hr).1, (h.wf r hr).2.1⟩)
  have f0 := h.few 0 (by omega) (by omega)
  have f1 := h.few 1 (by omega) (by omega)
  have f2 := h.few 2 (by omega) (by omega)
  have f3 := h.few 3 (by omega) (by omega)
  omega
theorem Holds.table {L : Led} {way : List Rec} {nx : Nat → Int} {k : Nat} (h : Holds L way nx k) : Table L.rows := (table_good _).1 ((good_iff L).1 h.good).1.1
theorem last_ge' {rs : List Row} (h : Table rs) (p q : Int) : -1 ≤ lastOf rs p q := by
  have h2 : ∀ r ∈ rs, 0 ≤ r.l := fun r hr => (h.2 r hr).2
  clear h
  induction rs with
  | nil => show (-1 : Int) ≤ -1; omega
  | cons r rs ih =>
    by_cases e : r.p = p ∧ r.q = q
    · obtain ⟨rfl, rfl⟩ := e
      rw [lastOf_hit]
      have := h2 r (by simp)
      omega
    · rw [lastOf_miss r rs p q e]
      exact ih (fun x hx => h2 x (by simp [hx]))

/-- What Check says of a number that isn't too far ahead. -/
theorem Holds.check {L : Led} {way : List Rec} {nx : Nat → Int} {k : Nat} (h : Holds L way nx k) (hk : k ≤ 300) {p q : Nat} (hp : p ≤ 3) (hq : q ≤ 1) {r : Rec} (ep : r.p = p) (eq : r.q = q) (hkey : r.key.size ≤ 32) (hs0 : 0 ≤ r.s) (hs : r.s ≤ nx (8 * p + q)) :
    (checkCode L.rows (L.C r.q.toNat) L.opn way r = 0 ∨ checkCode L.rows (L.C r.q.toNat) L.opn way r = 10) ∧
    (checkCode L.rows (L.C r.q.toNat) L.opn way r = 0 → r.s = nx (8 * p + q) → mine L.opn r.p + mine way r.p < 32) := by
  have hg : goodRec r = true := by unfold goodRec; exact decide_eq_true (by omega)
  have hn := h.num p q hp hq
  have hb := h.nxb (8 * p + q)
  have hl := last_ge' h.table p q
  have hC := h.C q (by omega)
  have hqn : r.q.toNat = q := by omega
  have hlen := h.len
  rw [← ep, ← eq] at hn hl
  unfold checkCode
  rw [if_neg (by simp [hg]), hqn]
  unfold lookOf
  rw [if_neg (show ¬(lastOf L.rows r.p r.q = 9223372036854775807 ∧ r.s = 9223372036854775807) by omega)]
  by_cases h1 : r.s ≤ lastOf L.rows r.p r.q
  · rw [if_pos h1, if_pos rfl]
    exact ⟨.inl rfl, fun _ e => by omega⟩
  · rw [if_neg h1]
    have h2 : ¬ (if r.s = lastOf L.rows r.p r.q + 1 then (1 : Int) else 3) = 2 := by split <;> omega
    have h3 : ¬ ((if r.s = lastOf L.rows r.p r.q + 1 then (1 : Int) else 3) = 4 ∨ L.C q = 9223372036854775807) := by
      intro e
      rcases e with e | e
      · split at e <;> omega
      · omega
    rw [if_neg h2, if_neg h3]
    by_cases h4 : onWay way r r.s = true
    · rw [if_pos h4]
      refine ⟨.inl rfl, fun _ e => ?_⟩
      unfold onWay at h4
      rw [List.any_eq_true] at h4
      obtain ⟨o, hm, ho⟩ := h4
      simp only [Bool.and_eq_true, beq_iff_eq] at ho
      have := way_lt h.ord hm
      rw [ho.1.1, ho.1.2, ho.2] at this
      omega
    · rw [if_neg h4]
      have h5 : ¬ ∃ d : Nat, d < (r.s - (lastOf L.rows r.p r.q + 1)).toNat ∧ onWay way r (lastOf L.rows r.p r.q + 1 + d) = false := by
        rintro ⟨d, hd, he⟩
        obtain ⟨o, hm, e1, e2, e3⟩ := on_all L.rows r.p r.q _ way rfl h.ord d (by omega)
        have : onWay way r (lastOf L.rows r.p r.q + 1 + d) = true := by
          unfold onWay
          rw [List.any_eq_true]
          exact ⟨o, hm, by simp [e1, e2, e3]⟩
        rw [this] at he
        cases he
      rw [if_neg h5]
      split
      · exact ⟨.inr rfl, fun e _ => by omega⟩
      · rename_i h6
        exact ⟨.inl rfl, fun _ _ => by omega⟩
/-- A record is handed in. -/
theorem Holds.put {L : Led} {way : List Rec} {nx : Nat → Int} {k : Nat} (h : Holds L way nx k) {p q : Nat} (hp : p ≤ 3) (hq : q ≤ 1) {r : Rec} (ep : r.p = p) (eq : r.q = q) (hkey : r.key.size ≤ 32) (hok : r.ok) (hs : r.s = nx (8 * p + q)) (hm : mine L.opn r.p + mine way r.p < 32) :
    Holds L (way ++ [r]) (fun j => if j = 8 * p + q then nx j + 1 else nx j) (k + 1) := by
  have hn := h.num p q hp hq
  have hb := h.nxb (8 * p + q)
  have hg : goodRec r = true := by unfold goodRec; exact decide_eq_true (by omega)
  refine ⟨h.good, h.dep, fun x hx => ?_, h.opf, fun p' h0 h3 => ?_, fun p' q' hp' hq' => ?_, fun a x b e => ?_, fun q' hq' => by have := h.C q' hq'; omega, fun j => ?_⟩
  · rcases List.mem_append.1 hx with hx | hx
    · exact h.wf x hx
    · rw [List.mem_singleton] at hx; subst hx; exact ⟨by omega, by omega, by omega, by omega, hg, hok⟩
  · rw [mine_append, mine_cons, mine_nil]
    by_cases e : r.p = p'
    · subst e; simp; omega
    · rw [if_neg e]; have := h.few p' h0 h3; omega
  · have h1 := h.num p' q' hp' hq'
    rw [cq_append, cq_one]
    by_cases e : 8 * p' + q' = 8 * p + q
    · obtain ⟨rfl, rfl⟩ : p' = p ∧ q' = q := by omega
      simp only [if_true]
      rw [if_pos ⟨ep, eq⟩, h1]
      omega
    · simp only [if_neg e]
      rw [if_neg (by omega), h1]
      simp
  · rcases List.eq_nil_or_concat b with rfl | ⟨b', y, rfl⟩
    · have := List.append_inj' e rfl
      obtain ⟨rfl, h2⟩ := this
      simp only [List.cons.injEq, and_true] at h2
      subst h2
      rw [hs, hn, ep, eq]
    · rw [List.concat_eq_append, ← List.cons_append, ← List.append_assoc] at e
      have := List.append_inj' e rfl
      exact h.ord a x b' this.1
  · have := h.nxb j
    show 0 ≤ (if j = 8 * p + q then nx j + 1 else nx j) ∧ (if j = 8 * p + q then nx j + 1 else nx j) ≤ ((k + 1 : Nat) : Int)
    split <;> omega
theorem Holds.more {L : Led} {way : List Rec} {nx : Nat → Int} {k : Nat} (h : Holds L way nx k) : Holds L way nx (k + 1) :=
  ⟨h.good, h.dep, h.wf, h.opf, h.few, h.num, h.ord, fun q hq => by have := h.C q hq; omega, fun j => by have := h.nxb j; omega⟩
theorem Holds.same {L M : Led} {way : List Rec} {nx : Nat → Int} {k : Nat} (h : Holds L way nx k) (s : SameL L M) : Holds M way nx k :=
  ⟨by rw [s.good]; exact h.good, by rw [s.dep]; exact h.dep, h.wf, by rw [s.opn]; exact h.opf, by rw [s.opn]; exact h.few, by rw [s.rows]; exact h.num, by rw [s.rows]; exact h.ord, by rw [s.C]; exact h.C, h.nxb⟩

def entR (r : Rec) : Ent := ⟨1, r, .slice none 0 0, [], 0⟩
def entN (k n : Int) : Ent := ⟨k, ⟨0, 0, 0, ⟨#[]⟩, 0⟩, .slice none 0 0, [], n⟩
theorem entR_ok {r : Rec} (h : r.ok) : (entR r).Ok ∧ (entR r).Small := ⟨⟨by unfold I64 entR; simp, h, by unfold I64 entR; simp, fun o ho => by cases ho⟩, ⟨by unfold entR; simp, fun o ho => by cases ho⟩⟩
theorem entN_ok {k n : Int} (hk : I64 k) (hn : I64 n) : (entN k n).Ok ∧ (entN k n).Small :=
  ⟨⟨hk, ⟨by unfold I64 entN; simp, by unfold I64 entN; simp, by unfold I64 entN; simp, by unfold entN; exact (by decide : ByteArray.size ⟨#[]⟩ ≤ 9223372036854775807)⟩, hn, fun o ho => by cases ho⟩, ⟨by unfold entN; simp, fun o ho => by cases ho⟩⟩
theorem entR_good {r : Rec} (h : goodRec r = true) : (entR r).good = true := by
  unfold Ent.good entR
  exact (goodEnt_iff _ _ _ _).2 ⟨⟨by show (0 : Int) ≤ 1; omega, by show (1 : Int) ≤ 5; omega, by show (0 : Int) ≤ 0; omega, by simp⟩, .inl rfl, .inr rfl, .inr rfl, rfl, h⟩
/-- The first on the way is taken. -/
theorem Holds.take {L : Led} {r : Rec} {way : List Rec} {nx : Nat → Int} {k : Nat} (h : Holds L (r :: way) nx k) (hk : k ≤ 300) :
    (applyL L (entR r)).2.1 = true ∧ (applyL L (entR r)).2.2 = 0 ∧ Holds (applyL L (entR r)).1 way nx (k + 1) := by
  have hwf := h.wf r (by simp)
  have hord := h.ord [] r way rfl
  rw [cq_nil] at hord
  obtain ⟨p, hp⟩ : ∃ p : Nat, r.p = p := ⟨r.p.toNat, by omega⟩
  obtain ⟨q, hq⟩ : ∃ q : Nat, r.q = q := ⟨r.q.toNat, by omega⟩
  have hn := h.num p q (by omega) (by omega)
  have hb := h.nxb (8 * p + q)
  have hlen := h.len
  have hC := h.C q (by omega)
  have hqn : r.q.toNat = q := by omega
  rw [← hp, ← hq] at hn
  have hlk : lookOf L.rows r.p r.q r.s = 1 := by
    unfold lookOf
    rw [if_neg (by omega), if_neg (by omega), if_pos (by omega)]
  have htk : L.recTook r = true := by
    unfold Led.recTook
    exact decide_eq_true ⟨hlk, by rw [hqn]; omega, by omega⟩
  have hcode : L.recCode r = 0 := by
    unfold Led.recCode
    rw [hlk, hqn, if_neg (by omega), if_neg (by omega), if_neg (by omega), if_neg (by omega)]
  have he : applyL L (entR r) = (L.recL r, L.recTook r, L.recCode r) := by
    unfold applyL
    rw [if_pos ⟨h.good, entR_good hwf.2.2.2.2.1⟩]
    unfold stepL
    rw [if_pos (show (entR r).k = 1 from rfl)]
    rfl
  have hrb := goodRec_right hwf.2.2.2.2.1
  have hgM := (good_apply L (entR r)).resolve_left (by rw [he, hcode]; simp)
  rw [he] at hgM ⊢
  refine ⟨htk, hcode, ?_⟩
  have hrl : L.recL r = { L with rows := putRowAt ⟨r.p, r.q, r.s⟩ L.rows, C := L.bump r.q.toNat, opn := L.opn ++ [r] } := by unfold Led.recL; rw [if_pos htk]
  show Holds (L.recL r) way nx (k + 1)
  have hgM : (L.recL r).good = true := hgM
  rw [hrl] at hgM ⊢
  have hlo : ∀ p' q' : Int, lastOf (putRowAt ⟨r.p, r.q, r.s⟩ L.rows) p' q' = if r.p = p' ∧ r.q = q' then r.s else lastOf L.rows p' q' := fun p' q' => by
    by_cases e : r.p = p' ∧ r.q = q'
    · rw [if_pos e]; obtain ⟨rfl, rfl⟩ := e; exact last_put h.table _ _ _
    · rw [if_neg e]; exact last_put_other h.table _ _ _ _ _ hrb e
  refine ⟨hgM, h.dep, fun x hx => h.wf x (by simp [hx]), fun x hx => ?_, fun p' h0 h3 => ?_, fun p' q' hp' hq' => ?_, fun a x b e => ?_, fun q' hq' => ?_, fun j => by have := h.nxb j; omega⟩
  · rcases List.mem_append.1 hx with hx | hx
    · exact h.opf x hx
    · rw [List.mem_singleton] at hx; subst hx; exact ⟨hwf.1, hwf.2.1⟩
  · have := h.few p' h0 h3
    show mine (L.opn ++ [r]) p' + mine way p' ≤ 32
    rw [mine_append, mine_cons, mine_nil]
    rw [mine_cons] at this
    omega
  · have h1 := h.num p' q' hp' hq'
    show nx (8 * p' + q') = lastOf (putRowAt ⟨r.p, r.q, r.s⟩ L.rows) p' q' + 1 + (cq way p' q' : Int)
    rw [hlo]
    rw [cq_cons] at h1
    by_cases e : r.p = (p' : Int) ∧ r.q = (q' : Int)
    · rw [if_pos e] at h1 ⊢
      obtain ⟨e1, e2⟩ := e
      rw [← e1, ← e2] at h1 ⊢
      rw [h1, hord]
      omega
    · rw [if_neg e] at h1 ⊢
      rw [h1]
      simp
  · have h1 := h.ord (r :: a) x b (by rw [e]; rfl)
    show x.s = lastOf (putRowAt ⟨r.p, r.q, r.s⟩ L.rows) x.p x.q + 1 + (cq a x.p x.q : Int)
    rw [hlo]
    rw [cq_cons] at h1
    by_cases e2 : r.p = x.p ∧ r.q = x.q
    · rw [if_pos e2] at h1 ⊢
      rw [h1, hord, e2.1, e2.2]
      omega
    · rw [if_neg e2] at h1 ⊢
      rw [h1]
      simp
  · have := h.C q' hq'
    show L.bump r.q.toNat q' ≤ ((k + 1 : Nat) : Int)
    unfold Led.bump
    split <;> omega
/-- The epoch is sealed, or decided: or nothing is changed. -/
theorem Holds.other {L : Led} {way : List Rec} {nx : Nat → Int} {k : Nat} (h : Holds L way nx k) {kind n : Int} (hk : kind = 2 ∨ kind = 4) (hc : (applyL L (entN kind n)).2.2 = 0) : Holds (applyL L (entN kind n)).1 way nx (k + 1) := by
  have hgM := (good_apply L (entN kind n)).resolve_left (by rw [hc]; simp)
  unfold applyL at hc hgM ⊢
  split at hc
  · rename_i hg
    rw [if_pos hg] at hgM ⊢
    unfold stepL at hc hgM ⊢
    rcases hk with rfl | rfl
    · have k1 : ¬ (entN 2 n).k = 1 := by show ¬ (2 : Int) = 1; omega
      have k2 : (entN 2 n).k = 2 := rfl
      simp only [if_neg k1, if_pos k2] at hc hgM ⊢
      split at hc
      · simp at hc
      · rename_i c1
        simp only [if_neg c1] at hgM ⊢
        split at hc
        · simp at hc
        · rename_i c2
          simp only [if_neg c2] at hgM ⊢
          split at hc
          · simp at hc
          · rename_i c3
            simp only [if_neg c3] at hgM ⊢
            refine ⟨hgM, h.dep, h.wf, fun r hr => (List.not_mem_nil hr).elim, fun p h0 h3 => ?_, h.num, h.ord, fun q hq => by have : L.C q ≤ k := h.C q hq; show L.C q ≤ ((k + 1 : Nat) : Int); omega, fun j => by have := h.nxb j; omega⟩
            show mine [] p + mine way p ≤ 32
            have := h.few p h0 h3
            rw [mine_nil]
            omega
    · have k1 : ¬ (entN 4 n).k = 1 := by show ¬ (4 : Int) = 1; omega
      have k2 : ¬ (entN 4 n).k = 2 := by show ¬ (4 : Int) = 2; omega
      have k3 : ¬ (entN 4 n).k = 3 := by show ¬ (4 : Int) = 3; omega
      have k4 : (entN 4 n).k = 4 := rfl
      simp only [if_neg k1, if_neg k2, if_neg k3, if_pos k4] at hc hgM ⊢
      split at hc
      · simp at hc
      · rename_i c1
        simp only [if_neg c1] at hgM ⊢
        exact ⟨hgM, h.dep, h.wf, h.opf, h.few, h.num, h.ord, fun q hq => by have : L.C q ≤ k := h.C q hq; show L.C q ≤ ((k + 1 : Nat) : Int); omega, fun j => by have := h.nxb j; omega⟩
  · simp at hc
end Go.Proofs.Ytibmgjhpkdgnpaa

/- Layer 15: QuotaHolds: what stands from step to step. -/
namespace Go.Proofs.Ytibmgjhpkdgnpaa
open Go.RowKit Go.Shelf
set_option maxRecDepth 100000

/-- A ledger whose rows are new memory. -/
structure LedN (w : World) (base : Nat) (L : Led) : Prop where
  rows : w.ownsRow base 66 3 L.rv L.rows.length (flatF Row.cells L.rows)
  opn : w.ownsRow base 33 5 L.ov L.opn.length (flatF Rec.cells L.opn)
  bats : w.ownsRow base 62 2 L.bv L.bats.length (flatF Bt.cells L.bats)
  recs : ∀ b ∈ L.bats, w.ownsRow base 33 5 b.rv b.recs.length (flatF Rec.cells b.recs)
  ops : w.ownsRow base 43 7 L.gv L.ops.length (flatF Opr.cells L.ops)
  ins : ∀ o ∈ L.ops, w.ownsRow base 3 1 o.iv o.ins.length (ints o.ins)
theorem LedO.toN {w : World} {base : Nat} {L : Led} (h : LedO w base L) : LedN w base L := ⟨h.rows, h.opn, h.bats, h.recs, h.ops, h.ins⟩
theorem LedN.reads {w : World} {base : Nat} {L : Led} (h : LedN w base L) : LedR w L :=
  ⟨Rd.of_own h.rows, Rd.of_own h.opn, ⟨Rd.of_own h.bats, fun b hb => Rd.of_own (h.recs b hb)⟩, ⟨Rd.of_own h.ops, fun o ho => Rd.of_own (h.ins o ho)⟩⟩
theorem LedN.mono {w : World} {base base' : Nat} {L : Led} (h : LedN w base L) (hb : base' ≤ base) : LedN w base' L :=
  ⟨ownsRow_mono h.rows hb, ownsRow_mono h.opn hb, ownsRow_mono h.bats hb, fun b hb' => ownsRow_mono (h.recs b hb') hb, ownsRow_mono h.ops hb, fun o ho => ownsRow_mono (h.ins o ho) hb⟩
theorem LedN.one {w : World} {base : Nat} {L : Led} (h : LedN w base L) : L.cells.toArray.all (·.oneCell') = true := led_all L (own_one h.rows) (own_one h.opn) (own_one h.bats) (own_one h.ops)
/-- Where a ledger's rows lie. -/
structure LedIn (S : Nat → Prop) (M : Led) : Prop where
  rows : ∀ g, M.rv.ownBlock = some g → S g
  opn : ∀ g, M.ov.ownBlock = some g → S g
  bats : ∀ g, M.bv.ownBlock = some g → S g
  recs : ∀ b ∈ M.bats, ∀ g, b.rv.ownBlock = some g → S g
  ops : ∀ g, M.gv.ownBlock = some g → S g
  ins : ∀ o ∈ M.ops, ∀ g, o.iv.ownBlock = some g → S g
theorem LedN.within {w : World} {base : Nat} {M : Led} (h : LedN w base M) : LedIn (fun j => base ≤ j ∧ j < w.heap.size) M :=
  ⟨fun g e => World.ownsRow.lt h.rows g e, fun g e => World.ownsRow.lt h.opn g e, fun g e => World.ownsRow.lt h.bats g e, fun b hb g e => World.ownsRow.lt (h.recs b hb) g e, fun g e => World.ownsRow.lt h.ops g e, fun o ho g e => World.ownsRow.lt (h.ins o ho) g e⟩
theorem LedIn.mono {P Q : Nat → Prop} {L : Led} (h : LedIn P L) (hPQ : ∀ j, P j → Q j) : LedIn Q L :=
  ⟨fun g e => hPQ g (h.rows g e), fun g e => hPQ g (h.opn g e), fun g e => hPQ g (h.bats g e), fun b hb g e => hPQ g (h.recs b hb g e), fun g e => hPQ g (h.ops g e), fun o ho g e => hPQ g (h.ins o ho g e)⟩
theorem LedIn.and {P Q : Nat → Prop} {L : Led} (h : LedIn P L) (h2 : LedIn Q L) : LedIn (fun j => P j ∧ Q j) L :=
  ⟨fun g e => ⟨h.rows g e, h2.rows g e⟩, fun g e => ⟨h.opn g e, h2.opn g e⟩, fun g e => ⟨h.bats g e, h2.bats g e⟩, fun b hb g e => ⟨h.recs b hb g e, h2.recs b hb g e⟩, fun g e => ⟨h.ops g e, h2.ops g e⟩, fun o ho g e => ⟨h.ins o ho g e, h2.ins o ho g e⟩⟩
theorem LedN.off {w w' : World} {base : Nat} {L : Led} {P T : Nat → Prop} (h : LedN w base L) (hi : LedIn P L) (ho : Only T w w') (hT : ∀ j, P j → ¬ T j) : LedN w' base L :=
  ⟨ownsRow_only h.rows ho (fun g e => hT g (hi.rows g e)), ownsRow_only h.opn ho (fun g e => hT g (hi.opn g e)), ownsRow_only h.bats ho (fun g e => hT g (hi.bats g e)), fun b hb => ownsRow_only (h.recs b hb) ho (fun g e => hT g (hi.recs b hb g e)), ownsRow_only h.ops ho (fun g e => hT g (hi.ops g e)), fun o hq => ownsRow_only (h.ins o hq) ho (fun g e => hT g (hi.ins o hq g e))⟩
theorem LedN.below {w w' : World} {base : Nat} {L : Led} (h : LedN w base L) (hb : Below w.heap.size w w') : LedN w' base L :=
  h.off h.within (Only.of_below (S := fun _ => False) hb) (fun _ _ e => e)
theorem there_later {w w' : World} {b n : Nat} (h : w.there b 0 n) (hb : Below w.heap.size w w') (hlt : b < w.heap.size) : w'.there b 0 n := fun j hj => by
  obtain ⟨h1, h2⟩ := h j hj
  exact ⟨by rw [World.cell?_of_block (hb.block _ hlt)]; exact h1, by rw [World.frozen?_of_block (hb.block _ hlt)]; exact h2⟩
theorem boxL_set {w : World} {b : Nat} (h : w.there b 0 16) (M : Led) : BoxL (w.setCells b 0 M.cells) b M := fun j v hj => by
  have := World.rangeAt_setCells_same w b 0 M.cells h j v hj
  rwa [Nat.zero_add] at this

/-- What stands behind an Apply, in a box of its own. -/
structure AQ (wr W : World) (L : Led) (E : Ent) (T : Nat) (M : Led) : Prop where
  same : SameL (applyL L E).1 M
  led : LedN W wr.heap.size M
  off : LedIn (fun j => j ≠ T) M
  box : BoxL W T M
  bf : ∀ j, W.frozen? ⟨T, j, none⟩ = false
  b : Below wr.heap.size wr W
  hT : wr.heap.size ≤ T
theorem AQ.first {wr w3 : World} {L M : Led} {E : Ent} (hs : SameL (applyL L E).1 M) (hN : LedN w3 wr.heap.size M) (hb : Below wr.heap.size wr w3) :
    AQ wr ((w3.alloc (.cells zero16 30)).setCells w3.heap.size 0 M.cells) L E w3.heap.size M :=
  ⟨hs, hN.below (box_new w3 M).2, hN.within.mono (fun j h => by omega), (box_new w3 M).1, fun j => by rw [World.frozen?_setCells]; exact World.frozen?_alloc_at _ _ _ _ rfl, below_go hb (box_new w3 M).2, hb.size⟩
theorem AQ.last {wr w3 : World} {L M : Led} {E : Ent} (hs : SameL (applyL L E).1 M) (hN : LedN w3 (wr.alloc (.cells zero16 30)).heap.size M) (hb : Below (wr.alloc (.cells zero16 30)).heap.size (wr.alloc (.cells zero16 30)) w3) :
    AQ wr (w3.setCells wr.heap.size 0 M.cells) L E wr.heap.size M := by
  have ho := only_cells w3 wr.heap.size M.cells 0
  have ht : w3.there wr.heap.size 0 16 := there_later (there_new wr) hb (by simp)
  have hin := hN.within
  rw [World.size_alloc] at hin
  refine ⟨hs, (hN.off hin ho (fun j h e => by omega)).mono (by simp), hin.mono (fun j h => by omega), boxL_set ht M, fun j => ?_, ?_, Nat.le_refl _⟩
  · rw [World.frozen?_setCells, World.frozen?_of_block (hb.block wr.heap.size (by simp))]
    exact World.frozen?_alloc_at _ _ _ _ rfl
  · have h1 := below_go (below_alloc wr (.cells zero16 30)) hb
    exact h1.trans (ho.below h1.size (fun j hj e => by omega))

/-- The next numbers. -/
def nexts (nx : Nat → Int) : List Value := (List.range 64).map fun j => .int .i64 (nx j)
theorem nexts_at (nx : Nat → Int) {j : Nat} (h : j < 64) : (nexts nx)[j]? = some (.int .i64 (nx j)) := by
  unfold nexts
  rw [List.getElem?_map, List.getElem?_range h, Option.map_some]
theorem nexts_set (nx : Nat → Int) {j : Nat} (h : j < 64) (v : Int) : (nexts nx).set j (.int .i64 v) = nexts (fun i => if i = j then v else nx i) := by
  apply List.ext_getElem?
  intro k
  rw [List.getElem?_set]
  by_cases hk : k < 64
  · rw [nexts_at _ hk, nexts_at _ hk]
    by_cases e : j = k
    · subst e; rw [if_pos rfl, if_pos (by simp [nexts]; omega), if_pos rfl]
    · rw [if_neg e, if_neg (fun h => e h.symm)]
  · have h0 : ∀ f, (nexts f)[k]? = none := fun f => List.getElem?_eq_none (by simp [nexts]; omega)
    rw [if_neg (by omega), h0, h0]
theorem nexts_zero : nexts (fun _ => 0) = List.replicate 64 (.int .i64 0) := by
  apply List.ext_getElem?
  intro k
  rw [List.getElem?_replicate]
  by_cases hk : k < 64
  · rw [nexts_at _ hk, if_pos hk]
  · rw [List.getElem?_eq_none (by simp [nexts]; omega), if_neg hk]

/-- What stands from step to step. -/
structure QSt (B S : Nat) (w0 W : World) (L : Led) (av : Value) (way : List Rec) (ng : Nat) (nx : Nat → Int) : Prop where
  box : BoxL W S L
  bf : ∀ j, W.frozen? ⟨S, j, none⟩ = false
  led : LedN W B L
  off : LedIn (fun j => j ≠ S ∧ av.ownBlock ≠ some j ∧ j ≠ ng) L
  row : W.ownsRow B 33 5 av way.length (flatF Rec.cells way)
  nav : av.ownBlock ≠ some S
  nxt : W.ownsRow B 3 1 (.slice (some ⟨ng, 0, none⟩) 64 64) 64 (nexts nx)
  nng : ng ≠ S
  SB : B ≤ S
  b : Below B w0 W
section
variable {B S ng : Nat} {w0 W V : World} {L M : Led} {av : Value} {way : List Rec} {nx : Nat → Int}
theorem QSt.lt (h : QSt B S w0 W L av way ng nx) : S < W.heap.size := World.block_lt_of_cell? W _ (h.box 0 _ rfl)
theorem QSt.there (h : QSt B S w0 W L av way ng nx) : W.there S 0 16 := fun j hj => by
  have hx : ∃ u, L.cells[j]? = some u := ⟨_, List.getElem?_eq_getElem (by show j < 16; exact hj)⟩
  obtain ⟨u, hu⟩ := hx
  rw [Nat.zero_add]
  exact ⟨by rw [h.box j u hu]; rfl, h.bf j⟩
theorem QSt.ngB (h : QSt B S w0 W L av way ng nx) : B ≤ ng ∧ ng < W.heap.size := World.ownsRow.lt h.nxt ng rfl
theorem QSt.avB (h : QSt B S w0 W L av way ng nx) : ∀ g, av.ownBlock = some g → B ≤ g ∧ g < W.heap.size := fun g e => World.ownsRow.lt h.row g e
theorem QSt.avn (h : QSt B S w0 W L av way ng nx) : ∀ g, av.ownBlock = some g → g ≠ ng := fun g e1 e2 => by subst e2; exact own_apart h.row h.nxt (by decide) g e1 rfl
/-- Something else is written. -/
theorem QSt.only {T : Nat → Prop} (h : QSt B S w0 W L av way ng nx) (ho : Only T W V) (h1 : ¬ T S) (h2 : ∀ g, av.ownBlock = some g → ¬ T g) (h3 : ¬ T ng) (h4 : LedIn (fun j => ¬ T j) L) (h5 : ∀ j, T j → B ≤ j) : QSt B S w0 V L av way ng nx :=
  ⟨fun j v hj => ho.cell h1 (h.box j v hj), fun j => (ho.frozen h.lt h1).trans (h.bf j), h.led.off h4 ho (fun _ h => h), h.off, ownsRow_only h.row ho h2, h.nav, ownsRow_only h.nxt ho (fun g e => by cases e; exact h3), h.nng, h.SB,
    h.b.trans (ho.below (by have := h.ngB; omega) (fun j hj e => by have := h5 j e; omega))⟩
theorem QSt.later (h : QSt B S w0 W L av way ng nx) (hb : Below W.heap.size W V) : QSt B S w0 V L av way ng nx :=
  h.only (Only.of_below (S := fun _ => False) hb) (fun e => e) (fun _ _ e => e) (fun e => e) (h.off.mono (fun _ _ e => e)) (fun _ e => e.elim)
theorem QSt.put (h : QSt B S w0 W L av way ng nx) (hN : LedN W B M) (hi : LedIn (fun j => j ≠ S ∧ av.ownBlock ≠ some j ∧ j ≠ ng) M) : QSt B S w0 (W.setCells S 0 M.cells) M av way ng nx := by
  have ho := only_cells W S M.cells 0
  exact ⟨boxL_set h.there M, fun j => by rw [World.frozen?_setCells]; exact h.bf j, hN.off hi ho (fun j h1 e => h1.1 e), hi, ownsRow_only h.row ho (fun g e1 e2 => h.nav (by rw [e1, e2])), h.nav, ownsRow_only h.nxt ho (fun g e1 e2 => by cases e1; exact h.nng e2), h.nng, h.SB,
    h.b.trans (ho.below (by have := h.ngB; omega) (fun j hj e => by have := h.SB; omega))⟩
theorem QSt.taken {E : Ent} {T : Nat} (h : QSt B S w0 W L av way ng nx) (hq : AQ W V L E T M) : QSt B S w0 (V.setCells S 0 M.cells) M av way ng nx := by
  have h1 := h.later hq.b
  have hs := h.lt
  have hn := h.ngB
  refine h1.put (hq.led.mono (by omega)) (hq.led.within.mono (fun j hj => ⟨by omega, fun e => by have := (h.avB j e).2; omega, by omega⟩))
theorem QSt.bump (h : QSt B S w0 W L av way ng nx) {j : Nat} (hj : j < 64) (v : Int) : QSt B S w0 (W.setCell ⟨ng, j, none⟩ (.int .i64 v)) L av way ng (fun i => if i = j then v else nx i) := by
  have hst := World.ownsRow.stored h.nxt j (.int .i64 v)
  have ho : Only (fun k => k = ng) W (W.setCell ⟨ng, j, none⟩ (.int .i64 v)) := (Only.refl _ _).setCell ⟨ng, j, none⟩ _ (.inl rfl)
  have h2 := h.only (V := W.setCell ⟨ng, j, none⟩ (.int .i64 v)) ho (fun e => h.nng e.symm) (fun g e1 e2 => h.avn g e1 e2)
  have hr := hst.1
  rw [nexts_set nx hj] at hr
  exact ⟨fun k u hk => ho.cell (fun e => h.nng e.symm) (h.box k u hk), fun k => (ho.frozen h.lt (fun e => h.nng e.symm)).trans (h.bf k), h.led.off (h.off.mono (fun k hk => hk.2.2)) ho (fun _ h1 h2 => h1 h2), h.off, ownsRow_only h.row ho (fun g e1 e2 => h.avn g e1 e2), h.nav, hr, h.nng, h.SB,
    h.b.trans (ho.below (by have := h.ngB; omega) (fun k hk e => by have := h.ngB; omega))⟩
theorem QSt.push {av' : Value} {r : Rec} (h : QSt B S w0 W L av way ng nx) (hm : V.ownsRow B 33 5 av' (way.length + 1) (flatF Rec.cells way ++ Rec.cells r)) (hg : W.grownBy V av.ownBlock) (hf : ∀ g, av'.ownBlock = some g → av.ownBlock = some g ∨ W.heap.size ≤ g) : QSt B S w0 V L av' (way ++ [r]) ng nx := by
  have ho := Only.of_grown hg
  have hnS : ¬ av.ownBlock = some S := h.nav
  have hs := h.lt
  have hn := h.ngB
  refine ⟨fun k u hk => ho.cell hnS (h.box k u hk), fun k => (ho.frozen h.lt hnS).trans (h.bf k), h.led.off h.off ho (fun j h1 h2 => h1.2.1 h2), ?_, ?_, ?_, ownsRow_only h.nxt ho (fun g e1 e2 => by cases e1; exact h.avn _ e2 rfl), h.nng, h.SB, h.b.trans (ho.below (by omega) (fun j hj e => by have := h.avB j e; omega))⟩
  · refine (h.off.and h.led.within).mono (fun j hj => ⟨hj.1.1, fun e => ?_, hj.1.2.2⟩)
    rcases hf j e with e1 | e1
    · exact hj.1.2.1 e1
    · omega
  · rw [List.length_append, flatF_append, flatF_one]; exact hm
  · intro e
    rcases hf S e with e1 | e1
    · exact hnS e1
    · omega
/-- A new row. -/
theorem QSt.fresh {av' : Value} {way' : List Rec} (h : QSt B S w0 W L av way ng nx) (hb : Below W.heap.size W V) (hm : V.ownsRow W.heap.size 33 5 av' way'.length (flatF Rec.cells way')) : QSt B S w0 V L av' way' ng nx := by
  have h1 := h.later hb
  have hs := h.lt
  have hn := h.ngB
  have hlo : ∀ g, av'.ownBlock = some g → W.heap.size ≤ g := fun g e => (World.ownsRow.lt hm g e).1
  exact ⟨h1.box, h1.bf, h1.led, (h.off.and h.led.within).mono (fun j hj => ⟨hj.1.1, fun e => by have := hlo j e; omega, hj.1.2.2⟩), ownsRow_mono hm (by omega), fun e => by have := hlo S e; omega, h1.nxt, h1.nng, h1.SB, h1.b⟩
theorem QSt.cell (h : QSt B S w0 W L av way ng nx) {j : Nat} (hj : j < 64) : W.cell? ⟨ng, j, none⟩ = some (.int .i64 (nx j)) ∧ W.frozen? ⟨ng, j, none⟩ = false := by
  have := World.ownsRow.cells h.nxt rfl _ _ (nexts_at nx hj)
  rw [add_off, Nat.zero_add] at this
  exact ⟨this, World.ownsRow.frozenAt h.nxt _⟩
/-- The start. -/
theorem QSt.start {E : Ent} {wr V2 : World} (hw : B ≤ wr.heap.size) (hb0 : Below B w0 wr) (hq : AQ wr V L E S M) (hb : Below V.heap.size V V2) (hm : V2.ownsRow V.heap.size 3 1 (.slice (some ⟨ng, 0, none⟩) 64 64) 64 (List.replicate 64 (.int .i64 0))) : QSt B S w0 V2 M (.slice none 0 0) [] ng (fun _ => 0) := by
  have hS : S < V.heap.size := World.block_lt_of_cell? V _ (hq.box 0 _ rfl)
  have hg := World.ownsRow.lt hm ng rfl
  have hT := hq.hT
  refine ⟨hq.box.later hb, fun j => (World.frozen?_of_block (a := ⟨S, j, none⟩) (hb.block S hS)).trans (hq.bf j), (hq.led.below hb).mono hw, (hq.off.and hq.led.within).mono (fun j hj => ⟨hj.1, fun e => (by cases e), by omega⟩), World.ownsRow_nil _ _ _ _, fun e => (by cases e), ?_, by omega, by omega, ?_⟩
  · rw [nexts_zero]; exact ownsRow_mono hm (by omega)
  · exact (hb0.trans (hq.b.mono hw)).trans (hb.mono (by omega))
end
theorem made_one (z : Value) (n : Nat) : (madeCells #[z] n).toList = List.replicate n z := by
  apply List.ext_getElem?
  intro k
  rw [List.getElem?_replicate]
  by_cases hk : k < n
  · rw [if_pos hk]; simp [madeCells, hk, Nat.mod_one]
  · rw [if_neg hk, List.getElem?_eq_none (by simp [madeCells]; omega)]
/-- make of n elements. -/
theorem make_full {P : Program} {ops : Array Oper} {rest : List Oper} {o : Oper} {a : Act} {Q : Exit → Act → World → Prop} {w : World} {x y : Operand} {t e : TypeId} {z : Value} {bytes base n : Nat} (T : STy P t e z 1 bytes) (hz1 : z.cells = #[z])
    (hgd : Region.wanted o (yielded ops a.tmps) = true) (ho : o.op = .makeSlice t x y) (hx : a.eval x = .int .i64 (n : Int)) (hy : a.eval y = .int .i64 (n : Int)) (hb : bytes * n ≤ 281474976710656) (hm : n ≤ 9223372036854775807) (hbase : base ≤ w.heap.size)
    (h : ∀ w', w'.ownsRow base e 1 (.slice (some ⟨w.heap.size, 0, none⟩) n n) n (List.replicate n z) → w.grownBy w' none → wpList P ops Q rest (a.put o.dst (.slice (some ⟨w.heap.size, 0, none⟩) n n)) w') : wpList P ops Q (o :: rest) a w := by
  obtain ⟨i, hi, hz, hsz, hby⟩ := T.hi
  obtain ⟨w', hrun, h1, h2⟩ := run_make_full (P := P) w base t e i z 1 T.ht hi hz hsz .i64 .i64 n (by rw [hby]; exact hb) (by unfold maxLen; omega) hbase
  rw [Nat.mul_one, hz1, made_one] at h1
  refine list_value hgd ?_ (h w' h1 h2)
  simp [execOp, ho, hx, hy, hrun, Result.andThen]
theorem tyIntsH : STy Try.prog 41 3 (.int .i64 0) 1 8 := .of Try.underlying41 (by kernel_rfl) rfl (by omega)
end Go.Proofs.Ytibmgjhpkdgnpaa

/- Layer 15: QuotaHolds: the first entry. -/
namespace Go.Proofs.Ytibmgjhpkdgnpaa
open Go.RowKit Go.Shelf
set_option maxRecDepth 100000

def os0 (iv : Value) : List Opr := [⟨1, .slice none 0 0, [], 0, 0, 0, 0, 0⟩, ⟨8, iv, [0], 0, 0, 0, 0, 0⟩]
def E0 (gv iv : Value) : Ent := ⟨3, ⟨0, 0, 0, ⟨#[]⟩, 0⟩, gv, os0 iv, 0⟩
def L0 (gv iv : Value) : Led := zeroL.graphL gv (os0 iv)
theorem E0_good (gv iv : Value) : (E0 gv iv).good = true := by rfl
theorem e0_apply (gv iv : Value) : applyL zeroL (E0 gv iv) = (L0 gv iv, true, 0) := by
  unfold applyL
  rw [if_pos ⟨good_zero, E0_good gv iv⟩]
  rfl
theorem L0_good (gv iv : Value) : (L0 gv iv).good = true := by
  have h := (good_apply zeroL (E0 gv iv)).resolve_left (by rw [e0_apply]; simp)
  rw [e0_apply] at h
  exact h
theorem E0_ok (gv iv : Value) : (E0 gv iv).Ok ∧ (E0 gv iv).Small := by
  refine ⟨⟨by unfold I64 E0; simp, by unfold E0 Rec.ok I64; simp [ByteArray.size], by unfold I64 E0; simp, fun o ho => ?_⟩, ⟨by unfold E0 os0; simp, fun o ho => ?_⟩⟩
  · simp only [E0, os0, List.mem_cons, List.not_mem_nil, or_false] at ho
    rcases ho with rfl | rfl
    · refine ⟨by simp [I64], by simp [I64], by simp [U32], by simp [I64], by simp [I64], by simp [U32], by simp [I64]⟩
    · refine ⟨by simp [I64], by simp [I64], by simp [U32], by simp [I64], by simp [I64], by simp [U32], by simp [I64]⟩
  · simp only [E0, os0, List.mem_cons, List.not_mem_nil, or_false] at ho
    rcases ho with rfl | rfl <;> simp
theorem L0_holds (gv iv : Value) : Holds (L0 gv iv) [] (fun _ => 0) 0 := by
  refine ⟨L0_good gv iv, rfl, fun r hr => (List.not_mem_nil hr).elim, fun r hr => (List.not_mem_nil hr).elim, fun p _ _ => ?_, fun p q _ _ => ?_, fun a r b e => ?_, fun q _ => ?_, fun j => ⟨Int.le_refl _, Int.le_refl _⟩⟩
  · show mine [] p + mine [] p ≤ 32
    rw [mine_nil]; omega
  · rfl
  · simp at e
  · show zeroL.C q ≤ ((0 : Nat) : Int)
    exact Int.le_refl _

/-- A step that came in. -/
structure Stp where
  k : Int
  p : Int
  q : Int
  a : Int
def Stp.cells (s : Stp) : List Value := [.int .i64 s.k, .int .i64 s.p, .int .i64 s.q, .int .i64 s.a]
def Stp.ok (s : Stp) : Prop := I64 s.k ∧ I64 s.p ∧ I64 s.q ∧ I64 s.a
theorem stp_at {w : World} {a : Option Addr} {n cap : Nat} {ss : List Stp} (h : Rd w 4 (.slice a n cap) ss.length (flatF Stp.cells ss)) (i : Nat) (hi : i < ss.length) :
    ∃ b o, a = some ⟨b, o, none⟩ ∧ w.cell? ⟨b, o + i * 4, none⟩ = some (.int .i64 ss[i].k) ∧ w.cell? ⟨b, o + i * 4 + 1, none⟩ = some (.int .i64 ss[i].p) ∧ w.cell? ⟨b, o + i * 4 + 2, none⟩ = some (.int .i64 ss[i].q) ∧ w.cell? ⟨b, o + i * 4 + 3, none⟩ = some (.int .i64 ss[i].a) := by
  obtain ⟨b, o, rfl, hc⟩ := rdF_at (k := 4) (f := Stp.cells) (fun _ => rfl) h i hi
  exact ⟨b, o, rfl, hc 0 _ (by omega) rfl, hc 1 _ (by omega) rfl, hc 2 _ (by omega) rfl, hc 3 _ (by omega) rfl⟩
end Go.Proofs.Ytibmgjhpkdgnpaa

/- Layer 15: the steps that come in, read of an argument. -/
namespace Go.Proofs.Ytibmgjhpkdgnpaa
open Go.RowKit Go.ChangeShapes Go.WideShapes Go.ChangeAt
set_option maxRecDepth 100000

instance : Inhabited Stp := ⟨⟨0, 0, 0, 0⟩⟩
theorem stp4 (s : Stp) : (Stp.cells s).length = 4 := rfl
section
variable {H : Type} {enc : TypeId × Value → H} {W : World} {held : Bool} {fuel : Nat} {cs : List Value} {y : DataW H × List MemPlace}
theorem cells_stp (hf : DataW.trod enc Try.prog W 0 (fun _ => true) held fuel 49 cs = some y) : ∃ r : Stp, cs = Stp.cells r ∧ r.ok := by
  obtain ⟨xs, n, -, -, hl, hxl, hx⟩ := DataW.trod_struct Try.underlying49 hf
  have hl3 : cs.length = 4 := hl.trans (by kernel_rfl)
  have hc : Try.prog.cellsOf 3 = 1 := by kernel_rfl
  match cs, hl3 with
  | [v0, v1, v2, v3], _ =>
    have h0 : DataW.trod enc Try.prog W 0 (fun _ => true) held n 3 (([v0, v1, v2, v3].drop 0).take (Try.prog.cellsOf 3)) = xs[0]? := hx 0 _ rfl
    have h1 : DataW.trod enc Try.prog W 0 (fun _ => true) held n 3 (([v0, v1, v2, v3].drop 1).take (Try.prog.cellsOf 3)) = xs[1]? := hx 1 _ rfl
    have h2 : DataW.trod enc Try.prog W 0 (fun _ => true) held n 3 (([v0, v1, v2, v3].drop 2).take (Try.prog.cellsOf 3)) = xs[2]? := hx 2 _ rfl
    have h3 : DataW.trod enc Try.prog W 0 (fun _ => true) held n 3 (([v0, v1, v2, v3].drop 3).take (Try.prog.cellsOf 3)) = xs[3]? := hx 3 _ rfl
    simp only [hc, List.drop_zero, List.drop_succ_cons, List.take_succ_cons, List.take_zero] at h0 h1 h2 h3
    have hs : ∀ i, i < 4 → ∃ z, xs[i]? = some z := fun i hi => ⟨_, List.getElem?_eq_getElem (by rw [hxl]; exact hi)⟩
    obtain ⟨z0, e0⟩ := hs 0 (by omega)
    obtain ⟨z1, e1⟩ := hs 1 (by omega)
    obtain ⟨z2, e2⟩ := hs 2 (by omega)
    obtain ⟨z3, e3⟩ := hs 3 (by omega)
    rw [e0] at h0; rw [e1] at h1; rw [e2] at h2; rw [e3] at h3
    obtain ⟨a, ha, -, wa⟩ := DataW.trod_int Try.underlying3 h0
    obtain ⟨b, hb, -, wb⟩ := DataW.trod_int Try.underlying3 h1
    obtain ⟨c, hc, -, wc⟩ := DataW.trod_int Try.underlying3 h2
    obtain ⟨d, hd, -, wd⟩ := DataW.trod_int Try.underlying3 h3
    cases ha; cases hb; cases hc; cases hd
    exact ⟨⟨a, b, c, d⟩, rfl, Go.bounds_i64 wa, Go.bounds_i64 wb, Go.bounds_i64 wc, Go.bounds_i64 wd⟩
end
theorem open_stps {H : Type} {enc : TypeId × Value → H} {W : World} {B : Nat} {held : Bool} {v : Value} {d : DataW H} {p : List MemPlace}
    (ok : Value.okWide Try.prog W .any B 40 v) (h : DataW.Trod enc Try.prog W 0 (fun _ => true) held 40 v d p) : ∃ ss : List Stp, Rd W 4 v ss.length (flatF Stp.cells ss) ∧ (∀ r ∈ ss, r.ok) := by
  obtain ⟨a, len, cap, rfl⟩ := okWide_slice Try.underlying40 ok
  obtain ⟨fuel, hf⟩ := h
  obtain ⟨v, ss, hcs, h1, h2, -, -⟩ := cells_structs (f := Stp.cells) Try.underlying40 (by kernel_rfl) stp4 (by omega) (fun _ _ _ h => cells_stp h) hf
  simp [Value.cells] at hcs
  subst hcs
  exact ⟨ss, h1, h2⟩
end Go.Proofs.Ytibmgjhpkdgnpaa
