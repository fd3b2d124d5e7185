/- Layer 15: has, Of, Check walked. -/
import Derived.Test.YtibmgjhpkdgnpaaQuota03
namespace Go.Proofs.Ytibmgjhpkdgnpaa
open Go.RowKit Go.Shelf

theorem any_filter (way : List Rec) (p : Rec → Bool) : decide (0 < (way.filter p).length) = way.any p := by
  rw [Bool.eq_iff_iff, decide_eq_true_eq, List.length_pos_iff_exists_mem, List.any_eq_true]
  constructor
  · rintro ⟨x, hx⟩; exact ⟨x, (List.mem_filter.1 hx).1, (List.mem_filter.1 hx).2⟩
  · rintro ⟨x, h1, h2⟩; exact ⟨x, List.mem_filter.2 ⟨h1, h2⟩⟩

set_option maxHeartbeats 400000 in
theorem has_calls (wb rb : Nat) (v : Value) (way : List Rec) (r : Rec) (s : Int) (w : World) (hw : w.cell? ⟨wb, 0, none⟩ = some v) (hv : Recs w v way) (hr : RecBox w rb r) :
    Calls Try.prog 13 #[.int .i64 s, .pointer (some ⟨wb, 0, none⟩), .pointer (some ⟨rb, 0, none⟩)] w fun e w' => e = .returned (.bool (onWay way r s)) ∧ Below w.heap.size w w' := by
  have hal := (Below.refl w.heap.size w).alloc (Nat.le_refl _) (.cells #[.int .i64 s] 3)
  have hw' := cell_later hal hw
  have hs : (w.alloc (.cells #[.int .i64 s] 3)).cell? ⟨w.heap.size, 0, none⟩ = some (.int .i64 s) := by rw [World.cell?_alloc_at _ _ _ _ rfl]; rfl
  have HC := Lib.hid (count_calls v way 15 #[.pointer (some ⟨rb, 0, none⟩), .pointer (some ⟨w.heap.size, 0, none⟩)] (fun o => o.p == r.p && o.q == r.q && o.s == s) (w.alloc (.cells #[.int .i64 s] 3)) (enters_of Try.func15 (by kernel_rfl) rfl) (hv.below hal (Nat.le_refl _)) (chk11_asks _ rb w.heap.size r s (hr.below hal) hs))
  obtain ⟨a, cap, rfl, -, -⟩ := Rd.slice hv
  have HAL := Lib.hid hal
  have hany := any_filter way (fun o => o.p == r.p && o.q == r.q && o.s == s)
  unfold onWay
  generalize (way.filter fun o => o.p == r.p && o.q == r.q && o.s == s).length = L at *
  generalize (way.any fun o => o.p == r.p && o.q == r.q && o.s == s) = B at *
  have hany' : decide ((0 : Int) < (L : Int)) = B := by rw [← hany]; simp
  clear hal hw hs hv hr
  go_enter Try.func13, Try.ntmps13
  go_wp2_with fail
  refine HC.out.mono ?_
  rintro e w1 ⟨rfl, hb1⟩
  have HB := Lib.hid (HAL.out.trans (hb1.mono HAL.out.size))
  clear hb1
  go_wp2_with fail
  go_ret
  exact ⟨rfl, HB.out⟩

/-- A ledger, cell by cell. -/
structure Led where
  rows : Value
  C : Nat → Int
  opn : Value
  batches : Value
  sealed : Int
  decided : Int
  deployed : Bool
  ops : Value
  keep : Int
def Led.cells (L : Led) : Array Value := #[L.rows, .int .i64 (L.C 0), .int .i64 (L.C 1), .int .i64 (L.C 2), .int .i64 (L.C 3), .int .i64 (L.C 4), .int .i64 (L.C 5), .int .i64 (L.C 6), .int .i64 (L.C 7), L.opn, L.batches, .int .i64 L.sealed, .int .i64 L.decided, .bool L.deployed, L.ops, .int .i64 L.keep]

set_option maxHeartbeats 400000 in
theorem of_calls (rows opn batches ops : Value) (C : Nat → Int) (sealed decided keep : Int) (deployed : Bool) (os : List Rec) (p : Int) (w : World) (ho : Recs w opn os) :
    Calls Try.prog 9 #[.agg #[rows, .int .i64 (C 0), .int .i64 (C 1), .int .i64 (C 2), .int .i64 (C 3), .int .i64 (C 4), .int .i64 (C 5), .int .i64 (C 6), .int .i64 (C 7), opn, batches, .int .i64 sealed, .int .i64 decided, .bool deployed, ops, .int .i64 keep], .int .i64 p] w fun e w' => e = .returned (.int .i64 (mine os p)) ∧ Below w.heap.size w w' := by
  obtain ⟨X, hX⟩ : ∃ X, X = (w.alloc (.cells #[rows, .int .i64 (C 0), .int .i64 (C 1), .int .i64 (C 2), .int .i64 (C 3), .int .i64 (C 4), .int .i64 (C 5), .int .i64 (C 6), .int .i64 (C 7), opn, batches, .int .i64 sealed, .int .i64 decided, .bool deployed, ops, .int .i64 keep] 30)).alloc (.cells #[.int .i64 p] 3) := ⟨_, rfl⟩
  have hb : Below w.heap.size w X := by rw [hX]; exact ((Below.refl w.heap.size w).alloc (Nat.le_refl _) _).alloc (by simp) _
  have c9 : X.cell? ⟨w.heap.size, 9, none⟩ = some opn := by rw [hX, World.cell?_alloc_past _ _ _ (by simp), World.cell?_alloc_at _ _ _ _ rfl]; rfl
  have cp : X.cell? ⟨w.heap.size + 1, 0, none⟩ = some (.int .i64 p) := by rw [hX, World.cell?_alloc_at _ _ _ _ (by simp)]; rfl
  have HC := Lib.hid (count_calls opn os 21 #[.pointer (some ⟨w.heap.size + 1, 0, none⟩)] (fun o => o.p == p) X (enters_of Try.func21 (by kernel_rfl) rfl) (ho.below hb (Nat.le_refl _)) (of1_asks X (w.heap.size + 1) p cp))
  obtain ⟨a, cap, rfl, -, -⟩ := Rd.slice ho
  have HB := Lib.hid hb
  have HX := Lib.hid hX
  clear hX hb ho c9 cp
  go_enter Try.func9, Try.ntmps9
  go_wp2_with fail
  rw [← HX.out]
  refine HC.out.mono ?_
  rintro e w1 ⟨rfl, hb1⟩
  have HB1 := Lib.hid (HB.out.trans (hb1.mono HB.out.size))
  clear hb1
  go_wp2_with fail
  go_ret
  exact ⟨rfl, HB1.out⟩

/-- The three boxes of Check. -/
theorem check_boxes (rows opn batches ops v : Value) (C : Nat → Int) (sealed decided keep : Int) (deployed : Bool) (r : Rec) (w X : World)
    (hX : X = ((w.alloc (.cells #[rows, .int .i64 (C 0), .int .i64 (C 1), .int .i64 (C 2), .int .i64 (C 3), .int .i64 (C 4), .int .i64 (C 5), .int .i64 (C 6), .int .i64 (C 7), opn, batches, .int .i64 sealed, .int .i64 decided, .bool deployed, ops, .int .i64 keep] 30)).alloc (.cells #[v] 24)).alloc (.cells #[.int .i64 r.p, .int .i64 r.s, .int .i64 r.q, .string r.key, .int .u32 r.val] 33)) :
    X.heap.size = w.heap.size + 3 ∧ Below w.heap.size w X ∧ X.cell? ⟨w.heap.size, 0, none⟩ = some rows ∧ (∀ Q, Q < 8 → X.cell? ⟨w.heap.size, 1 + Q, none⟩ = some (.int .i64 (C Q))) ∧ X.cell? ⟨w.heap.size, 9, none⟩ = some opn ∧ X.cell? ⟨w.heap.size + 1, 0, none⟩ = some v ∧ RecBox X (w.heap.size + 1 + 1) r ∧
    (∀ o, X.cell? ⟨w.heap.size, o, none⟩ = #[rows, .int .i64 (C 0), .int .i64 (C 1), .int .i64 (C 2), .int .i64 (C 3), .int .i64 (C 4), .int .i64 (C 5), .int .i64 (C 6), .int .i64 (C 7), opn, batches, .int .i64 sealed, .int .i64 decided, .bool deployed, ops, .int .i64 keep][o]?) := by
  subst hX
  have hall : ∀ o, (((w.alloc (.cells #[rows, .int .i64 (C 0), .int .i64 (C 1), .int .i64 (C 2), .int .i64 (C 3), .int .i64 (C 4), .int .i64 (C 5), .int .i64 (C 6), .int .i64 (C 7), opn, batches, .int .i64 sealed, .int .i64 decided, .bool deployed, ops, .int .i64 keep] 30)).alloc (.cells #[v] 24)).alloc (.cells #[.int .i64 r.p, .int .i64 r.s, .int .i64 r.q, .string r.key, .int .u32 r.val] 33)).cell? ⟨w.heap.size, o, none⟩ = #[rows, .int .i64 (C 0), .int .i64 (C 1), .int .i64 (C 2), .int .i64 (C 3), .int .i64 (C 4), .int .i64 (C 5), .int .i64 (C 6), .int .i64 (C 7), opn, batches, .int .i64 sealed, .int .i64 decided, .bool deployed, ops, .int .i64 keep][o]? := fun o => by
    rw [World.cell?_alloc_past _ _ _ (by simp; omega), World.cell?_alloc_past _ _ _ (by simp), World.cell?_alloc_at _ _ _ _ rfl]
  refine ⟨by simp, (((Below.refl w.heap.size w).alloc (Nat.le_refl _) _).alloc (by simp) _).alloc (by simp; omega) _, hall 0, fun Q hQ => ?_, hall 9, ?_, ⟨?_, ?_, ?_, ?_, ?_⟩, hall⟩
  · rw [hall]
    rcases (show Q = 0 ∨ Q = 1 ∨ Q = 2 ∨ Q = 3 ∨ Q = 4 ∨ Q = 5 ∨ Q = 6 ∨ Q = 7 from by omega) with rfl | rfl | rfl | rfl | rfl | rfl | rfl | rfl <;> rfl
  · rw [World.cell?_alloc_past _ _ _ (by simp), World.cell?_alloc_at _ _ _ _ (by simp)]; rfl
  · rw [World.cell?_alloc_at _ _ _ _ (by simp)]; rfl
  · rw [World.cell?_alloc_at _ _ _ _ (by simp)]; rfl
  · rw [World.cell?_alloc_at _ _ _ _ (by simp)]; rfl
  · rw [World.cell?_alloc_at _ _ _ _ (by simp)]; rfl
  · rw [World.cell?_alloc_at _ _ _ _ (by simp)]; rfl

/-- The boxes of Check, as they stand in a world. -/
structure CBox (W : World) (b : Nat) (rows opn batches ops v : Value) (C : Nat → Int) (sealed decided keep : Int) (deployed : Bool) (r : Rec) : Prop where
  all : ∀ (o : Nat) (u : Value), #[rows, .int .i64 (C 0), .int .i64 (C 1), .int .i64 (C 2), .int .i64 (C 3), .int .i64 (C 4), .int .i64 (C 5), .int .i64 (C 6), .int .i64 (C 7), opn, batches, .int .i64 sealed, .int .i64 decided, .bool deployed, ops, .int .i64 keep][o]? = some u → W.cell? ⟨b, o, none⟩ = some u
  C : ∀ Q, Q < 8 → W.cell? ⟨b, 1 + Q, none⟩ = some (.int .i64 (C Q))
  wayc : W.cell? ⟨b + 1, 0, none⟩ = some v
  box : RecBox W (b + 1 + 1) r
theorem CBox.below {W W' : World} {b : Nat} {rows opn batches ops v : Value} {C : Nat → Int} {sealed decided keep : Int} {deployed : Bool} {r : Rec} (h : CBox W b rows opn batches ops v C sealed decided keep deployed r) (hb : Below W.heap.size W W') : CBox W' b rows opn batches ops v C sealed decided keep deployed r :=
  ⟨fun o u hu => cell_later hb (h.all o u hu), fun Q hQ => cell_later hb (h.C Q hQ), cell_later hb h.wayc, h.box.below hb⟩

/-- The ways through Check ahead of its loop. -/
theorem check_ways (rs : List Row) (cnt : Int) (os way : List Rec) (r : Rec) (hr : r.ok) (hg : goodRec r = true) :
    (0 ≤ r.q ∧ r.q < 8) ∧
    (((lookOf rs r.p r.q r.s == 2) = true ∧ checkCode rs cnt os way r = 0) ∨
    (((lookOf rs r.p r.q r.s == 2) = false ∧ (lookOf rs r.p r.q r.s == 4) = true) ∧ checkCode rs cnt os way r = 14) ∨
    (((lookOf rs r.p r.q r.s == 2) = false ∧ (lookOf rs r.p r.q r.s == 4) = false ∧ (cnt == 9223372036854775807) = true) ∧ checkCode rs cnt os way r = 14) ∨
    (((lookOf rs r.p r.q r.s == 2) = false ∧ (lookOf rs r.p r.q r.s == 4) = false ∧ (cnt == 9223372036854775807) = false ∧ onWay way r r.s = true) ∧ checkCode rs cnt os way r = 0) ∨
    (((lookOf rs r.p r.q r.s == 2) = false ∧ (lookOf rs r.p r.q r.s == 4) = false ∧ (cnt == 9223372036854775807) = false ∧ onWay way r r.s = false) ∧ lastOf rs r.p r.q < r.s ∧
      checkCode rs cnt os way r = if ∃ d : Nat, d < (r.s - (lastOf rs r.p r.q + 1)).toNat ∧ onWay way r (lastOf rs r.p r.q + 1 + d) = false then 11
  else if 32 ≤ mine os r.p + mine way r.p ∨ 256 ≤ way.length ∨ 512 ≤ os.length + way.length then 10
  else 0)) := by
  have hq : 0 ≤ r.q ∧ r.q < 8 := by unfold goodRec at hg; simp at hg; omega
  refine ⟨hq, ?_⟩
  unfold checkCode
  rw [if_neg (by rw [hg]; simp)]
  simp only [beq_iff_eq, beq_eq_false_iff_ne]
  by_cases h2 : lookOf rs r.p r.q r.s = 2
  · left; exact ⟨h2, if_pos h2⟩
  rw [if_neg h2]
  by_cases h4 : lookOf rs r.p r.q r.s = 4
  · right; left; exact ⟨⟨h2, h4⟩, if_pos (.inl h4)⟩
  by_cases hc : cnt = 9223372036854775807
  · right; right; left; exact ⟨⟨h2, h4, hc⟩, if_pos (.inr hc)⟩
  rw [if_neg (by simp [h4, hc])]
  cases ho : onWay way r r.s with
  | true => right; right; right; left; exact ⟨⟨h2, h4, hc, rfl⟩, if_pos rfl⟩
  | false =>
    right; right; right; right
    refine ⟨⟨h2, h4, hc, rfl⟩, ?_, if_neg (by simp)⟩
    unfold lookOf at h2 h4
    have hs := hr.2.1
    unfold I64 at hs
    rcases Int.lt_or_le (lastOf rs r.p r.q) r.s with h | h
    · exact h
    · exfalso
      rw [if_neg (fun h5 => by rw [if_pos h5] at h4; exact h4 rfl), if_pos h] at h2
      exact h2 rfl

set_option maxHeartbeats 2000000 in
set_option maxRecDepth 100000 in
theorem check_calls (rows opn batches ops v : Value) (C : Nat → Int) (sealed decided keep : Int) (deployed : Bool) (rs : List Row) (os way : List Rec) (r : Rec) (w : World)
    (hrs : Rows w rows rs) (hok : ∀ x ∈ rs, x.ok) (ho : Recs w opn os) (hv : Recs w v way) (hr : r.ok) (hlen : os.length + way.length ≤ 4611686018427387904) :
    Calls Try.prog 7 #[.agg #[rows, .int .i64 (C 0), .int .i64 (C 1), .int .i64 (C 2), .int .i64 (C 3), .int .i64 (C 4), .int .i64 (C 5), .int .i64 (C 6), .int .i64 (C 7), opn, batches, .int .i64 sealed, .int .i64 decided, .bool deployed, ops, .int .i64 keep], v, .agg #[.int .i64 r.p, .int .i64 r.s, .int .i64 r.q, .string r.key, .int .u32 r.val]] w fun e w' =>
      e = .returned (.int .i64 (checkCode rs (C r.q.toNat) os way r)) ∧ Below w.heap.size w w' := by
  obtain ⟨X, hX⟩ : ∃ X, X = ((w.alloc (.cells #[rows, .int .i64 (C 0), .int .i64 (C 1), .int .i64 (C 2), .int .i64 (C 3), .int .i64 (C 4), .int .i64 (C 5), .int .i64 (C 6), .int .i64 (C 7), opn, batches, .int .i64 sealed, .int .i64 decided, .bool deployed, ops, .int .i64 keep] 30)).alloc (.cells #[v] 24)).alloc (.cells #[.int .i64 r.p, .int .i64 r.s, .int .i64 r.q, .string r.key, .int .u32 r.val] 33) := ⟨_, rfl⟩
  obtain ⟨hXs, hbX, x0, xC, x9, xw, xr, xall⟩ := check_boxes rows opn batches ops v C sealed decided keep deployed r w X hX
  have hcb : CBox X w.heap.size rows opn batches ops v C sealed decided keep deployed r := ⟨fun o u hu => by rw [xall]; exact hu, xC, xw, xr⟩
  have HRS := Lib.hid (hrs.below hbX (Nat.le_refl _) : Rows X rows rs)
  have HO := Lib.hid (ho.below hbX (Nat.le_refl _) : Recs X opn os)
  have HV := Lib.hid (hv.below hbX (Nat.le_refl _) : Recs X v way)
  have HOK := Lib.hid hok
  have HR := Lib.hid hr
  obtain ⟨ra, rcap, rfl, -, -⟩ := Rd.slice hrs
  obtain ⟨oa, ocap, rfl, -, -⟩ := Rd.slice ho
  obtain ⟨va, vcap, rfl, -, -⟩ := Rd.slice hv
  have HX := Lib.hid hX
  have HBX := Lib.hid hbX
  have HCB := Lib.hid hcb
  have y0 := xr.c0
  have y1 := xr.c1
  have y2 := xr.c2
  have y3 := xr.c3
  have y4 := xr.c4
  have HW := Lib.hid (check_ways rs (C r.q.toNat) os way r hr)
  have HNG : Hid (goodRec r = false → checkCode rs (C r.q.toNat) os way r = 3) := Lib.hid (fun h => by unfold checkCode; rw [if_pos h])
  clear hrs ho hv hok hX hbX xr xall x0 xC x9 xw hcb hXs hr
  generalize hcode : checkCode rs (C r.q.toNat) os way r = code at *
  clear hcode
  go_enter Try.func7, Try.ntmps7
  go_wp2_with fail
  rw [← HX.out]
  refine (good_calls r X).mono ?_
  rintro e w1 ⟨rfl, hb1⟩
  have HB1 := Lib.hid hb1
  have cb1 := HCB.out.below hb1
  clear hb1 y0 y1 y2 y3 y4
  cases hg : goodRec r with
  | false =>
    have hc3 := HNG.out hg
    subst hc3
    clear hg cb1
    go_wp2_with fail
    go_ret
    exact ⟨rfl, HBX.out.trans (HB1.out.mono HBX.out.size)⟩
  | true =>
    obtain ⟨⟨hq1, hq2⟩, hway⟩ := HW.out hg
    obtain ⟨Q, hQ⟩ : ∃ Q : Nat, r.q = Q := ⟨r.q.toNat, by omega⟩
    rw [show r.q.toNat = Q from by omega] at hway
    have HWAY := Lib.hid hway
    have hQ8 : (Q : Int) < 8 := by omega
    have y0 := cb1.box.c0
    have y1 := cb1.box.c1
    have y2 := cb1.box.c2
    have x0 := cb1.all 0 _ rfl
    have CB1 := Lib.hid cb1
    have HQ := Lib.hid hQ
    clear hg hway cb1 hQ
    go_wp2_with fail
    refine (look_calls _ rs r.p r.q r.s w1 (HRS.out.below HB1.out (Nat.le_refl _)) HOK.out HR.out.2.1).mono ?_
    rintro e w2 ⟨rfl, hb2⟩
    have HB2 := Lib.hid (HB1.out.trans (hb2.mono HB1.out.size))
    have cb2 := CB1.out.below hb2
    have y0 := cb2.box.c0
    have y1 := cb2.box.c1
    have y2 := cb2.box.c2
    rw [HQ.out] at y2
    have x0 := cb2.all 0 _ rfl
    have xC := cb2.C Q (by omega)
    have CB2 := Lib.hid cb2
    have HVR := Lib.hid (HV.out.below HB2.out (Nat.le_refl _) : Recs w2 _ way)
    clear hb2 cb2
    generalize lookOf rs r.p r.q r.s = lk at *
    rcases HWAY.out with ⟨k1, rfl⟩ | ⟨⟨k1, k2⟩, rfl⟩ | ⟨⟨k1, k2, k3⟩, rfl⟩ | ⟨⟨k1, k2, k3, k4⟩, rfl⟩ | ⟨⟨k1, k2, k3, k4⟩, hlt, hcode⟩
    · go_wp2_with fail
      go_ret
      exact ⟨rfl, HBX.out.trans (HB2.out.mono HBX.out.size)⟩
    · go_wp2_with fail
      go_ret
      exact ⟨rfl, HBX.out.trans (HB2.out.mono HBX.out.size)⟩
    · go_wp2_with fail
      go_ret
      exact ⟨rfl, HBX.out.trans (HB2.out.mono HBX.out.size)⟩
    · go_wp2_with fail
      refine (has_calls (w.heap.size + 1) (w.heap.size + 1 + 1) _ way r r.s w2 CB2.out.wayc HVR.out CB2.out.box).mono ?_
      rintro e w3 ⟨rfl, hb3⟩
      rw [k4]
      have HB3 := Lib.hid (HB2.out.trans (hb3.mono HB2.out.size))
      clear hb3 k4
      go_wp2_with fail
      go_ret
      exact ⟨rfl, HBX.out.trans (HB3.out.mono HBX.out.size)⟩
    · have HCODE := Lib.hid hcode
      have hls := lastOf_ok rs r.p r.q HOK.out
      have hrs := HR.out.2.1
      unfold I64 at hls hrs
      obtain ⟨hl1, hl2⟩ := hls
      obtain ⟨hs1, hs2⟩ := hrs
      clear hcode
      go_wp2_with fail
      refine (has_calls (w.heap.size + 1) (w.heap.size + 1 + 1) _ way r r.s w2 CB2.out.wayc HVR.out CB2.out.box).mono ?_
      rintro e w3 ⟨rfl, hb3⟩
      rw [k4]
      have HB3 := Lib.hid (HB2.out.trans (hb3.mono HB2.out.size))
      have cb3 := CB2.out.below hb3
      have y0 := cb3.box.c0
      have y1 := cb3.box.c1
      have y2 := cb3.box.c2
      have x0 := cb3.all 0 _ rfl
      have CB3 := Lib.hid cb3
      clear hb3 k4 cb3
      go_wp2_with fail
      refine (last_calls _ rs r.p r.q w3 (HRS.out.below HB3.out (Nat.le_refl _))).mono ?_
      rintro e w4 ⟨rfl, hb4⟩
      have HB4 := Lib.hid (HB3.out.trans (hb4.mono HB3.out.size))
      have CB4 := Lib.hid (CB3.out.below hb4)
      clear hb4
      generalize lastOf rs r.p r.q = l at *
      have hl3 : l + 1 ≤ 9223372036854775807 := by omega
      go_wp2_with fail
      go_loopw [9] (fun i wr => ∃ d : Nat, d ≤ (r.s - (l + 1)).toNat ∧ i = .int .i64 (l + 1 + d) ∧ (∀ d' : Nat, d' < d → onWay way r (l + 1 + d') = true) ∧ Below X.heap.size X wr) (fun i _ => (r.s - intOf i).toNat)
      case atStart => exact ⟨0, by omega, by simp, fun d' h => by omega, HB4.out⟩
      case round =>
        obtain ⟨d, hd, rfl, hall, hb⟩ := hrel
        have HALL := Lib.hid hall
        have HB5 := Lib.hid hb
        have cb5 := HCB.out.below hb
        have y0 := cb5.box.c0
        have y1 := cb5.box.c1
        have y2 := cb5.box.c2
        have x0 := cb5.all 0 _ rfl
        have CB5 := Lib.hid cb5
        have HV5 := Lib.hid (HV.out.below hb (Nat.le_refl _) : Recs wr _ way)
        clear hall hb
        by_cases hdl : d < (r.s - (l + 1)).toNat
        · have k5 : (l + 1 + (d : Int) != r.s) = true := bne_iff_ne.2 (by omega)
          have k6 : l + 1 + (d : Int) ≤ 9223372036854775807 := by omega
          have k7 : -9223372036854775808 ≤ l + 1 + (d : Int) := by omega
          clear cb5
          go_wp2_with fail
          refine (has_calls (w.heap.size + 1) (w.heap.size + 1 + 1) _ way r (l + 1 + d) wr CB5.out.wayc HV5.out CB5.out.box).mono ?_
          rintro e w6 ⟨rfl, hb6⟩
          have HB6 := Lib.hid (HB5.out.trans (hb6.mono HB5.out.size))
          clear hb6
          cases ho : onWay way r (l + 1 + d) with
          | true =>
            have HON := Lib.hid ho
            clear ho
            have k8 : l + 1 + (d : Int) + 1 ≤ 9223372036854775807 := by omega
            go_wp2_with fail
            go_roundw
            case rel =>
              refine ⟨d + 1, by omega, ?_, fun d' h => ?_, HB6.out⟩
              · congr 1; omega
              · by_cases hdd : d' = d
                · subst hdd; exact HON.out
                · exact HALL.out d' (by omega)
            case measure => simp [intOf]; omega
          | false =>
            have hc : code = 11 := by rw [HCODE.out, if_pos ⟨d, hdl, ho⟩]
            subst hc
            clear ho HCODE
            go_wp2_with fail
            go_ret
            exact ⟨rfl, HBX.out.trans (HB6.out.mono HBX.out.size)⟩
        · have hds : l + 1 + (d : Int) = r.s := by omega
          rw [hds]
          have k5 : (r.s != r.s) = false := bne_self_eq_false r.s
          have hno : ¬ ∃ d' : Nat, d' < (r.s - (l + 1)).toNat ∧ onWay way r (l + 1 + d') = false := by
            rintro ⟨d', h1, h2⟩
            have := HALL.out d' (by omega)
            rw [this] at h2; cases h2
          have hc2 := HCODE.out
          rw [if_neg hno] at hc2
          have xw := cb5.wayc
          have HC2 := Lib.hid hc2
          clear hds hno hc2 cb5
          go_wp2_with fail
          refine (count_calls _ way 17 #[.pointer (some ⟨w.heap.size + 1 + 1, 0, none⟩)] (fun o => o.p == r.p) wr (enters_of Try.func17 (by kernel_rfl) rfl) HV5.out (chk2_asks wr _ r CB5.out.box)).mono ?_
          rintro e w6 ⟨rfl, hb6⟩
          rw [show (way.filter fun o => o.p == r.p).length = mine way r.p from rfl]
          have HB6 := Lib.hid (HB5.out.trans (hb6.mono HB5.out.size))
          have cb6 := CB5.out.below hb6
          have y0 := cb6.box.c0
          have z0 := cb6.all 0 _ rfl
          have z1 := cb6.all 1 _ rfl
          have z2 := cb6.all 2 _ rfl
          have z3 := cb6.all 3 _ rfl
          have z4 := cb6.all 4 _ rfl
          have z5 := cb6.all 5 _ rfl
          have z6 := cb6.all 6 _ rfl
          have z7 := cb6.all 7 _ rfl
          have z8 := cb6.all 8 _ rfl
          have z9 := cb6.all 9 _ rfl
          have z10 := cb6.all 10 _ rfl
          have z11 := cb6.all 11 _ rfl
          have z12 := cb6.all 12 _ rfl
          have z13 := cb6.all 13 _ rfl
          have z14 := cb6.all 14 _ rfl
          have z15 := cb6.all 15 _ rfl
          have CB6 := Lib.hid cb6
          clear hb6 cb6 xw y1 y2
          go_wp2_with fail
          refine (of_calls _ _ _ _ C _ _ _ _ os r.p w6 (HO.out.below HB6.out (Nat.le_refl _))).mono ?_
          rintro e w7 ⟨rfl, hb7⟩
          have HB7 := Lib.hid (HB6.out.trans (hb7.mono HB6.out.size))
          have cb7 := CB6.out.below hb7
          have xw := cb7.wayc
          have x9 := cb7.all 9 _ rfl
          clear hb7 cb7 y0 z0 z1 z2 z3 z4 z5 z6 z7 z8 z9 z10 z11 z12 z13 z14 z15
          have hm1 : mine os r.p ≤ os.length := List.length_filter_le _ _
          have hm2 : mine way r.p ≤ way.length := List.length_filter_le _ _
          generalize mine os r.p = M1 at *
          generalize mine way r.p = M2 at *
          have hway : (decide ((32 : Int) ≤ (M1 : Int) + M2) = true ∧ code = 10) ∨ ((decide ((32 : Int) ≤ (M1 : Int) + M2) = false ∧ decide ((256 : Int) ≤ way.length) = true) ∧ code = 10) ∨ ((decide ((32 : Int) ≤ (M1 : Int) + M2) = false ∧ decide ((256 : Int) ≤ way.length) = false ∧ decide ((512 : Int) ≤ (os.length : Int) + way.length) = true) ∧ code = 10) ∨
              ((decide ((32 : Int) ≤ (M1 : Int) + M2) = false ∧ decide ((256 : Int) ≤ way.length) = false ∧ decide ((512 : Int) ≤ (os.length : Int) + way.length) = false) ∧ code = 0) := by
            have hc := HC2.out
            simp only [decide_eq_true_eq, decide_eq_false_iff_not]
            by_cases q1 : 32 ≤ M1 + M2
            · left; exact ⟨by omega, by rw [hc, if_pos (.inl q1)]⟩
            by_cases q2 : 256 ≤ way.length
            · right; left; exact ⟨by omega, by rw [hc, if_pos (.inr (.inl q2))]⟩
            by_cases q3 : 512 ≤ os.length + way.length
            · right; right; left; exact ⟨by omega, by rw [hc, if_pos (.inr (.inr q3))]⟩
            · right; right; right; exact ⟨by omega, by rw [hc, if_neg (by omega)]⟩
          clear HC2 HCODE
          rcases hway with ⟨j1, rfl⟩ | ⟨⟨j1, j2⟩, rfl⟩ | ⟨⟨j1, j2, j3⟩, rfl⟩ | ⟨⟨j1, j2, j3⟩, rfl⟩
          all_goals
            go_wp2_with fail
            go_ret
            exact ⟨rfl, HBX.out.trans (HB7.out.mono HBX.out.size)⟩
end Go.Proofs.Ytibmgjhpkdgnpaa
