/- Walks and plain laws of the chapter, laid together; each part says what it proves. -/
import Derived.Test.YthgmligpconhhaaGreatDoorPkB
import Derived.Test.YthgmligpconhhaaGreatDoorPkL
/- Layer 24: heard, Commit, Abort, walked. -/
namespace Go.Proofs.YthgmligpconhhaaGreatDoor
open Go.RowKit Go.Shelf
set_option linter.unusedVariables false
set_option linter.unusedSimpArgs false
set_option maxRecDepth 100000

/-- A sink that may take k more lines. -/
structure KIn (w : World) (B s : Nat) (S : Sk) (L : Lg) (D : Dk) (xs : List Ln) (k : Nat) : Prop where
  sd : SD w B s S L D
  sg : SG S L D xs
  cnt : xs.length + k ≤ 900
  cap : ((xs.length + k) * 65548 : Int) ≤ D.room
  room : D.room ≤ 1073741824
  vars : VarsIn w
  b5 : 5 ≤ B
theorem KIn.size {w : World} {B s : Nat} {S : Sk} {L : Lg} {D : Dk} {xs : List Ln} {k : Nat} (h : KIn w B s S L D xs k) : B ≤ w.heap.size := by have := h.sd.foot_lt (.inl (.inl rfl)); omega
theorem KIn.below {w w' : World} {B s : Nat} {S : Sk} {L : Lg} {D : Dk} {xs : List Ln} {k : Nat} (h : KIn w B s S L D xs k) (hb : Below w.heap.size w w') : KIn w' B s S L D xs k :=
  ⟨h.sd.below hb, h.sg, h.cnt, h.cap, h.room, h.vars.below (hb.mono h.size) h.b5, h.b5⟩
theorem KIn.less {w : World} {B s : Nat} {S : Sk} {L : Lg} {D : Dk} {xs : List Ln} {k k' : Nat} (h : KIn w B s S L D xs k) (hk : k' ≤ k) : KIn w B s S L D xs k' :=
  ⟨h.sd, h.sg, by have := h.cnt; omega, by have := h.cap; omega, h.room, h.vars, h.b5⟩
/-- What a call of the sink leaves: the model M', u lines fewer. -/
def KOut (w w' : World) (B s : Nat) (S : Sk) (L : Lg) (D : Dk) (k : Nat) (M' : SM) (u : Nat) : Prop :=
  ∃ S' L' D' xs', ST w w' B s S L D S' L' D' ∧ KIn w' B s S' L' D' xs' (k - u) ∧ S'.m = M' ∧ S'.l = S.l ∧ L'.d = L.d ∧ D'.room = D.room ∧ L'.name = L.name ∧ L'.room = L.room
theorem KOut.of_below {w w' : World} {B s : Nat} {S : Sk} {L : Lg} {D : Dk} {xs : List Ln} {k u : Nat} (h : KIn w B s S L D xs k) (hb : Below w.heap.size w w') : KOut w w' B s S L D k S.m u :=
  ⟨S, L, D, xs, ST.of_below h.sd hb, (h.below hb).less (by omega), rfl, rfl, rfl, rfl, rfl, rfl⟩
theorem KOut.after {w0 w w' : World} {B s : Nat} {S : Sk} {L : Lg} {D : Dk} {k u : Nat} {M' : SM} (h : KOut w w' B s S L D k M' u) (h0 : SD w0 B s S L D) (hb : Below w0.heap.size w0 w) : KOut w0 w' B s S L D k M' u := by
  obtain ⟨S', L', D', xs', h1, h2⟩ := h
  exact ⟨S', L', D', xs', h1.after hb h0, h2⟩
theorem KOut.before {w w' w'' : World} {B s : Nat} {S : Sk} {L : Lg} {D : Dk} {k u : Nat} {M' : SM} (h : KOut w w' B s S L D k M' u) (hb : Below w'.heap.size w' w'') : KOut w w'' B s S L D k M' u := by
  obtain ⟨S', L', D', xs', h1, h2, h3⟩ := h
  exact ⟨S', L', D', xs', h1.below hb, h2.below hb, h3⟩
/-- One call behind another. -/
theorem KOut.trans {w w' w'' : World} {B s : Nat} {S S1 : Sk} {L L1 : Lg} {D D1 : Dk} {k u v : Nat} {M' : SM} (h : ST w w' B s S L D S1 L1 D1) (e : S1.l = S.l ∧ L1.d = L.d ∧ D1.room = D.room ∧ L1.name = L.name ∧ L1.room = L.room) (k2 : KOut w' w'' B s S1 L1 D1 (k - u) M' v) : KOut w w'' B s S L D k M' (u + v) := by
  obtain ⟨S', L', D', xs', h1, h2, h3, h4, h5, h6, h7, h8⟩ := k2
  exact ⟨S', L', D', xs', h.trans h1, by rw [show k - (u + v) = k - u - v by omega]; exact h2, h3, h4.trans e.1, h5.trans e.2.1, h6.trans e.2.2.1, h7.trans e.2.2.2.1, h8.trans e.2.2.2.2⟩

/-! ### Lines that are laid out -/
/-- A literal of whole numbers, as items. -/
theorem its_ints {w W1 W : World} {P : Nat → Prop} (ns : List Int) (hn : ns.length ≤ 100) (hP : P w.heap.size) (hW : W1 = w.alloc (.cells (flatF Iv.cells (ns.map fun n => ⟨iI n, .slice none 0 0⟩)).toArray 70)) (hb : Below W1.heap.size W1 W) :
    ItR P 8 W (.slice (some ⟨w.heap.size, 0, none⟩) ns.length ns.length) (ns.map iI) := by
  have hr := Rd.lit (w := w) (cs := (flatF Iv.cells (ns.map fun n => (⟨iI n, .slice none 0 0⟩ : Iv))).toArray) (e := 70) (n := ns.length) (sz := 4) (by simp only [List.size_toArray]; rw [flatF_length iv4, List.length_map]) (by omega)
  rw [← hW] at hr
  refine ⟨ns.map fun n => ⟨iI n, .slice none 0 0⟩, by rw [List.map_map]; rfl, ?_, fun a n c e _ => ?_, fun x hx => ?_⟩
  · have := hr.below hb (Nat.le_refl _)
    simpa using this
  · simp only [Value.slice.injEq, Option.some.injEq] at e
    obtain ⟨rfl, -, -⟩ := e
    exact hP
  · obtain ⟨n, -, rfl⟩ := List.mem_map.1 hx
    exact ItR.nil _ _ _
/-- The writing of one line of two numbers that was just laid out. -/
theorem write2_calls (B s : Nat) (S : Sk) (L : Lg) (D : Dk) (xs : List Ln) (k : Nat) (y : Ln) (a b : Int) (M' : SM) (w w1 : World) (h : KIn w B s S L D xs (k + 1)) (hy : y.its = [iI a, iI b]) (hok : y.ok) (hst : stp S.m y = some M') (hw : Below w.heap.size w w1) :
    Calls Tryz.prog 26 #[.pointer (some ⟨s, 0, none⟩), .slice (some ⟨w1.heap.size + 1, 0, none⟩) 1 1] ((w1.alloc (.cells #[.int .i64 0, .int .i64 a, .string nos, .slice none 0 0, .int .i64 0, .int .i64 b, .string nos, .slice none 0 0] 70)).alloc (.cells #[.slice (some ⟨w1.heap.size, 0, none⟩) 2 2] 68))
      fun e w' => e = .returned (.int .i64 0) ∧ KOut w w' B s S L D (k + 1) M' 1 := by
  obtain ⟨W1, hW1⟩ : ∃ W1, W1 = w1.alloc (.cells #[.int .i64 0, .int .i64 a, .string nos, .slice none 0 0, .int .i64 0, .int .i64 b, .string nos, .slice none 0 0] 70) := ⟨_, rfl⟩
  obtain ⟨W2, hW2⟩ : ∃ W2, W2 = W1.alloc (.cells #[.slice (some ⟨w1.heap.size, 0, none⟩) 2 2] 68) := ⟨_, rfl⟩
  have hs1 : W1.heap.size = w1.heap.size + 1 := by rw [hW1]; simp
  have hb12 : Below W1.heap.size W1 W2 := by rw [hW2]; exact below_alloc _ _
  have hb01 : Below w1.heap.size w1 W1 := by rw [hW1]; exact below_alloc _ _
  have hb2 : Below w.heap.size w W2 := hw.trans ((hb01.trans (hb12.mono (by omega))).mono hw.size)
  have hk := h.below hb2
  have hs2 : W2.heap.size = w1.heap.size + 2 := by rw [hW2]; simp [hs1]
  have hit : ItR (fun j => j = w1.heap.size ∨ j = w1.heap.size + 1) 8 W2 (.slice (some ⟨w1.heap.size, 0, none⟩) 2 2) y.its := by
    rw [hy]
    exact its_ints (w := w1) (W := W2) [a, b] (by simp) (.inl rfl) hW1 hb12
  have hrd : Rd W2 1 (.slice (some ⟨w1.heap.size + 1, 0, none⟩) 1 1) [y].length [.slice (some ⟨w1.heap.size, 0, none⟩) 2 2] := by
    have := Rd.lit (w := W1) (cs := #[.slice (some ⟨w1.heap.size, 0, none⟩) 2 2]) (e := 68) (n := 1) (sz := 1) rfl (by omega)
    rw [hs1] at this
    rw [hW2]; exact this
  rw [← hW1, ← hW2]
  have hsz := hw.size
  refine (write_calls B s S L D xs [y] M' _ _ (fun j => j = w1.heap.size ∨ j = w1.heap.size + 1) W2 ⟨hk.sd, hk.sg, fun z hz => by rw [List.mem_singleton.1 hz]; exact hok, ?_, by have := hk.cnt; simp; omega, by have := hk.cap; push_cast at this ⊢; simp; omega, hk.room, hk.vars, hk.b5⟩ hrd (fun i v z hv hz => ?_) (fun j hj => ⟨by omega, fun hf => by have := (h.sd.foot_lt hf).2; omega⟩) (fun a n c e _ => ?_)).mono ?_
  · show (stp S.m y).bind _ = _
    rw [hst]; rfl
  · cases i with
    | zero =>
      simp only [List.getElem?_cons_zero, Option.some.injEq] at hv hz
      subst hv hz
      exact hit
    | succ i => simp at hz
  · simp only [Value.slice.injEq, Option.some.injEq] at e
    obtain ⟨rfl, -, -⟩ := e
    exact .inr rfl
  · rintro e w' ⟨rfl, S', L', D', h1, h2, h3, h4, h5, h6, h7, h8⟩
    have hB := hk.size
    refine ⟨rfl, S', L', D', xs ++ [y], h1.after hb2 h.sd, ⟨h1.is, h2, ?_, ?_, by rw [h6]; exact hk.room, ?_, hk.b5⟩, h3, h4, h5, h6, h7, h8⟩
    · have := hk.cnt; simp; omega
    · have := hk.cap; rw [h6]; simp; omega
    · exact hk.vars.below (h1.only.below hB (fun j hj hf => by have := (hk.sd.foot_lt hf).1; omega)) hk.b5

/-! ### heard -/
def hdE (M : SM) (g e : Int) : Int := if g < 0 ∨ e < 0 then 1 else if g < M.gen then 15 else 0
def hdM (M : SM) (g e : Int) : SM := if 0 ≤ g ∧ 0 ≤ e ∧ M.gen < g then { M with gen := g } else M
theorem heard_nil (g e : Int) (w : World) : Calls Tryz.prog 21 #[.pointer none, .int .i64 g, .int .i64 e] w fun r w' => r = .returned (.int .i64 9) ∧ w' = w := by
  go_enter Tryz.func21, Tryz.ntmps21
  go_wp2_with fail
  go_ret
  exact ⟨rfl, rfl⟩
set_option maxHeartbeats 1000000 in
theorem heard_calls (B s : Nat) (S : Sk) (L : Lg) (D : Dk) (xs : List Ln) (k : Nat) (g e : Int) (w : World) (h : KIn w B s S L D xs (k + 1)) (hg : -9223372036854775808 ≤ g ∧ g ≤ 9223372036854775807) :
    Calls Tryz.prog 21 #[.pointer (some ⟨s, 0, none⟩), .int .i64 g, .int .i64 e] w fun r w' => r = .returned (.int .i64 (hdE S.m g e)) ∧ KOut w w' B s S L D (k + 1) (hdM S.m g e) 1 := by
  obtain ⟨-, c1, c2, -⟩ := h.sd.sk.at
  rw [h.sg.br] at c1
  have H := Lib.hid h
  have HE := Lib.hid (show hdE S.m g e = if g < 0 ∨ e < 0 then 1 else if g < S.gen then 15 else 0 from rfl)
  have HM := Lib.hid (show hdM S.m g e = if 0 ≤ g ∧ 0 ≤ e ∧ S.gen < g then { S.m with gen := g } else S.m from rfl)
  generalize hdE S.m g e = er at *
  generalize hdM S.m g e = M' at *
  clear h
  by_cases hg0 : g < 0
  · have d1 : decide (g < 0) = true := decide_eq_true hg0
    have HE2 := Lib.hid (show er = 1 by rw [HE.out, if_pos (.inl hg0)])
    have HM2 := Lib.hid (show M' = S.m by rw [HM.out, if_neg (by omega)])
    go_enter Tryz.func21, Tryz.ntmps21
    go_wp2_with fail
    go_ret
    rw [HE2.out, HM2.out]
    exact ⟨rfl, KOut.of_below H.out (Below.refl _ _)⟩
  · have d1 : decide (g < 0) = false := decide_eq_false hg0
    by_cases he0 : e < 0
    · have d2 : decide (e < 0) = true := decide_eq_true he0
      have HE2 := Lib.hid (show er = 1 by rw [HE.out, if_pos (.inr he0)])
      have HM2 := Lib.hid (show M' = S.m by rw [HM.out, if_neg (by omega)])
      go_enter Tryz.func21, Tryz.ntmps21
      go_wp2_with fail
      go_ret
      rw [HE2.out, HM2.out]
      exact ⟨rfl, KOut.of_below H.out (Below.refl _ _)⟩
    · have d2 : decide (e < 0) = false := decide_eq_false he0
      by_cases hlt : g < S.gen
      · have d3 : decide (g < S.gen) = true := decide_eq_true hlt
        have HE2 := Lib.hid (show er = 15 by rw [HE.out, if_neg (by omega), if_pos hlt])
        have HM2 := Lib.hid (show M' = S.m by rw [HM.out, if_neg (by omega)])
        go_enter Tryz.func21, Tryz.ntmps21
        go_wp2_with fail
        go_ret
        rw [HE2.out, HM2.out]
        exact ⟨rfl, KOut.of_below H.out (Below.refl _ _)⟩
      · have d3 : decide (g < S.gen) = false := decide_eq_false hlt
        have HE2 := Lib.hid (show er = 0 by rw [HE.out, if_neg (by omega), if_neg hlt])
        by_cases hgt : S.gen < g
        · have d4 : decide (S.gen < g) = true := decide_eq_true hgt
          have HM2 := Lib.hid (show M' = { S.m with gen := g } by rw [HM.out, if_pos (by omega)])
          have hst : stp S.m (.hears g) = some M' := by
            rw [HM2.out]
            show (if S.gen < g then _ else _) = _
            rw [if_pos hgt]
          have HST := Lib.hid hst
          clear hst
          go_enter Tryz.func21, Tryz.ntmps21
          go_wp2_with fail
          refine (wint_calls 0 w).mono ?_
          rintro r w1 ⟨rfl, hb1⟩
          have HB1 := Lib.hid hb1
          clear hb1
          go_wp2_with fail
          refine (wint_calls g w1).mono ?_
          rintro r w2 ⟨rfl, hb2⟩
          have HB2 := Lib.hid (HB1.out.trans (hb2.mono HB1.out.size))
          clear hb2
          go_wp2_with fail
          refine (write2_calls B s S L D xs k (.hears g) 0 g M' w w2 H.out rfl ⟨hg, trivial⟩ HST.out HB2.out).mono ?_
          rintro r w3 ⟨rfl, hk⟩
          have HK := Lib.hid hk
          clear hk
          go_wp2_with fail
          go_ret
          refine ⟨?_, HK.out⟩
          rw [HE2.out]
          rfl
        · have d4 : decide (S.gen < g) = false := decide_eq_false hgt
          have HM2 := Lib.hid (show M' = S.m by rw [HM.out, if_neg (by omega)])
          go_enter Tryz.func21, Tryz.ntmps21
          go_wp2_with fail
          go_ret
          rw [HE2.out, HM2.out]
          exact ⟨rfl, KOut.of_below H.out (Below.refl _ _)⟩

/-! ### Commit, Abort -/
def cmE (M : SM) (g e : Int) : Int := if hdE M g e ≠ 0 then hdE M g e else if e < (M.eps.length : Int) then 0 else if e ≠ (M.eps.length : Int) ∨ M.prep = false then 9 else 0
def cmM (M : SM) (g e : Int) : SM := if hdE M g e = 0 ∧ e = (M.eps.length : Int) ∧ M.prep = true then { hdM M g e with eps := M.eps ++ [M.pairs], pairs := [], prep := false } else hdM M g e
def abE (M : SM) (g e : Int) : Int := hdE M g e
def abM (M : SM) (g e : Int) : SM := if hdE M g e = 0 ∧ e = (M.eps.length : Int) ∧ M.prep = true then { hdM M g e with pairs := [], prep := false } else hdM M g e
theorem hdM_same (M : SM) (g e : Int) : (hdM M g e).eps = M.eps ∧ (hdM M g e).gath = M.gath ∧ (hdM M g e).pairs = M.pairs ∧ (hdM M g e).prep = M.prep := by
  unfold hdM
  split <;> exact ⟨rfl, rfl, rfl, rfl⟩
theorem hdE_of {M : SM} {g e : Int} (h : hdE M g e = 0) : 0 ≤ g ∧ 0 ≤ e ∧ M.gen ≤ g := by
  unfold hdE at h
  split at h
  · cases h
  · split at h
    · cases h
    · omega
theorem commit_nil (g e : Int) (w : World) : Calls Tryz.prog 12 #[.pointer none, .int .i64 g, .int .i64 e] w fun r w' => r = .returned (.int .i64 9) ∧ w' = w := by
  have HH := Lib.hid (heard_nil g e w)
  go_enter Tryz.func12, Tryz.ntmps12
  go_wp2_with fail
  refine HH.out.mono ?_
  rintro r w1 ⟨rfl, rfl⟩
  go_wp2_with fail
  go_ret
  exact ⟨rfl, rfl⟩
theorem abort_nil (g e : Int) (w : World) : Calls Tryz.prog 16 #[.pointer none, .int .i64 g, .int .i64 e] w fun r w' => r = .returned (.int .i64 9) ∧ w' = w := by
  have HH := Lib.hid (heard_nil g e w)
  go_enter Tryz.func16, Tryz.ntmps16
  go_wp2_with fail
  refine HH.out.mono ?_
  rintro r w1 ⟨rfl, rfl⟩
  go_wp2_with fail
  go_ret
  exact ⟨rfl, rfl⟩
set_option maxHeartbeats 1000000 in
theorem commit_calls (B s : Nat) (S : Sk) (L : Lg) (D : Dk) (xs : List Ln) (k : Nat) (g e : Int) (w : World) (h : KIn w B s S L D xs (k + 2)) (hg : -9223372036854775808 ≤ g ∧ g ≤ 9223372036854775807) :
    Calls Tryz.prog 12 #[.pointer (some ⟨s, 0, none⟩), .int .i64 g, .int .i64 e] w fun r w' => r = .returned (.int .i64 (cmE S.m g e)) ∧ KOut w w' B s S L D (k + 2) (cmM S.m g e) 2 := by
  have HH := Lib.hid (heard_calls B s S L D xs (k + 1) g e w h hg)
  have HE := Lib.hid (show cmE S.m g e = if hdE S.m g e ≠ 0 then hdE S.m g e else if e < (S.m.eps.length : Int) then 0 else if e ≠ (S.m.eps.length : Int) ∨ S.m.prep = false then 9 else 0 from rfl)
  have HM := Lib.hid (show cmM S.m g e = if hdE S.m g e = 0 ∧ e = (S.m.eps.length : Int) ∧ S.m.prep = true then { hdM S.m g e with eps := S.m.eps ++ [S.m.pairs], pairs := [], prep := false } else hdM S.m g e from rfl)
  have HHE := Lib.hid (fun h0 : hdE S.m g e = 0 => hdE_of h0)
  have HS := Lib.hid (hdM_same S.m g e)
  generalize cmE S.m g e = er at *
  generalize cmM S.m g e = M' at *
  generalize hdE S.m g e = he at *
  generalize hdM S.m g e = M1 at *
  clear h
  go_enter Tryz.func12, Tryz.ntmps12
  go_wp2_with fail
  refine HH.out.mono ?_
  rintro r w1 ⟨rfl, S1, L1, D1, xs1, hst1, hk1, hm1, he1⟩
  have HST1 := Lib.hid hst1
  have HK1 := Lib.hid hk1
  have HM1 := Lib.hid hm1
  have HE1 := Lib.hid he1
  have hel : S1.eps.length = S.m.eps.length := by
    have h1 := HS.out.1
    rw [← hm1] at h1
    have := congrArg List.length h1
    simpa [Sk.m] using this
  have hpr : S1.prep = S.m.prep := by
    have h1 := HS.out.2.2.2
    rw [← hm1] at h1
    exact h1
  obtain ⟨-, -, -, c3, -, -, c6⟩ := hk1.sd.sk.at
  obtain ⟨ea, ec, hev⟩ := own_slice hk1.sd.sk.erow
  rw [hev, hel] at c3
  rw [hpr] at c6
  have HEL := Lib.hid (And.intro hel hpr)
  clear hst1 hk1 hm1 he1 hev hel hpr HH
  by_cases h0 : he = 0
  · subst h0
    by_cases hlt : e < (S.m.eps.length : Int)
    · have d1 : decide (e < (S.m.eps.length : Int)) = true := decide_eq_true hlt
      have HE2 := Lib.hid (show er = 0 by rw [HE.out, if_neg (by simp), if_pos hlt])
      have HM2 := Lib.hid (show M' = M1 by rw [HM.out, if_neg (by omega)])
      go_wp2_with fail
      go_ret
      rw [HE2.out, HM2.out]
      exact ⟨rfl, KOut.trans (u := 1) (v := 1) HST1.out HE1.out (by rw [← HM1.out]; exact KOut.of_below HK1.out (Below.refl _ _))⟩
    · have d1 : decide (e < (S.m.eps.length : Int)) = false := decide_eq_false hlt
      by_cases heq : e = (S.m.eps.length : Int)
      · have d2 : (e != (S.m.eps.length : Int)) = false := by rw [heq]; simp
        cases hp : S.m.prep with
        | false =>
          rw [hp] at c6
          have HE2 := Lib.hid (show er = 9 by rw [HE.out, if_neg (by simp), if_neg hlt, if_pos (.inr hp)])
          have HM2 := Lib.hid (show M' = M1 by rw [HM.out, if_neg (by rw [hp]; simp)])
          have HEQ := Lib.hid heq
          clear heq hp
          go_wp2_with fail
          go_ret
          rw [HE2.out, HM2.out]
          exact ⟨rfl, KOut.trans (u := 1) (v := 1) HST1.out HE1.out (by rw [← HM1.out]; exact KOut.of_below HK1.out (Below.refl _ _))⟩
        | true =>
          rw [hp] at c6
          have HE2 := Lib.hid (show er = 0 by rw [HE.out, if_neg (by simp), if_neg hlt, if_neg (by rw [hp]; simp; exact heq)])
          have HM2 := Lib.hid (show M' = { M1 with eps := M1.eps ++ [M1.pairs], pairs := [], prep := false } by rw [HM.out, if_pos ⟨rfl, heq, hp⟩, HS.out.1, HS.out.2.2.1])
          have he9 : -9223372036854775808 ≤ e ∧ e ≤ 9223372036854775807 := by
            have := HK1.out.sg.le.1
            have h9 := HK1.out.cnt
            have : S1.m.eps.length = S1.eps.length := by simp [Sk.m]
            have := HEL.out.1
            omega
          obtain ⟨n, hn⟩ : ∃ n : Nat, e = (n : Int) := ⟨S.m.eps.length, heq⟩
          have hnn : n = S1.m.eps.length := by
            have : S1.m.eps.length = S1.eps.length := by simp [Sk.m]
            have := HEL.out.1
            omega
          have HST := Lib.hid (show stp S1.m (.commits n) = some M' from by
            rw [HM2.out, ← HM1.out]
            show (if n = S1.m.eps.length ∧ S1.m.prep = true then _ else _) = _
            rw [if_pos ⟨hnn, by show S1.prep = true; rw [HEL.out.2, hp]⟩])
          have HEQ := Lib.hid (And.intro heq hn)
          clear heq hn hnn hp
          go_wp2_with fail
          refine (wint_calls 3 w1).mono ?_
          rintro r w2 ⟨rfl, hb2⟩
          have HB2 := Lib.hid hb2
          clear hb2
          go_wp2_with fail
          refine (wint_calls e w2).mono ?_
          rintro r w3 ⟨rfl, hb3⟩
          have HB3 := Lib.hid (HB2.out.trans (hb3.mono HB2.out.size))
          clear hb3
          go_wp2_with fail
          refine (write2_calls B s S1 L1 D1 xs1 k (.commits n) 3 e M' w1 w3 HK1.out (by rw [HEQ.out.2]; rfl) ⟨by rw [HEQ.out.2] at he9; exact he9, trivial⟩ HST.out HB3.out).mono ?_
          rintro r w4 ⟨rfl, hk⟩
          have HK := Lib.hid hk
          clear hk
          go_wp2_with fail
          go_ret
          rw [HE2.out]
          exact ⟨rfl, KOut.trans (u := 1) (v := 1) HST1.out HE1.out HK.out⟩
      · have d2 : (e != (S.m.eps.length : Int)) = true := by simpa using heq
        have HE2 := Lib.hid (show er = 9 by rw [HE.out, if_neg (by simp), if_neg hlt, if_pos (.inl heq)])
        have HM2 := Lib.hid (show M' = M1 by rw [HM.out, if_neg (fun h => heq h.2.1)])
        go_wp2_with fail
        go_ret
        rw [HE2.out, HM2.out]
        exact ⟨rfl, KOut.trans (u := 1) (v := 1) HST1.out HE1.out (by rw [← HM1.out]; exact KOut.of_below HK1.out (Below.refl _ _))⟩
  · have d0 : (he != 0) = true := by simpa using h0
    have HE2 := Lib.hid (show er = he by rw [HE.out, if_pos h0])
    have HM2 := Lib.hid (show M' = M1 by rw [HM.out, if_neg (fun h => h0 h.1)])
    go_wp2_with fail
    go_ret
    rw [HE2.out, HM2.out]
    exact ⟨rfl, KOut.trans (u := 1) (v := 1) HST1.out HE1.out (by rw [← HM1.out]; exact KOut.of_below HK1.out (Below.refl _ _))⟩
set_option maxHeartbeats 1000000 in
theorem abort_calls (B s : Nat) (S : Sk) (L : Lg) (D : Dk) (xs : List Ln) (k : Nat) (g e : Int) (w : World) (h : KIn w B s S L D xs (k + 2)) (hg : -9223372036854775808 ≤ g ∧ g ≤ 9223372036854775807) :
    Calls Tryz.prog 16 #[.pointer (some ⟨s, 0, none⟩), .int .i64 g, .int .i64 e] w fun r w' => r = .returned (.int .i64 (abE S.m g e)) ∧ KOut w w' B s S L D (k + 2) (abM S.m g e) 2 := by
  have HH := Lib.hid (heard_calls B s S L D xs (k + 1) g e w h hg)
  have HE := Lib.hid (show abE S.m g e = hdE S.m g e from rfl)
  have HM := Lib.hid (show abM S.m g e = if hdE S.m g e = 0 ∧ e = (S.m.eps.length : Int) ∧ S.m.prep = true then { hdM S.m g e with pairs := [], prep := false } else hdM S.m g e from rfl)
  have HS := Lib.hid (hdM_same S.m g e)
  generalize abE S.m g e = er at *
  generalize abM S.m g e = M' at *
  generalize hdE S.m g e = he at *
  generalize hdM S.m g e = M1 at *
  clear h
  go_enter Tryz.func16, Tryz.ntmps16
  go_wp2_with fail
  refine HH.out.mono ?_
  rintro r w1 ⟨rfl, S1, L1, D1, xs1, hst1, hk1, hm1, he1⟩
  have HST1 := Lib.hid hst1
  have HK1 := Lib.hid hk1
  have HM1 := Lib.hid hm1
  have HE1 := Lib.hid he1
  have hel : S1.eps.length = S.m.eps.length := by
    have h1 := HS.out.1
    rw [← hm1] at h1
    have := congrArg List.length h1
    simpa [Sk.m] using this
  have hpr : S1.prep = S.m.prep := by
    have h1 := HS.out.2.2.2
    rw [← hm1] at h1
    exact h1
  obtain ⟨-, -, -, c3, -, -, c6⟩ := hk1.sd.sk.at
  obtain ⟨ea, ec, hev⟩ := own_slice hk1.sd.sk.erow
  rw [hev, hel] at c3
  rw [hpr] at c6
  have HEL := Lib.hid (And.intro hel hpr)
  clear hst1 hk1 hm1 he1 hev hel hpr HH
  by_cases h0 : he = 0
  · subst h0
    by_cases heq : e = (S.m.eps.length : Int)
    · have d2 : (e != (S.m.eps.length : Int)) = false := by rw [heq]; simp
      cases hp : S.m.prep with
      | false =>
        rw [hp] at c6
        have HM2 := Lib.hid (show M' = M1 by rw [HM.out, if_neg (by rw [hp]; simp)])
        have HEQ := Lib.hid heq
        clear heq hp
        go_wp2_with fail
        go_ret
        rw [HE.out, HM2.out]
        exact ⟨rfl, KOut.trans (u := 1) (v := 1) HST1.out HE1.out (by rw [← HM1.out]; exact KOut.of_below HK1.out (Below.refl _ _))⟩
      | true =>
        rw [hp] at c6
        have HM2 := Lib.hid (show M' = { M1 with pairs := [], prep := false } by rw [HM.out, if_pos ⟨rfl, heq, hp⟩])
        have he9 : -9223372036854775808 ≤ e ∧ e ≤ 9223372036854775807 := by
          have := HK1.out.sg.le.1
          have h9 := HK1.out.cnt
          have : S1.m.eps.length = S1.eps.length := by simp [Sk.m]
          have := HEL.out.1
          omega
        obtain ⟨n, hn⟩ : ∃ n : Nat, e = (n : Int) := ⟨S.m.eps.length, heq⟩
        have hnn : n = S1.m.eps.length := by
          have : S1.m.eps.length = S1.eps.length := by simp [Sk.m]
          have := HEL.out.1
          omega
        have HST := Lib.hid (show stp S1.m (.aborts n) = some M' from by
          rw [HM2.out, ← HM1.out]
          show (if n = S1.m.eps.length ∧ S1.m.prep = true then _ else _) = _
          rw [if_pos ⟨hnn, by show S1.prep = true; rw [HEL.out.2, hp]⟩])
        have HEQ := Lib.hid (And.intro heq hn)
        clear heq hn hnn hp
        go_wp2_with fail
        refine (wint_calls 4 w1).mono ?_
        rintro r w2 ⟨rfl, hb2⟩
        have HB2 := Lib.hid hb2
        clear hb2
        go_wp2_with fail
        refine (wint_calls e w2).mono ?_
        rintro r w3 ⟨rfl, hb3⟩
        have HB3 := Lib.hid (HB2.out.trans (hb3.mono HB2.out.size))
        clear hb3
        go_wp2_with fail
        refine (write2_calls B s S1 L1 D1 xs1 k (.aborts n) 4 e M' w1 w3 HK1.out (by rw [HEQ.out.2]; rfl) ⟨by rw [HEQ.out.2] at he9; exact he9, trivial⟩ HST.out HB3.out).mono ?_
        rintro r w4 ⟨rfl, hk⟩
        have HK := Lib.hid hk
        clear hk
        go_wp2_with fail
        go_ret
        rw [HE.out]
        exact ⟨rfl, KOut.trans (u := 1) (v := 1) HST1.out HE1.out HK.out⟩
    · have d2 : (e != (S.m.eps.length : Int)) = true := by simpa using heq
      have HM2 := Lib.hid (show M' = M1 by rw [HM.out, if_neg (fun h => heq h.2.1)])
      go_wp2_with fail
      go_ret
      rw [HE.out, HM2.out]
      exact ⟨rfl, KOut.trans (u := 1) (v := 1) HST1.out HE1.out (by rw [← HM1.out]; exact KOut.of_below HK1.out (Below.refl _ _))⟩
  · have d0 : (he != 0) = true := by simpa using h0
    have HM2 := Lib.hid (show M' = M1 by rw [HM.out, if_neg (fun h => h0 h.1)])
    go_wp2_with fail
    go_ret
    rw [HE.out, HM2.out]
    exact ⟨rfl, KOut.trans (u := 1) (v := 1) HST1.out HE1.out (by rw [← HM1.out]; exact KOut.of_below HK1.out (Below.refl _ _))⟩

/-! ### What the sink tells -/
theorem gen_calls (B s : Nat) (S : Sk) (w : World) (h : SkAt w B s S) : Calls Tryz.prog 9 #[.pointer (some ⟨s, 0, none⟩)] w fun r w' => r = .returned (.int .i64 S.gen) ∧ w' = w := by
  obtain ⟨-, -, c2, -⟩ := h.at
  clear h
  go_enter Tryz.func9, Tryz.ntmps9
  go_wp2_with fail
  go_ret
  exact ⟨rfl, rfl⟩
theorem gen_nil (w : World) : Calls Tryz.prog 9 #[.pointer none] w fun r w' => r = .returned (.int .i64 0) ∧ w' = w := by
  go_enter Tryz.func9, Tryz.ntmps9
  go_wp2_with fail
  go_ret
  exact ⟨rfl, rfl⟩
theorem count_calls (B s : Nat) (S : Sk) (w : World) (h : SkAt w B s S) : Calls Tryz.prog 10 #[.pointer (some ⟨s, 0, none⟩)] w fun r w' => r = .returned (.int .i64 S.eps.length) ∧ w' = w := by
  obtain ⟨-, -, -, c3, -⟩ := h.at
  obtain ⟨ea, ec, hev⟩ := own_slice h.erow
  rw [hev] at c3
  clear h hev
  go_enter Tryz.func10, Tryz.ntmps10
  go_wp2_with fail
  go_ret
  exact ⟨rfl, rfl⟩
theorem count_nil (w : World) : Calls Tryz.prog 10 #[.pointer none] w fun r w' => r = .returned (.int .i64 0) ∧ w' = w := by
  go_enter Tryz.func10, Tryz.ntmps10
  go_wp2_with fail
  go_ret
  exact ⟨rfl, rfl⟩
theorem prepared_nil (w : World) : Calls Tryz.prog 15 #[.pointer none] w fun r w' => r = .returned (.tuple #[.int .i64 0, .bool false]) ∧ w' = w := by
  go_enter Tryz.func15, Tryz.ntmps15
  go_wp2_with fail
  go_ret2
  exact ⟨rfl, rfl⟩
set_option maxHeartbeats 400000 in
theorem clonePr_calls (v : Value) (l : List Pr) (w : World) (hv : Rd w 2 v l.length (flatF Pr.cells l)) (hl : l.length ≤ 1000000) :
    Calls Tryz.prog 27 #[v] w fun e w' => ∃ v', e = .returned v' ∧ PRow w' w.heap.size v' l ∧ Below w.heap.size w w' := by
  have HV := Lib.hid hv
  obtain ⟨a, c, rfl, hn, hle, hc, h3⟩ := hv
  cases a with
  | none =>
    have h0 : l.length = 0 := by
      rcases h3 with h3 | ⟨b, o, h, -⟩
      · omega
      · cases h
    have hx : l = [] := List.eq_nil_of_length_eq_zero h0
    subst hx
    clear h3 hn
    have hnil := fun (w : World) => Lib.run_eql_slice_nil (P := Tryz.prog) w 23 39 none 0 c 0 0 Tryz.underlying23
    go_enter Tryz.func27, Tryz.ntmps27
    go_wp2
    go_ret
    exact ⟨_, rfl, PRow.nil _ _, Below.refl _ _⟩
  | some x =>
    clear h3 hn
    have hnil := fun (w : World) => Lib.run_eql_slice_nil (P := Tryz.prog) w 23 39 (some x) l.length c 0 0 Tryz.underlying23
    have hlit := World.ownsRow_lit (base := w.heap.size) (size := 2) (e := 39) w #[] 0 (Nat.le_refl _) (by unfold maxLen; omega) (by simp)
    have hal := (Below.refl w.heap.size w).alloc (Nat.le_refl _) (.cells #[] 39)
    have HR := Lib.hid (HV.out.below hal (Nat.le_refl _))
    have HLIT := Lib.hid hlit
    have HAL := Lib.hid hal
    clear hlit hal
    go_enter Tryz.func27, Tryz.ntmps27
    go_wp2_with (at_builtin; go_loud (refine app_list tyPairs HLIT.out HR.out (pr_one l) (by omega) (by omega) HAL.out.size rfl rfl rfl rfl ?_; intro v3 w3 hm3 hb3 hn3; obtain ⟨ga, gc, rfl⟩ := own_slice hm3))
    go_ret
    refine ⟨_, rfl, ?_, ?_⟩
    · unfold PRow
      simpa using hm3
    · exact HAL.out.grown hb3 HAL.out.size (fun j e => (World.ownsRow.lt HLIT.out j e).1)
theorem epoch_nil (i : Int) (w : World) : Calls Tryz.prog 14 #[.pointer none, .int .i64 i] w fun r w' => r = .returned (.tuple #[.slice none 0 0, .int .i64 9]) ∧ w' = w := by
  go_enter Tryz.func14, Tryz.ntmps14
  go_wp2_with fail
  go_ret2
  exact ⟨rfl, rfl⟩
theorem epoch_calls (B s i : Nat) (S : Sk) (w : World) (h : SkAt w B s S) (x : Value × List Pr) (hx : S.eps[i]? = some x) (hl : x.2.length ≤ 1000000) :
    Calls Tryz.prog 14 #[.pointer (some ⟨s, 0, none⟩), .int .i64 i] w fun r w' => ∃ v, r = .returned (.tuple #[v, .int .i64 0]) ∧ PRow w' w.heap.size v x.2 ∧ Below w.heap.size w w' := by
  obtain ⟨-, -, -, c3, -⟩ := h.at
  have hil := (List.getElem?_eq_some_iff.1 hx).1
  have hrow := h.eps x (List.mem_of_getElem? hx)
  obtain ⟨g, hg⟩ : ∃ g, S.ev = g := ⟨_, rfl⟩
  have her := h.erow
  obtain ⟨ea, ec, hev⟩ := own_slice her
  rw [hev] at c3 her
  obtain ⟨eb, rfl, hec, hem, hcell⟩ := row_cell her i x.1 (by rw [List.getElem?_map, hx]; rfl)
  have HC := Lib.hid (clonePr_calls x.1 x.2 w (Rd.of_own hrow) hl)
  obtain ⟨xa, xc, hxv⟩ := own_slice hrow
  have d1 : decide ((i : Int) < 0) = false := decide_eq_false (by omega)
  have d2 : decide ((S.eps.length : Int) ≤ (i : Int)) = false := decide_eq_false (by omega)
  rw [hxv] at hcell HC
  have hic : i < ec := by omega
  clear h hrow her hev hg hxv hx
  go_enter Tryz.func14, Tryz.ntmps14
  go_wp2_with fail
  refine HC.out.mono ?_
  rintro r w1 ⟨v', rfl, hr, hb⟩
  obtain ⟨ya, yc, rfl⟩ := own_slice hr
  have HR := Lib.hid hr
  have HB := Lib.hid hb
  clear hr hb HC
  go_wp2_with fail
  go_ret2
  exact ⟨_, rfl, HR.out, HB.out⟩
end Go.Proofs.YthgmligpconhhaaGreatDoor

/- Layer 24: a key that is too long; lines being laid out; walked. -/
namespace Go.Proofs.YthgmligpconhhaaGreatDoor
open Go.RowKit Go.Shelf
set_option linter.unusedVariables false
set_option linter.unusedSimpArgs false
set_option maxRecDepth 100000

def longK (p : Pr) : Bool := decide (32 < p.key.size)
theorem prep1_calls (p : Pr) (w : World) (hs : p.key.size ≤ 9223372036854775807) : Calls Tryz.prog 23 #[.agg #[.string p.key, .int .u32 p.val]] w fun e w' => e = .returned (.bool (longK p)) ∧ Below w.heap.size w w' := by
  have hal := below_alloc w (.cells #[.string p.key, .int .u32 p.val] 39)
  have HAL := Lib.hid hal
  have d1 : decide ((32 : Int) < (p.key.size : Int)) = longK p := by unfold longK; apply decide_eq_decide.2; omega
  clear hal
  go_enter Tryz.func23, Tryz.ntmps23
  go_wp2_with fail
  go_ret
  exact ⟨rfl, HAL.out⟩
/-- A pair of a row. -/
theorem pr_at {w : World} {a : Option Addr} {n cap : Nat} {es : List Pr} (h : Rd w 2 (.slice a n cap) es.length (flatF Pr.cells es)) (i : Nat) (hi : i < es.length) :
    ∃ b o, a = some ⟨b, o, none⟩ ∧ w.cell? ⟨b, o + i * 2, none⟩ = some (.string es[i].key) ∧ w.cell? ⟨b, o + i * 2 + 1, none⟩ = some (.int .u32 es[i].val) := by
  obtain ⟨b, o, rfl, he⟩ := rdF_at (k := 2) pr2 h i hi
  exact ⟨b, o, rfl, he 0 _ (by omega) rfl, he 1 _ (by omega) rfl⟩
set_option maxHeartbeats 1000000 in
theorem idxP_calls (v : Value) (es : List Pr) (w : World) (eg : ∀ args w, (callFunc 23 args).run Tryz.prog w = .ok (.enter 23 args) w) (hv : Rd w 2 v es.length (flatF Pr.cells es)) (hk : ∀ p ∈ es, p.key.size ≤ 9223372036854775807) :
    Calls Tryz.prog 46 #[v, .func (.func 23) #[] #[]] w fun e w' => ((∃ i : Nat, i < es.length ∧ es.any longK = true ∧ e = .returned (.int .i64 i)) ∨ (es.any longK = false ∧ e = .returned (.int .i64 (-1)))) ∧ Below w.heap.size w w' := by
  have HV := Lib.hid hv
  have HKK := Lib.hid hk
  obtain ⟨a, cap, rfl, hle, hcap⟩ := Rd.slice hv
  clear hv hk
  go_enter Tryz.func46, Tryz.ntmps46
  go_wp2_with fail
  go_loopw [5, 8] (fun _ i wr => ∃ k : Nat, k ≤ es.length ∧ i = .int .i64 k ∧ (∀ r ∈ es.take k, longK r = false) ∧ Below w.heap.size w wr) (fun _ i _ => es.length - (intOf i).toNat)
  case atStart => exact ⟨0, by omega, rfl, by simp, Below.refl _ _⟩
  case round =>
    obtain ⟨k, hk, rfl, hno, hb⟩ := hrel
    have HB := Lib.hid hb
    have HNO := Lib.hid hno
    clear hno
    by_cases hlt : k < es.length
    · obtain ⟨rb, o, rfl, c0, c1⟩ := pr_at HV.out k hlt
      have d0 := cell_later hb c0
      have d1 := cell_later hb c1
      have HNX := Lib.hid (show es.take (k + 1) = es.take k ++ [es[k]] from List.take_succ_eq_append_getElem hlt)
      have HC := Lib.hid (prep1_calls es[k] wr (HKK.out _ (List.getElem_mem hlt)))
      have HIN := Lib.hid (List.getElem_mem hlt)
      clear hb c0 c1
      generalize es[k] = R at *
      obtain ⟨rk, rv⟩ := R
      simp only at d0 d1 HC
      go_wp2_with fail
      refine HC.out.mono ?_
      rintro e w1 ⟨rfl, hb1⟩
      have HB3 := Lib.hid (HB.out.trans (hb1.mono HB.out.size))
      clear hb1
      cases hpr : longK ⟨rk, rv⟩ with
      | true =>
        have HPR := Lib.hid hpr
        clear hpr
        go_wp2_with fail
        go_ret
        exact ⟨.inl ⟨k, hlt, List.any_eq_true.2 ⟨_, HIN.out, HPR.out⟩, rfl⟩, HB3.out⟩
      | false =>
        have HPR := Lib.hid hpr
        clear hpr
        go_wp2_with fail
        go_roundw
        case rel =>
          refine ⟨k + 1, by omega, by go_num, fun r hr => ?_, HB3.out⟩
          rw [HNX.out] at hr
          rcases List.mem_append.1 hr with hr | hr
          · exact HNO.out r hr
          · rw [List.mem_singleton.1 hr]; exact HPR.out
        case measure => simp [intOf]; omega
    · obtain rfl : k = es.length := by omega
      clear hb
      go_wp2_with fail
      go_ret
      refine ⟨.inr ⟨?_, rfl⟩, HB.out⟩
      rw [Bool.eq_false_iff]
      intro h
      obtain ⟨r, hr, h⟩ := List.any_eq_true.1 h
      have := HNO.out r (by rw [List.take_length]; exact hr)
      rw [h] at this
      cases this
theorem hasP_calls (v : Value) (es : List Pr) (w : World) (eg : ∀ args w, (callFunc 23 args).run Tryz.prog w = .ok (.enter 23 args) w) (hv : Rd w 2 v es.length (flatF Pr.cells es)) (hk : ∀ p ∈ es, p.key.size ≤ 9223372036854775807) :
    Calls Tryz.prog 22 #[v, .func (.func 23) #[] #[]] w fun e w' => e = .returned (.bool (es.any longK)) ∧ Below w.heap.size w w' := by
  have HC := Lib.hid (idxP_calls v es w eg hv hk)
  obtain ⟨a, cap, rfl, hle, hcap⟩ := Rd.slice hv
  clear hv hk
  go_enter Tryz.func22, Tryz.ntmps22
  go_wp2_with fail
  refine HC.out.mono ?_
  rintro e w1 ⟨hr, hb⟩
  have HB := Lib.hid hb
  clear hb
  rcases hr with ⟨i, hi, hs, rfl⟩ | ⟨hs, rfl⟩
  · have HA := Lib.hid hs
    have d1 : decide ((0 : Int) ≤ (i : Int)) = true := decide_eq_true (by omega)
    clear hs
    go_wp2_with fail
    go_ret
    exact ⟨by rw [HA.out]; rfl, HB.out⟩
  · have HA := Lib.hid hs
    clear hs
    go_wp2_with fail
    go_ret
    exact ⟨by rw [HA.out]; rfl, HB.out⟩

/-! ### Lines being laid out -/
def LnRow (w : World) (base : Nat) (v : Value) (x : Ln) : Prop := ∃ ys : List Iv, ys.map Iv.c = x.its ∧ w.ownsRow base 70 4 v ys.length (flatF Iv.cells ys) ∧ ∀ y ∈ ys, y.v = .slice none 0 0
def LnsRow (w : World) (base : Nat) (lv : Value) (xs : List Ln) : Prop := ∃ vs, w.ownsRow base 68 1 lv xs.length vs ∧ ∀ (i : Nat) (v : Value) (x : Ln), vs[i]? = some v → xs[i]? = some x → LnRow w base v x
theorem its_flat (x : Ln) : ∀ i ∈ x.its, i.l = [] := by
  have hr : ∀ i ∈ x.rest, i.l = [] := by
    intro i hi
    cases x with
    | stage n ps =>
      obtain ⟨p, -, hi⟩ := List.mem_flatMap.1 (show i ∈ ps.flatMap prI from hi)
      simp only [prI, List.mem_cons, List.not_mem_nil, or_false] at hi
      rcases hi with rfl | rfl <;> rfl
    | _ => cases hi
  intro i hi
  rw [x.its_eq] at hi
  rcases List.mem_cons.1 hi with rfl | hi
  · rfl
  · rcases List.mem_cons.1 hi with rfl | hi
    · rfl
    · exact hr i hi
theorem LnRow.below {w w' : World} {base B : Nat} {v : Value} {x : Ln} (h : LnRow w base v x) (hb : Below B w w') (hB : w.heap.size ≤ B) : LnRow w' base v x := by
  obtain ⟨ys, h1, h2, h3⟩ := h
  exact ⟨ys, h1, ownsRow_below h2 hb hB, h3⟩
theorem LnRow.mono {w : World} {base base' : Nat} {v : Value} {x : Ln} (h : LnRow w base v x) (hb : base' ≤ base) : LnRow w base' v x := by
  obtain ⟨ys, h1, h2, h3⟩ := h
  exact ⟨ys, h1, ownsRow_mono h2 hb, h3⟩
theorem LnRow.grown {w w' : World} {base base' n : Nat} {v lv : Value} {x : Ln} {vs : List Value} (h : LnRow w base v x) (hl : w.ownsRow base' 68 1 lv n vs) (hg : w.grownBy w' lv.ownBlock) : LnRow w' base v x := by
  obtain ⟨ys, h1, h2, h3⟩ := h
  exact ⟨ys, h1, ownsRow_only h2 (Only.of_grown hg) (fun j hj e => absurd ((own_ty h2 hj).eq (own_ty hl e)) (by decide)), h3⟩
theorem LnRow.itR {w : World} {base : Nat} {v : Value} {x : Ln} {P : Nat → Prop} (h : LnRow w base v x) (hP : ∀ j, base ≤ j → j < w.heap.size → P j) : ItR P 8 w v x.its := by
  obtain ⟨ys, h1, h2, h3⟩ := h
  refine ⟨ys, h1, Rd.of_own h2, fun a n c e _ => ?_, fun y hy => by
    rw [h3 y hy, its_flat x y.c (by rw [← h1]; exact List.mem_map.2 ⟨y, hy, rfl⟩)]
    exact ItR.nil _ _ _⟩
  have := World.ownsRow.lt h2 a.block (by rw [e]; rfl)
  exact hP _ this.1 this.2
theorem LnsRow.below {w w' : World} {base B : Nat} {lv : Value} {xs : List Ln} (h : LnsRow w base lv xs) (hb : Below B w w') (hB : w.heap.size ≤ B) : LnsRow w' base lv xs := by
  obtain ⟨vs, h1, h2⟩ := h
  exact ⟨vs, ownsRow_below h1 hb hB, fun i v x hv hx => (h2 i v x hv hx).below hb hB⟩
theorem LnsRow.push {w0 w1 w : World} {base base' : Nat} {lv v : Value} {xs : List Ln} {x : Ln} {vs : List Value} {g cap : Nat} (h1 : w1.ownsRow base 68 1 lv xs.length vs) (h2 : ∀ (i : Nat) (v : Value) (x : Ln), vs[i]? = some v → xs[i]? = some x → LnRow w1 base v x) (hx : LnRow w1 base' v x) (hb : base ≤ base')
    (ho : w.ownsRow base 68 1 (.slice (some ⟨g, 0, none⟩) (xs.length + 1) cap) (xs.length + 1) (vs ++ [v])) (hg : w1.grownBy w lv.ownBlock) : LnsRow w base (.slice (some ⟨g, 0, none⟩) (xs.length + 1) cap) (xs ++ [x]) := by
  have hl : vs.length = xs.length := by have := h1.1; omega
  refine ⟨vs ++ [v], by rw [List.length_append, List.length_singleton]; exact ho, fun i u y hu hy => ?_⟩
  by_cases hi : i < xs.length
  · rw [List.getElem?_append_left (by omega)] at hu hy
    exact (h2 i u y hu hy).grown h1 hg
  · rw [List.getElem?_append_right (by omega)] at hu hy
    rw [hl] at hu
    by_cases hz : i - xs.length = 0
    · rw [hz] at hu hy
      simp only [List.getElem?_cons_zero, Option.some.injEq] at hu hy
      subst hu hy
      exact (hx.mono hb).grown h1 hg
    · rw [List.getElem?_eq_none (by simp; omega)] at hu
      cases hu

/-! ### The stages of a row of pairs -/
def stg (out : List Pr) (j : Nat) : Ln := .stage (800 * j) ((out.drop (800 * j)).take 800)
def stgs (out : List Pr) (j : Nat) : List Ln := (List.range j).map (stg out)
theorem stgs_succ (out : List Pr) (j : Nat) : stgs out (j + 1) = stgs out j ++ [stg out j] := by
  unfold stgs
  rw [List.range_succ, List.map_append]
  rfl
theorem stgs_length (out : List Pr) (j : Nat) : (stgs out j).length = j := by simp [stgs]
theorem play_stgs (M : SM) (out : List Pr) : ∀ j, play M (stgs out (j + 1)) = some { M with gath := out.take (800 * (j + 1)) }
  | 0 => by
    show (stp M (.stage (800 * 0) ((out.drop (800 * 0)).take 800))).bind _ = _
    simp [stp, play]
  | j + 1 => by
    rw [stgs_succ, play_app, play_stgs M out j]
    show (stp { M with gath := out.take (800 * (j + 1)) } (.stage (800 * (j + 1)) ((out.drop (800 * (j + 1))).take 800))).bind _ = _
    have h : ¬ (800 * (j + 1) = 0) := by omega
    simp only [stp, if_neg h, Option.bind_some, play, Option.some.injEq]
    congr 1
    rw [show 800 * (j + 1 + 1) = 800 * (j + 1) + 800 by omega, List.take_add]
theorem stgs_ok {out : List Pr} (h : ∀ p ∈ out, p.ok) {j : Nat} (hj : j ≤ 100) : ∀ x ∈ stgs out j, x.ok := by
  intro x hx
  obtain ⟨q, hq, rfl⟩ := List.mem_map.1 hx
  have := List.mem_range.1 hq
  refine ⟨by show -9223372036854775808 ≤ ((800 * q : Nat) : Int) ∧ ((800 * q : Nat) : Int) ≤ 9223372036854775807; omega, by rw [List.length_take]; omega, fun p hp => h p (List.mem_of_mem_drop (List.mem_of_mem_take hp))⟩
end Go.Proofs.YthgmligpconhhaaGreatDoor

/- Layer 24: Prepare, walked. -/
namespace Go.Proofs.YthgmligpconhhaaGreatDoor
open Go.RowKit Go.Shelf
set_option linter.unusedVariables false
set_option linter.unusedSimpArgs false
set_option maxRecDepth 100000

def prE (M : SM) (g e : Int) (out : List Pr) : Int := if hdE M g e ≠ 0 then hdE M g e else if out.any longK = true then 3 else if 4096 < out.length then 2 else if e ≠ (M.eps.length : Int) then 9 else 0
def prM (M : SM) (g e : Int) (out : List Pr) : SM := if hdE M g e = 0 ∧ out.any longK = false ∧ out.length ≤ 4096 ∧ e = (M.eps.length : Int) then { hdM M g e with gath := [], pairs := out, prep := true } else hdM M g e
theorem prepare_nil (g e : Int) (ov : Value) (w : World) : Calls Tryz.prog 11 #[.pointer none, .int .i64 g, .int .i64 e, ov] w fun r w' => r = .returned (.int .i64 9) ∧ w' = w := by
  have HH := Lib.hid (heard_nil g e w)
  go_enter Tryz.func11, Tryz.ntmps11
  go_wp2_with fail
  refine HH.out.mono ?_
  rintro r w1 ⟨rfl, rfl⟩
  go_wp2_with fail
  go_ret
  exact ⟨rfl, rfl⟩
def prV (p : Pr) : List Iv := [⟨iT p.key, .slice none 0 0⟩, ⟨iI p.val, .slice none 0 0⟩]
theorem prV_c (ps : List Pr) : (ps.flatMap prV).map Iv.c = ps.flatMap prI := by
  induction ps with
  | nil => rfl
  | cons p r ih => rw [List.flatMap_cons, List.map_append, ih]; rfl
theorem prV_len : ∀ (ps : List Pr), (ps.flatMap prV).length = 2 * ps.length
  | [] => rfl
  | p :: r => by
    rw [List.flatMap_cons, List.length_append, prV_len r, List.length_cons]
    show 2 + _ = _
    omega
theorem prV_nil (ps : List Pr) : ∀ y ∈ ps.flatMap prV, y.v = .slice none 0 0 := by
  intro y hy
  obtain ⟨p, -, hy⟩ := List.mem_flatMap.1 hy
  simp only [prV, List.mem_cons, List.not_mem_nil, or_false] at hy
  rcases hy with rfl | rfl <;> rfl

theorem LnsRow.slice {w : World} {base : Nat} {v : Value} {xs : List Ln} (h : LnsRow w base v xs) : ∃ a c, v = .slice a xs.length c := by
  obtain ⟨vs, h1, -⟩ := h
  exact own_slice h1

theorem tyItemsL : STy Tryz.prog 67 68 (.slice none 0 0) 1 24 := .of Tryz.underlying67 (by kernel_rfl) rfl (by omega)
/-- The first two items of a line. -/
def hdV (a b : Int) : List Iv := [⟨iI a, .slice none 0 0⟩, ⟨iI b, .slice none 0 0⟩]
/-- The pairs at an address. -/
def PrA (w : World) (a : Option Addr) (ps : List Pr) : Prop := ∀ (q : Nat) (hq : q < ps.length), ∃ b o, a = some ⟨b, o, none⟩ ∧ w.cell? ⟨b, o + q * 2, none⟩ = some (.string ps[q].key) ∧ w.cell? ⟨b, o + q * 2 + 1, none⟩ = some (.int .u32 ps[q].val)
theorem PrA.of {w : World} {a : Option Addr} {n cap : Nat} {es : List Pr} (h : Rd w 2 (.slice a n cap) es.length (flatF Pr.cells es)) (k : Nat) : PrA w (a.map fun x => x.add (k * 2)) ((es.drop k).take 800) := fun q hq => by
  have hl : ((es.drop k).take 800).length = min 800 (es.length - k) := by simp
  have hk : k + q < es.length := by omega
  obtain ⟨b, o, rfl, h0, h1⟩ := pr_at h (k + q) hk
  have e : ((es.drop k).take 800)[q] = es[k + q] := by simp
  rw [e]
  refine ⟨b, o + k * 2, by simp [add_off], ?_, ?_⟩
  · rw [show o + k * 2 + q * 2 = o + (k + q) * 2 by omega]; exact h0
  · rw [show o + k * 2 + q * 2 + 1 = o + (k + q) * 2 + 1 by omega]; exact h1
theorem PrA.below {w w' : World} {a : Option Addr} {ps : List Pr} {B : Nat} (h : PrA w a ps) (hb : Below B w w') (hB : w.heap.size ≤ B) : PrA w' a ps := fun q hq => by
  obtain ⟨b, o, rfl, h0, h1⟩ := h q hq
  exact ⟨b, o, rfl, cell_later (hb.mono hB) h0, cell_later (hb.mono hB) h1⟩

theorem LnsRow.push' {w0 w1 w : World} {base base' n : Nat} {lv v : Value} {xs : List Ln} {x : Ln} {vs : List Value} {g cap : Nat} (hn : xs.length = n) (h1 : w1.ownsRow base 68 1 lv n vs) (h2 : ∀ (i : Nat) (v : Value) (x : Ln), vs[i]? = some v → xs[i]? = some x → LnRow w1 base v x) (hx : LnRow w1 base' v x) (hb : base ≤ base')
    (ho : w.ownsRow base 68 1 (.slice (some ⟨g, 0, none⟩) (n + 1) cap) (n + 1) (vs ++ [v])) (hg : w1.grownBy w lv.ownBlock) : LnsRow w base (.slice (some ⟨g, 0, none⟩) (n + 1) cap) (xs ++ [x]) := by
  subst hn
  exact LnsRow.push (w0 := w0) h1 h2 hx hb ho hg
theorem stg_row {w : World} {base j kk N : Nat} {v : Value} {out CK : List Pr} (hk : kk = 800 * j) (hc : CK = (out.drop kk).take 800) (hN : N = 2 + 2 * CK.length) (h : w.ownsRow base 70 4 v N (flatF Iv.cells (hdV 1 kk ++ CK.flatMap prV))) : LnRow w base v (stg out j) := by
  subst hk
  refine ⟨hdV 1 (800 * j : Nat) ++ CK.flatMap prV, ?_, ?_, ?_⟩
  · rw [List.map_append, prV_c, hc]
    rfl
  · rw [List.length_append, prV_len]
    rw [hN] at h
    exact h
  · intro y hy
    rcases List.mem_append.1 hy with hy | hy
    · simp only [hdV, List.mem_cons, List.not_mem_nil, or_false] at hy
      rcases hy with rfl | rfl <;> rfl
    · exact prV_nil CK y hy
theorem rdy_row {w : World} {base n : Nat} {v : Value} {a : Int} (ha : a = n) (h : w.ownsRow base 70 4 v 2 (flatF Iv.cells (hdV 2 a))) : LnRow w base v (.ready n) := by
  subst ha
  refine ⟨hdV 2 n, rfl, h, fun y hy => ?_⟩
  simp only [hdV, List.mem_cons, List.not_mem_nil, or_false] at hy
  rcases hy with rfl | rfl <;> rfl
theorem own_le {w : World} {base e sz n : Nat} {v : Value} {xs : List Value} (h : w.ownsRow base e sz v n xs) : n ≤ 9223372036854775807 := by
  rcases h.2 with ⟨_, h0⟩ | ⟨g, cap, cur, hv, hb, hg, hn, hm, -⟩
  · omega
  · have : cap ≤ 9223372036854775807 := hm
    omega
/-- Lines that are laid out are written. -/
theorem writeN_calls (B s : Nat) (S : Sk) (L : Lg) (D : Dk) (xs : List Ln) (k u : Nat) (ys : List Ln) (M' : SM) (lv : Value) (w w1 : World) (h : KIn w B s S L D xs k) (hy : ∀ y ∈ ys, y.ok) (hp : play S.m ys = some M') (hl : ys.length ≤ u) (hu : u ≤ k) (hw : Below w.heap.size w w1) (hr : LnsRow w1 w.heap.size lv ys) :
    Calls Tryz.prog 26 #[.pointer (some ⟨s, 0, none⟩), lv] w1 fun e w' => e = .returned (.int .i64 0) ∧ KOut w w' B s S L D k M' u := by
  have hk := h.below hw
  have hsz := hw.size
  obtain ⟨vs, hr1, hr2⟩ := hr
  refine (write_calls B s S L D xs ys M' _ _ (fun j => w.heap.size ≤ j ∧ j < w1.heap.size) w1 ⟨hk.sd, hk.sg, hy, hp, by have := hk.cnt; omega, by (have h1 := hk.cap; have h2 : (ys.length : Int) ≤ k := by omega); (have h3 : ((xs.length : Int) + ys.length) ≤ xs.length + k := by omega); omega, hk.room, hk.vars, hk.b5⟩ (Rd.of_own hr1) (fun i v z hv hz => (hr2 i v z hv hz).itR (fun j h1 h2 => ⟨h1, h2⟩)) (fun j hj => ⟨hj.2, fun hf => by have := (h.sd.foot_lt hf).2; omega⟩) (fun a n c e _ => World.ownsRow.lt hr1 a.block (by rw [e]; rfl))).mono ?_
  rintro e w' ⟨rfl, S', L', D', h1, h2, h3, h4, h5, h6, h7, h8⟩
  have hB := hk.size
  refine ⟨rfl, S', L', D', xs ++ ys, h1.after hw h.sd, ⟨h1.is, h2, ?_, ?_, by rw [h6]; exact hk.room, ?_, hk.b5⟩, h3, h4, h5, h6, h7, h8⟩
  · have := hk.cnt; rw [List.length_append]; omega
  · have := hk.cap; rw [h6, List.length_append]; omega
  · exact hk.vars.below (h1.only.below hB (fun j hj hf => by have := (hk.sd.foot_lt hf).1; omega)) hk.b5

set_option maxHeartbeats 4000000 in
theorem prepare_calls (B s : Nat) (S : Sk) (L : Lg) (D : Dk) (xs : List Ln) (k nl : Nat) (g e : Int) (ov : Value) (out : List Pr) (w : World) (hnl : 2 ≤ nl ∧ (800 < out.length → 7 ≤ nl)) (h : KIn w B s S L D xs (k + nl + 1)) (hg : -9223372036854775808 ≤ g ∧ g ≤ 9223372036854775807)
    (ho : Rd w 2 ov out.length (flatF Pr.cells out)) (hoF : ∀ a n c, ov = .slice (some a) n c → 0 < out.length → ¬ skFoot s S L D a.block) (hks : ∀ p ∈ out, p.key.size ≤ 9223372036854775807) (hvs : ∀ p ∈ out, U32 p.val) :
    Calls Tryz.prog 11 #[.pointer (some ⟨s, 0, none⟩), .int .i64 g, .int .i64 e, ov] w fun r w' => r = .returned (.int .i64 (prE S.m g e out)) ∧ KOut w w' B s S L D (k + nl + 1) (prM S.m g e out) (1 + nl) := by
  have HH := Lib.hid (heard_calls B s S L D xs (k + nl) g e w h hg)
  have HE := Lib.hid (show prE S.m g e out = if hdE S.m g e ≠ 0 then hdE S.m g e else if out.any longK = true then 3 else if 4096 < out.length then 2 else if e ≠ (S.m.eps.length : Int) then 9 else 0 from rfl)
  have HM := Lib.hid (show prM S.m g e out = if hdE S.m g e = 0 ∧ out.any longK = false ∧ out.length ≤ 4096 ∧ e = (S.m.eps.length : Int) then { hdM S.m g e with gath := [], pairs := out, prep := true } else hdM S.m g e from rfl)
  have HS := Lib.hid (hdM_same S.m g e)
  have HO := Lib.hid ho
  have HOF := Lib.hid hoF
  have HKS := Lib.hid hks
  have HVS := Lib.hid hvs
  obtain ⟨oa, oc, rfl, hoc, hoc2⟩ := ho.slice
  generalize prE S.m g e out = er at *
  generalize prM S.m g e out = M' at *
  generalize hdE S.m g e = he at *
  generalize hdM S.m g e = M1 at *
  have HNL := Lib.hid hnl
  clear h ho hoF hks hvs hnl
  go_enter Tryz.func11, Tryz.ntmps11
  go_wp2_with fail
  refine HH.out.mono ?_
  rintro r w1 ⟨rfl, S1, L1, D1, xs1, hst1, hk1, hm1, he1⟩
  have HST1 := Lib.hid hst1
  have HK1 := Lib.hid hk1
  have HM1 := Lib.hid hm1
  have HE1 := Lib.hid he1
  have HO1 := Lib.hid (HO.out.only hst1.only (fun a n c e hn => HOF.out a n c e hn))
  have hel : S1.eps.length = S.m.eps.length := by
    have h1 := HS.out.1
    rw [← hm1] at h1
    have := congrArg List.length h1
    simpa [Sk.m] using this
  clear hst1 hk1 hm1 he1 HH
  by_cases h0 : he = 0
  · subst h0
    go_wp2_with fail
    refine (hasP_calls _ out w1 (fun args w => disk_enter Tryz.func23 (by kernel_rfl) rfl args w) HO1.out HKS.out).mono ?_
    rintro r w2 ⟨rfl, hb2⟩
    have HK2 := Lib.hid (HK1.out.below hb2)
    have HB2 := Lib.hid hb2
    have HO2 := Lib.hid (HO1.out.below hb2 (Nat.le_refl _))
    obtain ⟨-, -, -, c3, -⟩ := HK2.out.sd.sk.at
    obtain ⟨ea, ec, hev⟩ := own_slice HK2.out.sd.sk.erow
    rw [hev, hel] at c3
    have HEL := Lib.hid hel
    clear hb2 hev hel
    cases hlk : out.any longK with
    | true =>
      have HE2 := Lib.hid (show er = 3 by rw [HE.out, if_neg (by simp), if_pos hlk])
      have HM2 := Lib.hid (show M' = M1 by rw [HM.out, if_neg (by rw [hlk]; simp)])
      clear hlk
      go_wp2_with fail
      go_ret
      rw [HE2.out, HM2.out]
      exact ⟨rfl, KOut.trans (u := 1) (v := nl) HST1.out HE1.out (by rw [← HM1.out]; exact KOut.of_below HK1.out HB2.out)⟩
    | false =>
      by_cases hlong : 4096 < out.length
      · have d1 : decide ((4096 : Int) < (out.length : Int)) = true := decide_eq_true (by omega)
        have HE2 := Lib.hid (show er = 2 by rw [HE.out, if_neg (by simp), if_neg (by rw [hlk]; simp), if_pos hlong])
        have HM2 := Lib.hid (show M' = M1 by rw [HM.out, if_neg (by omega)])
        clear hlk
        go_wp2_with fail
        go_ret
        rw [HE2.out, HM2.out]
        exact ⟨rfl, KOut.trans (u := 1) (v := nl) HST1.out HE1.out (by rw [← HM1.out]; exact KOut.of_below HK1.out HB2.out)⟩
      · have d1 : decide ((4096 : Int) < (out.length : Int)) = false := decide_eq_false (by omega)
        by_cases heq : e = (S.m.eps.length : Int)
        · have d2 : (e != (S.m.eps.length : Int)) = false := by rw [heq]; simp
          have HE2 := Lib.hid (show er = 0 by rw [HE.out, if_neg (by simp), if_neg (by rw [hlk]; simp), if_neg hlong, if_neg (by simpa using heq)])
          have HM2 := Lib.hid (show M' = { M1 with gath := [], pairs := out, prep := true } by rw [HM.out, if_pos ⟨trivial, hlk, by omega, heq⟩])
          have HOK := Lib.hid (show ∀ p ∈ out, p.ok from fun p hp => ⟨by
            have : longK p = false := by
              cases hq : longK p with
              | false => rfl
              | true => rw [List.any_eq_true.2 ⟨p, hp, hq⟩] at hlk; cases hlk
            unfold longK at this
            have := of_decide_eq_false this
            omega, HVS.out p hp⟩)
          have HEQ := Lib.hid heq
          clear hlk heq
          have hlit0 := World.ownsRow_lit (base := w2.heap.size) (size := 1) (e := 68) w2 #[] 0 (Nat.le_refl _) (by unfold maxLen; omega) (by simp)
          have HL0 := Lib.hid (show LnsRow (w2.alloc (.cells #[] 68)) w2.heap.size (.slice (some ⟨w2.heap.size, 0, none⟩) 0 0) (stgs out 0) from ⟨[], by simpa [stgs] using hlit0, fun i v x hv => by simp at hv⟩)
          have HBL := Lib.hid (below_alloc w2 (.cells #[] 68))
          clear hlit0
          go_wp2_with fail
          go_loopw [10, 11] (fun lv iv wr => ∃ (j kk : Nat), j ≤ 6 ∧ (2 ≤ j → 800 * (j - 1) < out.length) ∧ kk = 800 * j ∧ iv = .int .i64 kk ∧ Below w2.heap.size w2 wr ∧ LnsRow wr w2.heap.size lv (stgs out j)) (fun _ iv _ => 5000 - (intOf iv).toNat)
          case atStart => exact ⟨0, 0, by omega, by omega, by omega, rfl, HBL.out, HL0.out⟩
          case round =>
            clear HL0 HBL
            obtain ⟨j, kk, hj, hj2, hkk, hiv, hbw, hls⟩ := hrel
            have HJ2 := Lib.hid hj2
            clear hj2
            have HBW := Lib.hid hbw
            have HLS := Lib.hid hls
            have HKK := Lib.hid hkk
            obtain ⟨la, lc, hlv⟩ := hls.slice
            rw [stgs_length] at hlv
            subst hiv hlv
            have hws := hbw.size
            have hk6 : kk ≤ 4800 := by omega
            clear hbw hls
            by_cases hj0 : j = 0
            · have z0 : ((kk : Int) == 0) = true := by rw [beq_iff_eq]; omega
              have hkl : kk ≤ out.length := by omega
              have HJ6 := Lib.hid (show j ≤ 5 ∧ (1 ≤ j → 800 * j < out.length) by omega)
              clear hkk hj0
              go_wp2_with fail
              refine (wint_calls 1 wr).mono ?_
              rintro r w3 ⟨rfl, hb3⟩
              have HB3 := Lib.hid hb3
              clear hb3
              go_wp2_with fail
              refine (wint_calls kk w3).mono ?_
              rintro r w4 ⟨rfl, hb4⟩
              have HB4 := Lib.hid (HB3.out.trans (hb4.mono HB3.out.size))
              clear hb4
              -- behind the two numbers: the chunk
              obtain ⟨wo, hwo⟩ : ∃ x, x = wr := ⟨_, rfl⟩
              subst hwo
              obtain ⟨CK, hCK⟩ : ∃ CK, CK = (out.drop kk).take 800 := ⟨_, rfl⟩
              have HCK := Lib.hid hCK
              have HC8 := Lib.hid (show CK.length ≤ 800 by rw [hCK, List.length_take]; omega)
              have HCO := Lib.hid (show ∀ p ∈ CK, p.ok from fun p hp => HOK.out p (by rw [hCK] at hp; exact List.mem_of_mem_drop (List.mem_of_mem_take hp)))
              have HPA0 := PrA.of HO2.out kk
              rw [← hCK] at HPA0
              have HMC := Lib.hid (show kk + CK.length ≤ out.length by rw [hCK, List.length_take, List.length_drop]; omega)
              clear hCK
              by_cases hoe : oc = kk
              · have HPA := Lib.hid (show PrA w2 oa CK from fun q hq => by have := HMC.out; omega)
                clear HPA0
                have hoe1 : oc ≤ kk := by omega
                have hoe2 : kk ≤ oc := by omega
                clear hoe
                go_upto_region 16 with fail
                clear hoe1 hoe2
                -- one chunk: oa the address, oc its capacity
                have HM5 := Lib.hid (show (min ((kk : Int) + 800) (out.length : Int)).toNat - kk = CK.length by rw [HCK.out]; simp only [List.length_take, List.length_drop]; omega)
                generalize hMM : (min ((kk : Int) + 800) (out.length : Int)).toNat - kk = m
                rw [hMM] at HM5
                have hmm1 : m ≤ CK.length := by have := HM5.out; omega
                have hmm2 : CK.length ≤ m := by have := HM5.out; omega
                clear hMM
                have hm800 : CK.length ≤ 800 := HC8.out
                have hmc : m ≤ oc := by have := HMC.out; omega
                have hcc : oc ≤ 9223372036854775807 := by omega
                have HLIT0 := Lib.hid (show (w4.alloc (.cells #[.int .i64 0, .int .i64 1, .string nos, .slice none 0 0, .int .i64 0, .int .i64 kk, .string nos, .slice none 0 0] 70)).ownsRow wo.heap.size 70 4 (.slice (some ⟨w4.heap.size, 0, none⟩) 2 2) (2 + 2 * 0) (flatF Iv.cells (hdV 1 kk ++ (CK.take 0).flatMap prV)) from
                  World.ownsRow_lit w4 #[.int .i64 0, .int .i64 1, .string nos, .slice none 0 0, .int .i64 0, .int .i64 kk, .string nos, .slice none 0 0] 2 HB4.out.size (by unfold maxLen; omega) rfl)
                have HB5 := Lib.hid (HB4.out.trans ((below_alloc w4 (.cells #[.int .i64 0, .int .i64 1, .string nos, .slice none 0 0, .int .i64 0, .int .i64 kk, .string nos, .slice none 0 0] 70)).mono HB4.out.size))
                go_loopw [12, 60] (fun l2 i2 wr => ∃ q : Nat, q ≤ CK.length ∧ i2 = .int .i64 q ∧ Below wo.heap.size wo wr ∧ wr.ownsRow wo.heap.size 70 4 l2 (2 + 2 * q) (flatF Iv.cells (hdV 1 kk ++ (CK.take q).flatMap prV))) (fun _ i2 _ => m - (intOf i2).toNat)
                case atStart => exact ⟨0, by omega, rfl, HB5.out, HLIT0.out⟩
                case round =>
                  clear HLIT0 HB5
                  obtain ⟨q, hq, hi2, hbq, hl2⟩ := hrel
                  obtain ⟨l2a, l2c, hl2v⟩ := own_slice hl2
                  subst hi2 hl2v
                  have HBQ := Lib.hid hbq
                  have HL2 := Lib.hid hl2
                  clear hl2
                  have hsq := hbq.size
                  by_cases hlt : q < CK.length
                  · obtain ⟨b, o, haa, p0, p1⟩ := (HPA.out.below (HBW.out.trans (hbq.mono hws)) (Nat.le_refl _)) q hlt
                    obtain ⟨p, hp⟩ : ∃ p, CK[q] = p := ⟨_, rfl⟩
                    rw [hp] at p0 p1
                    have hpo := HCO.out p (by rw [← hp]; exact List.getElem_mem hlt)
                    have HTK := Lib.hid (show CK.take (q + 1) = CK.take q ++ [p] by rw [List.take_succ_eq_append_getElem hlt, hp])
                    obtain ⟨pk, pv⟩ := p
                    have hpv : IntKind.i64.wrap pv = pv := i64w (by have := hpo.2.1; simp only at this; omega) (by have := hpo.2.2; simp only at this; omega)
                    have hqm : q < m := by omega
                    clear hbq hp
                    subst haa
                    simp only at p0 p1
                    have hal := below_alloc wr (.cells #[.string pk, .int .u32 pv] 39)
                    have HAL := Lib.hid hal
                    clear hal
                    go_upto_region 18 with fail
                    have p0 : (wr.alloc (.cells #[.string pk, .int .u32 pv] 39)).cell? ⟨wr.heap.size, 0, none⟩ = some (.string pk) := by simp only [World.cell?, heap_alloc_new]; rfl
                    have p1 : (wr.alloc (.cells #[.string pk, .int .u32 pv] 39)).cell? ⟨wr.heap.size, 1, none⟩ = some (.int .u32 pv) := by simp only [World.cell?, heap_alloc_new]; rfl
                    obtain ⟨bx, hbx⟩ : ∃ x, x = wr.heap.size := ⟨_, rfl⟩
                    obtain ⟨W5, hW5⟩ : ∃ W, W = wr.alloc (.cells #[.string pk, .int .u32 pv] 39) := ⟨_, rfl⟩
                    rw [← hW5] at HAL
                    rw [← hW5, ← hbx] at p0 p1 ⊢
                    have HBX := Lib.hid hbx
                    clear hW5 hbx
                    refine region_m [(0, false), (1, false), (2, false), (4, false), (5, false), (6, false), (3, true), (7, true), (8, true), (9, true), (10, false)] 11 (fun X => X.cell? ⟨bx, 0, none⟩ = some (.string pk) ∧ X.cell? ⟨bx, 1, none⟩ = some (.int .u32 pv)) (by kernel_rfl) (by kernel_rfl) ⟨p0, p1⟩ ?_
                    iterate 6
                      first
                      | (refine m_take (v := ?_) rfl rfl ?_ ?_
                         rotate_left
                         · intro W hW
                           go_simp
                           with_reducible rfl
                         simp only [Act.put, List.setIfInBounds_toArray, List.set_cons_zero, List.set_cons_succ])
                      | (refine m_skip rfl rfl ?_
                         simp only [Act.put, List.setIfInBounds_toArray, List.set_cons_zero, List.set_cons_succ])
                    refine m_loud rfl (fun K hK => ?_)
                    have HK := Lib.hid hK
                    clear hK
                    go_simp
                    refine (wtext_calls pk _).mono ?_
                    rintro r w6 ⟨rfl, hb6⟩
                    have hb6 : Below W5.heap.size W5 w6 := ((Below.refl W5.heap.size W5).drew).trans hb6
                    have HB6 := Lib.hid hb6
                    have p0 := cell_later hb6 p0
                    have p1 := cell_later hb6 p1
                    clear hb6
                    refine HK.out _ _ ⟨p0, p1⟩ ?_
                    clear HK
                    refine m_loud rfl (fun K hK => ?_)
                    have HK := Lib.hid hK
                    clear hK
                    go_simp
                    refine (wint_calls pv _).mono ?_
                    rintro r w7 ⟨rfl, hb7⟩
                    have HB7 := Lib.hid (HB6.out.trans (hb7.mono HB6.out.size))
                    have p0 := cell_later hb7 p0
                    have p1 := cell_later hb7 p1
                    clear hb7
                    refine HK.out _ _ ⟨p0, p1⟩ ?_
                    clear HK
                    refine m_loud rfl (fun K hK => ?_)
                    have HK := Lib.hid hK
                    clear hK
                    go_simp
                    obtain ⟨W8, hW8⟩ : ∃ W, W = w7.alloc (.cells #[.int .i64 1, .int .i64 0, .string pk, .slice none 0 0, .int .i64 0, .int .i64 pv, .string nos, .slice none 0 0] 70) := ⟨_, rfl⟩
                    have hal8 : Below w7.heap.size w7 W8 := by rw [hW8]; exact below_alloc w7 _
                    have HLIT := Lib.hid (show Rd W8 4 (.slice (some ⟨w7.heap.size, 0, none⟩) 2 2) 2 (flatF Iv.cells (prV ⟨pk, pv⟩)) by rw [hW8]; exact Rd.lit (w := w7) (cs := #[.int .i64 1, .int .i64 0, .string pk, .slice none 0 0, .int .i64 0, .int .i64 pv, .string nos, .slice none 0 0]) (e := 70) (n := 2) (sz := 4) rfl (by omega))
                    have HB8 := Lib.hid (HAL.out.trans ((HB7.out.trans (hal8.mono HB7.out.size)).mono HAL.out.size))
                    have H8 := Lib.hid (ownsRow_below HL2.out HB8.out (Nat.le_refl _))
                    have hbs : wo.heap.size ≤ W8.heap.size := by have := HB8.out.size; omega
                    rw [← hW8]
                    have p0 := cell_later hal8 p0
                    have p1 := cell_later hal8 p1
                    refine HK.out _ _ ⟨p0, p1⟩ ?_
                    clear HK
                    clear hW8 hal8
                    refine m_app tyItems H8.out HLIT.out (by simp [Value.oneCell', flatF, prV, Iv.cells]) (by omega) (by omega) (by omega) hbs rfl rfl rfl rfl rfl ?_
                    intro g gcap w9 ho9 hold9 hg9 hgc9
                    have HO9 := Lib.hid ho9
                    have HB9 := Lib.hid (((HBQ.out.trans (HB8.out.mono hsq))).grown hg9 hbs (fun j hj => (World.ownsRow.lt H8.out j hj).1))
                    have hon9 := Only.of_grown hg9
                    have hnx : ¬ (Value.slice l2a (2 + 2 * q) l2c).ownBlock = some bx := fun e => by
                      have := (World.ownsRow.lt HL2.out bx e).2
                      have := HBX.out
                      omega
                    have p0 := hon9.cell (b := bx) hnx p0
                    have p1 := hon9.cell (b := bx) hnx p1
                    refine ⟨⟨p0, p1⟩, ?_⟩
                    clear ho9 hold9 hg9 hgc9 hon9 hnx p0 p1
                    iterate 1
                      first
                      | (refine m_take (v := ?_) rfl rfl ?_ ?_
                         rotate_left
                         · intro W hW
                           go_simp
                           with_reducible rfl
                         simp only [Act.put, List.setIfInBounds_toArray, List.set_cons_zero, List.set_cons_succ])
                      | (refine m_skip rfl rfl ?_
                         simp only [Act.put, List.setIfInBounds_toArray, List.set_cons_zero, List.set_cons_succ])
                    refine m_done ?_
                    simp only [List.drop_succ_cons, List.drop_zero]
                    go_wp2_with fail
                    simp only [NP]
                    go_wp2_with fail
                    go_roundw
                    case rel =>
                      refine ⟨q + 1, by omega, by go_num, HB9.out, ?_⟩
                      rw [HTK.out, List.flatMap_append, ← List.append_assoc, flatF_append, show 2 + 2 * (q + 1) = 2 + 2 * q + 2 by omega]
                      simpa using HO9.out
                    case measure => simp [intOf]; omega
                  · have hqe : ¬ q < m := by omega
                    have hq2 : q = CK.length := by omega
                    have hN : 2 + 2 * q = 2 + 2 * CK.length := by omega
                    have hL2 := HL2.out
                    rw [hq2, List.take_length, ← hq2] at hL2
                    have HLN := Lib.hid (stg_row (j := j) HKK.out HCK.out hN hL2)
                    obtain ⟨vs, hv1, hv2⟩ := HLS.out
                    rw [stgs_length] at hv1
                    have hal := below_alloc wr (.cells #[.slice l2a (2 + 2 * q) l2c] 68)
                    have HV2 := Lib.hid hv2
                    have HV1 := Lib.hid (ownsRow_below (ownsRow_below hv1 hbq (Nat.le_refl _)) hal (Nat.le_refl _))
                    have HLIT := Lib.hid (show Rd (wr.alloc (.cells #[.slice l2a (2 + 2 * q) l2c] 68)) 1 (.slice (some ⟨wr.heap.size, 0, none⟩) 1 1) 1 [.slice l2a (2 + 2 * q) l2c] from Rd.lit (w := wr) (cs := #[.slice l2a (2 + 2 * q) l2c]) (e := 68) (n := 1) (sz := 1) rfl (by omega))
                    obtain ⟨W3, hW3⟩ : ∃ W, W = wr.alloc (.cells #[.slice l2a (2 + 2 * q) l2c] 68) := ⟨_, rfl⟩
                    rw [← hW3] at hal HV1 HLIT
                    have HW3 := Lib.hid hW3
                    have HAL := Lib.hid hal
                    have hbs : w2.heap.size ≤ W3.heap.size := by have := hal.size; omega
                    clear hW3 hal hv1 hv2 hL2 hN hq2 hbq
                    go_wp2_with (at_builtin; rw [← HW3.out]; go_loud (refine app_keep tyItemsL HV1.out HLIT.out (by simp [Value.oneCell']) (by omega) (by omega) (by omega) hbs rfl rfl rfl rfl ?_; intro g gcap w4 h2 h3 h4 h5; have H2 := Lib.hid h2; have H4 := Lib.hid h4; clear h2 h3 h4 h5))
                    go_roundw
                    case rel =>
                      have hb13 := HBQ.out.trans (HAL.out.mono hsq)
                      refine ⟨j + 1, kk + 800, by have := HKK.out; have := HJ6.out; omega, by have := HJ6.out; omega, by have := HKK.out; omega, by go_num, ((HBW.out.trans (hb13.mono hws))).grown H4.out hbs (fun i hi => (World.ownsRow.lt HV1.out i hi).1), ?_⟩
                      rw [stgs_succ]
                      exact LnsRow.push' (w0 := wr) (stgs_length _ _) HV1.out (fun i v x hv hx => (HV2.out i v x hv hx).below hb13 (Nat.le_refl _)) (HLN.out.below HAL.out (Nat.le_refl _)) hws H2.out H4.out
                    case measure => simp [intOf]; omega
              · skip
                obtain ⟨cc, hcq⟩ : ∃ cc, cc = oc - kk := ⟨_, rfl⟩
                have HPA := Lib.hid HPA0
                clear HPA0
                go_upto_region 16 with fail
                clear hoe
                rw [← hcq]
                generalize hAA : Option.map (fun x : Addr => x.add (kk * 2)) oa = aa
                rw [hAA] at HPA
                clear hAA
                have hcq2 : cc + kk = oc := by omega
                clear hcq
                -- one chunk: aa the address, cc its capacity
                have HM5 := Lib.hid (show (min ((kk : Int) + 800) (out.length : Int)).toNat - kk = CK.length by rw [HCK.out]; simp only [List.length_take, List.length_drop]; omega)
                generalize hMM : (min ((kk : Int) + 800) (out.length : Int)).toNat - kk = m
                rw [hMM] at HM5
                have hmm1 : m ≤ CK.length := by have := HM5.out; omega
                have hmm2 : CK.length ≤ m := by have := HM5.out; omega
                clear hMM
                have hm800 : CK.length ≤ 800 := HC8.out
                have hmc : m ≤ cc := by have := HMC.out; omega
                have hcc : cc ≤ 9223372036854775807 := by omega
                have HLIT0 := Lib.hid (show (w4.alloc (.cells #[.int .i64 0, .int .i64 1, .string nos, .slice none 0 0, .int .i64 0, .int .i64 kk, .string nos, .slice none 0 0] 70)).ownsRow wo.heap.size 70 4 (.slice (some ⟨w4.heap.size, 0, none⟩) 2 2) (2 + 2 * 0) (flatF Iv.cells (hdV 1 kk ++ (CK.take 0).flatMap prV)) from
                  World.ownsRow_lit w4 #[.int .i64 0, .int .i64 1, .string nos, .slice none 0 0, .int .i64 0, .int .i64 kk, .string nos, .slice none 0 0] 2 HB4.out.size (by unfold maxLen; omega) rfl)
                have HB5 := Lib.hid (HB4.out.trans ((below_alloc w4 (.cells #[.int .i64 0, .int .i64 1, .string nos, .slice none 0 0, .int .i64 0, .int .i64 kk, .string nos, .slice none 0 0] 70)).mono HB4.out.size))
                go_loopw [12, 60] (fun l2 i2 wr => ∃ q : Nat, q ≤ CK.length ∧ i2 = .int .i64 q ∧ Below wo.heap.size wo wr ∧ wr.ownsRow wo.heap.size 70 4 l2 (2 + 2 * q) (flatF Iv.cells (hdV 1 kk ++ (CK.take q).flatMap prV))) (fun _ i2 _ => m - (intOf i2).toNat)
                case atStart => exact ⟨0, by omega, rfl, HB5.out, HLIT0.out⟩
                case round =>
                  clear HLIT0 HB5
                  obtain ⟨q, hq, hi2, hbq, hl2⟩ := hrel
                  obtain ⟨l2a, l2c, hl2v⟩ := own_slice hl2
                  subst hi2 hl2v
                  have HBQ := Lib.hid hbq
                  have HL2 := Lib.hid hl2
                  clear hl2
                  have hsq := hbq.size
                  by_cases hlt : q < CK.length
                  · obtain ⟨b, o, haa, p0, p1⟩ := (HPA.out.below (HBW.out.trans (hbq.mono hws)) (Nat.le_refl _)) q hlt
                    obtain ⟨p, hp⟩ : ∃ p, CK[q] = p := ⟨_, rfl⟩
                    rw [hp] at p0 p1
                    have hpo := HCO.out p (by rw [← hp]; exact List.getElem_mem hlt)
                    have HTK := Lib.hid (show CK.take (q + 1) = CK.take q ++ [p] by rw [List.take_succ_eq_append_getElem hlt, hp])
                    obtain ⟨pk, pv⟩ := p
                    have hpv : IntKind.i64.wrap pv = pv := i64w (by have := hpo.2.1; simp only at this; omega) (by have := hpo.2.2; simp only at this; omega)
                    have hqm : q < m := by omega
                    clear hbq hp
                    subst haa
                    simp only at p0 p1
                    have hal := below_alloc wr (.cells #[.string pk, .int .u32 pv] 39)
                    have HAL := Lib.hid hal
                    clear hal
                    go_upto_region 18 with fail
                    have p0 : (wr.alloc (.cells #[.string pk, .int .u32 pv] 39)).cell? ⟨wr.heap.size, 0, none⟩ = some (.string pk) := by simp only [World.cell?, heap_alloc_new]; rfl
                    have p1 : (wr.alloc (.cells #[.string pk, .int .u32 pv] 39)).cell? ⟨wr.heap.size, 1, none⟩ = some (.int .u32 pv) := by simp only [World.cell?, heap_alloc_new]; rfl
                    obtain ⟨bx, hbx⟩ : ∃ x, x = wr.heap.size := ⟨_, rfl⟩
                    obtain ⟨W5, hW5⟩ : ∃ W, W = wr.alloc (.cells #[.string pk, .int .u32 pv] 39) := ⟨_, rfl⟩
                    rw [← hW5] at HAL
                    rw [← hW5, ← hbx] at p0 p1 ⊢
                    have HBX := Lib.hid hbx
                    clear hW5 hbx
                    refine region_m [(0, false), (1, false), (2, false), (4, false), (5, false), (6, false), (3, true), (7, true), (8, true), (9, true), (10, false)] 11 (fun X => X.cell? ⟨bx, 0, none⟩ = some (.string pk) ∧ X.cell? ⟨bx, 1, none⟩ = some (.int .u32 pv)) (by kernel_rfl) (by kernel_rfl) ⟨p0, p1⟩ ?_
                    iterate 6
                      first
                      | (refine m_take (v := ?_) rfl rfl ?_ ?_
                         rotate_left
                         · intro W hW
                           go_simp
                           with_reducible rfl
                         simp only [Act.put, List.setIfInBounds_toArray, List.set_cons_zero, List.set_cons_succ])
                      | (refine m_skip rfl rfl ?_
                         simp only [Act.put, List.setIfInBounds_toArray, List.set_cons_zero, List.set_cons_succ])
                    refine m_loud rfl (fun K hK => ?_)
                    have HK := Lib.hid hK
                    clear hK
                    go_simp
                    refine (wtext_calls pk _).mono ?_
                    rintro r w6 ⟨rfl, hb6⟩
                    have hb6 : Below W5.heap.size W5 w6 := ((Below.refl W5.heap.size W5).drew).trans hb6
                    have HB6 := Lib.hid hb6
                    have p0 := cell_later hb6 p0
                    have p1 := cell_later hb6 p1
                    clear hb6
                    refine HK.out _ _ ⟨p0, p1⟩ ?_
                    clear HK
                    refine m_loud rfl (fun K hK => ?_)
                    have HK := Lib.hid hK
                    clear hK
                    go_simp
                    refine (wint_calls pv _).mono ?_
                    rintro r w7 ⟨rfl, hb7⟩
                    have HB7 := Lib.hid (HB6.out.trans (hb7.mono HB6.out.size))
                    have p0 := cell_later hb7 p0
                    have p1 := cell_later hb7 p1
                    clear hb7
                    refine HK.out _ _ ⟨p0, p1⟩ ?_
                    clear HK
                    refine m_loud rfl (fun K hK => ?_)
                    have HK := Lib.hid hK
                    clear hK
                    go_simp
                    obtain ⟨W8, hW8⟩ : ∃ W, W = w7.alloc (.cells #[.int .i64 1, .int .i64 0, .string pk, .slice none 0 0, .int .i64 0, .int .i64 pv, .string nos, .slice none 0 0] 70) := ⟨_, rfl⟩
                    have hal8 : Below w7.heap.size w7 W8 := by rw [hW8]; exact below_alloc w7 _
                    have HLIT := Lib.hid (show Rd W8 4 (.slice (some ⟨w7.heap.size, 0, none⟩) 2 2) 2 (flatF Iv.cells (prV ⟨pk, pv⟩)) by rw [hW8]; exact Rd.lit (w := w7) (cs := #[.int .i64 1, .int .i64 0, .string pk, .slice none 0 0, .int .i64 0, .int .i64 pv, .string nos, .slice none 0 0]) (e := 70) (n := 2) (sz := 4) rfl (by omega))
                    have HB8 := Lib.hid (HAL.out.trans ((HB7.out.trans (hal8.mono HB7.out.size)).mono HAL.out.size))
                    have H8 := Lib.hid (ownsRow_below HL2.out HB8.out (Nat.le_refl _))
                    have hbs : wo.heap.size ≤ W8.heap.size := by have := HB8.out.size; omega
                    rw [← hW8]
                    have p0 := cell_later hal8 p0
                    have p1 := cell_later hal8 p1
                    refine HK.out _ _ ⟨p0, p1⟩ ?_
                    clear HK
                    clear hW8 hal8
                    refine m_app tyItems H8.out HLIT.out (by simp [Value.oneCell', flatF, prV, Iv.cells]) (by omega) (by omega) (by omega) hbs rfl rfl rfl rfl rfl ?_
                    intro g gcap w9 ho9 hold9 hg9 hgc9
                    have HO9 := Lib.hid ho9
                    have HB9 := Lib.hid (((HBQ.out.trans (HB8.out.mono hsq))).grown hg9 hbs (fun j hj => (World.ownsRow.lt H8.out j hj).1))
                    have hon9 := Only.of_grown hg9
                    have hnx : ¬ (Value.slice l2a (2 + 2 * q) l2c).ownBlock = some bx := fun e => by
                      have := (World.ownsRow.lt HL2.out bx e).2
                      have := HBX.out
                      omega
                    have p0 := hon9.cell (b := bx) hnx p0
                    have p1 := hon9.cell (b := bx) hnx p1
                    refine ⟨⟨p0, p1⟩, ?_⟩
                    clear ho9 hold9 hg9 hgc9 hon9 hnx p0 p1
                    iterate 1
                      first
                      | (refine m_take (v := ?_) rfl rfl ?_ ?_
                         rotate_left
                         · intro W hW
                           go_simp
                           with_reducible rfl
                         simp only [Act.put, List.setIfInBounds_toArray, List.set_cons_zero, List.set_cons_succ])
                      | (refine m_skip rfl rfl ?_
                         simp only [Act.put, List.setIfInBounds_toArray, List.set_cons_zero, List.set_cons_succ])
                    refine m_done ?_
                    simp only [List.drop_succ_cons, List.drop_zero]
                    go_wp2_with fail
                    simp only [NP]
                    go_wp2_with fail
                    go_roundw
                    case rel =>
                      refine ⟨q + 1, by omega, by go_num, HB9.out, ?_⟩
                      rw [HTK.out, List.flatMap_append, ← List.append_assoc, flatF_append, show 2 + 2 * (q + 1) = 2 + 2 * q + 2 by omega]
                      simpa using HO9.out
                    case measure => simp [intOf]; omega
                  · have hqe : ¬ q < m := by omega
                    have hq2 : q = CK.length := by omega
                    have hN : 2 + 2 * q = 2 + 2 * CK.length := by omega
                    have hL2 := HL2.out
                    rw [hq2, List.take_length, ← hq2] at hL2
                    have HLN := Lib.hid (stg_row (j := j) HKK.out HCK.out hN hL2)
                    obtain ⟨vs, hv1, hv2⟩ := HLS.out
                    rw [stgs_length] at hv1
                    have hal := below_alloc wr (.cells #[.slice l2a (2 + 2 * q) l2c] 68)
                    have HV2 := Lib.hid hv2
                    have HV1 := Lib.hid (ownsRow_below (ownsRow_below hv1 hbq (Nat.le_refl _)) hal (Nat.le_refl _))
                    have HLIT := Lib.hid (show Rd (wr.alloc (.cells #[.slice l2a (2 + 2 * q) l2c] 68)) 1 (.slice (some ⟨wr.heap.size, 0, none⟩) 1 1) 1 [.slice l2a (2 + 2 * q) l2c] from Rd.lit (w := wr) (cs := #[.slice l2a (2 + 2 * q) l2c]) (e := 68) (n := 1) (sz := 1) rfl (by omega))
                    obtain ⟨W3, hW3⟩ : ∃ W, W = wr.alloc (.cells #[.slice l2a (2 + 2 * q) l2c] 68) := ⟨_, rfl⟩
                    rw [← hW3] at hal HV1 HLIT
                    have HW3 := Lib.hid hW3
                    have HAL := Lib.hid hal
                    have hbs : w2.heap.size ≤ W3.heap.size := by have := hal.size; omega
                    clear hW3 hal hv1 hv2 hL2 hN hq2 hbq
                    go_wp2_with (at_builtin; rw [← HW3.out]; go_loud (refine app_keep tyItemsL HV1.out HLIT.out (by simp [Value.oneCell']) (by omega) (by omega) (by omega) hbs rfl rfl rfl rfl ?_; intro g gcap w4 h2 h3 h4 h5; have H2 := Lib.hid h2; have H4 := Lib.hid h4; clear h2 h3 h4 h5))
                    go_roundw
                    case rel =>
                      have hb13 := HBQ.out.trans (HAL.out.mono hsq)
                      refine ⟨j + 1, kk + 800, by have := HKK.out; have := HJ6.out; omega, by have := HJ6.out; omega, by have := HKK.out; omega, by go_num, ((HBW.out.trans (hb13.mono hws))).grown H4.out hbs (fun i hi => (World.ownsRow.lt HV1.out i hi).1), ?_⟩
                      rw [stgs_succ]
                      exact LnsRow.push' (w0 := wr) (stgs_length _ _) HV1.out (fun i v x hv hx => (HV2.out i v x hv hx).below hb13 (Nat.le_refl _)) (HLN.out.below HAL.out (Nat.le_refl _)) hws H2.out H4.out
                    case measure => simp [intOf]; omega
            · by_cases hlt0 : kk < out.length
              · have z0 : ((kk : Int) == 0) = false := by rw [beq_eq_false_iff_ne]; omega
                have z9 : decide ((kk : Int) < (out.length : Int)) = true := decide_eq_true (by omega)
                have hkl : kk ≤ out.length := by omega
                have HJ6 := Lib.hid (show j ≤ 5 ∧ (1 ≤ j → 800 * j < out.length) by omega)
                clear hkk
                go_wp2_with fail
                refine (wint_calls 1 wr).mono ?_
                rintro r w3 ⟨rfl, hb3⟩
                have HB3 := Lib.hid hb3
                clear hb3
                go_wp2_with fail
                refine (wint_calls kk w3).mono ?_
                rintro r w4 ⟨rfl, hb4⟩
                have HB4 := Lib.hid (HB3.out.trans (hb4.mono HB3.out.size))
                clear hb4
                -- behind the two numbers: the chunk
                obtain ⟨wo, hwo⟩ : ∃ x, x = wr := ⟨_, rfl⟩
                subst hwo
                obtain ⟨CK, hCK⟩ : ∃ CK, CK = (out.drop kk).take 800 := ⟨_, rfl⟩
                have HCK := Lib.hid hCK
                have HC8 := Lib.hid (show CK.length ≤ 800 by rw [hCK, List.length_take]; omega)
                have HCO := Lib.hid (show ∀ p ∈ CK, p.ok from fun p hp => HOK.out p (by rw [hCK] at hp; exact List.mem_of_mem_drop (List.mem_of_mem_take hp)))
                have HPA0 := PrA.of HO2.out kk
                rw [← hCK] at HPA0
                have HMC := Lib.hid (show kk + CK.length ≤ out.length by rw [hCK, List.length_take, List.length_drop]; omega)
                clear hCK
                have hoe : ¬ oc = kk := by omega
                obtain ⟨cc, hcq⟩ : ∃ cc, cc = oc - kk := ⟨_, rfl⟩
                have HPA := Lib.hid HPA0
                clear HPA0
                go_upto_region 16 with fail
                clear hoe
                rw [← hcq]
                generalize hAA : Option.map (fun x : Addr => x.add (kk * 2)) oa = aa
                rw [hAA] at HPA
                clear hAA
                have hcq2 : cc + kk = oc := by omega
                clear hcq
                -- one chunk: aa the address, cc its capacity
                have HM5 := Lib.hid (show (min ((kk : Int) + 800) (out.length : Int)).toNat - kk = CK.length by rw [HCK.out]; simp only [List.length_take, List.length_drop]; omega)
                generalize hMM : (min ((kk : Int) + 800) (out.length : Int)).toNat - kk = m
                rw [hMM] at HM5
                have hmm1 : m ≤ CK.length := by have := HM5.out; omega
                have hmm2 : CK.length ≤ m := by have := HM5.out; omega
                clear hMM
                have hm800 : CK.length ≤ 800 := HC8.out
                have hmc : m ≤ cc := by have := HMC.out; omega
                have hcc : cc ≤ 9223372036854775807 := by omega
                have HLIT0 := Lib.hid (show (w4.alloc (.cells #[.int .i64 0, .int .i64 1, .string nos, .slice none 0 0, .int .i64 0, .int .i64 kk, .string nos, .slice none 0 0] 70)).ownsRow wo.heap.size 70 4 (.slice (some ⟨w4.heap.size, 0, none⟩) 2 2) (2 + 2 * 0) (flatF Iv.cells (hdV 1 kk ++ (CK.take 0).flatMap prV)) from
                  World.ownsRow_lit w4 #[.int .i64 0, .int .i64 1, .string nos, .slice none 0 0, .int .i64 0, .int .i64 kk, .string nos, .slice none 0 0] 2 HB4.out.size (by unfold maxLen; omega) rfl)
                have HB5 := Lib.hid (HB4.out.trans ((below_alloc w4 (.cells #[.int .i64 0, .int .i64 1, .string nos, .slice none 0 0, .int .i64 0, .int .i64 kk, .string nos, .slice none 0 0] 70)).mono HB4.out.size))
                go_loopw [12, 60] (fun l2 i2 wr => ∃ q : Nat, q ≤ CK.length ∧ i2 = .int .i64 q ∧ Below wo.heap.size wo wr ∧ wr.ownsRow wo.heap.size 70 4 l2 (2 + 2 * q) (flatF Iv.cells (hdV 1 kk ++ (CK.take q).flatMap prV))) (fun _ i2 _ => m - (intOf i2).toNat)
                case atStart => exact ⟨0, by omega, rfl, HB5.out, HLIT0.out⟩
                case round =>
                  clear HLIT0 HB5
                  obtain ⟨q, hq, hi2, hbq, hl2⟩ := hrel
                  obtain ⟨l2a, l2c, hl2v⟩ := own_slice hl2
                  subst hi2 hl2v
                  have HBQ := Lib.hid hbq
                  have HL2 := Lib.hid hl2
                  clear hl2
                  have hsq := hbq.size
                  by_cases hlt : q < CK.length
                  · obtain ⟨b, o, haa, p0, p1⟩ := (HPA.out.below (HBW.out.trans (hbq.mono hws)) (Nat.le_refl _)) q hlt
                    obtain ⟨p, hp⟩ : ∃ p, CK[q] = p := ⟨_, rfl⟩
                    rw [hp] at p0 p1
                    have hpo := HCO.out p (by rw [← hp]; exact List.getElem_mem hlt)
                    have HTK := Lib.hid (show CK.take (q + 1) = CK.take q ++ [p] by rw [List.take_succ_eq_append_getElem hlt, hp])
                    obtain ⟨pk, pv⟩ := p
                    have hpv : IntKind.i64.wrap pv = pv := i64w (by have := hpo.2.1; simp only at this; omega) (by have := hpo.2.2; simp only at this; omega)
                    have hqm : q < m := by omega
                    clear hbq hp
                    subst haa
                    simp only at p0 p1
                    have hal := below_alloc wr (.cells #[.string pk, .int .u32 pv] 39)
                    have HAL := Lib.hid hal
                    clear hal
                    go_upto_region 18 with fail
                    have p0 : (wr.alloc (.cells #[.string pk, .int .u32 pv] 39)).cell? ⟨wr.heap.size, 0, none⟩ = some (.string pk) := by simp only [World.cell?, heap_alloc_new]; rfl
                    have p1 : (wr.alloc (.cells #[.string pk, .int .u32 pv] 39)).cell? ⟨wr.heap.size, 1, none⟩ = some (.int .u32 pv) := by simp only [World.cell?, heap_alloc_new]; rfl
                    obtain ⟨bx, hbx⟩ : ∃ x, x = wr.heap.size := ⟨_, rfl⟩
                    obtain ⟨W5, hW5⟩ : ∃ W, W = wr.alloc (.cells #[.string pk, .int .u32 pv] 39) := ⟨_, rfl⟩
                    rw [← hW5] at HAL
                    rw [← hW5, ← hbx] at p0 p1 ⊢
                    have HBX := Lib.hid hbx
                    clear hW5 hbx
                    refine region_m [(0, false), (1, false), (2, false), (4, false), (5, false), (6, false), (3, true), (7, true), (8, true), (9, true), (10, false)] 11 (fun X => X.cell? ⟨bx, 0, none⟩ = some (.string pk) ∧ X.cell? ⟨bx, 1, none⟩ = some (.int .u32 pv)) (by kernel_rfl) (by kernel_rfl) ⟨p0, p1⟩ ?_
                    iterate 6
                      first
                      | (refine m_take (v := ?_) rfl rfl ?_ ?_
                         rotate_left
                         · intro W hW
                           go_simp
                           with_reducible rfl
                         simp only [Act.put, List.setIfInBounds_toArray, List.set_cons_zero, List.set_cons_succ])
                      | (refine m_skip rfl rfl ?_
                         simp only [Act.put, List.setIfInBounds_toArray, List.set_cons_zero, List.set_cons_succ])
                    refine m_loud rfl (fun K hK => ?_)
                    have HK := Lib.hid hK
                    clear hK
                    go_simp
                    refine (wtext_calls pk _).mono ?_
                    rintro r w6 ⟨rfl, hb6⟩
                    have hb6 : Below W5.heap.size W5 w6 := ((Below.refl W5.heap.size W5).drew).trans hb6
                    have HB6 := Lib.hid hb6
                    have p0 := cell_later hb6 p0
                    have p1 := cell_later hb6 p1
                    clear hb6
                    refine HK.out _ _ ⟨p0, p1⟩ ?_
                    clear HK
                    refine m_loud rfl (fun K hK => ?_)
                    have HK := Lib.hid hK
                    clear hK
                    go_simp
                    refine (wint_calls pv _).mono ?_
                    rintro r w7 ⟨rfl, hb7⟩
                    have HB7 := Lib.hid (HB6.out.trans (hb7.mono HB6.out.size))
                    have p0 := cell_later hb7 p0
                    have p1 := cell_later hb7 p1
                    clear hb7
                    refine HK.out _ _ ⟨p0, p1⟩ ?_
                    clear HK
                    refine m_loud rfl (fun K hK => ?_)
                    have HK := Lib.hid hK
                    clear hK
                    go_simp
                    obtain ⟨W8, hW8⟩ : ∃ W, W = w7.alloc (.cells #[.int .i64 1, .int .i64 0, .string pk, .slice none 0 0, .int .i64 0, .int .i64 pv, .string nos, .slice none 0 0] 70) := ⟨_, rfl⟩
                    have hal8 : Below w7.heap.size w7 W8 := by rw [hW8]; exact below_alloc w7 _
                    have HLIT := Lib.hid (show Rd W8 4 (.slice (some ⟨w7.heap.size, 0, none⟩) 2 2) 2 (flatF Iv.cells (prV ⟨pk, pv⟩)) by rw [hW8]; exact Rd.lit (w := w7) (cs := #[.int .i64 1, .int .i64 0, .string pk, .slice none 0 0, .int .i64 0, .int .i64 pv, .string nos, .slice none 0 0]) (e := 70) (n := 2) (sz := 4) rfl (by omega))
                    have HB8 := Lib.hid (HAL.out.trans ((HB7.out.trans (hal8.mono HB7.out.size)).mono HAL.out.size))
                    have H8 := Lib.hid (ownsRow_below HL2.out HB8.out (Nat.le_refl _))
                    have hbs : wo.heap.size ≤ W8.heap.size := by have := HB8.out.size; omega
                    rw [← hW8]
                    have p0 := cell_later hal8 p0
                    have p1 := cell_later hal8 p1
                    refine HK.out _ _ ⟨p0, p1⟩ ?_
                    clear HK
                    clear hW8 hal8
                    refine m_app tyItems H8.out HLIT.out (by simp [Value.oneCell', flatF, prV, Iv.cells]) (by omega) (by omega) (by omega) hbs rfl rfl rfl rfl rfl ?_
                    intro g gcap w9 ho9 hold9 hg9 hgc9
                    have HO9 := Lib.hid ho9
                    have HB9 := Lib.hid (((HBQ.out.trans (HB8.out.mono hsq))).grown hg9 hbs (fun j hj => (World.ownsRow.lt H8.out j hj).1))
                    have hon9 := Only.of_grown hg9
                    have hnx : ¬ (Value.slice l2a (2 + 2 * q) l2c).ownBlock = some bx := fun e => by
                      have := (World.ownsRow.lt HL2.out bx e).2
                      have := HBX.out
                      omega
                    have p0 := hon9.cell (b := bx) hnx p0
                    have p1 := hon9.cell (b := bx) hnx p1
                    refine ⟨⟨p0, p1⟩, ?_⟩
                    clear ho9 hold9 hg9 hgc9 hon9 hnx p0 p1
                    iterate 1
                      first
                      | (refine m_take (v := ?_) rfl rfl ?_ ?_
                         rotate_left
                         · intro W hW
                           go_simp
                           with_reducible rfl
                         simp only [Act.put, List.setIfInBounds_toArray, List.set_cons_zero, List.set_cons_succ])
                      | (refine m_skip rfl rfl ?_
                         simp only [Act.put, List.setIfInBounds_toArray, List.set_cons_zero, List.set_cons_succ])
                    refine m_done ?_
                    simp only [List.drop_succ_cons, List.drop_zero]
                    go_wp2_with fail
                    simp only [NP]
                    go_wp2_with fail
                    go_roundw
                    case rel =>
                      refine ⟨q + 1, by omega, by go_num, HB9.out, ?_⟩
                      rw [HTK.out, List.flatMap_append, ← List.append_assoc, flatF_append, show 2 + 2 * (q + 1) = 2 + 2 * q + 2 by omega]
                      simpa using HO9.out
                    case measure => simp [intOf]; omega
                  · have hqe : ¬ q < m := by omega
                    have hq2 : q = CK.length := by omega
                    have hN : 2 + 2 * q = 2 + 2 * CK.length := by omega
                    have hL2 := HL2.out
                    rw [hq2, List.take_length, ← hq2] at hL2
                    have HLN := Lib.hid (stg_row (j := j) HKK.out HCK.out hN hL2)
                    obtain ⟨vs, hv1, hv2⟩ := HLS.out
                    rw [stgs_length] at hv1
                    have hal := below_alloc wr (.cells #[.slice l2a (2 + 2 * q) l2c] 68)
                    have HV2 := Lib.hid hv2
                    have HV1 := Lib.hid (ownsRow_below (ownsRow_below hv1 hbq (Nat.le_refl _)) hal (Nat.le_refl _))
                    have HLIT := Lib.hid (show Rd (wr.alloc (.cells #[.slice l2a (2 + 2 * q) l2c] 68)) 1 (.slice (some ⟨wr.heap.size, 0, none⟩) 1 1) 1 [.slice l2a (2 + 2 * q) l2c] from Rd.lit (w := wr) (cs := #[.slice l2a (2 + 2 * q) l2c]) (e := 68) (n := 1) (sz := 1) rfl (by omega))
                    obtain ⟨W3, hW3⟩ : ∃ W, W = wr.alloc (.cells #[.slice l2a (2 + 2 * q) l2c] 68) := ⟨_, rfl⟩
                    rw [← hW3] at hal HV1 HLIT
                    have HW3 := Lib.hid hW3
                    have HAL := Lib.hid hal
                    have hbs : w2.heap.size ≤ W3.heap.size := by have := hal.size; omega
                    clear hW3 hal hv1 hv2 hL2 hN hq2 hbq
                    go_wp2_with (at_builtin; rw [← HW3.out]; go_loud (refine app_keep tyItemsL HV1.out HLIT.out (by simp [Value.oneCell']) (by omega) (by omega) (by omega) hbs rfl rfl rfl rfl ?_; intro g gcap w4 h2 h3 h4 h5; have H2 := Lib.hid h2; have H4 := Lib.hid h4; clear h2 h3 h4 h5))
                    go_roundw
                    case rel =>
                      have hb13 := HBQ.out.trans (HAL.out.mono hsq)
                      refine ⟨j + 1, kk + 800, by have := HKK.out; have := HJ6.out; omega, by have := HJ6.out; omega, by have := HKK.out; omega, by go_num, ((HBW.out.trans (hb13.mono hws))).grown H4.out hbs (fun i hi => (World.ownsRow.lt HV1.out i hi).1), ?_⟩
                      rw [stgs_succ]
                      exact LnsRow.push' (w0 := wr) (stgs_length _ _) HV1.out (fun i v x hv hx => (HV2.out i v x hv hx).below hb13 (Nat.le_refl _)) (HLN.out.below HAL.out (Nat.le_refl _)) hws H2.out H4.out
                    case measure => simp [intOf]; omega
              · have z0 : ((kk : Int) == 0) = false := by rw [beq_eq_false_iff_ne]; omega
                have z9 : decide ((kk : Int) < (out.length : Int)) = false := decide_eq_false (by omega)
                obtain ⟨j', hj'⟩ : ∃ j', j = j' + 1 := ⟨j - 1, by omega⟩
                have HPL := Lib.hid (show play S1.m (stgs out j ++ [.ready S.m.eps.length]) = some M' from by
                  rw [play_app, hj', play_stgs, ← hj', ← hkk, List.take_of_length_le (by omega), HM2.out, ← HM1.out]
                  show (stp _ (.ready S.m.eps.length)).bind _ = _
                  simp only [stp]
                  have e : S1.m.eps.length = S1.eps.length := by simp [Sk.m]
                  rw [if_pos (by show S.m.eps.length = S1.m.eps.length; rw [e]; exact HEL.out.symm)]
                  rfl)
                have hne : S.m.eps.length ≤ 9223372036854775807 := by
                  have := own_le HK2.out.sd.sk.erow
                  have e : S1.eps.length = S.m.eps.length := HEL.out
                  omega
                clear hkk hj'
                go_wp2_with fail
                refine (wint_calls 2 wr).mono ?_
                rintro r w3 ⟨rfl, hb3⟩
                have HB3 := Lib.hid hb3
                clear hb3
                go_wp2_with fail
                refine (wint_calls e w3).mono ?_
                rintro r w4 ⟨rfl, hb4⟩
                have HB4 := Lib.hid (HB3.out.trans (hb4.mono HB3.out.size))
                have hal5 := below_alloc w4 (.cells #[.int .i64 0, .int .i64 2, .string nos, .slice none 0 0, .int .i64 0, .int .i64 e, .string nos, .slice none 0 0] 70)
                have hrow5 := World.ownsRow_lit (base := w4.heap.size) (size := 4) (e := 70) w4 #[.int .i64 0, .int .i64 2, .string nos, .slice none 0 0, .int .i64 0, .int .i64 e, .string nos, .slice none 0 0] 2 (Nat.le_refl _) (by unfold maxLen; omega) rfl
                obtain ⟨W5, hW5⟩ : ∃ W, W = w4.alloc (.cells #[.int .i64 0, .int .i64 2, .string nos, .slice none 0 0, .int .i64 0, .int .i64 e, .string nos, .slice none 0 0] 70) := ⟨_, rfl⟩
                have hs5 : W5.heap.size = w4.heap.size + 1 := by rw [hW5]; simp
                have hal6 := below_alloc W5 (.cells #[.slice (some ⟨w4.heap.size, 0, none⟩) 2 2] 68)
                have hlit6 : Rd (W5.alloc (.cells #[.slice (some ⟨w4.heap.size, 0, none⟩) 2 2] 68)) 1 (.slice (some ⟨W5.heap.size, 0, none⟩) 1 1) 1 [.slice (some ⟨w4.heap.size, 0, none⟩) 2 2] := Rd.lit (w := W5) (cs := #[.slice (some ⟨w4.heap.size, 0, none⟩) 2 2]) (e := 68) (n := 1) (sz := 1) rfl (by omega)
                obtain ⟨W6, hW6⟩ : ∃ W, W = W5.alloc (.cells #[.slice (some ⟨w4.heap.size, 0, none⟩) 2 2] 68) := ⟨_, rfl⟩
                rw [← hW5] at hal5 hrow5
                rw [← hW6] at hal6 hlit6
                rw [hs5] at hlit6
                have hs6 : W6.heap.size = w4.heap.size + 2 := by rw [hW6]; simp [hs5]
                have HB6 := Lib.hid (HB4.out.trans ((hal5.trans (hal6.mono (by omega))).mono HB4.out.size))
                have HRD := Lib.hid ((rdy_row HEQ.out hrow5).below hal6 (Nat.le_refl _))
                have HLIT := Lib.hid hlit6
                have HW6 := Lib.hid (hW6.trans (by rw [hW5]))
                have hbs : w2.heap.size ≤ W6.heap.size := by have := HB6.out.size; omega
                have hw24 : w2.heap.size ≤ w4.heap.size := by have := HB4.out.size; omega
                obtain ⟨vs, hv1, hv2⟩ := HLS.out
                rw [stgs_length] at hv1
                have HV2 := Lib.hid hv2
                have HV1 := Lib.hid (ownsRow_below hv1 HB6.out (Nat.le_refl _))
                clear hb4 hal5 hrow5 hW5 hs5 hal6 hlit6 hW6 hs6 hv1 hv2
                go_wp2_with (at_builtin; rw [← HW6.out]; go_loud (refine app_keep tyItemsL HV1.out HLIT.out (by simp [Value.oneCell']) (by omega) (by omega) (by omega) hbs rfl rfl rfl rfl ?_; intro g gcap w7 h2 h3 h4 h5; have H2 := Lib.hid h2; have H4 := Lib.hid h4; clear h2 h3 h4 h5))
                have HB7 := Lib.hid ((HBW.out.trans (HB6.out.mono hws)).grown H4.out hbs (fun i hi => (World.ownsRow.lt HV1.out i hi).1))
                have HLL := Lib.hid (LnsRow.push' (w0 := wr) (stgs_length out j) HV1.out (fun i v x hv hx => (HV2.out i v x hv hx).below HB6.out (Nat.le_refl _)) HRD.out hw24 H2.out H4.out)
                refine (writeN_calls B s S1 L1 D1 xs1 _ nl _ M' _ w2 w7 HK2.out (fun y hy => ?_) HPL.out (by (rw [List.length_append, stgs_length]; have h1 := HNL.out; have h2 := HJ2.out; simp; omega)) (by omega) HB7.out HLL.out).mono ?_
                · rcases List.mem_append.1 hy with hy | hy
                  · exact stgs_ok HOK.out (by omega) y hy
                  · rw [List.mem_singleton.1 hy]
                    exact ⟨⟨by show -9223372036854775808 ≤ (S.m.eps.length : Int); omega, by show (S.m.eps.length : Int) ≤ 9223372036854775807; omega⟩, trivial⟩
                rintro r w8 ⟨rfl, hout⟩
                have HOUT := Lib.hid hout
                clear hout
                go_wp2_with fail
                go_ret
                rw [HE2.out]
                exact ⟨rfl, KOut.trans (u := 1) (v := nl) HST1.out HE1.out (HOUT.out.after HK1.out.sd HB2.out)⟩
        · have d2 : (e != (S.m.eps.length : Int)) = true := by simpa using heq
          have HE2 := Lib.hid (show er = 9 by rw [HE.out, if_neg (by simp), if_neg (by rw [hlk]; simp), if_neg hlong, if_pos heq])
          have HM2 := Lib.hid (show M' = M1 by rw [HM.out, if_neg (fun h => heq h.2.2.2)])
          clear hlk
          go_wp2_with fail
          go_ret
          rw [HE2.out, HM2.out]
          exact ⟨rfl, KOut.trans (u := 1) (v := nl) HST1.out HE1.out (by rw [← HM1.out]; exact KOut.of_below HK1.out HB2.out)⟩
  · have d0 : (he != 0) = true := by simpa using h0
    have HE2 := Lib.hid (show er = he by rw [HE.out, if_pos h0])
    have HM2 := Lib.hid (show M' = M1 by rw [HM.out, if_neg (fun h => h0 h.1)])
    go_wp2_with fail
    go_ret
    rw [HE2.out, HM2.out]
    exact ⟨rfl, KOut.trans (u := 1) (v := nl) HST1.out HE1.out (by rw [← HM1.out]; exact KOut.of_below HK1.out (Below.refl _ _))⟩
end Go.Proofs.YthgmligpconhhaaGreatDoor
