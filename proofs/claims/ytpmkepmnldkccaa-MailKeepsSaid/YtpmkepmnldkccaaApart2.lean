/- The document's Apart: rows of their own, all written over and grown; nothing else is changed. -/
import Derived.Test.YtpmkepmnldkccaaBase
namespace Go.Proofs.Ytpmkepmnldkccaa
open Go.RowKit

theorem tyBytesL : STy Try.prog 40 30 (.slice none 0 0) 1 24 := .of Try.underlying40 (by kernel_rfl) rfl (by omega)

def OwnB (U : Nat → Value) (m j : Nat) : Prop := ∃ i, i < m ∧ (U i).ownBlock = some j
def bv (k : Nat) : Value := .int .u8 (k : Int)

/-- m rows of bytes in blocks of their own, and the list of them at ⟨B, O⟩. -/
structure Els (w : World) (base m B O : Nat) (U : Nat → Value) (N : Nat → Nat) (X : Nat → List Value) : Prop where
  own : ∀ k, k < m → w.ownsRow base 5 1 (U k) (N k) (X k)
  apart : ∀ j k, j < m → k < m → j ≠ k → (U j).ownBlock = (U k).ownBlock → (U j).ownBlock = none
  cl : ∀ k, k < m → w.cell? ⟨B, O + k, none⟩ = some (U k)
  nb : ∀ k, k < m → (U k).ownBlock ≠ some B

theorem Els.grown {w w' : World} {base m B O : Nat} {U : Nat → Value} {N : Nat → Nat} {X : Nat → List Value} (h : Els w base m B O U N X) (k : Nat) (row : Option Nat) (xs : List Value) (hg : w.grownBy w' row) (hB : row ≠ some B)
    (hk : ∀ j, j < m → j ≠ k → (U j).ownBlock = row → (U j).ownBlock = none) (hx : k < m → w'.ownsRow base 5 1 (U k) (N k) xs) : Els w' base m B O U N (fun j => if j = k then xs else X j) := by
  refine ⟨fun j hj => ?_, h.apart, fun j hj => ?_, h.nb⟩
  · by_cases hjk : j = k
    · subst hjk
      simp only [if_true]
      exact hx hj
    · simp only [if_neg hjk]
      refine (h.own j hj).kept hg ?_
      by_cases he : (U j).ownBlock = row
      · exact .inl (hk j hj hjk he)
      · exact .inr he
  · have hc := h.cl j hj
    rw [← hc]
    exact World.cell?_of_block (a := ⟨B, O + j, none⟩) (hg.block B (World.block_lt_of_cell? w _ hc) (fun e => hB e.symm))

theorem Els.form {w : World} {base m B O : Nat} {U : Nat → Value} {N : Nat → Nat} {X : Nat → List Value} (h : Els w base m B O U N X) (k : Nat) (hk : k < m) : ∃ a c, U k = .slice a (N k) c := by
  rcases (h.own k hk).2 with ⟨h1, h0⟩ | ⟨g, cap, cur, h1, -⟩
  · exact ⟨none, 0, by rw [h1, h0]⟩
  · exact ⟨_, _, h1⟩
theorem Els.formpos {w : World} {base m B O : Nat} {U : Nat → Value} {N : Nat → Nat} {X : Nat → List Value} (h : Els w base m B O U N X) (k : Nat) (hk : k < m) (hp : 0 < N k) : ∃ g c, U k = .slice (some ⟨g, 0, none⟩) (N k) c ∧ base ≤ g ∧ (X k).length = N k ∧ N k ≤ c ∧ c ≤ 9223372036854775807 := by
  have hl := (h.own k hk).1
  rcases (h.own k hk).2 with ⟨h1, h0⟩ | ⟨g, cap, cur, h1, hb, hg, hn, hm, -⟩
  · omega
  · exact ⟨g, cap, h1, hb, by omega, hn, by unfold maxLen at hm; omega⟩

theorem Els.congr {w : World} {base m B O : Nat} {U : Nat → Value} {N : Nat → Nat} {X Y : Nat → List Value} (h : Els w base m B O U N X) (hx : ∀ j, j < m → X j = Y j) : Els w base m B O U N Y :=
  ⟨fun k hk => by rw [← hx k hk]; exact h.own k hk, h.apart, h.cl, h.nb⟩
theorem Els.alloc {w : World} {base m B O : Nat} {U : Nat → Value} {N : Nat → Nat} {X : Nat → List Value} (h : Els w base m B O U N X) (o : Obj) : Els (w.alloc o) base m B O U N X :=
  ⟨fun k hk => (h.own k hk).alloc o, h.apart, fun k hk => (World.cell?_of_block (a := ⟨B, O + k, none⟩) (Below.heap_alloc w o B (World.block_lt_of_cell? w _ (h.cl k hk)))).trans (h.cl k hk), h.nb⟩

/-- The second loop: what stands while the rows grow. -/
structure Grow (w W : World) (base m B O H0 : Nat) (U : Nat → Value) (N : Nat → Nat) (k : Nat) (G : Nat → Value) (gv : Value) (S : Nat) : Prop where
  els : Els W base m B O U N (fun j => List.replicate (N j) (bv j))
  gs : ∀ j, j < k → W.ownsRow base 5 1 (G j) (N j + 5) (List.replicate (N j + 5) (bv j))
  gb : ∀ j, j < k → ∃ b, (G j).ownBlock = some b ∧ b < S ∧ ((U j).ownBlock = some b ∨ H0 ≤ b)
  gl : W.ownsRow base 30 1 gv k ((List.range k).map G)
  gvb : ∀ b, gv.ownBlock = some b → H0 ≤ b
  ub : ∀ j, j < m → ∀ b, (U j).ownBlock = some b → b < H0
  hB : B < H0
  hS : H0 ≤ S
  sz : S ≤ W.heap.size
  bl : Only (OwnB U m) w W
  hw : w.heap.size ≤ H0

structure Cur (W : World) (base : Nat) (U : Nat → Value) (N : Nat → Nat) (k S : Nat) (cur : Value) (q : Nat) : Prop where
  own : W.ownsRow base 5 1 cur (N k + q) (List.replicate (N k + q) (bv k))
  lies : (cur = U k ∧ q = 0) ∨ ∃ g c, cur = .slice (some ⟨g, 0, none⟩) (N k + q) c ∧ (U k = .slice (some ⟨g, 0, none⟩) (N k) c ∨ S ≤ g)

theorem Grow.alloc {w W : World} {base m B O H0 k S : Nat} {U : Nat → Value} {N : Nat → Nat} {G : Nat → Value} {gv : Value} (h : Grow w W base m B O H0 U N k G gv S) (_hb : base ≤ W.heap.size) (o : Obj) : Grow w (W.alloc o) base m B O H0 U N k G gv S :=
  ⟨h.els.alloc o, fun j hj => (h.gs j hj).alloc o, h.gb, h.gl.alloc o, h.gvb, h.ub, h.hB, h.hS, by have := h.sz; simp; omega, h.bl.alloc o, h.hw⟩
theorem Cur.alloc {W : World} {base k S q : Nat} {U : Nat → Value} {N : Nat → Nat} {cur : Value} (h : Cur W base U N k S cur q) (o : Obj) : Cur (W.alloc o) base U N k S cur q := ⟨h.own.alloc o, h.lies⟩

theorem Cur.block {w W : World} {base m B O H0 k S q : Nat} {U : Nat → Value} {N : Nat → Nat} {G : Nat → Value} {gv cur : Value} (_h : Grow w W base m B O H0 U N k G gv S) (hc : Cur W base U N k S cur q) : cur.ownBlock = (U k).ownBlock ∨ ∃ b, cur.ownBlock = some b ∧ S ≤ b := by
  rcases hc.lies with ⟨rfl, -⟩ | ⟨g, c, rfl, h1 | h1⟩
  · exact .inl rfl
  · left; rw [h1]; rfl
  · exact .inr ⟨g, rfl, h1⟩

theorem Grow.append {w W W' : World} {base m B O H0 k S q g cap : Nat} {U : Nat → Value} {N : Nat → Nat} {G : Nat → Value} {gv cur : Value} (h : Grow w W base m B O H0 U N k G gv S) (hc : Cur W base U N k S cur q) (hk : k < m) (_hbase : base ≤ W.heap.size)
    (h1 : W'.ownsRow base 5 1 (.slice (some ⟨g, 0, none⟩) (N k + q + 1) cap) (N k + q + 1) (List.replicate (N k + q) (bv k) ++ [bv k])) (h2 : W'.ownsRow base 5 1 cur (N k + q) (List.replicate (N k + q) (bv k)))
    (h3 : W.grownBy W' cur.ownBlock) (h4 : (∃ n c, cur = .slice (some ⟨g, 0, none⟩) n c ∧ cap = c) ∨ W.heap.size ≤ g) :
    Grow w W' base m B O H0 U N k G gv S ∧ Cur W' base U N k S (.slice (some ⟨g, 0, none⟩) (N k + q + 1) cap) (q + 1) := by
  have hblk := Cur.block h hc
  have hon : ∀ j, j < w.heap.size → cur.ownBlock = some j → OwnB U m j := fun j hj e => by
    rcases hblk with e4 | ⟨b', e4, hb⟩
    · exact ⟨k, hk, by rw [← e4]; exact e⟩
    · rw [e4] at e
      cases e
      have := h.hS
      have := h.hw
      omega
  have hUk : W'.ownsRow base 5 1 (U k) (N k) (List.replicate (N k) (bv k)) := by
    rcases hc.lies with ⟨rfl, rfl⟩ | ⟨g0, c, rfl, h5 | h5⟩
    · exact h2
    · rw [h5]
      refine own_prefix (m := q) (ys := List.replicate q (bv k)) ?_ (by simp)
      rw [List.replicate_append_replicate]
      exact h2
    · refine (h.els.own k hk).kept h3 ?_
      by_cases hn : (U k).ownBlock = none
      · exact .inl hn
      · right
        intro e
        have := h.ub k hk g0 e
        have := h.hS
        omega
  refine ⟨⟨?_, fun j hj => ?_, h.gb, own_otherT hc.own h.gl (by decide) h3, h.gvb, h.ub, h.hB, h.hS, Nat.le_trans h.sz h3.size, h.bl.trans (Only.of_grown h3) hon, h.hw⟩, ⟨?_, ?_⟩⟩
  · refine (h.els.grown k cur.ownBlock (List.replicate (N k) (bv k)) h3 ?_ (fun j hj hjk he => ?_) (fun _ => hUk)).congr (fun j hj => ?_)
    · rcases hblk with e | ⟨b, e, hb⟩
      · rw [e]; exact h.els.nb k hk
      · rw [e]; intro e2; cases e2; have := h.hB; have := h.hS; omega
    · rcases hblk with e | ⟨b, e, hb⟩
      · exact h.els.apart j k hj hk hjk (he.trans e)
      · rw [e] at he; have := h.ub j hj b he; have := h.hS; omega
    · by_cases hjk : j = k
      · subst hjk; simp
      · simp [hjk]
  · refine (h.gs j hj).kept h3 (.inr ?_)
    intro e
    obtain ⟨b, e1, e2, e3⟩ := h.gb j hj
    rw [e1] at e
    rcases hblk with e4 | ⟨b', e4, hb⟩
    · rw [e4] at e
      have hlt := h.ub k hk b e.symm
      rcases e3 with e3 | e3
      · have := h.els.apart j k (by omega) hk (by omega) (e3.trans e)
        rw [this] at e3; cases e3
      · omega
    · rw [e4] at e; cases e; omega
  · rw [show N k + (q + 1) = N k + q + 1 by omega, List.replicate_succ']
    exact h1
  · right
    refine ⟨g, cap, by rw [show N k + (q + 1) = N k + q + 1 by omega], ?_⟩
    rcases h4 with ⟨n, c, h5, rfl⟩ | h4
    · rcases hc.lies with ⟨h6, rfl⟩ | ⟨g0, c0, h6, h7⟩
      · left
        rw [← h6, h5]
        have := (World.ownsRow.lt hc.own g (by rw [h5]; rfl))
        rcases hc.own.2 with ⟨h8, -⟩ | ⟨g1, c1, cur1, h8, -⟩
        · rw [h5] at h8; cases h8
        · rw [h5] at h8; cases h8; rfl
      · rw [h5] at h6
        simp only [Value.slice.injEq, Option.some.injEq, Addr.mk.injEq, and_true] at h6
        obtain ⟨rfl, rfl, rfl⟩ := h6
        exact h7
    · right; exact Nat.le_trans h.sz h4

theorem Grow.push {w W W' : World} {base m B O H0 k S g cap : Nat} {U : Nat → Value} {N : Nat → Nat} {G : Nat → Value} {gv cur : Value} (h : Grow w W base m B O H0 U N k G gv S) (hc : Cur W base U N k S cur 5) (_hbase : base ≤ W.heap.size)
    (h1 : W'.ownsRow base 30 1 (.slice (some ⟨g, 0, none⟩) (k + 1) cap) (k + 1) ((List.range k).map G ++ [cur]))
    (h3 : W.grownBy W' gv.ownBlock) (h4 : (∃ n c, gv = .slice (some ⟨g, 0, none⟩) n c ∧ cap = c) ∨ W.heap.size ≤ g) :
    Grow w W' base m B O H0 U N (k + 1) (fun j => if j = k then cur else G j) (.slice (some ⟨g, 0, none⟩) (k + 1) cap) W'.heap.size := by
  have hH : H0 ≤ g := by
    rcases h4 with ⟨n, c, e, -⟩ | h4
    · exact h.gvb g (by rw [e]; rfl)
    · have := h.hS; have := h.sz; omega
  refine ⟨⟨fun j hj => own_otherT h.gl (h.els.own j hj) (by decide) h3, h.els.apart, fun j hj => ?_, h.els.nb⟩, fun j hj => ?_, fun j hj => ?_, ?_, fun b hb => ?_, h.ub, h.hB, ?_, Nat.le_refl _, h.bl.trans (Only.of_grown h3) (fun j hj e => by have h5 := h.gvb j e; have h6 := h.hw; omega), h.hw⟩
  · have hcl := h.els.cl j hj
    refine (World.cell?_of_block (a := ⟨B, O + j, none⟩) (h3.block B (World.block_lt_of_cell? W _ hcl) (fun e => ?_))).trans hcl
    have := h.gvb B e.symm
    have := h.hB
    omega
  · by_cases hjk : j = k
    · subst hjk; simp only [if_true]; exact own_otherT h.gl hc.own (by decide) h3
    · simp only [if_neg hjk]; exact own_otherT h.gl (h.gs j (by omega)) (by decide) h3
  · by_cases hjk : j = k
    · subst hjk
      simp only [if_true]
      rcases hc.lies with ⟨-, h0⟩ | ⟨g', c', e, h5⟩
      · omega
      · have hlt := (World.ownsRow.lt hc.own g' (by rw [e]; rfl)).2
        refine ⟨g', by rw [e]; rfl, Nat.lt_of_lt_of_le hlt h3.size, ?_⟩
        rcases h5 with h5 | h5
        · left; rw [h5]; rfl
        · right; exact Nat.le_trans h.hS h5
    · simp only [if_neg hjk]
      obtain ⟨b, e1, e2, e3⟩ := h.gb j (by omega)
      exact ⟨b, e1, Nat.lt_of_lt_of_le e2 (Nat.le_trans h.sz h3.size), e3⟩
  · have e : (List.range (k + 1)).map (fun j => if j = k then cur else G j) = (List.range k).map G ++ [cur] := by
      rw [List.range_succ, List.map_append]
      congr 1
      · apply List.map_congr_left
        intro j hj
        rw [if_neg (by have := List.mem_range.1 hj; omega)]
      · simp
    rw [e]; exact h1
  · simp [Value.ownBlock] at hb; subst hb; exact hH
  · exact Nat.le_trans h.hS (Nat.le_trans h.sz h3.size)

set_option maxHeartbeats 1000000 in
set_option maxRecDepth 100000 in
theorem apart_calls (base m B O cap : Nat) (U : Nat → Value) (N : Nat → Nat) (X : Nat → List Value) (w : World) (hE : Els w base m B O U N X) (hm0 : 0 < m) (hm : m ≤ 255) (hcap : m ≤ cap ∧ cap ≤ 9223372036854775807) (hN : ∀ k, k < m → N k ≤ 140737488351232) (hbase : base ≤ w.heap.size) :
    Calls Try.prog 25 #[.slice (some ⟨B, O, none⟩) m cap] w fun e w' => e = .returned (.bool true) ∧ Only (OwnB U m) w w' := by
  obtain ⟨hc1, hc2⟩ := hcap
  have HE := Lib.hid hE
  have HN := Lib.hid hN
  clear hE hN
  go_enter Try.func25, Try.ntmps25
  go_wp2_with fail
  go_loopw [3] (fun kv wr => ∃ (k : Nat) (X' : Nat → List Value), k ≤ m ∧ kv = .int .i64 k ∧ Els wr base m B O U N X' ∧ (∀ j, j < k → X' j = List.replicate (N j) (bv j)) ∧ Only (OwnB U m) w wr) (fun kv _ => m - (intOf kv).toNat)
  case atStart => exact ⟨0, X, by omega, rfl, HE.out, fun j hj => by omega, Only.refl _ _⟩
  case round =>
    obtain ⟨k, X', hk, rfl, he, hd, hb⟩ := hrel
    have HE1 := Lib.hid he
    have HD1 := Lib.hid hd
    have HB1 := Lib.hid hb
    clear he hd hb
    by_cases hlt : k < m
    · have hNk := HN.out k hlt
      go_wp2_with fail
      go_loopw [4] (fun iv wq => ∃ (i : Nat) (Y : Nat → List Value), i ≤ N k ∧ iv = .int .i64 i ∧ Els wq base m B O U N Y ∧ (∀ j, j < k → Y j = List.replicate (N j) (bv j)) ∧ (Y k).take i = List.replicate i (bv k) ∧ Only (OwnB U m) w wq) (fun iv _ => N k - (intOf iv).toNat)
      case atStart => exact ⟨0, X', by omega, rfl, HE1.out, HD1.out, rfl, HB1.out⟩
      case round =>
        obtain ⟨i, Y, hi, rfl, he, hd, hp, hb⟩ := hrel
        have hcl := he.cl k hlt
        have hlen := (he.own k hlt).1
        rw [Nat.mul_one] at hlen
        by_cases hin : i < N k
        · obtain ⟨g, c, hU, hg, hXl, hnc, hcm⟩ := he.formpos k hlt (by omega)
          have hown := he.own k hlt
          rw [hU] at hown hcl
          have hfr := World.ownsRow.frozenAt hown i
          obtain ⟨u0, hu0⟩ : ∃ u0, wr.cell? ⟨g, i, none⟩ = some u0 := by
            have := World.ownsRow.cells hown rfl i (Y k)[i] (List.getElem?_eq_getElem (by omega))
            rw [add_off, Nat.zero_add] at this
            exact ⟨_, this⟩
          have hst := World.ownsRow.stored hown i (bv k)
          have hnew := he.grown k (some g) ((Y k).set i (bv k)) hst.2 (by have := he.nb k hlt; rw [hU] at this; exact this) (fun j hj hjk hjg => he.apart j k hj hlt hjk (by rw [hjg, hU]; rfl)) (fun _ => by rw [hU]; exact hst.1)
          have hb2 := hb.trans (Only.of_grown hst.2) (fun j hj e => ⟨k, hlt, by rw [hU]; exact e⟩)
          have HNEW := Lib.hid hnew
          have HB2 := Lib.hid hb2
          have HD := Lib.hid hd
          have HP := Lib.hid hp
          have HYL := Lib.hid hXl
          clear hst hnew hb2 hd hp hown he hlen hb hXl
          go_wp2_with fail
          go_roundw
          case rel =>
            refine ⟨i + 1, _, by omega, by go_num, HNEW.out, fun j hj => ?_, ?_, HB2.out⟩
            · rw [if_neg (by omega)]; exact HD.out j hj
            · simp only [if_true]
              have h := HP.out
              have hl := HYL.out
              rw [List.take_succ_eq_append_getElem (by simp; omega), List.take_set_of_le (Nat.le_refl _), h, List.getElem_set_self, List.replicate_succ']
          case measure => simp [intOf]; omega
        · obtain rfl : i = N k := by omega
          have hYk : Y k = List.replicate (N k) (bv k) := by rw [← hp, List.take_of_length_le (by omega)]
          obtain ⟨ua, uc, hU⟩ := he.form k hlt
          rw [hU] at hcl
          have HEN := Lib.hid he
          have HD := Lib.hid hd
          have HYK := Lib.hid hYk
          have HB2 := Lib.hid hb
          clear he hd hp hYk hb hlen
          go_wp2_with fail
          go_roundw
          case rel =>
            refine ⟨k + 1, Y, by omega, by go_num, HEN.out, fun j hj => ?_, HB2.out⟩
            by_cases hjk : j = k
            · subst hjk; exact HYK.out
            · exact HD.out j (by omega)
          case measure => simp [intOf]; omega
    · have hkm : m = k := by omega
      have hX : ∀ j, j < m → X' j = List.replicate (N j) (bv j) := fun j hj => HD1.out j (by omega)
      have hub : ∀ j, j < m → ∀ b, (U j).ownBlock = some b → b < wr.heap.size := fun j hj b hb => (World.ownsRow.lt (HE1.out.own j hj) b hb).2
      have HEL := Lib.hid (HE1.out.congr hX)
      have HUB := Lib.hid hub
      clear hX hub HD1 HE1 hlt hk
      obtain ⟨H0, hH0⟩ : ∃ H0, H0 = wr.heap.size := ⟨_, rfl⟩
      have HH0 := Lib.hid hH0
      clear hH0
      have hB0 : 0 < m → B < H0 := fun h => by rw [HH0.out]; exact World.block_lt_of_cell? wr _ (HEL.out.cl 0 h)
      subst hkm
      · have hbs : base ≤ H0 := by rw [HH0.out]; exact Nat.le_trans hbase HB1.out.size
        have hB1 := hB0 (by omega)
        clear hB0
        go_wp2_with fail
        go_loopw [5, 6] (fun gv kv W => ∃ (k : Nat) (G : Nat → Value), k ≤ m ∧ kv = .int .i64 k ∧ Grow w W base m B O H0 U N k G gv W.heap.size) (fun _ kv _ => m - (intOf kv).toNat)
        case atStart => exact ⟨0, fun _ => undef, by omega, rfl, ⟨HEL.out, fun j hj => by omega, fun j hj => by omega, World.ownsRow_nil _ _ _ _, fun b hb => by simp [Value.ownBlock] at hb, fun j hj b hb => by rw [HH0.out]; exact HUB.out j hj b hb, hB1, by rw [HH0.out]; exact Nat.le_refl _, Nat.le_refl _, HB1.out, by rw [HH0.out]; exact HB1.out.size⟩⟩
        case round =>
          obtain ⟨k, G, hk, rfl, hg⟩ := hrel
          have HG := Lib.hid hg
          clear hg
          by_cases hlt : k < m
          · have hcl := HG.out.els.cl k hlt
            have hNk := HN.out k hlt
            have hszb : H0 ≤ wr.heap.size := HG.out.hS
            have hcur0 : Cur wr base U N k wr.heap.size (U k) 0 := ⟨by simpa using HG.out.els.own k hlt, .inl ⟨rfl, rfl⟩⟩
            have HC0 := Lib.hid hcur0
            clear hcur0
            go_wp2_with fail
            obtain ⟨S, hS⟩ : ∃ S, S = wr.heap.size := ⟨_, rfl⟩
            have HSS := Lib.hid hS
            clear hS
            go_loopw [7, 8] (fun cur nv W => ∃ q : Nat, q ≤ 5 ∧ nv = .int .i64 q ∧ Grow w W base m B O H0 U N k G u5 S ∧ Cur W base U N k S cur q) (fun _ nv _ => 5 - (intOf nv).toNat)
            case atStart => exact ⟨0, by omega, rfl, by rw [HSS.out]; exact HG.out, by rw [HSS.out]; exact HC0.out⟩
            case round =>
              obtain ⟨q, hq, rfl, hg, hc⟩ := hrel
              have hbW : base ≤ wr.heap.size := by have := hg.sz; have := hg.hS; omega
              by_cases hq5 : q < 5
              · have HG1 := Lib.hid (hg.alloc hbW (.cells #[.int .u8 (k : Int)] 5))
                have HC1 := Lib.hid (hc.alloc (.cells #[.int .u8 (k : Int)] 5))
                have hbW1 : base ≤ (wr.alloc (.cells #[.int .u8 (k : Int)] 5)).heap.size := by simp; omega
                clear hg hc
                go_wp2_with (at_builtin; refine app_keep tyBytes HC1.out.own (Rd.lit (n := 1) rfl (by omega)) (by simp [Value.oneCell']) (by omega) (by omega) (by omega) hbW1 rfl rfl rfl rfl ?_; intro g c W' h1 h2 h3 h4; have hap := Grow.append HG1.out HC1.out hlt hbW1 h1 h2 h3 h4; have HAP := Lib.hid hap; clear h1 h2 h3 h4 hap)
                go_roundw
                case rel => exact ⟨q + 1, by omega, by go_num, HAP.out.1, HAP.out.2⟩
                case measure => simp [intOf]; omega
              · obtain rfl : q = 5 := by omega
                obtain ⟨cg, cc, hcur⟩ : ∃ g c, u7 = .slice (some ⟨g, 0, none⟩) (N k + 5) c := by
                  rcases hc.lies with ⟨-, h0⟩ | ⟨g, c, e, -⟩
                  · omega
                  · exact ⟨g, c, e⟩
                subst hcur
                have HG1 := Lib.hid (hg.alloc hbW (.cells #[.slice (some ⟨cg, 0, none⟩) (N k + 5) cc] 30))
                have HC1 := Lib.hid (hc.alloc (.cells #[.slice (some ⟨cg, 0, none⟩) (N k + 5) cc] 30))
                have hbW1 : base ≤ (wr.alloc (.cells #[.slice (some ⟨cg, 0, none⟩) (N k + 5) cc] 30)).heap.size := by simp; omega
                clear hg hc
                go_wp2_with (at_builtin; refine app_keep tyBytesL HG1.out.gl (Rd.lit (n := 1) rfl (by omega)) (by simp [Value.oneCell']) (by omega) (by omega) (by omega) hbW1 rfl rfl rfl rfl ?_; intro g c W' h1 h2 h3 h4; have hap := Grow.push HG1.out HC1.out hbW1 h1 h3 h4; have HAP := Lib.hid hap; clear h1 h2 h3 h4 hap)
                go_roundw
                case rel => exact ⟨k + 1, _, by omega, by go_num, HAP.out⟩
                case measure => simp [intOf]; omega
          · have hkm : m = k := by omega
            subst hkm
            obtain ⟨gg, gcap, hgv, -, -⟩ := HG.out.gl.form hm0
            subst hgv
            go_wp2_with fail
            go_loopw [9] (fun kv W => ∃ k : Nat, k ≤ m ∧ kv = .int .i64 k ∧ W = wr) (fun kv _ => m - (intOf kv).toNat)
            case atStart => exact ⟨0, by omega, rfl, rfl⟩
            case round =>
              obtain ⟨k, hk2, rfl, rfl⟩ := hrel
              by_cases hlt2 : k < m
              · have hgc := World.ownsRow.cells HG.out.gl rfl k (G k) (by simp [hlt2])
                rw [add_off, Nat.zero_add] at hgc
                have hcl := HG.out.els.cl k hlt2
                have hgo := HG.out.gs k hlt2
                have huo := HG.out.els.own k hlt2
                obtain ⟨kg, kc, hG, -, -⟩ := hgo.form (by omega)
                rw [hG] at hgc hgo
                have hNk := HN.out k hlt2
                go_wp2_with fail
                go_loopw [10] (fun iv W => ∃ i : Nat, i ≤ N k + 5 ∧ iv = .int .i64 i ∧ W = wr) (fun iv _ => N k + 5 - (intOf iv).toNat)
                case atStart => exact ⟨0, by omega, rfl, rfl⟩
                case round =>
                  obtain ⟨i, hi, rfl, rfl⟩ := hrel
                  by_cases hin : i < N k + 5
                  · have hci := World.ownsRow.cells hgo rfl i (bv k) (by simp [hin])
                    rw [add_off, Nat.zero_add] at hci
                    unfold bv at hci
                    by_cases hin2 : i < N k
                    · obtain ⟨ug, uc, hU, -⟩ := HG.out.els.formpos k hlt2 (by omega)
                      rw [hU] at hcl huo
                      have hui := World.ownsRow.cells huo rfl i (bv k) (by simp [hin2])
                      rw [add_off, Nat.zero_add] at hui
                      unfold bv at hui
                      clear hgo huo
                      go_wp2_with fail
                      go_roundw
                      case rel => exact ⟨i + 1, by omega, by go_num, trivial⟩
                      case measure => simp [intOf]; omega
                    · obtain ⟨ua, uc, hU⟩ := HG.out.els.form k hlt2
                      rw [hU] at hcl
                      clear hgo huo
                      go_wp2_with fail
                      go_roundw
                      case rel => exact ⟨i + 1, by omega, by go_num, trivial⟩
                      case measure => simp [intOf]; omega
                  · clear hgo huo
                    go_wp2_with fail
                    go_roundw
                    case rel => exact ⟨k + 1, by omega, by go_num, trivial⟩
                    case measure => simp [intOf]; omega
              · go_wp2_with fail
                go_ret
                exact ⟨rfl, HG.out.bl⟩
end Go.Proofs.Ytpmkepmnldkccaa
