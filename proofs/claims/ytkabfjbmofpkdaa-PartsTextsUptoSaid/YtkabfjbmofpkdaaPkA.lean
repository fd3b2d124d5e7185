/- Walks and plain laws of the chapter, laid together; each part says what it proves. -/
import Derived.WalkKit
import Derived.WalkSpells
import Derived.WalkLawsBesides
import Derived.Lib.Hide
import Derived.RangeFuncNested
import Derived.RangeFuncBound
import Derived.RangeFuncCalls
import Derived.RangeFuncLeaves
import Derived.Shelf.Abstract
import Derived.Shelf.RegionOpen
import Derived.OwnWalkIn
import Derived.TacticsInMore
import Derived.LoopNIn
import Derived.LoopIn
import Derived.StillTail
import Derived.OrdersHeld
import Derived.Deep.AppendLies
import Derived.Test.YtkabfjbmofpkdaaRows
import Derived.ProofKit
import Derived.OpenShut
import Derived.ShutString
import Derived.ChangeOld
import Derived.Deep.CondSized
import Derived.Deep.Slices
import Derived.SizedLaws
import Derived.Lib.AppendZerosOnto
import Derived.Lib.Overlaps
/- Small lemmas on the heap that the walks use; no program in sight. -/
namespace Go.Proofs.Ytkabfjbmofpkdaa
open Go.RowKit

theorem cell_set_same {w : World} {a : Addr} {u : Value} (v : Value) (h : w.cell? a = some u) : (w.setCell a v).cell? a = some v := World.cell?_setCell_same _ _ _ h
theorem cell_set_off {w : World} {b o p : Nat} (v : Value) (h : p ≠ o) : (w.setCell ⟨b, o, none⟩ v).cell? ⟨b, p, none⟩ = w.cell? ⟨b, p, none⟩ := World.cell?_setCell_other _ _ _ _ (by intro e; cases e; exact h rfl)
theorem cell_set_block {w : World} {b c o p : Nat} (v : Value) (h : c ≠ b) : (w.setCell ⟨b, o, none⟩ v).cell? ⟨c, p, none⟩ = w.cell? ⟨c, p, none⟩ := World.cell?_setCell_other _ _ _ _ (by intro e; cases e; exact h rfl)
theorem frozen_set {w : World} {a : Addr} {q : Addr} (v : Value) : (w.setCell a v).frozen? q = w.frozen? q := World.frozen?_setCell ..

/-- A byte of a row, as a number. -/
def bt (xs : List UInt8) (i : Nat) : Int := ((xs.getD i 0).toNat : Int)
theorem bt_lo (xs : List UInt8) (i : Nat) : 0 ≤ bt xs i := by unfold bt; omega
theorem bt_hi (xs : List UInt8) (i : Nat) : bt xs i < 256 := by unfold bt; have := (xs.getD i 0).toNat_lt; omega

/-- The value v is a slice of bytes that reads xs in w. -/
def Bytes (w : World) (v : Value) (xs : List UInt8) : Prop :=
  ∃ (a : Option Addr) (cap : Nat), v = .slice a xs.length cap ∧ xs.length ≤ cap ∧ cap ≤ 9223372036854775807 ∧
    (cap = 0 ∨ ∃ b off, a = some ⟨b, off, none⟩ ∧ ∀ i, i < xs.length → w.cell? ⟨b, off + i, none⟩ = some (.int .u8 (bt xs i)))

theorem Bytes.below {w w' : World} {v : Value} {xs : List UInt8} (h : Bytes w v xs) {B : Nat} (hb : Below B w w') (hB : w.heap.size ≤ B) : Bytes w' v xs := by
  obtain ⟨a, cap, hv, h1, h2, h3⟩ := h
  refine ⟨a, cap, hv, h1, h2, ?_⟩
  rcases h3 with h3 | ⟨b, off, ha, hc⟩
  · exact .inl h3
  · exact .inr ⟨b, off, ha, fun i hi => (hb.cell (p := ⟨b, off + i, none⟩) (Nat.lt_of_lt_of_le (World.block_lt_of_cell? w _ (hc i hi)) hB)).trans (hc i hi)⟩
theorem Bytes.nil (w : World) : Bytes w (.slice none 0 0) [] := ⟨none, 0, rfl, Nat.le_refl _, by omega, .inl rfl⟩

end Go.Proofs.Ytkabfjbmofpkdaa

/- A range over a function, at the wide fence: one law for the caller, over whatever contract of the iterator; no program in sight. -/
namespace Go.Proofs.Ytkabfjbmofpkdaa
open Go.RowKit

@[go_sem] theorem wide_fn (f : FuncId) : Fence.wide.fn f = True := rfl
@[go_sem] theorem wide_depth : Fence.wide.depth = none := rfl
@[go_sem] theorem u32_signed : IntKind.u32.signed = false := rfl
@[go_sem] theorem u8_signed : IntKind.u8.signed = false := rfl
@[go_sem] theorem u64_signed : IntKind.u64.signed = false := rfl
@[go_sem] theorem wide_round : Fence.wide.round = none := rfl

/-- Cells lie as they lay, and all below B. -/
structure Calm (B : Nat) (W W' : World) : Prop where
  os : W'.os = W.os
  tape : W'.tape = W.tape
  output : W'.output = W.output
  size : W.heap.size ≤ W'.heap.size
  block : ∀ k, k < B → W'.heap[k]? = W.heap[k]?
  cells : ∀ (k : Nat) (o : Obj), W.heap[k]? = some o → o.isCells = true → W'.heap[k]? = some o

theorem Calm.refl (B : Nat) (W : World) : Calm B W W := ⟨rfl, rfl, rfl, Nat.le_refl _, fun _ _ => rfl, fun _ _ h _ => h⟩
theorem Calm.trans {B : Nat} {a b c : World} (h : Calm B a b) (k : Calm B b c) : Calm B a c :=
  ⟨k.os.trans h.os, k.tape.trans h.tape, k.output.trans h.output, Nat.le_trans h.size k.size, fun i hi => (k.block i hi).trans (h.block i hi), fun i o ho hc => k.cells i o (h.cells i o ho hc) hc⟩
theorem Calm.below {B : Nat} {W W' : World} (h : Calm B W W') : Below B W W' := ⟨h.os, h.tape, h.output, h.size, h.block⟩
theorem Calm.of_below {B : Nat} {W W' : World} (hb : B ≤ W.heap.size) (h : Below W.heap.size W W') : Calm B W W' :=
  ⟨h.os, h.tape, h.output, h.size, fun k hk => h.block k (by omega), fun k o ho _ => (h.block k (Array.getElem?_eq_some_iff.1 ho).1).trans ho⟩
theorem Calm.putObj {B : Nat} {W : World} {l : Nat} {o : Obj} (o' : Obj) (hB : B ≤ l) (hl : W.heap[l]? = some o) (ho : o.isCells = false) : Calm B W (W.putObj l o') := by
  refine ⟨rfl, rfl, rfl, by simp, fun k hk => World.putObj_heap_other (by omega), fun k o2 hk hc => ?_⟩
  rw [World.putObj_heap_other]
  · exact hk
  · rintro rfl; rw [hl] at hk; cases hk; rw [ho] at hc; cases hc
theorem Calm.cell {B : Nat} {W W' : World} (h : Calm B W W') {a : Addr} {v : Value} (hc : W.cell? a = some v) : W'.cell? a = some v := by
  obtain ⟨o, ho, hcell⟩ := cells_of_cell hc
  rw [← hc]
  exact World.cell?_of_block (w := W) ((h.cells _ o ho hcell).trans ho.symm)
theorem Calm.frozen {B : Nat} {W W' : World} (h : Calm B W W') {a : Addr} {v : Value} (hc : W.cell? a = some v) : W'.frozen? a = W.frozen? a := by
  obtain ⟨o, ho, hcell⟩ := cells_of_cell hc
  exact World.frozen?_of_block (w := W) ((h.cells _ o ho hcell).trans ho.symm)

/-- How the body of a round may be left. -/
def roundEnds (J' Jx : World → Prop) (JX : Code → World → Prop) (W : World) : Exit → Act → World → Prop
  | .normal, _, W' => KeepsOthers W W' ∧ J' W'
  | .ret, _, W' => KeepsOthers W W' ∧ JX .ret W'
  | .exit id, _, W' => KeepsOthers W W' ∧ JX (.exit id) W'
  | .goto _, _, _ => False
  | .panic _, _, _ => False
  | .outgrown, _, W' => Jx W'

variable {P : Program}

theorem range_w {σ : Type} {g : Operand} {ps : Array Tmp} {assign body : Code} {Q : Exit → Act → World → Prop} {a : Act} {w : World}
    {gf : Nat} {lb : Array Value} (hg : a.eval g = .func (.func gf) #[] lb) (eg : ∀ args w, (callFunc gf args).run P w = .ok (.enter gf args) w)
    (J : σ → World → Prop) (JX : Code → World → Prop) (Step : σ → Array Value → σ → World → Prop) (Done : σ → Prop) (s0 : σ)
    (hJ : ∀ s W W', Calm w.heap.size W W' → J s W → J s W') (hJX : ∀ c W W', Calm w.heap.size W W' → JX c W → JX c W')
    (h0 : J s0 w)
    (hiter : ∀ (l : Nat) (J' : σ → World → Prop) (Jx' : World → Prop) (W : World), (∀ s W W', Below W.heap.size W W' → J' s W → J' s W') → (∀ W W', Below W.heap.size W W' → Jx' W → Jx' W') →
      (∀ s W, J' s W → J s W) → Calm w.heap.size w W → J' s0 W →
      (∀ s args s' W, J' s W → Step s args s' W → YieldAt Fence.wide 0 P l args W fun e W' => (e = .returned (.bool true) ∧ J' s' W') ∨ (e = .returned (.bool false) ∧ Jx' W')) →
      CallsIn Fence.wide 0 P gf (#[.func (.yield l) #[] #[]] ++ lb) W fun e W' => (∃ v, e = .returned v) ∧ ((∃ s, Done s ∧ J' s W') ∨ Jx' W'))
    (hbody : ∀ (l : Nat) (s : σ) (args : Array Value) (s' : σ) (W : World), J s W → Step s args s' W → w.heap.size ≤ W.heap.size → args.size = ps.size ∧
      assign.wpIn (Fence.wide.inRound l) 0 P (Exit.then (fun a₁ W₁ => KeepsOthers W W₁ ∧ ∀ W₂, Calm w.heap.size W₁ W₂ → body.wpIn (Fence.wide.inRound l) 0 P (roundEnds (J s') (fun _ => False) JX W₂) a₁ W₂) (fun _ _ _ => False))
        { tmps := (ps.zip args).foldl (fun t (p, v) => t.setIfInBounds p v) a.tmps, defers := [] } W)
    (hdone : ∀ (D : Nat) (s : σ) (W : World), w.heap.size ≤ D → Done s → J s W → W.heap[D]? = some (.deferred (some [])) → Q .normal { a with defers := { target := .collected D, args := #[] } :: a.defers } W)
    (hstop : ∀ (D : Nat) (c : Code) (W : World), w.heap.size ≤ D → JX c W → W.heap[D]? = some (.deferred (some [])) → c.wpIn Fence.wide 0 P Q { a with defers := { target := .collected D, args := #[] } :: a.defers } W) :
    (Code.rangeFunc g ps assign body).wpIn Fence.wide 0 P Q a w := by
  refine wpIn_rangeFunc ?_
  intro fn hfn
  obtain ⟨rec, hrec⟩ : ∃ rec : LoopState → Option Code → Loop, rec = fun st pe => { state := st, pending := pe, fn, tmps := a.tmps, params := ps, assign, body, defers := w.heap.size } := ⟨_, rfl⟩
  obtain ⟨W1, hW1⟩ : ∃ W1, (w.alloc (.deferred (some []))).alloc (.loop (rec .ready none)) = W1 := ⟨_, rfl⟩
  have hL1 : W1.heap[w.heap.size + 1]? = some (.loop (rec .ready none)) := by
    rw [← hW1]; have := World.alloc_heap_new (w.alloc (.deferred (some []))) (.loop (rec .ready none)); rwa [World.size_alloc] at this
  have hK1 : W1.heap[w.heap.size]? = some (.deferred (some [])) := by
    rw [← hW1]; exact (Below.heap_alloc _ _ _ (by simp)).trans (World.alloc_heap_new w _)
  have hC1 : Calm w.heap.size w W1 := by
    rw [← hW1]; exact Calm.of_below (Nat.le_refl _) (((Below.refl _ w).alloc (Nat.le_refl _) _).alloc (by simp) _)
  refine ⟨w.heap.size + 1, [{ target := .collected w.heap.size, args := #[] }], W1, { target := .fn (.func gf) lb, args := #[.func (.yield (w.heap.size + 1)) #[] #[]] }, W1, gf,
    #[.func (.yield (w.heap.size + 1)) #[] #[]] ++ lb, W1, ?_, ?_, ?_, ?_, fun h => by simp [Fence.wide] at h, ?_⟩
  · rw [← hW1, hrec]; exact run_enterLoop_outer _ _ _ _ _
  · simp only [resolve, hg]
    simp [go_sem]
  · intro f' _; trivial
  · simp [invoke, go_sem, eg]
  · refine (hiter (w.heap.size + 1)
      (fun s W => J s W ∧ W.heap[w.heap.size + 1]? = some (.loop (rec .ready none)) ∧ W.heap[w.heap.size]? = some (.deferred (some [])))
      (fun W => ∃ c, JX c W ∧ W.heap[w.heap.size + 1]? = some (.loop (rec .done (some c))) ∧ W.heap[w.heap.size]? = some (.deferred (some [])))
      W1 ?_ ?_ (fun _ _ h => h.1) hC1 ⟨hJ _ _ _ hC1 h0, hL1, hK1⟩ ?_).mono ?_
    · rintro s W W' hb ⟨hj, hl, hk⟩
      have hlt := (Array.getElem?_eq_some_iff.1 hl).1
      exact ⟨hJ _ _ _ (Calm.of_below (by omega) hb) hj, (hb.block _ hlt).trans hl, (hb.block _ (by omega)).trans hk⟩
    · rintro W W' hb ⟨c, hj, hl, hk⟩
      have hlt := (Array.getElem?_eq_some_iff.1 hl).1
      exact ⟨c, hJX _ _ _ (Calm.of_below (by omega) hb) hj, (hb.block _ hlt).trans hl, (hb.block _ (by omega)).trans hk⟩
    · rintro s args s' W ⟨hj, hl, hk⟩ hst
      have hlt : w.heap.size + 1 < W.heap.size := (Array.getElem?_eq_some_iff.1 hl).1
      obtain ⟨hsz, hwalk⟩ := hbody (w.heap.size + 1) s args s' W hj hst (by omega)
      have hy := run_yield (P := P) (args := args) hl (by rw [hrec]; exact hsz)
      rw [hrec] at hy
      refine ⟨fn, _, assign, body, hy, roundIn_of_wpIn trivial (wpIn_mono hwalk ?_)⟩
      rintro e a₁ W₁ hp
      cases e <;> try exact (hp : False).elim
      obtain ⟨hk1, hb1⟩ := hp
      have hl1 := hk1.same _ _ hl rfl
      have hd1 := hk1.same _ _ hk rfl
      refine ⟨_, run_beginRound hl1 (by rw [hrec]), ?_⟩
      have hl2 : (W₁.putObj (w.heap.size + 1) (.loop { rec .ready none with state := .busy })).heap[w.heap.size + 1]? = some (.loop { rec .ready none with state := .busy }) := World.putObj_heap_same (Array.getElem?_eq_some_iff.1 hl1).1
      have hk2 : (W₁.putObj (w.heap.size + 1) (.loop { rec .ready none with state := .busy })).heap[w.heap.size]? = some (.deferred (some [])) := (World.putObj_heap_other (by omega)).trans hd1
      refine wpIn_mono (hb1 _ (Calm.putObj _ (by omega) hl1 rfl)) ?_
      have fin : ∀ (jump : Option Code) (W3 : World), KeepsOthers (W₁.putObj (w.heap.size + 1) (.loop { rec .ready none with state := .busy })) W3 →
          (Instr.endRound (w.heap.size + 1) jump).run P W3 = .ok (.bool jump.isNone) (W3.putObj (w.heap.size + 1) (.loop (rec (if jump.isNone then .ready else .done) jump))) ∧
          W3.heap[w.heap.size + 1]? = some (.loop { rec .ready none with state := .busy }) ∧
          (W3.putObj (w.heap.size + 1) (.loop (rec (if jump.isNone then .ready else .done) jump))).heap[w.heap.size + 1]? = some (.loop (rec (if jump.isNone then .ready else .done) jump)) ∧
          (W3.putObj (w.heap.size + 1) (.loop (rec (if jump.isNone then .ready else .done) jump))).heap[w.heap.size]? = some (.deferred (some [])) := fun jump W3 hk3 => by
        have hl3 := hk3.same _ _ hl2 rfl
        have := run_endRound (P := P) jump hl3
        rw [hrec] at this ⊢
        exact ⟨this, by rw [hrec] at hl3; exact hl3, World.putObj_heap_same (Array.getElem?_eq_some_iff.1 hl3).1, (World.putObj_heap_other (by omega)).trans (hk3.same _ _ hk2 rfl)⟩
      rintro e a3 W3 hp
      cases e with
      | normal =>
        obtain ⟨hk3, hi3⟩ := hp
        obtain ⟨hr, hl3, hl4, hk4⟩ := fin none W3 hk3
        exact ⟨_, _, hr, .inl ⟨rfl, hJ _ _ _ (Calm.putObj _ (by omega) hl3 rfl) hi3, hl4, hk4⟩⟩
      | ret =>
        obtain ⟨hk3, hi3⟩ := hp
        obtain ⟨hr, hl3, hl4, hk4⟩ := fin (some .ret) W3 hk3
        exact ⟨_, _, hr, .inr ⟨rfl, .ret, hJX _ _ _ (Calm.putObj _ (by omega) hl3 rfl) hi3, hl4, hk4⟩⟩
      | exit id =>
        obtain ⟨hk3, hi3⟩ := hp
        obtain ⟨hr, hl3, hl4, hk4⟩ := fin (some (.exit id)) W3 hk3
        exact ⟨_, _, hr, .inr ⟨rfl, .exit id, hJX _ _ _ (Calm.putObj _ (by omega) hl3 rfl) hi3, hl4, hk4⟩⟩
      | goto t => exact hp.elim
      | panic ch => exact hp.elim
      | outgrown => exact hp.elim
    · rintro e W2 ⟨⟨v, rfl⟩, (⟨s, hS, hi, hl, hk⟩ | ⟨c, hi, hl, hk⟩)⟩
      · exact ⟨none, _, by have := run_endLoop (P := P) hl (by rw [hrec]; simp); rw [hrec] at this; exact this, hdone _ s _ (Nat.le_refl _) hS (hJ _ _ _ (Calm.putObj _ (by omega) hl rfl) hi) ((World.putObj_heap_other (by omega)).trans hk)⟩
      · exact ⟨some c, _, by have := run_endLoop (P := P) hl (by rw [hrec]; simp); rw [hrec] at this; exact this, hstop _ c _ (Nat.le_refl _) (hJX _ _ _ (Calm.putObj _ (by omega) hl rfl) hi) ((World.putObj_heap_other (by omega)).trans hk)⟩

end Go.Proofs.Ytkabfjbmofpkdaa

/- A region that draws its order: one walk, in an order of our choice, serves every order; no program in sight. -/
namespace Go.Proofs.Ytkabfjbmofpkdaa
open Go.RowKit

section
variable {P : Program} {ops : Array Oper} {md : Region.Mode} {S : World → Prop} {n : Nat}

/-- Q, but False at a panic, and where memory has no room. -/
def NP (Q : Exit → Act → World → Prop) : Exit → Act → World → Prop
  | .panic _, _, _ => False
  | .outgrown, _, _ => False
  | e, a, w => Q e a w
theorem NP.imp {Q : Exit → Act → World → Prop} : ∀ (e : Exit) (a : Act) (w : World), NP Q e a w → Q e a w := fun e a w h => by
  cases e <;> first | exact h | exact (h : False).elim

/-- Whatever order is picked; S holds behind each operation ahead of number n. -/
def wpX (P : Program) (md : Region.Mode) (ops : Array Oper) (Q : Exit → Act → World → Prop) (S : World → Prop) (n : Nat) : Nat → Array Bool → Act → World → Prop
  | 0, listed, a, w => Region.ready md ops listed = [] ∧ Q .normal a w
  | fuel + 1, listed, a, w =>
    (Region.ready md ops listed = [] → Q .normal a w) ∧
    ∀ i ∈ Region.ready md ops listed, wpOp P ops Q i (fun a' w' => (i < n → S w') ∧ wpX P md ops Q S n fuel (listed.setIfInBounds i true) a' w') a w

theorem wpAny_of_X {Q : Exit → Act → World → Prop} : ∀ (fuel : Nat) (listed : Array Bool) (a : Act) (w : World), wpX P md ops Q S n fuel listed a w → wpAny P md ops Q fuel listed a w
  | 0, _, _, _, h => h
  | fuel + 1, _, _, _, h => ⟨h.1, fun i hi => wpOp_mono (fun a' w' h' => wpAny_of_X fuel _ a' w' h'.2) (h.2 i hi)⟩

theorem wpX_first {Q : Exit → Act → World → Prop} {i : Nat} {oi : Oper} {v : Value} (hi : ops[i]? = some oi) (hsel : ∀ (j : Nat) (o : Oper) cs b, ops[j]? = some o → o.op ≠ .select cs b)
    (hQ : ∀ c a w, Q (.panic c) (a.put oi.dst v) w → Q (.panic c) a w) (hin : i < n)
    (htail : ∀ listed : Array Bool, HeadInv md ops n listed → listed.getD i true = false → ∀ t, n ≤ t → t ∉ Region.ready md ops listed) :
    ∀ (fuel : Nat) (listed : Array Bool) (a : Act) (w : World), HeadInv md ops n listed →
      (∀ j oj, ops[j]? = some oj → j ≠ i → listed.getD j true = false → (∀ e ∈ oj.after, Region.binds md e = true → e.on ≠ i) → oi.apart ops oj = true) →
      i ∈ Region.ready md ops listed → YieldsIf P ops S oi v a → S w →
      wpX P md ops Q S n fuel (listed.setIfInBounds i true) (a.put oi.dst v) w → wpX P md ops Q S n (fuel + 1) listed a w := by
  intro fuel
  induction fuel with
  | zero =>
    intro listed a w inv _ hr hy hS H
    refine ⟨fun h => (by rw [h] at hr; cases hr), fun j hj => ?_⟩
    by_cases hji : j = i
    · subst hji; exact hy.wpOp hi hS ⟨fun _ => hS, H⟩
    · have := ready_mono hj hji
      rw [H.1] at this
      cases this
  | succ fuel ih =>
    intro listed a w inv hfree hr hy hS H
    refine ⟨fun h => (by rw [h] at hr; cases hr), fun j hj => ?_⟩
    by_cases hji : j = i
    · subst hji; exact hy.wpOp hi hS ⟨fun _ => hS, H⟩
    · have hun := (mem_ready.1 hr).1
      have hjn : j < n := by
        rcases Nat.lt_or_ge j n with h | h
        · exact h
        · exact absurd hj (htail listed inv hun j h)
      have h1 := H.2 j (ready_mono hj hji)
      obtain ⟨hjun, oj, hoj, hall⟩ := mem_ready.1 hj
      have hnot : ∀ e ∈ oj.after, Region.binds md e = true → e.on ≠ i := fun e he hb heq => by
        have h1 := hall e he hb
        rw [heq, getD_both hun] at h1
        cases h1
      have h2 := wpOp_putIf hoj (hfree j oj hoj hji hjun hnot) (fun cs b => hsel i oi cs b hi) (fun cs b => hsel j oj cs b hoj) hQ hy h1
      have hfree' : ∀ k ok, ops[k]? = some ok → k ≠ i → (listed.setIfInBounds j true).getD k true = false →
          (∀ e ∈ ok.after, Region.binds md e = true → e.on ≠ i) → oi.apart ops ok = true := fun k ok hk hki hun hno => by
        refine hfree k ok hk hki ?_ hno
        by_cases hjk : j = k
        · subst hjk; exact hjun
        · rw [getD_set_ne true hjk] at hun; exact hun
      refine wpOp_mono (fun a' w' h3 => ⟨h3.2.1, ih (listed.setIfInBounds j true) a' w' (inv.set hj hjn) hfree' (ready_mono hr (Ne.symm hji)) h3.1 (h3.2.1 hjn) ?_⟩) h2
      rw [Array.setIfInBounds_comm _ _ hji]
      exact h3.2.2

/-- The walk in our order: (i, false): an operation that yields its value in every world that meets S; (i, true): one that is carried out where nothing else may come. -/
def wpM (P : Program) (ops : Array Oper) (Q : Exit → Act → World → Prop) (S : World → Prop) (T : Act → World → Prop) : List (Nat × Bool) → Act → World → Prop
  | [], a, w => T a w
  | (i, false) :: r, a, w => ∃ o, ops[i]? = some o ∧ ∃ v, YieldsIf P ops S o v a ∧ wpM P ops Q S T r (a.put o.dst v) w
  | (i, true) :: r, a, w => wpOp P ops Q i (fun a' w' => S w' ∧ wpM P ops Q S T r a' w') a w

def chkM (md : Region.Mode) (ops : Array Oper) (n : Nat) : List (Nat × Bool) → Array Bool → Bool
  | [], listed => Region.seqB md ops (ops.size - n) n listed
  | (i, false) :: r, listed => decide (i < n) && (Region.ready md ops listed).contains i && Region.free md ops listed i && chkM md ops n r (listed.setIfInBounds i true)
  | (i, true) :: r, listed => decide (i < n) && decide (Region.ready md ops listed = [i]) && chkM md ops n r (listed.setIfInBounds i true)

def chkR (md : Region.Mode) (ops : Array Oper) (n : Nat) (π : List (Nat × Bool)) : Bool :=
  Region.noSelect ops && (decide (n = ops.size) || (decide (n < ops.size) && Region.sinkB md ops n && Region.chainB md ops n)) && decide (π.length = n) && chkM md ops n π (Array.replicate ops.size false)

theorem wpX_of_seq {Q : Exit → Act → World → Prop} : ∀ (l : List Oper) (k : Nat) (listed : Array Bool) (a : Act) (w : World), n ≤ k → (∀ j, l[j]? = ops[k + j]?) →
    Region.seqB md ops l.length k listed = true → wpList P ops Q l a w → wpX P md ops Q S n l.length listed a w
  | [], _, _, _, _, _, _, hB, h => ⟨by simpa [Region.seqB] using hB, h⟩
  | o :: l, k, listed, a, w, hk, hl, hB, h => by
    have h0 : ops[k]? = some o := by simpa using (hl 0).symm
    simp only [List.length_cons, Region.seqB, Bool.and_eq_true, decide_eq_true_eq] at hB
    refine ⟨fun h1 => (by rw [hB.1] at h1; cases h1), fun i hi => ?_⟩
    rw [hB.1] at hi
    have hik : i = k := by simpa using hi
    subst hik
    have hw : wpOp P ops Q i (wpList P ops Q l) a w := by unfold wpOp; simp only [h0]; exact h
    exact wpOp_mono (fun a' w' h' => ⟨fun h => by omega, wpX_of_seq l (i + 1) _ a' w' (by omega) (fun j => by have := hl (j + 1); simpa [Nat.add_assoc, Nat.add_comm 1 j] using this) hB.2 h'⟩) hw

theorem wpX_of_M {Q : Exit → Act → World → Prop} (hQ : ∀ c a d v w, Q (.panic c) (Act.put a d v) w → Q (.panic c) a w) (hsel : Region.noSelect ops = true) (hn : n ≤ ops.size)
    (htail : ∀ i, i < n → ∀ listed : Array Bool, HeadInv md ops n listed → listed.getD i true = false → ∀ t, n ≤ t → t ∉ Region.ready md ops listed) :
    ∀ (π : List (Nat × Bool)) (listed : Array Bool) (a : Act) (w : World), HeadInv md ops n listed → chkM md ops n π listed = true → S w →
      wpM P ops Q S (wpList P ops Q (ops.toList.drop n)) π a w → wpX P md ops Q S n (π.length + (ops.size - n)) listed a w
  | [], listed, a, w, _, hc, _, h => by
    have hl : (ops.toList.drop n).length = ops.size - n := by simp
    have := wpX_of_seq (S := S) (n := n) (md := md) (ops.toList.drop n) n listed a w (Nat.le_refl _) (fun j => by simp [List.getElem?_drop]) (by rw [hl]; exact hc) h
    rw [hl] at this
    simpa using this
  | (i, false) :: r, listed, a, w, inv, hc, hS, h => by
    simp only [chkM, Bool.and_eq_true, decide_eq_true_eq] at hc
    obtain ⟨⟨⟨hin, hr⟩, hf⟩, hc'⟩ := hc
    obtain ⟨o, ho, v, hy, h'⟩ := h
    have hr' : i ∈ Region.ready md ops listed := by simpa using hr
    rw [List.length_cons, show r.length + 1 + (ops.size - n) = (r.length + (ops.size - n)) + 1 by omega]
    exact wpX_first ho (Region.noSelect_spec hsel) (fun c a w => hQ c a _ _ w) hin (htail i hin) _ listed a w inv (Region.free_spec ho hf) hr' hy hS
      (wpX_of_M hQ hsel hn htail r _ _ w (inv.set hr' hin) hc' hS h')
  | (i, true) :: r, listed, a, w, inv, hc, hS, h => by
    simp only [chkM, Bool.and_eq_true, decide_eq_true_eq] at hc
    obtain ⟨⟨hin, hr⟩, hc'⟩ := hc
    have hr' : i ∈ Region.ready md ops listed := by rw [hr]; simp
    rw [List.length_cons, show r.length + 1 + (ops.size - n) = (r.length + (ops.size - n)) + 1 by omega]
    refine ⟨fun h1 => (by rw [hr] at h1; cases h1), fun j hj => ?_⟩
    rw [hr] at hj
    obtain rfl : j = i := by simpa using hj
    exact wpOp_mono (fun a' w' h' => ⟨fun _ => h'.1, wpX_of_M hQ hsel hn htail r _ _ w' (inv.set hr' hin) hc' h'.1 h'.2⟩) h

/-- The region's orders, one by one, out of the walk in our order. -/
theorem wpOps_of_M {Q : Exit → Act → World → Prop} (hQ : ∀ c a d v w, Q (.panic c) (Act.put a d v) w → Q (.panic c) a w) (π : List (Nat × Bool)) (hm : P.follows .mixedOrders = true) (hB : chkR .any ops n π = true) {a : Act} {w : World} (hS : S w)
    (h : wpM P ops Q S (wpList P ops Q (ops.toList.drop n)) π a w) (t : Nat) : wpOps P ops Q (Region.schedule (P.follows .mixedOrders) ops t) a w := by
  simp only [chkR, Bool.and_eq_true, decide_eq_true_eq, Bool.or_eq_true] at hB
  obtain ⟨⟨⟨hsel, hn⟩, hlen⟩, hc⟩ := hB
  have hn' : n ≤ ops.size := by omega
  have inv0 : HeadInv .any ops n (Array.replicate ops.size false) :=
    ⟨by simp, fun j oj _ hl => (by rw [getD_replicate_false] at hl; cases hl), fun t _ ht => getD_in (by simpa using ht) (getD_replicate_false _ _)⟩
  have htail : ∀ i, i < n → ∀ listed : Array Bool, HeadInv .any ops n listed → listed.getD i true = false → ∀ t, n ≤ t → t ∉ Region.ready .any ops listed := by
    intro i hi listed inv hun t ht hr
    rcases hn with rfl | ⟨⟨hlt, hs⟩, hch⟩
    · obtain ⟨_, o, ho, _⟩ := mem_ready.1 hr
      have := (Array.getElem?_eq_some_iff.1 ho).1
      omega
    · exact tail_waits hs hch hlt inv _ i rfl hi hun t ht hr
  have H := wpAny_of_X _ _ _ _ (wpX_of_M hQ hsel hn' htail π _ a w inv0 hc hS h)
  rw [hlen, show n + (ops.size - n) = ops.size by omega] at H
  simp only [Region.schedule, hm, Bool.true_or, if_true]
  exact wpAny_sound ops.size t _ a _ H

/-- Outside a fence. -/
theorem region_m {Q : Exit → Act → World → Prop} {id : Nat} (π : List (Nat × Bool)) (n : Nat) (S : World → Prop) {a : Act} {w : World} (hm : P.follows .mixedOrders = true) (hB : chkR .any ops n π = true) (hS : S w.drew)
    (h : wpM P ops (NP Q) S (wpList P ops (NP Q) (ops.toList.drop n)) π a w.drew) : (Code.region id ops true).wp P Q a w :=
  Code.wp_mono NP.imp (wp_region_draw fun t => wpOps_of_M (fun _ _ _ _ _ h => h) π hm hB hS h t)

/-! ### Within a fence that lets everything in -/

def noDefer (ops : Array Oper) : Bool := ops.all fun o => match o.op with | .defer _ => false | _ => true

theorem wpIn_of_wp {r : Option Nat} {o : Oper} (ho : ∀ c, o.op ≠ .defer c) {a : Act} {w : World} {K K' : Act → World → Prop} {Q : Exit → Act → World → Prop} (hK : ∀ a w, K a w → K' a w)
    (h : o.wp P a w K Q) : o.wpIn { Fence.wide with round := r } 0 P a w K' Q := by
  refine ⟨fun f _ => trivial, ?_⟩
  rw [Oper.semAt_eq _ _ _ ho]
  unfold Oper.wp at h
  generalize (execOp a.eval o).run P w = res at *
  have hC : ∀ f args w R, Calls P f args w R → CallsIn { Fence.wide with round := r } 0 P f args w R := fun f args w R h => callsIn_wide (n := 0).2 h
  have hd : ∀ k : Prop, ((({ Fence.wide with round := r } : Fence).depth.isSome = true) → k) := fun k h => by simp [Fence.wide] at h
  cases res with
  | ok nx w' =>
    cases nx <;> simp only [Oper.upon] at h <;> try exact h.elim
    case value u => exact hK _ _ h
    case skip => exact hK _ _ h
    case defer d => exact hK _ _ h
    case enter f args =>
      refine ⟨hd _, (hC _ _ _ _ h).mono ?_⟩
      intro e w'' he
      cases e <;> first | exact hK _ _ he | exact he
    case row row args =>
      refine ⟨hd _, ?_⟩
      intro c cs _
      obtain ⟨v, w'', hR, hs⟩ := h c cs
      exact ⟨v, w'', hK _ _ hR, stepsIn_wide.2 hs⟩
  | halt x w' => cases x <;> simp only [Oper.upon] at h <;> first | exact h | exact h.elim

theorem opsIn_of_ops {r : Option Nat} {Q : Exit → Act → World → Prop} (hnd : noDefer ops = true) (hout : ∀ a w, ¬ Q .outgrown a w) : ∀ (l : List Nat) (a : Act) (w : World), wpOps P ops Q l a w → wpOpsIn { Fence.wide with round := r } 0 P ops Q l a w
  | [], _, _, h => h
  | i :: l, a, w, h => by
    unfold wpOps at h
    unfold wpOpsIn
    cases ho : ops[i]? with
    | none => simp only [ho] at h ⊢; exact opsIn_of_ops hnd hout l a w h
    | some o =>
      simp only [ho] at h ⊢
      have hod : ∀ c, o.op ≠ .defer c := by
        intro c hc
        have := Array.all_eq_true'.1 hnd o (Array.mem_of_getElem? ho)
        rw [hc] at this
        cases this
      by_cases hw : Region.wanted o (yielded ops a.tmps) = true
      · simp only [hw, if_true] at h ⊢
        rcases h with h | ⟨_, a₀, w₀, hq⟩
        · exact wpIn_of_wp hod (fun a w h => opsIn_of_ops hnd hout l a w h) h
        · exact absurd hq (hout _ _)
      · simp only [hw, Bool.false_eq_true, if_false] at h ⊢
        exact ⟨fun _ _ => trivial, opsIn_of_ops hnd hout l _ w h⟩

/-- Within the wide fence, in a round or not. -/
theorem region_mi {r : Option Nat} {Q : Exit → Act → World → Prop} {id : Nat} (π : List (Nat × Bool)) (n : Nat) (S : World → Prop) {a : Act} {w : World} (hm : P.follows .mixedOrders = true) (hB : (chkR .any ops n π && noDefer ops) = true) (hS : S w.drew)
    (h : wpM P ops (NP Q) S (wpList P ops (NP Q) (ops.toList.drop n)) π a w.drew) : (Code.region id ops true).wpIn { Fence.wide with round := r } 0 P Q a w := by
  rw [Bool.and_eq_true] at hB
  exact wpIn_mono (wpIn_region_draw fun t => opsIn_of_ops hB.2 (fun _ _ h => h) _ _ _ (wpOps_of_M (fun _ _ _ _ _ h => h) π hm hB.1 hS h t)) NP.imp

/-! ### The steps of the walk, over a region that is written out -/
theorem m_take {l : List Oper} {Q : Exit → Act → World → Prop} {T : Act → World → Prop} {i : Nat} {o : Oper} {v : Value} {π : List (Nat × Bool)} {a : Act} {w : World} (ho : l[i]? = some o) (hw : Region.wanted o (yielded l.toArray a.tmps) = true)
    (hy : ∀ W, S W → (execOp a.eval o).run P W = .ok (.value v) W) (h : wpM P l.toArray Q S T π (a.put o.dst v) w) : wpM P l.toArray Q S T ((i, false) :: π) a w :=
  ⟨o, by simpa using ho, v, .inl ⟨hw, hy⟩, h⟩
theorem m_skip {l : List Oper} {Q : Exit → Act → World → Prop} {T : Act → World → Prop} {i : Nat} {o : Oper} {π : List (Nat × Bool)} {a : Act} {w : World} (ho : l[i]? = some o) (hw : Region.wanted o (yielded l.toArray a.tmps) = false)
    (h : wpM P l.toArray Q S T π (a.put o.dst undef) w) : wpM P l.toArray Q S T ((i, false) :: π) a w :=
  ⟨o, by simpa using ho, undef, .inr ⟨hw, rfl⟩, h⟩
theorem m_loud {l : List Oper} {Q : Exit → Act → World → Prop} {T : Act → World → Prop} {i : Nat} {o : Oper} {π : List (Nat × Bool)} {a : Act} {w : World} (ho : l[i]? = some o)
    (h : ∀ K : Act → World → Prop, (∀ a w, S w → wpM P l.toArray Q S T π a w → K a w) → if Region.wanted o (yielded l.toArray a.tmps) = true then o.wp P a w K Q else K (a.put o.dst undef) w) : wpM P l.toArray Q S T ((i, true) :: π) a w := by
  have ho' : l.toArray[i]? = some o := by simpa using ho
  have := h (fun a' w' => S w' ∧ wpM P l.toArray Q S T π a' w') (fun a w hS h => ⟨hS, h⟩)
  show wpOp P l.toArray Q i _ a w
  unfold wpOp
  simp only [ho']
  by_cases hw : Region.wanted o (yielded l.toArray a.tmps) = true
  · simp only [hw, if_true] at this ⊢; exact .inl this
  · simp only [hw, Bool.false_eq_true, if_false] at this ⊢; exact this
theorem m_done {Q : Exit → Act → World → Prop} {T : Act → World → Prop} {a : Act} {w : World} (h : T a w) : wpM P ops Q S T [] a w := h
end
end Go.Proofs.Ytkabfjbmofpkdaa

/- Slices that are read, slices that the call owns, append: no program in sight. -/
namespace Go.Proofs.Ytkabfjbmofpkdaa
open Go.RowKit

/-- The value v is a slice of n elements, sz cells each, that reads the cells cs in w. -/
def Rd (w : World) (sz : Nat) (v : Value) (n : Nat) (cs : List Value) : Prop :=
  ∃ (a : Option Addr) (cap : Nat), v = .slice a n cap ∧ cs.length = n * sz ∧ n ≤ cap ∧ cap ≤ 9223372036854775807 ∧
    (cap = 0 ∨ ∃ b off, a = some ⟨b, off, none⟩ ∧ ∀ (j : Nat) (u : Value), cs[j]? = some u → w.cell? ⟨b, off + j, none⟩ = some u)

theorem Rd.below {w w' : World} {sz n : Nat} {v : Value} {cs : List Value} (h : Rd w sz v n cs) {B : Nat} (hb : Below B w w') (hB : w.heap.size ≤ B) : Rd w' sz v n cs := by
  obtain ⟨a, cap, hv, h0, h1, h2, h3⟩ := h
  refine ⟨a, cap, hv, h0, h1, h2, ?_⟩
  rcases h3 with h3 | ⟨b, off, ha, hc⟩
  · exact .inl h3
  · exact .inr ⟨b, off, ha, fun j u hj => (hb.cell (p := ⟨b, off + j, none⟩) (Nat.lt_of_lt_of_le (World.block_lt_of_cell? w _ (hc j u hj)) hB)).trans (hc j u hj)⟩
theorem Rd.nil (w : World) (sz : Nat) : Rd w sz (.slice none 0 0) 0 [] := ⟨none, 0, rfl, by simp, Nat.le_refl _, by omega, .inl rfl⟩

theorem add_off (b o j : Nat) : (⟨b, o, none⟩ : Addr).add j = ⟨b, o + j, none⟩ := by unfold Addr.add; split <;> simp_all

/-- What the call owns, it reads. -/
theorem Rd.of_own {w : World} {base sz n : Nat} {e : TypeId} {v : Value} {cs : List Value} (h : w.ownsRow base e sz v n cs) : Rd w sz v n cs := by
  obtain ⟨h1, h2⟩ := h
  rcases h2 with ⟨rfl, rfl⟩ | ⟨g, cap, cur, rfl, hb, hg, hn, hm, hs, ht⟩
  · exact ⟨none, 0, rfl, h1, Nat.le_refl _, by omega, .inl rfl⟩
  · refine ⟨_, cap, rfl, h1, hn, by unfold maxLen at hm; omega, .inr ⟨g, 0, rfl, fun j u hj => ?_⟩⟩
    have := World.ownsRow.cells (w := w) (base := base) (e := e) (size := sz) (n := n) (xs := cs) (v := .slice (some ⟨g, 0, none⟩) n cap) ⟨h1, .inr ⟨g, cap, cur, rfl, hb, hg, hn, hm, hs, ht⟩⟩ (g := g) rfl j u hj
    rw [add_off] at this
    exact this

/-- A slice's type and its elements', in the program's tables. -/
structure STy (P : Program) (t e : TypeId) (z : Value) (sz bytes : Nat) : Prop where
  ht : P.underlying t = some (.slice e)
  hi : ∃ i, P.info? e = some i ∧ i.zero = some z ∧ i.size = sz ∧ i.bytes = bytes
  hz : z.cells.size = sz
  pos : 0 < sz

variable {P : Program}

theorem STy.of {t e : TypeId} {z : Value} {sz bytes : Nat} (ht : P.underlying t = some (.slice e)) (h : (P.info? e).map (fun i => (i.zero, i.size, i.bytes)) = some (some z, sz, bytes)) (hz : z.cells.size = sz) (pos : 0 < sz) : STy P t e z sz bytes := by
  obtain ⟨i, hi, h1, h2, h3⟩ := info_parts h
  exact ⟨ht, ⟨i, hi, h1, h2, h3⟩, hz, pos⟩

theorem run_app {w : World} {t e ty : TypeId} {z : Value} {sz bytes base n m : Nat} {v sv : Value} {xs ys : List Value} (T : STy P t e z sz bytes) (hown : w.ownsRow base e sz v n xs) (hr : Rd w sz sv m ys)
    (h1 : ∀ u ∈ ys, u.oneCell' = true) (hb : (n + m) * bytes ≤ 140737488355328) (hm : n + m ≤ 9223372036854775807) (hbase : base ≤ w.heap.size) :
    ∃ v' w', (Builtin.append_ #[t, t] ty #[v, sv]).run P w = .ok v' w' ∧ w'.ownsRow base e sz v' (n + m) (xs ++ ys) ∧ w.grownBy w' v.ownBlock ∧ (v' = .slice none 0 0 ↔ v = .slice none 0 0 ∧ m = 0) := by
  obtain ⟨i, hi, hz, hsz, hby⟩ := T.hi
  obtain ⟨a, cap, rfl, hl, hle, hcap, hc⟩ := hr
  rcases hc with rfl | ⟨b, off, rfl, hc⟩
  · obtain rfl : m = 0 := by omega
    obtain rfl : ys = [] := List.eq_nil_of_length_eq_zero (by simpa using hl)
    cases a with
    | some x => exact run_append_own w base t ty e i z sz bytes T.ht hi hz hsz hby T.hz T.pos v n xs hown x 0 0 [] hl (fun j u hj => by simp at hj) h1 (by unfold maxLen; omega) hb hbase
    | none =>
    refine ⟨v, w, run_append_owned_none w base t ty e i sz T.ht hi v n xs hown, by simpa using hown, ⟨rfl, rfl, rfl, Nat.le_refl _, fun _ _ _ => rfl⟩, by simp⟩
  · exact run_append_own w base t ty e i z sz bytes T.ht hi hz hsz hby T.hz T.pos v n xs hown ⟨b, off, none⟩ m cap ys hl (fun j u hj => by rw [add_off]; exact hc j u hj) h1 (by unfold maxLen; omega) hb hbase

theorem exec_app {o : Oper} {a : Act} {w w' : World} {s x : Operand} {t : TypeId} {v sv v' : Value} (ho : o.op = .call { callee := .builtin .append, args := #[s, x], argTypes := #[t, t] }) (hs : a.eval s = v) (hx : a.eval x = sv)
    (hrun : (Builtin.append_ #[t, t] o.type #[v, sv]).run P w = .ok v' w') : (execOp a.eval o).run P w = .ok (.value v') w' := by
  simp [execOp, ho, resolve, invoke, builtin, hs, hx, hrun, Result.andThen]

/-- A list of operations whose first yields a value. -/
theorem list_value {ops : Array Oper} {rest : List Oper} {o : Oper} {a : Act} {Q : Exit → Act → World → Prop} {w w' : World} {v' : Value} (hgd : Region.wanted o (yielded ops a.tmps) = true) (hrun : (execOp a.eval o).run P w = .ok (.value v') w')
    (h : wpList P ops Q rest (a.put o.dst v') w') : wpList P ops Q (o :: rest) a w := by
  refine wpList_step fun K hK => ?_
  rw [if_pos hgd]
  unfold Oper.wp
  rw [hrun]
  exact hK _ _ h
theorem listIn_value {r : Option Nat} {ops : Array Oper} {rest : List Oper} {o : Oper} {a : Act} {Q : Exit → Act → World → Prop} {w w' : World} {v' : Value} (hgd : Region.wanted o (yielded ops a.tmps) = true) (hd : ∀ c, o.op ≠ .defer c) (hrun : (execOp a.eval o).run P w = .ok (.value v') w')
    (h : wpListIn { Fence.wide with round := r } 0 P ops Q rest (a.put o.dst v') w') : wpListIn { Fence.wide with round := r } 0 P ops Q (o :: rest) a w := by
  refine wpListIn_step fun K hK => ?_
  rw [if_pos hgd]
  refine ⟨fun f _ => trivial, ?_⟩
  rw [Oper.semAt_eq _ _ _ hd, hrun]
  exact hK _ _ h

/-- append to what the call owns. -/
theorem app_list {ops : Array Oper} {rest : List Oper} {o : Oper} {a : Act} {Q : Exit → Act → World → Prop} {w : World} {s x : Operand} {t e : TypeId} {z : Value} {sz bytes base n m : Nat} {v sv : Value} {xs ys : List Value} (T : STy P t e z sz bytes)
    (hown : w.ownsRow base e sz v n xs) (hr : Rd w sz sv m ys) (h1 : ∀ u ∈ ys, u.oneCell' = true) (hb : (n + m) * bytes ≤ 140737488355328) (hm : n + m ≤ 9223372036854775807) (hbase : base ≤ w.heap.size)
    (hgd : Region.wanted o (yielded ops a.tmps) = true) (ho : o.op = .call { callee := .builtin .append, args := #[s, x], argTypes := #[t, t] }) (hs : a.eval s = v) (hx : a.eval x = sv)
    (h : ∀ v' w', w'.ownsRow base e sz v' (n + m) (xs ++ ys) → w.grownBy w' v.ownBlock → (v' = .slice none 0 0 ↔ v = .slice none 0 0 ∧ m = 0) → wpList P ops Q rest (a.put o.dst v') w') : wpList P ops Q (o :: rest) a w := by
  obtain ⟨v', w', hrun, h2, h3, h4⟩ := run_app (ty := o.type) T hown hr h1 hb hm hbase
  exact list_value hgd (exec_app ho hs hx hrun) (h v' w' h2 h3 h4)
theorem app_listIn {r : Option Nat} {ops : Array Oper} {rest : List Oper} {o : Oper} {a : Act} {Q : Exit → Act → World → Prop} {w : World} {s x : Operand} {t e : TypeId} {z : Value} {sz bytes base n m : Nat} {v sv : Value} {xs ys : List Value} (T : STy P t e z sz bytes)
    (hown : w.ownsRow base e sz v n xs) (hr : Rd w sz sv m ys) (h1 : ∀ u ∈ ys, u.oneCell' = true) (hb : (n + m) * bytes ≤ 140737488355328) (hm : n + m ≤ 9223372036854775807) (hbase : base ≤ w.heap.size)
    (hgd : Region.wanted o (yielded ops a.tmps) = true) (ho : o.op = .call { callee := .builtin .append, args := #[s, x], argTypes := #[t, t] }) (hs : a.eval s = v) (hx : a.eval x = sv)
    (h : ∀ v' w', w'.ownsRow base e sz v' (n + m) (xs ++ ys) → w.grownBy w' v.ownBlock → (v' = .slice none 0 0 ↔ v = .slice none 0 0 ∧ m = 0) → wpListIn { Fence.wide with round := r } 0 P ops Q rest (a.put o.dst v') w') : wpListIn { Fence.wide with round := r } 0 P ops Q (o :: rest) a w := by
  obtain ⟨v', w', hrun, h2, h3, h4⟩ := run_app (ty := o.type) T hown hr h1 hb hm hbase
  exact listIn_value hgd (fun c hc => by rw [ho] at hc; cases hc) (exec_app ho hs hx hrun) (h v' w' h2 h3 h4)

/-- make of nothing with room. -/
theorem make_list {ops : Array Oper} {rest : List Oper} {o : Oper} {a : Act} {Q : Exit → Act → World → Prop} {w : World} {x y : Operand} {t e : TypeId} {z : Value} {sz bytes base c : Nat} (T : STy P t e z sz bytes)
    (hgd : Region.wanted o (yielded ops a.tmps) = true) (ho : o.op = .makeSlice t x y) (hx : a.eval x = .int .i64 0) (hy : a.eval y = .int .i64 (c : Int)) (hb : bytes * c ≤ 281474976710656) (hm : c ≤ 9223372036854775807) (hbase : base ≤ w.heap.size)
    (h : ∀ w', w'.ownsRow base e sz (.slice (some ⟨w.heap.size, 0, none⟩) 0 c) 0 [] → w.grownBy w' none → wpList P ops Q rest (a.put o.dst (.slice (some ⟨w.heap.size, 0, none⟩) 0 c)) w') : wpList P ops Q (o :: rest) a w := by
  obtain ⟨i, hi, hz, hsz, hby⟩ := T.hi
  obtain ⟨w', hrun, h1, h2⟩ := run_make_own (P := P) w base t e i z sz T.ht hi hz hsz .i64 .i64 c (by rw [hby]; exact hb) (by unfold maxLen; omega) hbase
  refine list_value hgd ?_ (h w' h1 h2)
  simp [execOp, ho, hx, hy, hrun, Result.andThen]

/-- A block that was just laid. -/
theorem Rd.lit {w : World} {cs : Array Value} {e : TypeId} {n sz : Nat} (hs : cs.size = n * sz) (hn : n ≤ 9223372036854775807) : Rd (w.alloc (.cells cs e)) sz (.slice (some ⟨w.heap.size, 0, none⟩) n n) n cs.toList := by
  refine ⟨_, n, rfl, by simpa using hs, Nat.le_refl _, hn, .inr ⟨_, _, rfl, fun j u hj => ?_⟩⟩
  rw [World.cell?_alloc_at _ _ _ _ rfl]
  simpa using hj

theorem own_succ {w : World} {base e sz n : Nat} {v : Value} {xs : List Value} (h : w.ownsRow base e sz v (n + 1) xs) : ∃ g cap, v = .slice (some ⟨g, 0, none⟩) (n + 1) cap ∧ base ≤ g ∧ g < w.heap.size ∧ n + 1 ≤ cap ∧ cap ≤ 9223372036854775807 := by
  rcases h.2 with ⟨_, h0⟩ | ⟨g, cap, cur, rfl, hb, hg, hn, hm, _⟩
  · omega
  · exact ⟨g, cap, rfl, hb, (Array.getElem?_eq_some_iff.1 hg).1, hn, by unfold maxLen at hm; omega⟩

/-- Of a row that is owned a part from the front. -/
theorem Rd.own_take {w : World} {base e sz n m g cap : Nat} {xs : List Value} (h : w.ownsRow base e sz (.slice (some ⟨g, 0, none⟩) n cap) n xs) (hm : m ≤ n) : Rd w sz (.slice (some ⟨g, 0, none⟩) m cap) m (xs.take (m * sz)) := by
  have h' := Rd.of_own h
  obtain ⟨a, cap', hv, h0, h1, h2, h3⟩ := h'
  simp only [Value.slice.injEq] at hv
  obtain ⟨rfl, -, rfl⟩ := hv
  refine ⟨_, cap, rfl, ?_, by omega, h2, ?_⟩
  · rw [List.length_take, h0]; exact Nat.min_eq_left (Nat.mul_le_mul_right _ hm)
  · rcases h3 with h3 | ⟨b, off, ha, hc⟩
    · exact .inl h3
    · refine .inr ⟨b, off, ha, fun j u hj => hc j u ?_⟩
      rw [List.getElem?_take] at hj
      split at hj
      · exact hj
      · cases hj

/-! ### Bytes -/
def byteV (b : UInt8) : Value := .int .u8 b.toNat
def bvs (xs : List UInt8) : List Value := xs.map byteV
theorem bvs_one (xs : List UInt8) : ∀ u ∈ bvs xs, u.oneCell' = true := by
  intro u hu; obtain ⟨b, _, rfl⟩ := List.mem_map.1 hu; rfl
theorem bvs_length (xs : List UInt8) : (bvs xs).length = xs.length := by simp [bvs]
theorem bvs_get (xs : List UInt8) (i : Nat) (h : i < xs.length) : (bvs xs)[i]? = some (.int .u8 (bt xs i)) := by
  simp [bvs, byteV, bt, List.getD, List.getElem?_eq_getElem h]
theorem bvs_append (a b : List UInt8) : bvs (a ++ b) = bvs a ++ bvs b := by simp [bvs]

theorem Bytes.rd {w : World} {v : Value} {xs : List UInt8} (h : Bytes w v xs) : Rd w 1 v xs.length (bvs xs) := by
  obtain ⟨a, cap, rfl, h1, h2, h3⟩ := h
  refine ⟨a, cap, rfl, by rw [bvs_length]; omega, h1, h2, ?_⟩
  rcases h3 with h3 | ⟨b, off, ha, hc⟩
  · exact .inl h3
  · refine .inr ⟨b, off, ha, fun j u hj => ?_⟩
    have hlt : j < xs.length := by have := (List.getElem?_eq_some_iff.1 hj).1; rwa [bvs_length] at this
    rw [bvs_get xs j hlt] at hj
    cases hj
    exact hc j hlt
theorem Rd.bytes {w : World} {v : Value} {xs : List UInt8} (h : Rd w 1 v xs.length (bvs xs)) : Bytes w v xs := by
  obtain ⟨a, cap, rfl, h0, h1, h2, h3⟩ := h
  refine ⟨a, cap, rfl, h1, h2, ?_⟩
  rcases h3 with h3 | ⟨b, off, ha, hc⟩
  · exact .inl h3
  · exact .inr ⟨b, off, ha, fun i hi => hc i _ (bvs_get xs i hi)⟩
theorem Bytes.of_own {w : World} {base : Nat} {e : TypeId} {v : Value} {xs : List UInt8} (h : w.ownsRow base e 1 v xs.length (bvs xs)) : Bytes w v xs := (Rd.of_own h).bytes

/-- []byte to string. -/
def bstr (xs : List UInt8) : ByteArray := ⟨xs.toArray⟩
theorem bstr_toList (xs : List UInt8) : (bstr xs).toList = xs := by rw [ByteArray.toList_eq]; simp [bstr]
theorem run_bytes_str {w : World} {v : Value} {xs : List UInt8} {src e dst : TypeId} (hs : P.underlying src = some (.slice e)) (he : P.underlying e = some (.int .u8)) (hd : P.underlying dst = some .string) (h : Bytes w v xs) :
    (convert src dst v).run P w = .ok (.string (bstr xs)) w := by
  obtain ⟨a, cap, rfl, h1, h2, h3⟩ := h
  rw [run_convert_bytes_string w src dst e _ _ _ hs he hd]
  have hfold : ∀ (l : List UInt8) (s : ByteArray), ((l.map fun b => (b.toNat : Int)).foldl (fun r n => r.push (UInt8.ofNat n.toNat)) s) = ⟨(s.data.toList ++ l).toArray⟩ := by
    intro l
    induction l with
    | nil => intro s; simp
    | cons b l ih =>
      intro s
      simp only [List.map_cons, List.foldl_cons]
      rw [ih]
      simp [ByteArray.push]
  rcases h3 with rfl | ⟨b, off, rfl, hc⟩
  · obtain rfl : xs = [] := List.eq_nil_of_length_eq_zero (by omega)
    cases a with
    | some x =>
      show (Conv.bytesToString (.slice (some x) 0 0)).run P w = _
      rw [run_bytesToString (P := P) w x 0 0 [] (run_loadCells_list (P := P) w x [] (fun j u hj => by simp at hj))]
      rfl
    | none =>
    simp [Conv.bytesToString, bstr]
    rfl
  · have hl : (loadCells ⟨b, off, none⟩ xs.length).run P w = .ok ((xs.map fun b => (b.toNat : Int)).map (Value.int .u8)).toArray w := by
      have := run_loadCells_list (P := P) (w := w) ⟨b, off, none⟩ (bvs xs) (fun j u hj => by
        rw [add_off]
        have hlt : j < xs.length := by have := (List.getElem?_eq_some_iff.1 hj).1; rwa [bvs_length] at this
        rw [bvs_get xs j hlt] at hj
        cases hj
        exact hc j hlt)
      rw [bvs_length] at this
      rw [this]
      simp [bvs, byteV, Function.comp_def]
    rw [run_bytesToString w _ _ _ _ hl, hfold]
    simp [bstr]
end Go.Proofs.Ytkabfjbmofpkdaa

/- append to a row that the call owns: the slice that was appended to reads what it read. No program in sight. -/
namespace Go.Proofs.Ytkabfjbmofpkdaa
open Go.RowKit
variable {P : Program}

theorem own_prefix {w : World} {base : Nat} {e : TypeId} {sz n m g cap : Nat} {xs ys : List Value} (h : w.ownsRow base e sz (.slice (some ⟨g, 0, none⟩) (n + m) cap) (n + m) (xs ++ ys)) (hx : xs.length = n * sz) : w.ownsRow base e sz (.slice (some ⟨g, 0, none⟩) n cap) n xs := by
  refine ⟨hx, .inr ?_⟩
  rcases h.2 with ⟨h', -⟩ | ⟨g', cap', cur, h', hb, hg, hnc, hcm, hcs, htake⟩
  · simp at h'
  · simp only [Value.slice.injEq, Option.some.injEq, Addr.mk.injEq, and_true, true_and] at h'
    obtain ⟨rfl, rfl⟩ := h'
    refine ⟨g, cap, cur, rfl, hb, hg, by omega, hcm, hcs, ?_⟩
    have e1 : (cur.toList.take ((n + m) * sz)).take (n * sz) = cur.toList.take (n * sz) := by rw [List.take_take, Nat.min_eq_left (Nat.mul_le_mul_right _ (by omega))]
    have e2 : (xs ++ ys).take (n * sz) = xs := by rw [← hx]; simp
    rw [← e1, htake, e2]

theorem run_app_keeps {w : World} {t e ty : TypeId} {z : Value} {sz bytes base n m g cap : Nat} {sv : Value} {xs ys : List Value} (T : STy P t e z sz bytes)
    (hown : w.ownsRow base e sz (.slice (some ⟨g, 0, none⟩) n cap) n xs) (hr : Rd w sz sv m ys) (h1 : ∀ u ∈ ys, u.oneCell' = true) (hm0 : 0 < m) (hb : (n + m) * bytes ≤ 140737488355328) (hm : n + m ≤ 9223372036854775807) (hbase : base ≤ w.heap.size) :
    ∃ g' cap' w', (Builtin.append_ #[t, t] ty #[.slice (some ⟨g, 0, none⟩) n cap, sv]).run P w = .ok (.slice (some ⟨g', 0, none⟩) (n + m) cap') w' ∧
      w'.ownsRow base e sz (.slice (some ⟨g', 0, none⟩) (n + m) cap') (n + m) (xs ++ ys) ∧ w'.ownsRow base e sz (.slice (some ⟨g, 0, none⟩) n cap) n xs ∧ w.grownBy w' (some g) ∧ ((g' = g ∧ cap' = cap) ∨ w.heap.size ≤ g') := by
  obtain ⟨i, hi, hz, hsz, hby⟩ := T.hi
  obtain ⟨a, scap, rfl, hl, hle, hcap, hc⟩ := hr
  rcases hc with hc | ⟨b, off, rfl, hc⟩
  · omega
  have hc' : ∀ j u, ys[j]? = some u → w.cell? ((⟨b, off, none⟩ : Addr).add j) = some u := fun j u hj => by rw [add_off]; exact hc j u hj
  by_cases hroom : n + m ≤ cap
  · obtain ⟨w', hrun, h2, h3⟩ := run_append_fits (P := P) w base t ty e i sz T.ht hi hsz g n cap xs hown ⟨b, off, none⟩ m scap ys hl hc' h1 hroom
    exact ⟨g, cap, w', hrun, h2, own_prefix h2 hown.1, h3, .inl ⟨rfl, rfl⟩⟩
  · obtain ⟨g', cap', w', hrun, h2, h3, h4, h5⟩ := run_append_lies (P := P) w t ty base e i z sz bytes T.ht hi hz hsz hby T.hz T.pos _ n xs hown ⟨b, off, none⟩ m scap ys hl hc' h1 hm0 (by unfold maxLen; omega) hb hbase _ rfl
    have hg := run_append_grow (P := P) w t ty e i z T.ht hi hz ⟨g, 0, none⟩ n cap xs (by rw [hsz]; exact hown.1) (fun j u hu => by rw [add_off, Nat.zero_add]; have := World.ownsRow.cells hown rfl j u hu; rwa [add_off, Nat.zero_add] at this)
      ⟨b, off, none⟩ m scap ys (by rw [hsz]; exact hl) hc' (by omega) (by omega) (growslice_fits (by omega) (by rw [hby]; exact hb))
    rw [hrun] at hg
    simp only [Result.ok.injEq, Value.slice.injEq, Option.some.injEq, Addr.mk.injEq, and_true, true_and] at hg
    obtain ⟨⟨rfl, rfl⟩, rfl⟩ := hg
    refine ⟨_, _, _, hrun, h2, ?_, h3, .inr (Nat.le_refl _)⟩
    refine World.ownsRow.alloc ?_ _
    exact hown.kept (row := none) ⟨rfl, rfl, rfl, Nat.le_refl _, fun _ _ _ => rfl⟩ (.inr (by simp [Value.ownBlock]))

/-- append to what the call owns or to nil, told what the walk wants. -/
theorem app_keep {ops : Array Oper} {rest : List Oper} {o : Oper} {a : Act} {Q : Exit → Act → World → Prop} {w : World} {s x : Operand} {t e : TypeId} {z : Value} {sz bytes base n m : Nat} {v sv : Value} {xs ys : List Value} (T : STy P t e z sz bytes)
    (hown : w.ownsRow base e sz v n xs) (hr : Rd w sz sv m ys) (h1 : ∀ u ∈ ys, u.oneCell' = true) (hm0 : 0 < m) (hb : (n + m) * bytes ≤ 140737488355328) (hm : n + m ≤ 9223372036854775807) (hbase : base ≤ w.heap.size)
    (hgd : Region.wanted o (yielded ops a.tmps) = true) (ho : o.op = .call { callee := .builtin .append, args := #[s, x], argTypes := #[t, t] }) (hs : a.eval s = v) (hx : a.eval x = sv)
    (h : ∀ g cap w', w'.ownsRow base e sz (.slice (some ⟨g, 0, none⟩) (n + m) cap) (n + m) (xs ++ ys) → w'.ownsRow base e sz v n xs → w.grownBy w' v.ownBlock → ((∃ k c, v = .slice (some ⟨g, 0, none⟩) k c ∧ cap = c) ∨ w.heap.size ≤ g) → wpList P ops Q rest (a.put o.dst (.slice (some ⟨g, 0, none⟩) (n + m) cap)) w') : wpList P ops Q (o :: rest) a w := by
  rcases hown.2 with ⟨rfl, h0⟩ | ⟨g, cap, cur, rfl, -⟩
  · subst h0
    obtain ⟨i, hi, hz, hsz, hby⟩ := T.hi
    obtain ⟨a', scap, rfl, hl, hle, hcap, hc⟩ := hr
    rcases hc with hc | ⟨b, off, rfl, hc⟩
    · omega
    obtain ⟨g, cap, w', hrun, h2, h3, h4, h5⟩ := run_append_lies (P := P) w t o.type base e i z sz bytes T.ht hi hz hsz hby T.hz T.pos _ 0 xs hown ⟨b, off, none⟩ m scap ys hl (fun j u hj => by rw [add_off]; exact hc j u hj) h1 hm0 (by unfold maxLen; omega) hb hbase _ rfl
    refine list_value hgd (exec_app ho hs hx hrun) (h g cap w' h2 ⟨hown.1, .inl ⟨rfl, rfl⟩⟩ h3 (.inr ?_))
    rcases h4 with h4 | h4
    · simp [Value.ownBlock] at h4
    · omega
  · obtain ⟨g', cap', w', hrun, h2, h3, h4, h5⟩ := run_app_keeps (ty := o.type) T hown hr h1 hm0 hb hm hbase
    refine list_value hgd (exec_app ho hs hx hrun) (h g' cap' w' h2 h3 h4 ?_)
    rcases h5 with ⟨rfl, rfl⟩ | h5
    · exact .inl ⟨_, _, rfl, rfl⟩
    · exact .inr h5
end Go.Proofs.Ytkabfjbmofpkdaa

/- Rows of bytes and frames of worlds: what the walks of the layers above share. -/
namespace Go.Proofs.Ytkabfjbmofpkdaa
open Go.RowKit

theorem tyBytes : STy Try.prog 96 5 (.int .u8 0) 1 1 := .of Try.underlying96 (by kernel_rfl) rfl (by omega)
theorem ownsRow_below {w w' : World} {B base : Nat} {e : TypeId} {sz n : Nat} {v : Value} {xs : List Value} (h : w.ownsRow base e sz v n xs) (hb : Below B w w') (hB : w.heap.size ≤ B) : w'.ownsRow base e sz v n xs := by
  obtain ⟨h1, h2⟩ := h
  refine ⟨h1, ?_⟩
  rcases h2 with h2 | ⟨g, cap, cur, hv, hg, hh, r⟩
  · exact .inl h2
  · exact .inr ⟨g, cap, cur, hv, hg, (hb.block g (Nat.lt_of_lt_of_le (Array.getElem?_eq_some_iff.1 hh).1 hB)).trans hh, r⟩
theorem ownsRow_calm {w w' : World} {B base : Nat} {e : TypeId} {sz n : Nat} {v : Value} {xs : List Value} (h : w.ownsRow base e sz v n xs) (hc : Calm B w w') : w'.ownsRow base e sz v n xs := by
  obtain ⟨h1, h2⟩ := h
  refine ⟨h1, ?_⟩
  rcases h2 with h2 | ⟨g, cap, cur, hv, hg, hh, r⟩
  · exact .inl h2
  · exact .inr ⟨g, cap, cur, hv, hg, hc.cells g _ hh rfl, r⟩
theorem ownsRow_set {w : World} {base : Nat} {e : TypeId} {sz n : Nat} {v : Value} {xs : List Value} (h : w.ownsRow base e sz v n xs) (a : Addr) (u : Value) (ha : a.block < base) : (w.setCell a u).ownsRow base e sz v n xs := by
  obtain ⟨h1, h2⟩ := h
  refine ⟨h1, ?_⟩
  rcases h2 with h2 | ⟨g, cap, cur, hv, hg, hh, r⟩
  · exact .inl h2
  · refine .inr ⟨g, cap, cur, hv, hg, ?_, r⟩
    rw [heap_setCell_other w a g u (by omega)]
    exact hh
theorem ownsRow_blocks {w w' : World} {base : Nat} {e : TypeId} {sz n : Nat} {v : Value} {xs : List Value} (h : w.ownsRow base e sz v n xs) (hk : ∀ j, base ≤ j → j < w.heap.size → w'.heap[j]? = w.heap[j]?) : w'.ownsRow base e sz v n xs := by
  obtain ⟨h1, h2⟩ := h
  refine ⟨h1, ?_⟩
  rcases h2 with h2 | ⟨g, cap, cur, hv, hg, hh, r⟩
  · exact .inl h2
  · exact .inr ⟨g, cap, cur, hv, hg, (hk g hg (Array.getElem?_eq_some_iff.1 hh).1).trans hh, r⟩
theorem ownsRow_mono {w : World} {base base' : Nat} {e : TypeId} {sz n : Nat} {v : Value} {xs : List Value} (h : w.ownsRow base e sz v n xs) (hb : base' ≤ base) : w.ownsRow base' e sz v n xs := by
  obtain ⟨h1, h2⟩ := h
  refine ⟨h1, ?_⟩
  rcases h2 with h2 | ⟨g, cap, cur, hv, hg, r⟩
  · exact .inl h2
  · exact .inr ⟨g, cap, cur, hv, Nat.le_trans hb hg, r⟩
theorem own_one {w : World} {base : Nat} {e : TypeId} {sz n : Nat} {v : Value} {xs : List Value} (h : w.ownsRow base e sz v n xs) : v.oneCell' = true := by
  rcases h.2 with ⟨rfl, -⟩ | ⟨g, cap, cur, rfl, -⟩ <;> rfl
theorem own_slice {w : World} {base : Nat} {e : TypeId} {sz n : Nat} {v : Value} {xs : List Value} (h : w.ownsRow base e sz v n xs) : ∃ a c, v = .slice a n c := by
  rcases h.2 with ⟨rfl, h0⟩ | ⟨g, cap, cur, rfl, -⟩
  · exact ⟨none, 0, by rw [h0]⟩
  · exact ⟨_, _, rfl⟩
theorem own_cells {w : World} {base : Nat} {e : TypeId} {sz n : Nat} {v : Value} {xs : List Value} (h : w.ownsRow base e sz v n xs) (j : Nat) (o : Obj) (hj : v.ownBlock = some j) (ho : w.heap[j]? = some o) : o.isCells = true := by
  rcases h.2 with ⟨rfl, -⟩ | ⟨g, cap, cur, rfl, -, hh, -⟩
  · simp [Value.ownBlock] at hj
  · simp [Value.ownBlock] at hj
    subst hj
    rw [hh] at ho
    cases ho
    rfl
/-- A row that another append leaves: its elements are of another type. -/
theorem own_otherT {w w' : World} {base base' : Nat} {e e' : TypeId} {sz sz' n n' : Nat} {v v' : Value} {xs xs' : List Value} (h : w.ownsRow base e sz v n xs) (h' : w.ownsRow base' e' sz' v' n' xs') (hne : e ≠ e') (g : w.grownBy w' v.ownBlock) : w'.ownsRow base' e' sz' v' n' xs' := by
  refine h'.kept g ?_
  rcases h'.2 with ⟨rfl, -⟩ | ⟨b, cap, cur, rfl, hb, hh, r⟩
  · exact .inl rfl
  · right
    intro ee
    rcases h.2 with ⟨rfl, -⟩ | ⟨g', cap', cur', rfl, -, hh', -⟩
    · simp [Value.ownBlock] at ee
    · simp [Value.ownBlock] at ee
      subst ee
      rw [hh] at hh'
      simp at hh'
      exact hne hh'.2.symm


/-! ### Bytes of the call's own -/
def Mine (w : World) (base : Nat) (v : Value) (xs : List UInt8) : Prop := w.ownsRow base 5 1 v xs.length (bvs xs)

theorem Mine.bytes {w : World} {base : Nat} {v : Value} {xs : List UInt8} (h : Mine w base v xs) : Bytes w v xs := Bytes.of_own h
theorem Mine.below {w w' : World} {B base : Nat} {v : Value} {xs : List UInt8} (h : Mine w base v xs) (hb : Below B w w') (hB : w.heap.size ≤ B) : Mine w' base v xs := ownsRow_below h hb hB
theorem Mine.nil (w : World) (base : Nat) : Mine w base (.slice none 0 0) [] := World.ownsRow_nil _ _ _ _
theorem Mine.mono {w : World} {base base' : Nat} {v : Value} {xs : List UInt8} (h : Mine w base v xs) (hb : base' ≤ base) : Mine w base' v xs := by
  obtain ⟨h1, h2⟩ := h
  refine ⟨h1, ?_⟩
  rcases h2 with h2 | ⟨g, cap, cur, hv, hg, r⟩
  · exact .inl h2
  · exact .inr ⟨g, cap, cur, hv, Nat.le_trans hb hg, r⟩
theorem Mine.lit (w : World) (base n : Nat) (cs : Array Value) (xs : List UInt8) (hb : base ≤ w.heap.size) (hn : n ≤ 9223372036854775807) (hx : xs.length = n) (he : bvs xs = cs.toList) : Mine (w.alloc (.cells cs 5)) base (.slice (some ⟨w.heap.size, 0, none⟩) n n) xs := by
  subst hx
  have hs : cs.size = xs.length := by rw [← bvs_length, he]; simp
  have h := World.ownsRow_lit (base := base) (size := 1) (e := 5) w cs xs.length hb (by unfold maxLen; omega) (by omega)
  unfold Mine
  rw [he]
  exact h

theorem Mine.calm {w w' : World} {B base : Nat} {v : Value} {xs : List UInt8} (h : Mine w base v xs) (hc : Calm B w w') : Mine w' base v xs := ownsRow_calm h hc
theorem Mine.set {w : World} {base : Nat} {v : Value} {xs : List UInt8} (h : Mine w base v xs) (a : Addr) (u : Value) (ha : a.block < base) : Mine (w.setCell a u) base v xs := ownsRow_set h a u ha
theorem Mine.one {w : World} {base : Nat} {v : Value} {xs : List UInt8} (h : Mine w base v xs) : v.oneCell' = true := by
  rcases h.2 with ⟨rfl, -⟩ | ⟨g, cap, cur, rfl, -⟩ <;> rfl
theorem Mine.slice {w : World} {base : Nat} {v : Value} {xs : List UInt8} (h : Mine w base v xs) : ∃ a c, v = .slice a xs.length c := by
  rcases h.2 with ⟨rfl, h0⟩ | ⟨g, cap, cur, rfl, -⟩
  · exact ⟨none, 0, by rw [h0]⟩
  · exact ⟨_, _, rfl⟩

/-- append to it. -/
theorem app_mine {ops : Array Oper} {rest : List Oper} {o : Oper} {a : Act} {Q : Exit → Act → World → Prop} {w0 w : World} {s x : Operand} {base : Nat} {v sv : Value} {xs ys : List UInt8}
    (hown : Mine w base v xs) (hr : Bytes w sv ys) (hB : Below base w0 w) (hbase : base ≤ w.heap.size) (hb : xs.length + ys.length ≤ 140737488355328)
    (hgd : Region.wanted o (yielded ops a.tmps) = true) (ho : o.op = .call { callee := .builtin .append, args := #[s, x], argTypes := #[96, 96] }) (hs : a.eval s = v) (hx : a.eval x = sv)
    (h : ∀ v' w', Mine w' base v' (xs ++ ys) → Below base w0 w' → wpList Try.prog ops Q rest (a.put o.dst v') w') : wpList Try.prog ops Q (o :: rest) a w := by
  refine app_list tyBytes hown hr.rd (bvs_one _) (by omega) (by omega) hbase hgd ho hs hx fun v' w' h1 h2 _ => h v' w' ?_ ?_
  · unfold Mine
    rw [List.length_append, bvs_append]
    exact h1
  · exact hB.grown h2 hbase (fun k e => (World.ownsRow.lt hown k e).1)
theorem app_mineIn {r : Option Nat} {ops : Array Oper} {rest : List Oper} {o : Oper} {a : Act} {Q : Exit → Act → World → Prop} {w0 w : World} {s x : Operand} {base : Nat} {v sv : Value} {xs ys : List UInt8}
    (hown : Mine w base v xs) (hr : Bytes w sv ys) (hB : Below base w0 w) (hbase : base ≤ w.heap.size) (hb : xs.length + ys.length ≤ 140737488355328)
    (hgd : Region.wanted o (yielded ops a.tmps) = true) (ho : o.op = .call { callee := .builtin .append, args := #[s, x], argTypes := #[96, 96] }) (hs : a.eval s = v) (hx : a.eval x = sv)
    (h : ∀ v' w', Mine w' base v' (xs ++ ys) → Below base w0 w' → wpListIn { Fence.wide with round := r } 0 Try.prog ops Q rest (a.put o.dst v') w') : wpListIn { Fence.wide with round := r } 0 Try.prog ops Q (o :: rest) a w := by
  refine app_listIn tyBytes hown hr.rd (bvs_one _) (by omega) (by omega) hbase hgd ho hs hx fun v' w' h1 h2 _ => h v' w' ?_ ?_
  · unfold Mine
    rw [List.length_append, bvs_append]
    exact h1
  · exact hB.grown h2 hbase (fun k e => (World.ownsRow.lt hown k e).1)

/-! ### Parts of bytes that lie somewhere -/
theorem Bytes.sub {w : World} {b o L C : Nat} {xs : List UInt8} (h : Bytes w (.slice (some ⟨b, o, none⟩) L C) xs) (i n C' : Nat) (hi : i + n ≤ L) (hC : n ≤ C') (hC2 : C' ≤ 9223372036854775807) :
    Bytes w (.slice (some ⟨b, o + i, none⟩) n C') ((xs.drop i).take n) := by
  obtain ⟨a', cap', hv, h1, h2, h3⟩ := h
  simp only [Value.slice.injEq] at hv
  obtain ⟨rfl, rfl, rfl⟩ := hv
  have hl : ((xs.drop i).take n).length = n := by simp; omega
  refine ⟨some ⟨b, o + i, none⟩, C', by rw [hl], by omega, hC2, ?_⟩
  by_cases hn : n = 0
  · by_cases hc : C' = 0
    · exact .inl hc
    · exact .inr ⟨b, o + i, rfl, fun j hj => by omega⟩
  refine .inr ⟨b, o + i, rfl, fun j hj => ?_⟩
  rw [hl] at hj
  rcases h3 with h3 | ⟨b', o', ha, hc⟩
  · omega
  · simp only [Option.some.injEq, Addr.mk.injEq, and_true] at ha
    obtain ⟨rfl, rfl⟩ := ha
    have := hc (i + j) (by omega)
    rw [← Nat.add_assoc] at this
    rw [this]
    congr 2
    unfold bt
    simp [List.getD, hj]
theorem Bytes.from {w : World} {b o L C : Nat} {xs : List UInt8} (h : Bytes w (.slice (some ⟨b, o, none⟩) L C) xs) (i n C' : Nat) (hi : i + n = L) (hC : n ≤ C') (hC2 : C' ≤ 9223372036854775807) :
    Bytes w (.slice (some ⟨b, o + i, none⟩) n C') (xs.drop i) := by
  have := h.sub i n C' (by omega) hC hC2
  obtain ⟨a', cap', hv, -⟩ := h
  simp only [Value.slice.injEq] at hv
  rw [List.take_of_length_le (by simp; omega)] at this
  exact this
theorem Bytes.part {w : World} {b o L C : Nat} {xs : List UInt8} (h : Bytes w (.slice (some ⟨b, o, none⟩) L C) xs) (n C' : Nat) (hi : n ≤ L) (hC : n ≤ C') (hC2 : C' ≤ 9223372036854775807) :
    Bytes w (.slice (some ⟨b, o, none⟩) n C') (xs.take n) := h.sub 0 n C' (by omega) hC hC2
theorem Bytes.length {w : World} {a : Option Addr} {L C : Nat} {xs : List UInt8} (h : Bytes w (.slice a L C) xs) : xs.length = L := by
  obtain ⟨a', cap', hv, -⟩ := h
  simp only [Value.slice.injEq] at hv
  exact hv.2.1.symm

/-! ### What a call changes of the blocks that were there: those of S alone -/
structure Only (S : Nat → Prop) (w w' : World) : Prop where
  os : w'.os = w.os
  tape : w'.tape = w.tape
  output : w'.output = w.output
  size : w.heap.size ≤ w'.heap.size
  block : ∀ k, k < w.heap.size → ¬ S k → w'.heap[k]? = w.heap[k]?

theorem Only.refl (S : Nat → Prop) (w : World) : Only S w w := ⟨rfl, rfl, rfl, Nat.le_refl _, fun _ _ _ => rfl⟩
theorem Only.trans {S T : Nat → Prop} {a b c : World} (h : Only S a b) (k : Only T b c) (hT : ∀ j, j < a.heap.size → T j → S j) : Only S a c :=
  ⟨k.os.trans h.os, k.tape.trans h.tape, k.output.trans h.output, Nat.le_trans h.size k.size, fun j hj hs => (k.block j (Nat.lt_of_lt_of_le hj h.size) (fun ht => hs (hT j hj ht))).trans (h.block j hj hs)⟩
theorem Only.weak {S T : Nat → Prop} {a b : World} (h : Only S a b) (hT : ∀ j, j < a.heap.size → S j → T j) : Only T a b :=
  ⟨h.os, h.tape, h.output, h.size, fun j hj hs => h.block j hj (fun ht => hs (hT j hj ht))⟩
theorem Only.of_below {S : Nat → Prop} {w w' : World} (h : Below w.heap.size w w') : Only S w w' := ⟨h.os, h.tape, h.output, h.size, fun j hj _ => h.block j hj⟩
theorem Only.of_grown {w w' : World} {r : Option Nat} (h : w.grownBy w' r) : Only (fun j => r = some j) w w' := ⟨h.os, h.tape, h.output, h.size, fun j hj hs => h.block j hj (fun e => hs e.symm)⟩
theorem Only.below {S : Nat → Prop} {w w' : World} {B : Nat} (h : Only S w w') (hB : B ≤ w.heap.size) (hS : ∀ j, j < B → ¬ S j) : Below B w w' := ⟨h.os, h.tape, h.output, h.size, fun j hj => h.block j (by omega) (hS j hj)⟩
theorem Only.alloc {S : Nat → Prop} {a w : World} (h : Only S a w) (o : Obj) : Only S a (w.alloc o) := h.trans (Only.of_below (S := fun _ => False) ((Below.refl _ w).alloc (Nat.le_refl _) o)) (fun _ _ h => h.elim)
theorem Only.drew {S : Nat → Prop} {a w : World} (h : Only S a w) : Only S a w.drew := ⟨h.os, h.tape, h.output, h.size, h.block⟩
theorem Only.setCell {S : Nat → Prop} {a w : World} (h : Only S a w) (x : Addr) (u : Value) (hx : S x.block ∨ a.heap.size ≤ x.block) : Only S a (w.setCell x u) := by
  refine ⟨h.os, h.tape, h.output, by simpa using h.size, fun j hj hs => ?_⟩
  rw [heap_setCell_other w x j u ?_]
  · exact h.block j hj hs
  · rintro rfl
    rcases hx with h1 | h1
    · exact hs h1
    · omega
theorem Only.cell {S : Nat → Prop} {w w' : World} (h : Only S w w') {b o : Nat} {v : Value} (hS : ¬ S b) (hc : w.cell? ⟨b, o, none⟩ = some v) : w'.cell? ⟨b, o, none⟩ = some v :=
  (World.cell?_of_block (a := ⟨b, o, none⟩) (h.block b (World.block_lt_of_cell? w _ hc) hS)).trans hc
theorem Only.frozen {S : Nat → Prop} {w w' : World} (h : Only S w w') {b o : Nat} (hb : b < w.heap.size) (hS : ¬ S b) : w'.frozen? ⟨b, o, none⟩ = w.frozen? ⟨b, o, none⟩ := World.frozen?_of_block (a := ⟨b, o, none⟩) (h.block b hb hS)
theorem ownsRow_only {S : Nat → Prop} {w w' : World} {base : Nat} {e : TypeId} {sz n : Nat} {v : Value} {xs : List Value} (h : w.ownsRow base e sz v n xs) (ho : Only S w w') (hS : ∀ g, v.ownBlock = some g → ¬ S g) : w'.ownsRow base e sz v n xs := by
  obtain ⟨h1, h2⟩ := h
  refine ⟨h1, ?_⟩
  rcases h2 with h2 | ⟨g, cap, cur, hv, hg, hh, r⟩
  · exact .inl h2
  · exact .inr ⟨g, cap, cur, hv, hg, (ho.block g (Array.getElem?_eq_some_iff.1 hh).1 (hS g (by rw [hv]; rfl))).trans hh, r⟩
/-- Rows of other elements lie in other blocks. -/
theorem own_apart {w : World} {base base' : Nat} {e e' : TypeId} {sz sz' n n' : Nat} {v v' : Value} {xs xs' : List Value} (h : w.ownsRow base e sz v n xs) (h' : w.ownsRow base' e' sz' v' n' xs') (hne : e ≠ e') (g : Nat) (hg : v.ownBlock = some g) : v'.ownBlock ≠ some g := by
  intro ee
  rcases h.2 with ⟨rfl, -⟩ | ⟨g1, cap, cur, rfl, -, hh, -⟩
  · simp [Value.ownBlock] at hg
  rcases h'.2 with ⟨rfl, -⟩ | ⟨g2, cap', cur', rfl, -, hh', -⟩
  · simp [Value.ownBlock] at ee
  simp [Value.ownBlock] at hg ee
  subst hg ee
  rw [hh] at hh'
  simp at hh'
  exact hne hh'.2
theorem Bytes.only {S : Nat → Prop} {w w' : World} {v : Value} {xs : List UInt8} (h : Bytes w v xs) (ho : Only S w w') (hS : ∀ a n c, v = .slice (some a) n c → ¬ S a.block) : Bytes w' v xs := by
  obtain ⟨a, cap, hv, h1, h2, h3⟩ := h
  refine ⟨a, cap, hv, h1, h2, ?_⟩
  rcases h3 with h3 | ⟨b, off, rfl, hc⟩
  · exact .inl h3
  · exact .inr ⟨b, off, rfl, fun i hi => ho.cell (hS _ _ _ hv) (hc i hi)⟩

/-! ### One more step of a region's walk -/
section
variable {P : Program} {l : List Oper} {Q : Exit → Act → World → Prop} {S : World → Prop} {T : Act → World → Prop} {i : Nat} {o : Oper} {π : List (Nat × Bool)} {a : Act} {w w' : World} {v' : Value}
theorem m_value (ho : l[i]? = some o) (hw : Region.wanted o (yielded l.toArray a.tmps) = true) (hrun : (execOp a.eval o).run P w = .ok (.value v') w') (hS : S w') (h : wpM P l.toArray Q S T π (a.put o.dst v') w') : wpM P l.toArray Q S T ((i, true) :: π) a w := by
  refine m_loud ho fun K hK => ?_
  rw [if_pos hw]
  unfold Oper.wp
  rw [hrun]
  exact hK _ _ hS h
/-- append to what the call owns or to nil. -/
theorem m_app {s x : Operand} {t e : TypeId} {z : Value} {sz bytes base n m : Nat} {v sv : Value} {xs ys : List Value} (T' : STy P t e z sz bytes)
    (hown : w.ownsRow base e sz v n xs) (hr : Rd w sz sv m ys) (h1 : ∀ u ∈ ys, u.oneCell' = true) (hm0 : 0 < m) (hb : (n + m) * bytes ≤ 140737488355328) (hm : n + m ≤ 9223372036854775807) (hbase : base ≤ w.heap.size)
    (ho : l[i]? = some o) (hw : Region.wanted o (yielded l.toArray a.tmps) = true) (hop : o.op = .call { callee := .builtin .append, args := #[s, x], argTypes := #[t, t] }) (hs : a.eval s = v) (hx : a.eval x = sv)
    (h : ∀ g cap w', w'.ownsRow base e sz (.slice (some ⟨g, 0, none⟩) (n + m) cap) (n + m) (xs ++ ys) → w'.ownsRow base e sz v n xs → w.grownBy w' v.ownBlock → ((∃ k c, v = .slice (some ⟨g, 0, none⟩) k c ∧ cap = c) ∨ w.heap.size ≤ g) → S w' ∧ wpM P l.toArray Q S T π (a.put o.dst (.slice (some ⟨g, 0, none⟩) (n + m) cap)) w') :
    wpM P l.toArray Q S T ((i, true) :: π) a w := by
  rcases hown.2 with ⟨rfl, h0⟩ | ⟨g, cap, cur, rfl, -⟩
  · subst h0
    obtain ⟨i', hi, hz, hsz, hby⟩ := T'.hi
    obtain ⟨a', scap, rfl, hl, hle, hcap, hc⟩ := hr
    rcases hc with hc | ⟨b, off, rfl, hc⟩
    · omega
    obtain ⟨g, cap, w', hrun, h2, h3, h4, h5⟩ := run_append_lies (P := P) w t o.type base e i' z sz bytes T'.ht hi hz hsz hby T'.hz T'.pos _ 0 xs hown ⟨b, off, none⟩ m scap ys hl (fun j u hj => by rw [add_off]; exact hc j u hj) h1 hm0 (by unfold maxLen; omega) hb hbase _ rfl
    have := h g cap w' h2 ⟨hown.1, .inl ⟨rfl, rfl⟩⟩ h3 (.inr (by
      rcases h4 with h4 | h4
      · simp [Value.ownBlock] at h4
      · omega))
    exact m_value ho hw (exec_app hop hs hx hrun) this.1 this.2
  · obtain ⟨g', cap', w', hrun, h2, h3, h4, h5⟩ := run_app_keeps (ty := o.type) T' hown hr h1 hm0 hb hm hbase
    have := h g' cap' w' h2 h3 h4 (by
      rcases h5 with ⟨rfl, rfl⟩ | h5
      · exact .inl ⟨_, _, rfl, rfl⟩
      · exact .inr h5)
    exact m_value ho hw (exec_app hop hs hx hrun) this.1 this.2
end
end Go.Proofs.Ytkabfjbmofpkdaa

/- From a reading of an argument as data to what the walks ask. -/
namespace Go.Proofs.Ytkabfjbmofpkdaa
open Go.RowKit Go.ChangeShapes Go.WideShapes Go.ChangeAt
set_option maxRecDepth 100000

theorem own_knob : ownKnob Try.prog.godebug = none := by kernel_rfl
theorem laid_out : laidOutB Try.prog = true := by kernel_rfl

theorem bulk_all {H : Type} (l : List (DataW H)) : l.length ≤ Rows.uptoBulkAll l := by
  induction l with
  | nil => simp
  | cons d l ih =>
    have : 1 ≤ Rows.uptoBulk d := by
      cases d with
      | lit x => cases x <;> simp only [Rows.uptoBulk] <;> omega
      | _ => simp only [Rows.uptoBulk] <;> omega
    simp only [List.length_cons, Rows.uptoBulkAll]; omega

theorem addr_spot {w : World} {a : Addr} {v : Value} (h : w.cell? (a.add 0) = some v) : a = ⟨a.block, a.off, none⟩ := by
  obtain ⟨b, o, s⟩ := a
  have := World.cell?_spot h
  simp [Addr.add] at this
  simp [this]

theorem length_bulk {H : Type} (es sp : List (DataW H)) : es.length ≤ Rows.uptoBulk (.slice es sp) := by
  have := bulk_all es
  simp only [Rows.uptoBulk]; omega

/-- A slice's datum of so many elements. -/
def Shape {H : Type} (d : DataW H) (n : Nat) : Prop := n = 0 ∨ ∃ es sp, d = .slice es sp ∧ es.length = n

theorem reach_bytes {H : Type} {ts : List TypeId} {ds : List (DataW H)} {d : DataW H} {n j : Nat} (h : (DataW.weightsEach Try.prog ts ds).all (· ≤ reachBytes) = true) (ht : ts[j]? = some 96) (hd : ds[j]? = some d) (hs : Shape d n) : n ≤ 140737488351232 := by
  rcases hs with rfl | ⟨es, sp, rfl, rfl⟩
  · omega
  · have := sized_slice h ht hd Try.underlying96
    have hb : Try.prog.bytesOf 5 = 1 := by kernel_rfl
    have hr : reachBytes = 140737488351232 := rfl
    rw [hb, hr] at this
    omega

/-- []byte, as a cell -/
theorem cells_bytes {H : Type} {enc : TypeId × Value → H} {W : World} {held : Bool} {fuel : Nat} {cs : List Value} {y : DataW H × List MemPlace}
    (hf : DataW.trod enc Try.prog W 0 (fun _ => true) held fuel 96 cs = some y) : ∃ v xs, cs = [v] ∧ Bytes W v xs ∧ xs.length + 1 ≤ Rows.uptoBulk y.1 ∧ Shape y.1 xs.length := by
  rcases open_ints Try.underlying96 Try.underlying5 (by kernel_rfl) hf with ⟨rfl, rfl⟩ | ⟨x, len, cap, zs, rfl, _, hl, hm, hz, rfl, hcell, hwz⟩
  · exact ⟨_, [], rfl, Bytes.nil W, by simp [Rows.uptoBulk], .inl rfl⟩
  · simp only [if_true] at hz
    have hxl : ((zs.take len).map fun n => UInt8.ofNat n.toNat).length = len := by simp; omega
    refine ⟨_, (zs.take len).map fun n => UInt8.ofNat n.toNat, rfl, ⟨some x, cap, by rw [hxl], by rw [hxl]; exact hl, by unfold maxLen at hm; omega, ?_⟩, ?_, .inr ⟨_, _, rfl, by rw [hxl]; simp [lits]; omega⟩⟩
    · by_cases h0 : cap = 0
      · exact .inl h0
      · have hs := addr_spot (hcell 0 (by omega))
        refine .inr ⟨x.block, x.off, by rw [← hs], fun i hi => ?_⟩
        rw [hxl] at hi
        have hi2 : i < zs.length := by omega
        have := hcell i hi2
        rw [hs, add_off] at this
        rw [this]
        have hw := hwz (zs.getD i 0) (by rw [List.getD_eq_getElem?_getD, List.getElem?_eq_getElem hi2]; exact List.getElem_mem hi2)
        have hb := Go.bounds_u8 hw
        have e : ((zs.take len).map fun n => UInt8.ofNat n.toNat).getD i 0 = UInt8.ofNat (zs.getD i 0).toNat := by
          rw [List.getD_eq_getElem?_getD, List.getElem?_map, List.getElem?_take_of_lt hi, List.getD_eq_getElem?_getD, List.getElem?_eq_getElem hi2]; rfl
        unfold bt
        rw [e]
        generalize zs.getD i 0 = q at *
        congr 2
        simp; omega
    · rw [hxl]
      have h1 := bulk_all (lits .u8 (zs.take len) : List (DataW H))
      have h2 : (lits .u8 (zs.take len) : List (DataW H)).length = len := by simp [lits]; omega
      simp only [Rows.uptoBulk]
      omega

/-- []byte -/
theorem open_bytes {H : Type} {enc : TypeId × Value → H} {W : World} {B : Nat} {held : Bool} {v : Value} {d : DataW H} {p : List MemPlace}
    (ok : Value.okWide Try.prog W .any B 96 v) (h : DataW.Trod enc Try.prog W 0 (fun _ => true) held 96 v d p) : ∃ xs, Bytes W v xs ∧ xs.length + 1 ≤ Rows.uptoBulk d ∧ Shape d xs.length := by
  obtain ⟨a, len, cap, rfl⟩ := okWide_slice Try.underlying96 ok
  obtain ⟨fuel, hf⟩ := h
  obtain ⟨v, xs, hcs, hb, hl⟩ := cells_bytes hf
  simp [Value.cells] at hcs
  subst hcs
  exact ⟨xs, hb, hl⟩

/-- A slice whose elements are one cell each, read one by one. -/
def SliceOf {α : Type} (R : World → Value → α → Prop) (w : World) (v : Value) (ys : List α) : Prop :=
  ∃ vs : List Value, Rd w 1 v ys.length vs ∧ ∀ (i : Nat) (u : Value) (y : α), vs[i]? = some u → ys[i]? = some y → R w u y

theorem cells_slice1 {H : Type} {enc : TypeId × Value → H} {W : World} {held : Bool} {fuel : Nat} {cs : List Value} {y : DataW H × List MemPlace} {t e : TypeId} {α : Type} [Inhabited α] (R : World → Value → α → Prop) (m : α → Nat)
    (ht : Try.prog.underlying t = some (.slice e)) (hc : Try.prog.cellsOf e = 1)
    (hE : ∀ fuel v z, DataW.trod enc Try.prog W 0 (fun _ => true) held fuel e [v] = some z → ∃ y : α, R W v y ∧ m y ≤ Rows.uptoBulk z.1)
    (hf : DataW.trod enc Try.prog W 0 (fun _ => true) held fuel t cs = some y) : ∃ v ys, cs = [v] ∧ SliceOf R W v ys ∧ ys.length + 1 ≤ Rows.uptoBulk y.1 ∧ (ys.map m).sum + 1 ≤ Rows.uptoBulk y.1 := by
  rcases Go.Deep.open_slice1 ht hc hf with ⟨rfl, rfl⟩ | ⟨a, len, cap, mm, n, V, D, Pl, rfl, _, hl, hm, hmm, rfl, hx⟩
  · exact ⟨_, [], rfl, ⟨[], Rd.nil W 1, fun i u y h => by simp at h⟩, by simp [Rows.uptoBulk], by simp [Rows.uptoBulk]⟩
  · simp only [if_true] at hmm
    subst hmm
    have hex : ∀ i, i < len → ∃ y : α, R W (V i) y ∧ m y ≤ Rows.uptoBulk (D i) := fun i hi => hE _ _ _ (hx i (by omega)).2
    obtain ⟨Y, hY⟩ := Go.Deep.choose_lt hex
    refine ⟨_, (List.range len).map Y, rfl, ⟨(List.range len).map V, ⟨some a, mm, by simp, by simp, by simpa using hl, by unfold maxLen at hm; omega, ?_⟩, ?_⟩, ?_, ?_⟩
    · by_cases h0 : mm = 0
      · exact .inl h0
      · have hs := addr_spot (hx 0 (by omega)).1
        refine .inr ⟨a.block, a.off, by rw [← hs], fun j u hj => ?_⟩
        have hjl : j < len := by have := (List.getElem?_eq_some_iff.1 hj).1; simpa using this
        have := (hx j (by omega)).1
        rw [hs, add_off] at this
        simp [hjl] at hj
        rw [this, hj]
    · intro i u y hu hy
      have hil : i < len := by have := (List.getElem?_eq_some_iff.1 hu).1; simpa using this
      simp [hil] at hu hy
      rw [← hu, ← hy]
      exact (hY i hil).1
    · have h1 := bulk_all ((List.range len).map D)
      simp only [Rows.uptoBulk, List.length_map, List.length_range] at h1 ⊢
      omega
    · have hsum : ∀ l : List Nat, (∀ i ∈ l, i < len) → ((l.map Y).map m).sum ≤ Rows.uptoBulkAll (l.map D) := by
        intro l
        induction l with
        | nil => intro _; simp
        | cons i l ih =>
          intro hl
          have h1 := (hY i (hl i (by simp))).2
          have h2 := ih (fun j hj => hl j (by simp [hj]))
          simp only [List.map_cons, List.sum_cons, Rows.uptoBulkAll]; omega
      have := hsum (List.range len) (fun i hi => List.mem_range.1 hi)
      simp only [Rows.uptoBulk]
      omega


/-- uint32 -/
theorem open_u32 {H : Type} {enc : TypeId × Value → H} {W : World} {B : Nat} {held : Bool} {v : Value} {d : DataW H} {p : List MemPlace}
    (ok : Value.okWide Try.prog W .any B 31 v) (h : DataW.Trod enc Try.prog W 0 (fun _ => true) held 31 v d p) : ∃ s : BitVec 32, v = .int .u32 s.toNat := by
  obtain ⟨x, rfl, rfl, rfl, wx⟩ := open_int Try.underlying31 ok h
  refine ⟨BitVec.ofNat 32 x.toNat, ?_⟩
  have hb := Go.bounds_u32 wx
  congr 1
  simp; omega
/-- int -/
theorem open_i64 {H : Type} {enc : TypeId × Value → H} {W : World} {B : Nat} {held : Bool} {v : Value} {d : DataW H} {p : List MemPlace}
    (ok : Value.okWide Try.prog W .any B 3 v) (h : DataW.Trod enc Try.prog W 0 (fun _ => true) held 3 v d p) : ∃ n : Int, v = .int .i64 n ∧ -9223372036854775808 ≤ n ∧ n ≤ 9223372036854775807 := by
  obtain ⟨x, rfl, rfl, rfl, wx⟩ := open_int Try.underlying3 ok h
  exact ⟨x, rfl, Go.bounds_i64 wx⟩
end Go.Proofs.Ytkabfjbmofpkdaa

/- Rows of structs: cells one element behind the other; how such a row is read of an argument. -/
namespace Go.Proofs.Ytkabfjbmofpkdaa
open Go.RowKit Go.ChangeShapes Go.WideShapes Go.ChangeAt
set_option maxRecDepth 100000

section
variable {α : Type} {f : α → List Value} {k : Nat}

def flatF (f : α → List Value) (es : List α) : List Value := es.flatMap f
theorem flatF_nil : flatF f [] = [] := rfl
theorem flatF_append (a b : List α) : flatF f (a ++ b) = flatF f a ++ flatF f b := by simp [flatF]
theorem flatF_one (e : α) : flatF f [e] = f e := by simp [flatF]
theorem flatF_length (hk : ∀ a, (f a).length = k) (es : List α) : (flatF f es).length = es.length * k := by
  induction es with
  | nil => simp [flatF]
  | cons e es ih =>
    simp only [flatF, List.flatMap_cons, List.length_append, List.length_cons] at ih ⊢
    rw [ih, hk, Nat.add_mul, Nat.one_mul, Nat.add_comm]
theorem flatF_take (hk : ∀ a, (f a).length = k) (es : List α) (n : Nat) (hn : n ≤ es.length) : (flatF f es).take (n * k) = flatF f (es.take n) := by
  have h1 := flatF_append (f := f) (es.take n) (es.drop n)
  rw [List.take_append_drop] at h1
  have h : (flatF f (es.take n)).length = n * k := by rw [flatF_length hk, List.length_take, Nat.min_eq_left hn]
  rw [h1, ← h, List.take_left]
theorem flatF_drop (hk : ∀ a, (f a).length = k) (es : List α) (n : Nat) (hn : n ≤ es.length) : (flatF f es).drop (n * k) = flatF f (es.drop n) := by
  have h1 := flatF_append (f := f) (es.take n) (es.drop n)
  rw [List.take_append_drop] at h1
  have h : (flatF f (es.take n)).length = n * k := by rw [flatF_length hk, List.length_take, Nat.min_eq_left hn]
  rw [h1, ← h, List.drop_left]
theorem flatF_get (hk : ∀ a, (f a).length = k) (es : List α) (i j : Nat) (hi : i < es.length) (hj : j < k) : (flatF f es)[i * k + j]? = (f es[i])[j]? := by
  have hd := flatF_drop hk es i (by omega)
  rw [List.drop_eq_getElem_cons hi] at hd
  rw [← List.getElem?_drop, hd]
  show (f es[i] ++ flatF f (es.drop (i + 1)))[j]? = _
  rw [List.getElem?_append_left (by rw [hk]; exact hj)]
/-- A cell of the row, by its place. -/
theorem flatF_cell (hk : ∀ a, (f a).length = k) (h0 : 0 < k) (es : List α) (j : Nat) (u : Value) (h : (flatF f es)[j]? = some u) : ∃ i, ∃ hi : i < es.length, ∃ r, r < k ∧ j = i * k + r ∧ (f es[i])[r]? = some u := by
  have hj : j < es.length * k := by have := (List.getElem?_eq_some_iff.1 h).1; rwa [flatF_length hk] at this
  have hi : j / k < es.length := Nat.div_lt_of_lt_mul (by rw [Nat.mul_comm]; exact hj)
  have hr : j % k < k := Nat.mod_lt _ h0
  have e : j = j / k * k + j % k := by rw [Nat.mul_comm]; exact (Nat.div_add_mod j k).symm
  refine ⟨j / k, hi, j % k, hr, e, ?_⟩
  rw [← flatF_get hk es _ _ hi hr, ← e, h]

/-- Element i of a row that is read. -/
theorem rdF_at (hk : ∀ a, (f a).length = k) {w : World} {a : Option Addr} {n cap : Nat} {es : List α} (h : Rd w k (.slice a n cap) es.length (flatF f es)) (i : Nat) (hi : i < es.length) :
    ∃ b o, a = some ⟨b, o, none⟩ ∧ ∀ (j : Nat) (u : Value), j < k → (f es[i])[j]? = some u → w.cell? ⟨b, o + i * k + j, none⟩ = some u := by
  obtain ⟨a', cap', hv, h0, h1, h2, h3⟩ := h
  simp only [Value.slice.injEq] at hv
  obtain ⟨rfl, rfl, rfl⟩ := hv
  rcases h3 with h3 | ⟨b, o, rfl, hc⟩
  · omega
  · refine ⟨b, o, rfl, fun j u hj hu => ?_⟩
    rw [Nat.add_assoc]
    exact hc _ _ (by rw [flatF_get hk es i j hi hj]; exact hu)
theorem Rd.slice {w : World} {sz n : Nat} {v : Value} {cs : List Value} (h : Rd w sz v n cs) : ∃ a cap, v = .slice a n cap ∧ n ≤ cap ∧ cap ≤ 9223372036854775807 := by
  obtain ⟨a, cap, hv, -, h1, h2, -⟩ := h
  exact ⟨a, cap, hv, h1, h2⟩

/-- A slice of structs, of its cells' reading. -/
theorem cells_structs [Inhabited α] {H : Type} {enc : TypeId × Value → H} {W : World} {held : Bool} {fuel : Nat} {cs : List Value} {y : DataW H × List MemPlace} {t e : TypeId} {Q : α → Prop}
    (ht : Try.prog.underlying t = some (.slice e)) (hc : Try.prog.cellsOf e = k) (hk : ∀ a, (f a).length = k) (h0 : 0 < k)
    (hE : ∀ fuel cs z, DataW.trod enc Try.prog W 0 (fun _ => true) held fuel e cs = some z → ∃ a : α, cs = f a ∧ Q a)
    (hf : DataW.trod enc Try.prog W 0 (fun _ => true) held fuel t cs = some y) : ∃ v es, cs = [v] ∧ Rd W k v es.length (flatF f es) ∧ (∀ e ∈ es, Q e) ∧ es.length + 1 ≤ Rows.uptoBulk y.1 ∧ Shape y.1 es.length := by
  rcases Go.Deep.open_slice ht hf with ⟨rfl, rfl⟩ | ⟨a, len, cap, m, n, D, Pl, rfl, -, hl, hm, hmm, rfl, hx⟩
  · exact ⟨_, [], rfl, Rd.nil W k, fun e he => by simp at he, by simp [Rows.uptoBulk], .inl rfl⟩
  · simp only [if_true] at hmm
    subst hmm
    rw [hc] at hx
    have hex : ∀ i, i < m → ∃ e : α, (∀ j u, j < k → (f e)[j]? = some u → W.cell? (a.add (i * k + j)) = some u) ∧ Q e := by
      intro i hi
      obtain ⟨cs', h1, h2⟩ := hx i hi
      obtain ⟨_, hlen, hcell⟩ := World.cells?_some h1
      obtain ⟨e, rfl, hq⟩ := hE _ _ _ h2
      refine ⟨e, fun j u hj hu => ?_, hq⟩
      have := hcell j hj
      rw [Go.Deep.add_add] at this
      rw [this, hu]
    obtain ⟨F, hF⟩ := Go.Deep.choose_lt hex
    have hget : ∀ i (hi : i < ((List.range len).map F).length), ((List.range len).map F)[i] = F i := fun i hi => by simp
    refine ⟨_, (List.range len).map F, rfl, ⟨some a, m, by simp, flatF_length hk _, by simpa using hl, by unfold maxLen at hm; omega, ?_⟩, ?_, ?_, ?_⟩
    · by_cases hz : m = 0
      · exact .inl hz
      · have hlt : 0 < (f (F 0)).length := by rw [hk]; exact h0
        have hs := addr_spot (a := a) (v := (f (F 0))[0]) (by have := (hF 0 (by omega)).1 0 _ h0 (List.getElem?_eq_getElem hlt); simpa using this)
        refine .inr ⟨a.block, a.off, by rw [← hs], fun j u hj => ?_⟩
        obtain ⟨i, hi, r, hr, rfl, hu⟩ := flatF_cell hk h0 _ j u hj
        rw [hget i hi] at hu
        have hil : i < len := by simpa using hi
        have := (hF i (by omega)).1 r u hr hu
        rw [hs, add_off] at this
        exact this
    · intro e he
      obtain ⟨i, hi, rfl⟩ := List.mem_map.1 he
      exact (hF i (by have := List.mem_range.1 hi; omega)).2
    · have h1 := bulk_all ((List.range len).map D)
      simp only [Rows.uptoBulk, List.length_map, List.length_range] at h1 ⊢
      omega
    · exact .inr ⟨_, _, rfl, by simp⟩
end
end Go.Proofs.Ytkabfjbmofpkdaa

/- copy between rows, what stands behind an owned row, append of zeros: no program in sight. -/
namespace Go.Proofs.Ytkabfjbmofpkdaa
open Go.RowKit Go.Lib
variable {P : Program}

/-- xs with vs written from place o on. -/
def writeL : List Value → Nat → List Value → List Value
  | xs, _, [] => xs
  | xs, o, v :: r => writeL (xs.set o v) (o + 1) r
theorem writeL_length : ∀ (vs xs : List Value) (o : Nat), (writeL xs o vs).length = xs.length
  | [], _, _ => rfl
  | v :: r, xs, o => by rw [writeL, writeL_length r]; simp
theorem writeL_eq : ∀ (vs xs : List Value) (o : Nat), o + vs.length ≤ xs.length → writeL xs o vs = xs.take o ++ vs ++ xs.drop (o + vs.length)
  | [], xs, o, _ => by simp [writeL]
  | v :: r, xs, o, h => by
    rw [List.length_cons] at h
    rw [writeL, writeL_eq r (xs.set o v) (o + 1) (by simp; omega)]
    have h1 : (xs.set o v).take (o + 1) = xs.take o ++ [v] := by
      rw [List.take_set, List.take_succ_eq_append_getElem (by omega), List.set_append_right _ _ (by simp; omega)]
      simp [Nat.min_eq_left (by omega : o ≤ xs.length)]
    have h2 : (xs.set o v).drop (o + 1 + r.length) = xs.drop (o + (v :: r).length) := by
      rw [List.drop_set_of_lt (by omega), List.length_cons]
      congr 1
      omega
    rw [h1, h2]
    simp

theorem own_write {base g n cap sz : Nat} {e : TypeId} : ∀ (vs : List Value) (o : Nat) (w : World) (xs : List Value), w.ownsRow base e sz (.slice (some ⟨g, 0, none⟩) n cap) n xs →
    (w.setCells g o vs).ownsRow base e sz (.slice (some ⟨g, 0, none⟩) n cap) n (writeL xs o vs) ∧ w.grownBy (w.setCells g o vs) (some g)
  | [], _, _, _, h => ⟨h, ⟨rfl, rfl, rfl, Nat.le_refl _, fun _ _ _ => rfl⟩⟩
  | v :: r, o, w, xs, h => by
    have h1 := World.ownsRow.stored h o v
    have h2 := own_write r (o + 1) _ _ h1.1
    exact ⟨h2.1, h1.2.trans h2.2⟩

/-- The row with one more of what stands behind it. -/
theorem own_extend {w : World} {base g n m cap sz : Nat} {e : TypeId} {xs : List Value} (h : w.ownsRow base e sz (.slice (some ⟨g, 0, none⟩) n cap) n xs) (hm : n + m ≤ cap) :
    ∃ tl, tl.length = m * sz ∧ w.ownsRow base e sz (.slice (some ⟨g, 0, none⟩) (n + m) cap) (n + m) (xs ++ tl) := by
  rcases h.2 with ⟨h', -⟩ | ⟨g', cap', cur, h', hb, hg, hnc, hcm, hcs, htake⟩
  · simp at h'
  · simp only [Value.slice.injEq, Option.some.injEq, Addr.mk.injEq, and_true, true_and] at h'
    obtain ⟨rfl, rfl⟩ := h'
    have hle : (n + m) * sz ≤ cap * sz := Nat.mul_le_mul_right _ hm
    have hl : cur.toList.length = cap * sz := by simpa using hcs
    have hn : n * sz + m * sz = (n + m) * sz := by rw [Nat.add_mul]
    have e1 : cur.toList.take ((n + m) * sz) = xs ++ (cur.toList.drop (n * sz)).take (m * sz) := by
      rw [← hn, List.take_add, htake]
    refine ⟨(cur.toList.drop (n * sz)).take (m * sz), by rw [List.length_take, List.length_drop, hl]; omega, ?_, .inr ⟨g, cap, cur, rfl, hb, hg, hm, hcm, hcs, e1⟩⟩
    rw [List.length_append, h.1, List.length_take, List.length_drop, hl]
    omega

theorem own_there' {w : World} {base g n cap sz : Nat} {e : TypeId} {xs : List Value} (h : w.ownsRow base e sz (.slice (some ⟨g, 0, none⟩) n cap) n xs) (j : Nat) (hj : j < cap * sz) : (w.cell? ⟨g, j, none⟩).isSome = true := by
  rcases h.2 with ⟨h', _⟩ | ⟨g', cap', cur, h', _, hg, _, _, hcs, _⟩
  · simp at h'
  · simp only [Value.slice.injEq, Option.some.injEq, Addr.mk.injEq, and_true, true_and] at h'
    obtain ⟨rfl, rfl⟩ := h'
    simp only [World.cell?, hg]
    simp [hcs, hj]
theorem own_shape {w : World} {base g n cap sz : Nat} {e : TypeId} {xs : List Value} (h : w.ownsRow base e sz (.slice (some ⟨g, 0, none⟩) n cap) n xs) : w.shape? g = some (e, cap * sz) := by
  rcases h.2 with ⟨h', _⟩ | ⟨g', cap', cur, h', _, hg, _, _, hcs, _⟩
  · simp at h'
  · simp only [Value.slice.injEq, Option.some.injEq, Addr.mk.injEq, and_true, true_and] at h'
    obtain ⟨rfl, rfl⟩ := h'
    simp [World.shape?, hg, hcs]

/-- copy(d, s) of elements of sz cells. -/
theorem run_copy_k (w : World) {dT sT ty elem : TypeId} {b o dLen dCap : Nat} {a : Addr} {sLen sCap sz n : Nat} {cs : List Value} {z : Value} {bytes : Nat} (T : STy P dT elem z sz bytes) (hn : Nat.min sLen dLen = n) (hcl : cs.length = n * sz)
    (hsrc : ∀ j v, cs[j]? = some v → w.cell? (a.add j) = some v) (hc : ∀ j, j < cs.length → (w.cell? ⟨b, o + j, none⟩).isSome = true) (hf : ∀ j, j < cs.length → w.frozen? ⟨b, o + j, none⟩ = false) (h1 : ∀ v ∈ cs, v.oneCell' = true) :
    (Builtin.copy_ #[dT, sT] ty #[.slice (some ⟨b, o, none⟩) dLen dCap, .slice (some a) sLen sCap]).run P w = .ok (goInt n) (w.setCells b o cs) := by
  have hl := run_loadCells_list (P := P) w a cs hsrc
  have hst := run_storeCells_cells (P := P) b o cs 0 w (by simpa using hc) (by simpa using hf) h1
  obtain ⟨i, hi, -, hs, -⟩ := T.hi
  rw [hcl] at hl
  simp [Builtin.copy_, run_underlying T.ht, Builtin.lenOf, Builtin.firstCells, sizeOf, typeInfo, hi, hs, hn, hl, hst]

theorem exec_copy {o : Oper} {a : Act} {w w' : World} {s x : Operand} {t : TypeId} {v sv v' : Value} (ho : o.op = .call { callee := .builtin .copy, args := #[s, x], argTypes := #[t, t] }) (hs : a.eval s = v) (hx : a.eval x = sv)
    (hrun : (Builtin.copy_ #[t, t] o.type #[v, sv]).run P w = .ok v' w') : (execOp a.eval o).run P w = .ok (.value v') w' := by
  simp [execOp, ho, resolve, invoke, builtin, hs, hx, hrun, Result.andThen]
theorem exec_appz {o : Oper} {a : Act} {w w' : World} {s x : Operand} {t t' : TypeId} {v sv v' : Value} (ho : o.op = .call { callee := .builtin .append, args := #[s, x], argTypes := #[t, t'] }) (hs : a.eval s = v) (hx : a.eval x = sv)
    (hrun : (Builtin.append_ #[t, t'] o.type #[v, sv]).run P w = .ok v' w') : (execOp a.eval o).run P w = .ok (.value v') w' := by
  simp [execOp, ho, resolve, invoke, builtin, hs, hx, hrun, Result.andThen]

/-- append(s[:i], make([]T, k)...) where there is no room: a new row. -/
theorem run_app_zeros {w : World} {t tn ty e : TypeId} {z : Value} {sz bytes base i k g cap n : Nat} {cs : List Value} {kn : IntKind} (T : STy P t e z sz bytes) (htn : P.underlying tn = some (.int kn)) (hown : w.ownsRow base e sz (.slice (some ⟨g, 0, none⟩) n cap) n cs)
    (hin : i ≤ n) (hk : 0 < k) (hroom : cap < i + k) (hbig : (i + k) * bytes ≤ 140737488355328) (h63 : i + k ≤ 9223372036854775807) :
    ∃ c w' zs, zs.length = k * sz ∧ i + k ≤ c ∧ c ≤ 9223372036854775807 ∧ (Builtin.append_ #[t, tn] ty #[.slice (some ⟨g, 0, none⟩) i cap, .int .i64 k]).run P w = .ok (.slice (some ⟨w.heap.size, 0, none⟩) (i + k) c) w' ∧
      w'.ownsRow w.heap.size e sz (.slice (some ⟨w.heap.size, 0, none⟩) (i + k) c) (i + k) (cs.take (i * sz) ++ zs) ∧ Below w.heap.size w w' := by
  obtain ⟨i0, hi, hz, hsz, hby⟩ := T.hi
  have hcl : cs.length = n * sz := hown.1
  have hle : i * sz ≤ n * sz := Nat.mul_le_mul_right _ hin
  have htl : (cs.take (i * sz)).length = i * sz := by rw [List.length_take]; omega
  have hold : (Builtin.firstCells i0.size i (.slice (some ⟨g, 0, none⟩) i cap)).run P w.drew = .ok (cs.take (i * sz)).toArray w.drew := by
    rw [hsz]
    refine run_firstCells_some w.drew sz i ⟨g, 0, none⟩ i cap (cs.take (i * sz)) htl (fun j v hj => ?_)
    rw [List.getElem?_take] at hj
    split at hj
    · have := World.ownsRow.cells hown rfl _ _ hj
      rw [add_off] at this ⊢
      exact this
    · cases hj
  have hfit := growslice_fits (need := i + k) (old := cap) (bytes := i0.bytes) hroom (by rw [hby]; exact hbig)
  have hkb : k * i0.bytes ≤ 281474976710656 := by
    have := Nat.mul_le_mul_right bytes (show k ≤ i + k by omega)
    rw [hby]
    omega
  have h := run_append_grow_zeros (P := P) w t tn ty e i0 z .i64 kn T.ht htn hi hz (some ⟨g, 0, none⟩) i cap (cs.take (i * sz)) hold k hk (by rw [hsz]; exact T.pos) hroom (by omega) hkb hfit
  have hge := grownCap_ge w (i + k) cap e
  have hmx := grownCap_le_maxLen w (i + k) cap e (by unfold maxLen; omega)
  have hmx' : grownCap w (i + k) cap e ≤ 9223372036854775807 := by unfold maxLen at hmx; omega
  have hzl : ∀ q, (Builtin.zeroCells z.cells q).size = q * sz := fun q => by simp [Builtin.zeroCells, T.hz]
  refine ⟨_, _, (Builtin.zeroCells z.cells k).toList, by simpa using hzl k, hge, hmx', h, ⟨?_, .inr ⟨w.heap.size, _, _, rfl, Nat.le_refl _, heap_alloc_new w.drew _, hge, hmx, ?_, ?_⟩⟩, ?_⟩
  · rw [List.length_append, htl]
    simp only [Array.length_toList, hzl]
    rw [Nat.add_mul]
  · simp only [Array.size_append, hzl, List.size_toArray, htl]
    rw [← Nat.add_mul, ← Nat.add_mul]
    congr 1
    omega
  · have e1 : (cs.take (i * sz)).length + (Builtin.zeroCells z.cells k).toList.length = (i + k) * sz := by
      rw [htl]; simp only [Array.length_toList, hzl]; rw [Nat.add_mul]
    simp only [Array.toList_append]
    exact List.take_left' (by rw [List.length_append]; exact e1)
  · exact ((Below.refl w.heap.size w).drew).alloc (Nat.le_refl _) _
end Go.Proofs.Ytkabfjbmofpkdaa

/- Boxes that a call makes: what stands in them later. -/
namespace Go.Proofs.Ytkabfjbmofpkdaa
open Go.RowKit

theorem below_alloc (w : World) (o : Obj) : Below w.heap.size w (w.alloc o) := (Below.refl _ _).alloc (Nat.le_refl _) _
theorem below_then {B : Nat} {a b c : World} (h : Below B a b) (k : Below b.heap.size b c) (hB : B ≤ b.heap.size) : Below B a c := h.trans (k.mono hB)
theorem below_go {a b c : World} (h : Below a.heap.size a b) (k : Below b.heap.size b c) : Below a.heap.size a c := h.trans (k.mono h.size)
theorem below_box {a b : World} (h : Below a.heap.size a b) (o : Obj) : Below a.heap.size a (b.alloc o) := h.alloc h.size _
theorem box_self {w : World} {cs : Array Value} {e : TypeId} (o : Nat) (u : Value) (h : cs[o]? = some u) : (w.alloc (.cells cs e)).cell? ⟨w.heap.size, o, none⟩ = some u := by
  rw [World.cell?_alloc_at _ _ _ _ rfl]; exact h
theorem box_cell {w w' : World} {cs : Array Value} {e : TypeId} (hb : Below (w.alloc (.cells cs e)).heap.size (w.alloc (.cells cs e)) w') (o : Nat) (u : Value) (h : cs[o]? = some u) : w'.cell? ⟨w.heap.size, o, none⟩ = some u :=
  cell_later hb (box_self o u h)
theorem box_frozen {w w' : World} {cs : Array Value} {e : TypeId} (hb : Below (w.alloc (.cells cs e)).heap.size (w.alloc (.cells cs e)) w') (o : Nat) : w'.frozen? ⟨w.heap.size, o, none⟩ = false := by
  rw [World.frozen?_of_block (a := ⟨w.heap.size, o, none⟩) (hb.block w.heap.size (by simp)), World.frozen?_alloc_at _ _ _ _ rfl]
theorem box_lt {w w' : World} {cs : Array Value} {e : TypeId} (hb : Below (w.alloc (.cells cs e)).heap.size (w.alloc (.cells cs e)) w') : w.heap.size < w'.heap.size := by have := hb.size; simp at this; omega
/-- The same, for a box that stands in a world of many. -/
theorem frozen_later {w w' : World} {a : Addr} {v : Value} (hb : Below w.heap.size w w') (hc : w.cell? a = some v) (hf : w.frozen? a = false) : w'.frozen? a = false :=
  (World.frozen?_of_block (hb.block a.block (World.block_lt_of_cell? w _ hc))).trans hf
end Go.Proofs.Ytkabfjbmofpkdaa

/- Layers 13 and 15, plain: rows, records, Last, Look, Check. -/
namespace Go.Proofs.Ytkabfjbmofpkdaa

structure Row where
  p : Int
  q : Int
  l : Int
structure Rec where
  p : Int
  s : Int
  q : Int
  key : ByteArray
  val : Int

/-- The last number that was taken. -/
def lastOf (rs : List Row) (p q : Int) : Int := match rs.find? fun r => r.p == p && r.q == q with
  | some r => r.l
  | none => -1
theorem lastOf_nil (p q : Int) : lastOf [] p q = -1 := rfl
theorem lastOf_hit (r : Row) (rs : List Row) : lastOf (r :: rs) r.p r.q = r.l := by simp [lastOf]
theorem lastOf_miss (r : Row) (rs : List Row) (p q : Int) (h : ¬ (r.p = p ∧ r.q = q)) : lastOf (r :: rs) p q = lastOf rs p q := by
  have : (r.p == p && r.q == q) = false := by
    rw [Bool.and_eq_false_iff]
    by_cases h1 : r.p = p
    · exact .inr (beq_eq_false_iff_ne.2 fun h2 => h ⟨h1, h2⟩)
    · exact .inl (beq_eq_false_iff_ne.2 h1)
  unfold lastOf
  rw [List.find?_cons, this]

/-- What a number is. -/
def lookOf (rs : List Row) (p q s : Int) : Int :=
  if lastOf rs p q = 9223372036854775807 ∧ s = 9223372036854775807 then 4 else if s ≤ lastOf rs p q then 2 else if s = lastOf rs p q + 1 then 1 else 3

def goodRec (r : Rec) : Bool := decide (0 ≤ r.p ∧ r.p ≤ 63 ∧ 0 ≤ r.s ∧ 0 ≤ r.q ∧ r.q < 8 ∧ r.key.size ≤ 32)

/-- Is a number of the record's producer and part on the way? -/
def onWay (way : List Rec) (r : Rec) (s : Int) : Bool := way.any fun o => o.p == r.p && o.q == r.q && o.s == s
def mine (l : List Rec) (p : Int) : Nat := (l.filter fun o => o.p == p).length

/-- What Check answers, from the last number, the counter and the open records. -/
def checkCode (rs : List Row) (cnt : Int) (os way : List Rec) (r : Rec) : Int :=
  if goodRec r = false then 3
  else if lookOf rs r.p r.q r.s = 2 then 0
  else if lookOf rs r.p r.q r.s = 4 ∨ cnt = 9223372036854775807 then 14
  else if onWay way r r.s then 0
  else if ∃ d : Nat, d < (r.s - (lastOf rs r.p r.q + 1)).toNat ∧ onWay way r (lastOf rs r.p r.q + 1 + d) = false then 11
  else if 32 ≤ mine os r.p + mine way r.p ∨ 256 ≤ way.length ∨ 512 ≤ os.length + way.length then 10
  else 0

theorem onWay_reverse (way : List Rec) (r : Rec) (s : Int) : onWay way.reverse r s = onWay way r s := by
  unfold onWay
  rw [List.any_reverse]
theorem mine_reverse (l : List Rec) (p : Int) : mine l.reverse p = mine l p := by simp [mine, List.filter_reverse]
theorem checkCode_reverse (rs : List Row) (cnt : Int) (os way : List Rec) (r : Rec) : checkCode rs cnt os way.reverse r = checkCode rs cnt os way r := by
  unfold checkCode
  simp only [onWay_reverse, mine_reverse, List.length_reverse]
end Go.Proofs.Ytkabfjbmofpkdaa

/- Layers 9, 13, 15: Good, Last, Look walked. -/
namespace Go.Proofs.Ytkabfjbmofpkdaa
open Go.RowKit

def Row.cells (r : Row) : List Value := [.int .i64 r.p, .int .i64 r.q, .int .i64 r.l]
def Rec.cells (r : Rec) : List Value := [.int .i64 r.p, .int .i64 r.s, .int .i64 r.q, .string r.key, .int .u32 r.val]
theorem row3 (r : Row) : (Row.cells r).length = 3 := rfl
theorem rec5 (r : Rec) : (Rec.cells r).length = 5 := rfl

/-- A whole number within its kind's bounds. -/
def I64 (n : Int) : Prop := -9223372036854775808 ≤ n ∧ n ≤ 9223372036854775807
def Row.ok (r : Row) : Prop := I64 r.p ∧ I64 r.q ∧ I64 r.l
def Rec.ok (r : Rec) : Prop := I64 r.p ∧ I64 r.s ∧ I64 r.q ∧ r.key.size ≤ 9223372036854775807
theorem lastOf_ok (rs : List Row) (p q : Int) (h : ∀ r ∈ rs, r.ok) : I64 (lastOf rs p q) := by
  unfold lastOf
  split
  · rename_i r hr; exact (h r (List.mem_of_find?_eq_some hr)).2.2
  · exact ⟨by omega, by omega⟩

def Rows (w : World) (v : Value) (rs : List Row) : Prop := Rd w 3 v rs.length (flatF Row.cells rs)
def Recs (w : World) (v : Value) (rs : List Rec) : Prop := Rd w 5 v rs.length (flatF Rec.cells rs)

theorem row_at {w : World} {a : Option Addr} {n cap : Nat} {rs : List Row} (h : Rows w (.slice a n cap) rs) (i : Nat) (hi : i < rs.length) :
    ∃ b o, a = some ⟨b, o, none⟩ ∧ w.cell? ⟨b, o + i * 3, none⟩ = some (.int .i64 rs[i].p) ∧ w.cell? ⟨b, o + i * 3 + 1, none⟩ = some (.int .i64 rs[i].q) ∧ w.cell? ⟨b, o + i * 3 + 2, none⟩ = some (.int .i64 rs[i].l) := by
  obtain ⟨b, o, e, hc⟩ := rdF_at row3 h i hi
  exact ⟨b, o, e, hc 0 _ (by omega) rfl, hc 1 _ (by omega) rfl, hc 2 _ (by omega) rfl⟩
theorem rec_at {w : World} {a : Option Addr} {n cap : Nat} {rs : List Rec} (h : Recs w (.slice a n cap) rs) (i : Nat) (hi : i < rs.length) :
    ∃ b o, a = some ⟨b, o, none⟩ ∧ w.cell? ⟨b, o + i * 5, none⟩ = some (.int .i64 rs[i].p) ∧ w.cell? ⟨b, o + i * 5 + 1, none⟩ = some (.int .i64 rs[i].s) ∧ w.cell? ⟨b, o + i * 5 + 2, none⟩ = some (.int .i64 rs[i].q) ∧
      w.cell? ⟨b, o + i * 5 + 3, none⟩ = some (.string rs[i].key) ∧ w.cell? ⟨b, o + i * 5 + 4, none⟩ = some (.int .u32 rs[i].val) := by
  obtain ⟨b, o, e, hc⟩ := rdF_at rec5 h i hi
  exact ⟨b, o, e, hc 0 _ (by omega) rfl, hc 1 _ (by omega) rfl, hc 2 _ (by omega) rfl, hc 3 _ (by omega) rfl, hc 4 _ (by omega) rfl⟩

set_option maxHeartbeats 800000 in
theorem last_calls (v : Value) (rs : List Row) (p q : Int) (w : World) (hv : Rows w v rs) :
    Calls Try.prog 91 #[v, .int .i64 p, .int .i64 q] w fun e w' => e = .returned (.int .i64 (lastOf rs p q)) ∧ Below w.heap.size w w' := by
  have HV := Lib.hid hv
  obtain ⟨a, cap, rfl, hle, hcap⟩ := Rd.slice hv
  clear hv
  go_enter Try.func91, Try.ntmps91
  go_wp2_with fail
  go_loopw [8, 11] (fun _ i wr => ∃ k : Nat, k ≤ rs.length ∧ i = .int .i64 k ∧ lastOf (rs.drop k) p q = lastOf rs p q ∧ Below w.heap.size w wr) (fun _ i _ => rs.length - (intOf i).toNat)
  case atStart => exact ⟨0, by omega, rfl, by simp, Below.refl _ _⟩
  case round =>
    obtain ⟨k, hk, rfl, hl, hb⟩ := hrel
    have HB := Lib.hid hb
    by_cases hlt : k < rs.length
    · obtain ⟨b, o, rfl, c0, c1, c2⟩ := row_at HV.out k hlt
      have d0 := cell_later hb c0
      have d1 := cell_later hb c1
      have d2 := cell_later hb c2
      rw [List.drop_eq_getElem_cons hlt] at hl
      have HB2 := Lib.hid (hb.alloc hb.size (.cells #[.int .i64 rs[k].p, .int .i64 rs[k].q, .int .i64 rs[k].l] 92))
      generalize rs[k] = R at *
      clear hb c0 c1 c2
      by_cases hm : R.p = p ∧ R.q = q
      · obtain ⟨rfl, rfl⟩ := hm
        rw [lastOf_hit] at hl
        have HL := Lib.hid hl
        clear hl
        go_wp2_with fail
        go_ret
        exact ⟨by rw [HL.out]; rfl, HB2.out⟩
      · rw [lastOf_miss _ _ _ _ hm] at hl
        have HL := Lib.hid hl
        have hway : (R.p == p) = false ∨ ((R.p == p) = true ∧ (R.q == q) = false) := by
          by_cases h1 : R.p = p
          · exact .inr ⟨beq_iff_eq.2 h1, beq_eq_false_iff_ne.2 fun h2 => hm ⟨h1, h2⟩⟩
          · exact .inl (beq_eq_false_iff_ne.2 h1)
        clear hl hm
        rcases hway with h1 | ⟨h1, h2⟩
        all_goals
          go_wp2_with fail
          go_roundw
          case rel => exact ⟨k + 1, by omega, by go_num, HL.out, HB2.out⟩
          case measure => simp [intOf]; omega
    · obtain rfl : k = rs.length := by omega
      rw [List.drop_length, lastOf_nil] at hl
      have HL := Lib.hid hl
      clear hl hb
      go_wp2_with fail
      go_ret
      exact ⟨by rw [HL.out]; rfl, HB.out⟩

set_option maxHeartbeats 800000 in
theorem rlast_calls (v : Value) (rs : List Row) (p q : Int) (w : World) (hv : Rows w v rs) :
    Calls Try.prog 94 #[v, .int .i64 p, .int .i64 q] w fun e w' => e = .returned (.int .i64 (lastOf rs p q)) ∧ w' = w := by
  have HV := Lib.hid hv
  obtain ⟨a, cap, rfl, hle, hcap⟩ := Rd.slice hv
  clear hv
  go_enter Try.func94, Try.ntmps94
  go_wp2_with fail
  go_loop [7] (fun i => ∃ k : Nat, k ≤ rs.length ∧ i = .int .i64 k ∧ lastOf (rs.drop k) p q = lastOf rs p q) (fun i => rs.length - (intOf i).toNat)
  case atStart => exact ⟨0, by omega, rfl, by simp⟩
  case round =>
    obtain ⟨k, hk, rfl, hl⟩ := hrel
    by_cases hlt : k < rs.length
    · obtain ⟨b, o, rfl, c0, c1, c2⟩ := row_at HV.out k hlt
      rw [List.drop_eq_getElem_cons hlt] at hl
      generalize rs[k] = R at *
      by_cases hm : R.p = p ∧ R.q = q
      · obtain ⟨rfl, rfl⟩ := hm
        rw [lastOf_hit] at hl
        have HL := Lib.hid hl
        clear hl
        go_wp2_with fail
        go_ret
        exact ⟨by rw [HL.out]; rfl, rfl⟩
      · rw [lastOf_miss _ _ _ _ hm] at hl
        have HL := Lib.hid hl
        have hway : (R.p == p) = false ∨ ((R.p == p) = true ∧ (R.q == q) = false) := by
          by_cases h1 : R.p = p
          · exact .inr ⟨beq_iff_eq.2 h1, beq_eq_false_iff_ne.2 fun h2 => hm ⟨h1, h2⟩⟩
          · exact .inl (beq_eq_false_iff_ne.2 h1)
        clear hl hm
        rcases hway with h1 | ⟨h1, h2⟩
        all_goals
          go_wp2_with fail
          go_round
          case rel => exact ⟨k + 1, by omega, by go_num, HL.out⟩
          case measure => simp [intOf]; omega
    · obtain rfl : k = rs.length := by omega
      rw [List.drop_length, lastOf_nil] at hl
      have HL := Lib.hid hl
      clear hl
      go_wp2_with fail
      go_ret
      exact ⟨by rw [HL.out]; rfl, rfl⟩

/-- The ways through Look. -/
theorem look_ways (l s : Int) (hl : I64 l) (hs : I64 s) :
    (((l == 9223372036854775807) = true ∧ (s == l) = true) ∧ (if l = 9223372036854775807 ∧ s = 9223372036854775807 then (4 : Int) else if s ≤ l then 2 else if s = l + 1 then 1 else 3) = 4) ∨
    (((l == 9223372036854775807) = false ∨ ((l == 9223372036854775807) = true ∧ (s == l) = false)) ∧ s ≤ l ∧ (if l = 9223372036854775807 ∧ s = 9223372036854775807 then (4 : Int) else if s ≤ l then 2 else if s = l + 1 then 1 else 3) = 2) ∨
    ((l == 9223372036854775807) = false ∧ ¬ s ≤ l ∧ l + 1 ≤ 9223372036854775807 ∧ (s == l + 1) = true ∧ (s - 1 == l) = true ∧ (if l = 9223372036854775807 ∧ s = 9223372036854775807 then (4 : Int) else if s ≤ l then 2 else if s = l + 1 then 1 else 3) = 1) ∨
    ((l == 9223372036854775807) = false ∧ ¬ s ≤ l ∧ l + 1 ≤ 9223372036854775807 ∧ (s == l + 1) = false ∧ (s - 1 == l) = false ∧ (if l = 9223372036854775807 ∧ s = 9223372036854775807 then (4 : Int) else if s ≤ l then 2 else if s = l + 1 then 1 else 3) = 3) := by
  unfold I64 at hl hs
  simp only [beq_iff_eq, beq_eq_false_iff_ne]
  by_cases h1 : l = 9223372036854775807 ∧ s = 9223372036854775807
  · left; exact ⟨⟨h1.1, by omega⟩, if_pos h1⟩
  rw [if_neg h1]
  by_cases h2 : s ≤ l
  · right; left; exact ⟨by omega, h2, if_pos h2⟩
  rw [if_neg h2]
  by_cases h3 : s = l + 1
  · right; right; left; exact ⟨by omega, h2, by omega, h3, by omega, if_pos h3⟩
  · right; right; right; exact ⟨by omega, h2, by omega, h3, by omega, if_neg h3⟩

set_option maxHeartbeats 800000 in
theorem look_calls (v : Value) (rs : List Row) (p q s : Int) (w : World) (hv : Rows w v rs) (hr : ∀ r ∈ rs, r.ok) (hs : I64 s) :
    Calls Try.prog 78 #[v, .int .i64 p, .int .i64 q, .int .i64 s] w fun e w' => e = .returned (.int .i64 (lookOf rs p q s)) ∧ Below w.heap.size w w' := by
  have HC := Lib.hid (last_calls v rs p q w hv)
  have hlk := lastOf_ok rs p q hr
  have hway := look_ways (lastOf rs p q) s hlk hs
  unfold lookOf
  generalize lastOf rs p q = l at *
  obtain ⟨a, cap, rfl, -, -⟩ := Rd.slice hv
  unfold I64 at hlk hs
  obtain ⟨hl1, hl2⟩ := hlk
  obtain ⟨hs1, hs2⟩ := hs
  clear hv hr
  rcases hway with ⟨⟨k1, k2⟩, hc⟩ | ⟨k1 | ⟨k1, k2⟩, k3, hc⟩ | ⟨k1, k3, k4, k5, -, hc⟩ | ⟨k1, k3, k4, k5, -, hc⟩
  all_goals
    rw [hc]
    clear hc
    go_enter Try.func78, Try.ntmps78
    go_wp2_with fail
    refine HC.out.mono ?_
    rintro e w' ⟨rfl, hb⟩
    have HB := Lib.hid hb
    clear hb
    go_wp2_with fail
    go_ret
    exact ⟨rfl, HB.out⟩

set_option maxHeartbeats 800000 in
theorem rlook_calls (v : Value) (rs : List Row) (p q s : Int) (w : World) (hv : Rows w v rs) (hr : ∀ r ∈ rs, r.ok) (hs : I64 s) :
    Calls Try.prog 85 #[v, .int .i64 p, .int .i64 q, .int .i64 s] w fun e w' => e = .returned (.int .i64 (lookOf rs p q s)) ∧ w' = w := by
  have HC := Lib.hid (rlast_calls v rs p q w hv)
  have hlk := lastOf_ok rs p q hr
  have hway := look_ways (lastOf rs p q) s hlk hs
  unfold lookOf
  generalize lastOf rs p q = l at *
  obtain ⟨a, cap, rfl, -, -⟩ := Rd.slice hv
  unfold I64 at hlk hs
  obtain ⟨hl1, hl2⟩ := hlk
  obtain ⟨hs1, hs2⟩ := hs
  clear hv hr
  rcases hway with ⟨⟨k1, k2⟩, hc⟩ | ⟨k1 | ⟨k1, k2⟩, k3, hc⟩ | ⟨k1, k3, k4, -, k5, hc⟩ | ⟨k1, k3, k4, -, k5, hc⟩
  · have k2' : (s == 9223372036854775807) = true := by rw [beq_iff_eq] at *; omega
    rw [hc]
    clear hc k2
    go_enter Try.func85, Try.ntmps85
    go_wp2_with fail
    refine HC.out.mono ?_
    rintro e w' ⟨rfl, rfl⟩
    go_wp2_with fail
    go_ret
    exact ⟨rfl, rfl⟩
  · rw [hc]
    clear hc
    go_enter Try.func85, Try.ntmps85
    go_wp2_with fail
    refine HC.out.mono ?_
    rintro e w' ⟨rfl, rfl⟩
    go_wp2_with fail
    go_ret
    exact ⟨rfl, rfl⟩
  · have k2' : (s == 9223372036854775807) = false := by rw [beq_eq_false_iff_ne] at *; rw [beq_iff_eq] at k1; omega
    rw [hc]
    clear hc k2
    go_enter Try.func85, Try.ntmps85
    go_wp2_with fail
    refine HC.out.mono ?_
    rintro e w' ⟨rfl, rfl⟩
    go_wp2_with fail
    go_ret
    exact ⟨rfl, rfl⟩
  all_goals
    have k6 : -9223372036854775808 ≤ s - 1 := by omega
    rw [hc]
    clear hc
    go_enter Try.func85, Try.ntmps85
    go_wp2_with fail
    refine HC.out.mono ?_
    rintro e w' ⟨rfl, rfl⟩
    go_wp2_with fail
    go_ret
    exact ⟨rfl, rfl⟩
end Go.Proofs.Ytkabfjbmofpkdaa

/- Layer 13, plain: tables of rows, and what a number that is taken does to them. -/
namespace Go.Proofs.Ytkabfjbmofpkdaa

def Row.key (r : Row) : Int := 8 * r.p + r.q
def rightB (p q : Int) : Bool := decide (0 ≤ p ∧ p ≤ 63 ∧ 0 ≤ q ∧ q < 8)

/-- What Good asks of row i. -/
def goodAt (rs : List Row) (i : Nat) : Bool := match rs[i]? with
  | some r => rightB r.p r.q && decide (0 ≤ r.l) && (match i with
    | 0 => true
    | j + 1 => match rs[j]? with
      | some r' => decide (r'.key < r.key)
      | none => true)
  | none => true
def goodTo (rs : List Row) (n : Nat) : Bool := (List.range n).all (goodAt rs)
def goodRows (rs : List Row) : Bool := goodTo rs rs.length
theorem goodTo_zero (rs : List Row) : goodTo rs 0 = true := rfl
theorem goodTo_succ (rs : List Row) (n : Nat) : goodTo rs (n + 1) = (goodTo rs n && goodAt rs n) := by simp [goodTo, List.range_succ]
theorem goodTo_no (rs : List Row) (n i : Nat) (hi : i < n) (h : goodAt rs i = false) : goodTo rs n = false := by
  unfold goodTo
  rw [List.all_eq_false]
  exact ⟨i, List.mem_range.2 hi, by rw [h]; simp⟩

/-- The ordered rows, with the row of a number put in its place. -/
def putRowAt (row : Row) : List Row → List Row
  | [] => [row]
  | r :: rs => if r.key < row.key then r :: putRowAt row rs else if r.key = row.key then row :: rs else row :: r :: rs

/-- What Take hands back. -/
def takeRows (rs : List Row) (p q s : Int) : List Row := if rightB p q = true ∧ lookOf rs p q s = 1 then putRowAt ⟨p, q, s⟩ rs else rs
def takeCode (rs : List Row) (p q s : Int) : Int := if rightB p q = true then lookOf rs p q s else 0

/-- Rows whose keys rise. -/
def Rising : List Row → Prop
  | [] => True
  | r :: rs => (∀ x ∈ rs, r.key < x.key) ∧ Rising rs
def Table (rs : List Row) : Prop := Rising rs ∧ ∀ r ∈ rs, rightB r.p r.q = true ∧ 0 ≤ r.l

theorem key_inj {a b : Row} (ha : rightB a.p a.q = true) (hb : rightB b.p b.q = true) (h : a.key = b.key) : a.p = b.p ∧ a.q = b.q := by
  unfold rightB at ha hb
  simp only [decide_eq_true_eq] at ha hb
  unfold Row.key at h
  omega

theorem mem_putRowAt {row x : Row} : ∀ {rs : List Row}, x ∈ putRowAt row rs → x = row ∨ x ∈ rs
  | [], h => by simp [putRowAt] at h; exact .inl h
  | r :: rs, h => by
    unfold putRowAt at h
    split at h
    · rcases List.mem_cons.1 h with h | h
      · exact .inr (by rw [h]; simp)
      · rcases mem_putRowAt h with h | h
        · exact .inl h
        · exact .inr (by simp [h])
    · split at h
      · rcases List.mem_cons.1 h with h | h
        · exact .inl h
        · exact .inr (by simp [h])
      · rcases List.mem_cons.1 h with h | h
        · exact .inl h
        · exact .inr h
theorem rising_put (row : Row) : ∀ (rs : List Row), Rising rs → Rising (putRowAt row rs)
  | [], _ => ⟨fun x h => by simp at h, trivial⟩
  | r :: rs, h => by
    unfold putRowAt
    split
    · rename_i hlt
      refine ⟨fun x hx => ?_, rising_put row rs h.2⟩
      rcases mem_putRowAt hx with rfl | hx
      · exact hlt
      · exact h.1 x hx
    · split
      · rename_i hn he
        exact ⟨fun x hx => by have := h.1 x hx; omega, h.2⟩
      · rename_i hn he
        refine ⟨fun x hx => ?_, h⟩
        rcases List.mem_cons.1 hx with rfl | hx
        · omega
        · have := h.1 x hx; omega
theorem table_put {rs : List Row} (h : Table rs) (p q s : Int) (hr : rightB p q = true) (hs : 0 ≤ s) : Table (putRowAt ⟨p, q, s⟩ rs) := by
  refine ⟨rising_put _ _ h.1, fun x hx => ?_⟩
  rcases mem_putRowAt hx with rfl | hx
  · exact ⟨hr, hs⟩
  · exact h.2 x hx

/-- What is known of a place behind a put. -/
theorem last_put {rs : List Row} (h : Table rs) (p q s : Int) : lastOf (putRowAt ⟨p, q, s⟩ rs) p q = s := by
  induction rs with
  | nil => exact lastOf_hit ⟨p, q, s⟩ []
  | cons r rs ih =>
    have ht : Table rs := ⟨h.1.2, fun x hx => h.2 x (by simp [hx])⟩
    unfold putRowAt
    split
    · rename_i hlt
      rw [lastOf_miss _ _ _ _ (fun e => by unfold Row.key at hlt; simp only at hlt; omega)]
      exact ih ht
    · split
      · exact lastOf_hit ⟨p, q, s⟩ rs
      · exact lastOf_hit ⟨p, q, s⟩ (r :: rs)
theorem last_put_other {rs : List Row} (h : Table rs) (p q s p' q' : Int) (hr : rightB p q = true) (hne : ¬ (p = p' ∧ q = q')) : lastOf (putRowAt ⟨p, q, s⟩ rs) p' q' = lastOf rs p' q' := by
  induction rs with
  | nil => exact lastOf_miss ⟨p, q, s⟩ [] _ _ hne
  | cons r rs ih =>
    have ht : Table rs := ⟨h.1.2, fun x hx => h.2 x (by simp [hx])⟩
    unfold putRowAt
    split
    · by_cases e : r.p = p' ∧ r.q = q'
      · obtain ⟨rfl, rfl⟩ := e
        rw [lastOf_hit, lastOf_hit]
      · rw [lastOf_miss _ _ _ _ e, lastOf_miss _ _ _ _ e]
        exact ih ht
    · split
      · rename_i hk
        have hri := (h.2 r (by simp)).1
        have e := key_inj hri (b := ⟨p, q, s⟩) hr hk
        rw [lastOf_miss ⟨p, q, s⟩ _ _ _ hne, lastOf_miss r _ _ _ (fun e2 => hne ⟨by rw [← e2.1]; exact e.1.symm, by rw [← e2.2]; exact e.2.symm⟩)]
      · exact lastOf_miss ⟨p, q, s⟩ _ _ _ hne
end Go.Proofs.Ytkabfjbmofpkdaa

/- Layer 13: right, the order of rows, walked. -/
namespace Go.Proofs.Ytkabfjbmofpkdaa
open Go.RowKit

/-! ### Numbers compared -/
def cmpOf (a b : Int) : Int := if a < b then -1 else if b < a then 1 else 0
def orOf (x y : Int) : Int := if x = 0 then y else x
theorem orOf_z (y : Int) : orOf 0 y = y := rfl
theorem orOf_n (x y : Int) (h : ¬ x = 0) : orOf x y = x := if_neg h
def ordOf (a b : Row) : Int := orOf (cmpOf a.p b.p) (cmpOf a.q b.q)
theorem cmpOf_ways (a b : Int) : (decide (a < b) = true ∧ cmpOf a b = -1) ∨ (decide (a < b) = false ∧ decide (b < a) = true ∧ cmpOf a b = 1) ∨ (decide (a < b) = false ∧ decide (b < a) = false ∧ cmpOf a b = 0) := by
  unfold cmpOf
  simp only [decide_eq_true_eq, decide_eq_false_iff_not]
  split <;> (try split) <;> omega
theorem ord_key {a b : Row} (ha : rightB a.p a.q = true) (hb : rightB b.p b.q = true) : (ordOf a b < 0 ↔ a.key < b.key) ∧ (ordOf a b = 0 ↔ a.key = b.key) := by
  unfold rightB at ha hb
  simp only [decide_eq_true_eq] at ha hb
  unfold ordOf orOf cmpOf Row.key
  constructor <;> (repeat' split) <;> omega
theorem ord_bounds (a b : Row) : -1 ≤ ordOf a b ∧ ordOf a b ≤ 1 := by
  unfold ordOf orOf cmpOf
  repeat' split
  all_goals omega

theorem right_ways (p q : Int) :
    (decide (0 ≤ p) = false ∧ rightB p q = false) ∨
    ((decide (0 ≤ p) = true ∧ decide (p ≤ 63) = false) ∧ rightB p q = false) ∨
    ((decide (0 ≤ p) = true ∧ decide (p ≤ 63) = true ∧ decide (0 ≤ q) = false) ∧ rightB p q = false) ∨
    ((decide (0 ≤ p) = true ∧ decide (p ≤ 63) = true ∧ decide (0 ≤ q) = true ∧ decide (q < 8) = false ∧ decide (q ≤ 7) = false) ∧ rightB p q = false) ∨
    ((decide (0 ≤ p) = true ∧ decide (p ≤ 63) = true ∧ decide (0 ≤ q) = true ∧ decide (q < 8) = true ∧ decide (q ≤ 7) = true) ∧ rightB p q = true) := by
  unfold rightB
  simp only [decide_eq_true_eq, decide_eq_false_iff_not]
  omega

set_option maxHeartbeats 1000000 in
theorem right_calls (p q : Int) (w : World) : Calls Try.prog 69 #[.int .i64 p, .int .i64 q] w fun e w' => e = .returned (.bool (rightB p q)) ∧ w' = w := by
  have hway := right_ways p q
  generalize rightB p q = g at *
  rcases hway with ⟨k1, rfl⟩ | ⟨⟨k1, k2⟩, rfl⟩ | ⟨⟨k1, k2, k3⟩, rfl⟩ | ⟨⟨k1, k2, k3, k4, k5⟩, rfl⟩ | ⟨⟨k1, k2, k3, k4, k5⟩, rfl⟩
  all_goals
    go_enter Try.func69, Try.ntmps69
    go_wp2_with fail
    go_ret
    exact ⟨rfl, rfl⟩

set_option maxHeartbeats 1000000 in
theorem rright_calls (p q : Int) (w : World) : Calls Try.prog 72 #[.int .i64 p, .int .i64 q] w fun e w' => e = .returned (.bool (rightB p q)) ∧ w' = w := by
  have hway := right_ways p q
  generalize rightB p q = g at *
  rcases hway with ⟨k1, rfl⟩ | ⟨⟨k1, k2⟩, rfl⟩ | ⟨⟨k1, k2, k3⟩, rfl⟩ | ⟨⟨k1, k2, k3, k4, k5⟩, rfl⟩ | ⟨⟨k1, k2, k3, k4, k5⟩, rfl⟩
  all_goals
    go_enter Try.func72, Try.ntmps72
    go_wp2_with fail
    go_ret
    exact ⟨rfl, rfl⟩

theorem nan_calls (a : Int) (w : World) : Calls Try.prog 95 #[.int .i64 a] w fun e w' => e = .returned (.bool false) ∧ w' = w := by
  go_enter Try.func95, Try.ntmps95
  go_wp2_with fail
  go_ret
  exact ⟨by simp, rfl⟩

set_option maxHeartbeats 1000000 in
theorem cmp_calls (a b : Int) (w : World) : Calls Try.prog 88 #[.int .i64 a, .int .i64 b] w fun e w' => e = .returned (.int .i64 (cmpOf a b)) ∧ w' = w := by
  rcases cmpOf_ways a b with ⟨k1, hc⟩ | ⟨k1, k2, hc⟩ | ⟨k1, k2, hc⟩
  all_goals
    rw [hc]
    clear hc
    go_enter Try.func88, Try.ntmps88
    go_wp2_with fail
    refine (nan_calls _ _).mono ?_
    rintro e w' ⟨rfl, rfl⟩
    go_wp2_with fail
    refine (nan_calls _ _).mono ?_
    rintro e w' ⟨rfl, rfl⟩
    go_wp2_with fail
    go_ret
    exact ⟨rfl, rfl⟩

set_option maxHeartbeats 1000000 in
theorem or_calls (b : Nat) (x y : Int) (w : World) (c0 : w.cell? ⟨b, 0, none⟩ = some (.int .i64 x)) (c1 : w.cell? ⟨b, 1, none⟩ = some (.int .i64 y)) :
    Calls Try.prog 87 #[.slice (some ⟨b, 0, none⟩) 2 2] w fun e w' => e = .returned (.int .i64 (orOf x y)) ∧ w' = w := by
  go_enter Try.func87, Try.ntmps87
  go_wp2_with fail
  go_loop [5, 8] (fun _ i => ∃ k : Nat, k ≤ 2 ∧ i = .int .i64 k ∧ (0 < k → x = 0) ∧ (1 < k → y = 0)) (fun _ i => 2 - (intOf i).toNat)
  case atStart => exact ⟨0, by omega, rfl, fun h => by omega, fun h => by omega⟩
  case round =>
    obtain ⟨k, hk, rfl, hx, hy⟩ := hrel
    rcases (show k = 0 ∨ k = 1 ∨ k = 2 by omega) with rfl | rfl | rfl
    · clear hx hy
      by_cases h0 : x = 0
      · subst h0
        go_wp2_with fail
        go_round
        case rel => exact ⟨1, by omega, rfl, by simp, by simp⟩
        case measure => simp [intOf]
      · have k0 := beq_eq_false_iff_ne.2 h0
        have H0 := Lib.hid h0
        clear h0
        go_wp2_with fail
        go_ret
        exact ⟨by rw [orOf_n _ _ H0.out]; rfl, rfl⟩
    · obtain rfl := hx (by omega)
      clear hx hy
      by_cases h0 : y = 0
      · subst h0
        go_wp2_with fail
        go_round
        case rel => exact ⟨2, by omega, rfl, by simp, by simp⟩
        case measure => simp [intOf]
      · have k0 := beq_eq_false_iff_ne.2 h0
        clear h0
        go_wp2_with fail
        go_ret
        exact ⟨by rw [orOf_z]; rfl, rfl⟩
    · obtain rfl := hx (by omega)
      obtain rfl := hy (by omega)
      clear hx hy
      go_wp2_with fail
      go_ret
      exact ⟨by rw [orOf_z]; rfl, rfl⟩

set_option maxHeartbeats 1000000 in
theorem order_calls (x y : Row) (w : World) : Calls Try.prog 70 #[.agg #[.int .i64 x.p, .int .i64 x.q, .int .i64 x.l], .agg #[.int .i64 y.p, .int .i64 y.q, .int .i64 y.l]] w fun e w' => e = .returned (.int .i64 (ordOf x y)) ∧ Below w.heap.size w w' := by
  obtain ⟨x0, x1, x2⟩ := x
  obtain ⟨y0, y1, y2⟩ := y
  unfold ordOf
  simp only
  go_enter Try.func70, Try.ntmps70
  go_wp2_with fail
  obtain ⟨W, hW⟩ : ∃ W, W = (w.alloc (.cells #[.int .i64 x0, .int .i64 x1, .int .i64 x2] 92)).alloc (.cells #[.int .i64 y0, .int .i64 y1, .int .i64 y2] 92) := ⟨_, rfl⟩
  have a0 : W.cell? ⟨w.heap.size, 0, none⟩ = some (.int .i64 x0) := by rw [hW, World.cell?_alloc_past _ _ _ (by simp), World.cell?_alloc_at _ _ _ _ rfl]; rfl
  have a1 : W.cell? ⟨w.heap.size, 1, none⟩ = some (.int .i64 x1) := by rw [hW, World.cell?_alloc_past _ _ _ (by simp), World.cell?_alloc_at _ _ _ _ rfl]; rfl
  have b0 : W.cell? ⟨w.heap.size + 1, 0, none⟩ = some (.int .i64 y0) := by rw [hW, World.cell?_alloc_at _ _ _ _ (by simp)]; rfl
  have b1 : W.cell? ⟨w.heap.size + 1, 1, none⟩ = some (.int .i64 y1) := by rw [hW, World.cell?_alloc_at _ _ _ _ (by simp)]; rfl
  have hb : Below w.heap.size w W := by rw [hW]; exact ((Below.refl _ _).alloc (Nat.le_refl _) _).alloc (by simp) _
  have HB := Lib.hid hb
  rw [← hW]
  clear hb hW
  refine region_m [(0, false), (1, false), (2, false), (3, false), (5, false), (6, false), (7, false), (8, false), (4, true), (9, true)] 10 (fun V => V.cell? ⟨w.heap.size, 0, none⟩ = some (.int .i64 x0) ∧ V.cell? ⟨w.heap.size, 1, none⟩ = some (.int .i64 x1) ∧ V.cell? ⟨w.heap.size + 1, 0, none⟩ = some (.int .i64 y0) ∧ V.cell? ⟨w.heap.size + 1, 1, none⟩ = some (.int .i64 y1)) (by kernel_rfl) (by kernel_rfl) ⟨a0, a1, b0, b1⟩ ?_
  iterate 8
    refine m_take (v := ?_) rfl rfl ?_ ?_
    rotate_left
    · intro W hW
      go_simp
      with_reducible rfl
    simp only [Act.put, List.setIfInBounds_toArray, List.set_cons_zero, List.set_cons_succ]
  refine m_loud rfl (fun K hK => ?_)
  have HK := Lib.hid hK
  clear hK
  go_simp
  refine (cmp_calls _ _ _).mono ?_
  rintro e w1 ⟨rfl, rfl⟩
  refine HK.out _ _ ⟨a0, a1, b0, b1⟩ ?_
  clear HK
  refine m_loud rfl (fun K hK => ?_)
  have HK := Lib.hid hK
  clear hK
  go_simp
  refine (cmp_calls _ _ _).mono ?_
  rintro e w1 ⟨rfl, rfl⟩
  refine HK.out _ _ ⟨a0, a1, b0, b1⟩ ?_
  clear HK
  refine m_done ?_
  simp only [List.drop_succ_cons, List.drop_zero]
  go_wp2_with fail
  refine (or_calls W.heap.size (cmpOf x0 y0) (cmpOf x1 y1) _ (by rw [World.cell?_drew, World.cell?_alloc_at _ _ _ _ rfl]; rfl) (by rw [World.cell?_drew, World.cell?_alloc_at _ _ _ _ rfl]; rfl)).mono ?_
  rintro e w' ⟨rfl, rfl⟩
  go_wp2_with fail
  simp only [NP]
  go_wp2_with fail
  go_ret
  refine ⟨rfl, ?_⟩
  exact (HB.out.alloc HB.out.size _).drew
end Go.Proofs.Ytkabfjbmofpkdaa

/- Layer 13: Good, the document's Good, Same, walked. -/
namespace Go.Proofs.Ytkabfjbmofpkdaa
open Go.RowKit

theorem goodAt_zero (rs : List Row) (h : 0 < rs.length) : goodAt rs 0 = (rightB rs[0].p rs[0].q && decide (0 ≤ rs[0].l)) := by
  unfold goodAt
  rw [List.getElem?_eq_getElem h]
  simp
theorem goodAt_succ (rs : List Row) (j : Nat) (h : j + 1 < rs.length) : goodAt rs (j + 1) = (rightB rs[j + 1].p rs[j + 1].q && decide (0 ≤ rs[j + 1].l) && decide (rs[j].key < rs[j + 1].key)) := by
  have h' : j < rs.length := by omega
  simp [goodAt, List.getElem?_eq_getElem h, List.getElem?_eq_getElem h']
theorem goodAt_right (rs : List Row) (j : Nat) (h : j < rs.length) (hg : goodAt rs j = true) : rightB rs[j].p rs[j].q = true ∧ 0 ≤ rs[j].l := by
  cases j with
  | zero => rw [goodAt_zero rs h] at hg; simpa using hg
  | succ j => rw [goodAt_succ rs j h] at hg; simp only [Bool.and_eq_true, decide_eq_true_eq] at hg; exact hg.1
theorem goodTo_at (rs : List Row) (n j : Nat) (hj : j < n) (h : goodTo rs n = true) : goodAt rs j = true := by
  unfold goodTo at h
  exact List.all_eq_true.1 h j (List.mem_range.2 hj)

/-- The ways through the check of row k. -/
theorem good_row_ways (rs : List Row) (k : Nat) (hk : k < rs.length) (hg : goodTo rs k = true) :
    (rightB rs[k].p rs[k].q = false ∧ goodAt rs k = false) ∨
    (rightB rs[k].p rs[k].q = true ∧ decide (rs[k].l < 0) = true ∧ goodAt rs k = false) ∨
    (rightB rs[k].p rs[k].q = true ∧ decide (rs[k].l < 0) = false ∧ k = 0 ∧ goodAt rs k = true) ∨
    (∃ j, ∃ h : k = j + 1, rightB rs[k].p rs[k].q = true ∧ decide (rs[k].l < 0) = false ∧ decide (0 ≤ ordOf (rs[j]'(by omega)) rs[k]) = true ∧ decide ((rs[k].key) ≤ (rs[j]'(by omega)).key) = true ∧ goodAt rs k = false ∧ rightB (rs[j]'(by omega)).p (rs[j]'(by omega)).q = true) ∨
    (∃ j, ∃ h : k = j + 1, rightB rs[k].p rs[k].q = true ∧ decide (rs[k].l < 0) = false ∧ decide (0 ≤ ordOf (rs[j]'(by omega)) rs[k]) = false ∧ decide ((rs[k].key) ≤ (rs[j]'(by omega)).key) = false ∧ goodAt rs k = true ∧ rightB (rs[j]'(by omega)).p (rs[j]'(by omega)).q = true) := by
  cases hr : rightB rs[k].p rs[k].q with
  | false =>
    left
    refine ⟨rfl, ?_⟩
    cases k with
    | zero => rw [goodAt_zero rs hk, hr]; rfl
    | succ j => rw [goodAt_succ rs j hk, hr]; rfl
  | true =>
    right
    by_cases hl : rs[k].l < 0
    · left
      refine ⟨rfl, decide_eq_true hl, ?_⟩
      cases k with
      | zero => rw [goodAt_zero rs hk, hr, decide_eq_false (by omega)]; rfl
      | succ j => rw [goodAt_succ rs j hk, hr, decide_eq_false (by omega)]; rfl
    · right
      cases k with
      | zero =>
        left
        exact ⟨rfl, decide_eq_false hl, rfl, by rw [goodAt_zero rs hk, hr, decide_eq_true (by omega)]; rfl⟩
      | succ j =>
        right
        have hp := (goodAt_right rs j (by omega) (goodTo_at rs (j + 1) j (by omega) hg)).1
        have ho := (ord_key hp hr).1
        by_cases hlt : rs[j].key < rs[j + 1].key
        · right
          exact ⟨j, rfl, rfl, decide_eq_false hl, decide_eq_false (by have := ho.2 hlt; omega), decide_eq_false (by omega), by rw [goodAt_succ rs j hk, hr, decide_eq_true (by omega), decide_eq_true hlt]; rfl, hp⟩
        · left
          exact ⟨j, rfl, rfl, decide_eq_false hl, decide_eq_true (by have := fun h => hlt (ho.1 h); omega), decide_eq_true (by omega), by rw [goodAt_succ rs j hk, hr, decide_eq_true (by omega), decide_eq_false hlt]; rfl, hp⟩

set_option maxHeartbeats 2000000 in
theorem dgood_calls (v : Value) (rs : List Row) (w : World) (hv : Rows w v rs) :
    Calls Try.prog 37 #[v] w fun e w' => e = .returned (.bool (goodRows rs)) ∧ Below w.heap.size w w' := by
  have HV := Lib.hid hv
  obtain ⟨a, cap, rfl, hle, hcap⟩ := Rd.slice hv
  clear hv
  go_enter Try.func37, Try.ntmps37
  go_wp2_with fail
  go_loopw [4, 7] (fun _ i wr => ∃ k : Nat, k ≤ rs.length ∧ i = .int .i64 k ∧ goodTo rs k = true ∧ Below w.heap.size w wr) (fun _ i _ => rs.length - (intOf i).toNat)
  case atStart => exact ⟨0, by omega, rfl, rfl, Below.refl _ _⟩
  case round =>
    obtain ⟨k, hk, rfl, hg, hb⟩ := hrel
    have HB := Lib.hid hb
    have HG := Lib.hid hg
    by_cases hlt : k < rs.length
    · have hway := good_row_ways rs k hlt hg
      obtain ⟨b, o, rfl, c0, c1, c2⟩ := row_at HV.out k hlt
      have d0 := cell_later hb c0
      have d1 := cell_later hb c1
      have d2 := cell_later hb c2
      clear hb hg c0 c1 c2
      have hal := (HB.out.alloc HB.out.size (.cells #[.int .i64 rs[k].p, .int .i64 rs[k].q, .int .i64 rs[k].l] 92))
      have HB2 := Lib.hid hal
      obtain ⟨W, hW⟩ : ∃ W, W = wr.alloc (.cells #[.int .i64 rs[k].p, .int .i64 rs[k].q, .int .i64 rs[k].l] 92) := ⟨_, rfl⟩
      have x0 : W.cell? ⟨wr.heap.size, 0, none⟩ = some (.int .i64 rs[k].p) := by rw [hW, World.cell?_alloc_at _ _ _ _ rfl]; rfl
      have x1 : W.cell? ⟨wr.heap.size, 1, none⟩ = some (.int .i64 rs[k].q) := by rw [hW, World.cell?_alloc_at _ _ _ _ rfl]; rfl
      have x2 : W.cell? ⟨wr.heap.size, 2, none⟩ = some (.int .i64 rs[k].l) := by rw [hW, World.cell?_alloc_at _ _ _ _ rfl]; rfl
      have HW := Lib.hid hW
      clear hal hW
      rcases hway with ⟨k1, k2⟩ | ⟨k1, k2, k3⟩ | ⟨k1, k2, hk0, k3⟩ | ⟨j, rfl, k1, k2, k3, -, k4, k5⟩ | ⟨j, rfl, k1, k2, k3, -, k4, k5⟩
      · have HN := Lib.hid (goodTo_no rs rs.length k hlt k2)
        generalize rs[k] = R at *
        clear k2
        go_wp2_with fail
        rw [← HW.out]
        refine region_m [(0, false), (1, false), (2, false), (3, false), (4, true), (5, false), (6, false), (7, false), (8, false), (9, false), (10, false), (11, false), (12, false), (13, false), (14, false), (15, false), (16, false), (17, false), (18, false), (19, false), (20, false), (21, true), (22, false), (23, false), (24, false)] 25 (fun V => V.cell? ⟨wr.heap.size, 0, none⟩ = some (.int .i64 R.p) ∧ V.cell? ⟨wr.heap.size, 1, none⟩ = some (.int .i64 R.q) ∧ V.cell? ⟨wr.heap.size, 2, none⟩ = some (.int .i64 R.l)) (by kernel_rfl) (by kernel_rfl) ⟨x0, x1, x2⟩ ?_
        iterate 4
          refine m_take (v := ?_) rfl rfl ?_ ?_
          rotate_left
          · intro W hW
            go_simp
            with_reducible rfl
          simp only [Act.put, List.setIfInBounds_toArray, List.set_cons_zero, List.set_cons_succ]
        refine m_loud rfl (fun K hK => ?_)
        have HK := Lib.hid hK
        clear hK
        go_simp
        refine (right_calls _ _ _).mono ?_
        rintro e w1 ⟨rfl, rfl⟩
        refine HK.out _ _ ⟨x0, x1, x2⟩ ?_
        clear HK
        iterate 16
          first
          | (refine m_take (v := ?_) rfl rfl ?_ ?_
             rotate_left
             · intro W hW
               go_simp
               with_reducible rfl
             simp only [Act.put, List.setIfInBounds_toArray, List.set_cons_zero, List.set_cons_succ])
          | (refine m_skip rfl rfl ?_
             simp only [Act.put, List.setIfInBounds_toArray, List.set_cons_zero, List.set_cons_succ])
        refine m_loud rfl (fun K hK => ?_)
        have HK := Lib.hid hK
        clear hK
        go_simp
        refine HK.out _ _ ⟨x0, x1, x2⟩ ?_
        clear HK
        iterate 3
          first
          | (refine m_take (v := ?_) rfl rfl ?_ ?_
             rotate_left
             · intro W hW
               go_simp
               with_reducible rfl
             simp only [Act.put, List.setIfInBounds_toArray, List.set_cons_zero, List.set_cons_succ])
          | (refine m_skip rfl rfl ?_
             simp only [Act.put, List.setIfInBounds_toArray, List.set_cons_zero, List.set_cons_succ])
        refine m_done ?_
        simp only [List.drop_succ_cons, List.drop_zero]
        go_wp2_with fail
        simp only [NP]
        go_wp2_with fail
        go_ret
        exact ⟨by rw [show goodRows rs = false from HN.out]; rfl, by first | exact HB2.out.drew | (have h := HW.out; rw [h]; exact HB2.out.drew)⟩
      · have HN := Lib.hid (goodTo_no rs rs.length k hlt k3)
        generalize rs[k] = R at *
        clear k3
        go_wp2_with fail
        rw [← HW.out]
        refine region_m [(0, false), (1, false), (2, false), (3, false), (4, true), (5, false), (6, false), (7, false), (8, false), (9, false), (10, false), (11, false), (12, false), (13, false), (14, false), (15, false), (16, false), (17, false), (18, false), (19, false), (20, false), (21, true), (22, false), (23, false), (24, false)] 25 (fun V => V.cell? ⟨wr.heap.size, 0, none⟩ = some (.int .i64 R.p) ∧ V.cell? ⟨wr.heap.size, 1, none⟩ = some (.int .i64 R.q) ∧ V.cell? ⟨wr.heap.size, 2, none⟩ = some (.int .i64 R.l)) (by kernel_rfl) (by kernel_rfl) ⟨x0, x1, x2⟩ ?_
        iterate 4
          refine m_take (v := ?_) rfl rfl ?_ ?_
          rotate_left
          · intro W hW
            go_simp
            with_reducible rfl
          simp only [Act.put, List.setIfInBounds_toArray, List.set_cons_zero, List.set_cons_succ]
        refine m_loud rfl (fun K hK => ?_)
        have HK := Lib.hid hK
        clear hK
        go_simp
        refine (right_calls _ _ _).mono ?_
        rintro e w1 ⟨rfl, rfl⟩
        refine HK.out _ _ ⟨x0, x1, x2⟩ ?_
        clear HK
        iterate 16
          first
          | (refine m_take (v := ?_) rfl rfl ?_ ?_
             rotate_left
             · intro W hW
               go_simp
               with_reducible rfl
             simp only [Act.put, List.setIfInBounds_toArray, List.set_cons_zero, List.set_cons_succ])
          | (refine m_skip rfl rfl ?_
             simp only [Act.put, List.setIfInBounds_toArray, List.set_cons_zero, List.set_cons_succ])
        refine m_loud rfl (fun K hK => ?_)
        have HK := Lib.hid hK
        clear hK
        go_simp
        refine HK.out _ _ ⟨x0, x1, x2⟩ ?_
        clear HK
        iterate 3
          first
          | (refine m_take (v := ?_) rfl rfl ?_ ?_
             rotate_left
             · intro W hW
               go_simp
               with_reducible rfl
             simp only [Act.put, List.setIfInBounds_toArray, List.set_cons_zero, List.set_cons_succ])
          | (refine m_skip rfl rfl ?_
             simp only [Act.put, List.setIfInBounds_toArray, List.set_cons_zero, List.set_cons_succ])
        refine m_done ?_
        simp only [List.drop_succ_cons, List.drop_zero]
        go_wp2_with fail
        simp only [NP]
        go_wp2_with fail
        go_ret
        exact ⟨by rw [show goodRows rs = false from HN.out]; rfl, by first | exact HB2.out.drew | (have h := HW.out; rw [h]; exact HB2.out.drew)⟩
      · have HN := Lib.hid (show goodTo rs (k + 1) = true by rw [goodTo_succ, HG.out, k3]; rfl)
        have kk : decide (0 < k) = false := decide_eq_false (by omega)
        generalize rs[k] = R at *
        clear k3 hk0
        go_wp2_with fail
        rw [← HW.out]
        refine region_m [(0, false), (1, false), (2, false), (3, false), (4, true), (5, false), (6, false), (7, false), (8, false), (9, false), (10, false), (11, false), (12, false), (13, false), (14, false), (15, false), (16, false), (17, false), (18, false), (19, false), (20, false), (21, true), (22, false), (23, false), (24, false)] 25 (fun V => V.cell? ⟨wr.heap.size, 0, none⟩ = some (.int .i64 R.p) ∧ V.cell? ⟨wr.heap.size, 1, none⟩ = some (.int .i64 R.q) ∧ V.cell? ⟨wr.heap.size, 2, none⟩ = some (.int .i64 R.l)) (by kernel_rfl) (by kernel_rfl) ⟨x0, x1, x2⟩ ?_
        iterate 4
          refine m_take (v := ?_) rfl rfl ?_ ?_
          rotate_left
          · intro W hW
            go_simp
            with_reducible rfl
          simp only [Act.put, List.setIfInBounds_toArray, List.set_cons_zero, List.set_cons_succ]
        refine m_loud rfl (fun K hK => ?_)
        have HK := Lib.hid hK
        clear hK
        go_simp
        refine (right_calls _ _ _).mono ?_
        rintro e w1 ⟨rfl, rfl⟩
        refine HK.out _ _ ⟨x0, x1, x2⟩ ?_
        clear HK
        iterate 16
          first
          | (refine m_take (v := ?_) rfl rfl ?_ ?_
             rotate_left
             · intro W hW
               go_simp
               with_reducible rfl
             simp only [Act.put, List.setIfInBounds_toArray, List.set_cons_zero, List.set_cons_succ])
          | (refine m_skip rfl rfl ?_
             simp only [Act.put, List.setIfInBounds_toArray, List.set_cons_zero, List.set_cons_succ])
        refine m_loud rfl (fun K hK => ?_)
        have HK := Lib.hid hK
        clear hK
        go_simp
        refine HK.out _ _ ⟨x0, x1, x2⟩ ?_
        clear HK
        iterate 3
          first
          | (refine m_take (v := ?_) rfl rfl ?_ ?_
             rotate_left
             · intro W hW
               go_simp
               with_reducible rfl
             simp only [Act.put, List.setIfInBounds_toArray, List.set_cons_zero, List.set_cons_succ])
          | (refine m_skip rfl rfl ?_
             simp only [Act.put, List.setIfInBounds_toArray, List.set_cons_zero, List.set_cons_succ])
        refine m_done ?_
        simp only [List.drop_succ_cons, List.drop_zero]
        go_wp2_with fail
        simp only [NP]
        go_wp2_with fail
        go_roundw
        case rel => exact ⟨k + 1, by omega, by go_num, HN.out, by rw [HW.out]; exact HB2.out.drew⟩
        case measure => simp [intOf]; omega
      · have HN := Lib.hid (goodTo_no rs rs.length (j + 1) hlt k4)
        clear k4 k5
        have hbW : Below w.heap.size w W := by rw [HW.out]; exact HB2.out
        obtain ⟨b', o', e', y0, y1, y2⟩ := row_at HV.out j (by omega)
        simp only [Option.some.injEq, Addr.mk.injEq, and_true] at e'
        obtain ⟨rfl, rfl⟩ := e'
        have y0 := cell_later hbW y0
        have y1 := cell_later hbW y1
        have y2 := cell_later hbW y2
        have HBW := Lib.hid hbW
        clear hbW
        generalize rs[j + 1] = R at *
        generalize rs[j] = R1 at *
        have hcast : ((j + 1 : Nat) : Int) = (j : Int) + 1 := by omega
        have kk : decide ((0 : Int) < (j : Int) + 1) = true := decide_eq_true (by omega)
        have kj : (j : Int) < (rs.length : Int) := by omega
        have kj2 : j < rs.length := by omega
        have kw : IntKind.i64.wrap (j : Int) = (j : Int) := by rw [IntKind.wrap_i64]; omega
        rw [hcast]
        go_wp2_with fail
        rw [← HW.out]
        refine region_m [(0, false), (1, false), (2, false), (3, false), (4, true), (5, false), (6, false), (7, false), (8, false), (9, false), (10, false), (11, false), (12, false), (13, false), (14, false), (15, false), (16, false), (17, false), (18, false), (19, false), (20, false), (21, true), (22, false), (23, false), (24, false)] 25 (fun V => V.cell? ⟨wr.heap.size, 0, none⟩ = some (.int .i64 R.p) ∧ V.cell? ⟨wr.heap.size, 1, none⟩ = some (.int .i64 R.q) ∧ V.cell? ⟨wr.heap.size, 2, none⟩ = some (.int .i64 R.l) ∧ V.cell? ⟨b, o + j * 3, none⟩ = some (.int .i64 R1.p) ∧ V.cell? ⟨b, o + j * 3 + 1, none⟩ = some (.int .i64 R1.q) ∧ V.cell? ⟨b, o + j * 3 + 2, none⟩ = some (.int .i64 R1.l)) (by kernel_rfl) (by kernel_rfl) ⟨x0, x1, x2, y0, y1, y2⟩ ?_
        iterate 4
          refine m_take (v := ?_) rfl rfl ?_ ?_
          rotate_left
          · intro W hW
            go_simp
            with_reducible rfl
          simp only [Act.put, List.setIfInBounds_toArray, List.set_cons_zero, List.set_cons_succ]
        refine m_loud rfl (fun K hK => ?_)
        have HK := Lib.hid hK
        clear hK
        go_simp
        refine (right_calls _ _ _).mono ?_
        rintro e w1 ⟨rfl, rfl⟩
        refine HK.out _ _ ⟨x0, x1, x2, y0, y1, y2⟩ ?_
        clear HK
        iterate 16
          first
          | (refine m_take (v := ?_) rfl rfl ?_ ?_
             rotate_left
             · intro W hW
               go_simp
               with_reducible rfl
             simp only [Act.put, List.setIfInBounds_toArray, List.set_cons_zero, List.set_cons_succ])
          | (refine m_skip rfl rfl ?_
             simp only [Act.put, List.setIfInBounds_toArray, List.set_cons_zero, List.set_cons_succ])
        refine m_loud rfl (fun K hK => ?_)
        have HK := Lib.hid hK
        clear hK
        go_simp
        refine (order_calls R1 R _).mono ?_
        rintro e w2 ⟨rfl, hb2⟩
        have hb2 : Below W.heap.size W w2 := ((Below.refl W.heap.size W).drew).trans hb2
        have HB3 := Lib.hid hb2
        refine HK.out _ _ ⟨cell_later hb2 x0, cell_later hb2 x1, cell_later hb2 x2, cell_later hb2 y0, cell_later hb2 y1, cell_later hb2 y2⟩ ?_
        clear HK
        clear hb2 x0 x1 x2 y0 y1 y2
        iterate 3
          first
          | (refine m_take (v := ?_) rfl rfl ?_ ?_
             rotate_left
             · intro W hW
               go_simp
               with_reducible rfl
             simp only [Act.put, List.setIfInBounds_toArray, List.set_cons_zero, List.set_cons_succ])
          | (refine m_skip rfl rfl ?_
             simp only [Act.put, List.setIfInBounds_toArray, List.set_cons_zero, List.set_cons_succ])
        refine m_done ?_
        simp only [List.drop_succ_cons, List.drop_zero]
        go_wp2_with fail
        simp only [NP]
        go_wp2_with fail
        go_ret
        exact ⟨by rw [show goodRows rs = false from HN.out]; rfl, HBW.out.trans (HB3.out.mono HBW.out.size)⟩
      · have HN := Lib.hid (show goodTo rs (j + 1 + 1) = true by rw [goodTo_succ, HG.out, k4]; rfl)
        clear k4 k5
        have hbW : Below w.heap.size w W := by rw [HW.out]; exact HB2.out
        obtain ⟨b', o', e', y0, y1, y2⟩ := row_at HV.out j (by omega)
        simp only [Option.some.injEq, Addr.mk.injEq, and_true] at e'
        obtain ⟨rfl, rfl⟩ := e'
        have y0 := cell_later hbW y0
        have y1 := cell_later hbW y1
        have y2 := cell_later hbW y2
        have HBW := Lib.hid hbW
        clear hbW
        generalize rs[j + 1] = R at *
        generalize rs[j] = R1 at *
        have hcast : ((j + 1 : Nat) : Int) = (j : Int) + 1 := by omega
        have kk : decide ((0 : Int) < (j : Int) + 1) = true := decide_eq_true (by omega)
        have kj : (j : Int) < (rs.length : Int) := by omega
        have kj2 : j < rs.length := by omega
        have kw : IntKind.i64.wrap (j : Int) = (j : Int) := by rw [IntKind.wrap_i64]; omega
        rw [hcast]
        go_wp2_with fail
        rw [← HW.out]
        refine region_m [(0, false), (1, false), (2, false), (3, false), (4, true), (5, false), (6, false), (7, false), (8, false), (9, false), (10, false), (11, false), (12, false), (13, false), (14, false), (15, false), (16, false), (17, false), (18, false), (19, false), (20, false), (21, true), (22, false), (23, false), (24, false)] 25 (fun V => V.cell? ⟨wr.heap.size, 0, none⟩ = some (.int .i64 R.p) ∧ V.cell? ⟨wr.heap.size, 1, none⟩ = some (.int .i64 R.q) ∧ V.cell? ⟨wr.heap.size, 2, none⟩ = some (.int .i64 R.l) ∧ V.cell? ⟨b, o + j * 3, none⟩ = some (.int .i64 R1.p) ∧ V.cell? ⟨b, o + j * 3 + 1, none⟩ = some (.int .i64 R1.q) ∧ V.cell? ⟨b, o + j * 3 + 2, none⟩ = some (.int .i64 R1.l)) (by kernel_rfl) (by kernel_rfl) ⟨x0, x1, x2, y0, y1, y2⟩ ?_
        iterate 4
          refine m_take (v := ?_) rfl rfl ?_ ?_
          rotate_left
          · intro W hW
            go_simp
            with_reducible rfl
          simp only [Act.put, List.setIfInBounds_toArray, List.set_cons_zero, List.set_cons_succ]
        refine m_loud rfl (fun K hK => ?_)
        have HK := Lib.hid hK
        clear hK
        go_simp
        refine (right_calls _ _ _).mono ?_
        rintro e w1 ⟨rfl, rfl⟩
        refine HK.out _ _ ⟨x0, x1, x2, y0, y1, y2⟩ ?_
        clear HK
        iterate 16
          first
          | (refine m_take (v := ?_) rfl rfl ?_ ?_
             rotate_left
             · intro W hW
               go_simp
               with_reducible rfl
             simp only [Act.put, List.setIfInBounds_toArray, List.set_cons_zero, List.set_cons_succ])
          | (refine m_skip rfl rfl ?_
             simp only [Act.put, List.setIfInBounds_toArray, List.set_cons_zero, List.set_cons_succ])
        refine m_loud rfl (fun K hK => ?_)
        have HK := Lib.hid hK
        clear hK
        go_simp
        refine (order_calls R1 R _).mono ?_
        rintro e w2 ⟨rfl, hb2⟩
        have hb2 : Below W.heap.size W w2 := ((Below.refl W.heap.size W).drew).trans hb2
        have HB3 := Lib.hid hb2
        refine HK.out _ _ ⟨cell_later hb2 x0, cell_later hb2 x1, cell_later hb2 x2, cell_later hb2 y0, cell_later hb2 y1, cell_later hb2 y2⟩ ?_
        clear HK
        clear hb2 x0 x1 x2 y0 y1 y2
        iterate 3
          first
          | (refine m_take (v := ?_) rfl rfl ?_ ?_
             rotate_left
             · intro W hW
               go_simp
               with_reducible rfl
             simp only [Act.put, List.setIfInBounds_toArray, List.set_cons_zero, List.set_cons_succ])
          | (refine m_skip rfl rfl ?_
             simp only [Act.put, List.setIfInBounds_toArray, List.set_cons_zero, List.set_cons_succ])
        refine m_done ?_
        simp only [List.drop_succ_cons, List.drop_zero]
        go_wp2_with fail
        simp only [NP]
        go_wp2_with fail
        go_roundw
        case rel => exact ⟨j + 1 + 1, by omega, by go_num, HN.out, HBW.out.trans (HB3.out.mono HBW.out.size)⟩
        case measure => simp [intOf]; omega
    · obtain rfl : k = rs.length := by omega
      clear hb hg
      go_wp2_with fail
      go_ret
      exact ⟨by rw [show goodRows rs = true from HG.out]; rfl, HB.out⟩
end Go.Proofs.Ytkabfjbmofpkdaa

/- Layer 13, plain: where a row is put into a table, and what the document's loop makes. -/
namespace Go.Proofs.Ytkabfjbmofpkdaa

theorem rising_pair : ∀ (rs : List Row), Rising rs ↔ rs.Pairwise (fun a b => a.key < b.key)
  | [] => by simp [Rising]
  | r :: rs => by rw [List.pairwise_cons, ← rising_pair rs]; rfl
theorem rising_at {rs : List Row} (h : Rising rs) (i j : Nat) (hi : i < rs.length) (hj : j < rs.length) (hij : i < j) : rs[i].key < rs[j].key :=
  List.pairwise_iff_getElem.1 ((rising_pair rs).1 h) i j hi hj hij
theorem rising_adj {rs : List Row} (h : ∀ i, ∀ hi : i + 1 < rs.length, rs[i].key < rs[i + 1].key) : Rising rs := by
  rw [rising_pair, List.pairwise_iff_getElem]
  intro i j hi hj hij
  induction j with
  | zero => omega
  | succ j ih =>
    have h1 := h j hj
    rcases Nat.lt_or_ge i j with hl | hg
    · have := ih (by omega) hl; omega
    · obtain rfl : i = j := by omega
      exact h1

theorem table_good (rs : List Row) : goodRows rs = true ↔ Table rs := by
  constructor
  · intro hg
    refine ⟨rising_adj (fun i hi => ?_), fun r hr => ?_⟩
    · have := goodTo_at rs rs.length (i + 1) hi hg
      rw [goodAt_succ rs i hi] at this
      simp only [Bool.and_eq_true, decide_eq_true_eq] at this
      exact this.2
    · obtain ⟨i, hi, rfl⟩ := List.getElem_of_mem hr
      exact goodAt_right rs i hi (goodTo_at rs rs.length i hi hg)
  · intro h
    unfold goodRows goodTo
    rw [List.all_eq_true]
    intro i hi
    have hi := List.mem_range.1 hi
    have hm := h.2 rs[i] (List.getElem_mem hi)
    cases i with
    | zero => rw [goodAt_zero rs hi, hm.1]; simpa using hm.2
    | succ j => rw [goodAt_succ rs j hi, hm.1, decide_eq_true hm.2, decide_eq_true (rising_at h.1 j (j + 1) (by omega) hi (by omega))]; rfl

theorem key_range {r : Row} (h : rightB r.p r.q = true) : 0 ≤ r.key ∧ r.key ≤ 511 := by
  unfold rightB at h
  simp only [decide_eq_true_eq] at h
  unfold Row.key
  omega
theorem rising_len : ∀ (rs : List Row) (lo : Int), Rising rs → (∀ r ∈ rs, lo ≤ r.key ∧ r.key ≤ 511) → (rs.length : Int) ≤ 512 - lo ∨ rs = []
  | [], _, _, _ => .inr rfl
  | r :: rs, lo, h, hr => by
    left
    have h0 := hr r (by simp)
    rcases rising_len rs (r.key + 1) h.2 (fun x hx => ⟨by have := h.1 x hx; omega, (hr x (by simp [hx])).2⟩) with h1 | rfl
    · rw [List.length_cons]; omega
    · simp only [List.length_cons, List.length_nil]; omega
theorem table_len {rs : List Row} (h : Table rs) : rs.length ≤ 512 := by
  rcases rising_len rs 0 h.1 (fun r hr => key_range (h.2 r hr).1) with h1 | rfl
  · omega
  · simp

theorem put_less (row : Row) : ∀ (xs ys : List Row), (∀ x ∈ xs, x.key < row.key) → putRowAt row (xs ++ ys) = xs ++ putRowAt row ys
  | [], _, _ => rfl
  | x :: xs, ys, h => by
    rw [List.cons_append, putRowAt, if_pos (h x (by simp)), put_less row xs ys (fun z hz => h z (by simp [hz]))]
    rfl
theorem put_front (row : Row) (ys : List Row) (h : ∀ y ∈ ys, row.key < y.key) : putRowAt row ys = row :: ys := by
  cases ys with
  | nil => rfl
  | cons y ys =>
    have := h y (by simp)
    rw [putRowAt, if_neg (by omega), if_neg (by omega)]
theorem put_snoc (row x : Row) (hx : row.key < x.key) : ∀ (xs : List Row), (∃ z ∈ xs, row.key ≤ z.key) → putRowAt row (xs ++ [x]) = putRowAt row xs ++ [x]
  | [], ⟨z, hz, _⟩ => by cases hz
  | y :: xs, ⟨z, hz, h⟩ => by
    rw [List.cons_append, putRowAt, putRowAt]
    split
    · rename_i hlt
      rw [put_snoc row x hx xs ⟨z, by
        rcases List.mem_cons.1 hz with rfl | hz
        · omega
        · exact hz, h⟩]
      rfl
    · split
      · rfl
      · rfl
theorem put_eq (row : Row) : ∀ (rs : List Row) (i : Nat) (hi : i < rs.length), Rising rs → rs[i].key = row.key → putRowAt row rs = rs.set i row
  | r :: rs, 0, _, _, he => by
    simp only [List.getElem_cons_zero] at he
    rw [putRowAt, if_neg (by omega), if_pos he]
    rfl
  | r :: rs, i + 1, hi, h, he => by
    simp only [List.getElem_cons_succ] at he
    have hi' : i < rs.length := by simpa using hi
    have h1 := h.1 rs[i] (List.getElem_mem hi')
    rw [putRowAt, if_pos (by omega), put_eq row rs i hi' h.2 he]
    rfl
theorem put_new (row : Row) (rs : List Row) (c : Nat) (hc : c ≤ rs.length) (hlo : ∀ k, ∀ h : k < rs.length, k < c → rs[k].key < row.key) (hhi : ∀ k, ∀ h : k < rs.length, c ≤ k → row.key < rs[k].key) :
    putRowAt row rs = rs.take c ++ row :: rs.drop c := by
  have h1 := put_less row (rs.take c) (rs.drop c) (fun x hx => by
    obtain ⟨k, hk, rfl⟩ := List.getElem_of_mem hx
    rw [List.length_take] at hk
    rw [List.getElem_take]
    exact hlo k (by omega) (by omega))
  rw [List.take_append_drop] at h1
  rw [h1, put_front row (rs.drop c) (fun y hy => by
    obtain ⟨k, hk, rfl⟩ := List.getElem_of_mem hy
    rw [List.length_drop] at hk
    rw [List.getElem_drop]
    exact hhi _ (by omega) (by omega))]
theorem cut_at (K : Int) : ∀ (rs : List Row), Rising rs → ∃ c, c ≤ rs.length ∧ (∀ k, ∀ h : k < rs.length, k < c → rs[k].key < K) ∧ (∀ k, ∀ h : k < rs.length, c ≤ k → K ≤ rs[k].key)
  | [], _ => ⟨0, Nat.le_refl _, fun k h => by simp at h, fun k h => by simp at h⟩
  | r :: rs, h => by
    by_cases hr : r.key < K
    · obtain ⟨c, hc, h1, h2⟩ := cut_at K rs h.2
      refine ⟨c + 1, by simpa using hc, fun k hk hkc => ?_, fun k hk hkc => ?_⟩
      · cases k with
        | zero => exact hr
        | succ k => simp only [List.getElem_cons_succ]; exact h1 k (by simpa using hk) (by omega)
      · cases k with
        | zero => omega
        | succ k => simp only [List.getElem_cons_succ]; exact h2 k (by simpa using hk) (by omega)
    · refine ⟨0, by omega, fun k _ h0 => by omega, fun k hk _ => ?_⟩
      cases k with
      | zero => simp only [List.getElem_cons_zero]; omega
      | succ k =>
        have := h.1 (rs[k]'(by simpa using hk)) (List.getElem_mem _)
        simp only [List.getElem_cons_succ]
        omega

/-- What the document's loop has behind k rows. -/
def docTo (row : Row) (rs : List Row) (k : Nat) (d : Bool) : List Row := if d = true then putRowAt row (rs.take k) else rs.take k
def DocAt (row : Row) (rs : List Row) (k : Nat) (d : Bool) : Prop := if d = true then ∃ z ∈ rs.take k, row.key ≤ z.key else ∀ z ∈ rs.take k, z.key < row.key

theorem doc_start (row : Row) (rs : List Row) : DocAt row rs 0 false ∧ docTo row rs 0 false = [] := by
  refine ⟨?_, rfl⟩
  unfold DocAt
  rw [if_neg (by simp)]
  intro z hz
  simp at hz
theorem doc_end {row : Row} {rs : List Row} {d : Bool} (h : DocAt row rs rs.length d) : docTo row rs rs.length d ++ (if d = true then [] else [row]) = putRowAt row rs := by
  unfold DocAt at h
  unfold docTo
  rw [List.take_length] at *
  cases d with
  | true => simp
  | false =>
    simp only [Bool.false_eq_true, if_false] at h ⊢
    have := put_less row rs [] h
    rw [List.append_nil] at this
    rw [this]
    rfl
/-- The four ways through the loop's body: done or not, the row before, at or behind. -/
theorem doc_ways {row : Row} {rs : List Row} (h : Rising rs) {k : Nat} (hk : k < rs.length) {d : Bool} (hd : DocAt row rs k d) :
    (d = false ∧ rs[k].key < row.key ∧ DocAt row rs (k + 1) false ∧ docTo row rs (k + 1) false = docTo row rs k d ++ [rs[k]]) ∨
    (d = false ∧ rs[k].key = row.key ∧ DocAt row rs (k + 1) true ∧ docTo row rs (k + 1) true = docTo row rs k d ++ [row]) ∨
    (d = false ∧ row.key < rs[k].key ∧ DocAt row rs (k + 1) true ∧ docTo row rs (k + 1) true = docTo row rs k d ++ [row] ++ [rs[k]]) ∨
    (d = true ∧ row.key < rs[k].key ∧ DocAt row rs (k + 1) true ∧ docTo row rs (k + 1) true = docTo row rs k d ++ [rs[k]]) := by
  have ht : rs.take (k + 1) = rs.take k ++ [rs[k]] := List.take_succ_eq_append_getElem hk
  unfold DocAt docTo at *
  rw [ht]
  cases d with
  | false =>
    simp only [Bool.false_eq_true, if_false, true_and, false_and, or_false, if_true] at hd ⊢
    have hp := put_less row (rs.take k) [rs[k]] hd
    rw [hp]
    rcases Int.lt_trichotomy rs[k].key row.key with h1 | h1 | h1
    · left
      refine ⟨h1, fun z hz => ?_, trivial⟩
      rcases List.mem_append.1 hz with hz | hz
      · exact hd z hz
      · rw [List.mem_singleton.1 hz]; exact h1
    · right; left
      exact ⟨h1, ⟨rs[k], List.mem_append.2 (.inr (List.mem_singleton.2 rfl)), by omega⟩, by rw [putRowAt, if_neg (by omega), if_pos h1]⟩
    · right; right
      exact ⟨h1, ⟨rs[k], List.mem_append.2 (.inr (List.mem_singleton.2 rfl)), by omega⟩, by rw [putRowAt, if_neg (by omega), if_neg (by omega)]; simp⟩
  | true =>
    simp only [if_true, true_and, reduceCtorEq, false_and, false_or] at hd ⊢
    obtain ⟨z, hz, hzk⟩ := hd
    obtain ⟨j, hj, rfl⟩ := List.getElem_of_mem hz
    rw [List.length_take] at hj
    rw [List.getElem_take] at hzk
    have h1 := rising_at h j k (by omega) hk (by omega)
    refine ⟨by omega, ⟨_, List.mem_append.2 (.inl hz), by rw [List.getElem_take]; exact hzk⟩, put_snoc row _ (by omega) _ ⟨_, hz, by rw [List.getElem_take]; exact hzk⟩⟩

theorem flat_set (rs : List Row) (i : Nat) (hi : i < rs.length) (row : Row) (hp : rs[i].p = row.p) (hq : rs[i].q = row.q) :
    flatF Row.cells (rs.set i row) = (flatF Row.cells rs).set (i * 3 + 2) (.int .i64 row.l) := by
  induction rs generalizing i with
  | nil => simp at hi
  | cons r rs ih =>
    cases i with
    | zero =>
      simp only [List.getElem_cons_zero] at hp hq
      obtain ⟨a, b, c⟩ := r
      obtain ⟨a', b', c'⟩ := row
      simp only at hp hq
      subst hp hq
      rfl
    | succ i =>
      have := ih i (by simpa using hi) hp hq
      have e : (i + 1) * 3 + 2 = i * 3 + 2 + 1 + 1 + 1 := by omega
      rw [e]
      show Row.cells r ++ flatF Row.cells (rs.set i row) = _
      rw [this]
      rfl
end Go.Proofs.Ytkabfjbmofpkdaa

/- Layer 13: the document's Good and Same, walked. -/
namespace Go.Proofs.Ytkabfjbmofpkdaa
open Go.RowKit

theorem right_nums {p q : Int} (h : rightB p q = true) : 0 ≤ p ∧ p ≤ 63 ∧ 0 ≤ q ∧ q < 8 := by
  unfold rightB at h
  simpa using h

set_option maxHeartbeats 2000000 in
theorem rdgood_calls (v : Value) (rs : List Row) (w : World) (hv : Rows w v rs) :
    Calls Try.prog 40 #[v] w fun e w' => e = .returned (.bool (goodRows rs)) ∧ Below w.heap.size w w' := by
  have HV := Lib.hid hv
  obtain ⟨a, cap, rfl, hle, hcap⟩ := Rd.slice hv
  clear hv
  go_enter Try.func40, Try.ntmps40
  go_wp2_with fail
  go_loopw [3] (fun i wr => ∃ k : Nat, k ≤ rs.length ∧ i = .int .i64 k ∧ goodTo rs k = true ∧ Below w.heap.size w wr) (fun i _ => rs.length - (intOf i).toNat)
  case atStart => exact ⟨0, by omega, rfl, rfl, Below.refl _ _⟩
  case round =>
    obtain ⟨k, hk, rfl, hg, hb⟩ := hrel
    have HB := Lib.hid hb
    have HG := Lib.hid hg
    by_cases hlt : k < rs.length
    · have hway := good_row_ways rs k hlt hg
      obtain ⟨b, o, rfl, c0, c1, c2⟩ := row_at HV.out k hlt
      have x0 := cell_later hb c0
      have x1 := cell_later hb c1
      have x2 := cell_later hb c2
      clear hb hg c0 c1 c2
      rcases hway with ⟨k1, k2⟩ | ⟨k1, k2, k3⟩ | ⟨k1, k2, hk0, k3⟩ | ⟨j, rfl, k1, k2, -, k3, k4, k5⟩ | ⟨j, rfl, k1, k2, -, k3, k4, k5⟩
      · have HN := Lib.hid (goodTo_no rs rs.length k hlt k2)
        generalize rs[k] = R at *
        clear k2
        go_wp2_with fail
        refine region_m [(0, false), (1, false), (2, false), (3, false), (4, false), (5, false), (6, false), (7, false), (8, false), (9, false), (10, true), (11, false), (12, false), (13, false), (14, false), (15, false), (16, false), (17, false), (18, false), (19, false)] 20 (fun V => V.cell? ⟨b, o + k * 3, none⟩ = some (.int .i64 R.p) ∧ V.cell? ⟨b, o + k * 3 + 1, none⟩ = some (.int .i64 R.q) ∧ V.cell? ⟨b, o + k * 3 + 2, none⟩ = some (.int .i64 R.l)) (by kernel_rfl) (by kernel_rfl) ⟨x0, x1, x2⟩ ?_
        iterate 10
          refine m_take (v := ?_) rfl rfl ?_ ?_
          rotate_left
          · intro W hW
            go_simp
            with_reducible rfl
          simp only [Act.put, List.setIfInBounds_toArray, List.set_cons_zero, List.set_cons_succ]
        refine m_loud rfl (fun K hK => ?_)
        have HK := Lib.hid hK
        clear hK
        go_simp
        refine (rright_calls _ _ _).mono ?_
        rintro e w1 ⟨rfl, rfl⟩
        refine HK.out _ _ ⟨x0, x1, x2⟩ ?_
        clear HK
        iterate 9
          first
          | (refine m_take (v := ?_) rfl rfl ?_ ?_
             rotate_left
             · intro W hW
               go_simp
               with_reducible rfl
             simp only [Act.put, List.setIfInBounds_toArray, List.set_cons_zero, List.set_cons_succ])
          | (refine m_skip rfl rfl ?_
             simp only [Act.put, List.setIfInBounds_toArray, List.set_cons_zero, List.set_cons_succ])
        refine m_done ?_
        simp only [List.drop_succ_cons, List.drop_zero]
        go_wp2_with fail
        simp only [NP]
        go_wp2_with fail
        go_ret
        exact ⟨by rw [show goodRows rs = false from HN.out]; rfl, HB.out.drew⟩
      · have HN := Lib.hid (goodTo_no rs rs.length k hlt k3)
        generalize rs[k] = R at *
        clear k3
        go_wp2_with fail
        refine region_m [(0, false), (1, false), (2, false), (3, false), (4, false), (5, false), (6, false), (7, false), (8, false), (9, false), (10, true), (11, false), (12, false), (13, false), (14, false), (15, false), (16, false), (17, false), (18, false), (19, false)] 20 (fun V => V.cell? ⟨b, o + k * 3, none⟩ = some (.int .i64 R.p) ∧ V.cell? ⟨b, o + k * 3 + 1, none⟩ = some (.int .i64 R.q) ∧ V.cell? ⟨b, o + k * 3 + 2, none⟩ = some (.int .i64 R.l)) (by kernel_rfl) (by kernel_rfl) ⟨x0, x1, x2⟩ ?_
        iterate 10
          refine m_take (v := ?_) rfl rfl ?_ ?_
          rotate_left
          · intro W hW
            go_simp
            with_reducible rfl
          simp only [Act.put, List.setIfInBounds_toArray, List.set_cons_zero, List.set_cons_succ]
        refine m_loud rfl (fun K hK => ?_)
        have HK := Lib.hid hK
        clear hK
        go_simp
        refine (rright_calls _ _ _).mono ?_
        rintro e w1 ⟨rfl, rfl⟩
        refine HK.out _ _ ⟨x0, x1, x2⟩ ?_
        clear HK
        iterate 9
          first
          | (refine m_take (v := ?_) rfl rfl ?_ ?_
             rotate_left
             · intro W hW
               go_simp
               with_reducible rfl
             simp only [Act.put, List.setIfInBounds_toArray, List.set_cons_zero, List.set_cons_succ])
          | (refine m_skip rfl rfl ?_
             simp only [Act.put, List.setIfInBounds_toArray, List.set_cons_zero, List.set_cons_succ])
        refine m_done ?_
        simp only [List.drop_succ_cons, List.drop_zero]
        go_wp2_with fail
        simp only [NP]
        go_wp2_with fail
        go_ret
        exact ⟨by rw [show goodRows rs = false from HN.out]; rfl, HB.out.drew⟩
      · have HN := Lib.hid (show goodTo rs (k + 1) = true by rw [goodTo_succ, HG.out, k3]; rfl)
        have kk : decide (0 < k) = false := decide_eq_false (by omega)
        generalize rs[k] = R at *
        clear k3 hk0
        go_wp2_with fail
        refine region_m [(0, false), (1, false), (2, false), (3, false), (4, false), (5, false), (6, false), (7, false), (8, false), (9, false), (10, true), (11, false), (12, false), (13, false), (14, false), (15, false), (16, false), (17, false), (18, false), (19, false)] 20 (fun V => V.cell? ⟨b, o + k * 3, none⟩ = some (.int .i64 R.p) ∧ V.cell? ⟨b, o + k * 3 + 1, none⟩ = some (.int .i64 R.q) ∧ V.cell? ⟨b, o + k * 3 + 2, none⟩ = some (.int .i64 R.l)) (by kernel_rfl) (by kernel_rfl) ⟨x0, x1, x2⟩ ?_
        iterate 10
          refine m_take (v := ?_) rfl rfl ?_ ?_
          rotate_left
          · intro W hW
            go_simp
            with_reducible rfl
          simp only [Act.put, List.setIfInBounds_toArray, List.set_cons_zero, List.set_cons_succ]
        refine m_loud rfl (fun K hK => ?_)
        have HK := Lib.hid hK
        clear hK
        go_simp
        refine (rright_calls _ _ _).mono ?_
        rintro e w1 ⟨rfl, rfl⟩
        refine HK.out _ _ ⟨x0, x1, x2⟩ ?_
        clear HK
        iterate 9
          first
          | (refine m_take (v := ?_) rfl rfl ?_ ?_
             rotate_left
             · intro W hW
               go_simp
               with_reducible rfl
             simp only [Act.put, List.setIfInBounds_toArray, List.set_cons_zero, List.set_cons_succ])
          | (refine m_skip rfl rfl ?_
             simp only [Act.put, List.setIfInBounds_toArray, List.set_cons_zero, List.set_cons_succ])
        refine m_done ?_
        simp only [List.drop_succ_cons, List.drop_zero]
        go_wp2_with fail
        simp only [NP]
        go_wp2_with fail
        refine region_m [(0, false), (1, false), (2, false), (3, false), (4, false), (5, false), (6, false), (7, false), (8, false), (9, false), (10, false), (11, false), (12, false), (13, false), (14, false), (15, false), (16, false), (17, false), (18, false), (19, false), (20, false), (21, false), (22, false), (23, false), (24, false), (25, false), (26, false), (27, false), (28, false), (29, false), (30, false)] 31 (fun V => V.cell? ⟨b, o + k * 3, none⟩ = some (.int .i64 R.p) ∧ V.cell? ⟨b, o + k * 3 + 1, none⟩ = some (.int .i64 R.q) ∧ V.cell? ⟨b, o + k * 3 + 2, none⟩ = some (.int .i64 R.l)) (by kernel_rfl) (by kernel_rfl) ⟨x0, x1, x2⟩ ?_
        iterate 31
          first
          | (refine m_take (v := ?_) rfl rfl ?_ ?_
             rotate_left
             · intro W hW
               go_simp
               with_reducible rfl
             simp only [Act.put, List.setIfInBounds_toArray, List.set_cons_zero, List.set_cons_succ])
          | (refine m_skip rfl rfl ?_
             simp only [Act.put, List.setIfInBounds_toArray, List.set_cons_zero, List.set_cons_succ])
        refine m_done ?_
        simp only [List.drop_succ_cons, List.drop_zero]
        go_wp2_with fail
        simp only [NP]
        go_wp2_with fail
        go_roundw
        case rel => exact ⟨k + 1, by omega, by go_num, HN.out, HB.out.drew.drew⟩
        case measure => simp [intOf]; omega
      · have HN := Lib.hid (goodTo_no rs rs.length (j + 1) hlt k4)
        obtain ⟨b', o', e', y0, y1, -⟩ := row_at HV.out j (by omega)
        simp only [Option.some.injEq, Addr.mk.injEq, and_true] at e'
        obtain ⟨rfl, rfl⟩ := e'
        have y0 := cell_later HB.out y0
        have y1 := cell_later HB.out y1
        have hR := right_nums k1
        have hR1 := right_nums k5
        have k3' : decide (8 * rs[j + 1].p + rs[j + 1].q ≤ 8 * rs[j].p + rs[j].q) = true := k3
        clear k3 k4 k5
        generalize rs[j + 1] = R at *
        generalize rs[j] = R1 at *
        have q1 : IntKind.i64.wrap (8 * R.p) = 8 * R.p := by rw [IntKind.wrap_i64]; omega
        have q2 : IntKind.i64.wrap (8 * R.p + R.q) = 8 * R.p + R.q := by rw [IntKind.wrap_i64]; omega
        have q3 : IntKind.i64.wrap (8 * R1.p) = 8 * R1.p := by rw [IntKind.wrap_i64]; omega
        have q4 : IntKind.i64.wrap (8 * R1.p + R1.q) = 8 * R1.p + R1.q := by rw [IntKind.wrap_i64]; omega
        clear hR hR1
        have hcast : ((j + 1 : Nat) : Int) = (j : Int) + 1 := by omega
        have kk : decide ((0 : Int) < (j : Int) + 1) = true := decide_eq_true (by omega)
        have kj : (j : Int) < (rs.length : Int) := by omega
        have kj2 : j < rs.length := by omega
        have kz : (0 : Int) ≤ (j : Int) + 1 := by omega
        have kw : IntKind.i64.wrap (j : Int) = (j : Int) := by rw [IntKind.wrap_i64]; omega
        rw [hcast]
        go_wp2_with fail
        refine region_m [(0, false), (1, false), (2, false), (3, false), (4, false), (5, false), (6, false), (7, false), (8, false), (9, false), (10, true), (11, false), (12, false), (13, false), (14, false), (15, false), (16, false), (17, false), (18, false), (19, false)] 20 (fun V => V.cell? ⟨b, o + (j + 1) * 3, none⟩ = some (.int .i64 R.p) ∧ V.cell? ⟨b, o + (j + 1) * 3 + 1, none⟩ = some (.int .i64 R.q) ∧ V.cell? ⟨b, o + (j + 1) * 3 + 2, none⟩ = some (.int .i64 R.l)) (by kernel_rfl) (by kernel_rfl) ⟨x0, x1, x2⟩ ?_
        iterate 10
          refine m_take (v := ?_) rfl rfl ?_ ?_
          rotate_left
          · intro W hW
            go_simp
            with_reducible rfl
          simp only [Act.put, List.setIfInBounds_toArray, List.set_cons_zero, List.set_cons_succ]
        refine m_loud rfl (fun K hK => ?_)
        have HK := Lib.hid hK
        clear hK
        go_simp
        refine (rright_calls _ _ _).mono ?_
        rintro e w1 ⟨rfl, rfl⟩
        refine HK.out _ _ ⟨x0, x1, x2⟩ ?_
        clear HK
        iterate 9
          first
          | (refine m_take (v := ?_) rfl rfl ?_ ?_
             rotate_left
             · intro W hW
               go_simp
               with_reducible rfl
             simp only [Act.put, List.setIfInBounds_toArray, List.set_cons_zero, List.set_cons_succ])
          | (refine m_skip rfl rfl ?_
             simp only [Act.put, List.setIfInBounds_toArray, List.set_cons_zero, List.set_cons_succ])
        refine m_done ?_
        simp only [List.drop_succ_cons, List.drop_zero]
        go_wp2_with fail
        simp only [NP]
        go_wp2_with fail
        refine region_m [(0, false), (1, false), (2, false), (3, false), (4, false), (5, false), (6, false), (7, false), (8, false), (9, false), (10, false), (11, false), (12, false), (13, false), (14, false), (15, false), (16, false), (17, false), (18, false), (19, false), (20, false), (21, false), (22, false), (23, false), (24, false), (25, false), (26, false), (27, false), (28, false), (29, false), (30, false)] 31 (fun V => V.cell? ⟨b, o + (j + 1) * 3, none⟩ = some (.int .i64 R.p) ∧ V.cell? ⟨b, o + (j + 1) * 3 + 1, none⟩ = some (.int .i64 R.q) ∧ V.cell? ⟨b, o + (j + 1) * 3 + 2, none⟩ = some (.int .i64 R.l) ∧ V.cell? ⟨b, o + j * 3, none⟩ = some (.int .i64 R1.p) ∧ V.cell? ⟨b, o + j * 3 + 1, none⟩ = some (.int .i64 R1.q)) (by kernel_rfl) (by kernel_rfl) ⟨x0, x1, x2, y0, y1⟩ ?_
        iterate 31
          first
          | (refine m_take (v := ?_) rfl rfl ?_ ?_
             rotate_left
             · intro W hW
               go_simp
               with_reducible rfl
             simp only [Act.put, List.setIfInBounds_toArray, List.set_cons_zero, List.set_cons_succ])
          | (refine m_skip rfl rfl ?_
             simp only [Act.put, List.setIfInBounds_toArray, List.set_cons_zero, List.set_cons_succ])
        refine m_done ?_
        simp only [List.drop_succ_cons, List.drop_zero]
        go_wp2_with fail
        simp only [NP]
        go_wp2_with fail
        go_ret
        exact ⟨by rw [show goodRows rs = false from HN.out]; rfl, HB.out.drew.drew⟩
      · have HN := Lib.hid (show goodTo rs (j + 1 + 1) = true by rw [goodTo_succ, HG.out, k4]; rfl)
        obtain ⟨b', o', e', y0, y1, -⟩ := row_at HV.out j (by omega)
        simp only [Option.some.injEq, Addr.mk.injEq, and_true] at e'
        obtain ⟨rfl, rfl⟩ := e'
        have y0 := cell_later HB.out y0
        have y1 := cell_later HB.out y1
        have hR := right_nums k1
        have hR1 := right_nums k5
        have k3' : decide (8 * rs[j + 1].p + rs[j + 1].q ≤ 8 * rs[j].p + rs[j].q) = false := k3
        clear k3 k4 k5
        generalize rs[j + 1] = R at *
        generalize rs[j] = R1 at *
        have q1 : IntKind.i64.wrap (8 * R.p) = 8 * R.p := by rw [IntKind.wrap_i64]; omega
        have q2 : IntKind.i64.wrap (8 * R.p + R.q) = 8 * R.p + R.q := by rw [IntKind.wrap_i64]; omega
        have q3 : IntKind.i64.wrap (8 * R1.p) = 8 * R1.p := by rw [IntKind.wrap_i64]; omega
        have q4 : IntKind.i64.wrap (8 * R1.p + R1.q) = 8 * R1.p + R1.q := by rw [IntKind.wrap_i64]; omega
        clear hR hR1
        have hcast : ((j + 1 : Nat) : Int) = (j : Int) + 1 := by omega
        have kk : decide ((0 : Int) < (j : Int) + 1) = true := decide_eq_true (by omega)
        have kj : (j : Int) < (rs.length : Int) := by omega
        have kj2 : j < rs.length := by omega
        have kz : (0 : Int) ≤ (j : Int) + 1 := by omega
        have kw : IntKind.i64.wrap (j : Int) = (j : Int) := by rw [IntKind.wrap_i64]; omega
        rw [hcast]
        go_wp2_with fail
        refine region_m [(0, false), (1, false), (2, false), (3, false), (4, false), (5, false), (6, false), (7, false), (8, false), (9, false), (10, true), (11, false), (12, false), (13, false), (14, false), (15, false), (16, false), (17, false), (18, false), (19, false)] 20 (fun V => V.cell? ⟨b, o + (j + 1) * 3, none⟩ = some (.int .i64 R.p) ∧ V.cell? ⟨b, o + (j + 1) * 3 + 1, none⟩ = some (.int .i64 R.q) ∧ V.cell? ⟨b, o + (j + 1) * 3 + 2, none⟩ = some (.int .i64 R.l)) (by kernel_rfl) (by kernel_rfl) ⟨x0, x1, x2⟩ ?_
        iterate 10
          refine m_take (v := ?_) rfl rfl ?_ ?_
          rotate_left
          · intro W hW
            go_simp
            with_reducible rfl
          simp only [Act.put, List.setIfInBounds_toArray, List.set_cons_zero, List.set_cons_succ]
        refine m_loud rfl (fun K hK => ?_)
        have HK := Lib.hid hK
        clear hK
        go_simp
        refine (rright_calls _ _ _).mono ?_
        rintro e w1 ⟨rfl, rfl⟩
        refine HK.out _ _ ⟨x0, x1, x2⟩ ?_
        clear HK
        iterate 9
          first
          | (refine m_take (v := ?_) rfl rfl ?_ ?_
             rotate_left
             · intro W hW
               go_simp
               with_reducible rfl
             simp only [Act.put, List.setIfInBounds_toArray, List.set_cons_zero, List.set_cons_succ])
          | (refine m_skip rfl rfl ?_
             simp only [Act.put, List.setIfInBounds_toArray, List.set_cons_zero, List.set_cons_succ])
        refine m_done ?_
        simp only [List.drop_succ_cons, List.drop_zero]
        go_wp2_with fail
        simp only [NP]
        go_wp2_with fail
        refine region_m [(0, false), (1, false), (2, false), (3, false), (4, false), (5, false), (6, false), (7, false), (8, false), (9, false), (10, false), (11, false), (12, false), (13, false), (14, false), (15, false), (16, false), (17, false), (18, false), (19, false), (20, false), (21, false), (22, false), (23, false), (24, false), (25, false), (26, false), (27, false), (28, false), (29, false), (30, false)] 31 (fun V => V.cell? ⟨b, o + (j + 1) * 3, none⟩ = some (.int .i64 R.p) ∧ V.cell? ⟨b, o + (j + 1) * 3 + 1, none⟩ = some (.int .i64 R.q) ∧ V.cell? ⟨b, o + (j + 1) * 3 + 2, none⟩ = some (.int .i64 R.l) ∧ V.cell? ⟨b, o + j * 3, none⟩ = some (.int .i64 R1.p) ∧ V.cell? ⟨b, o + j * 3 + 1, none⟩ = some (.int .i64 R1.q)) (by kernel_rfl) (by kernel_rfl) ⟨x0, x1, x2, y0, y1⟩ ?_
        iterate 31
          first
          | (refine m_take (v := ?_) rfl rfl ?_ ?_
             rotate_left
             · intro W hW
               go_simp
               with_reducible rfl
             simp only [Act.put, List.setIfInBounds_toArray, List.set_cons_zero, List.set_cons_succ])
          | (refine m_skip rfl rfl ?_
             simp only [Act.put, List.setIfInBounds_toArray, List.set_cons_zero, List.set_cons_succ])
        refine m_done ?_
        simp only [List.drop_succ_cons, List.drop_zero]
        go_wp2_with fail
        simp only [NP]
        go_wp2_with fail
        go_roundw
        case rel => exact ⟨j + 1 + 1, by omega, by go_num, HN.out, HB.out.drew.drew⟩
        case measure => simp [intOf]; omega
    · obtain rfl : k = rs.length := by omega
      clear hb hg
      go_wp2_with fail
      go_ret
      exact ⟨by rw [show goodRows rs = true from HG.out]; rfl, HB.out⟩

set_option maxHeartbeats 2000000 in
theorem rsame_calls (u v : Value) (rs : List Row) (w : World) (hu : Rows w u rs) (hv : Rows w v rs) :
    Calls Try.prog 42 #[u, v] w fun e w' => e = .returned (.bool true) ∧ Below w.heap.size w w' := by
  have HU := Lib.hid hu
  have HV := Lib.hid hv
  obtain ⟨a, cap, rfl, hle, hcap⟩ := Rd.slice hu
  obtain ⟨a', cap', rfl, hle', hcap'⟩ := Rd.slice hv
  clear hu hv
  go_enter Try.func42, Try.ntmps42
  go_wp2_with fail
  go_loopw [5] (fun i wr => ∃ k : Nat, k ≤ rs.length ∧ i = .int .i64 k ∧ Below w.heap.size w wr) (fun i _ => rs.length - (intOf i).toNat)
  case atStart => exact ⟨0, by omega, rfl, Below.refl _ _⟩
  case round =>
    obtain ⟨k, hk, rfl, hb⟩ := hrel
    have HB := Lib.hid hb
    by_cases hlt : k < rs.length
    · obtain ⟨b, o, rfl, c0, c1, c2⟩ := row_at HU.out k hlt
      obtain ⟨b', o', rfl, d0, d1, d2⟩ := row_at HV.out k hlt
      have x0 := cell_later hb c0
      have x1 := cell_later hb c1
      have x2 := cell_later hb c2
      have y0 := cell_later hb d0
      have y1 := cell_later hb d1
      have y2 := cell_later hb d2
      clear hb c0 c1 c2 d0 d1 d2
      generalize rs[k] = R at *
      go_wp2_with fail
      refine region_m [(0, false), (1, false), (2, false), (3, false), (4, false), (5, false), (6, false), (7, false), (8, false), (9, false), (10, false), (11, false), (12, false), (13, false), (14, false), (15, false), (16, false), (17, false), (18, false), (19, false), (20, false), (21, false), (22, false), (23, false), (24, false), (25, false), (26, false), (27, false), (28, false), (29, false), (30, false), (31, false), (32, false), (33, false), (34, false), (35, false), (36, false)] 37 (fun V => V.cell? ⟨b, o + k * 3, none⟩ = some (.int .i64 R.p) ∧ V.cell? ⟨b, o + k * 3 + 1, none⟩ = some (.int .i64 R.q) ∧ V.cell? ⟨b, o + k * 3 + 2, none⟩ = some (.int .i64 R.l) ∧ V.cell? ⟨b', o' + k * 3, none⟩ = some (.int .i64 R.p) ∧ V.cell? ⟨b', o' + k * 3 + 1, none⟩ = some (.int .i64 R.q) ∧ V.cell? ⟨b', o' + k * 3 + 2, none⟩ = some (.int .i64 R.l)) (by kernel_rfl) (by kernel_rfl) ⟨x0, x1, x2, y0, y1, y2⟩ ?_
      iterate 37
        first
        | (refine m_take (v := ?_) rfl rfl ?_ ?_
           rotate_left
           · intro W hW
             go_simp
             with_reducible rfl
           simp only [Act.put, List.setIfInBounds_toArray, List.set_cons_zero, List.set_cons_succ])
        | (refine m_skip rfl rfl ?_
           simp only [Act.put, List.setIfInBounds_toArray, List.set_cons_zero, List.set_cons_succ])
      refine m_done ?_
      simp only [List.drop_succ_cons, List.drop_zero]
      go_wp2_with fail
      simp only [NP]
      go_wp2_with fail
      go_roundw
      case rel => exact ⟨k + 1, by omega, by go_num, HB.out.drew⟩
      case measure => simp [intOf]; omega
    · obtain rfl : k = rs.length := by omega
      clear hb
      go_wp2_with fail
      go_ret
      exact ⟨rfl, HB.out⟩
end Go.Proofs.Ytkabfjbmofpkdaa

/- Layer 13: Clone, IndexFunc and its closure, BinarySearchFunc, walked. -/
namespace Go.Proofs.Ytkabfjbmofpkdaa
open Go.RowKit Go.Shelf

theorem tyRows : STy Try.prog 22 92 (.agg #[.int .i64 0, .int .i64 0, .int .i64 0]) 3 24 := .of Try.underlying22 (by kernel_rfl) rfl (by omega)

theorem rows_one (rs : List Row) : ∀ u ∈ flatF Row.cells rs, u.oneCell' = true := by
  intro u hu
  obtain ⟨r, -, hu⟩ := List.mem_flatMap.1 hu
  simp only [Row.cells, List.mem_cons, List.not_mem_nil, or_false] at hu
  rcases hu with rfl | rfl | rfl <;> rfl

set_option maxHeartbeats 400000 in
theorem cloneR_calls (v : Value) (n : Nat) (cs : List Value) (w : World) (hv : Rd w 3 v n cs) (h1 : ∀ u ∈ cs, u.oneCell' = true) (hl : n ≤ 1000000) :
    Calls Try.prog 56 #[v] w fun e w' => ∃ v', e = .returned v' ∧ w'.ownsRow w.heap.size 92 3 v' n cs ∧ Below w.heap.size w w' := by
  have HV := Lib.hid hv
  have H1 := Lib.hid h1
  obtain ⟨a, c, rfl, hn, hle, hc, h3⟩ := hv
  clear h1
  cases a with
  | none =>
    have h0 : n = 0 := by
      rcases h3 with h3 | ⟨b, o, h, -⟩
      · omega
      · cases h
    subst h0
    have hx : cs = [] := List.eq_nil_of_length_eq_zero (by omega)
    subst hx
    clear h3 hn
    have hnil := fun (w : World) => Lib.run_eql_slice_nil (P := Try.prog) w 22 92 none 0 c 0 0 Try.underlying22
    go_enter Try.func56, Try.ntmps56
    go_wp2
    go_ret
    exact ⟨_, rfl, World.ownsRow_nil _ _ _ _, Below.refl _ _⟩
  | some x =>
    clear h3 hn
    have hnil := fun (w : World) => Lib.run_eql_slice_nil (P := Try.prog) w 22 92 (some x) n c 0 0 Try.underlying22
    have hlit := World.ownsRow_lit (base := w.heap.size) (size := 3) (e := 92) w #[] 0 (Nat.le_refl _) (by unfold maxLen; omega) (by simp)
    have hal := (Below.refl w.heap.size w).alloc (Nat.le_refl _) (.cells #[] 92)
    have HR := Lib.hid (HV.out.below hal (Nat.le_refl _))
    have HLIT := Lib.hid hlit
    have HAL := Lib.hid hal
    clear hlit hal
    go_enter Try.func56, Try.ntmps56
    go_wp2_with (at_builtin; go_loud (refine app_list tyRows HLIT.out HR.out H1.out (by omega) (by omega) HAL.out.size rfl rfl rfl rfl ?_; intro v3 w3 hm3 hb3 hn3; obtain ⟨ga, gc, rfl⟩ := own_slice hm3))
    go_ret
    refine ⟨_, rfl, ?_, ?_⟩
    · simpa using hm3
    · exact HAL.out.grown hb3 HAL.out.size (fun j e => (World.ownsRow.lt HLIT.out j e).1)

/-- A function value that asks p of a row, in whatever world comes of w. -/
def AsksR (w : World) (g : Nat) (lb : Array Value) (p : Row → Bool) : Prop :=
  ∀ (r : Row) (W : World), Below w.heap.size w W → Calls Try.prog g (#[.agg #[.int .i64 r.p, .int .i64 r.q, .int .i64 r.l]] ++ lb) W fun e W' => e = .returned (.bool (p r)) ∧ Below W.heap.size W W'

set_option maxHeartbeats 800000 in
theorem idxR_calls (v : Value) (rs : List Row) (g : Nat) (lb : Array Value) (p : Row → Bool) (w : World) (eg : ∀ args w, (callFunc g args).run Try.prog w = .ok (.enter g args) w) (hv : Rows w v rs) (hp : AsksR w g lb p) :
    Calls Try.prog 79 #[v, .func (.func g) #[] lb] w fun e w' => ((∃ i : Nat, ∃ h : i < rs.length, p rs[i] = true ∧ e = .returned (.int .i64 i)) ∨ ((∀ r ∈ rs, p r = false) ∧ e = .returned (.int .i64 (-1)))) ∧ Below w.heap.size w w' := by
  have HV := Lib.hid hv
  have HP := Lib.hid hp
  obtain ⟨a, cap, rfl, hle, hcap⟩ := Rd.slice hv
  clear hv hp
  go_enter Try.func79, Try.ntmps79
  go_wp2_with fail
  go_loopw [5, 8] (fun _ i wr => ∃ k : Nat, k ≤ rs.length ∧ i = .int .i64 k ∧ (∀ r ∈ rs.take k, p r = false) ∧ Below w.heap.size w wr) (fun _ i _ => rs.length - (intOf i).toNat)
  case atStart => exact ⟨0, by omega, rfl, by simp, Below.refl _ _⟩
  case round =>
    obtain ⟨k, hk, rfl, hno, hb⟩ := hrel
    have HB := Lib.hid hb
    have HNO := Lib.hid hno
    clear hno
    by_cases hlt : k < rs.length
    · obtain ⟨b, o, rfl, c0, c1, c2⟩ := row_at HV.out k hlt
      have d0 := cell_later hb c0
      have d1 := cell_later hb c1
      have d2 := cell_later hb c2
      have hnx : rs.take (k + 1) = rs.take k ++ [rs[k]] := List.take_succ_eq_append_getElem hlt
      have HNX := Lib.hid hnx
      have HE := Lib.hid (show ∃ R, R = rs[k] from ⟨_, rfl⟩)
      clear hnx hb c0 c1 c2
      generalize hR : rs[k] = R at *
      have HR := Lib.hid hR
      clear hR HE
      go_wp2_with fail
      refine (HP.out R _ HB.out).mono ?_
      rintro e w1 ⟨rfl, hb1⟩
      have HB3 := Lib.hid (HB.out.trans (hb1.mono HB.out.size))
      clear hb1
      cases hpr : p R with
      | true =>
        have HPR := Lib.hid hpr
        clear hpr
        go_wp2_with fail
        go_ret
        exact ⟨.inl ⟨k, hlt, by rw [HR.out]; exact HPR.out, rfl⟩, HB3.out⟩
      | false =>
        have HPR := Lib.hid hpr
        clear hpr
        go_wp2_with fail
        go_roundw
        case rel =>
          refine ⟨k + 1, by omega, by go_num, fun r hr => ?_, HB3.out⟩
          rw [HNX.out] at hr
          rcases List.mem_append.1 hr with hr | hr
          · exact HNO.out r hr
          · rw [List.mem_singleton.1 hr]; exact HPR.out
        case measure => simp [intOf]; omega
    · obtain rfl : k = rs.length := by omega
      clear hb
      go_wp2_with fail
      go_ret
      refine ⟨.inr ⟨fun r hr => HNO.out r (by rw [List.take_length]; exact hr), rfl⟩, HB.out⟩

theorem take1_asks (w : World) (b : Nat) (x : Row) (c0 : w.cell? ⟨b, 0, none⟩ = some (.int .i64 x.p)) (c1 : w.cell? ⟨b, 1, none⟩ = some (.int .i64 x.q)) (c2 : w.cell? ⟨b, 2, none⟩ = some (.int .i64 x.l)) :
    AsksR w 80 #[.pointer (some ⟨b, 0, none⟩)] (fun r => ordOf r x == 0) := by
  intro r W hW
  have hal := (Below.refl W.heap.size W).alloc (Nat.le_refl _) (.cells #[.int .i64 r.p, .int .i64 r.q, .int .i64 r.l] 92)
  have d0 := cell_later hal (cell_later hW c0)
  have d1 := cell_later hal (cell_later hW c1)
  have d2 := cell_later hal (cell_later hW c2)
  have HAL := Lib.hid hal
  clear hal hW c0 c1 c2
  simp only [List.append_toArray, List.cons_append, List.nil_append]
  go_enter Try.func80, Try.ntmps80
  go_wp2_with fail
  refine (order_calls r x _).mono ?_
  rintro e w1 ⟨rfl, hb1⟩
  have HB1 := Lib.hid hb1
  clear hb1
  go_wp2_with fail
  go_ret
  exact ⟨rfl, HAL.out.trans (HB1.out.mono HAL.out.size)⟩
end Go.Proofs.Ytkabfjbmofpkdaa

/- Layer 13: BinarySearchFunc walked. -/
namespace Go.Proofs.Ytkabfjbmofpkdaa
open Go.RowKit Go.Shelf

set_option maxHeartbeats 2000000 in
theorem bsR_calls (v : Value) (rs : List Row) (x : Row) (c : Nat) (w : World) (hv : Rows w v rs) (hc : c ≤ rs.length) (hn : rs.length ≤ 1000000)
    (hlo : ∀ k, ∀ h : k < rs.length, k < c → ordOf rs[k] x < 0) (hhi : ∀ k, ∀ h : k < rs.length, c ≤ k → 0 ≤ ordOf rs[k] x) :
    Calls Try.prog 81 #[v, .agg #[.int .i64 x.p, .int .i64 x.q, .int .i64 x.l], .func (.func 70) #[] #[]] w fun e w' => (∃ f, e = .returned (.tuple #[.int .i64 c, .bool f])) ∧ Below w.heap.size w w' := by
  have HV := Lib.hid hv
  have HLO := Lib.hid hlo
  have HHI := Lib.hid hhi
  obtain ⟨a, cap, rfl, hle, hcap⟩ := Rd.slice hv
  clear hv hlo hhi
  obtain ⟨X, hX⟩ : ∃ X, X = w.alloc (.cells #[.int .i64 x.p, .int .i64 x.q, .int .i64 x.l] 92) := ⟨_, rfl⟩
  have hbX : Below w.heap.size w X := by rw [hX]; exact (Below.refl _ _).alloc (Nat.le_refl _) _
  have x0 : X.cell? ⟨w.heap.size, 0, none⟩ = some (.int .i64 x.p) := by rw [hX, World.cell?_alloc_at _ _ _ _ rfl]; rfl
  have x1 : X.cell? ⟨w.heap.size, 1, none⟩ = some (.int .i64 x.q) := by rw [hX, World.cell?_alloc_at _ _ _ _ rfl]; rfl
  have x2 : X.cell? ⟨w.heap.size, 2, none⟩ = some (.int .i64 x.l) := by rw [hX, World.cell?_alloc_at _ _ _ _ rfl]; rfl
  have HBX := Lib.hid hbX
  have HX := Lib.hid (And.intro x0 (And.intro x1 x2))
  clear hbX x0 x1 x2
  go_enter Try.func81, Try.ntmps81
  go_wp2_with fail
  rw [← hX]
  clear hX
  go_loopw [9, 10, 11] (fun iv jv _ wr => ∃ i j : Nat, i ≤ c ∧ c ≤ j ∧ j ≤ rs.length ∧ iv = .int .i64 i ∧ jv = .int .i64 j ∧ Below X.heap.size X wr) (fun iv jv _ _ => (intOf jv).toNat - (intOf iv).toNat)
  case atStart => exact ⟨0, rs.length, by omega, hc, by omega, rfl, rfl, Below.refl _ _⟩
  case round =>
    obtain ⟨i, j, hi, hj, hjn, rfl, rfl, hb⟩ := hrel
    have HB := Lib.hid hb
    have x0 := cell_later hb HX.out.1
    have x1 := cell_later hb HX.out.2.1
    have x2 := cell_later hb HX.out.2.2
    by_cases hlt : i < j
    · obtain ⟨h, hh⟩ : ∃ h : Nat, h = (i + j) / 2 := ⟨_, rfl⟩
      have h1 : i ≤ h := by omega
      have h2 : h < j := by omega
      obtain ⟨b, o, rfl, c0, c1, c2⟩ := row_at HV.out h (by omega)
      have hbw := HBX.out.trans (hb.mono HBX.out.size)
      have d0 := cell_later hbw c0
      have d1 := cell_later hbw c1
      have d2 := cell_later hbw c2
      clear c0 c1 c2 hbw hb
      have hc2 : ((i : Int) + (j : Int)) / 2 = (h : Int) := by omega
      have hln : h < rs.length := by omega
      have hord := HLO.out h hln
      have hord2 := HHI.out h hln
      generalize hR : rs[h] = R at *
      have HR := Lib.hid hR
      have ho : (ordOf R x < 0 ∧ h < c) ∨ (¬ ordOf R x < 0 ∧ c ≤ h) := by
        by_cases hcc : h < c
        · exact .inl ⟨hord hcc, hcc⟩
        · exact .inr ⟨by have := hord2 (by omega); omega, by omega⟩
      have HO := Lib.hid ho
      have HH := Lib.hid hh
      clear hord hord2 ho hR hh
      go_wp2_with fail
      refine region_m [(0, false), (1, false), (2, false), (3, false), (4, false), (5, false), (6, true)] 7 (fun V => V.cell? ⟨w.heap.size, 0, none⟩ = some (.int .i64 x.p) ∧ V.cell? ⟨w.heap.size, 1, none⟩ = some (.int .i64 x.q) ∧ V.cell? ⟨w.heap.size, 2, none⟩ = some (.int .i64 x.l) ∧ V.cell? ⟨b, o + h * 3, none⟩ = some (.int .i64 R.p) ∧ V.cell? ⟨b, o + h * 3 + 1, none⟩ = some (.int .i64 R.q) ∧ V.cell? ⟨b, o + h * 3 + 2, none⟩ = some (.int .i64 R.l)) (by kernel_rfl) (by kernel_rfl) ⟨x0, x1, x2, d0, d1, d2⟩ ?_
      iterate 6
        refine m_take (v := ?_) rfl rfl ?_ ?_
        rotate_left
        · intro W hW
          go_simp
          with_reducible rfl
        simp only [Act.put, List.setIfInBounds_toArray, List.set_cons_zero, List.set_cons_succ]
      refine m_loud rfl (fun K hK => ?_)
      have HK := Lib.hid hK
      clear hK
      go_simp
      refine (order_calls R x _).mono ?_
      rintro e w1 ⟨rfl, hb1⟩
      have hb1 : Below wr.heap.size wr w1 := ((Below.refl wr.heap.size wr).drew).trans hb1
      have HB1 := Lib.hid (HB.out.trans (hb1.mono HB.out.size))
      refine HK.out _ _ ⟨cell_later hb1 x0, cell_later hb1 x1, cell_later hb1 x2, cell_later hb1 d0, cell_later hb1 d1, cell_later hb1 d2⟩ ?_
      clear HK
      clear hb1 x0 x1 x2 d0 d1 d2
      refine m_done ?_
      simp only [List.drop_succ_cons, List.drop_zero]
      rcases HO.out with ⟨k1, k2⟩ | ⟨k1, k2⟩
      · go_wp2_with fail
        simp only [NP]
        go_wp2_with fail
        go_roundw
        case rel => exact ⟨h + 1, j, by omega, by omega, by omega, by go_num, rfl, HB1.out⟩
        case measure => simp [intOf]; omega
      · go_wp2_with fail
        simp only [NP]
        go_wp2_with fail
        go_roundw
        case rel => exact ⟨i, h, by omega, by omega, by omega, rfl, rfl, HB1.out⟩
        case measure => simp [intOf]; omega
    · obtain rfl : i = c := by omega
      obtain rfl : j = i := by omega
      by_cases hlc : j < rs.length
      · obtain ⟨b, o, rfl, c0, c1, c2⟩ := row_at HV.out j hlc
        have hbw := HBX.out.trans (hb.mono HBX.out.size)
        have d0 := cell_later hbw c0
        have d1 := cell_later hbw c1
        have d2 := cell_later hbw c2
        clear c0 c1 c2 hbw hb
        generalize rs[j] = R at *
        go_wp2_with fail
        refine region_m [(0, false), (1, false), (2, false), (3, false), (4, false), (5, false), (6, false), (7, false), (8, false), (9, false), (10, false), (11, true), (12, false), (13, false), (14, false), (15, false)] 16 (fun V => V.cell? ⟨w.heap.size, 0, none⟩ = some (.int .i64 x.p) ∧ V.cell? ⟨w.heap.size, 1, none⟩ = some (.int .i64 x.q) ∧ V.cell? ⟨w.heap.size, 2, none⟩ = some (.int .i64 x.l) ∧ V.cell? ⟨b, o + j * 3, none⟩ = some (.int .i64 R.p) ∧ V.cell? ⟨b, o + j * 3 + 1, none⟩ = some (.int .i64 R.q) ∧ V.cell? ⟨b, o + j * 3 + 2, none⟩ = some (.int .i64 R.l)) (by kernel_rfl) (by kernel_rfl) ⟨x0, x1, x2, d0, d1, d2⟩ ?_
        iterate 11
          first
          | (refine m_take (v := ?_) rfl rfl ?_ ?_
             rotate_left
             · intro W hW
               go_simp
               with_reducible rfl
             simp only [Act.put, List.setIfInBounds_toArray, List.set_cons_zero, List.set_cons_succ])
          | (refine m_skip rfl rfl ?_
             simp only [Act.put, List.setIfInBounds_toArray, List.set_cons_zero, List.set_cons_succ])
        refine m_loud rfl (fun K hK => ?_)
        have HK := Lib.hid hK
        clear hK
        go_simp
        refine (order_calls R x _).mono ?_
        rintro e w1 ⟨rfl, hb1⟩
        have hb1 : Below wr.heap.size wr w1 := ((Below.refl wr.heap.size wr).drew).trans hb1
        have HB1 := Lib.hid (HB.out.trans (hb1.mono HB.out.size))
        refine HK.out _ _ ⟨cell_later hb1 x0, cell_later hb1 x1, cell_later hb1 x2, cell_later hb1 d0, cell_later hb1 d1, cell_later hb1 d2⟩ ?_
        clear HK
        clear hb1 x0 x1 x2 d0 d1 d2
        iterate 4
          first
          | (refine m_take (v := ?_) rfl rfl ?_ ?_
             rotate_left
             · intro W hW
               go_simp
               with_reducible rfl
             simp only [Act.put, List.setIfInBounds_toArray, List.set_cons_zero, List.set_cons_succ])
          | (refine m_skip rfl rfl ?_
             simp only [Act.put, List.setIfInBounds_toArray, List.set_cons_zero, List.set_cons_succ])
        refine m_done ?_
        simp only [List.drop_succ_cons, List.drop_zero]
        go_wp2_with fail
        simp only [NP]
        go_wp2_with fail
        exact bodyPost_ret (v := .tuple #[.int .i64 j, .bool (ordOf R x == 0)]) (by simp [results, Try.results81, go_sem]) rfl ⟨⟨_, rfl⟩, HBX.out.trans (HB1.out.mono HBX.out.size)⟩
      · obtain rfl : j = rs.length := by omega
        clear hb
        go_wp2_with fail
        refine region_m [(0, false), (1, false), (2, false), (3, false), (4, false), (5, false), (6, false), (7, false), (8, false), (9, false), (10, false), (11, true), (12, false), (13, false), (14, false), (15, false)] 16 (fun V => True) (by kernel_rfl) (by kernel_rfl) trivial ?_
        iterate 11
          first
          | (refine m_take (v := ?_) rfl rfl ?_ ?_
             rotate_left
             · intro W hW
               go_simp
               with_reducible rfl
             simp only [Act.put, List.setIfInBounds_toArray, List.set_cons_zero, List.set_cons_succ])
          | (refine m_skip rfl rfl ?_
             simp only [Act.put, List.setIfInBounds_toArray, List.set_cons_zero, List.set_cons_succ])
        refine m_loud rfl (fun K hK => ?_)
        have HK := Lib.hid hK
        clear hK
        go_simp
        refine HK.out _ _ trivial ?_
        clear HK
        iterate 4
          first
          | (refine m_take (v := ?_) rfl rfl ?_ ?_
             rotate_left
             · intro W hW
               go_simp
               with_reducible rfl
             simp only [Act.put, List.setIfInBounds_toArray, List.set_cons_zero, List.set_cons_succ])
          | (refine m_skip rfl rfl ?_
             simp only [Act.put, List.setIfInBounds_toArray, List.set_cons_zero, List.set_cons_succ])
        refine m_done ?_
        simp only [List.drop_succ_cons, List.drop_zero]
        go_wp2_with fail
        simp only [NP]
        go_wp2_with fail
        exact bodyPost_ret (v := .tuple #[.int .i64 (rs.length : Nat), .bool false]) (by simp [results, Try.results81, go_sem]) rfl ⟨⟨_, rfl⟩, HBX.out.trans (HB.out.drew.mono HBX.out.size)⟩
end Go.Proofs.Ytkabfjbmofpkdaa

/- Layer 13: slices.Insert of one row, walked. -/
namespace Go.Proofs.Ytkabfjbmofpkdaa
open Go.RowKit Go.Shelf

/-- The block of the variadic argument. -/
structure Lit3 (w : World) (b : Nat) (xs : List Value) : Prop where
  rd : Rd w 3 (.slice (some ⟨b, 0, none⟩) 1 1) 1 xs
  sh : w.shape? b = some (92, 3)
  fz : ∀ o, w.frozen? ⟨b, o, none⟩ = false
  one : ∀ u ∈ xs, u.oneCell' = true
  lt : b < w.heap.size

set_option maxHeartbeats 800000 in
theorem ins_end (base n vb : Nat) (v : Value) (cs xs : List Value) (w : World) (hown : w.ownsRow base 92 3 v n cs) (hx : Lit3 w vb xs) (hn : n ≤ 1000000) (hbase : base ≤ w.heap.size) :
    Calls Try.prog 82 #[v, .int .i64 n, .slice (some ⟨vb, 0, none⟩) 1 1] w fun e w' => ∃ v', e = .returned v' ∧ w'.ownsRow base 92 3 v' (n + 1) (cs ++ xs) ∧ Only (fun j => v.ownBlock = some j) w w' := by
  have HO := Lib.hid hown
  have HX := Lib.hid hx
  have HBS := Lib.hid hbase
  clear hx hbase
  rcases hown.2 with ⟨rfl, rfl⟩ | ⟨g, cap, cur, rfl, -, -, hnc, hcm, -⟩
  · clear hown
    go_enter Try.func82, Try.ntmps82
    go_wp2_with (at_builtin; go_loud (refine app_list tyRows HO.out HX.out.rd HX.out.one (by omega) (by omega) HBS.out rfl rfl rfl rfl ?_; intro v3 w3 hm3 hb3 hn3; obtain ⟨ga, gc, rfl⟩ := own_slice hm3))
    go_ret
    exact ⟨_, rfl, hm3, Only.of_grown hb3⟩
  · have hcm : cap ≤ 9223372036854775807 := by unfold maxLen at hcm; omega
    clear hown
    go_enter Try.func82, Try.ntmps82
    go_wp2_with (at_builtin; go_loud (refine app_list tyRows HO.out HX.out.rd HX.out.one (by omega) (by omega) HBS.out rfl rfl rfl rfl ?_; intro v3 w3 hm3 hb3 hn3; obtain ⟨ga, gc, rfl⟩ := own_slice hm3))
    all_goals
      go_ret
      exact ⟨_, rfl, hm3, Only.of_grown hb3⟩

set_option maxHeartbeats 2000000 in
theorem ins_shift (base n vb i g cap : Nat) (cs xs : List Value) (w : World) (hown : w.ownsRow base 92 3 (.slice (some ⟨g, 0, none⟩) n cap) n cs) (h1 : ∀ u ∈ cs, u.oneCell' = true) (hx : Lit3 w vb xs) (hne : vb ≠ g) (hn : n ≤ 1000000) (hi : i < n) (hroom : n + 1 ≤ cap) (hcap : cap ≤ 9223372036854775807) :
    Calls Try.prog 82 #[.slice (some ⟨g, 0, none⟩) n cap, .int .i64 i, .slice (some ⟨vb, 0, none⟩) 1 1] w fun e w' => ∃ v', e = .returned v' ∧ w'.ownsRow base 92 3 v' (n + 1) (cs.take (i * 3) ++ xs ++ cs.drop (i * 3)) ∧ Only (fun j => some g = some j) w w' := by
  have hcl : cs.length = n * 3 := hown.1
  obtain ⟨tl, htl, hown1⟩ := own_extend (m := 1) hown hroom
  have hsh := own_shape hown
  have hsp := own_there' hown
  have hfz : ∀ o, w.frozen? ⟨g, o, none⟩ = false := fun o => World.ownsRow.frozenAt hown o
  have hcells := World.ownsRow.cells hown rfl
  have hov : ∀ lb cb, (callFunc 92 #[.slice (some ⟨vb, 0, none⟩) 1 1, .slice (some ⟨g, (i + 1) * 3, none⟩) lb cb]).run Try.prog w = .ok (.value (.bool false)) w := fun lb cb => by
    rw [run_callFunc_extern Try.func92 (by kernel_rfl) (by kernel_rfl) (by kernel_rfl) (e := Extern.SlicesOverlaps.overlaps #[22, 22] #[4]) (by kernel_rfl),
      Lib.run_overlaps_apart w 22 4 92 Try.underlying22 3 (fun w => by kernel_rfl) ⟨vb, 0, none⟩ ⟨g, (i + 1) * 3, none⟩ 1 1 lb cb hne 92 92 3 (cap * 3) hx.sh hsh (by omega) (hx.fz 0) (hx.fz 3)]
    rfl
  have hdl : (cs.drop (i * 3)).length = (n - i) * 3 := by rw [List.length_drop, hcl]; omega
  have hcp1 : ∀ ty dc sc, (Builtin.copy_ #[22, 22] ty #[.slice (some ⟨g, (i + 1) * 3, none⟩) (n - i) dc, .slice (some ⟨g, i * 3, none⟩) (n + 1 - i) sc]).run Try.prog w.drew = .ok (goInt ((n - i : Nat) : Int)) (w.drew.setCells g ((i + 1) * 3) (cs.drop (i * 3))) := fun ty dc sc =>
    run_copy_k (b := g) (o := (i + 1) * 3) (dLen := n - i) (dCap := dc) (a := ⟨g, i * 3, none⟩) (sLen := n + 1 - i) (sCap := sc) (n := n - i) w.drew tyRows (by simp only [Nat.min_def]; split <;> omega) hdl (fun j u hj => by
        rw [List.getElem?_drop] at hj
        have := hcells _ _ hj
        rw [add_off] at this ⊢
        rw [Nat.zero_add] at this
        exact this) (fun j hj => hsp _ (by omega)) (fun j _ => hfz _) (fun u hu => h1 u (List.mem_of_mem_drop hu))
  have hxl : xs.length = 3 := by obtain ⟨a, c, -, h, -⟩ := hx.rd; omega
  have hown1 : w.drew.ownsRow base 92 3 (.slice (some ⟨g, 0, none⟩) (n + 1) cap) (n + 1) (cs ++ tl) := hown1
  obtain ⟨ho2, hg2⟩ := own_write (cs.drop (i * 3)) ((i + 1) * 3) w.drew _ hown1
  obtain ⟨ho3, hg3⟩ := own_write xs (i * 3) (w.drew.setCells g ((i + 1) * 3) (cs.drop (i * 3))) _ ho2
  have he : writeL (writeL (cs ++ tl) ((i + 1) * 3) (cs.drop (i * 3))) (i * 3) xs = cs.take (i * 3) ++ xs ++ cs.drop (i * 3) := by
    have hal : (cs ++ tl).length = (n + 1) * 3 := by rw [List.length_append]; omega
    rw [writeL_eq (cs.drop (i * 3)) _ _ (by omega), writeL_eq _ _ _ (by simp; omega)]
    have e1 : (cs ++ tl).drop ((i + 1) * 3 + (cs.drop (i * 3)).length) = [] := List.drop_eq_nil_of_le (by omega)
    have e2 : ((cs ++ tl).take ((i + 1) * 3)).length = (i + 1) * 3 := by rw [List.length_take]; omega
    rw [e1, List.append_nil, List.take_append_of_le_length (by omega), List.take_take, Nat.min_eq_left (by omega), List.take_append_of_le_length (by omega), List.drop_left' (by omega)]
  rw [he] at ho3
  have hcp2 : ∀ ty dc, (Builtin.copy_ #[22, 22] ty #[.slice (some ⟨g, i * 3, none⟩) (n + 1 - i) dc, .slice (some ⟨vb, 0, none⟩) 1 1]).run Try.prog (w.drew.setCells g ((i + 1) * 3) (cs.drop (i * 3))) = .ok (goInt ((1 : Nat) : Int)) ((w.drew.setCells g ((i + 1) * 3) (cs.drop (i * 3))).setCells g (i * 3) xs) := fun ty dc =>
    run_copy_k (b := g) (o := i * 3) (dLen := n + 1 - i) (dCap := dc) (a := ⟨vb, 0, none⟩) (sLen := 1) (sCap := 1) (n := 1) _ tyRows (by simp only [Nat.min_def]; split <;> omega) (by omega) (fun j u hj => by
        obtain ⟨a, c, e, -, -, -, h⟩ := hx.rd
        simp only [Value.slice.injEq] at e
        obtain ⟨rfl, -, rfl⟩ := e
        rcases h with h | ⟨b', o', e, h⟩
        · omega
        · simp only [Option.some.injEq, Addr.mk.injEq, and_true] at e
          obtain ⟨rfl, rfl⟩ := e
          rw [add_off, World.cell?_setCells_out _ _ _ _ _ (fun h _ => absurd h hne)]
          exact h j u hj) (fun j hj => own_there' ho2 _ (by omega)) (fun j _ => World.ownsRow.frozenAt ho2 _) hx.one
  have HCP2 := Lib.hid hcp2
  have HO3 := Lib.hid (And.intro ho3 ((Only.of_grown (w := w) (⟨hg2.os, hg2.tape, hg2.output, hg2.size, hg2.block⟩ : w.grownBy _ (some g))).trans (Only.of_grown hg3) (fun j _ h => h)))
  clear hcp2 ho3 hg3 ho2 hg2 he hown1 hcells hfz hsp hdl htl
  have hb2 : ¬ cap = i := by omega
  have hb3 : ¬ cap = i + 1 := by omega
  have hb4 : ¬ (i : Int) = (n : Int) := by omega
  have hb5 : (n : Int) + 1 ≤ (cap : Int) := by omega
  have hb6 : (i : Int) ≤ (n : Int) + 1 := by omega
  have hw1 : IntKind.i64.wrap ((i : Int) + 1) = (i : Int) + 1 := by rw [IntKind.wrap_i64]; omega
  have hb7 : (0 : Int) ≤ (i : Int) + 1 := by omega
  have hb8 : (i : Int) + 1 ≤ (n : Int) + 1 := by omega
  have htn : ((i : Int) + 1).toNat = i + 1 := by omega
  have HCP := Lib.hid hcp1
  clear hcp1
  go_enter Try.func82, Try.ntmps82
  go_wp2_with (simp only [hov])
  refine region_m [(0, false), (1, false), (2, false), (3, false), (4, false), (5, false), (6, false), (7, false)] 8 (fun V => True) (by kernel_rfl) (by kernel_rfl) trivial ?_
  iterate 8
    refine m_take (v := ?_) rfl rfl ?_ ?_
    rotate_left
    · intro W hW
      go_simp
      with_reducible rfl
    simp only [Act.put, List.setIfInBounds_toArray, List.set_cons_zero, List.set_cons_succ]
  refine m_done ?_
  simp only [List.drop_succ_cons, List.drop_zero]
  refine list_value rfl (exec_copy rfl rfl rfl (HCP.out _ _ _)) ?_
  go_wp2_with fail
  simp only [NP]
  have hcp2 := HCP2.out
  go_wp2_with fail
  go_ret
  exact ⟨_, rfl, HO3.out.1, HO3.out.2⟩
end Go.Proofs.Ytkabfjbmofpkdaa

/- Layer 13: slices.Insert of one row where there is no room, walked; Insert as a whole. -/
namespace Go.Proofs.Ytkabfjbmofpkdaa
open Go.RowKit Go.Shelf
set_option maxRecDepth 100000

set_option maxHeartbeats 2000000 in
theorem ins_grow (base n vb i g cap : Nat) (cs xs : List Value) (w : World) (hown : w.ownsRow base 92 3 (.slice (some ⟨g, 0, none⟩) n cap) n cs) (h1 : ∀ u ∈ cs, u.oneCell' = true) (hx : Lit3 w vb xs) (hn : n ≤ 1000000) (hi : i < n) (hroom : cap < n + 1) (hnc : n ≤ cap) (hbase : base ≤ w.heap.size) (hg : g < w.heap.size) :
    Calls Try.prog 82 #[.slice (some ⟨g, 0, none⟩) n cap, .int .i64 i, .slice (some ⟨vb, 0, none⟩) 1 1] w fun e w' => ∃ v', e = .returned v' ∧ w'.ownsRow base 92 3 v' (n + 1) (cs.take (i * 3) ++ xs ++ cs.drop (i * 3)) ∧ Only (fun j => some g = some j) w w' := by
  obtain rfl : cap = n := by omega
  clear hnc hroom
  have hcl : cs.length = cap * 3 := hown.1
  have hcells := World.ownsRow.cells hown rfl
  obtain ⟨c, w1, zs, hzl, hc1, hc2, hrun, ho1, hb1⟩ := run_app_zeros (ty := 22) (tn := 3) (kn := .i64) (k := cap + 1 - i) tyRows Try.underlying3 hown (by omega : i ≤ cap) (by omega) (by omega) (by omega) (by omega)
  have hsum : i + (cap + 1 - i) = cap + 1 := by omega
  have hkk : (cap : Int) + 1 - (i : Int) = ((cap + 1 - i : Nat) : Int) := by omega
  rw [hsum] at hrun ho1 hc1
  rw [← hkk] at hrun
  obtain ⟨G, hG⟩ : ∃ G, G = w.heap.size := ⟨_, rfl⟩
  rw [← hG] at hrun ho1
  have hxl : xs.length = 3 := by obtain ⟨a, c, -, h, -⟩ := hx.rd; omega
  have hdl : (cs.drop (i * 3)).length = (cap - i) * 3 := by rw [List.length_drop, hcl]; omega
  obtain ⟨ho2, hg2⟩ := own_write xs (i * 3) w1 _ ho1
  have ho2 : (w1.setCells G (i * 3) xs).drew.ownsRow G 92 3 (.slice (some ⟨G, 0, none⟩) (cap + 1) c) (cap + 1) (writeL (cs.take (i * 3) ++ zs) (i * 3) xs) := ho2
  obtain ⟨ho3, hg3⟩ := own_write (cs.drop (i * 3)) ((i + 1) * 3) (w1.setCells G (i * 3) xs).drew _ ho2
  have he : writeL (writeL (cs.take (i * 3) ++ zs) (i * 3) xs) ((i + 1) * 3) (cs.drop (i * 3)) = cs.take (i * 3) ++ xs ++ cs.drop (i * 3) := by
    have htl : (cs.take (i * 3)).length = i * 3 := by rw [List.length_take]; omega
    have hal : (cs.take (i * 3) ++ zs).length = (cap + 1) * 3 := by rw [List.length_append]; omega
    rw [writeL_eq xs _ _ (by omega), List.take_left' htl, writeL_eq _ _ _ (by simp; omega)]
    have e2 : (cs.take (i * 3) ++ xs).length = (i + 1) * 3 := by rw [List.length_append]; omega
    obtain ⟨D, hD⟩ : ∃ D, D = (cs.take (i * 3) ++ zs).drop (i * 3 + xs.length) := ⟨_, rfl⟩
    have hDl : D.length = (cap - i) * 3 := by rw [hD, List.length_drop, hal]; omega
    have e3 : (cs.take (i * 3) ++ xs ++ D).drop ((i + 1) * 3 + (cs.drop (i * 3)).length) = [] := List.drop_eq_nil_of_le (by rw [List.length_append, e2]; omega)
    rw [← hD, List.take_left' e2, e3, List.append_nil]
  rw [he] at ho3
  have hGg : g ≠ G := by omega
  have hGv : vb ≠ G := by have := hx.lt; omega
  have hcp1 : ∀ ty dc, (Builtin.copy_ #[22, 22] ty #[.slice (some ⟨G, i * 3, none⟩) (cap + 1 - i) dc, .slice (some ⟨vb, 0, none⟩) 1 1]).run Try.prog w1 = .ok (goInt ((1 : Nat) : Int)) (w1.setCells G (i * 3) xs) := fun ty dc =>
    run_copy_k (b := G) (o := i * 3) (dLen := cap + 1 - i) (dCap := dc) (a := ⟨vb, 0, none⟩) (sLen := 1) (sCap := 1) (n := 1) _ tyRows (by simp only [Nat.min_def]; split <;> omega) (by omega) (fun j u hj => by
        obtain ⟨a, c, e, -, -, -, h⟩ := hx.rd
        simp only [Value.slice.injEq] at e
        obtain ⟨rfl, -, rfl⟩ := e
        rcases h with h | ⟨b', o', e, h⟩
        · omega
        · simp only [Option.some.injEq, Addr.mk.injEq, and_true] at e
          obtain ⟨rfl, rfl⟩ := e
          rw [add_off]
          exact cell_later hb1 (h j u hj)) (fun j hj => own_there' ho1 _ (by omega)) (fun j _ => World.ownsRow.frozenAt ho1 _) hx.one
  have hcp2 : ∀ ty dc sc, (Builtin.copy_ #[22, 22] ty #[.slice (some ⟨G, (i + 1) * 3, none⟩) (cap - i) dc, .slice (some ⟨g, i * 3, none⟩) (cap - i) sc]).run Try.prog (w1.setCells G (i * 3) xs).drew = .ok (goInt ((cap - i : Nat) : Int)) ((w1.setCells G (i * 3) xs).drew.setCells G ((i + 1) * 3) (cs.drop (i * 3))) := fun ty dc sc =>
    run_copy_k (b := G) (o := (i + 1) * 3) (dLen := cap - i) (dCap := dc) (a := ⟨g, i * 3, none⟩) (sLen := cap - i) (sCap := sc) (n := cap - i) _ tyRows (by simp only [Nat.min_def]; split <;> omega) hdl (fun j u hj => by
        rw [List.getElem?_drop] at hj
        have := hcells _ _ hj
        rw [add_off, Nat.zero_add] at this
        rw [add_off, World.cell?_drew, World.cell?_setCells_out _ _ _ _ _ (fun h _ => absurd h hGg)]
        exact cell_later hb1 this) (fun j hj => own_there' ho2 _ (by omega)) (fun j _ => World.ownsRow.frozenAt ho2 _) (fun u hu => h1 u (List.mem_of_mem_drop hu))
  have hfin : Only (fun j => some g = some j) w ((w1.setCells G (i * 3) xs).drew.setCells G ((i + 1) * 3) (cs.drop (i * 3))) := by
    refine ((Only.of_below hb1).trans (Only.of_grown hg2).drew (fun j hj e => ?_)).trans (Only.of_grown hg3) (fun j hj e => ?_)
    · simp only [Option.some.injEq] at e; omega
    · simp only [Option.some.injEq] at e; omega
  subst hG
  have HF := Lib.hid (And.intro (ownsRow_mono ho3 hbase) hfin)
  have HRUN := Lib.hid hrun
  have HCP1 := Lib.hid hcp1
  have HCP2 := Lib.hid hcp2
  have hc1 : cap < c := by omega
  clear ho1 ho2 ho3 hg2 hg3 he hfin hcp1 hcp2 hcells hrun hb1 hzl hdl hsum hkk hown hx h1
  have hb2 : ¬ cap = i := by omega
  have hb3 : ¬ c = i := by omega
  have hb3' : ¬ c = i + 1 := by omega
  have hb4 : ¬ (i : Int) = (cap : Int) := by omega
  have hb5 : (cap : Int) < (cap : Int) + 1 := by omega
  have hb6 : (i : Int) ≤ (cap : Int) := by omega
  have hb9 : (i : Int) ≤ (cap : Int) + 1 := by omega
  have hw1 : IntKind.i64.wrap ((i : Int) + 1) = (i : Int) + 1 := by rw [IntKind.wrap_i64]; omega
  have hb7 : (0 : Int) ≤ (i : Int) + 1 := by omega
  have hb8 : (i : Int) + 1 ≤ (cap : Int) + 1 := by omega
  have htn : ((i : Int) + 1).toNat = i + 1 := by omega
  go_enter Try.func82, Try.ntmps82
  go_wp2_with (at_builtin; refine list_value rfl (exec_appz rfl rfl rfl HRUN.out) ?_)
  rw [HCP1.out]
  go_wp2_with fail
  refine region_m [(0, false), (1, false), (2, false), (3, false), (4, false), (5, false), (6, false), (7, false)] 8 (fun V => True) (by kernel_rfl) (by kernel_rfl) trivial ?_
  iterate 8
    refine m_take (v := ?_) rfl rfl ?_ ?_
    rotate_left
    · intro W hW
      go_simp
      with_reducible rfl
    simp only [Act.put, List.setIfInBounds_toArray, List.set_cons_zero, List.set_cons_succ]
  refine m_done ?_
  simp only [List.drop_succ_cons, List.drop_zero]
  refine list_value rfl (exec_copy rfl rfl rfl (HCP2.out _ _ _)) ?_
  go_wp2_with fail
  simp only [NP]
  go_wp2_with fail
  go_ret
  exact ⟨_, rfl, HF.out.1, HF.out.2⟩

theorem own_heap {w : World} {base g n cap sz : Nat} {e : TypeId} {xs : List Value} (h : w.ownsRow base e sz (.slice (some ⟨g, 0, none⟩) n cap) n xs) : g < w.heap.size := by
  rcases h.2 with ⟨h', _⟩ | ⟨g', cap', cur, h', _, hg, _, _, hcs, _⟩
  · simp at h'
  · simp only [Value.slice.injEq, Option.some.injEq, Addr.mk.injEq, and_true, true_and] at h'
    obtain ⟨rfl, rfl⟩ := h'
    exact (Array.getElem?_eq_some_iff.mp hg).1

/-- slices.Insert of one row at place i of an owned row. -/
theorem insert_calls (base n vb i : Nat) (v : Value) (cs xs : List Value) (w : World) (hown : w.ownsRow base 92 3 v n cs) (h1 : ∀ u ∈ cs, u.oneCell' = true) (hx : Lit3 w vb xs) (hne : ∀ j, v.ownBlock = some j → vb ≠ j) (hn : n ≤ 1000000) (hi : i ≤ n) (hbase : base ≤ w.heap.size) :
    Calls Try.prog 82 #[v, .int .i64 i, .slice (some ⟨vb, 0, none⟩) 1 1] w fun e w' => ∃ v', e = .returned v' ∧ w'.ownsRow base 92 3 v' (n + 1) (cs.take (i * 3) ++ xs ++ cs.drop (i * 3)) ∧ Only (fun j => v.ownBlock = some j) w w' := by
  have hcl : cs.length = n * 3 := hown.1
  rcases Nat.lt_or_ge i n with hlt | hge
  · rcases hown.2 with ⟨rfl, hz⟩ | ⟨g, cap, cur, rfl, -, -, hnc, hcm, -⟩
    · omega
    · have hg := own_heap hown
      have hcm : cap ≤ 9223372036854775807 := by unfold maxLen at hcm; omega
      have hob : (Value.slice (some ⟨g, 0, none⟩) n cap).ownBlock = some g := rfl
      rcases Nat.lt_or_ge cap (n + 1) with hc | hc
      · exact ins_grow base n vb i g cap cs xs w hown h1 hx hn hlt hc hnc hbase hg
      · exact ins_shift base n vb i g cap cs xs w hown h1 hx (hne g hob) hn hlt hc hcm
  · obtain rfl : i = n := by omega
    rw [List.take_of_length_le (by omega), List.drop_eq_nil_of_le (by omega), List.append_nil]
    exact ins_end base i vb v cs xs w hown hx hn hbase
end Go.Proofs.Ytkabfjbmofpkdaa

/- Layer 13: Take walked. -/
namespace Go.Proofs.Ytkabfjbmofpkdaa
open Go.RowKit Go.Shelf
set_option maxRecDepth 100000

theorem enter_of {P : Program} {f : Nat} {fn : Func} {c : Code} (hf : P.funcs[f]? = some fn) (hname : (fn.name == "runtime.NumGoroutine") = false) (hb : fn.body = some c) (args : Array Value) (w : World) :
    (callFunc f args).run P w = .ok (.enter f args) w := by
  have h1 : fn.name ≠ "runtime.NumGoroutine" := by simpa using hname
  simp [callFunc, hf, h1, hb]

theorem lit3_alloc (w : World) (r : Row) : Lit3 (w.alloc (.cells #[.int .i64 r.p, .int .i64 r.q, .int .i64 r.l] 92)) w.heap.size (Row.cells r) := by
  refine ⟨Rd.lit (n := 1) rfl (by omega), ?_, fun o => ?_, fun u hu => ?_, ?_⟩
  · unfold World.shape?
    rw [heap_alloc_new]
    rfl
  · unfold World.frozen?
    rw [heap_alloc_new]
    simp
  · simp only [Row.cells, List.mem_cons, List.not_mem_nil, or_false] at hu
    rcases hu with rfl | rfl | rfl <;> rfl
  · show _ < (w.heap.push _).size
    simp

set_option maxHeartbeats 2000000 in
theorem take_calls (v : Value) (rs : List Row) (p q s : Int) (w : World) (hv : Rows w v rs) (ht : Table rs) (hok : ∀ r ∈ rs, r.ok) (hs : I64 s) :
    Calls Try.prog 60 #[v, .int .i64 p, .int .i64 q, .int .i64 s] w fun e w' => ∃ v', e = .returned (.tuple #[v', .int .i64 (takeCode rs p q s)]) ∧
      w'.ownsRow w.heap.size 92 3 v' (takeRows rs p q s).length (flatF Row.cells (takeRows rs p q s)) ∧ Below w.heap.size w w' := by
  have hlen := table_len ht
  have HCL := Lib.hid (cloneR_calls v rs.length (flatF Row.cells rs) w hv (rows_one rs) (by omega))
  have HV := Lib.hid hv
  have HT := Lib.hid ht
  have HOK := Lib.hid hok
  have HS := Lib.hid hs
  obtain ⟨a, cap, rfl, -, -⟩ := Rd.slice hv
  clear hv ht hok hs
  go_enter Try.func60, Try.ntmps60
  go_wp2_with fail
  refine HCL.out.mono ?_
  rintro e w1 ⟨v1, rfl, ho1, hb1⟩
  obtain ⟨a1, c1, rfl⟩ := own_slice ho1
  have HO1 := Lib.hid ho1
  have HB1 := Lib.hid hb1
  clear ho1 hb1
  go_wp2_with fail
  refine (right_calls p q _).mono ?_
  rintro e w2 ⟨rfl, rfl⟩
  cases hrt : rightB p q with
  | false =>
    have HR := Lib.hid hrt
    clear hrt
    go_wp2_with fail
    have hc : takeCode rs p q s = 0 := if_neg (by rw [HR.out]; simp)
    have hr : takeRows rs p q s = rs := if_neg (fun h => by rw [HR.out] at h; cases h.1)
    rw [hc, hr]
    exact bodyPost_ret (v := .tuple #[_, .int .i64 0]) (by simp [results, Try.results60, go_sem]) rfl ⟨_, rfl, HO1.out, HB1.out⟩
  | true =>
    have HR := Lib.hid hrt
    clear hrt
    go_wp2_with fail
    refine (look_calls (.slice a rs.length cap) rs p q s _ (HV.out.below HB1.out (Nat.le_refl _)) HOK.out HS.out).mono ?_
    rintro e w3 ⟨rfl, hb3⟩
    have HB3 := Lib.hid (HB1.out.trans (hb3.mono HB1.out.size))
    have HO3 := Lib.hid (ownsRow_below HO1.out hb3 (Nat.le_refl _))
    clear hb3
    by_cases hlk : lookOf rs p q s = 1
    · have HLK := Lib.hid hlk
      rw [hlk]
      clear hlk
      go_wp2_with fail
      obtain ⟨X, hX⟩ : ∃ X, X = w3.alloc (.cells #[.int .i64 p, .int .i64 q, .int .i64 s] 92) := ⟨_, rfl⟩
      have hbX : Below w3.heap.size w3 X := by rw [hX]; exact (Below.refl _ _).alloc (Nat.le_refl _) _
      have x0 : X.cell? ⟨w3.heap.size, 0, none⟩ = some (.int .i64 p) := by rw [hX, World.cell?_alloc_at _ _ _ _ rfl]; rfl
      have x1 : X.cell? ⟨w3.heap.size, 1, none⟩ = some (.int .i64 q) := by rw [hX, World.cell?_alloc_at _ _ _ _ rfl]; rfl
      have x2 : X.cell? ⟨w3.heap.size, 2, none⟩ = some (.int .i64 s) := by rw [hX, World.cell?_alloc_at _ _ _ _ rfl]; rfl
      have HX := Lib.hid (And.intro x0 (And.intro x1 x2))
      have hox := ownsRow_below HO3.out hbX (Nat.le_refl _)
      have hidx := idxR_calls (.slice a1 rs.length c1) rs 80 #[.pointer (some ⟨w3.heap.size, 0, none⟩)] _ X (fun args w => enter_of Try.func80 (by kernel_rfl) rfl args w) (Rd.of_own hox) (take1_asks X w3.heap.size ⟨p, q, s⟩ x0 x1 x2)
      have HBX := Lib.hid (HB3.out.trans (hbX.mono HB3.out.size))
      have HOX := Lib.hid hox
      rw [← hX]
      clear hX hbX x0 x1 x2 hox
      refine hidx.mono ?_
      rintro e w4 ⟨hr, hb4⟩
      have HB4 := Lib.hid hb4
      clear hb4
      rcases hr with ⟨i, hi, hp, rfl⟩ | ⟨hno, rfl⟩
      · have HP := Lib.hid hp
        clear hp hidx
        have ho4 := ownsRow_below HOX.out HB4.out (Nat.le_refl _)
        obtain ⟨m, hm⟩ : ∃ m, rs.length = m + 1 := ⟨rs.length - 1, by omega⟩
        have ho4' := ho4
        rw [hm] at ho4'
        obtain ⟨g, cg, hv1, hg1, hg2, hg3, hg4⟩ := own_succ ho4'
        rw [← hm] at hv1
        simp only [Value.slice.injEq, true_and] at hv1
        obtain ⟨rfl, rfl⟩ := hv1
        have hce := World.ownsRow.cells ho4 rfl (i * 3 + 2) _ (flatF_get row3 rs i 2 hi (by omega))
        rw [add_off, Nat.zero_add] at hce
        have hfz := World.ownsRow.frozenAt ho4 (i * 3 + 2)
        have hst := World.ownsRow.stored ho4 (i * 3 + 2) (.int .i64 s)
        have HST := Lib.hid hst
        have HG := Lib.hid hg1
        clear ho4 ho4' hm hg1 hst
        have hcc : ((Row.cells rs[i])[2]? : Option Value) = some (.int .i64 rs[i].l) := rfl
        dsimp only at hce
        clear hcc
        go_wp2_with fail
        have hri := HT.out.2 rs[i] (List.getElem_mem hi)
        have hk := (ord_key (b := ⟨p, q, s⟩) hri.1 HR.out).2.1 (by simpa using HP.out)
        have hpq := key_inj (b := ⟨p, q, s⟩) hri.1 HR.out hk
        have hc : takeCode rs p q s = 1 := (if_pos HR.out).trans HLK.out
        have hr : takeRows rs p q s = rs.set i ⟨p, q, s⟩ := (if_pos ⟨HR.out, HLK.out⟩).trans (put_eq ⟨p, q, s⟩ rs i hi HT.out.1 hk)
        rw [hc, hr, List.length_set, flat_set rs i hi ⟨p, q, s⟩ hpq.1 hpq.2]
        exact bodyPost_ret (v := .tuple #[.slice (some ⟨g, 0, none⟩) rs.length c1, .int .i64 1]) (by simp [results, Try.results60, go_sem]) rfl ⟨_, rfl, HST.out.1, (HBX.out.trans (HB4.out.mono HBX.out.size)).setCell HG.out _⟩
      · have HNO := Lib.hid hno
        clear hno hidx
        have x0 := cell_later HB4.out HX.out.1
        have x1 := cell_later HB4.out HX.out.2.1
        have x2 := cell_later HB4.out HX.out.2.2
        go_wp2_with fail
        have ho4 := ownsRow_below HOX.out HB4.out (Nat.le_refl _)
        obtain ⟨c, hcn, hlo, hhi⟩ := cut_at (Row.key ⟨p, q, s⟩) rs HT.out.1
        have hord : ∀ k, ∀ h : k < rs.length, (ordOf rs[k] ⟨p, q, s⟩ < 0 ↔ rs[k].key < Row.key ⟨p, q, s⟩) ∧ (ordOf rs[k] ⟨p, q, s⟩ = 0 ↔ rs[k].key = Row.key ⟨p, q, s⟩) := fun k h => ord_key (b := ⟨p, q, s⟩) (HT.out.2 rs[k] (List.getElem_mem h)).1 HR.out
        have hne : ∀ k, ∀ h : k < rs.length, ¬ rs[k].key = Row.key ⟨p, q, s⟩ := fun k h e => by
          have h1 := HNO.out rs[k] (List.getElem_mem h)
          rw [(hord k h).2.2 e] at h1
          simp at h1
        have hput := put_new ⟨p, q, s⟩ rs c hcn hlo (fun k h hk => by have h1 := hhi k h hk; have h2 := hne k h; omega)
        have HPUT := Lib.hid hput
        refine (bsR_calls (.slice a1 rs.length c1) rs ⟨p, q, s⟩ c _ (Rd.of_own ho4) hcn (by omega) (fun k h hk => (hord k h).1.2 (hlo k h hk)) (fun k h hk => by have h1 := hhi k h hk; have h2 := (hord k h).1; omega)).mono ?_
        rintro e w5 ⟨⟨f, rfl⟩, hb5⟩
        have HB5 := Lib.hid (HB4.out.trans (hb5.mono HB4.out.size))
        have y0 := cell_later hb5 x0
        have y1 := cell_later hb5 x1
        have y2 := cell_later hb5 x2
        clear x0 x1 x2 hb5 hord hne hput hlo hhi ho4
        go_wp2_with fail
        obtain ⟨Y, hY⟩ : ∃ Y, Y = w5.alloc (.cells #[.int .i64 p, .int .i64 q, .int .i64 s] 92) := ⟨_, rfl⟩
        have hbY : Below w5.heap.size w5 Y := by rw [hY]; exact (Below.refl _ _).alloc (Nat.le_refl _) _
        have hoY := ownsRow_below (ownsRow_below HOX.out HB5.out (Nat.le_refl _)) hbY (Nat.le_refl _)
        have hx : Lit3 Y w5.heap.size (Row.cells ⟨p, q, s⟩) := by rw [hY]; exact lit3_alloc w5 ⟨p, q, s⟩
        have hlt := World.ownsRow.lt (ownsRow_below HOX.out HB5.out (Nat.le_refl _))
        have hbe := (HBX.out.trans (HB5.out.mono HBX.out.size)).trans (hbY.mono ((HBX.out.trans (HB5.out.mono HBX.out.size)).size))
        have HBE := Lib.hid hbe
        rw [← hY]
        refine (insert_calls w.heap.size rs.length w5.heap.size c (.slice a1 rs.length c1) (flatF Row.cells rs) (Row.cells ⟨p, q, s⟩) Y hoY (rows_one rs) hx (fun j hj => by have := (hlt j hj).2; omega) (by omega) hcn hbe.size).mono ?_
        rintro e w6 ⟨v6, rfl, ho6, hf6⟩
        have HO6 := Lib.hid ho6
        have HB6 := Lib.hid (hbe.trans (hf6.below hbe.size (fun j hj e => by have := (hlt j e).1; omega)))
        obtain ⟨a6, c6, rfl⟩ := own_slice ho6
        clear hbe ho6 hf6 hlt hx hoY hbY hY y0 y1 y2
        go_wp2_with fail
        have hc : takeCode rs p q s = 1 := (if_pos HR.out).trans HLK.out
        have hr : takeRows rs p q s = rs.take c ++ ⟨p, q, s⟩ :: rs.drop c := (if_pos ⟨HR.out, HLK.out⟩).trans HPUT.out
        have ho := HO6.out
        rw [flatF_take row3 rs c hcn, flatF_drop row3 rs c hcn] at ho
        have hfl : flatF Row.cells (rs.take c ++ ⟨p, q, s⟩ :: rs.drop c) = flatF Row.cells (rs.take c) ++ Row.cells ⟨p, q, s⟩ ++ flatF Row.cells (rs.drop c) := by
          rw [flatF_append, List.append_assoc]; rfl
        have hll : (rs.take c ++ (⟨p, q, s⟩ : Row) :: rs.drop c).length = rs.length + 1 := by
          rw [List.length_append, List.length_take, List.length_cons, List.length_drop]; omega
        rw [hc, hr, hfl, hll]
        exact bodyPost_ret (v := .tuple #[.slice a6 (rs.length + 1) c6, .int .i64 1]) (by simp [results, Try.results60, go_sem]) rfl ⟨_, rfl, ho, HB6.out⟩
    · have hc : takeCode rs p q s = lookOf rs p q s := if_pos HR.out
      have hr : takeRows rs p q s = rs := if_neg (fun h => hlk h.2)
      go_wp2_with fail
      rw [hc, hr]
      exact bodyPost_ret (v := .tuple #[_, .int .i64 _]) (by simp [results, Try.results60, go_sem]) rfl ⟨_, rfl, HO3.out, HB3.out⟩
end Go.Proofs.Ytkabfjbmofpkdaa

/- Layer 13: the document's Take walked. -/
namespace Go.Proofs.Ytkabfjbmofpkdaa
open Go.RowKit Go.Shelf
set_option maxRecDepth 100000

/-- The row that grows, behind the box. -/
structure OutAt (X wr : World) (v : Value) (xs : List Row) : Prop where
  own : wr.ownsRow X.heap.size 92 3 v xs.length (flatF Row.cells xs)
  below : Below X.heap.size X wr

theorem OutAt.grow {X wr w1 w2 : World} {v v2 : Value} {xs : List Row} {r : Row} (h : OutAt X wr v xs) (h1 : w1 = wr.alloc (.cells #[.int .i64 r.p, .int .i64 r.q, .int .i64 r.l] 92)) (ho : w2.ownsRow X.heap.size 92 3 v2 (xs.length + 1) (flatF Row.cells xs ++ [.int .i64 r.p, .int .i64 r.q, .int .i64 r.l])) (hg : w1.grownBy w2 v.ownBlock) : OutAt X w2 v2 (xs ++ [r]) := by
  refine ⟨?_, ?_⟩
  · rw [flatF_append, flatF_one, List.length_append]; exact ho
  · have hb1 : Below X.heap.size X w1 := by rw [h1]; exact h.below.alloc h.below.size _
    exact hb1.grown hg hb1.size (fun j e => (World.ownsRow.lt h.own j e).1)
theorem OutAt.drew {X wr : World} {v : Value} {xs : List Row} (h : OutAt X wr v xs) : OutAt X wr.drew v xs := ⟨h.own, h.below.drew⟩
theorem OutAt.room {X wr : World} {v : Value} {xs : List Row} (h : OutAt X wr v xs) (o : Obj) : X.heap.size ≤ (wr.alloc o).heap.size := (h.below.alloc h.below.size o).size
theorem docTo_len (row : Row) (rs : List Row) (k : Nat) (d : Bool) : (docTo row rs k d).length ≤ rs.length + 1 := by
  have hp : ∀ xs : List Row, (putRowAt row xs).length ≤ xs.length + 1 := by
    intro xs
    induction xs with
    | nil => simp [putRowAt]
    | cons x xs ih =>
      unfold putRowAt
      split
      · simp only [List.length_cons]; omega
      · split <;> simp only [List.length_cons] <;> omega
  unfold docTo
  split
  · have := hp (rs.take k)
    rw [List.length_take] at this
    omega
  · rw [List.length_take]; omega

set_option maxHeartbeats 4000000 in
theorem rtake_calls (v : Value) (rs : List Row) (p q s : Int) (w : World) (hv : Rows w v rs) (ht : Table rs) (hok : ∀ r ∈ rs, r.ok) (hs : I64 s) :
    Calls Try.prog 66 #[v, .int .i64 p, .int .i64 q, .int .i64 s] w fun e w' => ∃ v', e = .returned (.tuple #[v', .int .i64 (takeCode rs p q s)]) ∧
      w'.ownsRow w.heap.size 92 3 v' (takeRows rs p q s).length (flatF Row.cells (takeRows rs p q s)) ∧ Below w.heap.size w w' := by
  have hlen := table_len ht
  have HV := Lib.hid hv
  have HT := Lib.hid ht
  have HOK := Lib.hid hok
  have HS := Lib.hid hs
  have H1 := Lib.hid (rows_one rs)
  have HN := Lib.hid (World.ownsRow_nil w w.heap.size 92 3)
  obtain ⟨a, cap, rfl, hle, hcap⟩ := Rd.slice hv
  clear hv ht hok hs
  go_enter Try.func66, Try.ntmps66
  go_wp2_with fail
  refine (rright_calls p q _).mono ?_
  rintro e w2 ⟨rfl, rfl⟩
  cases hrt : rightB p q with
  | false =>
    have HR := Lib.hid hrt
    clear hrt
    go_wp2_with (at_builtin; go_loud (refine app_list tyRows HN.out HV.out H1.out (by omega) (by omega) (Nat.le_refl _) rfl rfl rfl rfl ?_; intro v3 w3 hm3 hb3 hn3; obtain ⟨ga, gc, rfl⟩ := own_slice hm3))
    have hc : takeCode rs p q s = 0 := if_neg (by rw [HR.out]; simp)
    have hr : takeRows rs p q s = rs := if_neg (fun h => by rw [HR.out] at h; cases h.1)
    rw [hc, hr]
    simp only [Nat.zero_add, List.nil_append] at hm3
    exact bodyPost_ret (v := .tuple #[.slice ga rs.length gc, .int .i64 0]) (by simp [results, Try.results66, go_sem]) rfl ⟨_, rfl, hm3, (Below.refl _ _).grown hb3 (Nat.le_refl _) (by simp [Value.ownBlock])⟩
  | true =>
    have HR := Lib.hid hrt
    have hpq := right_nums hrt
    clear hrt
    go_wp2_with fail
    refine (rlook_calls (.slice a rs.length cap) rs p q s _ HV.out HOK.out HS.out).mono ?_
    rintro e w3 ⟨rfl, rfl⟩
    by_cases hlk : lookOf rs p q s = 1
    · have HLK := Lib.hid hlk
      rw [hlk]
      clear hlk
      go_wp2_with fail
      obtain ⟨X, hX⟩ : ∃ X, X = w3.alloc (.cells #[.int .i64 p, .int .i64 q, .int .i64 s] 92) := ⟨_, rfl⟩
      have hbX : Below w3.heap.size w3 X := by rw [hX]; exact (Below.refl _ _).alloc (Nat.le_refl _) _
      have x0 : X.cell? ⟨w3.heap.size, 0, none⟩ = some (.int .i64 p) := by rw [hX, World.cell?_alloc_at _ _ _ _ rfl]; rfl
      have x1 : X.cell? ⟨w3.heap.size, 1, none⟩ = some (.int .i64 q) := by rw [hX, World.cell?_alloc_at _ _ _ _ rfl]; rfl
      have x2 : X.cell? ⟨w3.heap.size, 2, none⟩ = some (.int .i64 s) := by rw [hX, World.cell?_alloc_at _ _ _ _ rfl]; rfl
      have HX := Lib.hid (And.intro x0 (And.intro x1 x2))
      have HBX := Lib.hid hbX
      rw [← hX]
      clear hX hbX x0 x1 x2
      have q1 : IntKind.i64.wrap (8 * p) = 8 * p := by rw [IntKind.wrap_i64]; omega
      have q2 : IntKind.i64.wrap (8 * p + q) = 8 * p + q := by rw [IntKind.wrap_i64]; omega
      have HPQ := Lib.hid hpq
      clear hpq
      go_loopw [10, 13, 14, 15] (fun ov dv iv _ wr => ∃ (k : Nat) (d : Bool), k ≤ rs.length ∧ iv = .int .i64 k ∧ dv = .bool d ∧ DocAt ⟨p, q, s⟩ rs k d ∧ OutAt X wr ov (docTo ⟨p, q, s⟩ rs k d)) (fun _ _ iv _ _ => rs.length - (intOf iv).toNat)
      case atStart => exact ⟨0, false, by omega, rfl, rfl, (doc_start _ _).1, by rw [(doc_start _ _).2]; exact ⟨World.ownsRow_nil _ _ _ _, Below.refl _ _⟩⟩
      case round =>
        obtain ⟨k, d, hk, rfl, rfl, hd, ho⟩ := hrel
        have hol := docTo_len ⟨p, q, s⟩ rs k d
        obtain ⟨ga, gc, rfl⟩ := own_slice ho.own
        have HO := Lib.hid ho
        have x0 := cell_later ho.below HX.out.1
        have x1 := cell_later ho.below HX.out.2.1
        have x2 := cell_later ho.below HX.out.2.2
        by_cases hlt : k < rs.length
        · have hway := doc_ways (row := ⟨p, q, s⟩) HT.out.1 hlt hd
          obtain ⟨b, o, rfl, c0, c1, c2⟩ := row_at HV.out k hlt
          have hb := HBX.out.trans (ho.below.mono HBX.out.size)
          have d0 := cell_later hb c0
          have d1 := cell_later hb c1
          have d2 := cell_later hb c2
          have hR := right_nums (HT.out.2 rs[k] (List.getElem_mem hlt)).1
          have HCC := Lib.hid (And.intro c0 (And.intro c1 c2))
          clear ho hb c0 c1 c2 hd
          generalize rs[k] = R at *
          have q3 : IntKind.i64.wrap (8 * R.p) = 8 * R.p := by rw [IntKind.wrap_i64]; omega
          have q4 : IntKind.i64.wrap (8 * R.p + R.q) = 8 * R.p + R.q := by rw [IntKind.wrap_i64]; omega
          clear hR
          generalize hL : docTo ⟨p, q, s⟩ rs k d = L at *
          clear hL
          rcases hway with ⟨rfl, k1, k2, k3⟩ | ⟨rfl, k1, k2, k3⟩ | ⟨rfl, k1, k2, k3⟩ | ⟨rfl, k1, k2, k3⟩
          · have j1 : decide (8 * p + q ≤ 8 * R.p + R.q) = false := decide_eq_false (by have := k1; simp only [Row.key] at this; omega)
            have j2 : (8 * R.p + R.q == 8 * p + q) = false := beq_eq_false_iff_ne.2 (by have := k1; simp only [Row.key] at this; omega)
            have K2 := Lib.hid k2
            have K3 := Lib.hid k3
            have HOD := Lib.hid HO.out.drew
            clear k1 k2 k3
            go_wp2_with fail
            refine region_m [(0, false), (1, false), (2, false), (3, false), (4, false), (5, false), (6, false), (7, false), (8, false), (9, false), (10, false), (11, false), (12, false)] 13 (fun V => V.cell? ⟨b, o + k * 3, none⟩ = some (.int .i64 R.p) ∧ V.cell? ⟨b, o + k * 3 + 1, none⟩ = some (.int .i64 R.q)) (by kernel_rfl) (by kernel_rfl) ⟨d0, d1⟩ ?_
            iterate 13
              refine m_take (v := ?_) rfl rfl ?_ ?_
              rotate_left
              · intro W hW
                go_simp
                with_reducible rfl
              simp only [Act.put, List.setIfInBounds_toArray, List.set_cons_zero, List.set_cons_succ]
            refine m_done ?_
            simp only [List.drop_succ_cons, List.drop_zero]
            go_wp2_with fail
            simp only [NP]
            go_wp2_with (at_builtin; go_loud (refine app_list tyRows (HOD.out.own.alloc _) (Rd.lit (n := 1) rfl (by omega)) (by simp [Value.oneCell']) (by omega) (by omega) (HOD.out.room _) rfl rfl rfl rfl ?_; intro v4 w4 hm4 hb4 hn4; obtain ⟨gb, gd, rfl⟩ := own_slice hm4))
            go_roundw
            case rel => exact ⟨k + 1, false, by omega, by go_num, rfl, K2.out, by rw [K3.out]; exact HOD.out.grow rfl hm4 hb4⟩
            case measure => simp [intOf]; omega
          · have j1 : decide (8 * p + q ≤ 8 * R.p + R.q) = true := decide_eq_true (by have := k1; simp only [Row.key] at this; omega)
            have j2 : (8 * R.p + R.q == 8 * p + q) = true := beq_iff_eq.2 (by have := k1; simp only [Row.key] at this; omega)
            have K2 := Lib.hid k2
            have K3 := Lib.hid k3
            have HOD := Lib.hid HO.out.drew
            clear k1 k2 k3
            go_wp2_with fail
            refine region_m [(0, false), (1, false), (2, false), (3, false), (4, false), (5, false), (6, false), (7, false), (8, false), (9, false), (10, false), (11, false), (12, false)] 13 (fun V => V.cell? ⟨b, o + k * 3, none⟩ = some (.int .i64 R.p) ∧ V.cell? ⟨b, o + k * 3 + 1, none⟩ = some (.int .i64 R.q)) (by kernel_rfl) (by kernel_rfl) ⟨d0, d1⟩ ?_
            iterate 13
              refine m_take (v := ?_) rfl rfl ?_ ?_
              rotate_left
              · intro W hW
                go_simp
                with_reducible rfl
              simp only [Act.put, List.setIfInBounds_toArray, List.set_cons_zero, List.set_cons_succ]
            refine m_done ?_
            simp only [List.drop_succ_cons, List.drop_zero]
            go_wp2_with fail
            simp only [NP]
            go_wp2_with (at_builtin; go_loud (refine app_list tyRows (HOD.out.own.alloc _) (Rd.lit (n := 1) rfl (by omega)) (by simp [Value.oneCell']) (by omega) (by omega) (HOD.out.room _) rfl rfl rfl rfl ?_; intro v4 w4 hm4 hb4 hn4; obtain ⟨gb, gd, rfl⟩ := own_slice hm4))
            go_roundw
            case rel => exact ⟨k + 1, true, by omega, by go_num, rfl, K2.out, by rw [K3.out]; exact HOD.out.grow (r := ⟨p, q, s⟩) rfl hm4 hb4⟩
            case measure => simp [intOf]; omega
          · have j1 : decide (8 * p + q ≤ 8 * R.p + R.q) = true := decide_eq_true (by have := k1; simp only [Row.key] at this; omega)
            have j2 : (8 * R.p + R.q == 8 * p + q) = false := beq_eq_false_iff_ne.2 (by have := k1; simp only [Row.key] at this; omega)
            have K2 := Lib.hid k2
            have K3 := Lib.hid k3
            have HOD := Lib.hid HO.out.drew
            clear k1 k2 k3
            go_wp2_with fail
            refine region_m [(0, false), (1, false), (2, false), (3, false), (4, false), (5, false), (6, false), (7, false), (8, false), (9, false), (10, false), (11, false), (12, false)] 13 (fun V => V.cell? ⟨b, o + k * 3, none⟩ = some (.int .i64 R.p) ∧ V.cell? ⟨b, o + k * 3 + 1, none⟩ = some (.int .i64 R.q)) (by kernel_rfl) (by kernel_rfl) ⟨d0, d1⟩ ?_
            iterate 13
              refine m_take (v := ?_) rfl rfl ?_ ?_
              rotate_left
              · intro W hW
                go_simp
                with_reducible rfl
              simp only [Act.put, List.setIfInBounds_toArray, List.set_cons_zero, List.set_cons_succ]
            refine m_done ?_
            simp only [List.drop_succ_cons, List.drop_zero]
            go_wp2_with fail
            simp only [NP]
            have hl5 : (L ++ [(⟨p, q, s⟩ : Row)]).length ≤ L.length + 1 := by rw [List.length_append]; exact Nat.le_refl _
            go_wp2_with first
              | (at_builtin; have _t := HOD; go_loud (refine app_list tyRows (HOD.out.own.alloc _) (Rd.lit (n := 1) rfl (by omega)) (by simp [Value.oneCell']) (by omega) (by omega) (HOD.out.room _) rfl rfl rfl rfl ?_; intro v4 w4 hm4 hb4 hn4; obtain ⟨gb, gd, rfl⟩ := own_slice hm4; have HO4 := Lib.hid (HOD.out.grow (r := ⟨p, q, s⟩) rfl hm4 hb4); have d0 := cell_later (HBX.out.trans (HO4.out.below.mono HBX.out.size)) HCC.out.1; have d1 := cell_later (HBX.out.trans (HO4.out.below.mono HBX.out.size)) HCC.out.2.1; have d2 := cell_later (HBX.out.trans (HO4.out.below.mono HBX.out.size)) HCC.out.2.2; clear hm4 hb4 hn4 HOD))
              | (at_builtin; go_loud (refine app_list tyRows (HO4.out.own.alloc _) (Rd.lit (n := 1) rfl (by omega)) (by simp [Value.oneCell']) (by omega) (by omega) (HO4.out.room _) rfl rfl rfl rfl ?_; intro v5 w5 hm5 hb5 hn5; obtain ⟨gb5, gd5, rfl⟩ := own_slice hm5))
            go_roundw
            case rel => exact ⟨k + 1, true, by omega, by go_num, rfl, K2.out, by
              have h5 := HO4.out.grow rfl hm5 hb5
              rw [List.length_append] at h5
              rw [K3.out]
              exact h5⟩
            case measure => simp [intOf]; omega
          · have j1 : decide (8 * p + q ≤ 8 * R.p + R.q) = true := decide_eq_true (by have := k1; simp only [Row.key] at this; omega)
            have j2 : (8 * R.p + R.q == 8 * p + q) = false := beq_eq_false_iff_ne.2 (by have := k1; simp only [Row.key] at this; omega)
            have K2 := Lib.hid k2
            have K3 := Lib.hid k3
            have HOD := Lib.hid HO.out.drew
            clear k1 k2 k3
            go_wp2_with fail
            refine region_m [(0, false), (1, false), (2, false), (3, false), (4, false), (5, false), (6, false), (7, false), (8, false), (9, false), (10, false), (11, false), (12, false)] 13 (fun V => V.cell? ⟨b, o + k * 3, none⟩ = some (.int .i64 R.p) ∧ V.cell? ⟨b, o + k * 3 + 1, none⟩ = some (.int .i64 R.q)) (by kernel_rfl) (by kernel_rfl) ⟨d0, d1⟩ ?_
            iterate 13
              refine m_take (v := ?_) rfl rfl ?_ ?_
              rotate_left
              · intro W hW
                go_simp
                with_reducible rfl
              simp only [Act.put, List.setIfInBounds_toArray, List.set_cons_zero, List.set_cons_succ]
            refine m_done ?_
            simp only [List.drop_succ_cons, List.drop_zero]
            go_wp2_with fail
            simp only [NP]
            go_wp2_with (at_builtin; go_loud (refine app_list tyRows (HOD.out.own.alloc _) (Rd.lit (n := 1) rfl (by omega)) (by simp [Value.oneCell']) (by omega) (by omega) (HOD.out.room _) rfl rfl rfl rfl ?_; intro v4 w4 hm4 hb4 hn4; obtain ⟨gb, gd, rfl⟩ := own_slice hm4))
            go_roundw
            case rel => exact ⟨k + 1, true, by omega, by go_num, rfl, K2.out, by rw [K3.out]; exact HOD.out.grow rfl hm4 hb4⟩
            case measure => simp [intOf]; omega
        · obtain rfl : k = rs.length := by omega
          have hend := doc_end hd
          cases d with
          | true =>
            have HE := Lib.hid hend
            clear hend hd ho
            go_wp2_with fail
            have hc : takeCode rs p q s = 1 := (if_pos HR.out).trans HLK.out
            have hr : takeRows rs p q s = docTo ⟨p, q, s⟩ rs rs.length true := (if_pos ⟨HR.out, HLK.out⟩).trans (by rw [← HE.out]; simp)
            rw [hc, hr]
            exact bodyPost_ret (v := .tuple #[.slice ga (docTo ⟨p, q, s⟩ rs rs.length true).length gc, .int .i64 1]) (by simp [results, Try.results66, go_sem]) rfl ⟨_, rfl, ownsRow_mono HO.out.own HBX.out.size, HBX.out.trans (HO.out.below.mono HBX.out.size)⟩
          | false =>
            have HE := Lib.hid hend
            clear hend hd ho
            go_wp2_with (at_builtin; go_loud (refine app_list tyRows (HO.out.own.alloc _) (Rd.lit (n := 1) rfl (by omega)) (by simp [Value.oneCell']) (by omega) (by omega) (HO.out.room _) rfl rfl rfl rfl ?_; intro v4 w4 hm4 hb4 hn4; obtain ⟨gb, gd, rfl⟩ := own_slice hm4))
            have hc : takeCode rs p q s = 1 := (if_pos HR.out).trans HLK.out
            have hr : takeRows rs p q s = docTo ⟨p, q, s⟩ rs rs.length false ++ [⟨p, q, s⟩] := (if_pos ⟨HR.out, HLK.out⟩).trans (by rw [← HE.out]; simp)
            have ho4 := HO.out.grow (r := ⟨p, q, s⟩) rfl hm4 hb4
            have hl4 : (docTo ⟨p, q, s⟩ rs rs.length false ++ [(⟨p, q, s⟩ : Row)]).length = (docTo ⟨p, q, s⟩ rs rs.length false).length + 1 := by rw [List.length_append]; rfl
            rw [hc, hr]
            exact bodyPost_ret (v := .tuple #[.slice gb ((docTo ⟨p, q, s⟩ rs rs.length false).length + 1) gd, .int .i64 1]) (by simp [results, Try.results66, go_sem]) rfl ⟨_, rfl, ownsRow_mono ho4.own HBX.out.size, HBX.out.trans (ho4.below.mono HBX.out.size)⟩
    · go_wp2_with (at_builtin; go_loud (refine app_list tyRows HN.out HV.out H1.out (by omega) (by omega) (Nat.le_refl _) rfl rfl rfl rfl ?_; intro v3 w3 hm3 hb3 hn3; obtain ⟨ga, gc, rfl⟩ := own_slice hm3))
      have hc : takeCode rs p q s = lookOf rs p q s := if_pos HR.out
      have hr : takeRows rs p q s = rs := if_neg (fun h => hlk h.2)
      rw [hc, hr]
      simp only [Nat.zero_add, List.nil_append] at hm3
      exact bodyPost_ret (v := .tuple #[.slice ga rs.length gc, .int .i64 _]) (by simp [results, Try.results66, go_sem]) rfl ⟨_, rfl, hm3, (Below.refl _ _).grown hb3 (Nat.le_refl _) (by simp [Value.ownBlock])⟩
end Go.Proofs.Ytkabfjbmofpkdaa

/- A region that draws its order where two operations that make memory may come in either order: a tree of orders; no program in sight. -/
namespace Go.Proofs.Ytkabfjbmofpkdaa
open Go.RowKit

section
variable {P : Program} {ops : Array Oper} {md : Region.Mode} {S : World → Prop} {n : Nat}

inductive Ord where
  | done : Ord
  | take : Nat → Ord → Ord
  | loud : Nat → Ord → Ord
  | two : Nat → Ord → Nat → Ord → Ord

/-- Operations that yield one value, ahead of the rest. -/
def Ord.takes : List Nat → Ord → Ord
  | [], r => r
  | i :: l, r => .take i (Ord.takes l r)

def wpT (P : Program) (ops : Array Oper) (Q : Exit → Act → World → Prop) (S : World → Prop) (T : Act → World → Prop) : Ord → Act → World → Prop
  | .done, a, w => T a w
  | .take i r, a, w => ∃ o, ops[i]? = some o ∧ ∃ v, YieldsIf P ops S o v a ∧ wpT P ops Q S T r (a.put o.dst v) w
  | .loud i r, a, w => wpOp P ops Q i (fun a' w' => S w' ∧ wpT P ops Q S T r a' w') a w
  | .two i r j s, a, w => wpOp P ops Q i (fun a' w' => S w' ∧ wpT P ops Q S T r a' w') a w ∧ wpOp P ops Q j (fun a' w' => S w' ∧ wpT P ops Q S T s a' w') a w

def chkT (md : Region.Mode) (ops : Array Oper) (n : Nat) : Nat → Ord → Array Bool → Bool
  | 0, .done, listed => Region.seqB md ops (ops.size - n) n listed
  | k + 1, .take i r, listed => decide (i < n) && (Region.ready md ops listed).contains i && Region.free md ops listed i && chkT md ops n k r (listed.setIfInBounds i true)
  | k + 1, .loud i r, listed => decide (i < n) && decide (Region.ready md ops listed = [i]) && chkT md ops n k r (listed.setIfInBounds i true)
  | k + 1, .two i r j s, listed => decide (i < n) && decide (j < n) && decide (Region.ready md ops listed = [i, j]) && chkT md ops n k r (listed.setIfInBounds i true) && chkT md ops n k s (listed.setIfInBounds j true)
  | _, _, _ => false

def chkO (md : Region.Mode) (ops : Array Oper) (n : Nat) (t : Ord) : Bool :=
  Region.noSelect ops && (decide (n = ops.size) || (decide (n < ops.size) && Region.sinkB md ops n && Region.chainB md ops n)) && chkT md ops n n t (Array.replicate ops.size false)

theorem wpX_of_T {Q : Exit → Act → World → Prop} (hQ : ∀ c a d v w, Q (.panic c) (Act.put a d v) w → Q (.panic c) a w) (hsel : Region.noSelect ops = true) (hn : n ≤ ops.size)
    (htail : ∀ i, i < n → ∀ listed : Array Bool, HeadInv md ops n listed → listed.getD i true = false → ∀ t, n ≤ t → t ∉ Region.ready md ops listed) :
    ∀ (k : Nat) (t : Ord) (listed : Array Bool) (a : Act) (w : World), HeadInv md ops n listed → chkT md ops n k t listed = true → S w →
      wpT P ops Q S (wpList P ops Q (ops.toList.drop n)) t a w → wpX P md ops Q S n (k + (ops.size - n)) listed a w
  | 0, .done, listed, a, w, _, hc, _, h => by
    have hl : (ops.toList.drop n).length = ops.size - n := by simp
    have := wpX_of_seq (S := S) (n := n) (md := md) (ops.toList.drop n) n listed a w (Nat.le_refl _) (fun j => by simp [List.getElem?_drop]) (by rw [hl]; exact hc) h
    rw [hl] at this
    simpa using this
  | 0, .take _ _, _, _, _, _, hc, _, _ => by simp [chkT] at hc
  | 0, .loud _ _, _, _, _, _, hc, _, _ => by simp [chkT] at hc
  | 0, .two _ _ _ _, _, _, _, _, hc, _, _ => by simp [chkT] at hc
  | _ + 1, .done, _, _, _, _, hc, _, _ => by simp [chkT] at hc
  | k + 1, .take i r, listed, a, w, inv, hc, hS, h => by
    simp only [chkT, Bool.and_eq_true, decide_eq_true_eq] at hc
    obtain ⟨⟨⟨hin, hr⟩, hf⟩, hc'⟩ := hc
    obtain ⟨o, ho, v, hy, h'⟩ := h
    have hr' : i ∈ Region.ready md ops listed := by simpa using hr
    rw [show k + 1 + (ops.size - n) = (k + (ops.size - n)) + 1 by omega]
    exact wpX_first ho (Region.noSelect_spec hsel) (fun c a w => hQ c a _ _ w) hin (htail i hin) _ listed a w inv (Region.free_spec ho hf) hr' hy hS
      (wpX_of_T hQ hsel hn htail k r _ _ w (inv.set hr' hin) hc' hS h')
  | k + 1, .loud i r, listed, a, w, inv, hc, hS, h => by
    simp only [chkT, Bool.and_eq_true, decide_eq_true_eq] at hc
    obtain ⟨⟨hin, hr⟩, hc'⟩ := hc
    have hr' : i ∈ Region.ready md ops listed := by rw [hr]; simp
    rw [show k + 1 + (ops.size - n) = (k + (ops.size - n)) + 1 by omega]
    refine ⟨fun h1 => (by rw [hr] at h1; cases h1), fun j hj => ?_⟩
    rw [hr] at hj
    obtain rfl : j = i := by simpa using hj
    exact wpOp_mono (fun a' w' h' => ⟨fun _ => h'.1, wpX_of_T hQ hsel hn htail k r _ _ w' (inv.set hr' hin) hc' h'.1 h'.2⟩) h
  | k + 1, .two i r j s, listed, a, w, inv, hc, hS, h => by
    simp only [chkT, Bool.and_eq_true, decide_eq_true_eq] at hc
    obtain ⟨⟨⟨⟨hin, hjn⟩, hr⟩, hc1⟩, hc2⟩ := hc
    have hri : i ∈ Region.ready md ops listed := by rw [hr]; simp
    have hrj : j ∈ Region.ready md ops listed := by rw [hr]; simp
    rw [show k + 1 + (ops.size - n) = (k + (ops.size - n)) + 1 by omega]
    refine ⟨fun h1 => (by rw [hr] at h1; cases h1), fun q hq => ?_⟩
    rw [hr] at hq
    rcases (show q = i ∨ q = j by simpa using hq) with rfl | rfl
    · exact wpOp_mono (fun a' w' h' => ⟨fun _ => h'.1, wpX_of_T hQ hsel hn htail k r _ _ w' (inv.set hri hin) hc1 h'.1 h'.2⟩) h.1
    · exact wpOp_mono (fun a' w' h' => ⟨fun _ => h'.1, wpX_of_T hQ hsel hn htail k s _ _ w' (inv.set hrj hjn) hc2 h'.1 h'.2⟩) h.2

theorem wpOps_of_T {Q : Exit → Act → World → Prop} (hQ : ∀ c a d v w, Q (.panic c) (Act.put a d v) w → Q (.panic c) a w) (t : Ord) (hm : P.follows .mixedOrders = true) (hB : chkO .any ops n t = true) {a : Act} {w : World} (hS : S w)
    (h : wpT P ops Q S (wpList P ops Q (ops.toList.drop n)) t a w) (q : Nat) : wpOps P ops Q (Region.schedule (P.follows .mixedOrders) ops q) a w := by
  simp only [chkO, Bool.and_eq_true, decide_eq_true_eq, Bool.or_eq_true] at hB
  obtain ⟨⟨hsel, hn⟩, hc⟩ := hB
  have hn' : n ≤ ops.size := by omega
  have inv0 : HeadInv .any ops n (Array.replicate ops.size false) :=
    ⟨by simp, fun j oj _ hl => (by rw [getD_replicate_false] at hl; cases hl), fun t _ ht => getD_in (by simpa using ht) (getD_replicate_false _ _)⟩
  have htail : ∀ i, i < n → ∀ listed : Array Bool, HeadInv .any ops n listed → listed.getD i true = false → ∀ t, n ≤ t → t ∉ Region.ready .any ops listed := by
    intro i hi listed inv hun t ht hr
    rcases hn with rfl | ⟨⟨hlt, hs⟩, hch⟩
    · obtain ⟨_, o, ho, _⟩ := mem_ready.1 hr
      have := (Array.getElem?_eq_some_iff.1 ho).1
      omega
    · exact tail_waits hs hch hlt inv _ i rfl hi hun t ht hr
  have H := wpAny_of_X _ _ _ _ (wpX_of_T hQ hsel hn' htail n t _ a w inv0 hc hS h)
  rw [show n + (ops.size - n) = ops.size by omega] at H
  simp only [Region.schedule, hm, Bool.true_or, if_true]
  exact wpAny_sound ops.size q _ a _ H

/-- Outside a fence. -/
theorem region_t {Q : Exit → Act → World → Prop} {id : Nat} (t : Ord) (n : Nat) (S : World → Prop) {a : Act} {w : World} (hm : P.follows .mixedOrders = true) (hB : chkO .any ops n t = true) (hS : S w.drew)
    (h : wpT P ops (NP Q) S (wpList P ops (NP Q) (ops.toList.drop n)) t a w.drew) : (Code.region id ops true).wp P Q a w :=
  Code.wp_mono NP.imp (wp_region_draw fun q => wpOps_of_T (fun _ _ _ _ _ h => h) t hm hB hS h q)
end

section
variable {P : Program} {l : List Oper} {Q : Exit → Act → World → Prop} {S : World → Prop} {T : Act → World → Prop} {i j : Nat} {o : Oper} {r r' : Ord} {a : Act} {w w' : World} {v v' : Value}
theorem t_take (ho : l[i]? = some o) (hw : Region.wanted o (yielded l.toArray a.tmps) = true)
    (hy : ∀ W, S W → (execOp a.eval o).run P W = .ok (.value v) W) (h : wpT P l.toArray Q S T r (a.put o.dst v) w) : wpT P l.toArray Q S T (.take i r) a w :=
  ⟨o, by simpa using ho, v, .inl ⟨hw, hy⟩, h⟩
theorem t_skip (ho : l[i]? = some o) (hw : Region.wanted o (yielded l.toArray a.tmps) = false)
    (h : wpT P l.toArray Q S T r (a.put o.dst undef) w) : wpT P l.toArray Q S T (.take i r) a w :=
  ⟨o, by simpa using ho, undef, .inr ⟨hw, rfl⟩, h⟩
theorem t_loud (ho : l[i]? = some o)
    (h : ∀ K : Act → World → Prop, (∀ a w, S w → wpT P l.toArray Q S T r a w → K a w) → if Region.wanted o (yielded l.toArray a.tmps) = true then o.wp P a w K Q else K (a.put o.dst undef) w) : wpT P l.toArray Q S T (.loud i r) a w := by
  have ho' : l.toArray[i]? = some o := by simpa using ho
  have := h (fun a' w' => S w' ∧ wpT P l.toArray Q S T r a' w') (fun a w hS h => ⟨hS, h⟩)
  show wpOp P l.toArray Q i _ a w
  unfold wpOp
  simp only [ho']
  by_cases hw : Region.wanted o (yielded l.toArray a.tmps) = true
  · simp only [hw, if_true] at this ⊢; exact .inl this
  · simp only [hw, Bool.false_eq_true, if_false] at this ⊢; exact this
theorem t_two (h1 : wpT P l.toArray Q S T (.loud i r) a w) (h2 : wpT P l.toArray Q S T (.loud j r') a w) : wpT P l.toArray Q S T (.two i r j r') a w := ⟨h1, h2⟩
theorem t_done (h : T a w) : wpT P l.toArray Q S T .done a w := h
theorem t_value (ho : l[i]? = some o) (hw : Region.wanted o (yielded l.toArray a.tmps) = true) (hrun : (execOp a.eval o).run P w = .ok (.value v') w') (hS : S w') (h : wpT P l.toArray Q S T r (a.put o.dst v') w') : wpT P l.toArray Q S T (.loud i r) a w := by
  refine t_loud ho fun K hK => ?_
  rw [if_pos hw]
  unfold Oper.wp
  rw [hrun]
  exact hK _ _ hS h
/-- append to what the call owns. -/
theorem t_app {s x : Operand} {t e : TypeId} {z : Value} {sz bytes base n m : Nat} {sv : Value} {xs ys : List Value} (T' : STy P t e z sz bytes)
    (hown : w.ownsRow base e sz v n xs) (hr : Rd w sz sv m ys) (h1 : ∀ u ∈ ys, u.oneCell' = true) (hb : (n + m) * bytes ≤ 140737488355328) (hm : n + m ≤ 9223372036854775807) (hbase : base ≤ w.heap.size)
    (ho : l[i]? = some o) (hw : Region.wanted o (yielded l.toArray a.tmps) = true) (hop : o.op = .call { callee := .builtin .append, args := #[s, x], argTypes := #[t, t] }) (hs : a.eval s = v) (hx : a.eval x = sv)
    (h : ∀ v' w', w'.ownsRow base e sz v' (n + m) (xs ++ ys) → w.grownBy w' v.ownBlock → S w' ∧ wpT P l.toArray Q S T r (a.put o.dst v') w') :
    wpT P l.toArray Q S T (.loud i r) a w := by
  obtain ⟨v', w', hrun, h2, h3, -⟩ := run_app (ty := o.type) T' hown hr h1 hb hm hbase
  have := h v' w' h2 h3
  exact t_value ho hw (exec_app hop hs hx hrun) this.1 this.2
end
end Go.Proofs.Ytkabfjbmofpkdaa
