/- A range over a function, at the wide fence: one law for the caller, over whatever contract of the iterator; no program in sight. -/
import Derived.Test.YtpmkepmnldkccaaLib
import Derived.RangeFuncNested
import Derived.RangeFuncBound
import Derived.RangeFuncCalls
import Derived.RangeFuncLeaves
import Derived.Shelf.Abstract
import Derived.Shelf.RegionOpen
import Derived.OwnWalkIn
import Derived.TacticsInMore
import Derived.LoopNIn
import Derived.LoopIn
namespace Go.Proofs.Ytpmkepmnldkccaa
open Go.RowKit

@[go_sem] theorem wide_fn (f : FuncId) : Fence.wide.fn f = True := rfl
@[go_sem] theorem wide_depth : Fence.wide.depth = none := rfl
@[go_sem] theorem u32_signed : IntKind.u32.signed = false := rfl
@[go_sem] theorem u8_signed : IntKind.u8.signed = false := rfl
@[go_sem] theorem u64_signed : IntKind.u64.signed = false := rfl
@[go_sem] theorem wide_round : Fence.wide.round = none := rfl

/-- Cells lie as they lay, and all below B. -/
structure Calm (B : Nat) (W W' : World) : Prop where
  os : W'.os = W.os
  tape : W'.tape = W.tape
  output : W'.output = W.output
  size : W.heap.size ≤ W'.heap.size
  block : ∀ k, k < B → W'.heap[k]? = W.heap[k]?
  cells : ∀ (k : Nat) (o : Obj), W.heap[k]? = some o → o.isCells = true → W'.heap[k]? = some o

theorem Calm.refl (B : Nat) (W : World) : Calm B W W := ⟨rfl, rfl, rfl, Nat.le_refl _, fun _ _ => rfl, fun _ _ h _ => h⟩
theorem Calm.trans {B : Nat} {a b c : World} (h : Calm B a b) (k : Calm B b c) : Calm B a c :=
  ⟨k.os.trans h.os, k.tape.trans h.tape, k.output.trans h.output, Nat.le_trans h.size k.size, fun i hi => (k.block i hi).trans (h.block i hi), fun i o ho hc => k.cells i o (h.cells i o ho hc) hc⟩
theorem Calm.below {B : Nat} {W W' : World} (h : Calm B W W') : Below B W W' := ⟨h.os, h.tape, h.output, h.size, h.block⟩
theorem Calm.of_below {B : Nat} {W W' : World} (hb : B ≤ W.heap.size) (h : Below W.heap.size W W') : Calm B W W' :=
  ⟨h.os, h.tape, h.output, h.size, fun k hk => h.block k (by omega), fun k o ho _ => (h.block k (Array.getElem?_eq_some_iff.1 ho).1).trans ho⟩
theorem Calm.putObj {B : Nat} {W : World} {l : Nat} {o : Obj} (o' : Obj) (hB : B ≤ l) (hl : W.heap[l]? = some o) (ho : o.isCells = false) : Calm B W (W.putObj l o') := by
  refine ⟨rfl, rfl, rfl, by simp, fun k hk => World.putObj_heap_other (by omega), fun k o2 hk hc => ?_⟩
  rw [World.putObj_heap_other]
  · exact hk
  · rintro rfl; rw [hl] at hk; cases hk; rw [ho] at hc; cases hc
theorem Calm.cell {B : Nat} {W W' : World} (h : Calm B W W') {a : Addr} {v : Value} (hc : W.cell? a = some v) : W'.cell? a = some v := by
  obtain ⟨o, ho, hcell⟩ := cells_of_cell hc
  rw [← hc]
  exact World.cell?_of_block (w := W) ((h.cells _ o ho hcell).trans ho.symm)
theorem Calm.frozen {B : Nat} {W W' : World} (h : Calm B W W') {a : Addr} {v : Value} (hc : W.cell? a = some v) : W'.frozen? a = W.frozen? a := by
  obtain ⟨o, ho, hcell⟩ := cells_of_cell hc
  exact World.frozen?_of_block (w := W) ((h.cells _ o ho hcell).trans ho.symm)

/-- How the body of a round may be left. -/
def roundEnds (J' Jx : World → Prop) (JX : Code → World → Prop) (W : World) : Exit → Act → World → Prop
  | .normal, _, W' => KeepsOthers W W' ∧ J' W'
  | .ret, _, W' => KeepsOthers W W' ∧ JX .ret W'
  | .exit id, _, W' => KeepsOthers W W' ∧ JX (.exit id) W'
  | .goto _, _, _ => False
  | .panic _, _, _ => False
  | .outgrown, _, W' => Jx W'

variable {P : Program}

theorem range_w {σ : Type} {g : Operand} {ps : Array Tmp} {assign body : Code} {Q : Exit → Act → World → Prop} {a : Act} {w : World}
    {gf : Nat} {lb : Array Value} (hg : a.eval g = .func (.func gf) #[] lb) (eg : ∀ args w, (callFunc gf args).run P w = .ok (.enter gf args) w)
    (J : σ → World → Prop) (JX : Code → World → Prop) (Step : σ → Array Value → σ → World → Prop) (Done : σ → Prop) (s0 : σ)
    (hJ : ∀ s W W', Calm w.heap.size W W' → J s W → J s W') (hJX : ∀ c W W', Calm w.heap.size W W' → JX c W → JX c W')
    (h0 : J s0 w)
    (hiter : ∀ (l : Nat) (J' : σ → World → Prop) (Jx' : World → Prop) (W : World), (∀ s W W', Below W.heap.size W W' → J' s W → J' s W') → (∀ W W', Below W.heap.size W W' → Jx' W → Jx' W') →
      (∀ s W, J' s W → J s W) → Calm w.heap.size w W → J' s0 W →
      (∀ s args s' W, J' s W → Step s args s' W → YieldAt Fence.wide 0 P l args W fun e W' => (e = .returned (.bool true) ∧ J' s' W') ∨ (e = .returned (.bool false) ∧ Jx' W')) →
      CallsIn Fence.wide 0 P gf (#[.func (.yield l) #[] #[]] ++ lb) W fun e W' => (∃ v, e = .returned v) ∧ ((∃ s, Done s ∧ J' s W') ∨ Jx' W'))
    (hbody : ∀ (l : Nat) (s : σ) (args : Array Value) (s' : σ) (W : World), J s W → Step s args s' W → w.heap.size ≤ W.heap.size → args.size = ps.size ∧
      assign.wpIn (Fence.wide.inRound l) 0 P (Exit.then (fun a₁ W₁ => KeepsOthers W W₁ ∧ ∀ W₂, Calm w.heap.size W₁ W₂ → body.wpIn (Fence.wide.inRound l) 0 P (roundEnds (J s') (fun _ => False) JX W₂) a₁ W₂) (fun _ _ _ => False))
        { tmps := (ps.zip args).foldl (fun t (p, v) => t.setIfInBounds p v) a.tmps, defers := [] } W)
    (hdone : ∀ (D : Nat) (s : σ) (W : World), w.heap.size ≤ D → Done s → J s W → W.heap[D]? = some (.deferred (some [])) → Q .normal { a with defers := { target := .collected D, args := #[] } :: a.defers } W)
    (hstop : ∀ (D : Nat) (c : Code) (W : World), w.heap.size ≤ D → JX c W → W.heap[D]? = some (.deferred (some [])) → c.wpIn Fence.wide 0 P Q { a with defers := { target := .collected D, args := #[] } :: a.defers } W) :
    (Code.rangeFunc g ps assign body).wpIn Fence.wide 0 P Q a w := by
  refine wpIn_rangeFunc ?_
  intro fn hfn
  obtain ⟨rec, hrec⟩ : ∃ rec : LoopState → Option Code → Loop, rec = fun st pe => { state := st, pending := pe, fn, tmps := a.tmps, params := ps, assign, body, defers := w.heap.size } := ⟨_, rfl⟩
  obtain ⟨W1, hW1⟩ : ∃ W1, (w.alloc (.deferred (some []))).alloc (.loop (rec .ready none)) = W1 := ⟨_, rfl⟩
  have hL1 : W1.heap[w.heap.size + 1]? = some (.loop (rec .ready none)) := by
    rw [← hW1]; have := World.alloc_heap_new (w.alloc (.deferred (some []))) (.loop (rec .ready none)); rwa [World.size_alloc] at this
  have hK1 : W1.heap[w.heap.size]? = some (.deferred (some [])) := by
    rw [← hW1]; exact (Below.heap_alloc _ _ _ (by simp)).trans (World.alloc_heap_new w _)
  have hC1 : Calm w.heap.size w W1 := by
    rw [← hW1]; exact Calm.of_below (Nat.le_refl _) (((Below.refl _ w).alloc (Nat.le_refl _) _).alloc (by simp) _)
  refine ⟨w.heap.size + 1, [{ target := .collected w.heap.size, args := #[] }], W1, { target := .fn (.func gf) lb, args := #[.func (.yield (w.heap.size + 1)) #[] #[]] }, W1, gf,
    #[.func (.yield (w.heap.size + 1)) #[] #[]] ++ lb, W1, ?_, ?_, ?_, ?_, fun h => by simp [Fence.wide] at h, ?_⟩
  · rw [← hW1, hrec]; exact run_enterLoop_outer _ _ _ _ _
  · simp only [resolve, hg]
    simp [go_sem]
  · intro f' _; trivial
  · simp [invoke, go_sem, eg]
  · refine (hiter (w.heap.size + 1)
      (fun s W => J s W ∧ W.heap[w.heap.size + 1]? = some (.loop (rec .ready none)) ∧ W.heap[w.heap.size]? = some (.deferred (some [])))
      (fun W => ∃ c, JX c W ∧ W.heap[w.heap.size + 1]? = some (.loop (rec .done (some c))) ∧ W.heap[w.heap.size]? = some (.deferred (some [])))
      W1 ?_ ?_ (fun _ _ h => h.1) hC1 ⟨hJ _ _ _ hC1 h0, hL1, hK1⟩ ?_).mono ?_
    · rintro s W W' hb ⟨hj, hl, hk⟩
      have hlt := (Array.getElem?_eq_some_iff.1 hl).1
      exact ⟨hJ _ _ _ (Calm.of_below (by omega) hb) hj, (hb.block _ hlt).trans hl, (hb.block _ (by omega)).trans hk⟩
    · rintro W W' hb ⟨c, hj, hl, hk⟩
      have hlt := (Array.getElem?_eq_some_iff.1 hl).1
      exact ⟨c, hJX _ _ _ (Calm.of_below (by omega) hb) hj, (hb.block _ hlt).trans hl, (hb.block _ (by omega)).trans hk⟩
    · rintro s args s' W ⟨hj, hl, hk⟩ hst
      have hlt : w.heap.size + 1 < W.heap.size := (Array.getElem?_eq_some_iff.1 hl).1
      obtain ⟨hsz, hwalk⟩ := hbody (w.heap.size + 1) s args s' W hj hst (by omega)
      have hy := run_yield (P := P) (args := args) hl (by rw [hrec]; exact hsz)
      rw [hrec] at hy
      refine ⟨fn, _, assign, body, hy, roundIn_of_wpIn trivial (wpIn_mono hwalk ?_)⟩
      rintro e a₁ W₁ hp
      cases e <;> try exact (hp : False).elim
      obtain ⟨hk1, hb1⟩ := hp
      have hl1 := hk1.same _ _ hl rfl
      have hd1 := hk1.same _ _ hk rfl
      refine ⟨_, run_beginRound hl1 (by rw [hrec]), ?_⟩
      have hl2 : (W₁.putObj (w.heap.size + 1) (.loop { rec .ready none with state := .busy })).heap[w.heap.size + 1]? = some (.loop { rec .ready none with state := .busy }) := World.putObj_heap_same (Array.getElem?_eq_some_iff.1 hl1).1
      have hk2 : (W₁.putObj (w.heap.size + 1) (.loop { rec .ready none with state := .busy })).heap[w.heap.size]? = some (.deferred (some [])) := (World.putObj_heap_other (by omega)).trans hd1
      refine wpIn_mono (hb1 _ (Calm.putObj _ (by omega) hl1 rfl)) ?_
      have fin : ∀ (jump : Option Code) (W3 : World), KeepsOthers (W₁.putObj (w.heap.size + 1) (.loop { rec .ready none with state := .busy })) W3 →
          (Instr.endRound (w.heap.size + 1) jump).run P W3 = .ok (.bool jump.isNone) (W3.putObj (w.heap.size + 1) (.loop (rec (if jump.isNone then .ready else .done) jump))) ∧
          W3.heap[w.heap.size + 1]? = some (.loop { rec .ready none with state := .busy }) ∧
          (W3.putObj (w.heap.size + 1) (.loop (rec (if jump.isNone then .ready else .done) jump))).heap[w.heap.size + 1]? = some (.loop (rec (if jump.isNone then .ready else .done) jump)) ∧
          (W3.putObj (w.heap.size + 1) (.loop (rec (if jump.isNone then .ready else .done) jump))).heap[w.heap.size]? = some (.deferred (some [])) := fun jump W3 hk3 => by
        have hl3 := hk3.same _ _ hl2 rfl
        have := run_endRound (P := P) jump hl3
        rw [hrec] at this ⊢
        exact ⟨this, by rw [hrec] at hl3; exact hl3, World.putObj_heap_same (Array.getElem?_eq_some_iff.1 hl3).1, (World.putObj_heap_other (by omega)).trans (hk3.same _ _ hk2 rfl)⟩
      rintro e a3 W3 hp
      cases e with
      | normal =>
        obtain ⟨hk3, hi3⟩ := hp
        obtain ⟨hr, hl3, hl4, hk4⟩ := fin none W3 hk3
        exact ⟨_, _, hr, .inl ⟨rfl, hJ _ _ _ (Calm.putObj _ (by omega) hl3 rfl) hi3, hl4, hk4⟩⟩
      | ret =>
        obtain ⟨hk3, hi3⟩ := hp
        obtain ⟨hr, hl3, hl4, hk4⟩ := fin (some .ret) W3 hk3
        exact ⟨_, _, hr, .inr ⟨rfl, .ret, hJX _ _ _ (Calm.putObj _ (by omega) hl3 rfl) hi3, hl4, hk4⟩⟩
      | exit id =>
        obtain ⟨hk3, hi3⟩ := hp
        obtain ⟨hr, hl3, hl4, hk4⟩ := fin (some (.exit id)) W3 hk3
        exact ⟨_, _, hr, .inr ⟨rfl, .exit id, hJX _ _ _ (Calm.putObj _ (by omega) hl3 rfl) hi3, hl4, hk4⟩⟩
      | goto t => exact hp.elim
      | panic ch => exact hp.elim
      | outgrown => exact hp.elim
    · rintro e W2 ⟨⟨v, rfl⟩, (⟨s, hS, hi, hl, hk⟩ | ⟨c, hi, hl, hk⟩)⟩
      · exact ⟨none, _, by have := run_endLoop (P := P) hl (by rw [hrec]; simp); rw [hrec] at this; exact this, hdone _ s _ (Nat.le_refl _) hS (hJ _ _ _ (Calm.putObj _ (by omega) hl rfl) hi) ((World.putObj_heap_other (by omega)).trans hk)⟩
      · exact ⟨some c, _, by have := run_endLoop (P := P) hl (by rw [hrec]; simp); rw [hrec] at this; exact this, hstop _ c _ (Nat.le_refl _) (hJX _ _ _ (Calm.putObj _ (by omega) hl rfl) hi) ((World.putObj_heap_other (by omega)).trans hk)⟩

end Go.Proofs.Ytpmkepmnldkccaa
