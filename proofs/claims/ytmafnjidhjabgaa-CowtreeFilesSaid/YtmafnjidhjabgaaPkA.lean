/- Walks and plain laws of the chapter, laid together; each part says what it proves. -/
import Derived.WalkKit
import Derived.WalkSpells
import Derived.WalkLawsBesides
import Derived.Lib.Hide
import Derived.RangeFuncNested
import Derived.RangeFuncBound
import Derived.RangeFuncCalls
import Derived.RangeFuncLeaves
import Derived.Shelf.Abstract
import Derived.Shelf.RegionOpen
import Derived.OwnWalkIn
import Derived.TacticsInMore
import Derived.LoopNIn
import Derived.LoopIn
import Derived.StillTail
import Derived.OrdersHeld
import Derived.Test.YtmafnjidhjabgaaRows
import Derived.ProofKit
import Derived.OpenShut
import Derived.ShutString
import Derived.ChangeOld
import Derived.Deep.CondSized
import Derived.Deep.Slices
import Derived.SizedLaws
import Derived.Deep.AppendLies
import Derived.Lib.AppendZerosOnto
import Derived.Lib.Overlaps
import Derived.Laws.BitsAllLaws
import Derived.Maps.RangeRun
import Derived.Maps.RangeWalk
import Derived.Maps.OwnOps
import Derived.Maps.OwnSet
import Derived.Deep.QuietTactic
import Derived.BigQuiet
namespace Go.Proofs.Ytmafnjidhjabgaa
open Go.RowKit
theorem cell_set_same {w : World} {a : Addr} {u : Value} (v : Value) (h : w.cell? a = some u) : (w.setCell a v).cell? a = some v := World.cell?_setCell_same _ _ _ h
theorem cell_set_off {w : World} {b o p : Nat} (v : Value) (h : p ≠ o) : (w.setCell ⟨b, o, none⟩ v).cell? ⟨b, p, none⟩ = w.cell? ⟨b, p, none⟩ := World.cell?_setCell_other _ _ _ _ (by intro e; cases e; exact h rfl)
theorem cell_set_block {w : World} {b c o p : Nat} (v : Value) (h : c ≠ b) : (w.setCell ⟨b, o, none⟩ v).cell? ⟨c, p, none⟩ = w.cell? ⟨c, p, none⟩ := World.cell?_setCell_other _ _ _ _ (by intro e; cases e; exact h rfl)
theorem frozen_set {w : World} {a : Addr} {q : Addr} (v : Value) : (w.setCell a v).frozen? q = w.frozen? q := World.frozen?_setCell ..
def bt (xs : List UInt8) (i : Nat) : Int := ((xs.getD i 0).toNat : Int)
theorem bt_lo (xs : List UInt8) (i : Nat) : 0 ≤ bt xs i := by unfold bt; omega
theorem bt_hi (xs : List UInt8) (i : Nat) : bt xs i < 256 := by unfold bt; have := (xs.getD i 0).toNat_lt; omega
def Bytes (w : World) (v : Value) (xs : List UInt8) : Prop :=
 ∃ (a : Option Addr) (cap : Nat), v = .slice a xs.length cap ∧ xs.length ≤ cap ∧ cap ≤ 9223372036854775807 ∧
  (cap = 0 ∨ ∃ b off, a = some ⟨b, off, none⟩ ∧ ∀ i, i < xs.length → w.cell? ⟨b, off + i, none⟩ = some (.int .u8 (bt xs i)))
theorem Bytes.below {w w' : World} {v : Value} {xs : List UInt8} (h : Bytes w v xs) {B : Nat} (hb : Below B w w') (hB : w.heap.size ≤ B) : Bytes w' v xs := by
 obtain ⟨a, cap, hv, h1, h2, h3⟩ := h
 refine ⟨a, cap, hv, h1, h2, ?_⟩
 rcases h3 with h3 | ⟨b, off, ha, hc⟩
 · exact .inl h3
 · exact .inr ⟨b, off, ha, fun i hi => (hb.cell (p := ⟨b, off + i, none⟩) (Nat.lt_of_lt_of_le (World.block_lt_of_cell? w _ (hc i hi)) hB)).trans (hc i hi)⟩
theorem Bytes.nil (w : World) : Bytes w (.slice none 0 0) [] := ⟨none, 0, rfl, Nat.le_refl _, by omega, .inl rfl⟩
end Go.Proofs.Ytmafnjidhjabgaa
namespace Go.Proofs.Ytmafnjidhjabgaa
open Go.RowKit
@[go_sem] theorem wide_fn (f : FuncId) : Fence.wide.fn f = True := rfl
@[go_sem] theorem wide_depth : Fence.wide.depth = none := rfl
@[go_sem] theorem u32_signed : IntKind.u32.signed = false := rfl
@[go_sem] theorem u8_signed : IntKind.u8.signed = false := rfl
@[go_sem] theorem u64_signed : IntKind.u64.signed = false := rfl
@[go_sem] theorem wide_round : Fence.wide.round = none := rfl
structure Calm (B : Nat) (W W' : World) : Prop where
 os : W'.os = W.os
 tape : W'.tape = W.tape
 output : W'.output = W.output
 size : W.heap.size ≤ W'.heap.size
 block : ∀ k, k < B → W'.heap[k]? = W.heap[k]?
 cells : ∀ (k : Nat) (o : Obj), W.heap[k]? = some o → o.isCells = true → W'.heap[k]? = some o
theorem Calm.refl (B : Nat) (W : World) : Calm B W W := ⟨rfl, rfl, rfl, Nat.le_refl _, fun _ _ => rfl, fun _ _ h _ => h⟩
theorem Calm.trans {B : Nat} {a b c : World} (h : Calm B a b) (k : Calm B b c) : Calm B a c :=
 ⟨k.os.trans h.os, k.tape.trans h.tape, k.output.trans h.output, Nat.le_trans h.size k.size, fun i hi => (k.block i hi).trans (h.block i hi), fun i o ho hc => k.cells i o (h.cells i o ho hc) hc⟩
theorem Calm.below {B : Nat} {W W' : World} (h : Calm B W W') : Below B W W' := ⟨h.os, h.tape, h.output, h.size, h.block⟩
theorem Calm.of_below {B : Nat} {W W' : World} (hb : B ≤ W.heap.size) (h : Below W.heap.size W W') : Calm B W W' :=
 ⟨h.os, h.tape, h.output, h.size, fun k hk => h.block k (by omega), fun k o ho _ => (h.block k (Array.getElem?_eq_some_iff.1 ho).1).trans ho⟩
theorem Calm.putObj {B : Nat} {W : World} {l : Nat} {o : Obj} (o' : Obj) (hB : B ≤ l) (hl : W.heap[l]? = some o) (ho : o.isCells = false) : Calm B W (W.putObj l o') := by
 refine ⟨rfl, rfl, rfl, by simp, fun k hk => World.putObj_heap_other (by omega), fun k o2 hk hc => ?_⟩
 rw [World.putObj_heap_other]
 · exact hk
 · rintro rfl; rw [hl] at hk; cases hk; rw [ho] at hc; cases hc
theorem Calm.cell {B : Nat} {W W' : World} (h : Calm B W W') {a : Addr} {v : Value} (hc : W.cell? a = some v) : W'.cell? a = some v := by
 obtain ⟨o, ho, hcell⟩ := cells_of_cell hc
 rw [← hc]
 exact World.cell?_of_block (w := W) ((h.cells _ o ho hcell).trans ho.symm)
theorem Calm.frozen {B : Nat} {W W' : World} (h : Calm B W W') {a : Addr} {v : Value} (hc : W.cell? a = some v) : W'.frozen? a = W.frozen? a := by
 obtain ⟨o, ho, hcell⟩ := cells_of_cell hc
 exact World.frozen?_of_block (w := W) ((h.cells _ o ho hcell).trans ho.symm)
def roundEnds (J' Jx : World → Prop) (JX : Code → World → Prop) (W : World) : Exit → Act → World → Prop
 | .normal, _, W' => KeepsOthers W W' ∧ J' W'
 | .ret, _, W' => KeepsOthers W W' ∧ JX .ret W'
 | .exit id, _, W' => KeepsOthers W W' ∧ JX (.exit id) W'
 | .goto _, _, _ => False
 | .panic _, _, _ => False
 | .outgrown, _, W' => Jx W'
variable {P : Program}
theorem range_w {σ : Type} {g : Operand} {ps : Array Tmp} {assign body : Code} {Q : Exit → Act → World → Prop} {a : Act} {w : World}
  {gf : Nat} {lb : Array Value} (hg : a.eval g = .func (.func gf) #[] lb) (eg : ∀ args w, (callFunc gf args).run P w = .ok (.enter gf args) w)
  (J : σ → World → Prop) (JX : Code → World → Prop) (Step : σ → Array Value → σ → World → Prop) (Done : σ → Prop) (s0 : σ)
  (hJ : ∀ s W W', Calm w.heap.size W W' → J s W → J s W') (hJX : ∀ c W W', Calm w.heap.size W W' → JX c W → JX c W')
  (h0 : J s0 w)
  (hiter : ∀ (l : Nat) (J' : σ → World → Prop) (Jx' : World → Prop) (W : World), (∀ s W W', Below W.heap.size W W' → J' s W → J' s W') → (∀ W W', Below W.heap.size W W' → Jx' W → Jx' W') →
   (∀ s W, J' s W → J s W) → Calm w.heap.size w W → J' s0 W →
   (∀ s args s' W, J' s W → Step s args s' W → YieldAt Fence.wide 0 P l args W fun e W' => (e = .returned (.bool true) ∧ J' s' W') ∨ (e = .returned (.bool false) ∧ Jx' W')) →
   CallsIn Fence.wide 0 P gf (#[.func (.yield l) #[] #[]] ++ lb) W fun e W' => (∃ v, e = .returned v) ∧ ((∃ s, Done s ∧ J' s W') ∨ Jx' W'))
  (hbody : ∀ (l : Nat) (s : σ) (args : Array Value) (s' : σ) (W : World), J s W → Step s args s' W → w.heap.size ≤ W.heap.size → args.size = ps.size ∧
   assign.wpIn (Fence.wide.inRound l) 0 P (Exit.then (fun a₁ W₁ => KeepsOthers W W₁ ∧ ∀ W₂, Calm w.heap.size W₁ W₂ → body.wpIn (Fence.wide.inRound l) 0 P (roundEnds (J s') (fun _ => False) JX W₂) a₁ W₂) (fun _ _ _ => False))
    { tmps := (ps.zip args).foldl (fun t (p, v) => t.setIfInBounds p v) a.tmps, defers := [] } W)
  (hdone : ∀ (D : Nat) (s : σ) (W : World), w.heap.size ≤ D → Done s → J s W → W.heap[D]? = some (.deferred (some [])) → Q .normal { a with defers := { target := .collected D, args := #[] } :: a.defers } W)
  (hstop : ∀ (D : Nat) (c : Code) (W : World), w.heap.size ≤ D → JX c W → W.heap[D]? = some (.deferred (some [])) → c.wpIn Fence.wide 0 P Q { a with defers := { target := .collected D, args := #[] } :: a.defers } W) :
  (Code.rangeFunc g ps assign body).wpIn Fence.wide 0 P Q a w := by
 refine wpIn_rangeFunc ?_
 intro fn hfn
 obtain ⟨rec, hrec⟩ : ∃ rec : LoopState → Option Code → Loop, rec = fun st pe => { state := st, pending := pe, fn, tmps := a.tmps, params := ps, assign, body, defers := w.heap.size } := ⟨_, rfl⟩
 obtain ⟨W1, hW1⟩ : ∃ W1, (w.alloc (.deferred (some []))).alloc (.loop (rec .ready none)) = W1 := ⟨_, rfl⟩
 have hL1 : W1.heap[w.heap.size + 1]? = some (.loop (rec .ready none)) := by
  rw [← hW1]; have := World.alloc_heap_new (w.alloc (.deferred (some []))) (.loop (rec .ready none)); rwa [World.size_alloc] at this
 have hK1 : W1.heap[w.heap.size]? = some (.deferred (some [])) := by
  rw [← hW1]; exact (Below.heap_alloc _ _ _ (by simp)).trans (World.alloc_heap_new w _)
 have hC1 : Calm w.heap.size w W1 := by
  rw [← hW1]; exact Calm.of_below (Nat.le_refl _) (((Below.refl _ w).alloc (Nat.le_refl _) _).alloc (by simp) _)
 refine ⟨w.heap.size + 1, [{ target := .collected w.heap.size, args := #[] }], W1, { target := .fn (.func gf) lb, args := #[.func (.yield (w.heap.size + 1)) #[] #[]] }, W1, gf,
  #[.func (.yield (w.heap.size + 1)) #[] #[]] ++ lb, W1, ?_, ?_, ?_, ?_, fun h => by simp [Fence.wide] at h, ?_⟩
 · rw [← hW1, hrec]; exact run_enterLoop_outer _ _ _ _ _
 ·
  simp only [resolve, hg]
  simp [go_sem]
 · intro f' _; trivial
 · simp [invoke, go_sem, eg]
 ·
  refine (hiter (w.heap.size + 1)
   (fun s W => J s W ∧ W.heap[w.heap.size + 1]? = some (.loop (rec .ready none)) ∧ W.heap[w.heap.size]? = some (.deferred (some [])))
   (fun W => ∃ c, JX c W ∧ W.heap[w.heap.size + 1]? = some (.loop (rec .done (some c))) ∧ W.heap[w.heap.size]? = some (.deferred (some [])))
   W1 ?_ ?_ (fun _ _ h => h.1) hC1 ⟨hJ _ _ _ hC1 h0, hL1, hK1⟩ ?_).mono ?_
  ·
   rintro s W W' hb ⟨hj, hl, hk⟩
   have hlt := (Array.getElem?_eq_some_iff.1 hl).1
   exact ⟨hJ _ _ _ (Calm.of_below (by omega) hb) hj, (hb.block _ hlt).trans hl, (hb.block _ (by omega)).trans hk⟩
  ·
   rintro W W' hb ⟨c, hj, hl, hk⟩
   have hlt := (Array.getElem?_eq_some_iff.1 hl).1
   exact ⟨c, hJX _ _ _ (Calm.of_below (by omega) hb) hj, (hb.block _ hlt).trans hl, (hb.block _ (by omega)).trans hk⟩
  ·
   rintro s args s' W ⟨hj, hl, hk⟩ hst
   have hlt : w.heap.size + 1 < W.heap.size := (Array.getElem?_eq_some_iff.1 hl).1
   obtain ⟨hsz, hwalk⟩ := hbody (w.heap.size + 1) s args s' W hj hst (by omega)
   have hy := run_yield (P := P) (args := args) hl (by rw [hrec]; exact hsz)
   rw [hrec] at hy
   refine ⟨fn, _, assign, body, hy, roundIn_of_wpIn trivial (wpIn_mono hwalk ?_)⟩
   rintro e a₁ W₁ hp
   cases e <;> try exact (hp : False).elim
   obtain ⟨hk1, hb1⟩ := hp
   have hl1 := hk1.same _ _ hl rfl
   have hd1 := hk1.same _ _ hk rfl
   refine ⟨_, run_beginRound hl1 (by rw [hrec]), ?_⟩
   have hl2 : (W₁.putObj (w.heap.size + 1) (.loop { rec .ready none with state := .busy })).heap[w.heap.size + 1]? = some (.loop { rec .ready none with state := .busy }) := World.putObj_heap_same (Array.getElem?_eq_some_iff.1 hl1).1
   have hk2 : (W₁.putObj (w.heap.size + 1) (.loop { rec .ready none with state := .busy })).heap[w.heap.size]? = some (.deferred (some [])) := (World.putObj_heap_other (by omega)).trans hd1
   refine wpIn_mono (hb1 _ (Calm.putObj _ (by omega) hl1 rfl)) ?_
   have fin : ∀ (jump : Option Code) (W3 : World), KeepsOthers (W₁.putObj (w.heap.size + 1) (.loop { rec .ready none with state := .busy })) W3 →
     (Instr.endRound (w.heap.size + 1) jump).run P W3 = .ok (.bool jump.isNone) (W3.putObj (w.heap.size + 1) (.loop (rec (if jump.isNone then .ready else .done) jump))) ∧
     W3.heap[w.heap.size + 1]? = some (.loop { rec .ready none with state := .busy }) ∧
     (W3.putObj (w.heap.size + 1) (.loop (rec (if jump.isNone then .ready else .done) jump))).heap[w.heap.size + 1]? = some (.loop (rec (if jump.isNone then .ready else .done) jump)) ∧
     (W3.putObj (w.heap.size + 1) (.loop (rec (if jump.isNone then .ready else .done) jump))).heap[w.heap.size]? = some (.deferred (some [])) := fun jump W3 hk3 => by
    have hl3 := hk3.same _ _ hl2 rfl
    have := run_endRound (P := P) jump hl3
    rw [hrec] at this ⊢
    exact ⟨this, by rw [hrec] at hl3; exact hl3, World.putObj_heap_same (Array.getElem?_eq_some_iff.1 hl3).1, (World.putObj_heap_other (by omega)).trans (hk3.same _ _ hk2 rfl)⟩
   rintro e a3 W3 hp
   cases e with
   | normal =>
    obtain ⟨hk3, hi3⟩ := hp
    obtain ⟨hr, hl3, hl4, hk4⟩ := fin none W3 hk3
    exact ⟨_, _, hr, .inl ⟨rfl, hJ _ _ _ (Calm.putObj _ (by omega) hl3 rfl) hi3, hl4, hk4⟩⟩
   | ret =>
    obtain ⟨hk3, hi3⟩ := hp
    obtain ⟨hr, hl3, hl4, hk4⟩ := fin (some .ret) W3 hk3
    exact ⟨_, _, hr, .inr ⟨rfl, .ret, hJX _ _ _ (Calm.putObj _ (by omega) hl3 rfl) hi3, hl4, hk4⟩⟩
   | exit id =>
    obtain ⟨hk3, hi3⟩ := hp
    obtain ⟨hr, hl3, hl4, hk4⟩ := fin (some (.exit id)) W3 hk3
    exact ⟨_, _, hr, .inr ⟨rfl, .exit id, hJX _ _ _ (Calm.putObj _ (by omega) hl3 rfl) hi3, hl4, hk4⟩⟩
   | goto t => exact hp.elim
   | panic ch => exact hp.elim
   | outgrown => exact hp.elim
  ·
   rintro e W2 ⟨⟨v, rfl⟩, (⟨s, hS, hi, hl, hk⟩ | ⟨c, hi, hl, hk⟩)⟩
   · exact ⟨none, _, by have := run_endLoop (P := P) hl (by rw [hrec]; simp); rw [hrec] at this; exact this, hdone _ s _ (Nat.le_refl _) hS (hJ _ _ _ (Calm.putObj _ (by omega) hl rfl) hi) ((World.putObj_heap_other (by omega)).trans hk)⟩
   · exact ⟨some c, _, by have := run_endLoop (P := P) hl (by rw [hrec]; simp); rw [hrec] at this; exact this, hstop _ c _ (Nat.le_refl _) (hJX _ _ _ (Calm.putObj _ (by omega) hl rfl) hi) ((World.putObj_heap_other (by omega)).trans hk)⟩
end Go.Proofs.Ytmafnjidhjabgaa
namespace Go.Proofs.Ytmafnjidhjabgaa
open Go.RowKit
section
variable {P : Program} {ops : Array Oper} {md : Region.Mode} {S : World → Prop} {n : Nat}
def NP (Q : Exit → Act → World → Prop) : Exit → Act → World → Prop
 | .panic _, _, _ => False
 | .outgrown, _, _ => False
 | e, a, w => Q e a w
theorem NP.imp {Q : Exit → Act → World → Prop} : ∀ (e : Exit) (a : Act) (w : World), NP Q e a w → Q e a w := fun e a w h => by
 cases e <;> first | exact h | exact (h : False).elim
def wpX (P : Program) (md : Region.Mode) (ops : Array Oper) (Q : Exit → Act → World → Prop) (S : World → Prop) (n : Nat) : Nat → Array Bool → Act → World → Prop
 | 0, listed, a, w => Region.ready md ops listed = [] ∧ Q .normal a w
 | fuel + 1, listed, a, w =>
  (Region.ready md ops listed = [] → Q .normal a w) ∧
  ∀ i ∈ Region.ready md ops listed, wpOp P ops Q i (fun a' w' => (i < n → S w') ∧ wpX P md ops Q S n fuel (listed.setIfInBounds i true) a' w') a w
theorem wpAny_of_X {Q : Exit → Act → World → Prop} : ∀ (fuel : Nat) (listed : Array Bool) (a : Act) (w : World), wpX P md ops Q S n fuel listed a w → wpAny P md ops Q fuel listed a w
 | 0, _, _, _, h => h
 | fuel + 1, _, _, _, h => ⟨h.1, fun i hi => wpOp_mono (fun a' w' h' => wpAny_of_X fuel _ a' w' h'.2) (h.2 i hi)⟩
theorem wpX_first {Q : Exit → Act → World → Prop} {i : Nat} {oi : Oper} {v : Value} (hi : ops[i]? = some oi) (hsel : ∀ (j : Nat) (o : Oper) cs b, ops[j]? = some o → o.op ≠ .select cs b)
  (hQ : ∀ c a w, Q (.panic c) (a.put oi.dst v) w → Q (.panic c) a w) (hin : i < n)
  (htail : ∀ listed : Array Bool, HeadInv md ops n listed → listed.getD i true = false → ∀ t, n ≤ t → t ∉ Region.ready md ops listed) :
  ∀ (fuel : Nat) (listed : Array Bool) (a : Act) (w : World), HeadInv md ops n listed →
   (∀ j oj, ops[j]? = some oj → j ≠ i → listed.getD j true = false → (∀ e ∈ oj.after, Region.binds md e = true → e.on ≠ i) → oi.apart ops oj = true) →
   i ∈ Region.ready md ops listed → YieldsIf P ops S oi v a → S w →
   wpX P md ops Q S n fuel (listed.setIfInBounds i true) (a.put oi.dst v) w → wpX P md ops Q S n (fuel + 1) listed a w := by
 intro fuel
 induction fuel with
 | zero =>
  intro listed a w inv _ hr hy hS H
  refine ⟨fun h => (by rw [h] at hr; cases hr), fun j hj => ?_⟩
  by_cases hji : j = i
  · subst hji; exact hy.wpOp hi hS ⟨fun _ => hS, H⟩
  ·
   have := ready_mono hj hji
   rw [H.1] at this
   cases this
 | succ fuel ih =>
  intro listed a w inv hfree hr hy hS H
  refine ⟨fun h => (by rw [h] at hr; cases hr), fun j hj => ?_⟩
  by_cases hji : j = i
  · subst hji; exact hy.wpOp hi hS ⟨fun _ => hS, H⟩
  ·
   have hun := (mem_ready.1 hr).1
   have hjn : j < n := by
    rcases Nat.lt_or_ge j n with h | h
    · exact h
    · exact absurd hj (htail listed inv hun j h)
   have h1 := H.2 j (ready_mono hj hji)
   obtain ⟨hjun, oj, hoj, hall⟩ := mem_ready.1 hj
   have hnot : ∀ e ∈ oj.after, Region.binds md e = true → e.on ≠ i := fun e he hb heq => by
    have h1 := hall e he hb
    rw [heq, getD_both hun] at h1
    cases h1
   have h2 := wpOp_putIf hoj (hfree j oj hoj hji hjun hnot) (fun cs b => hsel i oi cs b hi) (fun cs b => hsel j oj cs b hoj) hQ hy h1
   have hfree' : ∀ k ok, ops[k]? = some ok → k ≠ i → (listed.setIfInBounds j true).getD k true = false →
     (∀ e ∈ ok.after, Region.binds md e = true → e.on ≠ i) → oi.apart ops ok = true := fun k ok hk hki hun hno => by
    refine hfree k ok hk hki ?_ hno
    by_cases hjk : j = k
    · subst hjk; exact hjun
    · rw [getD_set_ne true hjk] at hun; exact hun
   refine wpOp_mono (fun a' w' h3 => ⟨h3.2.1, ih (listed.setIfInBounds j true) a' w' (inv.set hj hjn) hfree' (ready_mono hr (Ne.symm hji)) h3.1 (h3.2.1 hjn) ?_⟩) h2
   rw [Array.setIfInBounds_comm _ _ hji]
   exact h3.2.2
def wpM (P : Program) (ops : Array Oper) (Q : Exit → Act → World → Prop) (S : World → Prop) (T : Act → World → Prop) : List (Nat × Bool) → Act → World → Prop
 | [], a, w => T a w
 | (i, false) :: r, a, w => ∃ o, ops[i]? = some o ∧ ∃ v, YieldsIf P ops S o v a ∧ wpM P ops Q S T r (a.put o.dst v) w
 | (i, true) :: r, a, w => wpOp P ops Q i (fun a' w' => S w' ∧ wpM P ops Q S T r a' w') a w
def chkM (md : Region.Mode) (ops : Array Oper) (n : Nat) : List (Nat × Bool) → Array Bool → Bool
 | [], listed => Region.seqB md ops (ops.size - n) n listed
 | (i, false) :: r, listed => decide (i < n) && (Region.ready md ops listed).contains i && Region.free md ops listed i && chkM md ops n r (listed.setIfInBounds i true)
 | (i, true) :: r, listed => decide (i < n) && decide (Region.ready md ops listed = [i]) && chkM md ops n r (listed.setIfInBounds i true)
def chkR (md : Region.Mode) (ops : Array Oper) (n : Nat) (π : List (Nat × Bool)) : Bool :=
 Region.noSelect ops && (decide (n = ops.size) || (decide (n < ops.size) && Region.sinkB md ops n && Region.chainB md ops n)) && decide (π.length = n) && chkM md ops n π (Array.replicate ops.size false)
theorem wpX_of_seq {Q : Exit → Act → World → Prop} : ∀ (l : List Oper) (k : Nat) (listed : Array Bool) (a : Act) (w : World), n ≤ k → (∀ j, l[j]? = ops[k + j]?) →
  Region.seqB md ops l.length k listed = true → wpList P ops Q l a w → wpX P md ops Q S n l.length listed a w
 | [], _, _, _, _, _, _, hB, h => ⟨by simpa [Region.seqB] using hB, h⟩
 | o :: l, k, listed, a, w, hk, hl, hB, h => by
  have h0 : ops[k]? = some o := by simpa using (hl 0).symm
  simp only [List.length_cons, Region.seqB, Bool.and_eq_true, decide_eq_true_eq] at hB
  refine ⟨fun h1 => (by rw [hB.1] at h1; cases h1), fun i hi => ?_⟩
  rw [hB.1] at hi
  have hik : i = k := by simpa using hi
  subst hik
  have hw : wpOp P ops Q i (wpList P ops Q l) a w := by unfold wpOp; simp only [h0]; exact h
  exact wpOp_mono (fun a' w' h' => ⟨fun h => by omega, wpX_of_seq l (i + 1) _ a' w' (by omega) (fun j => by have := hl (j + 1); simpa [Nat.add_assoc, Nat.add_comm 1 j] using this) hB.2 h'⟩) hw
theorem wpX_of_M {Q : Exit → Act → World → Prop} (hQ : ∀ c a d v w, Q (.panic c) (Act.put a d v) w → Q (.panic c) a w) (hsel : Region.noSelect ops = true) (hn : n ≤ ops.size)
  (htail : ∀ i, i < n → ∀ listed : Array Bool, HeadInv md ops n listed → listed.getD i true = false → ∀ t, n ≤ t → t ∉ Region.ready md ops listed) :
  ∀ (π : List (Nat × Bool)) (listed : Array Bool) (a : Act) (w : World), HeadInv md ops n listed → chkM md ops n π listed = true → S w →
   wpM P ops Q S (wpList P ops Q (ops.toList.drop n)) π a w → wpX P md ops Q S n (π.length + (ops.size - n)) listed a w
 | [], listed, a, w, _, hc, _, h => by
  have hl : (ops.toList.drop n).length = ops.size - n := by simp
  have := wpX_of_seq (S := S) (n := n) (md := md) (ops.toList.drop n) n listed a w (Nat.le_refl _) (fun j => by simp [List.getElem?_drop]) (by rw [hl]; exact hc) h
  rw [hl] at this
  simpa using this
 | (i, false) :: r, listed, a, w, inv, hc, hS, h => by
  simp only [chkM, Bool.and_eq_true, decide_eq_true_eq] at hc
  obtain ⟨⟨⟨hin, hr⟩, hf⟩, hc'⟩ := hc
  obtain ⟨o, ho, v, hy, h'⟩ := h
  have hr' : i ∈ Region.ready md ops listed := by simpa using hr
  rw [List.length_cons, show r.length + 1 + (ops.size - n) = (r.length + (ops.size - n)) + 1 by omega]
  exact wpX_first ho (Region.noSelect_spec hsel) (fun c a w => hQ c a _ _ w) hin (htail i hin) _ listed a w inv (Region.free_spec ho hf) hr' hy hS
   (wpX_of_M hQ hsel hn htail r _ _ w (inv.set hr' hin) hc' hS h')
 | (i, true) :: r, listed, a, w, inv, hc, hS, h => by
  simp only [chkM, Bool.and_eq_true, decide_eq_true_eq] at hc
  obtain ⟨⟨hin, hr⟩, hc'⟩ := hc
  have hr' : i ∈ Region.ready md ops listed := by rw [hr]; simp
  rw [List.length_cons, show r.length + 1 + (ops.size - n) = (r.length + (ops.size - n)) + 1 by omega]
  refine ⟨fun h1 => (by rw [hr] at h1; cases h1), fun j hj => ?_⟩
  rw [hr] at hj
  obtain rfl : j = i := by simpa using hj
  exact wpOp_mono (fun a' w' h' => ⟨fun _ => h'.1, wpX_of_M hQ hsel hn htail r _ _ w' (inv.set hr' hin) hc' h'.1 h'.2⟩) h
theorem wpOps_of_M {Q : Exit → Act → World → Prop} (hQ : ∀ c a d v w, Q (.panic c) (Act.put a d v) w → Q (.panic c) a w) (π : List (Nat × Bool)) (hm : P.follows .mixedOrders = true) (hB : chkR .any ops n π = true) {a : Act} {w : World} (hS : S w)
  (h : wpM P ops Q S (wpList P ops Q (ops.toList.drop n)) π a w) (t : Nat) : wpOps P ops Q (Region.schedule (P.follows .mixedOrders) ops t) a w := by
 simp only [chkR, Bool.and_eq_true, decide_eq_true_eq, Bool.or_eq_true] at hB
 obtain ⟨⟨⟨hsel, hn⟩, hlen⟩, hc⟩ := hB
 have hn' : n ≤ ops.size := by omega
 have inv0 : HeadInv .any ops n (Array.replicate ops.size false) :=
  ⟨by simp, fun j oj _ hl => (by rw [getD_replicate_false] at hl; cases hl), fun t _ ht => getD_in (by simpa using ht) (getD_replicate_false _ _)⟩
 have htail : ∀ i, i < n → ∀ listed : Array Bool, HeadInv .any ops n listed → listed.getD i true = false → ∀ t, n ≤ t → t ∉ Region.ready .any ops listed := by
  intro i hi listed inv hun t ht hr
  rcases hn with rfl | ⟨⟨hlt, hs⟩, hch⟩
  ·
   obtain ⟨_, o, ho, _⟩ := mem_ready.1 hr
   have := (Array.getElem?_eq_some_iff.1 ho).1
   omega
  · exact tail_waits hs hch hlt inv _ i rfl hi hun t ht hr
 have H := wpAny_of_X _ _ _ _ (wpX_of_M hQ hsel hn' htail π _ a w inv0 hc hS h)
 rw [hlen, show n + (ops.size - n) = ops.size by omega] at H
 simp only [Region.schedule, hm, Bool.true_or, if_true]
 exact wpAny_sound ops.size t _ a _ H
theorem region_m {Q : Exit → Act → World → Prop} {id : Nat} (π : List (Nat × Bool)) (n : Nat) (S : World → Prop) {a : Act} {w : World} (hm : P.follows .mixedOrders = true) (hB : chkR .any ops n π = true) (hS : S w.drew)
  (h : wpM P ops (NP Q) S (wpList P ops (NP Q) (ops.toList.drop n)) π a w.drew) : (Code.region id ops true).wp P Q a w :=
 Code.wp_mono NP.imp (wp_region_draw fun t => wpOps_of_M (fun _ _ _ _ _ h => h) π hm hB hS h t)
def noDefer (ops : Array Oper) : Bool := ops.all fun o => match o.op with | .defer _ => false | _ => true
theorem wpIn_of_wp {r : Option Nat} {o : Oper} (ho : ∀ c, o.op ≠ .defer c) {a : Act} {w : World} {K K' : Act → World → Prop} {Q : Exit → Act → World → Prop} (hK : ∀ a w, K a w → K' a w)
  (h : o.wp P a w K Q) : o.wpIn { Fence.wide with round := r } 0 P a w K' Q := by
 refine ⟨fun f _ => trivial, ?_⟩
 rw [Oper.semAt_eq _ _ _ ho]
 unfold Oper.wp at h
 generalize (execOp a.eval o).run P w = res at *
 have hC : ∀ f args w R, Calls P f args w R → CallsIn { Fence.wide with round := r } 0 P f args w R := fun f args w R h => callsIn_wide (n := 0).2 h
 have hd : ∀ k : Prop, ((({ Fence.wide with round := r } : Fence).depth.isSome = true) → k) := fun k h => by simp [Fence.wide] at h
 cases res with
 | ok nx w' =>
  cases nx <;> simp only [Oper.upon] at h <;> try exact h.elim
  case value u => exact hK _ _ h
  case skip => exact hK _ _ h
  case defer d => exact hK _ _ h
  case enter f args =>
   refine ⟨hd _, (hC _ _ _ _ h).mono ?_⟩
   intro e w'' he
   cases e <;> first | exact hK _ _ he | exact he
  case row row args =>
   refine ⟨hd _, ?_⟩
   intro c cs _
   obtain ⟨v, w'', hR, hs⟩ := h c cs
   exact ⟨v, w'', hK _ _ hR, stepsIn_wide.2 hs⟩
 | halt x w' => cases x <;> simp only [Oper.upon] at h <;> first | exact h | exact h.elim
theorem opsIn_of_ops {r : Option Nat} {Q : Exit → Act → World → Prop} (hnd : noDefer ops = true) (hout : ∀ a w, ¬ Q .outgrown a w) : ∀ (l : List Nat) (a : Act) (w : World), wpOps P ops Q l a w → wpOpsIn { Fence.wide with round := r } 0 P ops Q l a w
 | [], _, _, h => h
 | i :: l, a, w, h => by
  unfold wpOps at h
  unfold wpOpsIn
  cases ho : ops[i]? with
  | none => simp only [ho] at h ⊢; exact opsIn_of_ops hnd hout l a w h
  | some o =>
   simp only [ho] at h ⊢
   have hod : ∀ c, o.op ≠ .defer c := by
    intro c hc
    have := Array.all_eq_true'.1 hnd o (Array.mem_of_getElem? ho)
    rw [hc] at this
    cases this
   by_cases hw : Region.wanted o (yielded ops a.tmps) = true
   ·
    simp only [hw, if_true] at h ⊢
    rcases h with h | ⟨_, a₀, w₀, hq⟩
    · exact wpIn_of_wp hod (fun a w h => opsIn_of_ops hnd hout l a w h) h
    · exact absurd hq (hout _ _)
   ·
    simp only [hw, Bool.false_eq_true, if_false] at h ⊢
    exact ⟨fun _ _ => trivial, opsIn_of_ops hnd hout l _ w h⟩
theorem region_mi {r : Option Nat} {Q : Exit → Act → World → Prop} {id : Nat} (π : List (Nat × Bool)) (n : Nat) (S : World → Prop) {a : Act} {w : World} (hm : P.follows .mixedOrders = true) (hB : (chkR .any ops n π && noDefer ops) = true) (hS : S w.drew)
  (h : wpM P ops (NP Q) S (wpList P ops (NP Q) (ops.toList.drop n)) π a w.drew) : (Code.region id ops true).wpIn { Fence.wide with round := r } 0 P Q a w := by
 rw [Bool.and_eq_true] at hB
 exact wpIn_mono (wpIn_region_draw fun t => opsIn_of_ops hB.2 (fun _ _ h => h) _ _ _ (wpOps_of_M (fun _ _ _ _ _ h => h) π hm hB.1 hS h t)) NP.imp
theorem m_take {l : List Oper} {Q : Exit → Act → World → Prop} {T : Act → World → Prop} {i : Nat} {o : Oper} {v : Value} {π : List (Nat × Bool)} {a : Act} {w : World} (ho : l[i]? = some o) (hw : Region.wanted o (yielded l.toArray a.tmps) = true)
  (hy : ∀ W, S W → (execOp a.eval o).run P W = .ok (.value v) W) (h : wpM P l.toArray Q S T π (a.put o.dst v) w) : wpM P l.toArray Q S T ((i, false) :: π) a w :=
 ⟨o, by simpa using ho, v, .inl ⟨hw, hy⟩, h⟩
theorem m_skip {l : List Oper} {Q : Exit → Act → World → Prop} {T : Act → World → Prop} {i : Nat} {o : Oper} {π : List (Nat × Bool)} {a : Act} {w : World} (ho : l[i]? = some o) (hw : Region.wanted o (yielded l.toArray a.tmps) = false)
  (h : wpM P l.toArray Q S T π (a.put o.dst undef) w) : wpM P l.toArray Q S T ((i, false) :: π) a w :=
 ⟨o, by simpa using ho, undef, .inr ⟨hw, rfl⟩, h⟩
theorem m_loud {l : List Oper} {Q : Exit → Act → World → Prop} {T : Act → World → Prop} {i : Nat} {o : Oper} {π : List (Nat × Bool)} {a : Act} {w : World} (ho : l[i]? = some o)
  (h : ∀ K : Act → World → Prop, (∀ a w, S w → wpM P l.toArray Q S T π a w → K a w) → if Region.wanted o (yielded l.toArray a.tmps) = true then o.wp P a w K Q else K (a.put o.dst undef) w) : wpM P l.toArray Q S T ((i, true) :: π) a w := by
 have ho' : l.toArray[i]? = some o := by simpa using ho
 have := h (fun a' w' => S w' ∧ wpM P l.toArray Q S T π a' w') (fun a w hS h => ⟨hS, h⟩)
 show wpOp P l.toArray Q i _ a w
 unfold wpOp
 simp only [ho']
 by_cases hw : Region.wanted o (yielded l.toArray a.tmps) = true
 · simp only [hw, if_true] at this ⊢; exact .inl this
 · simp only [hw, Bool.false_eq_true, if_false] at this ⊢; exact this
theorem m_done {Q : Exit → Act → World → Prop} {T : Act → World → Prop} {a : Act} {w : World} (h : T a w) : wpM P ops Q S T [] a w := h
end
end Go.Proofs.Ytmafnjidhjabgaa
namespace Go.Proofs.Ytmafnjidhjabgaa
open Go.RowKit
def Rd (w : World) (sz : Nat) (v : Value) (n : Nat) (cs : List Value) : Prop :=
 ∃ (a : Option Addr) (cap : Nat), v = .slice a n cap ∧ cs.length = n * sz ∧ n ≤ cap ∧ cap ≤ 9223372036854775807 ∧
  (cap = 0 ∨ ∃ b off, a = some ⟨b, off, none⟩ ∧ ∀ (j : Nat) (u : Value), cs[j]? = some u → w.cell? ⟨b, off + j, none⟩ = some u)
theorem Rd.below {w w' : World} {sz n : Nat} {v : Value} {cs : List Value} (h : Rd w sz v n cs) {B : Nat} (hb : Below B w w') (hB : w.heap.size ≤ B) : Rd w' sz v n cs := by
 obtain ⟨a, cap, hv, h0, h1, h2, h3⟩ := h
 refine ⟨a, cap, hv, h0, h1, h2, ?_⟩
 rcases h3 with h3 | ⟨b, off, ha, hc⟩
 · exact .inl h3
 · exact .inr ⟨b, off, ha, fun j u hj => (hb.cell (p := ⟨b, off + j, none⟩) (Nat.lt_of_lt_of_le (World.block_lt_of_cell? w _ (hc j u hj)) hB)).trans (hc j u hj)⟩
theorem Rd.nil (w : World) (sz : Nat) : Rd w sz (.slice none 0 0) 0 [] := ⟨none, 0, rfl, by simp, Nat.le_refl _, by omega, .inl rfl⟩
theorem add_off (b o j : Nat) : (⟨b, o, none⟩ : Addr).add j = ⟨b, o + j, none⟩ := by unfold Addr.add; split <;> simp_all
theorem Rd.of_own {w : World} {base sz n : Nat} {e : TypeId} {v : Value} {cs : List Value} (h : w.ownsRow base e sz v n cs) : Rd w sz v n cs := by
 obtain ⟨h1, h2⟩ := h
 rcases h2 with ⟨rfl, rfl⟩ | ⟨g, cap, cur, rfl, hb, hg, hn, hm, hs, ht⟩
 · exact ⟨none, 0, rfl, h1, Nat.le_refl _, by omega, .inl rfl⟩
 ·
  refine ⟨_, cap, rfl, h1, hn, by unfold maxLen at hm; omega, .inr ⟨g, 0, rfl, fun j u hj => ?_⟩⟩
  have := World.ownsRow.cells (w := w) (base := base) (e := e) (size := sz) (n := n) (xs := cs) (v := .slice (some ⟨g, 0, none⟩) n cap) ⟨h1, .inr ⟨g, cap, cur, rfl, hb, hg, hn, hm, hs, ht⟩⟩ (g := g) rfl j u hj
  rw [add_off] at this
  exact this
structure STy (P : Program) (t e : TypeId) (z : Value) (sz bytes : Nat) : Prop where
 ht : P.underlying t = some (.slice e)
 hi : ∃ i, P.info? e = some i ∧ i.zero = some z ∧ i.size = sz ∧ i.bytes = bytes
 hz : z.cells.size = sz
 pos : 0 < sz
variable {P : Program}
theorem STy.of {t e : TypeId} {z : Value} {sz bytes : Nat} (ht : P.underlying t = some (.slice e)) (h : (P.info? e).map (fun i => (i.zero, i.size, i.bytes)) = some (some z, sz, bytes)) (hz : z.cells.size = sz) (pos : 0 < sz) : STy P t e z sz bytes := by
 obtain ⟨i, hi, h1, h2, h3⟩ := info_parts h
 exact ⟨ht, ⟨i, hi, h1, h2, h3⟩, hz, pos⟩
theorem run_app {w : World} {t e ty : TypeId} {z : Value} {sz bytes base n m : Nat} {v sv : Value} {xs ys : List Value} (T : STy P t e z sz bytes) (hown : w.ownsRow base e sz v n xs) (hr : Rd w sz sv m ys)
  (h1 : ∀ u ∈ ys, u.oneCell' = true) (hb : (n + m) * bytes ≤ 140737488355328) (hm : n + m ≤ 9223372036854775807) (hbase : base ≤ w.heap.size) :
  ∃ v' w', (Builtin.append_ #[t, t] ty #[v, sv]).run P w = .ok v' w' ∧ w'.ownsRow base e sz v' (n + m) (xs ++ ys) ∧ w.grownBy w' v.ownBlock ∧ (v' = .slice none 0 0 ↔ v = .slice none 0 0 ∧ m = 0) := by
 obtain ⟨i, hi, hz, hsz, hby⟩ := T.hi
 obtain ⟨a, cap, rfl, hl, hle, hcap, hc⟩ := hr
 rcases hc with rfl | ⟨b, off, rfl, hc⟩
 ·
  obtain rfl : m = 0 := by omega
  obtain rfl : ys = [] := List.eq_nil_of_length_eq_zero (by simpa using hl)
  cases a with
  | some x => exact run_append_own w base t ty e i z sz bytes T.ht hi hz hsz hby T.hz T.pos v n xs hown x 0 0 [] hl (fun j u hj => by simp at hj) h1 (by unfold maxLen; omega) hb hbase
  | none =>
  refine ⟨v, w, run_append_owned_none w base t ty e i sz T.ht hi v n xs hown, by simpa using hown, ⟨rfl, rfl, rfl, Nat.le_refl _, fun _ _ _ => rfl⟩, by simp⟩
 · exact run_append_own w base t ty e i z sz bytes T.ht hi hz hsz hby T.hz T.pos v n xs hown ⟨b, off, none⟩ m cap ys hl (fun j u hj => by rw [add_off]; exact hc j u hj) h1 (by unfold maxLen; omega) hb hbase
theorem exec_app {o : Oper} {a : Act} {w w' : World} {s x : Operand} {t : TypeId} {v sv v' : Value} (ho : o.op = .call { callee := .builtin .append, args := #[s, x], argTypes := #[t, t] }) (hs : a.eval s = v) (hx : a.eval x = sv)
  (hrun : (Builtin.append_ #[t, t] o.type #[v, sv]).run P w = .ok v' w') : (execOp a.eval o).run P w = .ok (.value v') w' := by
 simp [execOp, ho, resolve, invoke, builtin, hs, hx, hrun, Result.andThen]
theorem list_value {ops : Array Oper} {rest : List Oper} {o : Oper} {a : Act} {Q : Exit → Act → World → Prop} {w w' : World} {v' : Value} (hgd : Region.wanted o (yielded ops a.tmps) = true) (hrun : (execOp a.eval o).run P w = .ok (.value v') w')
  (h : wpList P ops Q rest (a.put o.dst v') w') : wpList P ops Q (o :: rest) a w := by
 refine wpList_step fun K hK => ?_
 rw [if_pos hgd]
 unfold Oper.wp
 rw [hrun]
 exact hK _ _ h
theorem app_list {ops : Array Oper} {rest : List Oper} {o : Oper} {a : Act} {Q : Exit → Act → World → Prop} {w : World} {s x : Operand} {t e : TypeId} {z : Value} {sz bytes base n m : Nat} {v sv : Value} {xs ys : List Value} (T : STy P t e z sz bytes)
  (hown : w.ownsRow base e sz v n xs) (hr : Rd w sz sv m ys) (h1 : ∀ u ∈ ys, u.oneCell' = true) (hb : (n + m) * bytes ≤ 140737488355328) (hm : n + m ≤ 9223372036854775807) (hbase : base ≤ w.heap.size)
  (hgd : Region.wanted o (yielded ops a.tmps) = true) (ho : o.op = .call { callee := .builtin .append, args := #[s, x], argTypes := #[t, t] }) (hs : a.eval s = v) (hx : a.eval x = sv)
  (h : ∀ v' w', w'.ownsRow base e sz v' (n + m) (xs ++ ys) → w.grownBy w' v.ownBlock → (v' = .slice none 0 0 ↔ v = .slice none 0 0 ∧ m = 0) → wpList P ops Q rest (a.put o.dst v') w') : wpList P ops Q (o :: rest) a w := by
 obtain ⟨v', w', hrun, h2, h3, h4⟩ := run_app (ty := o.type) T hown hr h1 hb hm hbase
 exact list_value hgd (exec_app ho hs hx hrun) (h v' w' h2 h3 h4)
theorem Rd.lit {w : World} {cs : Array Value} {e : TypeId} {n sz : Nat} (hs : cs.size = n * sz) (hn : n ≤ 9223372036854775807) : Rd (w.alloc (.cells cs e)) sz (.slice (some ⟨w.heap.size, 0, none⟩) n n) n cs.toList := by
 refine ⟨_, n, rfl, by simpa using hs, Nat.le_refl _, hn, .inr ⟨_, _, rfl, fun j u hj => ?_⟩⟩
 rw [World.cell?_alloc_at _ _ _ _ rfl]
 simpa using hj
theorem own_succ {w : World} {base e sz n : Nat} {v : Value} {xs : List Value} (h : w.ownsRow base e sz v (n + 1) xs) : ∃ g cap, v = .slice (some ⟨g, 0, none⟩) (n + 1) cap ∧ base ≤ g ∧ g < w.heap.size ∧ n + 1 ≤ cap ∧ cap ≤ 9223372036854775807 := by
 rcases h.2 with ⟨_, h0⟩ | ⟨g, cap, cur, rfl, hb, hg, hn, hm, _⟩
 · omega
 · exact ⟨g, cap, rfl, hb, (Array.getElem?_eq_some_iff.1 hg).1, hn, by unfold maxLen at hm; omega⟩
theorem Rd.own_take {w : World} {base e sz n m g cap : Nat} {xs : List Value} (h : w.ownsRow base e sz (.slice (some ⟨g, 0, none⟩) n cap) n xs) (hm : m ≤ n) : Rd w sz (.slice (some ⟨g, 0, none⟩) m cap) m (xs.take (m * sz)) := by
 have h' := Rd.of_own h
 obtain ⟨a, cap', hv, h0, h1, h2, h3⟩ := h'
 simp only [Value.slice.injEq] at hv
 obtain ⟨rfl, -, rfl⟩ := hv
 refine ⟨_, cap, rfl, ?_, by omega, h2, ?_⟩
 · rw [List.length_take, h0]; exact Nat.min_eq_left (Nat.mul_le_mul_right _ hm)
 ·
  rcases h3 with h3 | ⟨b, off, ha, hc⟩
  · exact .inl h3
  ·
   refine .inr ⟨b, off, ha, fun j u hj => hc j u ?_⟩
   rw [List.getElem?_take] at hj
   split at hj
   · exact hj
   · cases hj
def byteV (b : UInt8) : Value := .int .u8 b.toNat
def bvs (xs : List UInt8) : List Value := xs.map byteV
theorem bvs_one (xs : List UInt8) : ∀ u ∈ bvs xs, u.oneCell' = true := by
 intro u hu; obtain ⟨b, _, rfl⟩ := List.mem_map.1 hu; rfl
theorem bvs_length (xs : List UInt8) : (bvs xs).length = xs.length := by simp [bvs]
theorem bvs_get (xs : List UInt8) (i : Nat) (h : i < xs.length) : (bvs xs)[i]? = some (.int .u8 (bt xs i)) := by
 simp [bvs, byteV, bt, List.getD, List.getElem?_eq_getElem h]
theorem bvs_append (a b : List UInt8) : bvs (a ++ b) = bvs a ++ bvs b := by simp [bvs]
theorem Bytes.rd {w : World} {v : Value} {xs : List UInt8} (h : Bytes w v xs) : Rd w 1 v xs.length (bvs xs) := by
 obtain ⟨a, cap, rfl, h1, h2, h3⟩ := h
 refine ⟨a, cap, rfl, by rw [bvs_length]; omega, h1, h2, ?_⟩
 rcases h3 with h3 | ⟨b, off, ha, hc⟩
 · exact .inl h3
 ·
  refine .inr ⟨b, off, ha, fun j u hj => ?_⟩
  have hlt : j < xs.length := by have := (List.getElem?_eq_some_iff.1 hj).1; rwa [bvs_length] at this
  rw [bvs_get xs j hlt] at hj
  cases hj
  exact hc j hlt
theorem Rd.bytes {w : World} {v : Value} {xs : List UInt8} (h : Rd w 1 v xs.length (bvs xs)) : Bytes w v xs := by
 obtain ⟨a, cap, rfl, h0, h1, h2, h3⟩ := h
 refine ⟨a, cap, rfl, h1, h2, ?_⟩
 rcases h3 with h3 | ⟨b, off, ha, hc⟩
 · exact .inl h3
 · exact .inr ⟨b, off, ha, fun i hi => hc i _ (bvs_get xs i hi)⟩
theorem Bytes.of_own {w : World} {base : Nat} {e : TypeId} {v : Value} {xs : List UInt8} (h : w.ownsRow base e 1 v xs.length (bvs xs)) : Bytes w v xs := (Rd.of_own h).bytes
def bstr (xs : List UInt8) : ByteArray := ⟨xs.toArray⟩
theorem bstr_toList (xs : List UInt8) : (bstr xs).toList = xs := by rw [ByteArray.toList_eq]; simp [bstr]
theorem run_bytes_str {w : World} {v : Value} {xs : List UInt8} {src e dst : TypeId} (hs : P.underlying src = some (.slice e)) (he : P.underlying e = some (.int .u8)) (hd : P.underlying dst = some .string) (h : Bytes w v xs) :
  (convert src dst v).run P w = .ok (.string (bstr xs)) w := by
 obtain ⟨a, cap, rfl, h1, h2, h3⟩ := h
 rw [run_convert_bytes_string w src dst e _ _ _ hs he hd]
 have hfold : ∀ (l : List UInt8) (s : ByteArray), ((l.map fun b => (b.toNat : Int)).foldl (fun r n => r.push (UInt8.ofNat n.toNat)) s) = ⟨(s.data.toList ++ l).toArray⟩ := by
  intro l
  induction l with
  | nil => intro s; simp
  | cons b l ih =>
   intro s
   simp only [List.map_cons, List.foldl_cons]
   rw [ih]
   simp [ByteArray.push]
 rcases h3 with rfl | ⟨b, off, rfl, hc⟩
 ·
  obtain rfl : xs = [] := List.eq_nil_of_length_eq_zero (by omega)
  cases a with
  | some x =>
   show (Conv.bytesToString (.slice (some x) 0 0)).run P w = _
   rw [run_bytesToString (P := P) w x 0 0 [] (run_loadCells_list (P := P) w x [] (fun j u hj => by simp at hj))]
   rfl
  | none =>
  simp [Conv.bytesToString, bstr]
  rfl
 ·
  have hl : (loadCells ⟨b, off, none⟩ xs.length).run P w = .ok ((xs.map fun b => (b.toNat : Int)).map (Value.int .u8)).toArray w := by
   have := run_loadCells_list (P := P) (w := w) ⟨b, off, none⟩ (bvs xs) (fun j u hj => by
    rw [add_off]
    have hlt : j < xs.length := by have := (List.getElem?_eq_some_iff.1 hj).1; rwa [bvs_length] at this
    rw [bvs_get xs j hlt] at hj
    cases hj
    exact hc j hlt)
   rw [bvs_length] at this
   rw [this]
   simp [bvs, byteV, Function.comp_def]
  rw [run_bytesToString w _ _ _ _ hl, hfold]
  simp [bstr]
end Go.Proofs.Ytmafnjidhjabgaa
namespace Go.Proofs.Ytmafnjidhjabgaa
open Go.RowKit Go.ChangeShapes Go.WideShapes Go.ChangeAt
set_option maxRecDepth 100000
theorem own_knob : ownKnob Try.prog.godebug = none := by kernel_rfl
theorem laid_out : laidOutB Try.prog = true := by kernel_rfl
theorem bulk_all {H : Type} (l : List (DataW H)) : l.length ≤ Rows.uptoBulkAll l := by
 induction l with
 | nil => simp
 | cons d l ih =>
  have : 1 ≤ Rows.uptoBulk d := by
   cases d with
   | lit x => cases x <;> simp only [Rows.uptoBulk] <;> omega
   | _ => simp only [Rows.uptoBulk] <;> omega
  simp only [List.length_cons, Rows.uptoBulkAll]; omega
theorem addr_spot {w : World} {a : Addr} {v : Value} (h : w.cell? (a.add 0) = some v) : a = ⟨a.block, a.off, none⟩ := by
 obtain ⟨b, o, s⟩ := a
 have := World.cell?_spot h
 simp [Addr.add] at this
 simp [this]
def Shape {H : Type} (d : DataW H) (n : Nat) : Prop := n = 0 ∨ ∃ es sp, d = .slice es sp ∧ es.length = n
theorem cells_bytes {H : Type} {enc : TypeId × Value → H} {W : World} {held : Bool} {fuel : Nat} {cs : List Value} {y : DataW H × List MemPlace}
  (hf : DataW.trod enc Try.prog W 0 (fun _ => true) held fuel 46 cs = some y) : ∃ v xs, cs = [v] ∧ Bytes W v xs ∧ xs.length + 1 ≤ Rows.uptoBulk y.1 ∧ Shape y.1 xs.length := by
 rcases open_ints Try.underlying46 Try.underlying5 (by kernel_rfl) hf with ⟨rfl, rfl⟩ | ⟨x, len, cap, zs, rfl, _, hl, hm, hz, rfl, hcell, hwz⟩
 · exact ⟨_, [], rfl, Bytes.nil W, by simp [Rows.uptoBulk], .inl rfl⟩
 ·
  simp only [if_true] at hz
  have hxl : ((zs.take len).map fun n => UInt8.ofNat n.toNat).length = len := by simp; omega
  refine ⟨_, (zs.take len).map fun n => UInt8.ofNat n.toNat, rfl, ⟨some x, cap, by rw [hxl], by rw [hxl]; exact hl, by unfold maxLen at hm; omega, ?_⟩, ?_, .inr ⟨_, _, rfl, by rw [hxl]; simp [lits]; omega⟩⟩
  ·
   by_cases h0 : cap = 0
   · exact .inl h0
   ·
    have hs := addr_spot (hcell 0 (by omega))
    refine .inr ⟨x.block, x.off, by rw [← hs], fun i hi => ?_⟩
    rw [hxl] at hi
    have hi2 : i < zs.length := by omega
    have := hcell i hi2
    rw [hs, add_off] at this
    rw [this]
    have hw := hwz (zs.getD i 0) (by rw [List.getD_eq_getElem?_getD, List.getElem?_eq_getElem hi2]; exact List.getElem_mem hi2)
    have hb := Go.bounds_u8 hw
    have e : ((zs.take len).map fun n => UInt8.ofNat n.toNat).getD i 0 = UInt8.ofNat (zs.getD i 0).toNat := by
     rw [List.getD_eq_getElem?_getD, List.getElem?_map, List.getElem?_take_of_lt hi, List.getD_eq_getElem?_getD, List.getElem?_eq_getElem hi2]; rfl
    unfold bt
    rw [e]
    generalize zs.getD i 0 = q at *
    congr 2
    simp; omega
  ·
   rw [hxl]
   have h1 := bulk_all (lits .u8 (zs.take len) : List (DataW H))
   have h2 : (lits .u8 (zs.take len) : List (DataW H)).length = len := by simp [lits]; omega
   simp only [Rows.uptoBulk]
   omega
end Go.Proofs.Ytmafnjidhjabgaa
namespace Go.Proofs.Ytmafnjidhjabgaa
open Go.RowKit Go.ChangeShapes Go.WideShapes Go.ChangeAt
set_option maxRecDepth 100000
section
variable {α : Type} {f : α → List Value} {k : Nat}
def flatF (f : α → List Value) (es : List α) : List Value := es.flatMap f
theorem flatF_append (a b : List α) : flatF f (a ++ b) = flatF f a ++ flatF f b := by simp [flatF]
theorem flatF_one (e : α) : flatF f [e] = f e := by simp [flatF]
theorem flatF_length (hk : ∀ a, (f a).length = k) (es : List α) : (flatF f es).length = es.length * k := by
 induction es with
 | nil => simp [flatF]
 | cons e es ih =>
  simp only [flatF, List.flatMap_cons, List.length_append, List.length_cons] at ih ⊢
  rw [ih, hk, Nat.add_mul, Nat.one_mul, Nat.add_comm]
theorem flatF_take (hk : ∀ a, (f a).length = k) (es : List α) (n : Nat) (hn : n ≤ es.length) : (flatF f es).take (n * k) = flatF f (es.take n) := by
 have h1 := flatF_append (f := f) (es.take n) (es.drop n)
 rw [List.take_append_drop] at h1
 have h : (flatF f (es.take n)).length = n * k := by rw [flatF_length hk, List.length_take, Nat.min_eq_left hn]
 rw [h1, ← h, List.take_left]
theorem flatF_drop (hk : ∀ a, (f a).length = k) (es : List α) (n : Nat) (hn : n ≤ es.length) : (flatF f es).drop (n * k) = flatF f (es.drop n) := by
 have h1 := flatF_append (f := f) (es.take n) (es.drop n)
 rw [List.take_append_drop] at h1
 have h : (flatF f (es.take n)).length = n * k := by rw [flatF_length hk, List.length_take, Nat.min_eq_left hn]
 rw [h1, ← h, List.drop_left]
theorem flatF_get (hk : ∀ a, (f a).length = k) (es : List α) (i j : Nat) (hi : i < es.length) (hj : j < k) : (flatF f es)[i * k + j]? = (f es[i])[j]? := by
 have hd := flatF_drop hk es i (by omega)
 rw [List.drop_eq_getElem_cons hi] at hd
 rw [← List.getElem?_drop, hd]
 show (f es[i] ++ flatF f (es.drop (i + 1)))[j]? = _
 rw [List.getElem?_append_left (by rw [hk]; exact hj)]
theorem rdF_at (hk : ∀ a, (f a).length = k) {w : World} {a : Option Addr} {n cap : Nat} {es : List α} (h : Rd w k (.slice a n cap) es.length (flatF f es)) (i : Nat) (hi : i < es.length) :
  ∃ b o, a = some ⟨b, o, none⟩ ∧ ∀ (j : Nat) (u : Value), j < k → (f es[i])[j]? = some u → w.cell? ⟨b, o + i * k + j, none⟩ = some u := by
 obtain ⟨a', cap', hv, h0, h1, h2, h3⟩ := h
 simp only [Value.slice.injEq] at hv
 obtain ⟨rfl, rfl, rfl⟩ := hv
 rcases h3 with h3 | ⟨b, o, rfl, hc⟩
 · omega
 ·
  refine ⟨b, o, rfl, fun j u hj hu => ?_⟩
  rw [Nat.add_assoc]
  exact hc _ _ (by rw [flatF_get hk es i j hi hj]; exact hu)
theorem Rd.slice {w : World} {sz n : Nat} {v : Value} {cs : List Value} (h : Rd w sz v n cs) : ∃ a cap, v = .slice a n cap ∧ n ≤ cap ∧ cap ≤ 9223372036854775807 := by
 obtain ⟨a, cap, hv, -, h1, h2, -⟩ := h
 exact ⟨a, cap, hv, h1, h2⟩
end
end Go.Proofs.Ytmafnjidhjabgaa
namespace Go.Proofs.Ytmafnjidhjabgaa
open Go.RowKit
variable {P : Program}
theorem own_prefix {w : World} {base : Nat} {e : TypeId} {sz n m g cap : Nat} {xs ys : List Value} (h : w.ownsRow base e sz (.slice (some ⟨g, 0, none⟩) (n + m) cap) (n + m) (xs ++ ys)) (hx : xs.length = n * sz) : w.ownsRow base e sz (.slice (some ⟨g, 0, none⟩) n cap) n xs := by
 refine ⟨hx, .inr ?_⟩
 rcases h.2 with ⟨h', -⟩ | ⟨g', cap', cur, h', hb, hg, hnc, hcm, hcs, htake⟩
 · simp at h'
 ·
  simp only [Value.slice.injEq, Option.some.injEq, Addr.mk.injEq, and_true, true_and] at h'
  obtain ⟨rfl, rfl⟩ := h'
  refine ⟨g, cap, cur, rfl, hb, hg, by omega, hcm, hcs, ?_⟩
  have e1 : (cur.toList.take ((n + m) * sz)).take (n * sz) = cur.toList.take (n * sz) := by rw [List.take_take, Nat.min_eq_left (Nat.mul_le_mul_right _ (by omega))]
  have e2 : (xs ++ ys).take (n * sz) = xs := by rw [← hx]; simp
  rw [← e1, htake, e2]
theorem run_app_keeps {w : World} {t e ty : TypeId} {z : Value} {sz bytes base n m g cap : Nat} {sv : Value} {xs ys : List Value} (T : STy P t e z sz bytes)
  (hown : w.ownsRow base e sz (.slice (some ⟨g, 0, none⟩) n cap) n xs) (hr : Rd w sz sv m ys) (h1 : ∀ u ∈ ys, u.oneCell' = true) (hm0 : 0 < m) (hb : (n + m) * bytes ≤ 140737488355328) (hm : n + m ≤ 9223372036854775807) (hbase : base ≤ w.heap.size) :
  ∃ g' cap' w', (Builtin.append_ #[t, t] ty #[.slice (some ⟨g, 0, none⟩) n cap, sv]).run P w = .ok (.slice (some ⟨g', 0, none⟩) (n + m) cap') w' ∧
   w'.ownsRow base e sz (.slice (some ⟨g', 0, none⟩) (n + m) cap') (n + m) (xs ++ ys) ∧ w'.ownsRow base e sz (.slice (some ⟨g, 0, none⟩) n cap) n xs ∧ w.grownBy w' (some g) ∧ ((g' = g ∧ cap' = cap) ∨ w.heap.size ≤ g') := by
 obtain ⟨i, hi, hz, hsz, hby⟩ := T.hi
 obtain ⟨a, scap, rfl, hl, hle, hcap, hc⟩ := hr
 rcases hc with hc | ⟨b, off, rfl, hc⟩
 · omega
 have hc' : ∀ j u, ys[j]? = some u → w.cell? ((⟨b, off, none⟩ : Addr).add j) = some u := fun j u hj => by rw [add_off]; exact hc j u hj
 by_cases hroom : n + m ≤ cap
 ·
  obtain ⟨w', hrun, h2, h3⟩ := run_append_fits (P := P) w base t ty e i sz T.ht hi hsz g n cap xs hown ⟨b, off, none⟩ m scap ys hl hc' h1 hroom
  exact ⟨g, cap, w', hrun, h2, own_prefix h2 hown.1, h3, .inl ⟨rfl, rfl⟩⟩
 ·
  obtain ⟨g', cap', w', hrun, h2, h3, h4, h5⟩ := run_append_lies (P := P) w t ty base e i z sz bytes T.ht hi hz hsz hby T.hz T.pos _ n xs hown ⟨b, off, none⟩ m scap ys hl hc' h1 hm0 (by unfold maxLen; omega) hb hbase _ rfl
  have hg := run_append_grow (P := P) w t ty e i z T.ht hi hz ⟨g, 0, none⟩ n cap xs (by rw [hsz]; exact hown.1) (fun j u hu => by rw [add_off, Nat.zero_add]; have := World.ownsRow.cells hown rfl j u hu; rwa [add_off, Nat.zero_add] at this)
   ⟨b, off, none⟩ m scap ys (by rw [hsz]; exact hl) hc' (by omega) (by omega) (growslice_fits (by omega) (by rw [hby]; exact hb))
  rw [hrun] at hg
  simp only [Result.ok.injEq, Value.slice.injEq, Option.some.injEq, Addr.mk.injEq, and_true, true_and] at hg
  obtain ⟨⟨rfl, rfl⟩, rfl⟩ := hg
  refine ⟨_, _, _, hrun, h2, ?_, h3, .inr (Nat.le_refl _)⟩
  refine World.ownsRow.alloc ?_ _
  exact hown.kept (row := none) ⟨rfl, rfl, rfl, Nat.le_refl _, fun _ _ _ => rfl⟩ (.inr (by simp [Value.ownBlock]))
theorem app_keep {ops : Array Oper} {rest : List Oper} {o : Oper} {a : Act} {Q : Exit → Act → World → Prop} {w : World} {s x : Operand} {t e : TypeId} {z : Value} {sz bytes base n m : Nat} {v sv : Value} {xs ys : List Value} (T : STy P t e z sz bytes)
  (hown : w.ownsRow base e sz v n xs) (hr : Rd w sz sv m ys) (h1 : ∀ u ∈ ys, u.oneCell' = true) (hm0 : 0 < m) (hb : (n + m) * bytes ≤ 140737488355328) (hm : n + m ≤ 9223372036854775807) (hbase : base ≤ w.heap.size)
  (hgd : Region.wanted o (yielded ops a.tmps) = true) (ho : o.op = .call { callee := .builtin .append, args := #[s, x], argTypes := #[t, t] }) (hs : a.eval s = v) (hx : a.eval x = sv)
  (h : ∀ g cap w', w'.ownsRow base e sz (.slice (some ⟨g, 0, none⟩) (n + m) cap) (n + m) (xs ++ ys) → w'.ownsRow base e sz v n xs → w.grownBy w' v.ownBlock → ((∃ k c, v = .slice (some ⟨g, 0, none⟩) k c ∧ cap = c) ∨ w.heap.size ≤ g) → wpList P ops Q rest (a.put o.dst (.slice (some ⟨g, 0, none⟩) (n + m) cap)) w') : wpList P ops Q (o :: rest) a w := by
 rcases hown.2 with ⟨rfl, h0⟩ | ⟨g, cap, cur, rfl, -⟩
 ·
  subst h0
  obtain ⟨i, hi, hz, hsz, hby⟩ := T.hi
  obtain ⟨a', scap, rfl, hl, hle, hcap, hc⟩ := hr
  rcases hc with hc | ⟨b, off, rfl, hc⟩
  · omega
  obtain ⟨g, cap, w', hrun, h2, h3, h4, h5⟩ := run_append_lies (P := P) w t o.type base e i z sz bytes T.ht hi hz hsz hby T.hz T.pos _ 0 xs hown ⟨b, off, none⟩ m scap ys hl (fun j u hj => by rw [add_off]; exact hc j u hj) h1 hm0 (by unfold maxLen; omega) hb hbase _ rfl
  refine list_value hgd (exec_app ho hs hx hrun) (h g cap w' h2 ⟨hown.1, .inl ⟨rfl, rfl⟩⟩ h3 (.inr ?_))
  rcases h4 with h4 | h4
  · simp [Value.ownBlock] at h4
  · omega
 ·
  obtain ⟨g', cap', w', hrun, h2, h3, h4, h5⟩ := run_app_keeps (ty := o.type) T hown hr h1 hm0 hb hm hbase
  refine list_value hgd (exec_app ho hs hx hrun) (h g' cap' w' h2 h3 h4 ?_)
  rcases h5 with ⟨rfl, rfl⟩ | h5
  · exact .inl ⟨_, _, rfl, rfl⟩
  · exact .inr h5
end Go.Proofs.Ytmafnjidhjabgaa
namespace Go.Proofs.Ytmafnjidhjabgaa
open Go.RowKit
theorem tyBytes : STy Try.prog 46 5 (.int .u8 0) 1 1 := .of Try.underlying46 (by kernel_rfl) rfl (by omega)
theorem ownsRow_below {w w' : World} {B base : Nat} {e : TypeId} {sz n : Nat} {v : Value} {xs : List Value} (h : w.ownsRow base e sz v n xs) (hb : Below B w w') (hB : w.heap.size ≤ B) : w'.ownsRow base e sz v n xs := by
 obtain ⟨h1, h2⟩ := h
 refine ⟨h1, ?_⟩
 rcases h2 with h2 | ⟨g, cap, cur, hv, hg, hh, r⟩
 · exact .inl h2
 · exact .inr ⟨g, cap, cur, hv, hg, (hb.block g (Nat.lt_of_lt_of_le (Array.getElem?_eq_some_iff.1 hh).1 hB)).trans hh, r⟩
theorem ownsRow_calm {w w' : World} {B base : Nat} {e : TypeId} {sz n : Nat} {v : Value} {xs : List Value} (h : w.ownsRow base e sz v n xs) (hc : Calm B w w') : w'.ownsRow base e sz v n xs := by
 obtain ⟨h1, h2⟩ := h
 refine ⟨h1, ?_⟩
 rcases h2 with h2 | ⟨g, cap, cur, hv, hg, hh, r⟩
 · exact .inl h2
 · exact .inr ⟨g, cap, cur, hv, hg, hc.cells g _ hh rfl, r⟩
theorem ownsRow_set {w : World} {base : Nat} {e : TypeId} {sz n : Nat} {v : Value} {xs : List Value} (h : w.ownsRow base e sz v n xs) (a : Addr) (u : Value) (ha : a.block < base) : (w.setCell a u).ownsRow base e sz v n xs := by
 obtain ⟨h1, h2⟩ := h
 refine ⟨h1, ?_⟩
 rcases h2 with h2 | ⟨g, cap, cur, hv, hg, hh, r⟩
 · exact .inl h2
 ·
  refine .inr ⟨g, cap, cur, hv, hg, ?_, r⟩
  rw [heap_setCell_other w a g u (by omega)]
  exact hh
theorem ownsRow_mono {w : World} {base base' : Nat} {e : TypeId} {sz n : Nat} {v : Value} {xs : List Value} (h : w.ownsRow base e sz v n xs) (hb : base' ≤ base) : w.ownsRow base' e sz v n xs := by
 obtain ⟨h1, h2⟩ := h
 refine ⟨h1, ?_⟩
 rcases h2 with h2 | ⟨g, cap, cur, hv, hg, r⟩
 · exact .inl h2
 · exact .inr ⟨g, cap, cur, hv, Nat.le_trans hb hg, r⟩
theorem own_slice {w : World} {base : Nat} {e : TypeId} {sz n : Nat} {v : Value} {xs : List Value} (h : w.ownsRow base e sz v n xs) : ∃ a c, v = .slice a n c := by
 rcases h.2 with ⟨rfl, h0⟩ | ⟨g, cap, cur, rfl, -⟩
 · exact ⟨none, 0, by rw [h0]⟩
 · exact ⟨_, _, rfl⟩
def Mine (w : World) (base : Nat) (v : Value) (xs : List UInt8) : Prop := w.ownsRow base 5 1 v xs.length (bvs xs)
theorem Mine.bytes {w : World} {base : Nat} {v : Value} {xs : List UInt8} (h : Mine w base v xs) : Bytes w v xs := Bytes.of_own h
theorem Mine.below {w w' : World} {B base : Nat} {v : Value} {xs : List UInt8} (h : Mine w base v xs) (hb : Below B w w') (hB : w.heap.size ≤ B) : Mine w' base v xs := ownsRow_below h hb hB
theorem Mine.nil (w : World) (base : Nat) : Mine w base (.slice none 0 0) [] := World.ownsRow_nil _ _ _ _
theorem Mine.mono {w : World} {base base' : Nat} {v : Value} {xs : List UInt8} (h : Mine w base v xs) (hb : base' ≤ base) : Mine w base' v xs := by
 obtain ⟨h1, h2⟩ := h
 refine ⟨h1, ?_⟩
 rcases h2 with h2 | ⟨g, cap, cur, hv, hg, r⟩
 · exact .inl h2
 · exact .inr ⟨g, cap, cur, hv, Nat.le_trans hb hg, r⟩
theorem Mine.lit (w : World) (base n : Nat) (cs : Array Value) (xs : List UInt8) (hb : base ≤ w.heap.size) (hn : n ≤ 9223372036854775807) (hx : xs.length = n) (he : bvs xs = cs.toList) : Mine (w.alloc (.cells cs 5)) base (.slice (some ⟨w.heap.size, 0, none⟩) n n) xs := by
 subst hx
 have hs : cs.size = xs.length := by rw [← bvs_length, he]; simp
 have h := World.ownsRow_lit (base := base) (size := 1) (e := 5) w cs xs.length hb (by unfold maxLen; omega) (by omega)
 unfold Mine
 rw [he]
 exact h
theorem Mine.calm {w w' : World} {B base : Nat} {v : Value} {xs : List UInt8} (h : Mine w base v xs) (hc : Calm B w w') : Mine w' base v xs := ownsRow_calm h hc
theorem Mine.set {w : World} {base : Nat} {v : Value} {xs : List UInt8} (h : Mine w base v xs) (a : Addr) (u : Value) (ha : a.block < base) : Mine (w.setCell a u) base v xs := ownsRow_set h a u ha
theorem Mine.one {w : World} {base : Nat} {v : Value} {xs : List UInt8} (h : Mine w base v xs) : v.oneCell' = true := by
 rcases h.2 with ⟨rfl, -⟩ | ⟨g, cap, cur, rfl, -⟩ <;> rfl
theorem Mine.slice {w : World} {base : Nat} {v : Value} {xs : List UInt8} (h : Mine w base v xs) : ∃ a c, v = .slice a xs.length c := by
 rcases h.2 with ⟨rfl, h0⟩ | ⟨g, cap, cur, rfl, -⟩
 · exact ⟨none, 0, by rw [h0]⟩
 · exact ⟨_, _, rfl⟩
theorem app_mine {ops : Array Oper} {rest : List Oper} {o : Oper} {a : Act} {Q : Exit → Act → World → Prop} {w0 w : World} {s x : Operand} {base : Nat} {v sv : Value} {xs ys : List UInt8}
  (hown : Mine w base v xs) (hr : Bytes w sv ys) (hB : Below base w0 w) (hbase : base ≤ w.heap.size) (hb : xs.length + ys.length ≤ 140737488355328)
  (hgd : Region.wanted o (yielded ops a.tmps) = true) (ho : o.op = .call { callee := .builtin .append, args := #[s, x], argTypes := #[46, 46] }) (hs : a.eval s = v) (hx : a.eval x = sv)
  (h : ∀ v' w', Mine w' base v' (xs ++ ys) → Below base w0 w' → wpList Try.prog ops Q rest (a.put o.dst v') w') : wpList Try.prog ops Q (o :: rest) a w := by
 refine app_list tyBytes hown hr.rd (bvs_one _) (by omega) (by omega) hbase hgd ho hs hx fun v' w' h1 h2 _ => h v' w' ?_ ?_
 ·
  unfold Mine
  rw [List.length_append, bvs_append]
  exact h1
 · exact hB.grown h2 hbase (fun k e => (World.ownsRow.lt hown k e).1)
theorem Bytes.sub {w : World} {b o L C : Nat} {xs : List UInt8} (h : Bytes w (.slice (some ⟨b, o, none⟩) L C) xs) (i n C' : Nat) (hi : i + n ≤ L) (hC : n ≤ C') (hC2 : C' ≤ 9223372036854775807) :
  Bytes w (.slice (some ⟨b, o + i, none⟩) n C') ((xs.drop i).take n) := by
 obtain ⟨a', cap', hv, h1, h2, h3⟩ := h
 simp only [Value.slice.injEq] at hv
 obtain ⟨rfl, rfl, rfl⟩ := hv
 have hl : ((xs.drop i).take n).length = n := by simp; omega
 refine ⟨some ⟨b, o + i, none⟩, C', by rw [hl], by omega, hC2, ?_⟩
 by_cases hn : n = 0
 ·
  by_cases hc : C' = 0
  · exact .inl hc
  · exact .inr ⟨b, o + i, rfl, fun j hj => by omega⟩
 refine .inr ⟨b, o + i, rfl, fun j hj => ?_⟩
 rw [hl] at hj
 rcases h3 with h3 | ⟨b', o', ha, hc⟩
 · omega
 ·
  simp only [Option.some.injEq, Addr.mk.injEq, and_true] at ha
  obtain ⟨rfl, rfl⟩ := ha
  have := hc (i + j) (by omega)
  rw [← Nat.add_assoc] at this
  rw [this]
  congr 2
  unfold bt
  simp [List.getD, hj]
theorem Bytes.from {w : World} {b o L C : Nat} {xs : List UInt8} (h : Bytes w (.slice (some ⟨b, o, none⟩) L C) xs) (i n C' : Nat) (hi : i + n = L) (hC : n ≤ C') (hC2 : C' ≤ 9223372036854775807) :
  Bytes w (.slice (some ⟨b, o + i, none⟩) n C') (xs.drop i) := by
 have := h.sub i n C' (by omega) hC hC2
 obtain ⟨a', cap', hv, -⟩ := h
 simp only [Value.slice.injEq] at hv
 rw [List.take_of_length_le (by simp; omega)] at this
 exact this
theorem Bytes.part {w : World} {b o L C : Nat} {xs : List UInt8} (h : Bytes w (.slice (some ⟨b, o, none⟩) L C) xs) (n C' : Nat) (hi : n ≤ L) (hC : n ≤ C') (hC2 : C' ≤ 9223372036854775807) :
 Bytes w (.slice (some ⟨b, o, none⟩) n C') (xs.take n) := h.sub 0 n C' (by omega) hC hC2
theorem Bytes.length {w : World} {a : Option Addr} {L C : Nat} {xs : List UInt8} (h : Bytes w (.slice a L C) xs) : xs.length = L := by
 obtain ⟨a', cap', hv, -⟩ := h
 simp only [Value.slice.injEq] at hv
 exact hv.2.1.symm
structure Only (S : Nat → Prop) (w w' : World) : Prop where
 os : w'.os = w.os
 tape : w'.tape = w.tape
 output : w'.output = w.output
 size : w.heap.size ≤ w'.heap.size
 block : ∀ k, k < w.heap.size → ¬ S k → w'.heap[k]? = w.heap[k]?
theorem Only.refl (S : Nat → Prop) (w : World) : Only S w w := ⟨rfl, rfl, rfl, Nat.le_refl _, fun _ _ _ => rfl⟩
theorem Only.trans {S T : Nat → Prop} {a b c : World} (h : Only S a b) (k : Only T b c) (hT : ∀ j, j < a.heap.size → T j → S j) : Only S a c :=
 ⟨k.os.trans h.os, k.tape.trans h.tape, k.output.trans h.output, Nat.le_trans h.size k.size, fun j hj hs => (k.block j (Nat.lt_of_lt_of_le hj h.size) (fun ht => hs (hT j hj ht))).trans (h.block j hj hs)⟩
theorem Only.weak {S T : Nat → Prop} {a b : World} (h : Only S a b) (hT : ∀ j, j < a.heap.size → S j → T j) : Only T a b :=
 ⟨h.os, h.tape, h.output, h.size, fun j hj hs => h.block j hj (fun ht => hs (hT j hj ht))⟩
theorem Only.of_below {S : Nat → Prop} {w w' : World} (h : Below w.heap.size w w') : Only S w w' := ⟨h.os, h.tape, h.output, h.size, fun j hj _ => h.block j hj⟩
theorem Only.of_grown {w w' : World} {r : Option Nat} (h : w.grownBy w' r) : Only (fun j => r = some j) w w' := ⟨h.os, h.tape, h.output, h.size, fun j hj hs => h.block j hj (fun e => hs e.symm)⟩
theorem Only.below {S : Nat → Prop} {w w' : World} {B : Nat} (h : Only S w w') (hB : B ≤ w.heap.size) (hS : ∀ j, j < B → ¬ S j) : Below B w w' := ⟨h.os, h.tape, h.output, h.size, fun j hj => h.block j (by omega) (hS j hj)⟩
theorem Only.alloc {S : Nat → Prop} {a w : World} (h : Only S a w) (o : Obj) : Only S a (w.alloc o) := h.trans (Only.of_below (S := fun _ => False) ((Below.refl _ w).alloc (Nat.le_refl _) o)) (fun _ _ h => h.elim)
theorem Only.drew {S : Nat → Prop} {a w : World} (h : Only S a w) : Only S a w.drew := ⟨h.os, h.tape, h.output, h.size, h.block⟩
theorem Only.setCell {S : Nat → Prop} {a w : World} (h : Only S a w) (x : Addr) (u : Value) (hx : S x.block ∨ a.heap.size ≤ x.block) : Only S a (w.setCell x u) := by
 refine ⟨h.os, h.tape, h.output, by simpa using h.size, fun j hj hs => ?_⟩
 rw [heap_setCell_other w x j u ?_]
 · exact h.block j hj hs
 ·
  rintro rfl
  rcases hx with h1 | h1
  · exact hs h1
  · omega
theorem Only.cell {S : Nat → Prop} {w w' : World} (h : Only S w w') {b o : Nat} {v : Value} (hS : ¬ S b) (hc : w.cell? ⟨b, o, none⟩ = some v) : w'.cell? ⟨b, o, none⟩ = some v :=
 (World.cell?_of_block (a := ⟨b, o, none⟩) (h.block b (World.block_lt_of_cell? w _ hc) hS)).trans hc
theorem Only.frozen {S : Nat → Prop} {w w' : World} (h : Only S w w') {b o : Nat} (hb : b < w.heap.size) (hS : ¬ S b) : w'.frozen? ⟨b, o, none⟩ = w.frozen? ⟨b, o, none⟩ := World.frozen?_of_block (a := ⟨b, o, none⟩) (h.block b hb hS)
theorem ownsRow_only {S : Nat → Prop} {w w' : World} {base : Nat} {e : TypeId} {sz n : Nat} {v : Value} {xs : List Value} (h : w.ownsRow base e sz v n xs) (ho : Only S w w') (hS : ∀ g, v.ownBlock = some g → ¬ S g) : w'.ownsRow base e sz v n xs := by
 obtain ⟨h1, h2⟩ := h
 refine ⟨h1, ?_⟩
 rcases h2 with h2 | ⟨g, cap, cur, hv, hg, hh, r⟩
 · exact .inl h2
 · exact .inr ⟨g, cap, cur, hv, hg, (ho.block g (Array.getElem?_eq_some_iff.1 hh).1 (hS g (by rw [hv]; rfl))).trans hh, r⟩
theorem own_apart {w : World} {base base' : Nat} {e e' : TypeId} {sz sz' n n' : Nat} {v v' : Value} {xs xs' : List Value} (h : w.ownsRow base e sz v n xs) (h' : w.ownsRow base' e' sz' v' n' xs') (hne : e ≠ e') (g : Nat) (hg : v.ownBlock = some g) : v'.ownBlock ≠ some g := by
 intro ee
 rcases h.2 with ⟨rfl, -⟩ | ⟨g1, cap, cur, rfl, -, hh, -⟩
 · simp [Value.ownBlock] at hg
 rcases h'.2 with ⟨rfl, -⟩ | ⟨g2, cap', cur', rfl, -, hh', -⟩
 · simp [Value.ownBlock] at ee
 simp [Value.ownBlock] at hg ee
 subst hg ee
 rw [hh] at hh'
 simp at hh'
 exact hne hh'.2
theorem Bytes.only {S : Nat → Prop} {w w' : World} {v : Value} {xs : List UInt8} (h : Bytes w v xs) (ho : Only S w w') (hS : ∀ a n c, v = .slice (some a) n c → ¬ S a.block) : Bytes w' v xs := by
 obtain ⟨a, cap, hv, h1, h2, h3⟩ := h
 refine ⟨a, cap, hv, h1, h2, ?_⟩
 rcases h3 with h3 | ⟨b, off, rfl, hc⟩
 · exact .inl h3
 · exact .inr ⟨b, off, rfl, fun i hi => ho.cell (hS _ _ _ hv) (hc i hi)⟩
section
variable {P : Program} {l : List Oper} {Q : Exit → Act → World → Prop} {S : World → Prop} {T : Act → World → Prop} {i : Nat} {o : Oper} {π : List (Nat × Bool)} {a : Act} {w w' : World} {v' : Value}
theorem m_value (ho : l[i]? = some o) (hw : Region.wanted o (yielded l.toArray a.tmps) = true) (hrun : (execOp a.eval o).run P w = .ok (.value v') w') (hS : S w') (h : wpM P l.toArray Q S T π (a.put o.dst v') w') : wpM P l.toArray Q S T ((i, true) :: π) a w := by
 refine m_loud ho fun K hK => ?_
 rw [if_pos hw]
 unfold Oper.wp
 rw [hrun]
 exact hK _ _ hS h
theorem m_app {s x : Operand} {t e : TypeId} {z : Value} {sz bytes base n m : Nat} {v sv : Value} {xs ys : List Value} (T' : STy P t e z sz bytes)
  (hown : w.ownsRow base e sz v n xs) (hr : Rd w sz sv m ys) (h1 : ∀ u ∈ ys, u.oneCell' = true) (hm0 : 0 < m) (hb : (n + m) * bytes ≤ 140737488355328) (hm : n + m ≤ 9223372036854775807) (hbase : base ≤ w.heap.size)
  (ho : l[i]? = some o) (hw : Region.wanted o (yielded l.toArray a.tmps) = true) (hop : o.op = .call { callee := .builtin .append, args := #[s, x], argTypes := #[t, t] }) (hs : a.eval s = v) (hx : a.eval x = sv)
  (h : ∀ g cap w', w'.ownsRow base e sz (.slice (some ⟨g, 0, none⟩) (n + m) cap) (n + m) (xs ++ ys) → w'.ownsRow base e sz v n xs → w.grownBy w' v.ownBlock → ((∃ k c, v = .slice (some ⟨g, 0, none⟩) k c ∧ cap = c) ∨ w.heap.size ≤ g) → S w' ∧ wpM P l.toArray Q S T π (a.put o.dst (.slice (some ⟨g, 0, none⟩) (n + m) cap)) w') :
  wpM P l.toArray Q S T ((i, true) :: π) a w := by
 rcases hown.2 with ⟨rfl, h0⟩ | ⟨g, cap, cur, rfl, -⟩
 ·
  subst h0
  obtain ⟨i', hi, hz, hsz, hby⟩ := T'.hi
  obtain ⟨a', scap, rfl, hl, hle, hcap, hc⟩ := hr
  rcases hc with hc | ⟨b, off, rfl, hc⟩
  · omega
  obtain ⟨g, cap, w', hrun, h2, h3, h4, h5⟩ := run_append_lies (P := P) w t o.type base e i' z sz bytes T'.ht hi hz hsz hby T'.hz T'.pos _ 0 xs hown ⟨b, off, none⟩ m scap ys hl (fun j u hj => by rw [add_off]; exact hc j u hj) h1 hm0 (by unfold maxLen; omega) hb hbase _ rfl
  have := h g cap w' h2 ⟨hown.1, .inl ⟨rfl, rfl⟩⟩ h3 (.inr (by
   rcases h4 with h4 | h4
   · simp [Value.ownBlock] at h4
   · omega))
  exact m_value ho hw (exec_app hop hs hx hrun) this.1 this.2
 ·
  obtain ⟨g', cap', w', hrun, h2, h3, h4, h5⟩ := run_app_keeps (ty := o.type) T' hown hr h1 hm0 hb hm hbase
  have := h g' cap' w' h2 h3 h4 (by
   rcases h5 with ⟨rfl, rfl⟩ | h5
   · exact .inl ⟨_, _, rfl, rfl⟩
   · exact .inr h5)
  exact m_value ho hw (exec_app hop hs hx hrun) this.1 this.2
end
end Go.Proofs.Ytmafnjidhjabgaa
namespace Go.Proofs.Ytmafnjidhjabgaa
open Go.RowKit
theorem below_alloc (w : World) (o : Obj) : Below w.heap.size w (w.alloc o) := (Below.refl _ _).alloc (Nat.le_refl _) _
theorem below_go {a b c : World} (h : Below a.heap.size a b) (k : Below b.heap.size b c) : Below a.heap.size a c := h.trans (k.mono h.size)
theorem below_box {a b : World} (h : Below a.heap.size a b) (o : Obj) : Below a.heap.size a (b.alloc o) := h.alloc h.size _
theorem box_self {w : World} {cs : Array Value} {e : TypeId} (o : Nat) (u : Value) (h : cs[o]? = some u) : (w.alloc (.cells cs e)).cell? ⟨w.heap.size, o, none⟩ = some u := by
 rw [World.cell?_alloc_at _ _ _ _ rfl]; exact h
theorem box_cell {w w' : World} {cs : Array Value} {e : TypeId} (hb : Below (w.alloc (.cells cs e)).heap.size (w.alloc (.cells cs e)) w') (o : Nat) (u : Value) (h : cs[o]? = some u) : w'.cell? ⟨w.heap.size, o, none⟩ = some u :=
 cell_later hb (box_self o u h)
theorem box_frozen {w w' : World} {cs : Array Value} {e : TypeId} (hb : Below (w.alloc (.cells cs e)).heap.size (w.alloc (.cells cs e)) w') (o : Nat) : w'.frozen? ⟨w.heap.size, o, none⟩ = false := by
 rw [World.frozen?_of_block (a := ⟨w.heap.size, o, none⟩) (hb.block w.heap.size (by simp)), World.frozen?_alloc_at _ _ _ _ rfl]
theorem frozen_later {w w' : World} {a : Addr} {v : Value} (hb : Below w.heap.size w w') (hc : w.cell? a = some v) (hf : w.frozen? a = false) : w'.frozen? a = false :=
 (World.frozen?_of_block (hb.block a.block (World.block_lt_of_cell? w _ hc))).trans hf
end Go.Proofs.Ytmafnjidhjabgaa
namespace Go.Proofs.Ytmafnjidhjabgaa
open Go.RowKit Go.Lib
variable {P : Program}
def writeL : List Value → Nat → List Value → List Value
 | xs, _, [] => xs
 | xs, o, v :: r => writeL (xs.set o v) (o + 1) r
theorem writeL_eq : ∀ (vs xs : List Value) (o : Nat), o + vs.length ≤ xs.length → writeL xs o vs = xs.take o ++ vs ++ xs.drop (o + vs.length)
 | [], xs, o, _ => by simp [writeL]
 | v :: r, xs, o, h => by
  rw [List.length_cons] at h
  rw [writeL, writeL_eq r (xs.set o v) (o + 1) (by simp; omega)]
  have h1 : (xs.set o v).take (o + 1) = xs.take o ++ [v] := by
   rw [List.take_set, List.take_succ_eq_append_getElem (by omega), List.set_append_right _ _ (by simp; omega)]
   simp [Nat.min_eq_left (by omega : o ≤ xs.length)]
  have h2 : (xs.set o v).drop (o + 1 + r.length) = xs.drop (o + (v :: r).length) := by
   rw [List.drop_set_of_lt (by omega), List.length_cons]
   congr 1
   omega
  rw [h1, h2]
  simp
theorem own_write {base g n cap sz : Nat} {e : TypeId} : ∀ (vs : List Value) (o : Nat) (w : World) (xs : List Value), w.ownsRow base e sz (.slice (some ⟨g, 0, none⟩) n cap) n xs →
  (w.setCells g o vs).ownsRow base e sz (.slice (some ⟨g, 0, none⟩) n cap) n (writeL xs o vs) ∧ w.grownBy (w.setCells g o vs) (some g)
 | [], _, _, _, h => ⟨h, ⟨rfl, rfl, rfl, Nat.le_refl _, fun _ _ _ => rfl⟩⟩
 | v :: r, o, w, xs, h => by
  have h1 := World.ownsRow.stored h o v
  have h2 := own_write r (o + 1) _ _ h1.1
  exact ⟨h2.1, h1.2.trans h2.2⟩
theorem own_extend {w : World} {base g n m cap sz : Nat} {e : TypeId} {xs : List Value} (h : w.ownsRow base e sz (.slice (some ⟨g, 0, none⟩) n cap) n xs) (hm : n + m ≤ cap) :
  ∃ tl, tl.length = m * sz ∧ w.ownsRow base e sz (.slice (some ⟨g, 0, none⟩) (n + m) cap) (n + m) (xs ++ tl) := by
 rcases h.2 with ⟨h', -⟩ | ⟨g', cap', cur, h', hb, hg, hnc, hcm, hcs, htake⟩
 · simp at h'
 ·
  simp only [Value.slice.injEq, Option.some.injEq, Addr.mk.injEq, and_true, true_and] at h'
  obtain ⟨rfl, rfl⟩ := h'
  have hle : (n + m) * sz ≤ cap * sz := Nat.mul_le_mul_right _ hm
  have hl : cur.toList.length = cap * sz := by simpa using hcs
  have hn : n * sz + m * sz = (n + m) * sz := by rw [Nat.add_mul]
  have e1 : cur.toList.take ((n + m) * sz) = xs ++ (cur.toList.drop (n * sz)).take (m * sz) := by
   rw [← hn, List.take_add, htake]
  refine ⟨(cur.toList.drop (n * sz)).take (m * sz), by rw [List.length_take, List.length_drop, hl]; omega, ?_, .inr ⟨g, cap, cur, rfl, hb, hg, hm, hcm, hcs, e1⟩⟩
  rw [List.length_append, h.1, List.length_take, List.length_drop, hl]
  omega
theorem own_there' {w : World} {base g n cap sz : Nat} {e : TypeId} {xs : List Value} (h : w.ownsRow base e sz (.slice (some ⟨g, 0, none⟩) n cap) n xs) (j : Nat) (hj : j < cap * sz) : (w.cell? ⟨g, j, none⟩).isSome = true := by
 rcases h.2 with ⟨h', _⟩ | ⟨g', cap', cur, h', _, hg, _, _, hcs, _⟩
 · simp at h'
 ·
  simp only [Value.slice.injEq, Option.some.injEq, Addr.mk.injEq, and_true, true_and] at h'
  obtain ⟨rfl, rfl⟩ := h'
  simp only [World.cell?, hg]
  simp [hcs, hj]
theorem own_shape {w : World} {base g n cap sz : Nat} {e : TypeId} {xs : List Value} (h : w.ownsRow base e sz (.slice (some ⟨g, 0, none⟩) n cap) n xs) : w.shape? g = some (e, cap * sz) := by
 rcases h.2 with ⟨h', _⟩ | ⟨g', cap', cur, h', _, hg, _, _, hcs, _⟩
 · simp at h'
 ·
  simp only [Value.slice.injEq, Option.some.injEq, Addr.mk.injEq, and_true, true_and] at h'
  obtain ⟨rfl, rfl⟩ := h'
  simp [World.shape?, hg, hcs]
theorem run_copy_k (w : World) {dT sT ty elem : TypeId} {b o dLen dCap : Nat} {a : Addr} {sLen sCap sz n : Nat} {cs : List Value} {z : Value} {bytes : Nat} (T : STy P dT elem z sz bytes) (hn : Nat.min sLen dLen = n) (hcl : cs.length = n * sz)
  (hsrc : ∀ j v, cs[j]? = some v → w.cell? (a.add j) = some v) (hc : ∀ j, j < cs.length → (w.cell? ⟨b, o + j, none⟩).isSome = true) (hf : ∀ j, j < cs.length → w.frozen? ⟨b, o + j, none⟩ = false) (h1 : ∀ v ∈ cs, v.oneCell' = true) :
  (Builtin.copy_ #[dT, sT] ty #[.slice (some ⟨b, o, none⟩) dLen dCap, .slice (some a) sLen sCap]).run P w = .ok (goInt n) (w.setCells b o cs) := by
 have hl := run_loadCells_list (P := P) w a cs hsrc
 have hst := run_storeCells_cells (P := P) b o cs 0 w (by simpa using hc) (by simpa using hf) h1
 obtain ⟨i, hi, -, hs, -⟩ := T.hi
 rw [hcl] at hl
 simp [Builtin.copy_, run_underlying T.ht, Builtin.lenOf, Builtin.firstCells, sizeOf, typeInfo, hi, hs, hn, hl, hst]
theorem exec_copy {o : Oper} {a : Act} {w w' : World} {s x : Operand} {t : TypeId} {v sv v' : Value} (ho : o.op = .call { callee := .builtin .copy, args := #[s, x], argTypes := #[t, t] }) (hs : a.eval s = v) (hx : a.eval x = sv)
  (hrun : (Builtin.copy_ #[t, t] o.type #[v, sv]).run P w = .ok v' w') : (execOp a.eval o).run P w = .ok (.value v') w' := by
 simp [execOp, ho, resolve, invoke, builtin, hs, hx, hrun, Result.andThen]
theorem exec_appz {o : Oper} {a : Act} {w w' : World} {s x : Operand} {t t' : TypeId} {v sv v' : Value} (ho : o.op = .call { callee := .builtin .append, args := #[s, x], argTypes := #[t, t'] }) (hs : a.eval s = v) (hx : a.eval x = sv)
  (hrun : (Builtin.append_ #[t, t'] o.type #[v, sv]).run P w = .ok v' w') : (execOp a.eval o).run P w = .ok (.value v') w' := by
 simp [execOp, ho, resolve, invoke, builtin, hs, hx, hrun, Result.andThen]
theorem run_app_zeros {w : World} {t tn ty e : TypeId} {z : Value} {sz bytes base i k g cap n : Nat} {cs : List Value} {kn : IntKind} (T : STy P t e z sz bytes) (htn : P.underlying tn = some (.int kn)) (hown : w.ownsRow base e sz (.slice (some ⟨g, 0, none⟩) n cap) n cs)
  (hin : i ≤ n) (hk : 0 < k) (hroom : cap < i + k) (hbig : (i + k) * bytes ≤ 140737488355328) (h63 : i + k ≤ 9223372036854775807) :
  ∃ c w' zs, zs.length = k * sz ∧ i + k ≤ c ∧ c ≤ 9223372036854775807 ∧ (Builtin.append_ #[t, tn] ty #[.slice (some ⟨g, 0, none⟩) i cap, .int .i64 k]).run P w = .ok (.slice (some ⟨w.heap.size, 0, none⟩) (i + k) c) w' ∧
   w'.ownsRow w.heap.size e sz (.slice (some ⟨w.heap.size, 0, none⟩) (i + k) c) (i + k) (cs.take (i * sz) ++ zs) ∧ Below w.heap.size w w' := by
 obtain ⟨i0, hi, hz, hsz, hby⟩ := T.hi
 have hcl : cs.length = n * sz := hown.1
 have hle : i * sz ≤ n * sz := Nat.mul_le_mul_right _ hin
 have htl : (cs.take (i * sz)).length = i * sz := by rw [List.length_take]; omega
 have hold : (Builtin.firstCells i0.size i (.slice (some ⟨g, 0, none⟩) i cap)).run P w.drew = .ok (cs.take (i * sz)).toArray w.drew := by
  rw [hsz]
  refine run_firstCells_some w.drew sz i ⟨g, 0, none⟩ i cap (cs.take (i * sz)) htl (fun j v hj => ?_)
  rw [List.getElem?_take] at hj
  split at hj
  ·
   have := World.ownsRow.cells hown rfl _ _ hj
   rw [add_off] at this ⊢
   exact this
  · cases hj
 have hfit := growslice_fits (need := i + k) (old := cap) (bytes := i0.bytes) hroom (by rw [hby]; exact hbig)
 have hkb : k * i0.bytes ≤ 281474976710656 := by
  have := Nat.mul_le_mul_right bytes (show k ≤ i + k by omega)
  rw [hby]
  omega
 have h := run_append_grow_zeros (P := P) w t tn ty e i0 z .i64 kn T.ht htn hi hz (some ⟨g, 0, none⟩) i cap (cs.take (i * sz)) hold k hk (by rw [hsz]; exact T.pos) hroom (by omega) hkb hfit
 have hge := grownCap_ge w (i + k) cap e
 have hmx := grownCap_le_maxLen w (i + k) cap e (by unfold maxLen; omega)
 have hmx' : grownCap w (i + k) cap e ≤ 9223372036854775807 := by unfold maxLen at hmx; omega
 have hzl : ∀ q, (Builtin.zeroCells z.cells q).size = q * sz := fun q => by simp [Builtin.zeroCells, T.hz]
 refine ⟨_, _, (Builtin.zeroCells z.cells k).toList, by simpa using hzl k, hge, hmx', h, ⟨?_, .inr ⟨w.heap.size, _, _, rfl, Nat.le_refl _, heap_alloc_new w.drew _, hge, hmx, ?_, ?_⟩⟩, ?_⟩
 ·
  rw [List.length_append, htl]
  simp only [Array.length_toList, hzl]
  rw [Nat.add_mul]
 ·
  simp only [Array.size_append, hzl, List.size_toArray, htl]
  rw [← Nat.add_mul, ← Nat.add_mul]
  congr 1
  omega
 ·
  have e1 : (cs.take (i * sz)).length + (Builtin.zeroCells z.cells k).toList.length = (i + k) * sz := by
   rw [htl]; simp only [Array.length_toList, hzl]; rw [Nat.add_mul]
  simp only [Array.toList_append]
  exact List.take_left' (by rw [List.length_append]; exact e1)
 · exact ((Below.refl w.heap.size w).drew).alloc (Nat.le_refl _) _
end Go.Proofs.Ytmafnjidhjabgaa
namespace Go.Proofs.Ytmafnjidhjabgaa.Fr
namespace CrcM
def poly : BitVec 32 := 0x82f63b78#32
def bs (x : BitVec 32) : BitVec 32 := (x >>> 1) ^^^ (poly * (x &&& 1#32))
def bsn : Nat → BitVec 32 → BitVec 32
 | 0, x => x
 | n + 1, x => bsn n (bs x)
def tbl (j : Nat) : BitVec 32 := bsn 4 (BitVec.ofNat 32 j)
def nib (r h : BitVec 32) : BitVec 32 := (r >>> 4) ^^^ tbl ((r ^^^ h).toNat % 16)
def lo (b : UInt8) : BitVec 32 := BitVec.ofNat 32 (b.toNat % 16)
def hi (b : UInt8) : BitVec 32 := BitVec.ofNat 32 (b.toNat / 16)
def nibs (l : List UInt8) : List (BitVec 32) := l.flatMap fun b => [lo b, hi b]
def run (r : BitVec 32) (l : List UInt8) : BitVec 32 := (nibs l).foldl nib r
def ext (s : BitVec 32) (l : List UInt8) : BitVec 32 := ~~~ run (~~~ s) l
def sum (l : List UInt8) : BitVec 32 := ext 0#32 l
theorem nibs_append (a b : List UInt8) : nibs (a ++ b) = nibs a ++ nibs b := by simp [nibs]
theorem run_append (r : BitVec 32) (a b : List UInt8) : run r (a ++ b) = run (run r a) b := by simp [run, nibs_append]
theorem run_nil (r : BitVec 32) : run r [] = r := rfl
theorem run_cons (r : BitVec 32) (b : UInt8) (l : List UInt8) : run r (b :: l) = run (nib (nib r (lo b)) (hi b)) l := by
 simp [run, nibs]
theorem bsn_add (n m : Nat) (x : BitVec 32) : bsn (n + m) x = bsn m (bsn n x) := by
 induction n generalizing x with
 | zero => simp [bsn]
 | succ n ih => rw [Nat.succ_add]; simp only [bsn]; exact ih _
def low (x : BitVec 32) (k : Nat) : BitVec 32 := BitVec.ofNat 32 (x.toNat % 2 ^ k)
end CrcM
end Go.Proofs.Ytmafnjidhjabgaa.Fr
namespace Go.Proofs.Ytmafnjidhjabgaa.Fr
open Go.RowKit
namespace CrcM
def tv (j : Nat) : Int := ((tbl j).toNat : Int)
def tk (k j : Nat) : Int := if j < k then tv j else 0
theorem tk_zero (j : Nat) : tk 0 j = 0 := by simp [tk]
theorem tk_full (j : Nat) (h : j < 16) : tk 16 j = tv j := by simp [tk, h]
theorem tk_same (k : Nat) : tk (k + 1) k = tv k := by simp [tk]
theorem tk_other (k j : Nat) (h : j ≠ k) : tk (k + 1) j = tk k j := by
 unfold tk
 by_cases h1 : j < k
 · rw [if_pos h1, if_pos (by omega)]
 · rw [if_neg h1, if_neg (by omega)]
theorem bs_walk (x : BitVec 32) : bits BinOp.xor IntKind.u32 ((x.toNat : Int) / 2) (2197175160 * bits BinOp.and IntKind.u32 (x.toNat : Int) 1 % 4294967296) = ((bs x).toNat : Int) := by
 have hx := x.isLt
 have h1 : bits BinOp.and IntKind.u32 (x.toNat : Int) 1 = ((x.toNat &&& 1 : Nat) : Int) := u32_and_nat x.toNat 1 hx (by omega)
 rw [h1]
 have h2 : (2197175160 * ((x.toNat &&& 1 : Nat) : Int) % 4294967296) = ((2197175160 * (x.toNat &&& 1) % 4294967296 : Nat) : Int) := by omega
 have h3 : ((x.toNat : Int) / 2) = ((x.toNat / 2 : Nat) : Int) := by omega
 rw [h2, h3, u32_xor_nat _ _ (by omega) (by omega)]
 congr 1
end CrcM
open CrcM
theorem bsn_step (l : Nat) (y : BitVec 32) : bs (bsn l y) = bsn (l + 1) y := by rw [bsn_add l 1]; rfl
def tblV : Value := .agg #[.int .u32 (tv 0), .int .u32 (tv 1), .int .u32 (tv 2), .int .u32 (tv 3), .int .u32 (tv 4), .int .u32 (tv 5), .int .u32 (tv 6), .int .u32 (tv 7), .int .u32 (tv 8), .int .u32 (tv 9), .int .u32 (tv 10), .int .u32 (tv 11), .int .u32 (tv 12), .int .u32 (tv 13), .int .u32 (tv 14), .int .u32 (tv 15)]
structure HalfRel (w wr : World) (k : Nat) : Prop where
 t : ∀ j, j < 16 → wr.cell? ⟨w.heap.size + 1, j, none⟩ = some (.int .u32 (tk k j))
 r : ∀ j, j < 16 → wr.cell? ⟨w.heap.size, j, none⟩ = some (.int .u32 0)
 ft : ∀ j, wr.frozen? ⟨w.heap.size + 1, j, none⟩ = false
 fr : ∀ j, wr.frozen? ⟨w.heap.size, j, none⟩ = false
 b : Below w.heap.size w wr
theorem half_start (w : World) (t : TypeId) : HalfRel w ((w.alloc (.cells #[.int .u32 0, .int .u32 0, .int .u32 0, .int .u32 0, .int .u32 0, .int .u32 0, .int .u32 0, .int .u32 0, .int .u32 0, .int .u32 0, .int .u32 0, .int .u32 0, .int .u32 0, .int .u32 0, .int .u32 0, .int .u32 0] t)).alloc (.cells #[.int .u32 0, .int .u32 0, .int .u32 0, .int .u32 0, .int .u32 0, .int .u32 0, .int .u32 0, .int .u32 0, .int .u32 0, .int .u32 0, .int .u32 0, .int .u32 0, .int .u32 0, .int .u32 0, .int .u32 0, .int .u32 0] t)) 0 := by
 have z : ∀ j, j < 16 → (#[Value.int .u32 0, .int .u32 0, .int .u32 0, .int .u32 0, .int .u32 0, .int .u32 0, .int .u32 0, .int .u32 0, .int .u32 0, .int .u32 0, .int .u32 0, .int .u32 0, .int .u32 0, .int .u32 0, .int .u32 0, .int .u32 0] : Array Value)[j]? = some (.int .u32 0) := by
  intro j hj
  have : j = 0 ∨ j = 1 ∨ j = 2 ∨ j = 3 ∨ j = 4 ∨ j = 5 ∨ j = 6 ∨ j = 7 ∨ j = 8 ∨ j = 9 ∨ j = 10 ∨ j = 11 ∨ j = 12 ∨ j = 13 ∨ j = 14 ∨ j = 15 := by omega
  rcases this with rfl | rfl | rfl | rfl | rfl | rfl | rfl | rfl | rfl | rfl | rfl | rfl | rfl | rfl | rfl | rfl <;> rfl
 refine ⟨fun j hj => ?_, fun j hj => ?_, fun j => ?_, fun j => ?_, ?_⟩
 · rw [World.cell?_alloc_at _ _ _ _ (by simp), z j hj, tk_zero]
 · rw [World.cell?_alloc_past _ _ _ (by simp), World.cell?_alloc_at _ _ _ _ rfl, z j hj]
 · rw [World.frozen?_alloc_at _ _ _ _ (by simp)]
 · rw [World.frozen?_alloc_past _ _ _ (by simp), World.frozen?_alloc_at _ _ _ _ rfl]
 · exact ((Below.refl _ _).alloc (Nat.le_refl _) _).alloc (by simp) _
theorem half_store {w wr : World} {k : Nat} (h : HalfRel w wr k) (hk : k < 16) : HalfRel w (wr.setCell ⟨w.heap.size + 1, k, none⟩ (.int .u32 (tv k))) (k + 1) := by
 refine ⟨fun j hj => ?_, fun j hj => ?_, fun j => ?_, fun j => ?_, h.b.setCell (by simp) _⟩
 ·
  by_cases e : j = k
  · subst e; rw [cell_set_same _ (h.t j hj), tk_same]
  · rw [cell_set_off _ e, h.t j hj, tk_other k j e]
 · rw [cell_set_block _ (by omega), h.r j hj]
 · rw [frozen_set, h.ft]
 · rw [frozen_set, h.fr]
set_option maxHeartbeats 800000 in
theorem half_calls (w : World) :
  Calls Try.prog 102 #[] w fun e w' => e = .returned tblV ∧ Below w.heap.size w w' := by
 go_enter Try.func102, Try.ntmps102
 go_wp2
 go_loopw [2, 3, 4, 9] (fun _ _ i _ wr => ∃ k : Nat, k ≤ 16 ∧ i = .int .i64 k ∧ HalfRel w wr k) (fun _ _ i _ _ => 16 - (intOf i).toNat)
 case atStart => exact ⟨0, by omega, rfl, half_start w _⟩
 case round =>
  obtain ⟨k, hk, rfl, hr⟩ := hrel
  have hc := hr.t
  have hc0 := hr.r
  have hf := hr.ft
  have hf0 := hr.fr
  have hB := Lib.hid hr.b
  by_cases hlt : k < 16
  ·
   have HR := Lib.hid hr
   clear hr
   go_wp2
   go_loopw [3, 9] (fun r j wq => ∃ (l : Nat), l ≤ 4 ∧ j = .int .i64 l ∧ r = .int .u32 ((bsn l (BitVec.ofNat 32 k)).toNat) ∧ wq = wr) (fun _ j _ => 4 - (intOf j).toNat)
   case atStart => exact ⟨0, by omega, rfl, by simp [bsn]; omega, rfl⟩
   case round =>
    obtain ⟨l, hl, rfl, rfl, rfl⟩ := hrel
    have hx := (bsn l (BitVec.ofNat 32 k)).isLt
    by_cases hll : l < 4
    ·
     go_wp2
     go_roundw
     case rel => exact ⟨l + 1, by omega, by go_num, by rw [bs_walk, bsn_step], trivial⟩
     case measure => simp [intOf]; omega
    ·
     obtain rfl : l = 4 := by omega
     go_wp2
     go_roundw
     case rel => exact ⟨k + 1, by omega, by go_num, half_store HR.out hlt⟩
     case measure => simp [intOf]; omega
  ·
   obtain rfl : k = 16 := by omega
   have hc' : ∀ j, j < 16 → wr.cell? ⟨w.heap.size + 1, j, none⟩ = some (.int .u32 (tv j)) := fun j hj => by rw [hc j hj, tk_full j hj]
   clear hc hr
   go_wp2
   refine bodyPost_ret (v := tblV) ?_ rfl ⟨rfl, ?_⟩
   · simp [results, Try.results102, go_sem, hc0, tblV]
   · exact (((((((((((((((((hB.out).setCell (by simp) _).setCell (by simp) _).setCell (by simp) _).setCell (by simp) _).setCell (by simp) _).setCell (by simp) _).setCell (by simp) _).setCell (by simp) _).setCell (by simp) _).setCell (by simp) _).setCell (by simp) _).setCell (by simp) _).setCell (by simp) _).setCell (by simp) _).setCell (by simp) _).setCell (by simp) _)
end Go.Proofs.Ytmafnjidhjabgaa.Fr
namespace Go.Proofs.Ytmafnjidhjabgaa.Fr
open Go.RowKit Go.Shelf CrcM
attribute [local go_sem] Oper.semAt_some
def HStep (xs : List UInt8) (s : Nat) (args : Array Value) (s' : Nat) (_ : World) : Prop :=
 (∃ j, j < xs.length ∧ s = 2 * j ∧ args = #[.int .u32 (bt xs j % 16)] ∧ s' = 2 * j + 1) ∨
 (∃ j, j < xs.length ∧ s = 2 * j + 1 ∧ args = #[.int .u32 (bt xs j / 16)] ∧ s' = 2 * j + 1 + 1)
set_option maxHeartbeats 800000 in
set_option maxRecDepth 100000 in
theorem halves1_iter (xs : List UInt8) (v : Value) (b0 l : Nat) (J : Nat → World → Prop) (Jx : World → Prop) (w : World)
  (hb0 : w.cell? ⟨b0, 0, none⟩ = some v)
  (hv : ∀ s W, J s W → Bytes W v xs)
  (hy : ∀ s args s' W, J s W → HStep xs s args s' W → YieldAt Fence.wide 0 Try.prog l args W fun e W' => (e = .returned (.bool true) ∧ J s' W') ∨ (e = .returned (.bool false) ∧ Jx W'))
  (h0 : J 0 w) :
  CallsIn Fence.wide 0 Try.prog 106 #[.func (.yield l) #[] #[], .pointer (some ⟨b0, 0, none⟩)] w fun e W' => (∃ v, e = .returned v) ∧ ((∃ s, s = 2 * xs.length ∧ J s W') ∨ Jx W') := by
 obtain ⟨a, cap, rfl, hl, hcap, -⟩ := hv 0 w h0
 have HV := Lib.hid hv
 have HY := Lib.hid hy
 have H0 := Lib.hid h0
 clear hv hy h0
 refine callsIn_of_wp Try.func106 rfl trivial ?_
 simp only [Try.ntmps106, List.size_toArray, List.length_cons, List.length_nil, Nat.reduceAdd, Nat.reduceSub, Array.replicate_succ, Array.replicate_zero, List.push_toArray, List.append_toArray, List.nil_append, List.cons_append]
 gi_wp2
 gi_loopw [4, 7] (fun _ i wr => ∃ k : Nat, k ≤ xs.length ∧ i = .int .i64 k ∧ J (2 * k) wr) (fun _ i _ => xs.length - (intOf i).toNat)
 case atStart => exact ⟨0, by omega, rfl, H0.out⟩
 case round =>
  obtain ⟨k, hk, rfl, hj⟩ := hrel
  by_cases hlt : k < xs.length
  ·
   obtain ⟨a', cap', hv', -, -, hcc⟩ := HV.out _ _ hj
   simp only [Value.slice.injEq] at hv'
   obtain ⟨rfl, -, rfl⟩ := hv'
   rcases hcc with rfl | ⟨b, off, rfl, hc⟩
   · omega
   have hck := hc k hlt
   have h1 := bt_lo xs k
   have h2 := bt_hi xs k
   obtain ⟨fn, tmps, assign, body, hyy, hR⟩ := HY.out _ _ _ _ hj (.inl ⟨k, hlt, rfl, rfl, rfl⟩)
   clear hc hj
   gi_wp2
   refine hR.mono ?_
   clear hR hyy
   rintro e W' (⟨rfl, hj1⟩ | ⟨rfl, hjx⟩)
   ·
    obtain ⟨fn, tmps, assign, body, hyy, hR⟩ := HY.out _ _ _ _ hj1 (.inr ⟨k, hlt, rfl, rfl, rfl⟩)
    clear hj1
    gi_wp2
    refine hR.mono ?_
    clear hR hyy
    rintro e W'' (⟨rfl, hj2⟩ | ⟨rfl, hjx⟩)
    ·
     gi_wp2
     go_roundw
     case rel => exact ⟨k + 1, by omega, by go_num, hj2⟩
     case measure => simp [intOf]; omega
    ·
     gi_wp2
     refine bodyPost_ret (results_none rfl _ _ _) rfl ?_
     exact ⟨⟨_, rfl⟩, .inr hjx⟩
   ·
    gi_wp2
    refine bodyPost_ret (results_none rfl _ _ _) rfl ?_
    exact ⟨⟨_, rfl⟩, .inr hjx⟩
  ·
   obtain rfl : k = xs.length := by omega
   gi_wp2
   go_end0
   exact ⟨⟨_, rfl⟩, .inl ⟨_, rfl, hj⟩⟩
def nibAt (xs : List UInt8) (s : Nat) : BitVec 32 := if s % 2 = 0 then lo (xs.getD (s / 2) 0) else hi (xs.getD (s / 2) 0)
def runTo (r : BitVec 32) (xs : List UInt8) : Nat → BitVec 32
 | 0 => r
 | s + 1 => nib (runTo r xs s) (nibAt xs s)
theorem runTo_even (r : BitVec 32) (xs : List UInt8) (k : Nat) (hk : k ≤ xs.length) : runTo r xs (2 * k) = run r (xs.take k) := by
 induction k with
 | zero => simp [runTo, run_nil]
 | succ k ih =>
  have hlt : k < xs.length := by omega
  rw [List.take_succ_eq_append_getElem hlt, run_append, ← ih (by omega), show 2 * (k + 1) = 2 * k + 1 + 1 by omega]
  simp only [runTo, nibAt]
  rw [if_pos (by omega), if_neg (by omega), show (2 * k + 1) / 2 = k by omega, show 2 * k / 2 = k by omega]
  rw [List.getD_eq_getElem?_getD, List.getElem?_eq_getElem hlt, run_cons, run_nil]; rfl
theorem runTo_all (r : BitVec 32) (xs : List UInt8) : runTo r xs (2 * xs.length) = run r xs := by
 rw [runTo_even r xs _ (Nat.le_refl _), List.take_length]
theorem nib_walk (r : BitVec 32) (h : BitVec 32) :
  bits BinOp.xor IntKind.u32 ((r.toNat : Int) / 16) (tv (bits BinOp.and IntKind.u32 (bits BinOp.xor IntKind.u32 (r.toNat : Int) (h.toNat : Int)) 15).toNat) = ((nib r h).toNat : Int) := by
 have hr := r.isLt
 have h2 := h.isLt
 have hx : bits BinOp.xor IntKind.u32 (r.toNat : Int) (h.toNat : Int) = ((r ^^^ h).toNat : Int) := by rw [u32_xor_nat _ _ hr h2]; simp
 have ha : bits BinOp.and IntKind.u32 ((r ^^^ h).toNat : Int) 15 = (((r ^^^ h).toNat % 16 : Nat) : Int) := by
  have := u32_and_nat (r ^^^ h).toNat 15 (r ^^^ h).isLt (by omega)
  rw [nat_mask4] at this; exact this
 rw [hx, ha, Int.toNat_natCast]
 unfold tv
 have h3 : ((r.toNat : Int) / 16) = ((r.toNat / 16 : Nat) : Int) := by omega
 rw [h3, u32_xor_nat _ _ (by omega) (BitVec.isLt _)]
 unfold nib
 simp [Nat.shiftRight_eq_div_pow]
theorem nib_ix (r : BitVec 32) (h : BitVec 32) : 0 ≤ bits BinOp.and IntKind.u32 (bits BinOp.xor IntKind.u32 (r.toNat : Int) (h.toNat : Int)) 15 ∧ bits BinOp.and IntKind.u32 (bits BinOp.xor IntKind.u32 (r.toNat : Int) (h.toNat : Int)) 15 < 16 := by
 have hx : bits BinOp.xor IntKind.u32 (r.toNat : Int) (h.toNat : Int) = ((r ^^^ h).toNat : Int) := by rw [u32_xor_nat _ _ r.isLt h.isLt]; simp
 have ha : bits BinOp.and IntKind.u32 ((r ^^^ h).toNat : Int) 15 = (((r ^^^ h).toNat % 16 : Nat) : Int) := by
  have := u32_and_nat (r ^^^ h).toNat 15 (r ^^^ h).isLt (by omega)
  rw [nat_mask4] at this; exact this
 rw [hx, ha]; omega
theorem nibAt_lo (xs : List UInt8) (j : Nat) : bt xs j % 16 = ((nibAt xs (2 * j)).toNat : Int) := by
 unfold nibAt bt
 rw [if_pos (by omega), show 2 * j / 2 = j by omega]
 generalize xs.getD j 0 = b
 unfold lo
 have := b.toNat_lt
 simp; omega
theorem nibAt_hi (xs : List UInt8) (j : Nat) : bt xs j / 16 = ((nibAt xs (2 * j + 1)).toNat : Int) := by
 unfold nibAt bt
 rw [if_neg (by omega), show (2 * j + 1) / 2 = j by omega]
 generalize xs.getD j 0 = b
 unfold hi
 have := b.toNat_lt
 simp; omega
theorem HStep.at {xs : List UInt8} {s : Nat} {args : Array Value} {s' : Nat} {W : World} (h : HStep xs s args s' W) : args = #[.int .u32 ((nibAt xs s).toNat)] ∧ s' = s + 1 := by
 rcases h with ⟨j, -, rfl, rfl, rfl⟩ | ⟨j, -, rfl, rfl, rfl⟩
 · exact ⟨by rw [nibAt_lo], rfl⟩
 · exact ⟨by rw [nibAt_hi], rfl⟩
structure ExtRel (w : World) (xs : List UInt8) (r0 : BitVec 32) (s : Nat) (t r : Nat) (W : World) : Prop where
 tc : ∀ j, j < 16 → W.cell? ⟨t, j, none⟩ = some (.int .u32 (tv j))
 rc : W.cell? ⟨r, 0, none⟩ = some (.int .u32 ((runTo r0 xs s).toNat))
 rf : W.frozen? ⟨r, 0, none⟩ = false
 b : Below w.heap.size w W
theorem ExtRel.calm {w : World} {xs : List UInt8} {r0 : BitVec 32} {s t r B : Nat} {W W' : World} (hB : w.heap.size ≤ B) (hc : Calm B W W') (h : ExtRel w xs r0 s t r W) : ExtRel w xs r0 s t r W' :=
 ⟨fun j hj => hc.cell (h.tc j hj), hc.cell h.rc, (hc.frozen h.rc).trans h.rf, h.b.trans (hc.below.mono hB)⟩
theorem halves_calls (a : Option Addr) (n c : Nat) (w : World) : CallsIn Fence.wide 0 Try.prog 103 #[.slice a n c] w fun e w' => e = .returned (.func (.func 106) #[] #[.pointer (some ⟨w.heap.size, 0, none⟩)]) ∧ w' = w.alloc (.cells #[.slice a n c] 46) := by
 refine callsIn_of_wp Try.func103 rfl trivial ?_
 simp only [Try.ntmps103, List.size_toArray, List.length_cons, List.length_nil, Nat.reduceAdd, Nat.reduceSub, Array.replicate_succ, Array.replicate_zero, List.push_toArray, List.append_toArray, List.nil_append, List.cons_append]
 gi_wp2
 go_ret
 exact ⟨rfl, rfl⟩
theorem not_walk (s : BitVec 32) : bits BinOp.xor IntKind.u32 IntKind.u32.max (s.toNat : Int) = ((~~~ s).toNat : Int) := by
 have h : (IntKind.u32.max : Int) = ((4294967295 : Nat) : Int) := rfl
 rw [h, u32_xor_nat _ _ (by omega) s.isLt]
 have h2 : (4294967295 : Nat) = (BitVec.allOnes 32).toNat := by decide
 rw [h2, ← BitVec.toNat_xor, BitVec.allOnes_xor]
theorem tbl_cells (w : World) (t : TypeId) : ∀ j, j < 16 → (w.alloc (.cells #[.int .u32 (tv 0), .int .u32 (tv 1), .int .u32 (tv 2), .int .u32 (tv 3), .int .u32 (tv 4), .int .u32 (tv 5), .int .u32 (tv 6), .int .u32 (tv 7), .int .u32 (tv 8), .int .u32 (tv 9), .int .u32 (tv 10), .int .u32 (tv 11), .int .u32 (tv 12), .int .u32 (tv 13), .int .u32 (tv 14), .int .u32 (tv 15)] t)).cell? ⟨w.heap.size, j, none⟩ = some (.int .u32 (tv j)) := by
 intro j hj
 rw [World.cell?_alloc_at _ _ _ _ rfl]
 have : j = 0 ∨ j = 1 ∨ j = 2 ∨ j = 3 ∨ j = 4 ∨ j = 5 ∨ j = 6 ∨ j = 7 ∨ j = 8 ∨ j = 9 ∨ j = 10 ∨ j = 11 ∨ j = 12 ∨ j = 13 ∨ j = 14 ∨ j = 15 := by omega
 rcases this with rfl | rfl | rfl | rfl | rfl | rfl | rfl | rfl | rfl | rfl | rfl | rfl | rfl | rfl | rfl | rfl <;> rfl
theorem ExtRel.store {w : World} {xs : List UInt8} {r0 : BitVec 32} {s t : Nat} {W : World} (hB : w.heap.size ≤ t) (h : ExtRel w xs r0 s t (t + 1) W) : ExtRel w xs r0 (s + 1) t (t + 1) (W.setCell ⟨t + 1, 0, none⟩ (.int .u32 ((runTo r0 xs (s + 1)).toNat))).drew := by
 refine ⟨fun j hj => ?_, ?_, ?_, ?_⟩
 · rw [World.cell?_drew, cell_set_block _ (by omega), h.tc j hj]
 · rw [World.cell?_drew, cell_set_same _ h.rc]
 · rw [World.frozen?_drew, frozen_set, h.rf]
 · exact (h.b.setCell (by simp; omega) _).drew
attribute [local go_sem] tblV
set_option maxHeartbeats 1000000 in
set_option maxRecDepth 100000 in
theorem extend_calls (s : BitVec 32) (v : Value) (xs : List UInt8) (w : World) (hv : Bytes w v xs) :
  Calls Try.prog 93 #[.int .u32 (s.toNat), v] w fun e w' => e = .returned (.int .u32 ((ext s xs).toNat)) ∧ Below w.heap.size w w' := by
 have HV := Lib.hid hv
 obtain ⟨a, cap, rfl, hl, hcap, -⟩ := hv
 have hs := s.isLt
 have hnot := not_walk s
 obtain ⟨r0, hr0⟩ : ∃ r0, r0 = ~~~ s := ⟨_, rfl⟩
 have HR0 := Lib.hid hr0
 rw [← hr0] at hnot
 clear hr0
 refine (callsIn_wide (n := 0)).1 ?_
 refine callsIn_of_wp_marks Try.func93 rfl trivial ?_
 simp only [Try.ntmps93, List.size_toArray, List.length_cons, List.length_nil, Nat.reduceAdd, Nat.reduceSub, Array.replicate_succ, Array.replicate_zero, List.push_toArray, List.append_toArray, List.nil_append, List.cons_append]
 gi_wp2_with (first | (gi_at_call 102; refine (callsIn_wide.2 (half_calls _)).mono ?_; rintro e w1 ⟨rfl, hb1⟩) | (gi_at_call 103; refine (halves_calls _ _ _ _).mono ?_; rintro e w1 ⟨rfl, rfl⟩))
 have ht := tbl_cells w1 169
 generalize hX : w1.alloc (.cells #[.int .u32 (tv 0), .int .u32 (tv 1), .int .u32 (tv 2), .int .u32 (tv 3), .int .u32 (tv 4), .int .u32 (tv 5), .int .u32 (tv 6), .int .u32 (tv 7), .int .u32 (tv 8), .int .u32 (tv 9), .int .u32 (tv 10), .int .u32 (tv 11), .int .u32 (tv 12), .int .u32 (tv 13), .int .u32 (tv 14), .int .u32 (tv 15)] 169) = X at ht ⊢
 have hXs : X.heap.size = w1.heap.size + 1 := by rw [← hX]; simp
 have hXb : Below w.heap.size w X := by rw [← hX]; exact hb1.alloc hb1.size _
 have hsz := hb1.size
 have hrel0 : ExtRel w xs r0 0 w1.heap.size (w1.heap.size + 1) ((X.alloc (.cells #[.int .u32 r0.toNat] 140)).alloc (.cells #[.slice a xs.length cap] 46)) := by
  refine ⟨fun j hj => ?_, ?_, ?_, (hXb.alloc (by omega) _).alloc (by simp; omega) _⟩
  · rw [World.cell?_alloc_past _ _ _ (by simp; omega), World.cell?_alloc_past _ _ _ (by omega), ht j hj]
  · rw [World.cell?_alloc_past _ _ _ (by simp; omega), World.cell?_alloc_at _ _ _ _ (by omega)]; rfl
  · rw [World.frozen?_alloc_past _ _ _ (by simp; omega), World.frozen?_alloc_at _ _ _ _ (by omega)]
 have hbox : ((X.alloc (.cells #[.int .u32 r0.toNat] 140)).alloc (.cells #[.slice a xs.length cap] 46)).cell? ⟨w1.heap.size + 1 + 1, 0, none⟩ = some (.slice a xs.length cap) := by
  rw [World.cell?_alloc_at _ _ _ _ (by simp; omega)]; rfl
 have hYs : ((X.alloc (.cells #[.int .u32 r0.toNat] 140)).alloc (.cells #[.slice a xs.length cap] 46)).heap.size = w1.heap.size + 3 := by simp; omega
 generalize hY : (X.alloc (.cells #[.int .u32 r0.toNat] 140)).alloc (.cells #[.slice a xs.length cap] 46) = Y at *
 clear hX hY hXb ht hb1 hXs
 generalize w1.heap.size = t at *
 refine range_w (gf := 106) (lb := #[.pointer (some ⟨t + 1 + 1, 0, none⟩)]) rfl (enters_of Try.func106 (by kernel_rfl) rfl)
  (fun st W => ExtRel w xs r0 st t (t + 1) W) (fun _ _ => False) (HStep xs) (fun st => st = 2 * xs.length) 0
  (fun st W W' hc h => h.calm (by omega) hc) (fun _ _ _ _ h => h) hrel0 ?iter ?body ?done (fun _ _ _ _ h => h.elim)
 case iter =>
  intro l J' Jx' W _ _ hJJ hc hJ0 hy
  exact halves1_iter xs (.slice a xs.length cap) (t + 1 + 1) l J' Jx' W (hc.cell hbox) (fun s' W' h => HV.out.below (hJJ _ _ h).b (Nat.le_refl _)) hy hJ0
 case body =>
  intro l st args st' W hr hst hsz
  obtain ⟨rfl, rfl⟩ := hst.at
  refine ⟨rfl, ?_⟩
  gi_wp2
  refine ⟨KeepsOthers.refl _, fun W₂ hc => ?_⟩
  have hr2 := hr.calm (by omega) hc
  clear hr hrel0 hbox HV
  have hstep : runTo r0 xs (st + 1) = nib (runTo r0 xs st) (nibAt xs st) := rfl
  have HS := Lib.hid hstep
  have HR2 := Lib.hid hr2
  have hrc := hr2.rc
  have htc := hr2.tc
  have hrf := hr2.rf
  generalize hRR : runTo r0 xs st = R at *
  generalize nibAt xs st = H at *
  have HRR := Lib.hid hRR
  clear hstep hr2 hRR hc hst
  have hR1 := R.isLt
  have hH1 := H.isLt
  obtain ⟨hi1, hi2⟩ := nib_ix R H
  have hck := htc _ (show (bits BinOp.and IntKind.u32 (bits BinOp.xor IntKind.u32 (R.toNat : Int) (H.toNat : Int)) 15).toNat < 16 by omega)
  clear htc
  gi_wp2
  refine region_mi [(0, false), (1, false), (2, false), (3, false), (4, false), (5, false), (6, false), (7, false), (8, false)] 9
   (fun W => W.cell? ⟨t + 1, 0, none⟩ = some (.int .u32 R.toNat) ∧ W.cell? ⟨t, (bits BinOp.and IntKind.u32 (bits BinOp.xor IntKind.u32 (R.toNat : Int) (H.toNat : Int)) 15).toNat, none⟩ = some (.int .u32 (tv (bits BinOp.and IntKind.u32 (bits BinOp.xor IntKind.u32 (R.toNat : Int) (H.toNat : Int)) 15).toNat)))
   (by kernel_rfl) (by kernel_rfl) ⟨hrc, hck⟩ ?_
  iterate 9
   refine m_take (v := ?_) rfl rfl ?_ ?_
   rotate_left
   ·
    intro W hW
    go_simp
    with_reducible rfl
   simp only [Act.put, List.setIfInBounds_toArray, List.set_cons_zero, List.set_cons_succ]
  refine m_done ?_
  simp only [List.drop_succ_cons, List.drop_zero]
  go_wp2
  simp only [NP]
  gi_wp2
  refine ⟨(KeepsOthers.setCell _ _ _).trans (KeepsOthers.drew _), ?_⟩
  have hn := nib_walk R H
  rw [hn, ← HS.out]
  exact HR2.out.store (by omega)
 case done =>
  rintro D st W hD rfl hr hK
  have hrc := hr.rc
  have hnot2 := not_walk (runTo r0 xs (2 * xs.length))
  have HB := Lib.hid hr.b
  clear hr
  gi_wp2
  refine ⟨by simp, .inl ⟨_, _, rfl, run_takeDeferred hK, ?_⟩⟩
  refine ⟨_, results_tmp rfl _ _ _, ?_, ?_⟩
  ·
   have e : (ext s xs) = ~~~ (runTo r0 xs (2 * xs.length)) := by rw [runTo_all, HR0.out]; rfl
   rw [e]
   simp
  · exact HB.out.trans (belowK_b (w := w) (Nat.le_refl _) W D _ _ (by omega) hK rfl rfl)
set_option maxHeartbeats 400000 in
theorem sum_calls (v : Value) (xs : List UInt8) (w : World) (hv : Bytes w v xs) :
  Calls Try.prog 73 #[v] w fun e w' => e = .returned (.int .u32 ((CrcM.sum xs).toNat)) ∧ Below w.heap.size w w' := by
 have h := extend_calls 0#32 v xs w hv
 have HC := Lib.hid h
 clear h hv
 go_enter Try.func73, Try.ntmps73
 go_wp2_with (go_at_call 93; refine HC.out.mono ?_; rintro e w1 ⟨rfl, hb⟩)
 go_ret
 exact ⟨rfl, hb⟩
end Go.Proofs.Ytmafnjidhjabgaa.Fr
namespace Go.Proofs.Ytmafnjidhjabgaa.Fr
namespace FrM
open CrcM
def le4 (n : Nat) : List UInt8 := [UInt8.ofNat n, UInt8.ofNat (n / 256), UInt8.ofNat (n / 65536), UInt8.ofNat (n / 16777216)]
theorem le4_length (n : Nat) : (le4 n).length = 4 := rfl
def num (xs : List UInt8) : Nat := (xs.getD 0 0).toNat + 256 * ((xs.getD 1 0).toNat + 256 * ((xs.getD 2 0).toNat + 256 * (xs.getD 3 0).toNat))
theorem num_lt (xs : List UInt8) : num xs < 4294967296 := by
 have h0 := (xs.getD 0 0).toNat_lt
 have h1 := (xs.getD 1 0).toNat_lt
 have h2 := (xs.getD 2 0).toNat_lt
 have h3 := (xs.getD 3 0).toNat_lt
 unfold num
 omega
def frameOf (p : List UInt8) : List UInt8 := le4 p.length ++ le4 (sum (le4 p.length)).toNat ++ p ++ le4 (sum p).toNat
theorem frameOf_length (p : List UInt8) : (frameOf p).length = 12 + p.length := by simp [frameOf, le4_length]; omega
def next (xs : List UInt8) (at_ : Int) : List UInt8 × Int × Int :=
 if at_ < 0 ∨ (xs.length : Int) < at_ then ([], 0, 1)
 else
  let b := xs.drop at_.toNat
  if b.length < 8 then ([], 0, 5)
  else if (sum (b.take 4)).toNat ≠ num (b.drop 4) then ([], 0, 4)
  else if 65536 < num b then ([], 0, 2)
  else if b.length < 12 + num b then ([], 0, 5)
  else if (sum ((b.drop 8).take (num b))).toNat ≠ num (b.drop (8 + num b)) then ([], 0, 4)
  else ((b.drop 8).take (num b), at_ + 12 + num b, 0)
theorem next_good (xs : List UInt8) (m : Nat) (h : (next xs m).2.2 = 0) :
  (next xs m).2.1 = m + 12 + (next xs m).1.length ∧ m + 12 + (next xs m).1.length ≤ xs.length ∧ (next xs m).1.length ≤ 65536 := by
 unfold next at h ⊢
 split at h
 · simp at h
 rename_i h0
 rw [if_neg h0]
 dsimp only at h ⊢
 split at h
 · simp at h
 rename_i h1
 rw [if_neg h1]
 split at h
 · simp at h
 rename_i h2
 rw [if_neg h2]
 split at h
 · simp at h
 rename_i h3
 rw [if_neg h3]
 split at h
 · simp at h
 rename_i h4
 rw [if_neg h4]
 split at h
 · simp at h
 rename_i h5
 rw [if_neg h5]
 simp only [Int.toNat_natCast, List.length_drop] at *
 have : ((xs.drop (8 + m)).take (num (xs.drop m))).length = num (xs.drop m) := by simp; omega
 simp only [List.drop_drop, List.length_take, List.length_drop] at *
 omega
def pos (xs : List UInt8) : Nat → Nat
 | 0 => 0
 | k + 1 => pos xs k + 12 + (next xs (pos xs k)).1.length
theorem pos_le (xs : List UInt8) (k : Nat) (h : ∀ j, j < k → (next xs (pos xs j)).2.2 = 0) : 12 * k ≤ pos xs k ∧ pos xs k ≤ xs.length := by
 induction k with
 | zero => simp [pos]
 | succ k ih =>
  have h1 := ih (fun j hj => h j (by omega))
  have h2 := (next_good xs _ (h k (by omega))).2.1
  simp only [pos]
  omega
end FrM
end Go.Proofs.Ytmafnjidhjabgaa.Fr
namespace Go.Proofs.Ytmafnjidhjabgaa.Fr
open Go.RowKit CrcM FrM
theorem four_calls (n : Nat) (hn : n < 4294967296) (w : World) :
  Calls Try.prog 100 #[.int .u32 n] w fun e w' => ∃ v, e = .returned v ∧ Mine w' w.heap.size v (le4 n) ∧ Below w.heap.size w w' := by
 go_enter Try.func100, Try.ntmps100
 go_wp2
 go_ret
 refine ⟨_, rfl, ?_, (Below.refl _ _).alloc (Nat.le_refl _) _⟩
 have e : bvs (le4 n) = [.int .u8 ((n : Int) % 256), .int .u8 ((n : Int) / 256 % 256), .int .u8 ((n : Int) / 65536 % 256), .int .u8 ((n : Int) / 16777216)] := by
  simp only [bvs, le4, byteV, List.map, UInt8.toNat_ofNat']
  have e4 : (n : Int) / 16777216 = ((n / 16777216 % 256 : Nat) : Int) := by omega
  rw [e4]
  rfl
 exact Mine.lit w _ 4 _ _ (Nat.le_refl _) (by omega) rfl e
theorem or4 (q0 q1 q2 q3 : Int) (l0 : 0 ≤ q0) (h0 : q0 < 256) (l1 : 0 ≤ q1) (h1 : q1 < 256) (l2 : 0 ≤ q2) (h2 : q2 < 256) (l3 : 0 ≤ q3) (h3 : q3 < 256) :
  bits BinOp.or IntKind.u32 (bits BinOp.or IntKind.u32 (bits BinOp.or IntKind.u32 (IntKind.u32.wrap q0) (IntKind.u32.wrap (IntKind.u32.wrap q1 * 256))) (IntKind.u32.wrap (IntKind.u32.wrap q2 * 65536))) (IntKind.u32.wrap (IntKind.u32.wrap q3 * 16777216))
   = q0 + 256 * (q1 + 256 * (q2 + 256 * q3)) := by
 have wr : ∀ n : Int, 0 ≤ n → n < 4294967296 → IntKind.u32.wrap n = n := by
  intro n h h'
  simp [IntKind.wrap, IntKind.bits, IntKind.signed]
  omega
 rw [wr q0 (by omega) (by omega), wr q1 (by omega) (by omega), wr q2 (by omega) (by omega), wr q3 (by omega) (by omega), wr _ (by omega) (by omega), wr _ (by omega) (by omega), wr _ (by omega) (by omega)]
 obtain ⟨a, rfl⟩ := Int.eq_ofNat_of_zero_le l0
 obtain ⟨b, rfl⟩ := Int.eq_ofNat_of_zero_le l1
 obtain ⟨c, rfl⟩ := Int.eq_ofNat_of_zero_le l2
 obtain ⟨d, rfl⟩ := Int.eq_ofNat_of_zero_le l3
 have e1 : (a ||| b * 256) = a + b * 256 := by
  have := Nat.two_pow_add_eq_or_of_lt (i := 8) (b := a) (by omega) b
  rw [Nat.or_comm, Nat.mul_comm b, show (256 : Nat) = 2 ^ 8 from rfl, ← this]; omega
 have e2 : ((a + b * 256) ||| c * 65536) = a + b * 256 + c * 65536 := by
  have := Nat.two_pow_add_eq_or_of_lt (i := 16) (b := a + b * 256) (by omega) c
  rw [Nat.or_comm, Nat.mul_comm c, show (65536 : Nat) = 2 ^ 16 from rfl, ← this]; omega
 have e3 : ((a + b * 256 + c * 65536) ||| d * 16777216) = a + b * 256 + c * 65536 + d * 16777216 := by
  have := Nat.two_pow_add_eq_or_of_lt (i := 24) (b := a + b * 256 + c * 65536) (by omega) d
  rw [Nat.or_comm, Nat.mul_comm d, show (16777216 : Nat) = 2 ^ 24 from rfl, ← this]; omega
 have f1 : ((b : Int) * 256) = ((b * 256 : Nat) : Int) := by omega
 have f2 : ((c : Int) * 65536) = ((c * 65536 : Nat) : Int) := by omega
 have f3 : ((d : Int) * 16777216) = ((d * 16777216 : Nat) : Int) := by omega
 rw [f1, f2, f3, u32_or_nat _ _ (by omega) (by omega), e1, u32_or_nat _ _ (by omega) (by omega), e2, u32_or_nat _ _ (by omega) (by omega), e3]
 omega
set_option maxRecDepth 100000 in
theorem number_calls (v : Value) (xs : List UInt8) (w : World) (hv : Bytes w v xs) (hl : 4 ≤ xs.length) :
  Calls Try.prog 74 #[v] w fun e w' => e = .returned (.int .u32 (num xs)) ∧ Below w.heap.size w w' := by
 obtain ⟨a, cap, rfl, hlc, hcap, hc⟩ := hv
 rcases hc with rfl | ⟨b, o, rfl, hc⟩
 · omega
 have c0 := hc 0 (by omega)
 have c1 := hc 1 (by omega)
 have c2 := hc 2 (by omega)
 have c3 := hc 3 (by omega)
 clear hc
 have l0 := bt_lo xs 0
 have l1 := bt_lo xs 1
 have l2 := bt_lo xs 2
 have l3 := bt_lo xs 3
 have h0 := bt_hi xs 0
 have h1 := bt_hi xs 1
 have h2 := bt_hi xs 2
 have h3 := bt_hi xs 3
 have hnum : (num xs : Int) = bt xs 0 + 256 * (bt xs 1 + 256 * (bt xs 2 + 256 * bt xs 3)) := by
  unfold num bt
  omega
 rw [hnum]
 clear hnum
 generalize bt xs 0 = q0 at *
 generalize bt xs 1 = q1 at *
 generalize bt xs 2 = q2 at *
 generalize bt xs 3 = q3 at *
 have i0 : 0 < xs.length := by omega
 have i1 : (1 : Int) < xs.length := by omega
 have i2 : (2 : Int) < xs.length := by omega
 have i3 : (3 : Int) < xs.length := by omega
 go_enter Try.func74, Try.ntmps74
 go_wp2_with fail
 refine region_m [(0, false), (1, false), (2, false), (3, false), (4, false), (5, false), (6, false), (7, false), (8, false), (9, false), (10, false), (11, false), (12, false), (13, false), (14, false), (15, false), (16, false), (17, false), (18, false), (19, false), (20, false), (21, false)] 22
  (fun W => W.cell? ⟨b, o, none⟩ = some (.int .u8 q0) ∧ W.cell? ⟨b, o + 1, none⟩ = some (.int .u8 q1) ∧ W.cell? ⟨b, o + 2, none⟩ = some (.int .u8 q2) ∧ W.cell? ⟨b, o + 3, none⟩ = some (.int .u8 q3)) (by kernel_rfl) (by kernel_rfl) ⟨c0, c1, c2, c3⟩ ?_
 iterate 22
  refine m_take (v := ?_) rfl rfl ?_ ?_
  rotate_left
  ·
   intro W hW
   go_simp
   with_reducible rfl
  simp only [Act.put, List.setIfInBounds_toArray, List.set_cons_zero, List.set_cons_succ]
 refine m_done ?_
 simp only [List.drop_succ_cons, List.drop_zero]
 go_wp2
 simp only [NP]
 go_wp2
 go_ret
 refine ⟨?_, (Below.refl _ _).drew⟩
 rw [← or4 q0 q1 q2 q3 l0 h0 l1 h1 l2 h2 l3 h3]
 rfl
def PutOut (xs : List UInt8) (w w' : World) (r : Value) (c : Int) : Prop := if xs.length ≤ 65536 then Mine w' w.heap.size r (frameOf xs) ∧ c = 0 else r = .slice none 0 0 ∧ c = 2
theorem wrap_u32_id (n : Int) (h : 0 ≤ n) (h2 : n < 4294967296) : IntKind.u32.wrap n = n := by
 simp [IntKind.wrap, IntKind.bits, IntKind.signed]
 omega
set_option maxRecDepth 100000 in
theorem put_calls (v : Value) (xs : List UInt8) (w : World) (hv : Bytes w v xs) :
  Calls Try.prog 91 #[v] w fun e w' => ∃ r c, e = .returned (.tuple #[r, .int .i64 c]) ∧ PutOut xs w w' r c ∧ Below w.heap.size w w' := by
 have HV := Lib.hid hv
 obtain ⟨a, cap, rfl, hl, hcap, -⟩ := hv
 go_enter Try.func91, Try.ntmps91
 by_cases hbig : xs.length ≤ 65536
 ·
  have hi : ¬ (65536 : Int) < xs.length := by omega
  have hw : IntKind.u32.wrap (xs.length : Int) = xs.length := wrap_u32_id _ (by omega) (by omega)
  go_wp2_with fail
  refine (four_calls xs.length (by omega) _).mono ?_
  rintro e w1 ⟨v1, rfl, hm1, hb1⟩
  have HM1 := Lib.hid hm1
  have HB1 := Lib.hid hb1
  clear hm1 hb1
  go_wp2_with fail
  refine (sum_calls _ (le4 xs.length) _ HM1.out.bytes).mono ?_
  rintro e w2 ⟨rfl, hb2⟩
  have HM2 := Lib.hid (HM1.out.below hb2 (Nat.le_refl _))
  have HB2 := Lib.hid (HB1.out.trans (hb2.mono HB1.out.size))
  clear hb2
  go_wp2_with fail
  refine (four_calls (CrcM.sum (le4 xs.length)).toNat (CrcM.sum (le4 xs.length)).isLt _).mono ?_
  rintro e w3 ⟨v3, rfl, hm3, hb3⟩
  have HM3 := Lib.hid (HM2.out.below hb3 (Nat.le_refl _))
  have HB3 := Lib.hid (HB2.out.trans (hb3.mono HB2.out.size))
  have HX3 := Lib.hid hm3
  clear hm3 hb3
  go_wp2_with (first
   | (at_builtin; have _t := HM3; refine app_mine HM3.out HX3.out.bytes HB3.out HB3.out.size (by simp [le4_length]) rfl rfl rfl rfl ?_; intro v4 w4 hm4 hb4; have HM4 := Lib.hid hm4; have HB4 := Lib.hid hb4; clear HM3 hm4 hb4)
   | (at_builtin; have _t := HM4; refine app_mine HM4.out (HV.out.below HB4.out (Nat.le_refl _)) HB4.out HB4.out.size (by simp [le4_length]; omega) rfl rfl rfl rfl ?_; intro v5 w5 hm5 hb5; have HM5 := Lib.hid hm5; have HB5 := Lib.hid hb5; clear HM4 hm5 hb5)
   | fail)
  refine (sum_calls _ xs _ (HV.out.below HB5.out (Nat.le_refl _))).mono ?_
  rintro e w6 ⟨rfl, hb6⟩
  have HM6 := Lib.hid (HM5.out.below hb6 (Nat.le_refl _))
  have HB6 := Lib.hid (HB5.out.trans (hb6.mono HB5.out.size))
  clear hb6
  go_wp2_with fail
  refine (four_calls (CrcM.sum xs).toNat (CrcM.sum xs).isLt _).mono ?_
  rintro e w7 ⟨v7, rfl, hm7, hb7⟩
  have HM7 := Lib.hid (HM6.out.below hb7 (Nat.le_refl _))
  have HB7 := Lib.hid (HB6.out.trans (hb7.mono HB6.out.size))
  have HX7 := Lib.hid hm7
  clear hm7 hb7
  go_wp2_with (at_builtin; have _t := HM7; refine app_mine HM7.out HX7.out.bytes HB7.out HB7.out.size (by simp [le4_length]; omega) rfl rfl rfl rfl ?_; intro v8 w8 hm8 hb8; have HM8 := Lib.hid hm8; have HB8 := Lib.hid hb8; clear HM7 hm8 hb8)
  go_ret2
  refine ⟨_, _, rfl, ?_, HB8.out⟩
  unfold PutOut
  rw [if_pos hbig]
  exact ⟨HM8.out, rfl⟩
 ·
  have hi : (65536 : Int) < xs.length := by omega
  go_wp2_with fail
  go_ret2
  refine ⟨_, _, rfl, ?_, Below.refl _ _⟩
  unfold PutOut
  rw [if_neg hbig]
  exact ⟨rfl, rfl⟩
end Go.Proofs.Ytmafnjidhjabgaa.Fr
namespace Go.Proofs.Ytmafnjidhjabgaa.Fr
open Go.RowKit CrcM FrM
theorem wrap_i64_id (n : Int) (h : -9223372036854775808 ≤ n) (h2 : n ≤ 9223372036854775807) : IntKind.i64.wrap n = n := by
 simp [IntKind.wrap, IntKind.bits, IntKind.signed]
 omega
def NextOut (xs : List UInt8) (at_ : Int) (w w' : World) (r : Value) (n c : Int) : Prop := Mine w' w.heap.size r (next xs at_).1 ∧ n = (next xs at_).2.1 ∧ c = (next xs at_).2.2
set_option maxHeartbeats 1000000 in
set_option maxRecDepth 100000 in
theorem next_calls (v : Value) (xs : List UInt8) (at_ : Int) (w : World) (hv : Bytes w v xs) (ha : -9223372036854775808 ≤ at_ ∧ at_ ≤ 9223372036854775807) (hlen : xs.length ≤ 140737488351232) :
  Calls Try.prog 49 #[v, .int .i64 at_] w fun e w' => ∃ r n c, e = .returned (.tuple #[r, .int .i64 n, .int .i64 c]) ∧ NextOut xs at_ w w' r n c ∧ Below w.heap.size w w' := by
 have HV := Lib.hid hv
 obtain ⟨a, cap, rfl, hl, hcap, -⟩ := hv
 obtain ⟨ha1, ha2⟩ := ha
 go_enter Try.func49, Try.ntmps49
 by_cases hout : at_ < 0 ∨ (xs.length : Int) < at_
 ·
  have hn : next xs at_ = ([], 0, 1) := by unfold next; rw [if_pos hout]
  have HN := Lib.hid hn
  clear hn
  rcases hout with h | h
  ·
   go_wp2_with fail
   go_ret3
   exact ⟨_, _, _, rfl, by unfold NextOut; rw [HN.out]; exact ⟨Mine.nil _ _, rfl, rfl⟩, Below.refl _ _⟩
  ·
   have h2 : ¬ at_ < 0 := by omega
   go_wp2_with fail
   go_ret3
   exact ⟨_, _, _, rfl, by unfold NextOut; rw [HN.out]; exact ⟨Mine.nil _ _, rfl, rfl⟩, Below.refl _ _⟩
 ·
  have h1 : ¬ at_ < 0 := by omega
  have h2 : ¬ (xs.length : Int) < at_ := by omega
  clear hout
  obtain ⟨m, rfl⟩ := Int.eq_ofNat_of_zero_le (show 0 ≤ at_ by omega)
  have h3 : m ≤ xs.length := by omega
  have hn1 : next xs (m : Int) = (let b := xs.drop m
   if b.length < 8 then ([], 0, 5)
   else if (sum (b.take 4)).toNat ≠ num (b.drop 4) then ([], 0, 4)
   else if 65536 < num b then ([], 0, 2)
   else if b.length < 12 + num b then ([], 0, 5)
   else if (sum ((b.drop 8).take (num b))).toNat ≠ num (b.drop (8 + num b)) then ([], 0, 4)
   else ((b.drop 8).take (num b), (m : Int) + 12 + num b, 0)) := by
   unfold next; rw [if_neg (by omega)]; rfl
  have HN1 := Lib.hid hn1
  clear hn1
  by_cases h8 : xs.length - m < 8
  ·
   have hn : next xs (m : Int) = ([], 0, 5) := by rw [HN1.out]; simp only [List.length_drop]; rw [if_pos h8]
   have HN := Lib.hid hn
   clear hn
   by_cases hcm : cap = m
   ·
    go_wp2_with fail
    go_ret3
    exact ⟨_, _, _, rfl, by unfold NextOut; rw [HN.out]; exact ⟨Mine.nil _ _, rfl, rfl⟩, Below.refl _ _⟩
   ·
    go_wp2_with fail
    go_ret3
    exact ⟨_, _, _, rfl, by unfold NextOut; rw [HN.out]; exact ⟨Mine.nil _ _, rfl, rfl⟩, Below.refl _ _⟩
  have hcm : ¬ cap = m := by omega
  have hy : ∃ b o, a = some ⟨b, o, none⟩ := by
   obtain ⟨a', cap', hv, -, -, h | ⟨b, o, h, -⟩⟩ := HV.out
   ·
    simp only [Value.slice.injEq] at hv
    omega
   ·
    simp only [Value.slice.injEq] at hv
    exact ⟨b, o, hv.1.trans h⟩
  obtain ⟨b, o, rfl⟩ := hy
  go_wp2_with fail
  have hL : (xs.drop m).length = xs.length - m := by simp
  have hd := HV.out.from m (xs.length - m) (cap - m) (by omega) (by omega) (by omega)
  have HD := Lib.hid hd
  clear hd
  have hC : xs.length - m ≤ cap - m := by omega
  have hC2 : cap - m ≤ 9223372036854775807 := by omega
  have hm4 : m + (xs.length - m) ≤ 140737488351232 := by omega
  generalize xs.drop m = ys at *
  generalize xs.length - m = L at *
  generalize cap - m = C at *
  have h4 : (4 : Int) ≤ L := by omega
  have h4c : ¬C = 4 := by omega
  have h4C : (4 : Int) ≤ C := by omega
  refine region_m [(0, false), (1, false), (3, false), (4, false), (2, true), (5, true)] 6 (fun _ => True) (by kernel_rfl) (by kernel_rfl) trivial ?_
  iterate 4
   refine m_take (v := ?_) rfl rfl ?_ ?_
   rotate_left
   ·
    intro W hW
    go_simp
    with_reducible rfl
   simp only [Act.put, List.setIfInBounds_toArray, List.set_cons_zero, List.set_cons_succ]
  refine m_loud rfl (fun K hK => ?_)
  have HK := Lib.hid hK
  clear hK
  go_simp
  refine (sum_calls _ (ys.take 4) _ ((HD.out.part 4 C (by omega) (by omega) hC2).below ((Below.refl _ _).drew) (Nat.le_refl _))).mono ?_
  rintro e w1 ⟨rfl, hb1⟩
  have HB1 := Lib.hid (((Below.refl w.heap.size w).drew).trans hb1)
  clear hb1
  refine HK.out _ _ trivial ?_
  clear HK
  refine m_loud rfl (fun K hK => ?_)
  have HK := Lib.hid hK
  clear hK
  go_simp
  refine (number_calls _ (ys.drop 4) _ ((HD.out.from 4 (L - 4) (C - 4) (by omega) (by omega) (by omega)).below HB1.out (Nat.le_refl _)) (by simp; omega)).mono ?_
  rintro e w2 ⟨rfl, hb2⟩
  have HB2 := Lib.hid (HB1.out.trans (hb2.mono HB1.out.size))
  clear hb2
  refine HK.out _ _ trivial ?_
  clear HK
  refine m_done ?_
  simp only [List.drop_succ_cons, List.drop_zero]
  by_cases hs : (sum (ys.take 4)).toNat = num (ys.drop 4)
  rotate_left
  ·
   have hn : next xs (m : Int) = ([], 0, 4) := by rw [HN1.out]; rw [if_neg (by omega), if_pos hs]
   have HN := Lib.hid hn
   clear hn
   have hs2 : (((sum (ys.take 4)).toNat : Int) != (num (ys.drop 4) : Int)) = true := bne_iff_ne.2 (by omega)
   have HS := Lib.hid hs
   clear hs
   go_wp2
   simp only [NP]
   go_wp2
   go_ret3
   exact ⟨_, _, _, rfl, by unfold NextOut; rw [HN.out]; exact ⟨Mine.nil _ _, rfl, rfl⟩, HB2.out⟩
  have hs2 : (((sum (ys.take 4)).toNat : Int) != (num (ys.drop 4) : Int)) = false := bne_eq_false_iff_eq.2 (by omega)
  have HS := Lib.hid hs
  clear hs
  go_wp2
  simp only [NP]
  go_wp2_with fail
  refine (number_calls _ ys _ (HD.out.below HB2.out (Nat.le_refl _)) (by omega)).mono ?_
  rintro e w3 ⟨rfl, hb3⟩
  have HB3 := Lib.hid (HB2.out.trans (hb3.mono HB2.out.size))
  clear hb3
  have hq := num_lt ys
  clear hs2
  generalize num ys = q at *
  have hwq : wrap64 (q : Int) = q := by unfold wrap64; omega
  by_cases hbig : 65536 < q
  ·
   have hn : next xs (m : Int) = ([], 0, 2) := by rw [HN1.out]; rw [if_neg (by omega), if_neg (by have := HS.out; omega), if_pos hbig]
   have HN := Lib.hid hn
   clear hn
   go_wp2_with fail
   go_ret3
   exact ⟨_, _, _, rfl, by unfold NextOut; rw [HN.out]; exact ⟨Mine.nil _ _, rfl, rfl⟩, HB3.out⟩
  by_cases hshort : L < 12 + q
  ·
   have hn : next xs (m : Int) = ([], 0, 5) := by rw [HN1.out]; rw [if_neg (by omega), if_neg (by have := HS.out; omega), if_neg hbig, if_pos (by omega)]
   have HN := Lib.hid hn
   clear hn
   go_wp2_with fail
   go_ret3
   exact ⟨_, _, _, rfl, by unfold NextOut; rw [HN.out]; exact ⟨Mine.nil _ _, rfl, rfl⟩, HB3.out⟩
  go_wp2_with fail
  obtain ⟨e8, he8⟩ : ∃ e8, e8 = 8 + q := ⟨_, rfl⟩
  have g1 : (e8 : Int) ≤ C := by omega
  have g2 : ¬C = 8 := by omega
  have g3 : ¬C = e8 := by omega
  have g4 : (e8 : Int) ≤ L := by omega
  have g5 : (8 : Int) ≤ e8 := by omega
  have g6 : IntKind.i64.wrap (8 + (q : Int)) = e8 := by rw [wrap_i64_id _ (by omega) (by omega), he8]; omega
  have HE := Lib.hid he8
  have hq8 : e8 - 8 = q := by omega
  clear he8
  refine region_m [(0, false), (1, false), (2, false), (3, false), (5, false), (6, false), (7, false), (8, false), (4, true), (9, true)] 10 (fun _ => True) (by kernel_rfl) (by kernel_rfl) trivial ?_
  iterate 8
   refine m_take (v := ?_) rfl rfl ?_ ?_
   rotate_left
   ·
    intro W hW
    go_simp
    with_reducible rfl
   simp only [Act.put, List.setIfInBounds_toArray, List.set_cons_zero, List.set_cons_succ]
  refine m_loud rfl (fun K hK => ?_)
  have HK := Lib.hid hK
  clear hK
  go_simp
  refine (sum_calls _ ((ys.drop 8).take q) _ ((HD.out.sub 8 q (C - 8) (by omega) (by omega) (by omega)).below (HB3.out.drew) (Nat.le_refl _))).mono ?_
  rintro e w4 ⟨rfl, hb4⟩
  have HB4 := Lib.hid ((HB3.out.drew).trans (hb4.mono (HB3.out.drew).size))
  clear hb4
  refine HK.out _ _ trivial ?_
  clear HK
  refine m_loud rfl (fun K hK => ?_)
  have HK := Lib.hid hK
  clear hK
  go_simp
  refine (number_calls _ (ys.drop e8) _ ((HD.out.from e8 (L - e8) (C - e8) (by omega) (by omega) (by omega)).below HB4.out (Nat.le_refl _)) (by have := HE.out; simp; omega)).mono ?_
  rintro e w5 ⟨rfl, hb5⟩
  have HB5 := Lib.hid (HB4.out.trans (hb5.mono HB4.out.size))
  clear hb5
  refine HK.out _ _ trivial ?_
  clear HK
  refine m_done ?_
  simp only [List.drop_succ_cons, List.drop_zero]
  by_cases hs : (sum ((ys.drop 8).take q)).toNat = num (ys.drop e8)
  rotate_left
  ·
   have hn : next xs (m : Int) = ([], 0, 4) := by rw [HN1.out]; rw [if_neg (by omega), if_neg (by have := HS.out; omega), if_neg hbig, if_neg (by omega), if_pos (by have := HE.out; subst this; exact hs)]
   have HN := Lib.hid hn
   clear hn
   have hs2 : (((sum ((ys.drop 8).take q)).toNat : Int) != (num (ys.drop e8) : Int)) = true := bne_iff_ne.2 (by omega)
   have HS := Lib.hid hs
   clear hs
   go_wp2
   simp only [NP]
   go_wp2
   go_ret3
   exact ⟨_, _, _, rfl, by unfold NextOut; rw [HN.out]; exact ⟨Mine.nil _ _, rfl, rfl⟩, HB5.out⟩
  have hs2 : (((sum ((ys.drop 8).take q)).toNat : Int) != (num (ys.drop e8) : Int)) = false := bne_eq_false_iff_eq.2 (by omega)
  have hn : next xs (m : Int) = ((ys.drop 8).take q, (m : Int) + 12 + q, 0) := by rw [HN1.out]; rw [if_neg (by omega), if_neg (by have := HS.out; omega), if_neg hbig, if_neg (by omega), if_neg (by have := HE.out; subst this; exact fun h => h hs)]
  have HN := Lib.hid hn
  clear hn
  have HS2 := Lib.hid hs
  clear hs
  have hb := (HD.out.sub 8 q (C - 8) (by omega) (by omega) (by omega)).below HB5.out (Nat.le_refl _)
  have HSB := Lib.hid hb
  clear hb
  go_wp2
  simp only [NP]
  have hlq : ((ys.drop 8).take q).length = q := by simp; omega
  go_wp2_with (at_builtin; refine app_mine (Mine.nil _ w.heap.size) HSB.out HB5.out HB5.out.size (by simp; omega) rfl rfl rfl rfl ?_; intro v6 w6 hm6 hb6; have HM6 := Lib.hid hm6; have HB6 := Lib.hid hb6; clear hm6 hb6)
  go_ret3
  exact ⟨_, _, _, rfl, by unfold NextOut; rw [HN.out]; exact ⟨HM6.out, rfl, rfl⟩, HB6.out⟩
end Go.Proofs.Ytmafnjidhjabgaa.Fr
namespace Go.Proofs.Ytmafnjidhjabgaa
namespace Im
open Go.RowKit Go.MapKept
open Go.ChangeMaps (setBlock heap_setBlock_same heap_setBlock_other)
set_option linter.unusedVariables false
def mget {α : Type} : List (Int × α) → Int → Option α
 | [], _ => none
 | p :: m, k => if k = p.1 then some p.2 else mget m k
def mput {α : Type} : List (Int × α) → Int → α → List (Int × α)
 | [], k, v => [(k, v)]
 | p :: m, k, v => if k = p.1 then (k, v) :: m else p :: mput m k v
def mdel {α : Type} : List (Int × α) → Int → List (Int × α)
 | [], _ => []
 | p :: m, k => if k = p.1 then m else p :: mdel m k
abbrev Ents := List (Int × Value)
section
variable {α β : Type}
def mmap (f : α → β) (m : List (Int × α)) : List (Int × β) := m.map fun p => (p.1, f p.2)
theorem mget_map (f : α → β) : ∀ (m : List (Int × α)) (k : Int), mget (mmap f m) k = (mget m k).map f
 | [], _ => rfl
 | p :: m, k => by
  show (if k = p.1 then some (f p.2) else mget (mmap f m) k) = Option.map f (if k = p.1 then some p.2 else mget m k)
  split
  · rfl
  · exact mget_map f m k
theorem mput_map (f : α → β) (k : Int) (v : α) : ∀ (m : List (Int × α)), mput (mmap f m) k (f v) = mmap f (mput m k v)
 | [] => rfl
 | p :: m => by
  show (if k = p.1 then (k, f v) :: mmap f m else (p.1, f p.2) :: mput (mmap f m) k (f v)) = mmap f (if k = p.1 then (k, v) :: m else p :: mput m k v)
  split
  · rfl
  · rw [mput_map f k v m]; rfl
theorem mdel_map (f : α → β) (k : Int) : ∀ (m : List (Int × α)), mdel (mmap f m) k = mmap f (mdel m k)
 | [] => rfl
 | p :: m => by
  show (if k = p.1 then mmap f m else (p.1, f p.2) :: mdel (mmap f m) k) = mmap f (if k = p.1 then m else p :: mdel m k)
  split
  · rfl
  · rw [mdel_map f k m]; rfl
theorem mget_mem : ∀ {m : List (Int × α)} {k : Int} {v : α}, mget m k = some v → (k, v) ∈ m
 | [], _, _, h => by cases h
 | p :: m, k, v, h => by
  unfold mget at h
  split at h
  ·
   rename_i e
   subst e
   cases h
   exact List.mem_cons_self
  · exact List.mem_cons_of_mem _ (mget_mem h)
theorem mget_none {k : Int} : ∀ {m : List (Int × α)}, mget m k = none ↔ k ∉ m.map (·.1)
 | [] => by simp [mget]
 | p :: m => by
  unfold mget
  split
  ·
   rename_i e
   simp [e]
  ·
   rename_i e
   rw [mget_none (m := m)]
   simp [e]
theorem mget_some {k : Int} {m : List (Int × α)} : (mget m k).isSome = true ↔ k ∈ m.map (·.1) := by
 have h := mget_none (k := k) (m := m)
 cases e : mget m k with
 | none => simp [h.1 e]
 | some v =>
  refine ⟨fun _ => ?_, fun _ => rfl⟩
  by_cases hk : k ∈ m.map (·.1)
  · exact hk
  ·
   rw [h.2 hk] at e
   cases e
theorem mget_put_same (k : Int) (v : α) : ∀ (m : List (Int × α)), mget (mput m k v) k = some v
 | [] => by simp [mput, mget]
 | p :: m => by
  unfold mput
  split
  · simp [mget]
  ·
   rename_i e
   simp [mget, e, mget_put_same k v m]
theorem mget_put_other {k k' : Int} (h : k' ≠ k) (v : α) : ∀ (m : List (Int × α)), mget (mput m k v) k' = mget m k'
 | [] => by simp [mput, mget, h]
 | p :: m => by
  unfold mput
  split
  ·
   rename_i e
   subst e
   simp [mget, h]
  · simp only [mget, mget_put_other h v m]
theorem mput_keys {k : Int} {v : α} : ∀ {m : List (Int × α)}, (mput m k v).map (·.1) = if (mget m k).isSome then m.map (·.1) else m.map (·.1) ++ [k]
 | [] => rfl
 | p :: m => by
  unfold mput mget
  by_cases e : k = p.1
  · simp [e]
  ·
   rw [if_neg e, if_neg e, List.map_cons, mput_keys (m := m)]
   split <;> rfl
theorem mput_nodup {k : Int} {v : α} {m : List (Int × α)} (h : (m.map (·.1)).Nodup) : ((mput m k v).map (·.1)).Nodup := by
 rw [mput_keys]
 split
 · exact h
 ·
  rename_i hk
  rw [mget_some] at hk
  exact List.nodup_append.2 ⟨h, by simp, fun a ha b hb => by rw [List.mem_singleton.1 hb]; rintro rfl; exact hk ha⟩
theorem mdel_sub {k : Int} : ∀ {m : List (Int × α)}, (mdel m k).Sublist m
 | [] => List.Sublist.refl _
 | p :: m => by
  unfold mdel
  split
  · exact List.sublist_cons_self _ _
  · exact (mdel_sub (m := m)).cons_cons p
theorem mdel_nodup {k : Int} {m : List (Int × α)} (h : (m.map (·.1)).Nodup) : ((mdel m k).map (·.1)).Nodup := h.sublist (mdel_sub.map _)
theorem mget_del_same (k : Int) : ∀ (m : List (Int × α)), (m.map (·.1)).Nodup → mget (mdel m k) k = none
 | [], _ => rfl
 | p :: m, h => by
  unfold mdel
  simp only [List.map_cons, List.nodup_cons] at h
  split
  ·
   rename_i e
   exact mget_none.2 (by rw [e]; exact h.1)
  ·
   rename_i e
   simp [mget, e, mget_del_same k m h.2]
theorem mget_del_other {k k' : Int} (h : k' ≠ k) : ∀ (m : List (Int × α)), mget (mdel m k) k' = mget m k'
 | [] => rfl
 | p :: m => by
  unfold mdel
  split
  ·
   rename_i e
   subst e
   simp [mget, h]
  · simp only [mget, mget_del_other h m]
theorem mput_mem {k : Int} {v : α} {p : Int × α} : ∀ {m : List (Int × α)}, p ∈ mput m k v → p = (k, v) ∨ p ∈ m
 | [], h => by simp only [mput, List.mem_singleton] at h; exact .inl h
 | q :: m, h => by
  unfold mput at h
  split at h
  ·
   rcases List.mem_cons.1 h with h | h
   · exact .inl h
   · exact .inr (List.mem_cons_of_mem _ h)
  ·
   rcases List.mem_cons.1 h with h | h
   · exact .inr (h ▸ List.mem_cons_self)
   ·
    rcases mput_mem h with h | h
    · exact .inl h
    · exact .inr (List.mem_cons_of_mem _ h)
end
def kvE (e : MapEntry) : Value × Value := (e.key, e.val)
def svP (p : Int × Value) : Value × Value := (.int .i64 p.1, p.2)
structure MapAt (w : World) (r : Nat) (m : Ents) (es : Array MapEntry) (clock : Nat) : Prop where
 at_ : w.heap[r]? = some (.map es clock)
 eq : es.toList.map kvE = m.map svP
 st : Stamped es clock
def MapIs (w : World) (r : Nat) (m : Ents) : Prop := ∃ es clock, MapAt w r m es clock
theorem MapIs.lt {w : World} {r : Nat} {m : Ents} (h : MapIs w r m) : r < w.heap.size := by
 obtain ⟨es, c, h⟩ := h
 exact (Array.getElem?_eq_some_iff.1 h.at_).1
theorem MapIs.same {w w' : World} {r : Nat} {m : Ents} (h : MapIs w r m) (hb : w'.heap[r]? = w.heap[r]?) : MapIs w' r m := by
 obtain ⟨es, c, h⟩ := h
 exact ⟨es, c, hb.trans h.at_, h.eq, h.st⟩
theorem MapIs.only {S : Nat → Prop} {w w' : World} {r : Nat} {m : Ents} (h : MapIs w r m) (ho : Only S w w') (hS : ¬ S r) : MapIs w' r m := h.same (ho.block r h.lt hS)
theorem MapIs.below {w w' : World} {r : Nat} {m : Ents} (h : MapIs w r m) (hb : Below w.heap.size w w') : MapIs w' r m := h.same (hb.block r h.lt)
theorem MapIs.made (w : World) : MapIs (w.alloc (.map #[] 0)) w.heap.size [] := ⟨#[], 0, World.alloc_heap_new w _, by simp, stamped_empty 0⟩
theorem MapIs.cell {w : World} {r : Nat} {m : Ents} (h : MapIs w r m) (cs : Array Value) (e : TypeId) (x : Nat × Nat) : w.heap[r]? ≠ some (.cells cs e x) := by
 obtain ⟨es, c, h⟩ := h
 rw [h.at_]
 simp
theorem sameNow_int (a b : Int) : Instr.sameNow (.int .i64) (.int .i64 a) (.int .i64 b) = some (a == b) := rfl
theorem find_ents (k : Int) : ∀ (l : List MapEntry) (m : Ents) (i : Nat), l.map kvE = m.map svP →
  ∃ r, Instr.findNow (.int .i64) (.int .i64 k) l i = some r ∧
   (
    (r = none ∧ mget m k = none ∧ (∀ v, mput m k v = m ++ [(k, v)]) ∧ mdel m k = m ∧ ∀ x ∈ l, x.key ≠ .int .i64 k) ∨
    ∃ j e, r = some (i + j, e.val) ∧ l[j]? = some e ∧ e.key = .int .i64 k ∧ mget m k = some e.val ∧ (∀ v, mput m k v = m.set j (k, v)) ∧ mdel m k = m.eraseIdx j)
 | [], m, i, h => by
  have : m = [] := by cases m <;> simp_all
  subst this
  exact ⟨none, rfl, .inl ⟨rfl, rfl, fun v => rfl, rfl, by simp⟩⟩
 | e :: l, m, i, h => by
  cases m with
  | nil => simp at h
  | cons p m =>
   simp only [List.map_cons, List.cons.injEq] at h
   obtain ⟨h0, h1⟩ := h
   have hk : e.key = .int .i64 p.1 := congrArg Prod.fst h0
   have hv : e.val = p.2 := congrArg Prod.snd h0
   unfold Instr.findNow
   rw [hk, sameNow_int]
   by_cases hkp : k = p.1
   ·
     subst hkp
     have : (p.1 == p.1) = true := beq_self_eq_true _
     simp only [this]
     refine ⟨_, rfl, .inr ⟨0, e, by simp, rfl, hk, by simp [mget, hv], fun v => by simp [mput], by simp [mdel]⟩⟩
   ·
     have : (k == p.1) = false := by
      rw [Bool.eq_false_iff]
      exact fun h => hkp (by simpa using h)
     simp only [this]
     obtain ⟨r, hr, hc⟩ := find_ents k l m (i + 1) h1
     refine ⟨r, hr, ?_⟩
     rcases hc with ⟨rfl, g1, g2, g3, g4⟩ | ⟨j, e', rfl, g1, g2, g3, g4, g5⟩
     ·
      refine .inl ⟨rfl, by simp [mget, hkp, g1], fun v => by simp [mput, hkp, g2], by simp [mdel, hkp, g3], ?_⟩
      intro x hx
      rcases List.mem_cons.1 hx with rfl | hx
      ·
       rw [hk]
       intro e
       cases e
       exact hkp rfl
      · exact g4 x hx
     · exact .inr ⟨j + 1, e', by simp; omega, by simpa using g1, g2, by simp [mget, hkp, g3], fun v => by simp [mput, hkp, g4], by simp [mdel, hkp, g5]⟩
section
variable {P : Program} {w : World} {r : Nat} {m : Ents} {t kt et : TypeId}
theorem MapIs.look (h : MapIs w r m) (ht : P.underlying t = some (.map kt et)) (hk : P.underlying kt = some (.int .i64)) {z : Value} (hz : ∀ w, (zeroValue et).run P w = .ok z w) (k : Int) (c : Bool) :
  (Instr.lookup t (.map (some r)) (.int .i64 k) c).run P w = .ok (if c then .tuple #[(mget m k).getD z, .bool (mget m k).isSome] else (mget m k).getD z) w := by
 obtain ⟨es, clock, h⟩ := h
 obtain ⟨q, hf, hc⟩ := find_ents k es.toList m 0 h.eq
 have hck : (Instr.checkKey es.isEmpty 10000 kt (.int .i64 k)).run P w = .ok () w := Go.MapKept.run_checkKey (k := .int .i64 k) hk (by simp [IsKey]) _ 9999
 have hfk : (Instr.findKey kt (.int .i64 k) es.toList).run P w = .ok q w := Go.MapKept.run_findKey hk hf
 rcases hc with ⟨rfl, h1, -⟩ | ⟨j, e, rfl, -, -, h1, -⟩
 · simp [Instr.lookup, run_underlying ht, Go.MapKept.run_getObj_map h.at_, hck, hfk, Result.andThen, h1, hz]
 · simp [Instr.lookup, run_underlying ht, Go.MapKept.run_getObj_map h.at_, hck, hfk, Result.andThen, h1]
theorem setBlock_grown (hb : ∃ es clock, w.heap[r]? = some (.map es clock)) (o : Obj) : w.grownBy (setBlock w r o) (some r) := by
 obtain ⟨es, clock, hb⟩ := hb
 exact ⟨rfl, rfl, rfl, by simp [setBlock], fun i _ hi => heap_setBlock_other hb _ (fun e => hi (by rw [e]))⟩
theorem MapIs.upd (h : MapIs w r m) (ht : P.underlying t = some (.map kt et)) (hk : P.underlying kt = some (.int .i64)) (k : Int) (v : Value) :
  ∃ w', (Instr.mapUpdate t (.map (some r)) (.int .i64 k) v).run P w = .ok () w' ∧ MapIs w' r (mput m k v) ∧ w.grownBy w' (some r) ∧ w'.heap.size = w.heap.size := by
 obtain ⟨es, clock, h⟩ := h
 obtain ⟨q, hf, hc⟩ := find_ents k es.toList m 0 h.eq
 have hck : (Instr.checkKey false 10000 kt (.int .i64 k)).run P w = .ok () w := Go.MapKept.run_checkKey (k := .int .i64 k) hk (by simp [IsKey]) _ 9999
 have hfk : (Instr.findKey kt (.int .i64 k) es.toList).run P w = .ok q w := Go.MapKept.run_findKey hk hf
 rcases hc with ⟨rfl, -, h1, -, h2⟩ | ⟨j, e, rfl, g1, g2, -, g3, -⟩
 ·
  refine ⟨setBlock w r (.map (es.push { key := .int .i64 k, val := v, born := clock }) (clock + 1)), ?_, ⟨_, _, heap_setBlock_same h.at_ _, ?_, stamped_push h.st h2⟩, setBlock_grown ⟨_, _, h.at_⟩ _, by simp [setBlock]⟩
  · simp [Instr.mapUpdate, run_underlying ht, Go.MapKept.run_getObj_map h.at_, hck, hfk, Go.MapKept.run_setObj_map _ h.at_, Result.andThen, setBlock]
  ·
   rw [h1]
   simp [h.eq, kvE, svP]
 ·
  have g1' : es[j]? = some e := by simpa using g1
  have hks : (Instr.keyThatStays e.key (.int .i64 k)).run P w = .ok (.int .i64 k) w := by rw [g2]; exact run_keyThatStays (d := .int .i64) (by simp [IsKey])
  refine ⟨setBlock w r (.map (es.modify j fun e => { e with key := .int .i64 k, val := v }) clock), ?_, ⟨_, _, heap_setBlock_same h.at_ _, ?_, ?_⟩, setBlock_grown ⟨_, _, h.at_⟩ _, by simp [setBlock]⟩
  · simp [Instr.mapUpdate, run_underlying ht, Go.MapKept.run_getObj_map h.at_, hck, hfk, Go.MapKept.run_setObj_map _ h.at_, Result.andThen, setBlock, g1', hks]
  ·
   rw [g3]
   have e1 : (m.set j (k, v)).map svP = (m.map svP).set j (.int .i64 k, v) := by simp [List.map_set, svP]
   rw [e1, ← h.eq]
   apply List.ext_getElem?
   intro i
   simp only [List.getElem?_map, Array.getElem?_toList, Array.getElem?_modify, List.getElem?_set, List.length_map, Array.length_toList]
   by_cases hij : j = i
   ·
    subst hij
    have hlt := (Array.getElem?_eq_some_iff.1 g1').1
    rw [g1']
    simp [kvE, hlt]
   · simp [hij]
  · exact stamped_modify h.st j _ (fun e _ => rfl) (fun e' he he' => by rw [g1'] at he'; cases he'; exact g2.symm)
theorem MapIs.del (h : MapIs w r m) (ht : P.underlying t = some (.map kt et)) (hk : P.underlying kt = some (.int .i64)) (k : Int) (ty : TypeId) :
  ∃ w', (Builtin.delete_ #[t, kt] ty #[.map (some r), .int .i64 k]).run P w = .ok (.tuple #[]) w' ∧ MapIs w' r (mdel m k) ∧ w.grownBy w' (some r) ∧ w'.heap.size = w.heap.size := by
 obtain ⟨es, clock, h⟩ := h
 obtain ⟨q, hf, hc⟩ := find_ents k es.toList m 0 h.eq
 have hck : (Instr.checkKey es.isEmpty 10000 kt (.int .i64 k)).run P w = .ok () w := Go.MapKept.run_checkKey (k := .int .i64 k) hk (by simp [IsKey]) _ 9999
 have hfk : (Instr.findKey kt (.int .i64 k) es.toList).run P w = .ok q w := Go.MapKept.run_findKey hk hf
 rcases hc with ⟨rfl, -, -, h1, -⟩ | ⟨j, e, rfl, g1, g2, -, -, g3⟩
 ·
  refine ⟨setBlock w r (.map es clock), ?_, ⟨_, _, heap_setBlock_same h.at_ _, by rw [h1]; exact h.eq, h.st⟩, setBlock_grown ⟨_, _, h.at_⟩ _, by simp [setBlock]⟩
  simp [Builtin.delete_, run_underlying ht, Go.MapKept.run_getObj_map h.at_, hck, hfk, Go.MapKept.run_setObj_map _ h.at_, Result.andThen, setBlock]
 ·
  refine ⟨setBlock w r (.map (es.eraseIdxIfInBounds j) clock), ?_, ⟨_, _, heap_setBlock_same h.at_ _, ?_, stamped_erase h.st j⟩, setBlock_grown ⟨_, _, h.at_⟩ _, by simp [setBlock]⟩
  · simp [Builtin.delete_, run_underlying ht, Go.MapKept.run_getObj_map h.at_, hck, hfk, Go.MapKept.run_setObj_map _ h.at_, Result.andThen, setBlock]
  ·
   rw [g3]
   have e0 : (es.eraseIdxIfInBounds j).toList = es.toList.eraseIdx j := by
    have hlt := (List.getElem?_eq_some_iff.1 g1).1
    rw [Array.length_toList] at hlt
    simp [Array.eraseIdxIfInBounds, hlt]
   rw [e0, Go.ChangeMaps.map_eraseIdx, Go.ChangeMaps.map_eraseIdx, h.eq]
theorem MapIs.len (h : MapIs w r m) (ht : P.underlying t = some (.map kt et)) (ty : TypeId) : (Builtin.len_ #[t] ty #[.map (some r)]).run P w = .ok (.int .i64 m.length) w := by
 obtain ⟨es, clock, h⟩ := h
 have : es.size = m.length := by have := congrArg List.length h.eq; simpa using this
 simp [Builtin.len_, run_underlying ht, Go.MapKept.run_getObj_map h.at_, Result.andThen, this, goInt]
end
end Im
end Go.Proofs.Ytmafnjidhjabgaa
namespace Go.Proofs.Ytmafnjidhjabgaa
open Go.RowKit
structure Wc (D : World → Prop) where
 v : World
 h : D v
def InC (D : World → Prop) (V : World) : Prop := ∃ x : Wc D, V = x.v
theorem InC.of {D : World → Prop} {V : World} (h : D V) : InC D V := ⟨⟨V, h⟩, rfl⟩
theorem wp_region_class {P : Program} (D : World → Prop) {id : Nat} {Q : Exit → Act → World → Prop} {a : Act} {w : World} {l : List Oper} (hm : P.follows .mixedOrders = true) (hB : Region.lexB .any l.toArray = true) (hw : D w.drew)
  (h : wpQuiet P l.toArray (fun V => ∃ x : Wc D, V = x.v) (fun a' => ∀ x : Wc D, Q .normal a' x.v) l a) : (Code.region id l.toArray true).wp P Q a w := by
 refine wp_region_quiet (C := fun V => ∃ x : Wc D, V = x.v) hm hB ⟨⟨w.drew, hw⟩, rfl⟩ ?_
 have e : (fun a' : Act => ∀ x : Wc D, Q .normal a' x.v) = (fun a' => ∀ w', (∃ x : Wc D, w' = x.v) → Q .normal a' w') := by
  funext a'
  refine propext ⟨fun h w' ⟨x, hx⟩ => by rw [hx]; exact h x, fun h x => h _ ⟨x, rfl⟩⟩
 rw [← e]
 simpa using h
end Go.Proofs.Ytmafnjidhjabgaa
namespace Go.Proofs.Ytmafnjidhjabgaa
open Go.RowKit
def plainOp : Op → Bool
 | .move _ | .assign _ | .pick _ _ _ | .load _ _ | .binOp _ _ _ _ _ | .unOp _ _ _ | .fieldAddr _ _ _ | .indexAddr _ _ _ | .extract _ _ | .field _ _ _ | .index _ _ _ | .convert _ _ _ => true
 | _ => false
theorem then_value {P : Program} {s : Sem Value} {w w' : World} {nx : Next} (h : Sem.run P (do pure (.value (← s)) : Sem Next) w = .ok nx w') : ∃ u, nx = .value u := by
 rw [Sem.run_bind] at h
 cases hs : s.run P w with
 | ok u w2 =>
  rw [hs] at h
  simp only [Result.andThen_ok, Sem.run_pure] at h
  cases h
  exact ⟨u, rfl⟩
 | halt x w2 =>
  rw [hs] at h
  cases h
theorem plain_value {P : Program} {ρ : Operand → Value} {o : Oper} {w w' : World} {nx : Next} (hp : plainOp o.op = true) (h : (execOp ρ o).run P w = .ok nx w') : ∃ u, nx = .value u := by
 unfold execOp at h
 cases hop : o.op <;> rw [hop] at hp h <;> simp only [plainOp, Bool.false_eq_true] at hp <;> simp only at h
 all_goals first
  | exact then_value h
  | (rw [Sem.run_pure] at h; cases h; exact ⟨_, rfl⟩)
  | skip
 rw [Sem.run_bind] at h
 cases hs : (asBool _).run P w with
 | ok u w2 =>
  rw [hs] at h
  simp only [Result.andThen_ok, Sem.run_pure] at h
  cases h
  exact ⟨_, rfl⟩
 | halt x w2 =>
  rw [hs] at h
  cases h
theorem m_big {P : Program} {S : World → Prop} {l : List Oper} {Q : Exit → Act → World → Prop} {T : Act → World → Prop} {i : Nat} {o : Oper} {π : List (Nat × Bool)} {a : Act} {w : World} (ho : l[i]? = some o) (hp : plainOp o.op = true) (hw : Region.wanted o (yielded l.toArray a.tmps) = true)
  (h : ∀ K : Act → Prop, (∀ a, wpM P l.toArray Q S T π a w → K a) → o.quiet P a (fun V => ∃ x : Wc S, V = x.v) K) : wpM P l.toArray Q S T ((i, false) :: π) a w := by
 obtain ⟨v, hv, hk⟩ := h (fun a => wpM P l.toArray Q S T π a w) (fun _ h => h)
 refine m_take (v := v) ho hw (fun W hW => ?_) hk
 have h1 := hv W ⟨⟨W, hW⟩, rfl⟩
 unfold Oper.quietAt at h1
 cases hr : (execOp a.eval o).run P W with
 | ok nx w' =>
  obtain ⟨u, rfl⟩ := plain_value hp hr
  rw [hr] at h1
  obtain ⟨rfl, rfl⟩ := h1
  rfl
 | halt x w' =>
  rw [hr] at h1
  exact h1.elim
end Go.Proofs.Ytmafnjidhjabgaa
