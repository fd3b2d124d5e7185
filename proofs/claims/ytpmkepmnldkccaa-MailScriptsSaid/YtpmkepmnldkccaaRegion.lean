/- A region that draws its order: one walk, in an order of our choice, serves every order; no program in sight. -/
import Derived.Test.YtpmkepmnldkccaaRange
import Derived.StillTail
import Derived.OrdersHeld
namespace Go.Proofs.Ytpmkepmnldkccaa
open Go.RowKit

section
variable {P : Program} {ops : Array Oper} {md : Region.Mode} {S : World → Prop} {n : Nat}

/-- Q, but False at a panic, and where memory has no room. -/
def NP (Q : Exit → Act → World → Prop) : Exit → Act → World → Prop
  | .panic _, _, _ => False
  | .outgrown, _, _ => False
  | e, a, w => Q e a w
theorem NP.imp {Q : Exit → Act → World → Prop} : ∀ (e : Exit) (a : Act) (w : World), NP Q e a w → Q e a w := fun e a w h => by
  cases e <;> first | exact h | exact (h : False).elim

/-- Whatever order is picked; S holds behind each operation ahead of number n. -/
def wpX (P : Program) (md : Region.Mode) (ops : Array Oper) (Q : Exit → Act → World → Prop) (S : World → Prop) (n : Nat) : Nat → Array Bool → Act → World → Prop
  | 0, listed, a, w => Region.ready md ops listed = [] ∧ Q .normal a w
  | fuel + 1, listed, a, w =>
    (Region.ready md ops listed = [] → Q .normal a w) ∧
    ∀ i ∈ Region.ready md ops listed, wpOp P ops Q i (fun a' w' => (i < n → S w') ∧ wpX P md ops Q S n fuel (listed.setIfInBounds i true) a' w') a w

theorem wpAny_of_X {Q : Exit → Act → World → Prop} : ∀ (fuel : Nat) (listed : Array Bool) (a : Act) (w : World), wpX P md ops Q S n fuel listed a w → wpAny P md ops Q fuel listed a w
  | 0, _, _, _, h => h
  | fuel + 1, _, _, _, h => ⟨h.1, fun i hi => wpOp_mono (fun a' w' h' => wpAny_of_X fuel _ a' w' h'.2) (h.2 i hi)⟩

theorem wpX_first {Q : Exit → Act → World → Prop} {i : Nat} {oi : Oper} {v : Value} (hi : ops[i]? = some oi) (hsel : ∀ (j : Nat) (o : Oper) cs b, ops[j]? = some o → o.op ≠ .select cs b)
    (hQ : ∀ c a w, Q (.panic c) (a.put oi.dst v) w → Q (.panic c) a w) (hin : i < n)
    (htail : ∀ listed : Array Bool, HeadInv md ops n listed → listed.getD i true = false → ∀ t, n ≤ t → t ∉ Region.ready md ops listed) :
    ∀ (fuel : Nat) (listed : Array Bool) (a : Act) (w : World), HeadInv md ops n listed →
      (∀ j oj, ops[j]? = some oj → j ≠ i → listed.getD j true = false → (∀ e ∈ oj.after, Region.binds md e = true → e.on ≠ i) → oi.apart ops oj = true) →
      i ∈ Region.ready md ops listed → YieldsIf P ops S oi v a → S w →
      wpX P md ops Q S n fuel (listed.setIfInBounds i true) (a.put oi.dst v) w → wpX P md ops Q S n (fuel + 1) listed a w := by
  intro fuel
  induction fuel with
  | zero =>
    intro listed a w inv _ hr hy hS H
    refine ⟨fun h => (by rw [h] at hr; cases hr), fun j hj => ?_⟩
    by_cases hji : j = i
    · subst hji; exact hy.wpOp hi hS ⟨fun _ => hS, H⟩
    · have := ready_mono hj hji
      rw [H.1] at this
      cases this
  | succ fuel ih =>
    intro listed a w inv hfree hr hy hS H
    refine ⟨fun h => (by rw [h] at hr; cases hr), fun j hj => ?_⟩
    by_cases hji : j = i
    · subst hji; exact hy.wpOp hi hS ⟨fun _ => hS, H⟩
    · have hun := (mem_ready.1 hr).1
      have hjn : j < n := by
        rcases Nat.lt_or_ge j n with h | h
        · exact h
        · exact absurd hj (htail listed inv hun j h)
      have h1 := H.2 j (ready_mono hj hji)
      obtain ⟨hjun, oj, hoj, hall⟩ := mem_ready.1 hj
      have hnot : ∀ e ∈ oj.after, Region.binds md e = true → e.on ≠ i := fun e he hb heq => by
        have h1 := hall e he hb
        rw [heq, getD_both hun] at h1
        cases h1
      have h2 := wpOp_putIf hoj (hfree j oj hoj hji hjun hnot) (fun cs b => hsel i oi cs b hi) (fun cs b => hsel j oj cs b hoj) hQ hy h1
      have hfree' : ∀ k ok, ops[k]? = some ok → k ≠ i → (listed.setIfInBounds j true).getD k true = false →
          (∀ e ∈ ok.after, Region.binds md e = true → e.on ≠ i) → oi.apart ops ok = true := fun k ok hk hki hun hno => by
        refine hfree k ok hk hki ?_ hno
        by_cases hjk : j = k
        · subst hjk; exact hjun
        · rw [getD_set_ne true hjk] at hun; exact hun
      refine wpOp_mono (fun a' w' h3 => ⟨h3.2.1, ih (listed.setIfInBounds j true) a' w' (inv.set hj hjn) hfree' (ready_mono hr (Ne.symm hji)) h3.1 (h3.2.1 hjn) ?_⟩) h2
      rw [Array.setIfInBounds_comm _ _ hji]
      exact h3.2.2

/-- The walk in our order: (i, false): an operation that yields its value in every world that meets S; (i, true): one that is carried out where nothing else may come. -/
def wpM (P : Program) (ops : Array Oper) (Q : Exit → Act → World → Prop) (S : World → Prop) (T : Act → World → Prop) : List (Nat × Bool) → Act → World → Prop
  | [], a, w => T a w
  | (i, false) :: r, a, w => ∃ o, ops[i]? = some o ∧ ∃ v, YieldsIf P ops S o v a ∧ wpM P ops Q S T r (a.put o.dst v) w
  | (i, true) :: r, a, w => wpOp P ops Q i (fun a' w' => S w' ∧ wpM P ops Q S T r a' w') a w

def chkM (md : Region.Mode) (ops : Array Oper) (n : Nat) : List (Nat × Bool) → Array Bool → Bool
  | [], listed => Region.seqB md ops (ops.size - n) n listed
  | (i, false) :: r, listed => decide (i < n) && (Region.ready md ops listed).contains i && Region.free md ops listed i && chkM md ops n r (listed.setIfInBounds i true)
  | (i, true) :: r, listed => decide (i < n) && decide (Region.ready md ops listed = [i]) && chkM md ops n r (listed.setIfInBounds i true)

def chkR (md : Region.Mode) (ops : Array Oper) (n : Nat) (π : List (Nat × Bool)) : Bool :=
  Region.noSelect ops && (decide (n = ops.size) || (decide (n < ops.size) && Region.sinkB md ops n && Region.chainB md ops n)) && decide (π.length = n) && chkM md ops n π (Array.replicate ops.size false)

theorem wpX_of_seq {Q : Exit → Act → World → Prop} : ∀ (l : List Oper) (k : Nat) (listed : Array Bool) (a : Act) (w : World), n ≤ k → (∀ j, l[j]? = ops[k + j]?) →
    Region.seqB md ops l.length k listed = true → wpList P ops Q l a w → wpX P md ops Q S n l.length listed a w
  | [], _, _, _, _, _, _, hB, h => ⟨by simpa [Region.seqB] using hB, h⟩
  | o :: l, k, listed, a, w, hk, hl, hB, h => by
    have h0 : ops[k]? = some o := by simpa using (hl 0).symm
    simp only [List.length_cons, Region.seqB, Bool.and_eq_true, decide_eq_true_eq] at hB
    refine ⟨fun h1 => (by rw [hB.1] at h1; cases h1), fun i hi => ?_⟩
    rw [hB.1] at hi
    have hik : i = k := by simpa using hi
    subst hik
    have hw : wpOp P ops Q i (wpList P ops Q l) a w := by unfold wpOp; simp only [h0]; exact h
    exact wpOp_mono (fun a' w' h' => ⟨fun h => by omega, wpX_of_seq l (i + 1) _ a' w' (by omega) (fun j => by have := hl (j + 1); simpa [Nat.add_assoc, Nat.add_comm 1 j] using this) hB.2 h'⟩) hw

theorem wpX_of_M {Q : Exit → Act → World → Prop} (hQ : ∀ c a d v w, Q (.panic c) (Act.put a d v) w → Q (.panic c) a w) (hsel : Region.noSelect ops = true) (hn : n ≤ ops.size)
    (htail : ∀ i, i < n → ∀ listed : Array Bool, HeadInv md ops n listed → listed.getD i true = false → ∀ t, n ≤ t → t ∉ Region.ready md ops listed) :
    ∀ (π : List (Nat × Bool)) (listed : Array Bool) (a : Act) (w : World), HeadInv md ops n listed → chkM md ops n π listed = true → S w →
      wpM P ops Q S (wpList P ops Q (ops.toList.drop n)) π a w → wpX P md ops Q S n (π.length + (ops.size - n)) listed a w
  | [], listed, a, w, _, hc, _, h => by
    have hl : (ops.toList.drop n).length = ops.size - n := by simp
    have := wpX_of_seq (S := S) (n := n) (md := md) (ops.toList.drop n) n listed a w (Nat.le_refl _) (fun j => by simp [List.getElem?_drop]) (by rw [hl]; exact hc) h
    rw [hl] at this
    simpa using this
  | (i, false) :: r, listed, a, w, inv, hc, hS, h => by
    simp only [chkM, Bool.and_eq_true, decide_eq_true_eq] at hc
    obtain ⟨⟨⟨hin, hr⟩, hf⟩, hc'⟩ := hc
    obtain ⟨o, ho, v, hy, h'⟩ := h
    have hr' : i ∈ Region.ready md ops listed := by simpa using hr
    rw [List.length_cons, show r.length + 1 + (ops.size - n) = (r.length + (ops.size - n)) + 1 by omega]
    exact wpX_first ho (Region.noSelect_spec hsel) (fun c a w => hQ c a _ _ w) hin (htail i hin) _ listed a w inv (Region.free_spec ho hf) hr' hy hS
      (wpX_of_M hQ hsel hn htail r _ _ w (inv.set hr' hin) hc' hS h')
  | (i, true) :: r, listed, a, w, inv, hc, hS, h => by
    simp only [chkM, Bool.and_eq_true, decide_eq_true_eq] at hc
    obtain ⟨⟨hin, hr⟩, hc'⟩ := hc
    have hr' : i ∈ Region.ready md ops listed := by rw [hr]; simp
    rw [List.length_cons, show r.length + 1 + (ops.size - n) = (r.length + (ops.size - n)) + 1 by omega]
    refine ⟨fun h1 => (by rw [hr] at h1; cases h1), fun j hj => ?_⟩
    rw [hr] at hj
    obtain rfl : j = i := by simpa using hj
    exact wpOp_mono (fun a' w' h' => ⟨fun _ => h'.1, wpX_of_M hQ hsel hn htail r _ _ w' (inv.set hr' hin) hc' h'.1 h'.2⟩) h

/-- The region's orders, one by one, out of the walk in our order. -/
theorem wpOps_of_M {Q : Exit → Act → World → Prop} (hQ : ∀ c a d v w, Q (.panic c) (Act.put a d v) w → Q (.panic c) a w) (π : List (Nat × Bool)) (hm : P.follows .mixedOrders = true) (hB : chkR .any ops n π = true) {a : Act} {w : World} (hS : S w)
    (h : wpM P ops Q S (wpList P ops Q (ops.toList.drop n)) π a w) (t : Nat) : wpOps P ops Q (Region.schedule (P.follows .mixedOrders) ops t) a w := by
  simp only [chkR, Bool.and_eq_true, decide_eq_true_eq, Bool.or_eq_true] at hB
  obtain ⟨⟨⟨hsel, hn⟩, hlen⟩, hc⟩ := hB
  have hn' : n ≤ ops.size := by omega
  have inv0 : HeadInv .any ops n (Array.replicate ops.size false) :=
    ⟨by simp, fun j oj _ hl => (by rw [getD_replicate_false] at hl; cases hl), fun t _ ht => getD_in (by simpa using ht) (getD_replicate_false _ _)⟩
  have htail : ∀ i, i < n → ∀ listed : Array Bool, HeadInv .any ops n listed → listed.getD i true = false → ∀ t, n ≤ t → t ∉ Region.ready .any ops listed := by
    intro i hi listed inv hun t ht hr
    rcases hn with rfl | ⟨⟨hlt, hs⟩, hch⟩
    · obtain ⟨_, o, ho, _⟩ := mem_ready.1 hr
      have := (Array.getElem?_eq_some_iff.1 ho).1
      omega
    · exact tail_waits hs hch hlt inv _ i rfl hi hun t ht hr
  have H := wpAny_of_X _ _ _ _ (wpX_of_M hQ hsel hn' htail π _ a w inv0 hc hS h)
  rw [hlen, show n + (ops.size - n) = ops.size by omega] at H
  simp only [Region.schedule, hm, Bool.true_or, if_true]
  exact wpAny_sound ops.size t _ a _ H

/-- Outside a fence. -/
theorem region_m {Q : Exit → Act → World → Prop} {id : Nat} (π : List (Nat × Bool)) (n : Nat) (S : World → Prop) {a : Act} {w : World} (hm : P.follows .mixedOrders = true) (hB : chkR .any ops n π = true) (hS : S w.drew)
    (h : wpM P ops (NP Q) S (wpList P ops (NP Q) (ops.toList.drop n)) π a w.drew) : (Code.region id ops true).wp P Q a w :=
  Code.wp_mono NP.imp (wp_region_draw fun t => wpOps_of_M (fun _ _ _ _ _ h => h) π hm hB hS h t)

/-! ### Within a fence that lets everything in -/

def noDefer (ops : Array Oper) : Bool := ops.all fun o => match o.op with | .defer _ => false | _ => true

theorem wpIn_of_wp {r : Option Nat} {o : Oper} (ho : ∀ c, o.op ≠ .defer c) {a : Act} {w : World} {K K' : Act → World → Prop} {Q : Exit → Act → World → Prop} (hK : ∀ a w, K a w → K' a w)
    (h : o.wp P a w K Q) : o.wpIn { Fence.wide with round := r } 0 P a w K' Q := by
  refine ⟨fun f _ => trivial, ?_⟩
  rw [Oper.semAt_eq _ _ _ ho]
  unfold Oper.wp at h
  generalize (execOp a.eval o).run P w = res at *
  have hC : ∀ f args w R, Calls P f args w R → CallsIn { Fence.wide with round := r } 0 P f args w R := fun f args w R h => callsIn_wide (n := 0).2 h
  have hd : ∀ k : Prop, ((({ Fence.wide with round := r } : Fence).depth.isSome = true) → k) := fun k h => by simp [Fence.wide] at h
  cases res with
  | ok nx w' =>
    cases nx <;> simp only [Oper.upon] at h <;> try exact h.elim
    case value u => exact hK _ _ h
    case skip => exact hK _ _ h
    case defer d => exact hK _ _ h
    case enter f args =>
      refine ⟨hd _, (hC _ _ _ _ h).mono ?_⟩
      intro e w'' he
      cases e <;> first | exact hK _ _ he | exact he
    case row row args =>
      refine ⟨hd _, ?_⟩
      intro c cs _
      obtain ⟨v, w'', hR, hs⟩ := h c cs
      exact ⟨v, w'', hK _ _ hR, stepsIn_wide.2 hs⟩
  | halt x w' => cases x <;> simp only [Oper.upon] at h <;> first | exact h | exact h.elim

theorem opsIn_of_ops {r : Option Nat} {Q : Exit → Act → World → Prop} (hnd : noDefer ops = true) (hout : ∀ a w, ¬ Q .outgrown a w) : ∀ (l : List Nat) (a : Act) (w : World), wpOps P ops Q l a w → wpOpsIn { Fence.wide with round := r } 0 P ops Q l a w
  | [], _, _, h => h
  | i :: l, a, w, h => by
    unfold wpOps at h
    unfold wpOpsIn
    cases ho : ops[i]? with
    | none => simp only [ho] at h ⊢; exact opsIn_of_ops hnd hout l a w h
    | some o =>
      simp only [ho] at h ⊢
      have hod : ∀ c, o.op ≠ .defer c := by
        intro c hc
        have := Array.all_eq_true'.1 hnd o (Array.mem_of_getElem? ho)
        rw [hc] at this
        cases this
      by_cases hw : Region.wanted o (yielded ops a.tmps) = true
      · simp only [hw, if_true] at h ⊢
        rcases h with h | ⟨_, a₀, w₀, hq⟩
        · exact wpIn_of_wp hod (fun a w h => opsIn_of_ops hnd hout l a w h) h
        · exact absurd hq (hout _ _)
      · simp only [hw, Bool.false_eq_true, if_false] at h ⊢
        exact ⟨fun _ _ => trivial, opsIn_of_ops hnd hout l _ w h⟩

/-- Within the wide fence, in a round or not. -/
theorem region_mi {r : Option Nat} {Q : Exit → Act → World → Prop} {id : Nat} (π : List (Nat × Bool)) (n : Nat) (S : World → Prop) {a : Act} {w : World} (hm : P.follows .mixedOrders = true) (hB : (chkR .any ops n π && noDefer ops) = true) (hS : S w.drew)
    (h : wpM P ops (NP Q) S (wpList P ops (NP Q) (ops.toList.drop n)) π a w.drew) : (Code.region id ops true).wpIn { Fence.wide with round := r } 0 P Q a w := by
  rw [Bool.and_eq_true] at hB
  exact wpIn_mono (wpIn_region_draw fun t => opsIn_of_ops hB.2 (fun _ _ h => h) _ _ _ (wpOps_of_M (fun _ _ _ _ _ h => h) π hm hB.1 hS h t)) NP.imp

/-! ### The steps of the walk, over a region that is written out -/
theorem m_take {l : List Oper} {Q : Exit → Act → World → Prop} {T : Act → World → Prop} {i : Nat} {o : Oper} {v : Value} {π : List (Nat × Bool)} {a : Act} {w : World} (ho : l[i]? = some o) (hw : Region.wanted o (yielded l.toArray a.tmps) = true)
    (hy : ∀ W, S W → (execOp a.eval o).run P W = .ok (.value v) W) (h : wpM P l.toArray Q S T π (a.put o.dst v) w) : wpM P l.toArray Q S T ((i, false) :: π) a w :=
  ⟨o, by simpa using ho, v, .inl ⟨hw, hy⟩, h⟩
theorem m_skip {l : List Oper} {Q : Exit → Act → World → Prop} {T : Act → World → Prop} {i : Nat} {o : Oper} {π : List (Nat × Bool)} {a : Act} {w : World} (ho : l[i]? = some o) (hw : Region.wanted o (yielded l.toArray a.tmps) = false)
    (h : wpM P l.toArray Q S T π (a.put o.dst undef) w) : wpM P l.toArray Q S T ((i, false) :: π) a w :=
  ⟨o, by simpa using ho, undef, .inr ⟨hw, rfl⟩, h⟩
theorem m_loud {l : List Oper} {Q : Exit → Act → World → Prop} {T : Act → World → Prop} {i : Nat} {o : Oper} {π : List (Nat × Bool)} {a : Act} {w : World} (ho : l[i]? = some o)
    (h : ∀ K : Act → World → Prop, (∀ a w, S w → wpM P l.toArray Q S T π a w → K a w) → if Region.wanted o (yielded l.toArray a.tmps) = true then o.wp P a w K Q else K (a.put o.dst undef) w) : wpM P l.toArray Q S T ((i, true) :: π) a w := by
  have ho' : l.toArray[i]? = some o := by simpa using ho
  have := h (fun a' w' => S w' ∧ wpM P l.toArray Q S T π a' w') (fun a w hS h => ⟨hS, h⟩)
  show wpOp P l.toArray Q i _ a w
  unfold wpOp
  simp only [ho']
  by_cases hw : Region.wanted o (yielded l.toArray a.tmps) = true
  · simp only [hw, if_true] at this ⊢; exact .inl this
  · simp only [hw, Bool.false_eq_true, if_false] at this ⊢; exact this
theorem m_done {Q : Exit → Act → World → Prop} {T : Act → World → Prop} {a : Act} {w : World} (h : T a w) : wpM P ops Q S T [] a w := h
end
end Go.Proofs.Ytpmkepmnldkccaa
