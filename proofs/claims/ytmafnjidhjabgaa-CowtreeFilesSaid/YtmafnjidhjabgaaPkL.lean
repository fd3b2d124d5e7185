/- Walks and plain laws of the chapter, laid together; each part says what it proves. -/
import Derived.WalkKit
import Derived.Sort.Walk0
import Derived.Test.YtmafnjidhjabgaaPkA
import Derived.Test.YtmafnjidhjabgaaPkB
import Derived.Test.YtmafnjidhjabgaaPkK
namespace Go.Proofs.Ytmafnjidhjabgaa
abbrev Str := List UInt8
abbrev KV := Str × Str
theorem slt_trans {a b c : Str} (h : a < b) (k : b < c) : a < c := List.lt_trans h k
theorem slt_irr (a : Str) : ¬ a < a := List.lt_irrefl a
theorem slt_tri (a b : Str) : a < b ∨ a = b ∨ b < a := by
 by_cases h : a < b
 · exact .inl h
 ·
  by_cases h2 : b < a
  · exact .inr (.inr h2)
  · exact .inr (.inl (List.le_antisymm (List.not_lt.1 h2) (List.not_lt.1 h)))
theorem snil_le (a : Str) : ¬ a < [] := by intro h; cases h
theorem slt_of_not {a b : Str} (h : ¬ a < b) (hne : a ≠ b) : b < a := by
 rcases slt_tri a b with h1 | h1 | h1
 · exact absurd h1 h
 · exact absurd h1 hne
 · exact h1
def Srt (l : List KV) : Prop := l.Pairwise (fun a b => a.1 < b.1)
def ins (k v : Str) (l : List KV) : List KV := l.filter (fun e => decide (e.1 < k)) ++ (k, v) :: l.filter (fun e => decide (k < e.1))
def rm (k : Str) (l : List KV) : List KV := l.filter (fun e => decide (e.1 ≠ k))
def look (k : Str) (l : List KV) : Option Str := (l.find? (fun e => decide (e.1 = k))).map Prod.snd
def ge (f : Str) (l : List KV) : List KV := l.filter (fun e => decide (¬ e.1 < f))
theorem Srt.nil : Srt [] := List.Pairwise.nil
theorem srt_app {a b : List KV} : Srt (a ++ b) ↔ Srt a ∧ Srt b ∧ ∀ x ∈ a, ∀ y ∈ b, x.1 < y.1 := List.pairwise_append
theorem srt_cons {e : KV} {l : List KV} : Srt (e :: l) ↔ (∀ y ∈ l, e.1 < y.1) ∧ Srt l := List.pairwise_cons
theorem Srt.sub {a b : List KV} (h : Srt b) (hs : a.Sublist b) : Srt a := List.Pairwise.sublist hs h
theorem filter_all {p : KV → Bool} {l : List KV} (h : ∀ e ∈ l, p e = true) : l.filter p = l := List.filter_eq_self.2 h
theorem filter_no {p : KV → Bool} {l : List KV} (h : ∀ e ∈ l, p e = false) : l.filter p = [] := List.filter_eq_nil_iff.2 (fun e he => by rw [h e he]; simp)
theorem ins_mid {k v : Str} {P M Q : List KV} (hP : ∀ e ∈ P, e.1 < k) (hQ : ∀ e ∈ Q, k < e.1) : ins k v (P ++ M ++ Q) = P ++ ins k v M ++ Q := by
 unfold ins
 have a1 : P.filter (fun e => decide (e.1 < k)) = P := filter_all (fun e he => decide_eq_true (hP e he))
 have a2 : P.filter (fun e => decide (k < e.1)) = [] := filter_no (fun e he => decide_eq_false (fun h => slt_irr _ (slt_trans h (hP e he))))
 have a3 : Q.filter (fun e => decide (k < e.1)) = Q := filter_all (fun e he => decide_eq_true (hQ e he))
 have a4 : Q.filter (fun e => decide (e.1 < k)) = [] := filter_no (fun e he => decide_eq_false (fun h => slt_irr _ (slt_trans h (hQ e he))))
 simp only [List.filter_append, a1, a2, a3, a4]
 simp
theorem ins_hit {k v v0 : Str} {X Y : List KV} (hs : Srt (X ++ (k, v0) :: Y)) : ins k v (X ++ (k, v0) :: Y) = X ++ (k, v) :: Y := by
 obtain ⟨_, h2, h3⟩ := srt_app.1 hs
 obtain ⟨h4, _⟩ := srt_cons.1 h2
 have hX : ∀ e ∈ X, e.1 < k := fun e he => h3 e he _ List.mem_cons_self
 have := ins_mid (v := v) (P := X) (M := [(k, v0)]) (Q := Y) hX h4
 rw [List.append_assoc] at this
 show ins k v (X ++ ([(k, v0)] ++ Y)) = _
 rw [this]
 simp [ins, slt_irr]
theorem ins_none {k v : Str} {P Q : List KV} (hP : ∀ e ∈ P, e.1 < k) (hQ : ∀ e ∈ Q, k < e.1) : ins k v (P ++ Q) = P ++ (k, v) :: Q := by
 have := ins_mid (v := v) (P := P) (M := []) (Q := Q) hP hQ
 rw [List.append_nil] at this
 rw [this]
 simp [ins]
theorem rm_app (k : Str) (a b : List KV) : rm k (a ++ b) = rm k a ++ rm k b := List.filter_append ..
theorem rm_no {k : Str} {l : List KV} (h : ∀ e ∈ l, e.1 ≠ k) : rm k l = l := filter_all (fun e he => decide_eq_true (h e he))
theorem rm_mid {k : Str} {P M Q : List KV} (hP : ∀ e ∈ P, e.1 < k) (hQ : ∀ e ∈ Q, k < e.1) : rm k (P ++ M ++ Q) = P ++ rm k M ++ Q := by
 rw [rm_app, rm_app, rm_no (l := P) (fun e he h => slt_irr _ (h ▸ hP e he)), rm_no (l := Q) (fun e he h => slt_irr _ (h ▸ hQ e he))]
theorem rm_hit {k v0 : Str} {X Y : List KV} (hs : Srt (X ++ (k, v0) :: Y)) : rm k (X ++ (k, v0) :: Y) = X ++ Y := by
 obtain ⟨_, h2, h3⟩ := srt_app.1 hs
 obtain ⟨h4, _⟩ := srt_cons.1 h2
 rw [rm_app, rm_no (l := X) (fun e he h => slt_irr _ (by have := h3 e he _ List.mem_cons_self; rw [h] at this; exact this))]
 congr 1
 show List.filter _ ((k, v0) :: Y) = Y
 rw [List.filter_cons_of_neg (by simp)]
 exact rm_no (fun e he h => slt_irr _ (by have := h4 e he; rw [h] at this; exact this))
theorem ins_srt {k v : Str} {l : List KV} (hs : Srt l) : Srt (ins k v l) := by
 unfold ins
 refine srt_app.2 ⟨hs.sub List.filter_sublist, srt_cons.2 ⟨fun y hy => ?_, hs.sub List.filter_sublist⟩, fun x hx y hy => ?_⟩
 · have := (List.mem_filter.1 hy).2; simpa using this
 ·
  have h1 : x.1 < k := by have := (List.mem_filter.1 hx).2; simpa using this
  rcases List.mem_cons.1 hy with rfl | hy
  · exact h1
  · exact slt_trans h1 (by have := (List.mem_filter.1 hy).2; simpa using this)
theorem rm_srt {k : Str} {l : List KV} (hs : Srt l) : Srt (rm k l) := hs.sub List.filter_sublist
theorem look_app (k : Str) (a b : List KV) (h : ∀ e ∈ a, e.1 ≠ k) : look k (a ++ b) = look k b := by
 unfold look
 rw [List.find?_append, List.find?_eq_none.2 (fun e he => by simpa using h e he)]
 rfl
theorem look_no {k : Str} {l : List KV} (h : ∀ e ∈ l, e.1 ≠ k) : look k l = none := by
 unfold look
 rw [List.find?_eq_none.2 (fun e he => by simpa using h e he)]
 rfl
theorem look_mid {k : Str} {P M Q : List KV} (hP : ∀ e ∈ P, e.1 < k) (hQ : ∀ e ∈ Q, k < e.1) : look k (P ++ M ++ Q) = look k M := by
 rw [List.append_assoc, look_app k P _ (fun e he h => slt_irr _ (h ▸ hP e he))]
 unfold look
 rw [List.find?_append, List.find?_eq_none (l := Q) |>.2 (fun e he => by simpa using fun h => slt_irr _ (h ▸ hQ e he))]
 cases List.find? _ M <;> rfl
theorem look_hit {k v : Str} {X Y : List KV} (hX : ∀ e ∈ X, e.1 < k) : look k (X ++ (k, v) :: Y) = some v := by
 rw [look_app k X _ (fun e he h => slt_irr _ (h ▸ hX e he))]
 simp [look]
def wl : List (List KV) → List KV → List KV
 | k :: ks, e :: es => k ++ e :: wl ks es
 | _, _ => []
def wr : List KV → List (List KV) → List KV
 | e :: es, k :: ks => e :: (k ++ wr es ks)
 | _, _ => []
def weave : List (List KV) → List KV → List KV
 | [], _ => []
 | k :: ks, es => k ++ wr es ks
theorem wr_weave (e : KV) (es : List KV) (k : List KV) (ks : List (List KV)) : wr (e :: es) (k :: ks) = e :: weave (k :: ks) es := rfl
theorem weave_join : ∀ (K1 : List (List KV)) (A : List KV) (e : KV) (B : List KV) (k : List KV) (K2 : List (List KV)), K1.length = A.length + 1 → weave (K1 ++ k :: K2) (A ++ e :: B) = weave K1 A ++ e :: weave (k :: K2) B
 | [], A, e, B, k, K2, h => by simp at h
 | [x], [], e, B, k, K2, h => by show x ++ wr (e :: B) (k :: K2) = (x ++ wr [] []) ++ e :: weave (k :: K2) B; rw [wr_weave]; simp [wr]
 | [x], a :: A, e, B, k, K2, h => by simp at h
 | x :: y :: K1, [], e, B, k, K2, h => by simp at h
 | x :: y :: K1, a :: A, e, B, k, K2, h => by
  have ih := weave_join (y :: K1) A e B k K2 (by simp at h ⊢; omega)
  show x ++ wr (a :: (A ++ e :: B)) (y :: (K1 ++ k :: K2)) = (x ++ wr (a :: A) (y :: K1)) ++ _
  rw [wr_weave, wr_weave]
  show x ++ a :: weave ((y :: K1) ++ k :: K2) (A ++ e :: B) = _
  rw [ih]
  simp
theorem wl_weave : ∀ (K1 : List (List KV)) (A : List KV) (k : List KV), K1.length = A.length → wl K1 A ++ k = weave (K1 ++ [k]) A
 | [], [], k, _ => by simp [wl, weave, wr]
 | [], a :: A, k, h => by simp at h
 | x :: K1, [], k, h => by simp at h
 | x :: K1, a :: A, k, h => by
  have ih := wl_weave K1 A k (by simpa using h)
  show (x ++ a :: wl K1 A) ++ k = x ++ wr (a :: A) (K1 ++ [k])
  have : wr (a :: A) (K1 ++ [k]) = a :: weave (K1 ++ [k]) A := by cases K1 <;> rfl
  rw [this, ← ih]
  simp
theorem weave_split (K1 : List (List KV)) (A B : List KV) (k : List KV) (K2 : List (List KV)) (h : K1.length = A.length) (h2 : K2.length = B.length) : weave (K1 ++ k :: K2) (A ++ B) = wl K1 A ++ k ++ wr B K2 := by
 cases B with
 | nil =>
  have : K2 = [] := List.eq_nil_of_length_eq_zero (by simpa using h2)
  subst this
  rw [List.append_nil, ← wl_weave K1 A k h]
  simp [wr]
 | cons b B =>
  cases K2 with
  | nil => simp at h2
  | cons k2 K2 =>
   have := weave_join (K1 ++ [k]) A b B k2 K2 (by simp [h])
   rw [List.append_assoc] at this
   show weave (K1 ++ ([k] ++ k2 :: K2)) (A ++ b :: B) = _
   rw [this, wl_weave K1 A k h, wr_weave]
theorem wl_snoc : ∀ (K1 : List (List KV)) (A : List KV) (k : List KV) (e : KV), K1.length = A.length → wl (K1 ++ [k]) (A ++ [e]) = wl K1 A ++ (k ++ [e])
 | [], [], k, e, _ => by simp [wl]
 | [], a :: A, k, e, h => by simp at h
 | x :: K1, [], k, e, h => by simp at h
 | x :: K1, a :: A, k, e, h => by
  have ih := wl_snoc K1 A k e (by simpa using h)
  show x ++ a :: wl (K1 ++ [k]) (A ++ [e]) = (x ++ a :: wl K1 A) ++ _
  rw [ih]
  simp
theorem wl_lt {K1 : List (List KV)} {A : List KV} {k : Str} (h : K1.length = A.length) (hs : Srt (wl K1 A)) (hA : ∀ e ∈ A, e.1 < k) : ∀ e ∈ wl K1 A, e.1 < k := by
 rcases List.eq_nil_or_concat A with rfl | ⟨A', a, rfl⟩
 ·
  intro e he
  cases K1 <;> simp [wl] at he
 ·
  rcases List.eq_nil_or_concat K1 with rfl | ⟨K', x, rfl⟩
  · simp at h
  ·
   simp only [List.concat_eq_append] at *
   rw [wl_snoc K' A' x a (by simpa using h), ← List.append_assoc] at hs ⊢
   intro e he
   have ha : a.1 < k := hA a (by simp)
   rcases List.mem_append.1 he with he | he
   · exact slt_trans ((srt_app.1 hs).2.2 e he a (by simp)) ha
   · rw [List.mem_singleton.1 he]; exact ha
theorem wr_gt {K2 : List (List KV)} {B : List KV} {k : Str} (hs : Srt (wr B K2)) (hB : ∀ e ∈ B, k < e.1) : ∀ e ∈ wr B K2, k < e.1 := by
 cases B with
 | nil => intro e he; simp [wr] at he
 | cons b B =>
  cases K2 with
  | nil => intro e he; simp [wr] at he
  | cons k2 K2 =>
   have hb : k < b.1 := hB b List.mem_cons_self
   intro e he
   rcases List.mem_cons.1 he with rfl | he
   · exact hb
   · exact slt_trans hb ((srt_cons.1 hs).1 e he)
def BT : Nat → Type
 | 0 => List KV
 | h + 1 => List KV × List (BT h)
def BT.es : {h : Nat} → BT h → List KV
 | 0, t => t
 | _ + 1, t => t.1
def BT.kids {h : Nat} (t : BT (h + 1)) : List (BT h) := t.2
def flat : (h : Nat) → BT h → List KV
 | 0, t => t
 | h + 1, t => weave (t.2.map (flat h)) t.1
def BT.Ok : (h : Nat) → Nat → BT h → Prop
 | 0, lo, t => lo ≤ List.length (α := KV) t ∧ List.length (α := KV) t ≤ 7
 | h + 1, lo, t => lo ≤ t.1.length ∧ t.1.length ≤ 7 ∧ t.2.length = t.1.length + 1 ∧ ∀ c ∈ t.2, BT.Ok h 3 c
theorem BT.Ok.es {h lo : Nat} {t : BT h} (o : BT.Ok h lo t) : lo ≤ t.es.length ∧ t.es.length ≤ 7 := by
 cases h with
 | zero => exact o
 | succ h => exact ⟨o.1, o.2.1⟩
theorem BT.Ok.mono {h lo lo' : Nat} {t : BT h} (o : BT.Ok h lo t) (hl : lo' ≤ lo) : BT.Ok h lo' t := by
 cases h with
 | zero => exact ⟨Nat.le_trans hl o.1, o.2⟩
 | succ h => exact ⟨Nat.le_trans hl o.1, o.2⟩
theorem flat_split {h : Nat} (A B : List KV) (K1 K2 : List (BT h)) (c : BT h) (h1 : K1.length = A.length) (h2 : K2.length = B.length) :
  flat (h + 1) (A ++ B, K1 ++ c :: K2) = wl (K1.map (flat h)) A ++ flat h c ++ wr B (K2.map (flat h)) := by
 show weave ((K1 ++ c :: K2).map (flat h)) (A ++ B) = _
 rw [List.map_append, List.map_cons]
 exact weave_split _ A B _ _ (by simpa using h1) (by simpa using h2)
theorem flat_two {h : Nat} (A B : List KV) (K1 K2 : List (BT h)) (l r : BT h) (e : KV) (h1 : K1.length = A.length) (h2 : K2.length = B.length) :
  flat (h + 1) (A ++ e :: B, K1 ++ l :: r :: K2) = wl (K1.map (flat h)) A ++ (flat h l ++ e :: flat h r) ++ wr B (K2.map (flat h)) := by
 rw [flat_split A (e :: B) K1 (r :: K2) l h1 (by simp [h2])]
 simp [wr]
def pos (es : List KV) (k : Str) : Nat := es.findIdx (fun e => !decide (e.1 < k))
theorem pos_le (es : List KV) (k : Str) : pos es k ≤ es.length := List.findIdx_le_length
theorem pos_lt {es : List KV} {k : Str} : ∀ e ∈ es.take (pos es k), e.1 < k := by
 intro e he
 obtain ⟨i, hi, rfl⟩ := List.getElem_of_mem he
 have h1 : i < pos es k := by rw [List.length_take] at hi; omega
 have := List.not_of_lt_findIdx (p := fun e : KV => !decide (e.1 < k)) (xs := es) h1
 rw [List.getElem_take]
 simpa using this
theorem pos_hd {es : List KV} {k : Str} (h : pos es k < es.length) : ¬ (es[pos es k]).1 < k := by
 have := List.findIdx_getElem (p := fun e : KV => !decide (e.1 < k)) (xs := es) (w := h)
 simp only [Bool.not_eq_true', decide_eq_false_iff_not] at this
 exact this
theorem Srt.of_get {es : List KV} (hs : Srt es) {i j : Nat} (hi : i < es.length) (hj : j < es.length) (h : i < j) : (es[i]).1 < (es[j]).1 := List.pairwise_iff_getElem.1 hs i j hi hj h
theorem pos_ge {es : List KV} {k : Str} (hs : Srt es) : ∀ e ∈ es.drop (pos es k), ¬ e.1 < k := by
 intro e he
 obtain ⟨i, hi, rfl⟩ := List.getElem_of_mem he
 rw [List.length_drop] at hi
 have h0 := pos_hd (es := es) (k := k) (by omega)
 rw [List.getElem_drop]
 rcases Nat.eq_zero_or_pos i with rfl | h
 · exact h0
 ·
  intro hlt
  exact h0 (slt_trans (hs.of_get (by omega) (by omega) (by omega)) hlt)
def hit (es : List KV) (k : Str) : Bool := match es[pos es k]? with | some e => decide (e.1 = k) | none => false
theorem hit_yes {es : List KV} {k : Str} (h : hit es k = true) : ∃ v, pos es k < es.length ∧ es[pos es k]? = some (k, v) := by
 unfold hit at h
 cases e : es[pos es k]? with
 | none => rw [e] at h; cases h
 | some x =>
  rw [e] at h
  simp only [decide_eq_true_eq] at h
  obtain ⟨xk, xv⟩ := x
  simp only at h
  subst h
  exact ⟨xv, (List.getElem?_eq_some_iff.1 e).1, rfl⟩
theorem hit_no {es : List KV} {k : Str} (hs : Srt es) (h : hit es k = false) : ∀ e ∈ es.drop (pos es k), k < e.1 := by
 intro e he
 have hn := pos_ge (k := k) hs e he
 refine slt_of_not hn ?_
 rintro rfl
 obtain ⟨i, hi, hie⟩ := List.getElem_of_mem he
 rw [List.length_drop] at hi
 have h0 := pos_hd (es := es) (k := e.1) (by omega)
 rw [List.getElem_drop] at hie
 rcases Nat.eq_zero_or_pos i with rfl | hp
 ·
  unfold hit at h
  rw [List.getElem?_eq_getElem (by omega)] at h
  simp only [Nat.add_zero] at hie
  rw [hie] at h
  simp at h
 ·
  have := hs.of_get (i := pos es e.1) (j := pos es e.1 + i) (by omega) (by omega) (by omega)
  rw [hie] at this
  exact h0 this
theorem split_at {α : Type} (l : List α) (i : Nat) : l = l.take i ++ l.drop i := (List.take_append_drop i l).symm
theorem split_get {α : Type} {l : List α} {i : Nat} {x : α} (h : l[i]? = some x) : l = l.take i ++ x :: l.drop (i + 1) ∧ (l.take i).length = i := by
 obtain ⟨hi, rfl⟩ := List.getElem?_eq_some_iff.1 h
 exact ⟨by rw [← List.drop_eq_getElem_cons hi, List.take_append_drop], by rw [List.length_take]; omega⟩
structure Parts {h : Nat} (t : BT (h + 1)) (k : Str) (A B : List KV) (K1 K2 : List (BT h)) (c : BT h) : Prop where
 es : t.1 = A ++ B
 ks : t.2 = K1 ++ c :: K2
 la : A.length = pos t.1 k
 l1 : K1.length = A.length
 l2 : K2.length = B.length
 kid : t.2[pos t.1 k]? = some c
theorem parts_of {h lo : Nat} {t : BT (h + 1)} (o : BT.Ok (h + 1) lo t) (k : Str) : ∃ A B K1 K2 c, Parts t k A B K1 K2 c := by
 have hp := pos_le t.1 k
 have hlt : pos t.1 k < t.2.length := by rw [o.2.2.1]; omega
 have hg := List.getElem?_eq_getElem hlt
 obtain ⟨h1, h2⟩ := split_get hg
 have := o.2.2.1
 have hl : (t.1.take (pos t.1 k)).length = pos t.1 k := by rw [List.length_take]; omega
 exact ⟨_, _, _, _, _, split_at t.1 _, h1, hl, h2.trans hl.symm, by simp only [List.length_drop]; omega, hg⟩
theorem Parts.flat {h : Nat} {t : BT (h + 1)} {k : Str} {A B : List KV} {K1 K2 : List (BT h)} {c : BT h} (p : Parts t k A B K1 K2 c) : flat (h + 1) t = wl (K1.map (flat h)) A ++ flat h c ++ wr B (K2.map (Proofs.Ytmafnjidhjabgaa.flat h)) := by
 have : t = (A ++ B, K1 ++ c :: K2) := Prod.ext p.es p.ks
 rw [this]
 exact flat_split A B K1 K2 c p.l1 p.l2
theorem wr_sub : ∀ (B : List KV) (K : List (List KV)), K.length = B.length → B.Sublist (wr B K)
 | [], [], _ => List.Sublist.refl _
 | [], _ :: _, h => by simp at h
 | b :: B, [], h => by simp at h
 | b :: B, k :: K, h => ((wr_sub B K (by simpa using h)).trans (List.sublist_append_right k _)).cons_cons b
theorem wl_sub : ∀ (K : List (List KV)) (A : List KV), K.length = A.length → A.Sublist (wl K A)
 | [], [], _ => List.Sublist.refl _
 | [], _ :: _, h => by simp at h
 | k :: K, [], h => by simp at h
 | k :: K, a :: A, h => ((wl_sub K A (by simpa using h)).cons_cons a).trans (List.sublist_append_right k _)
theorem es_srt {h lo : Nat} {t : BT h} (o : BT.Ok h lo t) (hs : Srt (flat h t)) : Srt t.es := by
 cases h with
 | zero => exact hs
 | succ h =>
  obtain ⟨A, B, K1, K2, c, p⟩ := parts_of o []
  rw [p.flat] at hs
  show Srt t.1
  rw [p.es]
  refine hs.sub ?_
  exact ((wl_sub _ A (by simpa using p.l1)).trans (List.sublist_append_left _ _)).append (wr_sub B _ (by simpa using p.l2))
theorem Parts.lo {h : Nat} {t : BT (h + 1)} {k : Str} {A B : List KV} {K1 K2 : List (BT h)} {c : BT h} (p : Parts t k A B K1 K2 c) (hs : Srt (Proofs.Ytmafnjidhjabgaa.flat (h + 1) t)) : ∀ e ∈ wl (K1.map (Proofs.Ytmafnjidhjabgaa.flat h)) A, e.1 < k := by
 rw [p.flat] at hs
 have h1 := (srt_app.1 (srt_app.1 hs).1).1
 refine wl_lt (by simpa using p.l1) h1 ?_
 intro e he
 refine pos_lt (es := t.1) (k := k) e ?_
 rw [← p.la, p.es, List.take_left]
 exact he
theorem Parts.hi {h lo : Nat} {t : BT (h + 1)} {k : Str} {A B : List KV} {K1 K2 : List (BT h)} {c : BT h} (p : Parts t k A B K1 K2 c) (o : BT.Ok (h + 1) lo t) (hs : Srt (Proofs.Ytmafnjidhjabgaa.flat (h + 1) t)) (hn : hit t.1 k = false) : ∀ e ∈ wr B (K2.map (Proofs.Ytmafnjidhjabgaa.flat h)), k < e.1 := by
 have hes : Srt t.1 := es_srt o hs
 rw [p.flat] at hs
 refine wr_gt (srt_app.1 hs).2.1 ?_
 intro e he
 refine hit_no hes hn e ?_
 rw [← p.la, p.es, List.drop_left]
 exact he
theorem Parts.kid_srt {h : Nat} {t : BT (h + 1)} {k : Str} {A B : List KV} {K1 K2 : List (BT h)} {c : BT h} (p : Parts t k A B K1 K2 c) (hs : Srt (Proofs.Ytmafnjidhjabgaa.flat (h + 1) t)) : Srt (Proofs.Ytmafnjidhjabgaa.flat h c) := by
 rw [p.flat] at hs
 exact (srt_app.1 (srt_app.1 hs).1).2.1
theorem Parts.hit {h : Nat} {t : BT (h + 1)} {k v : Str} {A B : List KV} {K1 K2 : List (BT h)} {c : BT h} (p : Parts t k A B K1 K2 c) (hh : t.1[pos t.1 k]? = some (k, v)) : ∃ B', B = (k, v) :: B' := by
 rw [p.es, ← p.es, ← p.la, p.es, List.getElem?_append_right (Nat.le_refl _), Nat.sub_self] at hh
 cases B with
 | nil => simp at hh
 | cons b B => simp at hh; exact ⟨B, by rw [hh]⟩
end Go.Proofs.Ytmafnjidhjabgaa
namespace Go.Proofs.Ytmafnjidhjabgaa
inductive PR (α : Type) where
 | one (t : α)
 | two (l r : α) (e : KV)
def insAt {α : Type} (l : List α) (i : Nat) (x : α) : List α := l.take i ++ x :: l.drop i
theorem insAt_length {α : Type} {l : List α} {i : Nat} {x : α} (h : i ≤ l.length) : (insAt l i x).length = l.length + 1 := by
 simp [insAt]; omega
theorem insAt_split {α : Type} (A B : List α) (x : α) : insAt (A ++ B) A.length x = A ++ x :: B := by simp [insAt]
def esD (es : List KV) (i : Nat) : KV := (es[i]?).getD ([], [])
theorem esD_at {es : List KV} {i : Nat} (h : i < es.length) : esD es i = es[i] := by unfold esD; rw [List.getElem?_eq_getElem h]; rfl
theorem es_cut {es : List KV} {m : Nat} (h : m < es.length) : es = es.take m ++ esD es m :: es.drop (m + 1) := by
 rw [esD_at h, ← List.drop_eq_getElem_cons h, List.take_append_drop]
def cut0 (es : List KV) : PR (BT 0) := if es.length ≤ 7 then .one es else .two (es.take (es.length / 2)) (es.drop (es.length / 2 + 1)) (esD es (es.length / 2))
def cutN {h : Nat} (es : List KV) (ks : List (BT h)) : PR (BT (h + 1)) :=
 if es.length ≤ 7 then .one (es, ks) else .two (es.take (es.length / 2), ks.take (es.length / 2 + 1)) (es.drop (es.length / 2 + 1), ks.drop (es.length / 2 + 1)) (esD es (es.length / 2))
def put : (h : Nat) → BT h → Str → Str → PR (BT h)
 | 0, es, k, v => if hit es k then .one (List.set (α := KV) es (pos es k) (k, v)) else cut0 (insAt (α := KV) es (pos es k) (k, v))
 | h + 1, t, k, v => if hit t.1 k then .one (t.1.set (pos t.1 k) (k, v), t.2) else
  match t.2[pos t.1 k]? with
  | none => .one t
  | some c => match put h c k v with
   | .one l => .one (t.1, t.2.set (pos t.1 k) l)
   | .two l r e => cutN (insAt t.1 (pos t.1 k) e) (insAt (t.2.set (pos t.1 k) l) (pos t.1 k + 1) r)
def PR.flat {h : Nat} : PR (BT h) → List KV
 | .one t => Proofs.Ytmafnjidhjabgaa.flat h t
 | .two l r e => Proofs.Ytmafnjidhjabgaa.flat h l ++ e :: Proofs.Ytmafnjidhjabgaa.flat h r
def PR.Ok {h : Nat} (lo : Nat) : PR (BT h) → Prop
 | .one t => BT.Ok h lo t
 | .two l r _ => BT.Ok h 3 l ∧ BT.Ok h 3 r
theorem cut0_spec {es : List KV} {lo : Nat} (h1 : lo ≤ es.length) (h2 : es.length ≤ 8) : PR.flat (cut0 es) = es ∧ PR.Ok lo (cut0 es) := by
 unfold cut0
 split
 ·
  rename_i h
  exact ⟨rfl, h1, h⟩
 ·
  rename_i h
  have e : es.length = 8 := by omega
  refine ⟨?_, ⟨?_, ?_⟩, ?_, ?_⟩
  · exact (es_cut (es := es) (m := es.length / 2) (by omega)).symm
  · show 3 ≤ (es.take _).length; rw [List.length_take]; omega
  · show (es.take _).length ≤ 7; rw [List.length_take]; omega
  · show 3 ≤ (es.drop _).length; rw [List.length_drop]; omega
  · show (es.drop _).length ≤ 7; rw [List.length_drop]; omega
theorem flat_join {h : Nat} (A B : List KV) (K1 K2 : List (BT h)) (e : KV) (h1 : K1.length = A.length + 1) (h2 : K2.length = B.length + 1) : flat (h + 1) (A ++ e :: B, K1 ++ K2) = flat (h + 1) (A, K1) ++ e :: flat (h + 1) (B, K2) := by
 cases K2 with
 | nil => simp at h2
 | cons k K2 =>
  show weave ((K1 ++ k :: K2).map (flat h)) (A ++ e :: B) = _
  rw [List.map_append, List.map_cons, weave_join _ A e B _ _ (by simpa using h1)]
  rfl
theorem cutN_spec {h : Nat} {es : List KV} {ks : List (BT h)} {lo : Nat} (h1 : lo ≤ es.length) (h2 : es.length ≤ 8) (h3 : ks.length = es.length + 1) (h4 : ∀ c ∈ ks, BT.Ok h 3 c) : PR.flat (cutN es ks) = flat (h + 1) (es, ks) ∧ PR.Ok lo (cutN es ks) := by
 unfold cutN
 split
 ·
  rename_i h
  exact ⟨rfl, h1, h, h3, h4⟩
 ·
  rename_i hn
  have e : es.length = 8 := by omega
  refine ⟨?_, ⟨?_, ?_, ?_, ?_⟩, ?_, ?_, ?_, ?_⟩
  ·
   have hc := es_cut (es := es) (m := es.length / 2) (by omega)
   have hk := split_at ks (es.length / 2 + 1)
   show flat (h + 1) _ ++ _ :: flat (h + 1) _ = _
   rw [← flat_join _ _ _ _ _ (by rw [List.length_take, List.length_take]; omega) (by rw [List.length_drop, List.length_drop]; omega), ← hc, ← hk]
  · show 3 ≤ (es.take _).length; rw [List.length_take]; omega
  · show (es.take _).length ≤ 7; rw [List.length_take]; omega
  · show (ks.take _).length = (es.take _).length + 1; rw [List.length_take, List.length_take]; omega
  · exact fun c hc => h4 c (List.mem_of_mem_take hc)
  · show 3 ≤ (es.drop _).length; rw [List.length_drop]; omega
  · show (es.drop _).length ≤ 7; rw [List.length_drop]; omega
  · show (ks.drop _).length = (es.drop _).length + 1; rw [List.length_drop, List.length_drop]; omega
  · exact fun c hc => h4 c (List.mem_of_mem_drop hc)
theorem kids_ok {h lo : Nat} {t : BT (h + 1)} (o : BT.Ok (h + 1) lo t) {i : Nat} {c : BT h} (hc : t.2[i]? = some c) : BT.Ok h 3 c := o.2.2.2 c (List.mem_of_getElem? hc)
theorem set_split {α : Type} (A B : List α) (x y : α) : (A ++ x :: B).set A.length y = A ++ y :: B := by simp
theorem flat_hit {h lo : Nat} {t : BT (h + 1)} (o : BT.Ok (h + 1) lo t) {k v : Str} (hh : t.1[pos t.1 k]? = some (k, v)) : ∃ X Y, flat (h + 1) t = X ++ (k, v) :: Y ∧ ∀ v', flat (h + 1) (t.1.set (pos t.1 k) (k, v'), t.2) = X ++ (k, v') :: Y := by
 obtain ⟨A, B, K1, K2, c, p⟩ := parts_of o k
 obtain ⟨B', rfl⟩ := p.hit hh
 refine ⟨wl (K1.map (flat h)) A ++ flat h c, (match K2.map (flat h) with | [] => [] | k2 :: ks => weave (k2 :: ks) B'), ?_, fun v' => ?_⟩
 ·
  rw [p.flat]
  have := p.l2
  cases K2 with
  | nil => simp at this
  | cons k2 K2 => rw [List.map_cons, wr_weave]
 ·
  have e : (t.1.set (pos t.1 k) (k, v'), t.2) = ((A ++ (k, v') :: B', K1 ++ c :: K2) : BT (h + 1)) := by
   rw [p.ks, ← p.la]
   conv => lhs; rw [p.es]
   rw [set_split]
  rw [e, flat_split A _ K1 K2 c p.l1 (by have := p.l2; simpa using this)]
  have := p.l2
  cases K2 with
  | nil => simp at this
  | cons k2 K2 => rw [List.map_cons, wr_weave]
theorem set_ok {h lo : Nat} {t : BT (h + 1)} (o : BT.Ok (h + 1) lo t) (i : Nat) (e : KV) : BT.Ok (h + 1) lo (t.1.set i e, t.2) := ⟨by rw [List.length_set]; exact o.1, by rw [List.length_set]; exact o.2.1, by rw [List.length_set]; exact o.2.2.1, o.2.2.2⟩
def putL (es : List KV) (k v : Str) : PR (BT 0) := if hit es k then .one (es.set (pos es k) (k, v)) else cut0 (insAt es (pos es k) (k, v))
theorem put_leaf (k v : Str) (lo : Nat) (t : List KV) (o1 : lo ≤ t.length) (o2 : t.length ≤ 7) (hs : Srt t) : PR.flat (putL t k v) = ins k v t ∧ PR.Ok lo (putL t k v) := by
 by_cases hh : hit t k = true
 ·
  obtain ⟨v0, hl, hg⟩ := hit_yes hh
  obtain ⟨h1, h2⟩ := split_get hg
  have e : putL t k v = .one (t.set (pos t k) (k, v)) := by unfold putL; rw [if_pos hh]
  rw [e]
  have hlen : (t.set (pos t k) (k, v)).length = t.length := List.length_set
  refine ⟨?_, show lo ≤ (t.set (pos t k) (k, v)).length by omega, show (t.set (pos t k) (k, v)).length ≤ 7 by omega⟩
  show t.set (pos t k) (k, v) = ins k v t
  generalize t.take (pos t k) = X at h1 h2
  generalize t.drop (pos t k + 1) = Y at h1
  rw [← h2, h1, set_split]
  rw [h1] at hs
  exact (ins_hit hs).symm
 ·
  have hh : hit t k = false := by simpa using hh
  have e : putL t k v = cut0 (insAt t (pos t k) (k, v)) := by unfold putL; rw [hh]; rfl
  have hl := insAt_length (l := t) (x := (k, v)) (pos_le t k)
  rw [e]
  have hc := cut0_spec (es := insAt t (pos t k) (k, v)) (lo := lo) (by omega) (by omega)
  refine ⟨?_, hc.2⟩
  rw [hc.1]
  have := ins_none (k := k) (v := v) (P := t.take (pos t k)) (Q := t.drop (pos t k)) pos_lt (hit_no hs hh)
  rw [List.take_append_drop] at this
  exact this.symm
theorem put_spec (k v : Str) : ∀ (h lo : Nat) (t : BT h), BT.Ok h lo t → Srt (flat h t) → PR.flat (put h t k v) = ins k v (flat h t) ∧ PR.Ok lo (put h t k v)
 | 0, lo, t, o, hs => put_leaf k v lo t o.1 o.2 hs
 | h + 1, lo, t, o, hs => by
  by_cases hh : hit t.1 k = true
  ·
   obtain ⟨v0, hl, hg⟩ := hit_yes hh
   have e : put (h + 1) t k v = .one (t.1.set (pos t.1 k) (k, v), t.2) := by unfold put; rw [if_pos hh]
   rw [e]
   obtain ⟨X, Y, e1, e2⟩ := flat_hit o hg
   refine ⟨?_, set_ok o _ _⟩
   show flat (h + 1) (t.1.set (pos t.1 k) (k, v), t.2) = _
   rw [e2 v, e1]
   rw [e1] at hs
   exact (ins_hit hs).symm
  ·
   have hh : hit t.1 k = false := by simpa using hh
   obtain ⟨A, B, K1, K2, c, p⟩ := parts_of o k
   have ih := put_spec k v h 3 c (kids_ok o p.kid) (p.kid_srt hs)
   have hm := ins_mid (k := k) (v := v) (M := flat h c) (p.lo hs) (p.hi o hs hh)
   have o1 := o.1
   have o2 := o.2.1
   have o3 := o.2.2.1
   have o4 := o.2.2.2
   have e : put (h + 1) t k v = (match put h c k v with
    | .one l => .one (t.1, t.2.set (pos t.1 k) l)
    | .two l r e => cutN (insAt t.1 (pos t.1 k) e) (insAt (t.2.set (pos t.1 k) l) (pos t.1 k + 1) r)) := by
    conv => lhs; unfold put
    rw [hh]
    simp only [p.kid]
    rfl
   rw [e, p.flat, hm]
   have hl1 := p.l1
   have hl2 := p.l2
   have hes : t.1.length = A.length + B.length := by rw [p.es, List.length_append]
   cases hq : put h c k v with
   | one l =>
    rw [hq] at ih
    have e2 : t.2.set (pos t.1 k) l = K1 ++ l :: K2 := by rw [← p.la, p.ks, ← p.l1, set_split]
    refine ⟨?_, ?_⟩
    ·
     show flat (h + 1) (t.1, t.2.set (pos t.1 k) l) = _
     rw [e2, p.es, flat_split A B K1 K2 l p.l1 p.l2]
     rw [← ih.1]
     rfl
    ·
     refine ⟨o1, o2, ?_, ?_⟩
     · show (t.2.set _ _).length = _; rw [List.length_set]; exact o3
     ·
      intro d hd
      rcases List.mem_or_eq_of_mem_set hd with hd | rfl
      · exact o4 d hd
      · exact ih.2
   | two l r x =>
    rw [hq] at ih
    have e2 : insAt t.1 (pos t.1 k) x = A ++ x :: B := by rw [← p.la, p.es, insAt_split]
    have e3 : insAt (t.2.set (pos t.1 k) l) (pos t.1 k + 1) r = K1 ++ l :: r :: K2 := by
     rw [← p.la, p.ks, ← p.l1, set_split]
     have := insAt_split (K1 ++ [l]) K2 r
     simp only [List.length_append, List.length_cons, List.length_nil, List.append_assoc, List.cons_append, List.nil_append] at this
     exact this
    simp only
    rw [e2, e3]
    have hc := cutN_spec (h := h) (es := A ++ x :: B) (ks := K1 ++ l :: r :: K2) (lo := lo) (by simp; omega) (by simp; omega) (by simp; omega) (by
     intro d hd
     have hin : ∀ d, d ∈ K1 ++ K2 → BT.Ok h 3 d := fun d hd => o4 d (by rw [p.ks]; simp only [List.mem_append, List.mem_cons] at hd ⊢; rcases hd with hd | hd; exact .inl hd; exact .inr (.inr hd))
     simp only [List.mem_append, List.mem_cons] at hd
     rcases hd with hd | rfl | rfl | hd
     · exact hin d (by simp [hd])
     · exact ih.2.1
     · exact ih.2.2
     · exact hin d (by simp [hd]))
    refine ⟨?_, hc.2⟩
    rw [hc.1, flat_two A B K1 K2 l r x p.l1 p.l2]
    rw [← ih.1]
    rfl
end Go.Proofs.Ytmafnjidhjabgaa
namespace Go.Proofs.Ytmafnjidhjabgaa
theorem flat_eta {h : Nat} (t : BT (h + 1)) : flat (h + 1) (t.1, t.2) = flat (h + 1) t := rfl
def lastE : (h : Nat) → BT h → KV
 | 0, t => esD t (List.length (α := KV) t - 1)
 | h + 1, t => match t.2[t.2.length - 1]? with | some c => lastE h c | none => ([], [])
def giveR : (h : Nat) → BT h → BT h → KV → BT h × KV × BT h
 | 0, b, a, e => (List.take (α := KV) (List.length (α := KV) b - 1) b, esD b (List.length (α := KV) b - 1), List.cons (α := KV) e a)
 | _ + 1, b, a, e => ((b.1.take (b.1.length - 1), b.2.take b.1.length), esD b.1 (b.1.length - 1), (e :: a.1, b.2.drop b.1.length ++ a.2))
def giveL : (h : Nat) → BT h → BT h → KV → BT h × KV × BT h
 | 0, a, b, e => (List.append (α := KV) a [e], esD b 0, List.drop (α := KV) 1 b)
 | _ + 1, a, b, e => ((a.1 ++ [e], a.2 ++ b.2.take 1), esD b.1 0, (b.1.drop 1, b.2.drop 1))
def joinT : (h : Nat) → BT h → BT h → KV → BT h
 | 0, l, r, e => List.append (α := KV) l (e :: r)
 | _ + 1, l, r, e => (l.1 ++ e :: r.1, l.2 ++ r.2)
theorem esD_last {es : List KV} (h : 0 < es.length) : es = es.take (es.length - 1) ++ [esD es (es.length - 1)] := by
 have := es_cut (es := es) (m := es.length - 1) (by omega)
 rw [List.drop_eq_nil_of_le (by omega)] at this
 exact this
theorem esD_first {es : List KV} (h : 0 < es.length) : es = esD es 0 :: es.drop 1 := by
 have := es_cut (es := es) (m := 0) h
 simpa using this
theorem lastL_spec {es : List KV} (h : 0 < es.length) : ∃ X, es = X ++ [esD es (es.length - 1)] := ⟨_, esD_last h⟩
theorem lastE_spec : ∀ (h lo : Nat) (t : BT h), BT.Ok h lo t → 0 < lo → ∃ X, flat h t = X ++ [lastE h t]
 | 0, lo, t, o, hl => lastL_spec (es := t) (Nat.lt_of_lt_of_le hl o.1)
 | h + 1, lo, t, o, hl => by
  have hk := o.2.2.1
  have hlt : t.2.length - 1 < t.2.length := by omega
  have hg := List.getElem?_eq_getElem hlt
  obtain ⟨X, hX⟩ := lastE_spec h 3 _ (kids_ok o hg) (by omega)
  obtain ⟨h1, h2⟩ := split_get hg
  have e : lastE (h + 1) t = lastE h t.2[t.2.length - 1] := by
   conv => lhs; unfold lastE
   rw [hg]
  rw [e]
  have hd : t.2.drop (t.2.length - 1 + 1) = [] := List.drop_eq_nil_of_le (by omega)
  rw [hd] at h1
  have hf := flat_split (h := h) t.1 [] (t.2.take (t.2.length - 1)) [] t.2[t.2.length - 1] (by omega) rfl
  rw [List.append_nil, ← h1] at hf
  refine ⟨wl ((t.2.take (t.2.length - 1)).map (flat h)) t.1 ++ X, ?_⟩
  refine (show flat (h + 1) t = _ from hf).trans ?_
  rw [hX]
  simp [wr]
theorem giveR0 {b a : List KV} {e : KV} (hb : 4 ≤ b.length) (hb2 : b.length ≤ 7) (ha : a.length = 2) : b ++ e :: a = b.take (b.length - 1) ++ esD b (b.length - 1) :: e :: a ∧ (3 ≤ (b.take (b.length - 1)).length ∧ (b.take (b.length - 1)).length ≤ 7) ∧ (3 ≤ (e :: a).length ∧ (e :: a).length ≤ 7) := by
 refine ⟨?_, ?_, ?_⟩
 ·
  conv => lhs; rw [esD_last (es := b) (by omega)]
  simp
 · rw [List.length_take]; omega
 · simp; omega
theorem giveR_spec : ∀ (h : Nat) (b a : BT h) (e : KV), BT.Ok h 4 b → BT.Ok h 2 a → a.es.length = 2 →
  flat h b ++ e :: flat h a = flat h (giveR h b a e).1 ++ (giveR h b a e).2.1 :: flat h (giveR h b a e).2.2 ∧ BT.Ok h 3 (giveR h b a e).1 ∧ BT.Ok h 3 (giveR h b a e).2.2
 | 0, b, a, e, hb, ha, h2 => giveR0 hb.1 hb.2 h2
 | h + 1, b, a, e, hb, ha, h2 => by
  have b1 := hb.1
  have b2 := hb.2.1
  have b3 := hb.2.2.1
  have a3 := ha.2.2.1
  have h2' : a.1.length = 2 := h2
  have hl : b.2.drop b.1.length ≠ [] := by intro h0; have := congrArg List.length h0; rw [List.length_drop] at this; simp at this; omega
  obtain ⟨y, hy⟩ : ∃ y, b.2.drop b.1.length = [y] := by
   have hlen : (b.2.drop b.1.length).length = 1 := by rw [List.length_drop]; omega
   exact List.length_eq_one_iff.1 hlen
  have hk : b.2 = b.2.take b.1.length ++ [y] := by rw [← hy, List.take_append_drop]
  have hym : y ∈ b.2 := by rw [hk]; simp
  refine ⟨?_, ⟨?_, ?_, ?_, ?_⟩, ?_, ?_, ?_, ?_⟩
  ·
   have he := esD_last (es := b.1) (by omega)
   have e1 : flat (h + 1) b = flat (h + 1) (b.1.take (b.1.length - 1), b.2.take b.1.length) ++ esD b.1 (b.1.length - 1) :: flat (h + 1) ([], [y]) := by
    rw [← flat_join _ _ _ _ _ (by rw [List.length_take, List.length_take]; omega) rfl, ← he, ← hk]; rfl
   have e2 : flat (h + 1) (e :: a.1, [y] ++ a.2) = flat (h + 1) ([], [y]) ++ e :: flat (h + 1) (a.1, a.2) := flat_join [] a.1 [y] a.2 e rfl a3
   show flat (h + 1) b ++ e :: flat (h + 1) a = flat (h + 1) (b.1.take (b.1.length - 1), b.2.take b.1.length) ++ esD b.1 (b.1.length - 1) :: flat (h + 1) (e :: a.1, b.2.drop b.1.length ++ a.2)
   rw [hy, e1, e2]
   simp [flat_eta]
  · show 3 ≤ (b.1.take _).length; rw [List.length_take]; omega
  · show (b.1.take _).length ≤ 7; rw [List.length_take]; omega
  · show (b.2.take _).length = (b.1.take _).length + 1; rw [List.length_take, List.length_take]; omega
  · exact fun c hc => hb.2.2.2 c (List.mem_of_mem_take hc)
  · show 3 ≤ (e :: a.1).length; rw [List.length_cons]; omega
  · show (e :: a.1).length ≤ 7; rw [List.length_cons]; omega
  · show (b.2.drop _ ++ a.2).length = (e :: a.1).length + 1; rw [hy]; simp; omega
  ·
   intro c hc
   have hc' : c ∈ b.2.drop b.1.length ++ a.2 := hc
   rw [hy] at hc'
   rcases List.mem_cons.1 hc' with rfl | hc'
   · exact hb.2.2.2 c hym
   · exact ha.2.2.2 c hc'
theorem giveL0 {a b : List KV} {e : KV} (hb : 4 ≤ b.length) (hb2 : b.length ≤ 7) (ha : a.length = 2) : a ++ e :: b = (a ++ [e]) ++ esD b 0 :: b.drop 1 ∧ (3 ≤ (a ++ [e]).length ∧ (a ++ [e]).length ≤ 7) ∧ (3 ≤ (b.drop 1).length ∧ (b.drop 1).length ≤ 7) := by
 refine ⟨?_, ?_, ?_⟩
 · rw [← esD_first (es := b) (by omega)]; simp
 · simp; omega
 · rw [List.length_drop]; omega
theorem giveL_spec : ∀ (h : Nat) (a b : BT h) (e : KV), BT.Ok h 2 a → BT.Ok h 4 b → a.es.length = 2 →
  flat h a ++ e :: flat h b = flat h (giveL h a b e).1 ++ (giveL h a b e).2.1 :: flat h (giveL h a b e).2.2 ∧ BT.Ok h 3 (giveL h a b e).1 ∧ BT.Ok h 3 (giveL h a b e).2.2
 | 0, a, b, e, ha, hb, h2 => giveL0 hb.1 hb.2 h2
 | h + 1, a, b, e, ha, hb, h2 => by
  have b1 := hb.1
  have b2 := hb.2.1
  have b3 := hb.2.2.1
  have a3 := ha.2.2.1
  have h2' : a.1.length = 2 := h2
  obtain ⟨y, hy⟩ : ∃ y, b.2.take 1 = [y] := by
   have hlen : (b.2.take 1).length = 1 := by rw [List.length_take]; omega
   exact List.length_eq_one_iff.1 hlen
  have hk : b.2 = [y] ++ b.2.drop 1 := by rw [← hy, List.take_append_drop]
  have hym : y ∈ b.2 := by rw [hk]; simp
  refine ⟨?_, ⟨?_, ?_, ?_, ?_⟩, ?_, ?_, ?_, ?_⟩
  ·
   have he := esD_first (es := b.1) (by omega)
   have e1 : flat (h + 1) b = flat (h + 1) ([], [y]) ++ esD b.1 0 :: flat (h + 1) (b.1.drop 1, b.2.drop 1) := by
    rw [← flat_join _ _ _ _ _ rfl (by rw [List.length_drop, List.length_drop]; omega), ← hk]
    show flat (h + 1) b = flat (h + 1) (esD b.1 0 :: b.1.drop 1, b.2)
    rw [← he]; rfl
   have e2 : flat (h + 1) (a.1 ++ [e], a.2 ++ [y]) = flat (h + 1) (a.1, a.2) ++ e :: flat (h + 1) ([], [y]) := flat_join a.1 [] a.2 [y] e a3 rfl
   show flat (h + 1) a ++ e :: flat (h + 1) b = flat (h + 1) (a.1 ++ [e], a.2 ++ b.2.take 1) ++ esD b.1 0 :: flat (h + 1) (b.1.drop 1, b.2.drop 1)
   rw [hy, e1, e2]
   simp [flat_eta]
  · show 3 ≤ (a.1 ++ [e]).length; simp; omega
  · show (a.1 ++ [e]).length ≤ 7; simp; omega
  · show (a.2 ++ b.2.take 1).length = (a.1 ++ [e]).length + 1; rw [hy]; simp; omega
  ·
   intro c hc
   have hc' : c ∈ a.2 ++ b.2.take 1 := hc
   rw [hy] at hc'
   rcases List.mem_append.1 hc' with hc' | hc'
   · exact ha.2.2.2 c hc'
   · rw [List.mem_singleton.1 hc']; exact hb.2.2.2 y hym
  · show 3 ≤ (b.1.drop 1).length; rw [List.length_drop]; omega
  · show (b.1.drop 1).length ≤ 7; rw [List.length_drop]; omega
  · show (b.2.drop 1).length = (b.1.drop 1).length + 1; rw [List.length_drop, List.length_drop]; omega
  · exact fun c hc => hb.2.2.2 c (List.mem_of_mem_drop hc)
theorem join0 {l r : List KV} {e : KV} (h1 : 2 ≤ l.length) (h2 : 2 ≤ r.length) (h3 : l.length + r.length ≤ 6) : 3 ≤ (l ++ e :: r).length ∧ (l ++ e :: r).length ≤ 7 := by simp; omega
theorem join_spec : ∀ (h : Nat) (l r : BT h) (e : KV), BT.Ok h 2 l → BT.Ok h 2 r → l.es.length + r.es.length ≤ 6 → flat h (joinT h l r e) = flat h l ++ e :: flat h r ∧ BT.Ok h 3 (joinT h l r e)
 | 0, l, r, e, hl, hr, h3 => ⟨rfl, join0 (l := l) (r := r) hl.1 hr.1 h3⟩
 | h + 1, l, r, e, hl, hr, h3 => by
  have l1 := hl.1
  have r1 := hr.1
  have l3 := hl.2.2.1
  have r3 := hr.2.2.1
  have h3' : l.1.length + r.1.length ≤ 6 := h3
  refine ⟨flat_join l.1 r.1 l.2 r.2 e l3 r3, ?_, ?_, ?_, ?_⟩
  · show 3 ≤ (l.1 ++ e :: r.1).length; simp; omega
  · show (l.1 ++ e :: r.1).length ≤ 7; simp; omega
  · show (l.2 ++ r.2).length = (l.1 ++ e :: r.1).length + 1; simp; omega
  ·
   intro c hc
   rcases List.mem_append.1 (show c ∈ l.2 ++ r.2 from hc) with hc | hc
   · exact hl.2.2.2 c hc
   · exact hr.2.2.2 c hc
def kLen {h : Nat} (ks : List (BT h)) (i : Nat) : Nat := match ks[i]? with | some c => c.es.length | none => 0
theorem kLen_at {h : Nat} {ks : List (BT h)} {i : Nat} {c : BT h} (hc : ks[i]? = some c) : kLen ks i = c.es.length := by unfold kLen; rw [hc]
def fillL {h : Nat} (es : List KV) (ks : List (BT h)) (i : Nat) : List KV × List (BT h) :=
 match ks[i - 1]?, ks[i]? with
 | some b, some a => (es.set (i - 1) (giveR h b a (esD es (i - 1))).2.1, (ks.set (i - 1) (giveR h b a (esD es (i - 1))).1).set i (giveR h b a (esD es (i - 1))).2.2)
 | _, _ => (es, ks)
def fillR {h : Nat} (es : List KV) (ks : List (BT h)) (i : Nat) : List KV × List (BT h) :=
 match ks[i]?, ks[i + 1]? with
 | some a, some b => (es.set i (giveL h a b (esD es i)).2.1, (ks.set i (giveL h a b (esD es i)).1).set (i + 1) (giveL h a b (esD es i)).2.2)
 | _, _ => (es, ks)
def fillJ {h : Nat} (es : List KV) (ks : List (BT h)) (i : Nat) : List KV × List (BT h) :=
 match ks[i]?, ks[i + 1]? with
 | some l, some r => (es.take i ++ es.drop (i + 1), ks.take i ++ joinT h l r (esD es i) :: ks.drop (i + 2))
 | _, _ => (es, ks)
def fillN {h : Nat} (es : List KV) (ks : List (BT h)) (i : Nat) : List KV × List (BT h) :=
 if 3 ≤ kLen ks i then (es, ks)
 else if 1 ≤ i ∧ 3 < kLen ks (i - 1) then fillL es ks i
 else if 3 < kLen ks (i + 1) then fillR es ks i
 else if i + 1 = ks.length then fillJ es ks (i - 1)
 else fillJ es ks i
theorem two_split {α : Type} {l : List α} {i : Nat} {x y : α} (hx : l[i]? = some x) (hy : l[i + 1]? = some y) : l = l.take i ++ x :: y :: l.drop (i + 2) ∧ (l.take i).length = i := by
 obtain ⟨h1, h2⟩ := split_get hx
 have hlt := (List.getElem?_eq_some_iff.1 hy).1
 refine ⟨?_, h2⟩
 have : l.drop (i + 1) = y :: l.drop (i + 2) := by
  rw [List.drop_eq_getElem_cons hlt]
  obtain ⟨_, h⟩ := List.getElem?_eq_some_iff.1 hy
  rw [h]
 rw [← this]
 exact h1
theorem set_two {α : Type} (A B : List α) (x y x' y' : α) : ((A ++ x :: y :: B).set A.length x').set (A.length + 1) y' = A ++ x' :: y' :: B := by
 rw [set_split]
 simp
structure Filled {h : Nat} (es : List KV) (ks : List (BT h)) (r : List KV × List (BT h)) : Prop where
 flat : Proofs.Ytmafnjidhjabgaa.flat (h + 1) r = Proofs.Ytmafnjidhjabgaa.flat (h + 1) (es, ks)
 lo : es.length ≤ r.1.length + 1
 hi : r.1.length ≤ es.length
 len : r.2.length = r.1.length + 1
 kids : ∀ c ∈ r.2, BT.Ok h 3 c
theorem mids_ok {h : Nat} {es : List KV} {ks : List (BT h)} {i : Nat} {a b : BT h} (hl : ks.length = es.length + 1) (hx : ks[i]? = some a) (hy : ks[i + 1]? = some b) :
  es = es.take i ++ esD es i :: es.drop (i + 1) ∧ ks = ks.take i ++ a :: b :: ks.drop (i + 2) ∧ (es.take i).length = i ∧ (ks.take i).length = i ∧ (ks.drop (i + 2)).length = (es.drop (i + 1)).length ∧ i < es.length := by
 have hlt := (List.getElem?_eq_some_iff.1 hy).1
 obtain ⟨h1, h2⟩ := two_split hx hy
 exact ⟨es_cut (by omega), h1, by rw [List.length_take]; omega, h2, by rw [List.length_drop, List.length_drop]; omega, by omega⟩
theorem pair_flat {h : Nat} {es : List KV} {ks : List (BT h)} {i : Nat} {a b : BT h} (hl : ks.length = es.length + 1) (hx : ks[i]? = some a) (hy : ks[i + 1]? = some b) :
  flat (h + 1) (es, ks) = wl ((ks.take i).map (flat h)) (es.take i) ++ (flat h a ++ esD es i :: flat h b) ++ wr (es.drop (i + 1)) ((ks.drop (i + 2)).map (flat h)) := by
 obtain ⟨h1, h2, h3, h4, h5, h6⟩ := mids_ok hl hx hy
 conv => lhs; rw [h1, h2]
 exact flat_two _ _ _ _ a b _ (by omega) (by omega)
theorem pair_set {h : Nat} {es : List KV} {ks : List (BT h)} {i : Nat} {a b a' b' : BT h} {e' : KV} (hl : ks.length = es.length + 1) (hx : ks[i]? = some a) (hy : ks[i + 1]? = some b)
  (hk : ∀ j c, j ≠ i → j ≠ i + 1 → ks[j]? = some c → BT.Ok h 3 c) (hf : flat h a ++ esD es i :: flat h b = flat h a' ++ e' :: flat h b') (ha : BT.Ok h 3 a') (hb : BT.Ok h 3 b') : Filled es ks (es.set i e', (ks.set i a').set (i + 1) b') := by
 obtain ⟨h1, h2, h3, h4, h5, h6⟩ := mids_ok hl hx hy
 have e1 : es.set i e' = es.take i ++ e' :: es.drop (i + 1) := by
  conv => lhs; rw [h1]
  rw [show (es.take i ++ esD es i :: es.drop (i + 1)).set i e' = (es.take i ++ esD es i :: es.drop (i + 1)).set (es.take i).length e' by rw [h3], set_split]
 have e2 : (ks.set i a').set (i + 1) b' = ks.take i ++ a' :: b' :: ks.drop (i + 2) := by
  conv => lhs; rw [h2]
  have := set_two (ks.take i) (ks.drop (i + 2)) a b a' b'
  rw [h4] at this
  exact this
 refine ⟨?_, by simp, by simp, by simp [hl], ?_⟩
 · rw [e1, e2, flat_two _ _ _ _ a' b' _ (by omega) (by omega), pair_flat hl hx hy, hf]
 ·
  intro c hc
  obtain ⟨j, hj⟩ := List.getElem?_of_mem hc
  simp only [List.getElem?_set, List.length_set] at hj
  split at hj
  ·
   split at hj
   · cases hj; exact hb
   · cases hj
  ·
   split at hj
   ·
    split at hj
    · cases hj; exact ha
    · cases hj
   · exact hk j c (by omega) (by omega) hj
theorem fill_spec {h : Nat} {es : List KV} {ks : List (BT h)} {i : Nat} (hl : ks.length = es.length + 1) (h1 : 1 ≤ es.length) (hi : i < ks.length)
  (hk : ∀ j c, j ≠ i → ks[j]? = some c → BT.Ok h 3 c) (hc : ∀ c, ks[i]? = some c → BT.Ok h 2 c) : Filled es ks (fillN es ks i) := by
 obtain ⟨a, ha⟩ : ∃ a, ks[i]? = some a := ⟨_, List.getElem?_eq_getElem hi⟩
 have ka := kLen_at ha
 have oa := hc a ha
 have la := oa.es
 have lens : ∀ j (c : BT h), ks[j]? = some c → c.es.length ≤ 7 := fun j c hj => by
  by_cases e : j = i
  · subst e; exact (hc c hj).es.2
  · exact (hk j c e hj).es.2
 unfold fillN
 split
 ·
  rename_i h3
  refine ⟨rfl, by simp, by simp, hl, fun c hcm => ?_⟩
  obtain ⟨j, hj⟩ := List.getElem?_of_mem hcm
  by_cases e : j = i
  ·
   subst e
   rw [ha] at hj
   cases hj
   cases h with
   | zero => exact ⟨by rw [ka] at h3; exact h3, oa.2⟩
   | succ h => exact ⟨by rw [ka] at h3; exact h3, oa.2⟩
  · exact hk j c e hj
 ·
  rename_i h3
  have ha2 : a.es.length = 2 := by omega
  have up : ∀ c : BT h, BT.Ok h 3 c → 3 < c.es.length → BT.Ok h 4 c := fun c o hc4 => by
   cases h with
   | zero => exact ⟨hc4, o.2⟩
   | succ h => exact ⟨hc4, o.2⟩
  have low : ∀ j (c : BT h), ks[j]? = some c → BT.Ok h 2 c := fun j c hj => by
   by_cases e : j = i
   · subst e; exact hc c hj
   · exact (hk j c e hj).mono (by omega)
  split
  ·
   rename_i h4
   obtain ⟨b, hb⟩ : ∃ b, ks[i - 1]? = some b := ⟨_, List.getElem?_eq_getElem (by omega)⟩
   have kb := kLen_at hb
   have e1 : i - 1 + 1 = i := by omega
   have ob := up b (hk (i - 1) b (by omega) hb) (by omega)
   obtain ⟨g1, g2, g3⟩ := giveR_spec h b a (esD es (i - 1)) ob oa ha2
   unfold fillL
   rw [hb, ha]
   simp only
   have := pair_set (es := es) (i := i - 1) hl hb (by rw [e1]; exact ha) (fun j c _ hj2 hj => hk j c (by omega) hj) g1 g2 g3
   rw [e1] at this
   exact this
  ·
   rename_i h4
   split
   ·
    rename_i h5
    have hlt : i + 1 < ks.length := by
     rcases Nat.lt_or_ge (i + 1) ks.length with h | h
     · exact h
     ·
      have hn : kLen ks (i + 1) = 0 := by unfold kLen; rw [List.getElem?_eq_none h]
      omega
    obtain ⟨b, hb⟩ : ∃ b, ks[i + 1]? = some b := ⟨_, List.getElem?_eq_getElem hlt⟩
    have kb := kLen_at hb
    have ob := up b (hk (i + 1) b (by omega) hb) (by omega)
    obtain ⟨g1, g2, g3⟩ := giveL_spec h a b (esD es i) oa ob ha2
    unfold fillR
    rw [ha, hb]
    simp only
    exact pair_set (es := es) (i := i) hl ha hb (fun j c hj1 _ hj => hk j c hj1 hj) g1 g2 g3
   ·
    rename_i h5
    have hJ : ∀ j (l r : BT h), ks[j]? = some l → ks[j + 1]? = some r → (j = i ∨ j + 1 = i) → l.es.length + r.es.length ≤ 6 → Filled es ks (fillJ es ks j) := by
     intro j l r hjl hjr hji h6
     obtain ⟨m1, m2, m3, m4, m5, m6⟩ := mids_ok hl hjl hjr
     obtain ⟨g1, g2⟩ := join_spec h l r (esD es j) (low j l hjl) (low (j + 1) r hjr) h6
     have hml : ks.length = (ks.take j).length + 2 + (ks.drop (j + 2)).length := by
      have := congrArg List.length m2
      simp only [List.length_append, List.length_cons] at this
      omega
     have hel : es.length = (es.take j).length + 1 + (es.drop (j + 1)).length := by
      have := congrArg List.length m1
      simp only [List.length_append, List.length_cons] at this
      omega
     unfold fillJ
     rw [hjl, hjr]
     simp only
     refine ⟨?_, ?_, ?_, ?_, ?_⟩
     · rw [flat_split _ _ _ _ (joinT h l r (esD es j)) (by omega) (by omega), g1, pair_flat hl hjl hjr]
     · rw [List.length_append]; omega
     · rw [List.length_append]; omega
     · simp only [List.length_append, List.length_cons]; omega
     ·
      intro c hcm
      have hout : ∀ c, c ∈ ks.take j ∨ c ∈ ks.drop (j + 2) → BT.Ok h 3 c := by
       rintro c (hcm | hcm)
       ·
        obtain ⟨q, hq⟩ := List.getElem?_of_mem hcm
        rw [List.getElem?_take] at hq
        split at hq
        · exact hk q c (by omega) hq
        · cases hq
       ·
        obtain ⟨q, hq⟩ := List.getElem?_of_mem hcm
        rw [List.getElem?_drop] at hq
        exact hk (j + 2 + q) c (by omega) hq
      rcases List.mem_append.1 hcm with hcm | hcm
      · exact hout c (.inl hcm)
      ·
       rcases List.mem_cons.1 hcm with rfl | hcm
       · exact g2
       · exact hout c (.inr hcm)
    split
    ·
     rename_i h7
     have e1 : i - 1 + 1 = i := by omega
     obtain ⟨b, hb⟩ : ∃ b, ks[i - 1]? = some b := ⟨_, List.getElem?_eq_getElem (by omega)⟩
     have kb := kLen_at hb
     exact hJ (i - 1) b a hb (by rw [e1]; exact ha) (.inr e1) (by omega)
    ·
     rename_i h7
     obtain ⟨b, hb⟩ : ∃ b, ks[i + 1]? = some b := ⟨_, List.getElem?_eq_getElem (by omega)⟩
     have kb := kLen_at hb
     exact hJ i a b ha hb (.inl rfl) (by omega)
def del : (h : Nat) → BT h → Str → BT h
 | 0, t, k => List.append (α := KV) (List.take (α := KV) (pos t k) t) (List.drop (α := KV) (pos t k + 1) t)
 | h + 1, t, k => match t.2[pos t.1 k]? with
  | none => t
  | some c => if hit t.1 k then fillN (t.1.set (pos t.1 k) (lastE h c)) (t.2.set (pos t.1 k) (del h c (lastE h c).1)) (pos t.1 k)
   else fillN t.1 (t.2.set (pos t.1 k) (del h c k)) (pos t.1 k)
theorem del_leaf {t : List KV} {k : Str} (hs : Srt t) (hm : ∃ v, (k, v) ∈ t) : t.take (pos t k) ++ t.drop (pos t k + 1) = rm k t ∧ (t.take (pos t k) ++ t.drop (pos t k + 1)).length + 1 = t.length := by
 obtain ⟨v, hv⟩ := hm
 have hh : hit t k = true := by
  cases h : hit t k
  ·
   exfalso
   have h1 := hit_no hs h
   rw [split_at t (pos t k)] at hv
   rcases List.mem_append.1 hv with hv | hv
   · exact slt_irr _ (pos_lt _ hv)
   · exact slt_irr _ (h1 _ hv)
  · rfl
 obtain ⟨v0, hl, hg⟩ := hit_yes hh
 obtain ⟨h1, h2⟩ := split_get hg
 refine ⟨?_, by rw [List.length_append, List.length_take, List.length_drop]; omega⟩
 have hs' := hs
 rw [h1] at hs'
 have := rm_hit hs'
 rw [← h1] at this
 exact this.symm
theorem del_spec : ∀ (h lo : Nat) (t : BT h) (k : Str), BT.Ok h lo t → 1 ≤ lo → Srt (flat h t) → (∃ v, (k, v) ∈ flat h t) → flat h (del h t k) = rm k (flat h t) ∧ BT.Ok h (lo - 1) (del h t k)
 | 0, lo, t, k, o, _, hs, hm => by
  have h := del_leaf (t := t) hs hm
  have o1 := o.1
  have o2 := o.2
  refine ⟨h.1, ?_, ?_⟩
  · show lo - 1 ≤ (List.take (α := KV) (pos t k) t ++ List.drop (α := KV) (pos t k + 1) t).length; omega
  · show (List.take (α := KV) (pos t k) t ++ List.drop (α := KV) (pos t k + 1) t).length ≤ 7; omega
 | h + 1, lo, t, k, o, hlo, hs, hm => by
  obtain ⟨A, B, K1, K2, c, p⟩ := parts_of o k
  have o1 := o.1
  have o2 := o.2.1
  have o3 := o.2.2.1
  have o4 := o.2.2.2
  have oc := kids_ok o p.kid
  have hpl : pos t.1 k < t.2.length := (List.getElem?_eq_some_iff.1 p.kid).1
  -- what a fill makes of the node with this kid
  have key : ∀ (es : List KV) (d : BT h), es.length = t.1.length → BT.Ok h 2 d → Filled es (t.2.set (pos t.1 k) d) (fillN es (t.2.set (pos t.1 k) d) (pos t.1 k)) := by
   intro es d he od
   refine fill_spec (by rw [List.length_set]; omega) (by omega) (by rw [List.length_set]; exact hpl) (fun j x hj hx => ?_) (fun x hx => ?_)
   ·
    rw [List.getElem?_set_ne (by omega)] at hx
    exact kids_ok o hx
   ·
    rw [List.getElem?_set_self (by exact hpl)] at hx
    cases hx
    exact od
  have fin : ∀ (es : List KV) (d : BT h), es.length = t.1.length → BT.Ok h 2 d → BT.Ok (h + 1) (lo - 1) (fillN es (t.2.set (pos t.1 k) d) (pos t.1 k)) := by
   intro es d he od
   have f := key es d he od
   have f2 := f.lo
   have f3 := f.hi
   exact ⟨by omega, by omega, f.len, f.kids⟩
  have eset : ∀ d, t.2.set (pos t.1 k) d = K1 ++ d :: K2 := fun d => by rw [← p.la, p.ks, ← p.l1, set_split]
  by_cases hh : hit t.1 k = true
  ·
   obtain ⟨v0, hl, hg⟩ := hit_yes hh
   obtain ⟨B', rfl⟩ := p.hit hg
   have e : del (h + 1) t k = fillN (t.1.set (pos t.1 k) (lastE h c)) (t.2.set (pos t.1 k) (del h c (lastE h c).1)) (pos t.1 k) := by
    conv => lhs; unfold del
    simp only [p.kid]
    exact if_pos hh
   obtain ⟨X, hX⟩ := lastE_spec h 3 c oc (by omega)
   have hcs := p.kid_srt hs
   have ih := del_spec h 3 c (lastE h c).1 oc (by omega) hcs ⟨(lastE h c).2, by rw [hX]; simp⟩
   have hrm : rm (lastE h c).1 (flat h c) = X := by
    rw [hX]
    rw [hX] at hcs
    have := rm_hit (k := (lastE h c).1) (v0 := (lastE h c).2) (X := X) (Y := []) hcs
    rw [List.append_nil] at this
    exact this
   have e2 : t.1.set (pos t.1 k) (lastE h c) = A ++ lastE h c :: B' := by
    rw [← p.la]
    conv => lhs; rw [p.es]
    exact set_split _ _ _ _
   refine ⟨?_, by rw [e]; exact fin _ _ (by rw [List.length_set]) ih.2⟩
   rw [e, (key _ _ (by rw [List.length_set]) ih.2).flat, e2, eset, flat_split A _ K1 K2 _ p.l1 (by have := p.l2; simpa using this), ih.1, hrm, p.flat, hX]
   have l2 := p.l2
   have hs' := hs
   rw [p.flat, hX] at hs'
   cases K2 with
   | nil => simp at l2
   | cons k2 K2 =>
    rw [List.map_cons, wr_weave, wr_weave]
    rw [List.map_cons, wr_weave] at hs'
    rw [rm_hit hs']
    simp
  ·
   have hh : hit t.1 k = false := by simpa using hh
   have e : del (h + 1) t k = fillN t.1 (t.2.set (pos t.1 k) (del h c k)) (pos t.1 k) := by
    conv => lhs; unfold del
    simp only [p.kid, hh]
    rfl
   have hlo' := p.lo hs
   have hhi' := p.hi o hs hh
   have hmc : ∃ v, (k, v) ∈ flat h c := by
    obtain ⟨v, hv⟩ := hm
    rw [p.flat] at hv
    rcases List.mem_append.1 hv with hv | hv
    ·
     rcases List.mem_append.1 hv with hv | hv
     · exact absurd (hlo' _ hv) (slt_irr _)
     · exact ⟨v, hv⟩
    · exact absurd (hhi' _ hv) (slt_irr _)
   have ih := del_spec h 3 c k oc (by omega) (p.kid_srt hs) hmc
   refine ⟨?_, by rw [e]; exact fin _ _ rfl ih.2⟩
   rw [e, (key _ _ rfl ih.2).flat, eset]
   conv => lhs; rw [p.es]
   rw [flat_split A B K1 K2 _ p.l1 p.l2, ih.1, p.flat, rm_mid hlo' hhi']
end Go.Proofs.Ytmafnjidhjabgaa
namespace Go.Proofs.Ytmafnjidhjabgaa
def seen : (h : Nat) → BT h → Str → List KV
 | 0, t, f => List.drop (α := KV) (pos t f) t
 | h + 1, t, f => weave ((t.2.drop (pos t.1 f)).map (fun c => seen h c f)) (t.1.drop (pos t.1 f))
theorem ge_app (f : Str) (a b : List KV) : ge f (a ++ b) = ge f a ++ ge f b := List.filter_append ..
theorem ge_all {f : Str} {l : List KV} (h : ∀ e ∈ l, ¬ e.1 < f) : ge f l = l := filter_all (fun e he => decide_eq_true (h e he))
theorem ge_no {f : Str} {l : List KV} (h : ∀ e ∈ l, e.1 < f) : ge f l = [] := filter_no (fun e he => decide_eq_false (fun hn => hn (h e he)))
theorem ge_weave {f : Str} : ∀ (ks : List (List KV)) (es : List KV), (∀ e ∈ es, ¬ e.1 < f) → ge f (weave ks es) = weave (ks.map (ge f)) es
 | [], es, _ => rfl
 | [k], [], _ => by simp [weave, wr]
 | [k], e :: es, _ => by simp [weave, wr]
 | k :: k2 :: ks, [], _ => by simp [weave, wr]
 | k :: k2 :: ks, e :: es, h => by
  have ih := ge_weave (k2 :: ks) es (fun x hx => h x (List.mem_cons_of_mem _ hx))
  show ge f (k ++ wr (e :: es) (k2 :: ks)) = ge f k ++ wr (e :: es) (ge f k2 :: ks.map (ge f))
  rw [wr_weave, wr_weave, ge_app]
  show ge f k ++ ge f ([e] ++ weave (k2 :: ks) es) = _
  rw [ge_app, ih, ge_all (l := [e]) (fun x hx => by rw [List.mem_singleton.1 hx]; exact h e List.mem_cons_self)]
  rfl
theorem drop_split {α : Type} (A B : List α) : (A ++ B).drop A.length = B := by simp
theorem seen_leaf {t : List KV} {f : Str} (hs : Srt t) : t.drop (pos t f) = ge f t := by
 conv => rhs; rw [split_at t (pos t f)]
 rw [ge_app, ge_no pos_lt, ge_all (pos_ge hs)]
 rfl
theorem seen_spec (f : Str) : ∀ (h lo : Nat) (t : BT h), BT.Ok h lo t → Srt (flat h t) → seen h t f = ge f (flat h t)
 | 0, lo, t, o, hs => seen_leaf hs
 | h + 1, lo, t, o, hs => by
  obtain ⟨A, B, K1, K2, c, p⟩ := parts_of o f
  have e1 : t.1.drop (pos t.1 f) = B := by
   rw [← p.la]
   conv => lhs; rw [p.es]
   exact drop_split A B
  have hB : ∀ e ∈ B, ¬ e.1 < f := fun e he => pos_ge (es_srt o hs) e (by show e ∈ t.1.drop (pos t.1 f); rw [e1]; exact he)
  have e2 : t.2.drop (pos t.1 f) = c :: K2 := by rw [← p.la, p.ks, ← p.l1]; exact drop_split K1 (c :: K2)
  have hk : ∀ d ∈ c :: K2, seen h d f = ge f (flat h d) := by
   intro d hd
   have hd' : d ∈ t.2 := by rw [p.ks]; exact List.mem_append_right _ hd
   obtain ⟨i, hi⟩ := List.getElem?_of_mem hd'
   refine seen_spec f h 3 d (o.2.2.2 d hd') ?_
   obtain ⟨h1, h2⟩ := split_get hi
   have hil := (List.getElem?_eq_some_iff.1 hi).1
   have h3 := o.2.2.1
   have := flat_split (t.1.take i) (t.1.drop i) (t.2.take i) (t.2.drop (i + 1)) d (by rw [List.length_take, List.length_take]; omega) (by rw [List.length_drop, List.length_drop]; omega)
   rw [List.take_append_drop, ← h1] at this
   have hs' := hs
   rw [show flat (h + 1) t = _ from this] at hs'
   exact (srt_app.1 (srt_app.1 hs').1).2.1
  have : seen (h + 1) t f = weave ((c :: K2).map (fun c => seen h c f)) B := by
   show weave ((t.2.drop (pos t.1 f)).map (fun c => seen h c f)) (t.1.drop (pos t.1 f)) = _
   rw [e1, e2]
  rw [this, p.flat, ge_app, ge_app, ge_no (p.lo hs), List.nil_append, List.map_congr_left hk, ← ge_app]
  have hw : flat h c ++ wr B (K2.map (flat h)) = weave ((c :: K2).map (flat h)) B := rfl
  rw [hw, ge_weave _ _ hB, List.map_map]
  rfl
theorem pos_nil (es : List KV) : pos es [] = 0 := by
 unfold pos
 cases es with
 | nil => rfl
 | cons e es => rw [List.findIdx_cons]; simp
theorem seen_nil0 (t : List KV) : t.drop (pos t []) = t := by rw [pos_nil]; rfl
theorem seen_nil : ∀ (h : Nat) (t : BT h), seen h t [] = flat h t
 | 0, t => seen_nil0 t
 | h + 1, t => by
  show weave ((t.2.drop (pos t.1 [])).map (fun c => seen h c [])) (t.1.drop (pos t.1 [])) = weave (t.2.map (flat h)) t.1
  rw [pos_nil, List.drop_zero, List.drop_zero]
  congr 1
  exact List.map_congr_left (fun c _ => seen_nil h c)
def getB : (h : Nat) → BT h → Str → Option Str
 | 0, t, k => if hit t k then some (esD t (pos t k)).2 else none
 | h + 1, t, k => if hit t.1 k then some (esD t.1 (pos t.1 k)).2 else match t.2[pos t.1 k]? with | some c => getB h c k | none => none
theorem esD_hit {es : List KV} {k v : Str} (hg : es[pos es k]? = some (k, v)) : (esD es (pos es k)).2 = v := by unfold esD; rw [hg]; rfl
theorem get_leaf {t : List KV} {k : Str} (hs : Srt t) : (if hit t k then some (esD t (pos t k)).2 else none) = look k t := by
 by_cases hh : hit t k = true
 ·
  obtain ⟨v, hl, hg⟩ := hit_yes hh
  rw [if_pos hh, esD_hit hg]
  obtain ⟨h1, h2⟩ := split_get hg
  conv => rhs; rw [h1]
  exact (look_hit pos_lt).symm
 ·
  have hh : hit t k = false := by simpa using hh
  rw [hh, if_neg (by simp)]
  refine (look_no (fun e he h => ?_)).symm
  rw [split_at t (pos t k)] at he
  rcases List.mem_append.1 he with he | he
  · exact slt_irr _ (h ▸ pos_lt e he)
  · exact slt_irr _ (h ▸ hit_no hs hh e he)
theorem getB_spec (k : Str) : ∀ (h lo : Nat) (t : BT h), BT.Ok h lo t → Srt (flat h t) → getB h t k = look k (flat h t)
 | 0, lo, t, o, hs => get_leaf hs
 | h + 1, lo, t, o, hs => by
  by_cases hh : hit t.1 k = true
  ·
   obtain ⟨v, hl, hg⟩ := hit_yes hh
   have e : getB (h + 1) t k = some v := by
    rw [← esD_hit hg]
    exact if_pos hh
   obtain ⟨X, Y, e1, e2⟩ := flat_hit o hg
   rw [e, e1]
   rw [e1] at hs
   exact (look_hit (fun x hx => (srt_app.1 hs).2.2 x hx _ List.mem_cons_self)).symm
  ·
   have hh : hit t.1 k = false := by simpa using hh
   obtain ⟨A, B, K1, K2, c, p⟩ := parts_of o k
   have e : getB (h + 1) t k = getB h c k := by
    conv => lhs; unfold getB
    rw [hh]
    simp only [p.kid]
    rfl
   rw [e, getB_spec k h 3 c (kids_ok o p.kid) (p.kid_srt hs), p.flat, look_mid (p.lo hs) (p.hi o hs hh)]
abbrev Root := Option ((h : Nat) × BT h)
def rflat : Root → List KV
 | none => []
 | some ⟨h, t⟩ => flat h t
def ROk : Root → Prop
 | none => True
 | some ⟨h, t⟩ => BT.Ok h 1 t ∧ Srt (flat h t)
def rput (k v : Str) : Root → Root
 | none => some ⟨0, [(k, v)]⟩
 | some ⟨h, t⟩ => match put h t k v with | .one t' => some ⟨h, t'⟩ | .two l r e => some ⟨h + 1, ([e], [l, r])⟩
def rtop : (h : Nat) → BT h → Root
 | 0, t => if 0 < List.length (α := KV) t then some ⟨0, t⟩ else none
 | h + 1, t => if 0 < t.1.length then some ⟨h + 1, t⟩ else match t.2[0]? with | some c => some ⟨h, c⟩ | none => none
def rdel (k : Str) : Root → Root
 | none => none
 | some ⟨h, t⟩ => rtop h (del h t k)
theorem rput_spec (k v : Str) {r : Root} (o : ROk r) : rflat (rput k v r) = ins k v (rflat r) ∧ ROk (rput k v r) := by
 rcases r with _ | ⟨h, t⟩
 ·
  refine ⟨by simp [rput, rflat, ins, flat], ⟨Nat.le_refl _, by show 1 ≤ 7; omega⟩, ?_⟩
  exact List.pairwise_singleton _ _
 ·
  obtain ⟨o1, o2⟩ := o
  have h1 := put_spec k v h 1 t o1 o2
  have h3 := ins_srt (k := k) (v := v) o2
  cases hq : put h t k v with
  | one t' =>
   rw [hq] at h1
   rw [show rput k v (some ⟨h, t⟩) = some ⟨h, t'⟩ by show (match put h t k v with | .one t' => some ⟨h, t'⟩ | .two l r e => some ⟨h + 1, ([e], [l, r])⟩ : Root) = _; rw [hq]]
   exact ⟨h1.1, h1.2, by rw [show flat h t' = _ from h1.1]; exact h3⟩
  | two l r e =>
   rw [hq] at h1
   rw [show rput k v (some ⟨h, t⟩) = some ⟨h + 1, ([e], [l, r])⟩ by show (match put h t k v with | .one t' => some ⟨h, t'⟩ | .two l r e => some ⟨h + 1, ([e], [l, r])⟩ : Root) = _; rw [hq]]
   have hf : flat (h + 1) ([e], [l, r]) = flat h l ++ e :: flat h r := by
    have := flat_two (h := h) [] [] [] [] l r e rfl rfl
    simpa [wl, wr] using this
   refine ⟨hf.trans h1.1, ⟨by show 1 ≤ 1; omega, by show 1 ≤ 7; omega, rfl, fun c hc => ?_⟩, ?_⟩
   ·
    rcases List.mem_cons.1 hc with rfl | hc
    · exact h1.2.1
    · rw [List.mem_singleton.1 hc]; exact h1.2.2
   ·
    show Srt (flat (h + 1) ([e], [l, r]))
    rw [hf, show flat h l ++ e :: flat h r = _ from h1.1]
    exact h3
def rtopL (t : List KV) : Root := if 0 < t.length then some ⟨0, t⟩ else none
theorem rtop_leaf (t : List KV) (h7 : t.length ≤ 7) (hs : Srt t) : rflat (rtopL t) = t ∧ ROk (rtopL t) := by
 unfold rtopL
 by_cases hp : 0 < t.length
 ·
  rw [if_pos hp]
  exact ⟨rfl, ⟨hp, h7⟩, hs⟩
 ·
  rw [if_neg hp]
  have : t = [] := List.eq_nil_of_length_eq_zero (by omega)
  rw [this]
  exact ⟨rfl, trivial⟩
theorem rtop_spec : ∀ (h : Nat) (t : BT h), BT.Ok h 0 t → Srt (flat h t) → rflat (rtop h t) = flat h t ∧ ROk (rtop h t)
 | 0, t, o, hs => rtop_leaf t o.2 hs
 | h + 1, t, o, hs => by
  by_cases hp : 0 < t.1.length
  ·
   rw [show rtop (h + 1) t = some ⟨h + 1, t⟩ from if_pos hp]
   exact ⟨rfl, ⟨hp, o.2⟩, hs⟩
  ·
   rw [show rtop (h + 1) t = (match t.2[0]? with | some c => some ⟨h, c⟩ | none => none) from if_neg hp]
   have h3 := o.2.2.1
   obtain ⟨es, ks⟩ := t
   simp only at hp h3
   obtain rfl : es = [] := List.eq_nil_of_length_eq_zero (by omega)
   obtain ⟨c, rfl⟩ : ∃ c, ks = [c] := List.length_eq_one_iff.1 (by simpa using h3)
   have hf : flat (h + 1) ([], [c]) = flat h c := by
    have := flat_split (h := h) [] [] [] [] c rfl rfl
    simpa [wl, wr] using this
   refine ⟨hf.symm, ((o.2.2.2 c (by simp)) : BT.Ok h 3 c).mono (by omega), ?_⟩
   rw [← hf]
   exact hs
theorem rdel_spec (k : Str) {r : Root} (o : ROk r) (hm : ∃ v, (k, v) ∈ rflat r) : rflat (rdel k r) = rm k (rflat r) ∧ ROk (rdel k r) := by
 rcases r with _ | ⟨h, t⟩
 ·
  obtain ⟨v, hv⟩ := hm
  simp [rflat] at hv
 ·
  obtain ⟨o1, o2⟩ := o
  have h1 := del_spec h 1 t k o1 (by omega) o2 hm
  have h2 := rtop_spec h (del h t k) h1.2 (by rw [h1.1]; exact rm_srt o2)
  exact ⟨h2.1.trans h1.1, h2.2⟩
end Go.Proofs.Ytmafnjidhjabgaa
namespace Go.Proofs.Ytmafnjidhjabgaa
open Go.RowKit Go.Shelf
set_option linter.unusedVariables false
set_option linter.unusedSimpArgs false
set_option maxRecDepth 100000
def strV (s : Str) : Value := .string (bstr s)
theorem bstr_of (b : ByteArray) : bstr b.data.toList = b := by simp [bstr]
theorem strV_of (b : ByteArray) : strV b.data.toList = .string b := by unfold strV; rw [bstr_of]
def Sp (es : List KV) (k : Str) : Prop := ∀ i, ∀ h : i < es.length, (es[i]'h).1 < k ↔ i < pos es k
theorem Sp.of_srt {es : List KV} {k : Str} (hs : Srt es) : Sp es k := fun i h => by
 refine ⟨fun hl => ?_, fun hl => ?_⟩
 ·
  rcases Nat.lt_or_ge i (pos es k) with h1 | h1
  · exact h1
  ·
   exfalso
   refine pos_ge hs es[i] ?_ hl
   have : (es.drop (pos es k))[i - pos es k]? = some es[i] := by
    rw [List.getElem?_drop, List.getElem?_eq_getElem (by omega)]
    congr 1
    congr 1
    omega
   exact List.mem_of_getElem? this
 ·
  refine pos_lt (es := es) es[i] ?_
  have : (es.take (pos es k))[i]? = some es[i] := by rw [List.getElem?_take, if_pos hl, List.getElem?_eq_getElem h]
  exact List.mem_of_getElem? this
theorem Sp.nil (es : List KV) : Sp es [] := fun i h => ⟨fun hl => absurd hl (snil_le _), fun hl => by rw [pos_nil] at hl; omega⟩
theorem bytes_lt (a b : Str) : Op.bytesLess (bstr a).toList (bstr b).toList = decide (a < b) := by rw [bytesLess_eq, bstr_toList, bstr_toList]
theorem bytes_eq (a b : Str) : ((bstr a).toList == (bstr b).toList) = decide (a = b) := by
 rw [bstr_toList, bstr_toList]
 by_cases h : a = b
 · subst h; simp
 · rw [decide_eq_false h]; simpa using h
set_option maxHeartbeats 400000 in
theorem less_calls (a b : Str) (w : World) :
  Calls Try.prog 79 #[.string (bstr a), .string (bstr b)] w fun e w' => e = .returned (.bool (decide (a < b))) ∧ w' = w := by
 go_enter Try.func79, Try.ntmps79
 go_wp2
 go_ret
 exact ⟨by rw [bytes_lt]; rfl, rfl⟩
set_option maxHeartbeats 400000 in
theorem nanS_calls (a : ByteArray) (w : World) :
  Calls Try.prog 80 #[.string a] w fun e w' => e = .returned (.bool false) ∧ w' = w := by
 go_enter Try.func80, Try.ntmps80
 go_wp2
 go_ret
 exact ⟨by simp, rfl⟩
theorem esV_get {es : List KV} {f : KV → Value} {i : Nat} (h : i < es.length) : (es.map f)[i]? = some (f es[i]) := by rw [List.getElem?_map, List.getElem?_eq_getElem h]; rfl
theorem rd1_at {w : World} {v : Value} {n : Nat} {cs : List Value} (h : Rd w 1 v n cs) {i : Nat} {u : Value} (hi : cs[i]? = some u) : ∃ b o c, v = .slice (some ⟨b, o, none⟩) n c ∧ n ≤ c ∧ c ≤ 9223372036854775807 ∧ w.cell? ⟨b, o + i, none⟩ = some u := by
 obtain ⟨a, cap, rfl, h0, h1, h2, h3⟩ := h
 have hl := (List.getElem?_eq_some_iff.1 hi).1
 rcases h3 with h3 | ⟨b, o, rfl, hc⟩
 · omega
 · exact ⟨b, o, cap, rfl, h1, h2, hc i u hi⟩
set_option maxHeartbeats 2000000 in
theorem bs_calls (v : Value) (es : List KV) (k : Str) (w : World) (hv : Rd w 1 v es.length (es.map fun e => strV e.1)) (hs : Sp es k) (hn : es.length ≤ 1000000) :
  Calls Try.prog 55 #[v, .string (bstr k)] w fun e w' => e = .returned (.tuple #[.int .i64 (pos es k), .bool (hit es k)]) ∧ w' = w := by
 have HV := Lib.hid hv
 have HS := Lib.hid hs
 obtain ⟨a, cap, rfl, hle, hcap⟩ := Rd.slice hv
 have hpl := pos_le es k
 have HH := Lib.hid (show hit es k = (match es[pos es k]? with | some e => decide (e.1 = k) | none => false) from rfl)
 obtain ⟨p, hp⟩ : ∃ p, p = pos es k := ⟨_, rfl⟩
 obtain ⟨ht, hht⟩ : ∃ ht, ht = hit es k := ⟨_, rfl⟩
 rw [← hp] at hpl HH
 rw [← hht] at HH
 rw [← hp, ← hht]
 have HP := Lib.hid hp
 clear hv hs hp hht
 go_enter Try.func55, Try.ntmps55
 go_wp2_with fail
 go_loopw [7, 8, 9, 27] (fun iv jv _ _ wr => ∃ i j : Nat, i ≤ p ∧ p ≤ j ∧ j ≤ es.length ∧ iv = .int .i64 i ∧ jv = .int .i64 j ∧ wr = w) (fun iv jv _ _ _ => (intOf jv).toNat - (intOf iv).toNat)
 case atStart => exact ⟨0, es.length, by omega, hpl, by omega, rfl, rfl, rfl⟩
 case round =>
  obtain ⟨i, j, hi, hj, hjn, rfl, rfl, rfl⟩ := hrel
  by_cases hlt : i < j
  ·
   obtain ⟨h, hh⟩ : ∃ h : Nat, h = (i + j) / 2 := ⟨_, rfl⟩
   have h1 : i ≤ h := by omega
   have h2 : h < j := by omega
   obtain ⟨b, o, c, hvv, -, -, hcell⟩ := rd1_at HV.out (esV_get (f := fun e => strV e.1) (i := h) (by omega))
   simp only [Value.slice.injEq] at hvv
   obtain ⟨rfl, -, rfl⟩ := hvv
   have hc2 : ((i : Int) + (j : Int)) / 2 = (h : Int) := by omega
   have hln : h < es.length := by omega
   have hsp := HS.out h hln
   rw [← HP.out] at hsp
   unfold strV at hcell
   generalize es[h] = R at *
   obtain ⟨rk, rv⟩ := R
   simp only at hsp hcell
   have HH2 := Lib.hid hh
   clear hh
   by_cases hcc : h < p
   ·
    have hd : decide (rk < k) = true := decide_eq_true (hsp.2 hcc)
    clear hsp
    go_wp2_with (go_at_call 79; refine (less_calls _ _ _).mono ?_; rintro e w' ⟨rfl, rfl⟩)
    go_roundw
    case rel => exact ⟨h + 1, j, by omega, by omega, by omega, by go_num, rfl, by first | rfl | trivial⟩
    case measure => simp [intOf]; omega
   ·
    have hd : decide (rk < k) = false := decide_eq_false (fun hx => hcc (hsp.1 hx))
    clear hsp
    go_wp2_with (go_at_call 79; refine (less_calls _ _ _).mono ?_; rintro e w' ⟨rfl, rfl⟩)
    go_roundw
    case rel => exact ⟨i, h, by omega, by omega, by omega, rfl, rfl, by first | rfl | trivial⟩
    case measure => simp [intOf]; omega
  ·
   obtain rfl : i = p := by omega
   obtain rfl : j = i := by omega
   by_cases hlc : j < es.length
   ·
    obtain ⟨b, o, c, hvv, -, -, hcell⟩ := rd1_at HV.out (esV_get (f := fun e => strV e.1) (i := j) hlc)
    simp only [Value.slice.injEq] at hvv
    obtain ⟨rfl, -, rfl⟩ := hvv
    have hht := HH.out
    rw [List.getElem?_eq_getElem hlc] at hht
    simp only at hht
    unfold strV at hcell
    generalize es[j] = R at *
    obtain ⟨rk, rv⟩ := R
    simp only at hht hcell
    have HT := Lib.hid hht
    clear hht HH
    have HE := Lib.hid (bytes_eq rk k)
    by_cases he : rk = k
    ·
     subst he
     have hq : ((bstr rk).toList == (bstr rk).toList) = true := by simp
     go_wp2_with (go_at_call 80; refine (nanS_calls _ _).mono ?_; rintro e w' ⟨rfl, rfl⟩)
     go_ret2
     exact ⟨by rw [HT.out]; simp, rfl⟩
    ·
     have hq : ((bstr rk).toList == (bstr k).toList) = false := by rw [HE.out]; exact decide_eq_false he
     go_wp2_with (go_at_call 80; refine (nanS_calls _ _).mono ?_; rintro e w' ⟨rfl, rfl⟩)
     go_ret2
     exact ⟨by rw [HT.out, decide_eq_false he]; rfl, rfl⟩
   ·
    obtain rfl : j = es.length := by omega
    have hht := HH.out
    rw [List.getElem?_eq_none (Nat.le_refl _)] at hht
    simp only at hht
    have HT := Lib.hid hht
    clear hht HH
    go_wp2_with fail
    go_ret2
    exact ⟨by rw [HT.out]; rfl, rfl⟩
def catL (rs : List (Value × List Value)) : List Value := rs.flatMap (·.2)
theorem catL_snoc (rs : List (Value × List Value)) (r : Value × List Value) : catL (rs ++ [r]) = catL rs ++ r.2 := by simp [catL]
theorem catL_take {rs : List (Value × List Value)} {i : Nat} (h : i < rs.length) : catL (rs.take (i + 1)) = catL (rs.take i) ++ (rs[i]).2 := by
 rw [List.take_succ_eq_append_getElem h, catL_snoc]
theorem catL_le {rs : List (Value × List Value)} {i : Nat} : (catL (rs.take i)).length ≤ (catL rs).length := by
 have : catL rs = catL (rs.take i) ++ catL (rs.drop i) := by unfold catL; rw [← List.flatMap_append, List.take_append_drop]
 rw [this, List.length_append]
 omega
end Go.Proofs.Ytmafnjidhjabgaa
namespace Go.Proofs.Ytmafnjidhjabgaa
open Go.RowKit Go.Shelf
set_option linter.unusedVariables false
set_option linter.unusedSimpArgs false
set_option maxRecDepth 100000
theorem tyS : STy Try.prog 22 9 (.string ⟨#[]⟩) 1 16 := .of Try.underlying22 (by kernel_rfl) rfl (by omega)
set_option maxHeartbeats 400000 in
theorem clS_calls (v : Value) (n : Nat) (cs : List Value) (w : World) (hv : Rd w 1 v n cs) (h1 : ∀ u ∈ cs, u.oneCell' = true) (hl : n ≤ 1000000) :
  Calls Try.prog 58 #[v] w fun e w' => ∃ v', e = .returned v' ∧ w'.ownsRow w.heap.size 9 1 v' n cs ∧ Below w.heap.size w w' := by
 have HV := Lib.hid hv
 have H1 := Lib.hid h1
 obtain ⟨a, c, rfl, hn, hle, hc, h3⟩ := hv
 clear h1
 cases a with
 | none =>
  have h0 : n = 0 := by
   rcases h3 with h3 | ⟨b, o, h, -⟩
   · omega
   · cases h
  subst h0
  have hx : cs = [] := List.eq_nil_of_length_eq_zero (by omega)
  subst hx
  clear h3 hn
  have hnil := fun (w : World) => Lib.run_eql_slice_nil (P := Try.prog) w 22 9 none 0 c 0 0 Try.underlying22
  go_enter Try.func58, Try.ntmps58
  go_wp2
  go_ret
  exact ⟨_, rfl, World.ownsRow_nil _ _ _ _, Below.refl _ _⟩
 | some x =>
  clear h3 hn
  have hnil := fun (w : World) => Lib.run_eql_slice_nil (P := Try.prog) w 22 9 (some x) n c 0 0 Try.underlying22
  have hlit := World.ownsRow_lit (base := w.heap.size) (size := 1) (e := 9) w #[] 0 (Nat.le_refl _) (by unfold maxLen; omega) (by simp)
  have hal := (Below.refl w.heap.size w).alloc (Nat.le_refl _) (.cells #[] 9)
  have HR := Lib.hid (HV.out.below hal (Nat.le_refl _))
  have HLIT := Lib.hid hlit
  have HAL := Lib.hid hal
  clear hlit hal
  go_enter Try.func58, Try.ntmps58
  go_wp2_with (at_builtin; go_loud (refine app_list tyS HLIT.out HR.out H1.out (by omega) (by omega) HAL.out.size rfl rfl rfl rfl ?_; intro v3 w3 hm3 hb3 hn3; obtain ⟨ga, gc, rfl⟩ := own_slice hm3))
  go_ret
  refine ⟨_, rfl, ?_, ?_⟩
  · simpa using hm3
  · exact HAL.out.grown hb3 HAL.out.size (fun j e => (World.ownsRow.lt HLIT.out j e).1)
structure LitS (w : World) (b : Nat) (x : Value) : Prop where
 rd : Rd w 1 (.slice (some ⟨b, 0, none⟩) 1 1) 1 [x]
 sh : w.shape? b = some (9, 1)
 fz : ∀ o, w.frozen? ⟨b, o, none⟩ = false
 one : x.oneCell' = true
 lt : b < w.heap.size
theorem LitS.of (w : World) (x : Value) (h : x.oneCell' = true) : LitS (w.alloc (.cells #[x] 9)) w.heap.size x :=
 ⟨Rd.lit (n := 1) rfl (by omega), by unfold World.shape?; rw [World.alloc_heap_new w (.cells #[x] 9)]; rfl, fun o => by rw [World.frozen?_alloc_at _ _ _ _ rfl], h, by simp⟩
set_option maxHeartbeats 800000 in
theorem insS_end (base n vb : Nat) (v : Value) (cs : List Value) (x : Value) (w : World) (hown : w.ownsRow base 9 1 v n cs) (hx : LitS w vb x) (hn : n ≤ 1000000) (hbase : base ≤ w.heap.size) :
  Calls Try.prog 56 #[v, .int .i64 n, .slice (some ⟨vb, 0, none⟩) 1 1] w fun e w' => ∃ v', e = .returned v' ∧ w'.ownsRow base 9 1 v' (n + 1) (cs ++ [x]) ∧ Only (fun j => v.ownBlock = some j) w w' ∧ (∀ j, v'.ownBlock = some j → v.ownBlock = some j ∨ w.heap.size ≤ j) := by
 have HO := Lib.hid hown
 have HX := Lib.hid hx
 have HBS := Lib.hid hbase
 have HONE := Lib.hid (show ∀ u ∈ [x], u.oneCell' = true from fun u hu => by rw [List.mem_singleton.1 hu]; exact hx.one)
 clear hx hbase
 rcases hown.2 with ⟨rfl, rfl⟩ | ⟨g, cap, cur, rfl, -, -, hnc, hcm, -⟩
 ·
  clear hown
  go_enter Try.func56, Try.ntmps56
  go_wp2_with (at_builtin; go_loud (refine app_keep tyS HO.out HX.out.rd HONE.out (by omega) (by omega) (by omega) HBS.out rfl rfl rfl rfl ?_; intro ga gc w3 hm3 hm3' hb3 hn3))
  go_ret
  refine ⟨.slice (some ⟨ga, 0, none⟩) _ gc, rfl, hm3, Only.of_grown hb3, fun j hj => ?_⟩
  simp only [Value.ownBlock, Option.some.injEq] at hj
  subst hj
  rcases hn3 with ⟨k, c, hk, -⟩ | hn3
  · cases hk
  · exact .inr hn3
 ·
  have hcm : cap ≤ 9223372036854775807 := by unfold maxLen at hcm; omega
  clear hown
  go_enter Try.func56, Try.ntmps56
  go_wp2_with (at_builtin; go_loud (refine app_keep tyS HO.out HX.out.rd HONE.out (by omega) (by omega) (by omega) HBS.out rfl rfl rfl rfl ?_; intro ga gc w3 hm3 hm3' hb3 hn3))
  all_goals
   go_ret
   refine ⟨.slice (some ⟨ga, 0, none⟩) _ gc, rfl, hm3, Only.of_grown hb3, fun j hj => ?_⟩
   simp only [Value.ownBlock, Option.some.injEq] at hj
   subst hj
   rcases hn3 with ⟨k, c, hk, -⟩ | hn3
   ·
    simp only [Value.slice.injEq, Option.some.injEq, Addr.mk.injEq, and_true, true_and] at hk
    exact .inl (by rw [hk.1]; rfl)
   · exact .inr hn3
set_option maxHeartbeats 2000000 in
theorem insS_shift (base n vb i g cap : Nat) (cs : List Value) (x : Value) (w : World) (hown : w.ownsRow base 9 1 (.slice (some ⟨g, 0, none⟩) n cap) n cs) (h1 : ∀ u ∈ cs, u.oneCell' = true) (hx : LitS w vb x) (hne : vb ≠ g) (hn : n ≤ 1000000) (hi : i < n) (hroom : n + 1 ≤ cap) (hcap : cap ≤ 9223372036854775807) :
  Calls Try.prog 56 #[.slice (some ⟨g, 0, none⟩) n cap, .int .i64 i, .slice (some ⟨vb, 0, none⟩) 1 1] w fun e w' => ∃ v', e = .returned v' ∧ w'.ownsRow base 9 1 v' (n + 1) (cs.take i ++ x :: cs.drop i) ∧ Only (fun j => some g = some j) w w' ∧ (∀ j, v'.ownBlock = some j → some g = some j ∨ w.heap.size ≤ j) := by
 have hcl : cs.length = n := by have := hown.1; omega
 obtain ⟨tl, htl, hown1⟩ := own_extend (m := 1) hown hroom
 have hsh := own_shape hown
 have hsp := own_there' hown
 have hfz : ∀ o, w.frozen? ⟨g, o, none⟩ = false := fun o => World.ownsRow.frozenAt hown o
 have hcells := World.ownsRow.cells hown rfl
 have hov : ∀ lb cb, (callFunc 81 #[.slice (some ⟨vb, 0, none⟩) 1 1, .slice (some ⟨g, i + 1, none⟩) lb cb]).run Try.prog w = .ok (.value (.bool false)) w := fun lb cb => by
  rw [run_callFunc_extern Try.func81 (by kernel_rfl) (by kernel_rfl) (by kernel_rfl) (e := Extern.SlicesOverlaps.overlaps #[22, 22] #[4]) (by kernel_rfl),
   Lib.run_overlaps_apart w 22 4 9 Try.underlying22 1 (fun w => by kernel_rfl) ⟨vb, 0, none⟩ ⟨g, i + 1, none⟩ 1 1 lb cb hne 9 9 1 (cap * 1) hx.sh hsh (by omega) (hx.fz 0) (hx.fz 1)]
  rfl
 have hdl : (cs.drop i).length = (n - i) * 1 := by rw [List.length_drop, hcl]; omega
 have hcp1 : ∀ ty dc sc, (Builtin.copy_ #[22, 22] ty #[.slice (some ⟨g, i + 1, none⟩) (n - i) dc, .slice (some ⟨g, i, none⟩) (n + 1 - i) sc]).run Try.prog w.drew = .ok (goInt ((n - i : Nat) : Int)) (w.drew.setCells g (i + 1) (cs.drop i)) := fun ty dc sc =>
  run_copy_k (b := g) (o := i + 1) (dLen := n - i) (dCap := dc) (a := ⟨g, i, none⟩) (sLen := n + 1 - i) (sCap := sc) (n := n - i) w.drew tyS (by simp only [Nat.min_def]; split <;> omega) hdl (fun j u hj => by
    rw [List.getElem?_drop] at hj
    have := hcells _ _ hj
    rw [add_off] at this ⊢
    rw [Nat.zero_add] at this
    exact this) (fun j hj => hsp _ (by omega)) (fun j _ => hfz _) (fun u hu => h1 u (List.mem_of_mem_drop hu))
 have hown1 : w.drew.ownsRow base 9 1 (.slice (some ⟨g, 0, none⟩) (n + 1) cap) (n + 1) (cs ++ tl) := hown1
 obtain ⟨ho2, hg2⟩ := own_write (cs.drop i) (i + 1) w.drew _ hown1
 obtain ⟨ho3, hg3⟩ := own_write [x] i (w.drew.setCells g (i + 1) (cs.drop i)) _ ho2
 have he : writeL (writeL (cs ++ tl) (i + 1) (cs.drop i)) i [x] = cs.take i ++ x :: cs.drop i := by
  have hal : (cs ++ tl).length = n + 1 := by rw [List.length_append]; omega
  rw [writeL_eq (cs.drop i) _ _ (by omega), writeL_eq _ _ _ (by simp; omega)]
  have e1 : (cs ++ tl).drop (i + 1 + (cs.drop i).length) = [] := List.drop_eq_nil_of_le (by omega)
  have e2 : ((cs ++ tl).take (i + 1)).length = i + 1 := by rw [List.length_take]; omega
  rw [e1, List.append_nil, List.take_append_of_le_length (by omega), List.take_take, Nat.min_eq_left (by omega), List.take_append_of_le_length (by omega)]
  have e3 : i + [x].length = i + 1 := rfl
  rw [e3, List.drop_left' (by omega)]
  simp
 rw [he] at ho3
 have hcp2 : ∀ ty dc, (Builtin.copy_ #[22, 22] ty #[.slice (some ⟨g, i, none⟩) (n + 1 - i) dc, .slice (some ⟨vb, 0, none⟩) 1 1]).run Try.prog (w.drew.setCells g (i + 1) (cs.drop i)) = .ok (goInt ((1 : Nat) : Int)) ((w.drew.setCells g (i + 1) (cs.drop i)).setCells g i [x]) := fun ty dc =>
  run_copy_k (b := g) (o := i) (dLen := n + 1 - i) (dCap := dc) (a := ⟨vb, 0, none⟩) (sLen := 1) (sCap := 1) (n := 1) _ tyS (by simp only [Nat.min_def]; split <;> omega) rfl (fun j u hj => by
    obtain ⟨a, c, e, -, -, -, h⟩ := hx.rd
    simp only [Value.slice.injEq] at e
    obtain ⟨rfl, -, rfl⟩ := e
    rcases h with h | ⟨b', o', e, h⟩
    · omega
    ·
     simp only [Option.some.injEq, Addr.mk.injEq, and_true] at e
     obtain ⟨rfl, rfl⟩ := e
     rw [add_off, World.cell?_setCells_out _ _ _ _ _ (fun h _ => absurd h hne)]
     exact h j u hj) (fun j hj => own_there' ho2 _ (by simp at hj; omega)) (fun j _ => World.ownsRow.frozenAt ho2 _) (fun u hu => by rw [List.mem_singleton.1 hu]; exact hx.one)
 have HCP2 := Lib.hid hcp2
 have HO3 := Lib.hid (And.intro ho3 ((Only.of_grown (w := w) (⟨hg2.os, hg2.tape, hg2.output, hg2.size, hg2.block⟩ : w.grownBy _ (some g))).trans (Only.of_grown hg3) (fun j _ h => h)))
 clear hcp2 ho3 hg3 ho2 hg2 he hown1 hcells hfz hsp hdl htl
 have hb2 : ¬ cap = i := by omega
 have hb3 : ¬ cap = i + 1 := by omega
 have hb4 : ¬ (i : Int) = (n : Int) := by omega
 have hb5 : (n : Int) + 1 ≤ (cap : Int) := by omega
 have hb6 : (i : Int) ≤ (n : Int) + 1 := by omega
 have hw1 : IntKind.i64.wrap ((i : Int) + 1) = (i : Int) + 1 := by rw [IntKind.wrap_i64]; omega
 have hb7 : (0 : Int) ≤ (i : Int) + 1 := by omega
 have hb8 : (i : Int) + 1 ≤ (n : Int) + 1 := by omega
 have htn : ((i : Int) + 1).toNat = i + 1 := by omega
 have HCP := Lib.hid hcp1
 clear hcp1
 go_enter Try.func56, Try.ntmps56
 go_wp2_with (simp only [hov])
 refine region_m [(0, false), (1, false), (2, false), (3, false), (4, false), (5, false), (6, false), (7, false)] 8 (fun V => True) (by kernel_rfl) (by kernel_rfl) trivial ?_
 iterate 8
  refine m_take (v := ?_) rfl rfl ?_ ?_
  rotate_left
  ·
   intro W hW
   go_simp
   with_reducible rfl
  simp only [Act.put, List.setIfInBounds_toArray, List.set_cons_zero, List.set_cons_succ]
 refine m_done ?_
 simp only [List.drop_succ_cons, List.drop_zero]
 refine list_value rfl (exec_copy rfl rfl rfl (HCP.out _ _ _)) ?_
 go_wp2_with fail
 simp only [NP]
 have hcp2 := HCP2.out
 go_wp2_with fail
 go_ret
 exact ⟨.slice (some ⟨g, 0, none⟩) _ cap, rfl, HO3.out.1, HO3.out.2, fun j hj => .inl hj⟩
set_option maxHeartbeats 2000000 in
theorem insS_grow (base n vb i g cap : Nat) (cs : List Value) (x : Value) (w : World) (hown : w.ownsRow base 9 1 (.slice (some ⟨g, 0, none⟩) n cap) n cs) (h1 : ∀ u ∈ cs, u.oneCell' = true) (hx : LitS w vb x) (hn : n ≤ 1000000) (hi : i < n) (hroom : cap < n + 1) (hnc : n ≤ cap) (hbase : base ≤ w.heap.size) (hg : g < w.heap.size) :
  Calls Try.prog 56 #[.slice (some ⟨g, 0, none⟩) n cap, .int .i64 i, .slice (some ⟨vb, 0, none⟩) 1 1] w fun e w' => ∃ v', e = .returned v' ∧ w'.ownsRow base 9 1 v' (n + 1) (cs.take i ++ x :: cs.drop i) ∧ Only (fun j => some g = some j) w w' ∧ (∀ j, v'.ownBlock = some j → some g = some j ∨ w.heap.size ≤ j) := by
 obtain rfl : cap = n := by omega
 clear hnc hroom
 have hcl : cs.length = cap := by have := hown.1; omega
 have hcells := World.ownsRow.cells hown rfl
 obtain ⟨c, w1, zs, hzl, hc1, hc2, hrun, ho1, hb1⟩ := run_app_zeros (ty := 22) (tn := 3) (kn := .i64) (k := cap + 1 - i) tyS Try.underlying3 hown (by omega : i ≤ cap) (by omega) (by omega) (by omega) (by omega)
 have hsum : i + (cap + 1 - i) = cap + 1 := by omega
 have hkk : (cap : Int) + 1 - (i : Int) = ((cap + 1 - i : Nat) : Int) := by omega
 rw [hsum] at hrun ho1 hc1
 rw [← hkk] at hrun
 rw [Nat.mul_one] at ho1
 obtain ⟨G, hG⟩ : ∃ G, G = w.heap.size := ⟨_, rfl⟩
 rw [← hG] at hrun ho1
 have hdl : (cs.drop i).length = (cap - i) * 1 := by rw [List.length_drop, hcl]; omega
 obtain ⟨ho2, hg2⟩ := own_write [x] i w1 _ ho1
 have ho2 : (w1.setCells G i [x]).drew.ownsRow G 9 1 (.slice (some ⟨G, 0, none⟩) (cap + 1) c) (cap + 1) (writeL (cs.take i ++ zs) i [x]) := ho2
 obtain ⟨ho3, hg3⟩ := own_write (cs.drop i) (i + 1) (w1.setCells G i [x]).drew _ ho2
 have he : writeL (writeL (cs.take i ++ zs) i [x]) (i + 1) (cs.drop i) = cs.take i ++ x :: cs.drop i := by
  have htl : (cs.take i).length = i := by rw [List.length_take]; omega
  have hal : (cs.take i ++ zs).length = cap + 1 := by rw [List.length_append]; omega
  rw [writeL_eq [x] _ _ (by simp only [List.length_cons, List.length_nil]; omega), List.take_left' htl, writeL_eq _ _ _ (by simp; omega)]
  have e2 : (cs.take i ++ [x]).length = i + 1 := by rw [List.length_append]; simp only [List.length_cons, List.length_nil]; omega
  obtain ⟨D, hD⟩ : ∃ D, D = (cs.take i ++ zs).drop (i + [x].length) := ⟨_, rfl⟩
  have hDl : D.length = cap - i := by rw [hD, List.length_drop, hal]; simp only [List.length_cons, List.length_nil]; omega
  have e3 : (cs.take i ++ [x] ++ D).drop (i + 1 + (cs.drop i).length) = [] := List.drop_eq_nil_of_le (by rw [List.length_append, e2]; omega)
  rw [← hD, List.take_left' e2, e3, List.append_nil]
  simp
 rw [he] at ho3
 have hGg : g ≠ G := by omega
 have hGv : vb ≠ G := by have := hx.lt; omega
 have hcp1 : ∀ ty dc, (Builtin.copy_ #[22, 22] ty #[.slice (some ⟨G, i, none⟩) (cap + 1 - i) dc, .slice (some ⟨vb, 0, none⟩) 1 1]).run Try.prog w1 = .ok (goInt ((1 : Nat) : Int)) (w1.setCells G i [x]) := fun ty dc =>
  run_copy_k (b := G) (o := i) (dLen := cap + 1 - i) (dCap := dc) (a := ⟨vb, 0, none⟩) (sLen := 1) (sCap := 1) (n := 1) _ tyS (by simp only [Nat.min_def]; split <;> omega) rfl (fun j u hj => by
    obtain ⟨a, c, e, -, -, -, h⟩ := hx.rd
    simp only [Value.slice.injEq] at e
    obtain ⟨rfl, -, rfl⟩ := e
    rcases h with h | ⟨b', o', e, h⟩
    · omega
    ·
     simp only [Option.some.injEq, Addr.mk.injEq, and_true] at e
     obtain ⟨rfl, rfl⟩ := e
     rw [add_off]
     exact cell_later hb1 (h j u hj)) (fun j hj => own_there' ho1 _ (by simp at hj; omega)) (fun j _ => World.ownsRow.frozenAt ho1 _) (fun u hu => by rw [List.mem_singleton.1 hu]; exact hx.one)
 have hcp2 : ∀ ty dc sc, (Builtin.copy_ #[22, 22] ty #[.slice (some ⟨G, i + 1, none⟩) (cap - i) dc, .slice (some ⟨g, i, none⟩) (cap - i) sc]).run Try.prog (w1.setCells G i [x]).drew = .ok (goInt ((cap - i : Nat) : Int)) ((w1.setCells G i [x]).drew.setCells G (i + 1) (cs.drop i)) := fun ty dc sc =>
  run_copy_k (b := G) (o := i + 1) (dLen := cap - i) (dCap := dc) (a := ⟨g, i, none⟩) (sLen := cap - i) (sCap := sc) (n := cap - i) _ tyS (by simp only [Nat.min_def]; split <;> omega) hdl (fun j u hj => by
    rw [List.getElem?_drop] at hj
    have := hcells _ _ hj
    rw [add_off, Nat.zero_add] at this
    rw [add_off, World.cell?_drew, World.cell?_setCells_out _ _ _ _ _ (fun h _ => absurd h hGg)]
    exact cell_later hb1 this) (fun j hj => own_there' ho2 _ (by omega)) (fun j _ => World.ownsRow.frozenAt ho2 _) (fun u hu => h1 u (List.mem_of_mem_drop hu))
 have hfin : Only (fun j => some g = some j) w ((w1.setCells G i [x]).drew.setCells G (i + 1) (cs.drop i)) := by
  refine ((Only.of_below hb1).trans (Only.of_grown hg2).drew (fun j hj e => ?_)).trans (Only.of_grown hg3) (fun j hj e => ?_)
  · simp only [Option.some.injEq] at e; omega
  · simp only [Option.some.injEq] at e; omega
 subst hG
 have HF := Lib.hid (And.intro (ownsRow_mono ho3 hbase) hfin)
 have HRUN := Lib.hid hrun
 have HCP1 := Lib.hid hcp1
 have HCP2 := Lib.hid hcp2
 have hc1 : cap < c := by omega
 clear ho1 ho2 ho3 hg2 hg3 he hfin hcp1 hcp2 hcells hrun hb1 hzl hdl hsum hkk hown hx h1
 have hb2 : ¬ cap = i := by omega
 have hb3 : ¬ c = i := by omega
 have hb3' : ¬ c = i + 1 := by omega
 have hb4 : ¬ (i : Int) = (cap : Int) := by omega
 have hb5 : (cap : Int) < (cap : Int) + 1 := by omega
 have hb6 : (i : Int) ≤ (cap : Int) := by omega
 have hb9 : (i : Int) ≤ (cap : Int) + 1 := by omega
 have hw1 : IntKind.i64.wrap ((i : Int) + 1) = (i : Int) + 1 := by rw [IntKind.wrap_i64]; omega
 have hb7 : (0 : Int) ≤ (i : Int) + 1 := by omega
 have hb8 : (i : Int) + 1 ≤ (cap : Int) + 1 := by omega
 have htn : ((i : Int) + 1).toNat = i + 1 := by omega
 go_enter Try.func56, Try.ntmps56
 go_wp2_with (at_builtin; refine list_value rfl (exec_appz rfl rfl rfl HRUN.out) ?_)
 rw [HCP1.out]
 go_wp2_with fail
 refine region_m [(0, false), (1, false), (2, false), (3, false), (4, false), (5, false), (6, false), (7, false)] 8 (fun V => True) (by kernel_rfl) (by kernel_rfl) trivial ?_
 iterate 8
  refine m_take (v := ?_) rfl rfl ?_ ?_
  rotate_left
  ·
   intro W hW
   go_simp
   with_reducible rfl
  simp only [Act.put, List.setIfInBounds_toArray, List.set_cons_zero, List.set_cons_succ]
 refine m_done ?_
 simp only [List.drop_succ_cons, List.drop_zero]
 refine list_value rfl (exec_copy rfl rfl rfl (HCP2.out _ _ _)) ?_
 go_wp2_with fail
 simp only [NP]
 go_wp2_with fail
 go_ret
 exact ⟨.slice (some ⟨w.heap.size, 0, none⟩) _ c, rfl, HF.out.1, HF.out.2, fun j hj => .inr (by simp only [Value.ownBlock, Option.some.injEq] at hj; omega)⟩
theorem insS_calls (base n vb i : Nat) (v : Value) (cs : List Value) (x : Value) (w : World) (hown : w.ownsRow base 9 1 v n cs) (h1 : ∀ u ∈ cs, u.oneCell' = true) (hx : LitS w vb x) (hne : ∀ j, v.ownBlock = some j → vb ≠ j) (hn : n ≤ 1000000) (hi : i ≤ n) (hbase : base ≤ w.heap.size) :
  Calls Try.prog 56 #[v, .int .i64 i, .slice (some ⟨vb, 0, none⟩) 1 1] w fun e w' => ∃ v', e = .returned v' ∧ w'.ownsRow base 9 1 v' (n + 1) (insAt cs i x) ∧ Only (fun j => v.ownBlock = some j) w w' ∧ (∀ j, v'.ownBlock = some j → v.ownBlock = some j ∨ w.heap.size ≤ j) := by
 have hcl : cs.length = n := by have := hown.1; omega
 unfold insAt
 rcases Nat.lt_or_ge i n with hlt | hge
 ·
  rcases hown.2 with ⟨rfl, hz⟩ | ⟨g, cap, cur, rfl, -, hgh, hnc, hcm, -⟩
  · omega
  ·
   have hg := (Array.getElem?_eq_some_iff.1 hgh).1
   have hcm : cap ≤ 9223372036854775807 := by unfold maxLen at hcm; omega
   have hob : (Value.slice (some ⟨g, 0, none⟩) n cap).ownBlock = some g := rfl
   rcases Nat.lt_or_ge cap (n + 1) with hc | hc
   · exact insS_grow base n vb i g cap cs x w hown h1 hx hn hlt hc hnc hbase hg
   · exact insS_shift base n vb i g cap cs x w hown h1 hx (hne g hob) hn hlt hc hcm
 ·
  obtain rfl : i = n := by omega
  rw [List.take_of_length_le (by omega), List.drop_eq_nil_of_le (by omega)]
  exact insS_end base i vb v cs x w hown hx hn hbase
end Go.Proofs.Ytmafnjidhjabgaa
namespace Go.Proofs.Ytmafnjidhjabgaa
open Go.RowKit Go.Shelf
set_option linter.unusedVariables false
set_option linter.unusedSimpArgs false
set_option maxRecDepth 100000
set_option maxHeartbeats 800000 in
theorem growS_calls (n : Nat) (w : World) (hn : n ≤ 1000000) :
  Calls Try.prog 98 #[.slice none 0 0, .int .i64 n] w fun e w' => ∃ v', e = .returned v' ∧ w'.ownsRow w.heap.size 9 1 v' 0 [] ∧ Below w.heap.size w w' := by
 by_cases h0 : n = 0
 ·
  subst h0
  go_enter Try.func98, Try.ntmps98
  go_wp2_with fail
  go_ret
  exact ⟨_, rfl, World.ownsRow_nil _ _ _ _, Below.refl _ _⟩
 ·
  obtain ⟨i0, hi, hz, hsz, hby⟩ := tyS.hi
  have hold : (Builtin.firstCells i0.size 0 (.slice none 0 0)).run Try.prog w.drew = .ok ([] : List Value).toArray w.drew := run_firstCells_none (P := Try.prog) (w := w.drew) _ _ _ _
  have hfit := growslice_fits (need := 0 + n) (old := 0) (bytes := i0.bytes) (by omega) (by rw [hby]; omega)
  have h := fun ty => Lib.run_append_grow_zeros (P := Try.prog) w 22 3 ty 9 i0 (.string ⟨#[]⟩) .i64 .i64 tyS.ht Try.underlying3 hi hz none 0 0 [] hold n (by omega) (by rw [hsz]; omega) (by omega) (by omega) (by rw [hby]; omega) hfit
  have hge := grownCap_ge w (0 + n) 0 9
  have hmx := grownCap_le_maxLen w (0 + n) 0 9 (by unfold maxLen; omega)
  rw [Nat.zero_add] at h hge hmx
  have hzl : ∀ q, (Builtin.zeroCells ((.string ⟨#[]⟩) : Value).cells q).size = q := fun q => by simp [Builtin.zeroCells, Value.cells]
  have hown : (w.drew.alloc (.cells (([] : List Value).toArray ++ Builtin.zeroCells ((.string ⟨#[]⟩) : Value).cells n ++ Builtin.zeroCells ((.string ⟨#[]⟩) : Value).cells (grownCap w n 0 9 - n)) 9)).ownsRow w.heap.size 9 1 (.slice (some ⟨w.heap.size, 0, none⟩) 0 (grownCap w n 0 9)) 0 [] := by
   refine ⟨rfl, .inr ⟨w.heap.size, _, _, rfl, Nat.le_refl _, heap_alloc_new w.drew _, by omega, hmx, ?_, ?_⟩⟩
   ·
    simp only [Array.size_append, hzl, List.size_toArray, List.length_nil]
    omega
   · simp
  have hb : Below w.heap.size w (w.drew.alloc (.cells (([] : List Value).toArray ++ Builtin.zeroCells ((.string ⟨#[]⟩) : Value).cells n ++ Builtin.zeroCells ((.string ⟨#[]⟩) : Value).cells (grownCap w n 0 9 - n)) 9)) := ((Below.refl w.heap.size w).drew).alloc (Nat.le_refl _) _
  have hmx' : grownCap w n 0 9 ≤ 9223372036854775807 := by unfold maxLen at hmx; omega
  clear hi hz hsz hby hold hfit
  generalize grownCap w n 0 9 = c at *
  generalize World.alloc _ _ = W1 at *
  have H := Lib.hid h
  have HO := Lib.hid hown
  have HB := Lib.hid hb
  have hpos : 0 < n := by omega
  clear h hown hb hzl h0
  go_enter Try.func98, Try.ntmps98
  go_wp2_with (at_builtin; refine list_value rfl (exec_appz rfl rfl rfl (H.out _)) ?_)
  go_ret
  exact ⟨_, rfl, HO.out, HB.out⟩
set_option maxHeartbeats 1600000 in
theorem catS_calls (v : Value) (rs : List (Value × List Value)) (w : World) (hv : Rd w 1 v rs.length (rs.map (·.1))) (hr : ∀ r ∈ rs, Rd w 1 r.1 r.2.length r.2) (h1 : ∀ r ∈ rs, ∀ u ∈ r.2, u.oneCell' = true) (hn : rs.length ≤ 1000000) (ht : (catL rs).length ≤ 1000000) :
  Calls Try.prog 86 #[v] w fun e w' => ∃ v', e = .returned v' ∧ w'.ownsRow w.heap.size 9 1 v' (catL rs).length (catL rs) ∧ Below w.heap.size w w' := by
 have HV := Lib.hid hv
 have HR := Lib.hid hr
 have H1 := Lib.hid h1
 obtain ⟨a, cap, rfl, hle, hcap⟩ := Rd.slice hv
 clear hv hr h1
 go_enter Try.func86, Try.ntmps86
 go_wp2_with fail
 go_loopw [3, 5, 11] (fun sv _ iv wr => ∃ i : Nat, i ≤ rs.length ∧ iv = .int .i64 i ∧ sv = .int .i64 ((catL (rs.take i)).length : Nat) ∧ wr = w) (fun _ _ iv _ => rs.length - (intOf iv).toNat)
 case atStart => exact ⟨0, by omega, rfl, rfl, rfl⟩
 case round =>
  obtain ⟨i, hi, rfl, rfl, hw⟩ := hrel
  obtain rfl : w = wr := hw.symm
  by_cases hil : i < rs.length
  ·
   obtain ⟨b, o, c, hvv, -, -, hcell⟩ := rd1_at HV.out (i := i) (u := (rs[i]).1) (by rw [List.getElem?_map, List.getElem?_eq_getElem hil]; rfl)
   simp only [Value.slice.injEq] at hvv
   obtain ⟨rfl, -, rfl⟩ := hvv
   have hrd := HR.out rs[i] (List.getElem_mem hil)
   have hsm := catL_take hil
   have hlen := congrArg List.length hsm
   rw [List.length_append] at hlen
   have hle2 := catL_le (rs := rs) (i := i + 1)
   obtain ⟨ra, rc, hrv, hrl, hrm⟩ := Rd.slice hrd
   rw [hrv] at hcell
   have HL := Lib.hid hlen
   generalize hN : (rs[i]).2.length = N at *
   generalize hM : (catL (rs.take i)).length = M at *
   have hmn : M + N ≤ 1000000 := by omega
   clear hlen hsm hle2 hN hM hrd hrv
   go_wp2_with fail
   go_roundw
   case rel => exact ⟨i + 1, by omega, by go_num, by rw [HL.out]; go_num, by first | rfl | trivial⟩
   case measure => simp [intOf]; omega
  ·
   obtain rfl : i = rs.length := by omega
   rw [List.take_length]
   go_wp2_with (go_at_call 98; refine (growS_calls _ _ (by omega)).mono ?_; rintro e w1 ⟨nv, rfl, ho1, hb1⟩; obtain ⟨na, nc, rfl⟩ := own_slice ho1; have HO1 := Lib.hid ho1; have HB1 := Lib.hid hb1; clear ho1 hb1)
   go_loopw [6, 8, 27] (fun nv _ iv wv => ∃ i : Nat, i ≤ rs.length ∧ iv = .int .i64 i ∧ wv.ownsRow w.heap.size 9 1 nv (catL (rs.take i)).length (catL (rs.take i)) ∧ Below w.heap.size w wv) (fun _ _ iv _ => rs.length - (intOf iv).toNat)
   case atStart => exact ⟨0, by omega, rfl, HO1.out, HB1.out⟩
   case round =>
    clear HO1 HB1
    obtain ⟨i, hi, rfl, ho, hb⟩ := hrel
    have HO := Lib.hid ho
    have HB := Lib.hid hb
    by_cases hil : i < rs.length
    ·
     obtain ⟨b, o, c, hvv, -, -, hcell⟩ := rd1_at HV.out (i := i) (u := (rs[i]).1) (by rw [List.getElem?_map, List.getElem?_eq_getElem hil]; rfl)
     simp only [Value.slice.injEq] at hvv
     obtain ⟨rfl, -, rfl⟩ := hvv
     have hcell := cell_later hb hcell
     have HRD := Lib.hid (HR.out rs[i] (List.getElem_mem hil))
     have HON := Lib.hid (H1.out rs[i] (List.getElem_mem hil))
     have HSM := Lib.hid (catL_take hil)
     have hle2 := catL_le (rs := rs) (i := i + 1)
     have hlen := congrArg List.length HSM.out
     rw [List.length_append] at hlen
     obtain ⟨ra, rc, hrv, hrl, hrm⟩ := Rd.slice HRD.out
     rw [hrv] at hcell
     obtain ⟨va, vc, rfl⟩ := own_slice ho
     generalize hN : (rs[i]).2.length = N at *
     have HN := Lib.hid hN
     have HRV := Lib.hid hrv
     have hmn : (catL (rs.take i)).length + N ≤ 1000000 := by omega
     clear hlen hle2 hN hrv ho hb
     go_wp2_with (at_builtin; go_loud (refine app_list tyS HO.out (m := N) (ys := (rs[i]).2) (by rw [← HRV.out]; exact HRD.out.below HB.out (Nat.le_refl _)) HON.out (by omega) (by omega) HB.out.size rfl rfl rfl rfl ?_; intro v3 w3 hm3 hb3 hn3; obtain ⟨ga, gc, rfl⟩ := own_slice hm3))
     go_roundw
     case rel =>
      refine ⟨i + 1, by omega, by go_num, ?_, HB.out.grown hb3 HB.out.size (fun j e => (World.ownsRow.lt HO.out j e).1)⟩
      rw [HSM.out, List.length_append, HN.out]
      exact hm3
     case measure => simp [intOf]; omega
    ·
     obtain rfl : i = rs.length := by omega
     rw [List.take_length] at HO
     obtain ⟨va, vc, rfl⟩ := own_slice ho
     clear ho hb
     go_wp2_with fail
     go_ret
     exact ⟨_, rfl, HO.out, HB.out⟩
end Go.Proofs.Ytmafnjidhjabgaa
namespace Go.Proofs.Ytmafnjidhjabgaa
open Go.RowKit Go.Shelf
set_option linter.unusedVariables false
set_option linter.unusedSimpArgs false
set_option maxRecDepth 100000
theorem tyP : STy Try.prog 85 63 (.pointer none) 1 8 := .of Try.underlying85 (by kernel_rfl) rfl (by omega)
set_option maxHeartbeats 400000 in
theorem clP_calls (v : Value) (n : Nat) (cs : List Value) (w : World) (hv : Rd w 1 v n cs) (h1 : ∀ u ∈ cs, u.oneCell' = true) (hl : n ≤ 1000000) :
  Calls Try.prog 59 #[v] w fun e w' => ∃ v', e = .returned v' ∧ w'.ownsRow w.heap.size 63 1 v' n cs ∧ Below w.heap.size w w' := by
 have HV := Lib.hid hv
 have H1 := Lib.hid h1
 obtain ⟨a, c, rfl, hn, hle, hc, h3⟩ := hv
 clear h1
 cases a with
 | none =>
  have h0 : n = 0 := by
   rcases h3 with h3 | ⟨b, o, h, -⟩
   · omega
   · cases h
  subst h0
  have hx : cs = [] := List.eq_nil_of_length_eq_zero (by omega)
  subst hx
  clear h3 hn
  have hnil := fun (w : World) => Lib.run_eql_slice_nil (P := Try.prog) w 85 63 none 0 c 0 0 Try.underlying85
  go_enter Try.func59, Try.ntmps59
  go_wp2
  go_ret
  exact ⟨_, rfl, World.ownsRow_nil _ _ _ _, Below.refl _ _⟩
 | some x =>
  clear h3 hn
  have hnil := fun (w : World) => Lib.run_eql_slice_nil (P := Try.prog) w 85 63 (some x) n c 0 0 Try.underlying85
  have hlit := World.ownsRow_lit (base := w.heap.size) (size := 1) (e := 63) w #[] 0 (Nat.le_refl _) (by unfold maxLen; omega) (by simp)
  have hal := (Below.refl w.heap.size w).alloc (Nat.le_refl _) (.cells #[] 63)
  have HR := Lib.hid (HV.out.below hal (Nat.le_refl _))
  have HLIT := Lib.hid hlit
  have HAL := Lib.hid hal
  clear hlit hal
  go_enter Try.func59, Try.ntmps59
  go_wp2_with (at_builtin; go_loud (refine app_list tyP HLIT.out HR.out H1.out (by omega) (by omega) HAL.out.size rfl rfl rfl rfl ?_; intro v3 w3 hm3 hb3 hn3; obtain ⟨ga, gc, rfl⟩ := own_slice hm3))
  go_ret
  refine ⟨_, rfl, ?_, ?_⟩
  · simpa using hm3
  · exact HAL.out.grown hb3 HAL.out.size (fun j e => (World.ownsRow.lt HLIT.out j e).1)
structure LitP (w : World) (b : Nat) (x : Value) : Prop where
 rd : Rd w 1 (.slice (some ⟨b, 0, none⟩) 1 1) 1 [x]
 sh : w.shape? b = some (63, 1)
 fz : ∀ o, w.frozen? ⟨b, o, none⟩ = false
 one : x.oneCell' = true
 lt : b < w.heap.size
theorem LitP.of (w : World) (x : Value) (h : x.oneCell' = true) : LitP (w.alloc (.cells #[x] 63)) w.heap.size x :=
 ⟨Rd.lit (n := 1) rfl (by omega), by unfold World.shape?; rw [World.alloc_heap_new w (.cells #[x] 63)]; rfl, fun o => by rw [World.frozen?_alloc_at _ _ _ _ rfl], h, by simp⟩
set_option maxHeartbeats 800000 in
theorem insP_end (base n vb : Nat) (v : Value) (cs : List Value) (x : Value) (w : World) (hown : w.ownsRow base 63 1 v n cs) (hx : LitP w vb x) (hn : n ≤ 1000000) (hbase : base ≤ w.heap.size) :
  Calls Try.prog 57 #[v, .int .i64 n, .slice (some ⟨vb, 0, none⟩) 1 1] w fun e w' => ∃ v', e = .returned v' ∧ w'.ownsRow base 63 1 v' (n + 1) (cs ++ [x]) ∧ Only (fun j => v.ownBlock = some j) w w' ∧ (∀ j, v'.ownBlock = some j → v.ownBlock = some j ∨ w.heap.size ≤ j) := by
 have HO := Lib.hid hown
 have HX := Lib.hid hx
 have HBS := Lib.hid hbase
 have HONE := Lib.hid (show ∀ u ∈ [x], u.oneCell' = true from fun u hu => by rw [List.mem_singleton.1 hu]; exact hx.one)
 clear hx hbase
 rcases hown.2 with ⟨rfl, rfl⟩ | ⟨g, cap, cur, rfl, -, -, hnc, hcm, -⟩
 ·
  clear hown
  go_enter Try.func57, Try.ntmps57
  go_wp2_with (at_builtin; go_loud (refine app_keep tyP HO.out HX.out.rd HONE.out (by omega) (by omega) (by omega) HBS.out rfl rfl rfl rfl ?_; intro ga gc w3 hm3 hm3' hb3 hn3))
  go_ret
  refine ⟨.slice (some ⟨ga, 0, none⟩) _ gc, rfl, hm3, Only.of_grown hb3, fun j hj => ?_⟩
  simp only [Value.ownBlock, Option.some.injEq] at hj
  subst hj
  rcases hn3 with ⟨k, c, hk, -⟩ | hn3
  · cases hk
  · exact .inr hn3
 ·
  have hcm : cap ≤ 9223372036854775807 := by unfold maxLen at hcm; omega
  clear hown
  go_enter Try.func57, Try.ntmps57
  go_wp2_with (at_builtin; go_loud (refine app_keep tyP HO.out HX.out.rd HONE.out (by omega) (by omega) (by omega) HBS.out rfl rfl rfl rfl ?_; intro ga gc w3 hm3 hm3' hb3 hn3))
  all_goals
   go_ret
   refine ⟨.slice (some ⟨ga, 0, none⟩) _ gc, rfl, hm3, Only.of_grown hb3, fun j hj => ?_⟩
   simp only [Value.ownBlock, Option.some.injEq] at hj
   subst hj
   rcases hn3 with ⟨k, c, hk, -⟩ | hn3
   ·
    simp only [Value.slice.injEq, Option.some.injEq, Addr.mk.injEq, and_true, true_and] at hk
    exact .inl (by rw [hk.1]; rfl)
   · exact .inr hn3
set_option maxHeartbeats 2000000 in
theorem insP_shift (base n vb i g cap : Nat) (cs : List Value) (x : Value) (w : World) (hown : w.ownsRow base 63 1 (.slice (some ⟨g, 0, none⟩) n cap) n cs) (h1 : ∀ u ∈ cs, u.oneCell' = true) (hx : LitP w vb x) (hne : vb ≠ g) (hn : n ≤ 1000000) (hi : i < n) (hroom : n + 1 ≤ cap) (hcap : cap ≤ 9223372036854775807) :
  Calls Try.prog 57 #[.slice (some ⟨g, 0, none⟩) n cap, .int .i64 i, .slice (some ⟨vb, 0, none⟩) 1 1] w fun e w' => ∃ v', e = .returned v' ∧ w'.ownsRow base 63 1 v' (n + 1) (cs.take i ++ x :: cs.drop i) ∧ Only (fun j => some g = some j) w w' ∧ (∀ j, v'.ownBlock = some j → some g = some j ∨ w.heap.size ≤ j) := by
 have hcl : cs.length = n := by have := hown.1; omega
 obtain ⟨tl, htl, hown1⟩ := own_extend (m := 1) hown hroom
 have hsh := own_shape hown
 have hsp := own_there' hown
 have hfz : ∀ o, w.frozen? ⟨g, o, none⟩ = false := fun o => World.ownsRow.frozenAt hown o
 have hcells := World.ownsRow.cells hown rfl
 have hov : ∀ lb cb, (callFunc 83 #[.slice (some ⟨vb, 0, none⟩) 1 1, .slice (some ⟨g, i + 1, none⟩) lb cb]).run Try.prog w = .ok (.value (.bool false)) w := fun lb cb => by
  rw [run_callFunc_extern Try.func83 (by kernel_rfl) (by kernel_rfl) (by kernel_rfl) (e := Extern.SlicesOverlaps.overlaps #[85, 85] #[4]) (by kernel_rfl),
   Lib.run_overlaps_apart w 85 4 63 Try.underlying85 1 (fun w => by kernel_rfl) ⟨vb, 0, none⟩ ⟨g, i + 1, none⟩ 1 1 lb cb hne 63 63 1 (cap * 1) hx.sh hsh (by omega) (hx.fz 0) (hx.fz 1)]
  rfl
 have hdl : (cs.drop i).length = (n - i) * 1 := by rw [List.length_drop, hcl]; omega
 have hcp1 : ∀ ty dc sc, (Builtin.copy_ #[85, 85] ty #[.slice (some ⟨g, i + 1, none⟩) (n - i) dc, .slice (some ⟨g, i, none⟩) (n + 1 - i) sc]).run Try.prog w.drew = .ok (goInt ((n - i : Nat) : Int)) (w.drew.setCells g (i + 1) (cs.drop i)) := fun ty dc sc =>
  run_copy_k (b := g) (o := i + 1) (dLen := n - i) (dCap := dc) (a := ⟨g, i, none⟩) (sLen := n + 1 - i) (sCap := sc) (n := n - i) w.drew tyP (by simp only [Nat.min_def]; split <;> omega) hdl (fun j u hj => by
    rw [List.getElem?_drop] at hj
    have := hcells _ _ hj
    rw [add_off] at this ⊢
    rw [Nat.zero_add] at this
    exact this) (fun j hj => hsp _ (by omega)) (fun j _ => hfz _) (fun u hu => h1 u (List.mem_of_mem_drop hu))
 have hown1 : w.drew.ownsRow base 63 1 (.slice (some ⟨g, 0, none⟩) (n + 1) cap) (n + 1) (cs ++ tl) := hown1
 obtain ⟨ho2, hg2⟩ := own_write (cs.drop i) (i + 1) w.drew _ hown1
 obtain ⟨ho3, hg3⟩ := own_write [x] i (w.drew.setCells g (i + 1) (cs.drop i)) _ ho2
 have he : writeL (writeL (cs ++ tl) (i + 1) (cs.drop i)) i [x] = cs.take i ++ x :: cs.drop i := by
  have hal : (cs ++ tl).length = n + 1 := by rw [List.length_append]; omega
  rw [writeL_eq (cs.drop i) _ _ (by omega), writeL_eq _ _ _ (by simp; omega)]
  have e1 : (cs ++ tl).drop (i + 1 + (cs.drop i).length) = [] := List.drop_eq_nil_of_le (by omega)
  have e2 : ((cs ++ tl).take (i + 1)).length = i + 1 := by rw [List.length_take]; omega
  rw [e1, List.append_nil, List.take_append_of_le_length (by omega), List.take_take, Nat.min_eq_left (by omega), List.take_append_of_le_length (by omega)]
  have e3 : i + [x].length = i + 1 := rfl
  rw [e3, List.drop_left' (by omega)]
  simp
 rw [he] at ho3
 have hcp2 : ∀ ty dc, (Builtin.copy_ #[85, 85] ty #[.slice (some ⟨g, i, none⟩) (n + 1 - i) dc, .slice (some ⟨vb, 0, none⟩) 1 1]).run Try.prog (w.drew.setCells g (i + 1) (cs.drop i)) = .ok (goInt ((1 : Nat) : Int)) ((w.drew.setCells g (i + 1) (cs.drop i)).setCells g i [x]) := fun ty dc =>
  run_copy_k (b := g) (o := i) (dLen := n + 1 - i) (dCap := dc) (a := ⟨vb, 0, none⟩) (sLen := 1) (sCap := 1) (n := 1) _ tyP (by simp only [Nat.min_def]; split <;> omega) rfl (fun j u hj => by
    obtain ⟨a, c, e, -, -, -, h⟩ := hx.rd
    simp only [Value.slice.injEq] at e
    obtain ⟨rfl, -, rfl⟩ := e
    rcases h with h | ⟨b', o', e, h⟩
    · omega
    ·
     simp only [Option.some.injEq, Addr.mk.injEq, and_true] at e
     obtain ⟨rfl, rfl⟩ := e
     rw [add_off, World.cell?_setCells_out _ _ _ _ _ (fun h _ => absurd h hne)]
     exact h j u hj) (fun j hj => own_there' ho2 _ (by simp at hj; omega)) (fun j _ => World.ownsRow.frozenAt ho2 _) (fun u hu => by rw [List.mem_singleton.1 hu]; exact hx.one)
 have HCP2 := Lib.hid hcp2
 have HO3 := Lib.hid (And.intro ho3 ((Only.of_grown (w := w) (⟨hg2.os, hg2.tape, hg2.output, hg2.size, hg2.block⟩ : w.grownBy _ (some g))).trans (Only.of_grown hg3) (fun j _ h => h)))
 clear hcp2 ho3 hg3 ho2 hg2 he hown1 hcells hfz hsp hdl htl
 have hb2 : ¬ cap = i := by omega
 have hb3 : ¬ cap = i + 1 := by omega
 have hb4 : ¬ (i : Int) = (n : Int) := by omega
 have hb5 : (n : Int) + 1 ≤ (cap : Int) := by omega
 have hb6 : (i : Int) ≤ (n : Int) + 1 := by omega
 have hw1 : IntKind.i64.wrap ((i : Int) + 1) = (i : Int) + 1 := by rw [IntKind.wrap_i64]; omega
 have hb7 : (0 : Int) ≤ (i : Int) + 1 := by omega
 have hb8 : (i : Int) + 1 ≤ (n : Int) + 1 := by omega
 have htn : ((i : Int) + 1).toNat = i + 1 := by omega
 have HCP := Lib.hid hcp1
 clear hcp1
 go_enter Try.func57, Try.ntmps57
 go_wp2_with (simp only [hov])
 refine region_m [(0, false), (1, false), (2, false), (3, false), (4, false), (5, false), (6, false), (7, false)] 8 (fun V => True) (by kernel_rfl) (by kernel_rfl) trivial ?_
 iterate 8
  refine m_take (v := ?_) rfl rfl ?_ ?_
  rotate_left
  ·
   intro W hW
   go_simp
   with_reducible rfl
  simp only [Act.put, List.setIfInBounds_toArray, List.set_cons_zero, List.set_cons_succ]
 refine m_done ?_
 simp only [List.drop_succ_cons, List.drop_zero]
 refine list_value rfl (exec_copy rfl rfl rfl (HCP.out _ _ _)) ?_
 go_wp2_with fail
 simp only [NP]
 have hcp2 := HCP2.out
 go_wp2_with fail
 go_ret
 exact ⟨.slice (some ⟨g, 0, none⟩) _ cap, rfl, HO3.out.1, HO3.out.2, fun j hj => .inl hj⟩
set_option maxHeartbeats 2000000 in
theorem insP_grow (base n vb i g cap : Nat) (cs : List Value) (x : Value) (w : World) (hown : w.ownsRow base 63 1 (.slice (some ⟨g, 0, none⟩) n cap) n cs) (h1 : ∀ u ∈ cs, u.oneCell' = true) (hx : LitP w vb x) (hn : n ≤ 1000000) (hi : i < n) (hroom : cap < n + 1) (hnc : n ≤ cap) (hbase : base ≤ w.heap.size) (hg : g < w.heap.size) :
  Calls Try.prog 57 #[.slice (some ⟨g, 0, none⟩) n cap, .int .i64 i, .slice (some ⟨vb, 0, none⟩) 1 1] w fun e w' => ∃ v', e = .returned v' ∧ w'.ownsRow base 63 1 v' (n + 1) (cs.take i ++ x :: cs.drop i) ∧ Only (fun j => some g = some j) w w' ∧ (∀ j, v'.ownBlock = some j → some g = some j ∨ w.heap.size ≤ j) := by
 obtain rfl : cap = n := by omega
 clear hnc hroom
 have hcl : cs.length = cap := by have := hown.1; omega
 have hcells := World.ownsRow.cells hown rfl
 obtain ⟨c, w1, zs, hzl, hc1, hc2, hrun, ho1, hb1⟩ := run_app_zeros (ty := 85) (tn := 3) (kn := .i64) (k := cap + 1 - i) tyP Try.underlying3 hown (by omega : i ≤ cap) (by omega) (by omega) (by omega) (by omega)
 have hsum : i + (cap + 1 - i) = cap + 1 := by omega
 have hkk : (cap : Int) + 1 - (i : Int) = ((cap + 1 - i : Nat) : Int) := by omega
 rw [hsum] at hrun ho1 hc1
 rw [← hkk] at hrun
 rw [Nat.mul_one] at ho1
 obtain ⟨G, hG⟩ : ∃ G, G = w.heap.size := ⟨_, rfl⟩
 rw [← hG] at hrun ho1
 have hdl : (cs.drop i).length = (cap - i) * 1 := by rw [List.length_drop, hcl]; omega
 obtain ⟨ho2, hg2⟩ := own_write [x] i w1 _ ho1
 have ho2 : (w1.setCells G i [x]).drew.ownsRow G 63 1 (.slice (some ⟨G, 0, none⟩) (cap + 1) c) (cap + 1) (writeL (cs.take i ++ zs) i [x]) := ho2
 obtain ⟨ho3, hg3⟩ := own_write (cs.drop i) (i + 1) (w1.setCells G i [x]).drew _ ho2
 have he : writeL (writeL (cs.take i ++ zs) i [x]) (i + 1) (cs.drop i) = cs.take i ++ x :: cs.drop i := by
  have htl : (cs.take i).length = i := by rw [List.length_take]; omega
  have hal : (cs.take i ++ zs).length = cap + 1 := by rw [List.length_append]; omega
  rw [writeL_eq [x] _ _ (by simp only [List.length_cons, List.length_nil]; omega), List.take_left' htl, writeL_eq _ _ _ (by simp; omega)]
  have e2 : (cs.take i ++ [x]).length = i + 1 := by rw [List.length_append]; simp only [List.length_cons, List.length_nil]; omega
  obtain ⟨D, hD⟩ : ∃ D, D = (cs.take i ++ zs).drop (i + [x].length) := ⟨_, rfl⟩
  have hDl : D.length = cap - i := by rw [hD, List.length_drop, hal]; simp only [List.length_cons, List.length_nil]; omega
  have e3 : (cs.take i ++ [x] ++ D).drop (i + 1 + (cs.drop i).length) = [] := List.drop_eq_nil_of_le (by rw [List.length_append, e2]; omega)
  rw [← hD, List.take_left' e2, e3, List.append_nil]
  simp
 rw [he] at ho3
 have hGg : g ≠ G := by omega
 have hGv : vb ≠ G := by have := hx.lt; omega
 have hcp1 : ∀ ty dc, (Builtin.copy_ #[85, 85] ty #[.slice (some ⟨G, i, none⟩) (cap + 1 - i) dc, .slice (some ⟨vb, 0, none⟩) 1 1]).run Try.prog w1 = .ok (goInt ((1 : Nat) : Int)) (w1.setCells G i [x]) := fun ty dc =>
  run_copy_k (b := G) (o := i) (dLen := cap + 1 - i) (dCap := dc) (a := ⟨vb, 0, none⟩) (sLen := 1) (sCap := 1) (n := 1) _ tyP (by simp only [Nat.min_def]; split <;> omega) rfl (fun j u hj => by
    obtain ⟨a, c, e, -, -, -, h⟩ := hx.rd
    simp only [Value.slice.injEq] at e
    obtain ⟨rfl, -, rfl⟩ := e
    rcases h with h | ⟨b', o', e, h⟩
    · omega
    ·
     simp only [Option.some.injEq, Addr.mk.injEq, and_true] at e
     obtain ⟨rfl, rfl⟩ := e
     rw [add_off]
     exact cell_later hb1 (h j u hj)) (fun j hj => own_there' ho1 _ (by simp at hj; omega)) (fun j _ => World.ownsRow.frozenAt ho1 _) (fun u hu => by rw [List.mem_singleton.1 hu]; exact hx.one)
 have hcp2 : ∀ ty dc sc, (Builtin.copy_ #[85, 85] ty #[.slice (some ⟨G, i + 1, none⟩) (cap - i) dc, .slice (some ⟨g, i, none⟩) (cap - i) sc]).run Try.prog (w1.setCells G i [x]).drew = .ok (goInt ((cap - i : Nat) : Int)) ((w1.setCells G i [x]).drew.setCells G (i + 1) (cs.drop i)) := fun ty dc sc =>
  run_copy_k (b := G) (o := i + 1) (dLen := cap - i) (dCap := dc) (a := ⟨g, i, none⟩) (sLen := cap - i) (sCap := sc) (n := cap - i) _ tyP (by simp only [Nat.min_def]; split <;> omega) hdl (fun j u hj => by
    rw [List.getElem?_drop] at hj
    have := hcells _ _ hj
    rw [add_off, Nat.zero_add] at this
    rw [add_off, World.cell?_drew, World.cell?_setCells_out _ _ _ _ _ (fun h _ => absurd h hGg)]
    exact cell_later hb1 this) (fun j hj => own_there' ho2 _ (by omega)) (fun j _ => World.ownsRow.frozenAt ho2 _) (fun u hu => h1 u (List.mem_of_mem_drop hu))
 have hfin : Only (fun j => some g = some j) w ((w1.setCells G i [x]).drew.setCells G (i + 1) (cs.drop i)) := by
  refine ((Only.of_below hb1).trans (Only.of_grown hg2).drew (fun j hj e => ?_)).trans (Only.of_grown hg3) (fun j hj e => ?_)
  · simp only [Option.some.injEq] at e; omega
  · simp only [Option.some.injEq] at e; omega
 subst hG
 have HF := Lib.hid (And.intro (ownsRow_mono ho3 hbase) hfin)
 have HRUN := Lib.hid hrun
 have HCP1 := Lib.hid hcp1
 have HCP2 := Lib.hid hcp2
 have hc1 : cap < c := by omega
 clear ho1 ho2 ho3 hg2 hg3 he hfin hcp1 hcp2 hcells hrun hb1 hzl hdl hsum hkk hown hx h1
 have hb2 : ¬ cap = i := by omega
 have hb3 : ¬ c = i := by omega
 have hb3' : ¬ c = i + 1 := by omega
 have hb4 : ¬ (i : Int) = (cap : Int) := by omega
 have hb5 : (cap : Int) < (cap : Int) + 1 := by omega
 have hb6 : (i : Int) ≤ (cap : Int) := by omega
 have hb9 : (i : Int) ≤ (cap : Int) + 1 := by omega
 have hw1 : IntKind.i64.wrap ((i : Int) + 1) = (i : Int) + 1 := by rw [IntKind.wrap_i64]; omega
 have hb7 : (0 : Int) ≤ (i : Int) + 1 := by omega
 have hb8 : (i : Int) + 1 ≤ (cap : Int) + 1 := by omega
 have htn : ((i : Int) + 1).toNat = i + 1 := by omega
 go_enter Try.func57, Try.ntmps57
 go_wp2_with (at_builtin; refine list_value rfl (exec_appz rfl rfl rfl HRUN.out) ?_)
 rw [HCP1.out]
 go_wp2_with fail
 refine region_m [(0, false), (1, false), (2, false), (3, false), (4, false), (5, false), (6, false), (7, false)] 8 (fun V => True) (by kernel_rfl) (by kernel_rfl) trivial ?_
 iterate 8
  refine m_take (v := ?_) rfl rfl ?_ ?_
  rotate_left
  ·
   intro W hW
   go_simp
   with_reducible rfl
  simp only [Act.put, List.setIfInBounds_toArray, List.set_cons_zero, List.set_cons_succ]
 refine m_done ?_
 simp only [List.drop_succ_cons, List.drop_zero]
 refine list_value rfl (exec_copy rfl rfl rfl (HCP2.out _ _ _)) ?_
 go_wp2_with fail
 simp only [NP]
 go_wp2_with fail
 go_ret
 exact ⟨.slice (some ⟨w.heap.size, 0, none⟩) _ c, rfl, HF.out.1, HF.out.2, fun j hj => .inr (by simp only [Value.ownBlock, Option.some.injEq] at hj; omega)⟩
theorem insP_calls (base n vb i : Nat) (v : Value) (cs : List Value) (x : Value) (w : World) (hown : w.ownsRow base 63 1 v n cs) (h1 : ∀ u ∈ cs, u.oneCell' = true) (hx : LitP w vb x) (hne : ∀ j, v.ownBlock = some j → vb ≠ j) (hn : n ≤ 1000000) (hi : i ≤ n) (hbase : base ≤ w.heap.size) :
  Calls Try.prog 57 #[v, .int .i64 i, .slice (some ⟨vb, 0, none⟩) 1 1] w fun e w' => ∃ v', e = .returned v' ∧ w'.ownsRow base 63 1 v' (n + 1) (insAt cs i x) ∧ Only (fun j => v.ownBlock = some j) w w' ∧ (∀ j, v'.ownBlock = some j → v.ownBlock = some j ∨ w.heap.size ≤ j) := by
 have hcl : cs.length = n := by have := hown.1; omega
 unfold insAt
 rcases Nat.lt_or_ge i n with hlt | hge
 ·
  rcases hown.2 with ⟨rfl, hz⟩ | ⟨g, cap, cur, rfl, -, hgh, hnc, hcm, -⟩
  · omega
  ·
   have hg := (Array.getElem?_eq_some_iff.1 hgh).1
   have hcm : cap ≤ 9223372036854775807 := by unfold maxLen at hcm; omega
   have hob : (Value.slice (some ⟨g, 0, none⟩) n cap).ownBlock = some g := rfl
   rcases Nat.lt_or_ge cap (n + 1) with hc | hc
   · exact insP_grow base n vb i g cap cs x w hown h1 hx hn hlt hc hnc hbase hg
   · exact insP_shift base n vb i g cap cs x w hown h1 hx (hne g hob) hn hlt hc hcm
 ·
  obtain rfl : i = n := by omega
  rw [List.take_of_length_le (by omega), List.drop_eq_nil_of_le (by omega)]
  exact insP_end base i vb v cs x w hown hx hn hbase
end Go.Proofs.Ytmafnjidhjabgaa
namespace Go.Proofs.Ytmafnjidhjabgaa
open Go.RowKit Go.Shelf
set_option linter.unusedVariables false
set_option linter.unusedSimpArgs false
set_option maxRecDepth 100000
set_option maxHeartbeats 800000 in
theorem growP_calls (n : Nat) (w : World) (hn : n ≤ 1000000) :
  Calls Try.prog 99 #[.slice none 0 0, .int .i64 n] w fun e w' => ∃ v', e = .returned v' ∧ w'.ownsRow w.heap.size 63 1 v' 0 [] ∧ Below w.heap.size w w' := by
 by_cases h0 : n = 0
 ·
  subst h0
  go_enter Try.func99, Try.ntmps99
  go_wp2_with fail
  go_ret
  exact ⟨_, rfl, World.ownsRow_nil _ _ _ _, Below.refl _ _⟩
 ·
  obtain ⟨i0, hi, hz, hsz, hby⟩ := tyP.hi
  have hold : (Builtin.firstCells i0.size 0 (.slice none 0 0)).run Try.prog w.drew = .ok ([] : List Value).toArray w.drew := run_firstCells_none (P := Try.prog) (w := w.drew) _ _ _ _
  have hfit := growslice_fits (need := 0 + n) (old := 0) (bytes := i0.bytes) (by omega) (by rw [hby]; omega)
  have h := fun ty => Lib.run_append_grow_zeros (P := Try.prog) w 85 3 ty 63 i0 (.pointer none) .i64 .i64 tyP.ht Try.underlying3 hi hz none 0 0 [] hold n (by omega) (by rw [hsz]; omega) (by omega) (by omega) (by rw [hby]; omega) hfit
  have hge := grownCap_ge w (0 + n) 0 63
  have hmx := grownCap_le_maxLen w (0 + n) 0 63 (by unfold maxLen; omega)
  rw [Nat.zero_add] at h hge hmx
  have hzl : ∀ q, (Builtin.zeroCells ((.pointer none) : Value).cells q).size = q := fun q => by simp [Builtin.zeroCells, Value.cells]
  have hown : (w.drew.alloc (.cells (([] : List Value).toArray ++ Builtin.zeroCells ((.pointer none) : Value).cells n ++ Builtin.zeroCells ((.pointer none) : Value).cells (grownCap w n 0 63 - n)) 63)).ownsRow w.heap.size 63 1 (.slice (some ⟨w.heap.size, 0, none⟩) 0 (grownCap w n 0 63)) 0 [] := by
   refine ⟨rfl, .inr ⟨w.heap.size, _, _, rfl, Nat.le_refl _, heap_alloc_new w.drew _, by omega, hmx, ?_, ?_⟩⟩
   ·
    simp only [Array.size_append, hzl, List.size_toArray, List.length_nil]
    omega
   · simp
  have hb : Below w.heap.size w (w.drew.alloc (.cells (([] : List Value).toArray ++ Builtin.zeroCells ((.pointer none) : Value).cells n ++ Builtin.zeroCells ((.pointer none) : Value).cells (grownCap w n 0 63 - n)) 63)) := ((Below.refl w.heap.size w).drew).alloc (Nat.le_refl _) _
  have hmx' : grownCap w n 0 63 ≤ 9223372036854775807 := by unfold maxLen at hmx; omega
  clear hi hz hsz hby hold hfit
  generalize grownCap w n 0 63 = c at *
  generalize World.alloc _ _ = W1 at *
  have H := Lib.hid h
  have HO := Lib.hid hown
  have HB := Lib.hid hb
  have hpos : 0 < n := by omega
  clear h hown hb hzl h0
  go_enter Try.func99, Try.ntmps99
  go_wp2_with (at_builtin; refine list_value rfl (exec_appz rfl rfl rfl (H.out _)) ?_)
  go_ret
  exact ⟨_, rfl, HO.out, HB.out⟩
set_option maxHeartbeats 1600000 in
theorem catP_calls (v : Value) (rs : List (Value × List Value)) (w : World) (hv : Rd w 1 v rs.length (rs.map (·.1))) (hr : ∀ r ∈ rs, Rd w 1 r.1 r.2.length r.2) (h1 : ∀ r ∈ rs, ∀ u ∈ r.2, u.oneCell' = true) (hn : rs.length ≤ 1000000) (ht : (catL rs).length ≤ 1000000) :
  Calls Try.prog 87 #[v] w fun e w' => ∃ v', e = .returned v' ∧ w'.ownsRow w.heap.size 63 1 v' (catL rs).length (catL rs) ∧ Below w.heap.size w w' := by
 have HV := Lib.hid hv
 have HR := Lib.hid hr
 have H1 := Lib.hid h1
 obtain ⟨a, cap, rfl, hle, hcap⟩ := Rd.slice hv
 clear hv hr h1
 go_enter Try.func87, Try.ntmps87
 go_wp2_with fail
 go_loopw [3, 5, 11] (fun sv _ iv wr => ∃ i : Nat, i ≤ rs.length ∧ iv = .int .i64 i ∧ sv = .int .i64 ((catL (rs.take i)).length : Nat) ∧ wr = w) (fun _ _ iv _ => rs.length - (intOf iv).toNat)
 case atStart => exact ⟨0, by omega, rfl, rfl, rfl⟩
 case round =>
  obtain ⟨i, hi, rfl, rfl, hw⟩ := hrel
  obtain rfl : w = wr := hw.symm
  by_cases hil : i < rs.length
  ·
   obtain ⟨b, o, c, hvv, -, -, hcell⟩ := rd1_at HV.out (i := i) (u := (rs[i]).1) (by rw [List.getElem?_map, List.getElem?_eq_getElem hil]; rfl)
   simp only [Value.slice.injEq] at hvv
   obtain ⟨rfl, -, rfl⟩ := hvv
   have hrd := HR.out rs[i] (List.getElem_mem hil)
   have hsm := catL_take hil
   have hlen := congrArg List.length hsm
   rw [List.length_append] at hlen
   have hle2 := catL_le (rs := rs) (i := i + 1)
   obtain ⟨ra, rc, hrv, hrl, hrm⟩ := Rd.slice hrd
   rw [hrv] at hcell
   have HL := Lib.hid hlen
   generalize hN : (rs[i]).2.length = N at *
   generalize hM : (catL (rs.take i)).length = M at *
   have hmn : M + N ≤ 1000000 := by omega
   clear hlen hsm hle2 hN hM hrd hrv
   go_wp2_with fail
   go_roundw
   case rel => exact ⟨i + 1, by omega, by go_num, by rw [HL.out]; go_num, by first | rfl | trivial⟩
   case measure => simp [intOf]; omega
  ·
   obtain rfl : i = rs.length := by omega
   rw [List.take_length]
   go_wp2_with (go_at_call 99; refine (growP_calls _ _ (by omega)).mono ?_; rintro e w1 ⟨nv, rfl, ho1, hb1⟩; obtain ⟨na, nc, rfl⟩ := own_slice ho1; have HO1 := Lib.hid ho1; have HB1 := Lib.hid hb1; clear ho1 hb1)
   go_loopw [6, 8, 27] (fun nv _ iv wv => ∃ i : Nat, i ≤ rs.length ∧ iv = .int .i64 i ∧ wv.ownsRow w.heap.size 63 1 nv (catL (rs.take i)).length (catL (rs.take i)) ∧ Below w.heap.size w wv) (fun _ _ iv _ => rs.length - (intOf iv).toNat)
   case atStart => exact ⟨0, by omega, rfl, HO1.out, HB1.out⟩
   case round =>
    clear HO1 HB1
    obtain ⟨i, hi, rfl, ho, hb⟩ := hrel
    have HO := Lib.hid ho
    have HB := Lib.hid hb
    by_cases hil : i < rs.length
    ·
     obtain ⟨b, o, c, hvv, -, -, hcell⟩ := rd1_at HV.out (i := i) (u := (rs[i]).1) (by rw [List.getElem?_map, List.getElem?_eq_getElem hil]; rfl)
     simp only [Value.slice.injEq] at hvv
     obtain ⟨rfl, -, rfl⟩ := hvv
     have hcell := cell_later hb hcell
     have HRD := Lib.hid (HR.out rs[i] (List.getElem_mem hil))
     have HON := Lib.hid (H1.out rs[i] (List.getElem_mem hil))
     have HSM := Lib.hid (catL_take hil)
     have hle2 := catL_le (rs := rs) (i := i + 1)
     have hlen := congrArg List.length HSM.out
     rw [List.length_append] at hlen
     obtain ⟨ra, rc, hrv, hrl, hrm⟩ := Rd.slice HRD.out
     rw [hrv] at hcell
     obtain ⟨va, vc, rfl⟩ := own_slice ho
     generalize hN : (rs[i]).2.length = N at *
     have HN := Lib.hid hN
     have HRV := Lib.hid hrv
     have hmn : (catL (rs.take i)).length + N ≤ 1000000 := by omega
     clear hlen hle2 hN hrv ho hb
     go_wp2_with (at_builtin; go_loud (refine app_list tyP HO.out (m := N) (ys := (rs[i]).2) (by rw [← HRV.out]; exact HRD.out.below HB.out (Nat.le_refl _)) HON.out (by omega) (by omega) HB.out.size rfl rfl rfl rfl ?_; intro v3 w3 hm3 hb3 hn3; obtain ⟨ga, gc, rfl⟩ := own_slice hm3))
     go_roundw
     case rel =>
      refine ⟨i + 1, by omega, by go_num, ?_, HB.out.grown hb3 HB.out.size (fun j e => (World.ownsRow.lt HO.out j e).1)⟩
      rw [HSM.out, List.length_append, HN.out]
      exact hm3
     case measure => simp [intOf]; omega
    ·
     obtain rfl : i = rs.length := by omega
     rw [List.take_length] at HO
     obtain ⟨va, vc, rfl⟩ := own_slice ho
     clear ho hb
     go_wp2_with fail
     go_ret
     exact ⟨_, rfl, HO.out, HB.out⟩
end Go.Proofs.Ytmafnjidhjabgaa
namespace Go.Proofs.Ytmafnjidhjabgaa
open Go.RowKit Go.Shelf
set_option linter.unusedVariables false
set_option linter.unusedSimpArgs false
set_option maxRecDepth 100000
set_option maxHeartbeats 800000 in
theorem delS_many (g cap m k i base : Nat) (jv : Int) (cs : List Value) (w : World) (hown : w.ownsRow base 9 1 (.slice (some ⟨g, 0, none⟩) (m + k) cap) (m + k) cs) (h1 : ∀ u ∈ cs, u.oneCell' = true) (hi : i ≤ m) (hk : 1 ≤ k) (hn : m + k ≤ 1000000) (hjv : jv = (i : Int) + (k : Int)) :
  Calls Try.prog 60 #[.slice (some ⟨g, 0, none⟩) (m + k) cap, .int .i64 i, .int .i64 jv] w fun e w' => e = .returned (.slice (some ⟨g, 0, none⟩) m cap) ∧
   w'.ownsRow base 9 1 (.slice (some ⟨g, 0, none⟩) m cap) m (cs.take i ++ cs.drop (i + k)) ∧ w.grownBy w' (some g) := by
 have hcl : cs.length = m + k := by have := hown.1; rw [Nat.mul_one] at this; exact this
 obtain ⟨-, hnc0⟩ : True ∧ (m + k ≤ cap ∧ cap ≤ 9223372036854775807) := ⟨trivial, by
  obtain ⟨a, c, e, -, h1, h2, -⟩ := Rd.of_own hown
  simp only [Value.slice.injEq] at e
  obtain ⟨-, -, rfl⟩ := e
  exact ⟨h1, h2⟩⟩
 obtain ⟨hnc, hcm⟩ := hnc0
 have HO := Lib.hid hown
 have H1 := Lib.hid h1
 obtain ⟨j, hj⟩ : ∃ j, j = i + k := ⟨_, rfl⟩
 have hji : jv = (j : Int) := by omega
 obtain ⟨N, hN⟩ : ∃ N, N = m + k := ⟨_, rfl⟩
 obtain ⟨i0, hi0, e1, e2, e3⟩ := tyS.hi
 have hpre := own_prefix (n := i) (m := m + k - i) (xs := cs.take i) (ys := cs.drop i) (by rw [List.take_append_drop, Nat.add_sub_cancel' (by omega)]; exact hown) (by rw [List.length_take]; omega)
 have hdl : (cs.drop j).length = m - i := by rw [List.length_drop]; omega
 have hd1 : ∀ u ∈ cs.drop j, u.oneCell' = true := fun u hu => H1.out u (List.mem_of_mem_drop hu)
 have hsum : i + (m - i) = m := by omega
 have happ : ∀ (o : Nat), (m = i ∨ o = j) → ∃ w1, (Builtin.append_ #[22, 22] 22 #[.slice (some ⟨g, 0, none⟩) i cap, .slice (some ⟨g, o, none⟩) (m - i) (cap - j)]).run Try.prog w.drew = .ok (.slice (some ⟨g, 0, none⟩) m cap) w1 ∧
   w1.ownsRow base 9 1 (.slice (some ⟨g, 0, none⟩) m cap) m (cs.take i ++ cs.drop j) ∧ w.drew.grownBy w1 (some g) := by
  intro o ho
  have h := run_append_fits (P := Try.prog) (w := w.drew) (ty := 22) base 22 9 i0 1 tyS.ht hi0 e2 g i cap (cs.take i) hpre
   ⟨g, o, none⟩ (m - i) (cap - j) (cs.drop j) (by rw [Nat.mul_one]; exact hdl) (fun q u hq => by
    have hlt : q < (cs.drop j).length := (List.getElem?_eq_some_iff.1 hq).1
    rw [List.getElem?_drop] at hq
    have := World.ownsRow.cells hown rfl _ _ hq
    rw [add_off] at this ⊢
    rcases ho with ho | ho
    · omega
    · rw [ho]; rwa [Nat.zero_add] at this) hd1 (by omega)
  rw [hsum] at h
  exact h
 have hclr : ∀ w1 : World, w1.ownsRow base 9 1 (.slice (some ⟨g, 0, none⟩) m cap) m (cs.take i ++ cs.drop j) → ∃ w2, (∀ ty, (Builtin.clear_ #[22] ty #[.slice (some ⟨g, m, none⟩) (N - m) (cap - m)]).run Try.prog w1 = .ok (.tuple #[]) w2) ∧
   w2.ownsRow base 9 1 (.slice (some ⟨g, 0, none⟩) m cap) m (cs.take i ++ cs.drop j) ∧ w1.grownBy w2 (some g) := by
  intro w1 ho
  obtain ⟨w2, h1, h2, h3⟩ := run_clear_tail (P := Try.prog) (t := 22) (ty := 0) (m := k) (c := cap - m) tyS (fun w => by kernel_rfl) (by simp [Value.cells, Value.oneCell']) ho (by omega) (by omega)
  refine ⟨w2, fun ty => ?_, h2, h3⟩
  rw [Nat.mul_one] at h1
  rw [show N - m = k by omega]
  exact h1
 have HAPP := Lib.hid happ
 have HCLR := Lib.hid hclr
 rw [← hj]
 rw [← hN] at HO ⊢
 rw [hji]
 have hb1 : (j : Int) ≤ (N : Int) := by omega
 have hb1' : j ≤ N := by omega
 have hb2 : (N : Int) ≤ cap := by omega
 have hb3 : (i : Int) ≤ cap := by omega
 have hb4 : i ≤ cap := by omega
 have hb5 : (i : Int) ≤ (j : Int) := by omega
 have hb5' : i ≤ j := by omega
 have hb6 : ¬ cap = m := by omega
 have hb7 : (m : Int) ≤ (N : Int) := by omega
 have hb8 : (j : Int) ≤ cap := by omega
 have hb9 : ((i : Int) == (j : Int)) = false := by rw [beq_eq_false_iff_ne]; omega
 have hba : m ≤ N := by omega
 have hbb : N ≤ 1000000 := by omega
 have hbc : N - j = m - i := by omega
 have hbd : ¬ N = i := by omega
 have HBC := Lib.hid hbc
 clear hpre hdl hd1 hsum happ hclr hcl hown e1 e2 e3 hi0 h1 hji hbc hjv
 rcases (show (cap = j ∧ m = i) ∨ (¬ cap = j ∧ j < cap) from by omega) with ⟨hc1, hc2⟩ | ⟨hc1, hc2⟩
 ·
  subst hc1 hc2
  obtain ⟨w1, hrun, ho1, hg1⟩ := HAPP.out 0 (.inl rfl)
  obtain ⟨w2, hrun2, ho2, hg2⟩ := HCLR.out w1 ho1
  have HR := Lib.hid hrun
  have HR2 := Lib.hid hrun2
  have HO2 := Lib.hid (And.intro ho2 (World.grownBy.trans (grown_drew hg1) hg2))
  clear hrun hrun2 ho1 hg1 ho2 hg2 hj hN
  go_enter Try.func60, Try.ntmps60
  go_wp2_with fail
  refine region_m [(0, false), (1, false), (2, false), (3, false), (4, false), (5, false)] 6 (fun _ => True) (by kernel_rfl) (by kernel_rfl) trivial ?_
  iterate 6
   refine m_take (v := ?_) rfl rfl ?_ ?_
   rotate_left
   ·
    intro W hW
    go_simp
    with_reducible rfl
   simp only [Act.put, List.setIfInBounds_toArray, List.set_cons_zero, List.set_cons_succ]
  refine m_done ?_
  simp only [List.drop_succ_cons, List.drop_zero]
  rw [HBC.out]
  refine list_value rfl (exec_app rfl rfl rfl HR.out) ?_
  have hrun2 := HR2.out
  go_wp2_with fail
  simp only [NP]
  go_wp2_with fail
  go_ret
  exact ⟨rfl, HO2.out⟩
 ·
  obtain ⟨w1, hrun, ho1, hg1⟩ := HAPP.out j (.inr rfl)
  obtain ⟨w2, hrun2, ho2, hg2⟩ := HCLR.out w1 ho1
  have HR := Lib.hid hrun
  have HR2 := Lib.hid hrun2
  have HO2 := Lib.hid (And.intro ho2 (World.grownBy.trans (grown_drew hg1) hg2))
  clear hrun hrun2 ho1 hg1 ho2 hg2 hj hN
  go_enter Try.func60, Try.ntmps60
  go_wp2_with fail
  refine region_m [(0, false), (1, false), (2, false), (3, false), (4, false), (5, false)] 6 (fun _ => True) (by kernel_rfl) (by kernel_rfl) trivial ?_
  iterate 6
   refine m_take (v := ?_) rfl rfl ?_ ?_
   rotate_left
   ·
    intro W hW
    go_simp
    with_reducible rfl
   simp only [Act.put, List.setIfInBounds_toArray, List.set_cons_zero, List.set_cons_succ]
  refine m_done ?_
  simp only [List.drop_succ_cons, List.drop_zero]
  rw [HBC.out]
  refine list_value rfl (exec_app rfl rfl rfl HR.out) ?_
  have hrun2 := HR2.out
  go_wp2_with fail
  simp only [NP]
  go_wp2_with fail
  go_ret
  exact ⟨rfl, HO2.out⟩
end Go.Proofs.Ytmafnjidhjabgaa
namespace Go.Proofs.Ytmafnjidhjabgaa
open Go.RowKit Go.Shelf
set_option linter.unusedVariables false
set_option linter.unusedSimpArgs false
set_option maxRecDepth 100000
set_option maxHeartbeats 800000 in
theorem delP_many (g cap m k i base : Nat) (jv : Int) (cs : List Value) (w : World) (hown : w.ownsRow base 63 1 (.slice (some ⟨g, 0, none⟩) (m + k) cap) (m + k) cs) (h1 : ∀ u ∈ cs, u.oneCell' = true) (hi : i ≤ m) (hk : 1 ≤ k) (hn : m + k ≤ 1000000) (hjv : jv = (i : Int) + (k : Int)) :
  Calls Try.prog 88 #[.slice (some ⟨g, 0, none⟩) (m + k) cap, .int .i64 i, .int .i64 jv] w fun e w' => e = .returned (.slice (some ⟨g, 0, none⟩) m cap) ∧
   w'.ownsRow base 63 1 (.slice (some ⟨g, 0, none⟩) m cap) m (cs.take i ++ cs.drop (i + k)) ∧ w.grownBy w' (some g) := by
 have hcl : cs.length = m + k := by have := hown.1; rw [Nat.mul_one] at this; exact this
 obtain ⟨-, hnc0⟩ : True ∧ (m + k ≤ cap ∧ cap ≤ 9223372036854775807) := ⟨trivial, by
  obtain ⟨a, c, e, -, h1, h2, -⟩ := Rd.of_own hown
  simp only [Value.slice.injEq] at e
  obtain ⟨-, -, rfl⟩ := e
  exact ⟨h1, h2⟩⟩
 obtain ⟨hnc, hcm⟩ := hnc0
 have HO := Lib.hid hown
 have H1 := Lib.hid h1
 obtain ⟨j, hj⟩ : ∃ j, j = i + k := ⟨_, rfl⟩
 have hji : jv = (j : Int) := by omega
 obtain ⟨N, hN⟩ : ∃ N, N = m + k := ⟨_, rfl⟩
 obtain ⟨i0, hi0, e1, e2, e3⟩ := tyP.hi
 have hpre := own_prefix (n := i) (m := m + k - i) (xs := cs.take i) (ys := cs.drop i) (by rw [List.take_append_drop, Nat.add_sub_cancel' (by omega)]; exact hown) (by rw [List.length_take]; omega)
 have hdl : (cs.drop j).length = m - i := by rw [List.length_drop]; omega
 have hd1 : ∀ u ∈ cs.drop j, u.oneCell' = true := fun u hu => H1.out u (List.mem_of_mem_drop hu)
 have hsum : i + (m - i) = m := by omega
 have happ : ∀ (o : Nat), (m = i ∨ o = j) → ∃ w1, (Builtin.append_ #[85, 85] 85 #[.slice (some ⟨g, 0, none⟩) i cap, .slice (some ⟨g, o, none⟩) (m - i) (cap - j)]).run Try.prog w.drew = .ok (.slice (some ⟨g, 0, none⟩) m cap) w1 ∧
   w1.ownsRow base 63 1 (.slice (some ⟨g, 0, none⟩) m cap) m (cs.take i ++ cs.drop j) ∧ w.drew.grownBy w1 (some g) := by
  intro o ho
  have h := run_append_fits (P := Try.prog) (w := w.drew) (ty := 85) base 85 63 i0 1 tyP.ht hi0 e2 g i cap (cs.take i) hpre
   ⟨g, o, none⟩ (m - i) (cap - j) (cs.drop j) (by rw [Nat.mul_one]; exact hdl) (fun q u hq => by
    have hlt : q < (cs.drop j).length := (List.getElem?_eq_some_iff.1 hq).1
    rw [List.getElem?_drop] at hq
    have := World.ownsRow.cells hown rfl _ _ hq
    rw [add_off] at this ⊢
    rcases ho with ho | ho
    · omega
    · rw [ho]; rwa [Nat.zero_add] at this) hd1 (by omega)
  rw [hsum] at h
  exact h
 have hclr : ∀ w1 : World, w1.ownsRow base 63 1 (.slice (some ⟨g, 0, none⟩) m cap) m (cs.take i ++ cs.drop j) → ∃ w2, (∀ ty, (Builtin.clear_ #[85] ty #[.slice (some ⟨g, m, none⟩) (N - m) (cap - m)]).run Try.prog w1 = .ok (.tuple #[]) w2) ∧
   w2.ownsRow base 63 1 (.slice (some ⟨g, 0, none⟩) m cap) m (cs.take i ++ cs.drop j) ∧ w1.grownBy w2 (some g) := by
  intro w1 ho
  obtain ⟨w2, h1, h2, h3⟩ := run_clear_tail (P := Try.prog) (t := 85) (ty := 0) (m := k) (c := cap - m) tyP (fun w => by kernel_rfl) (by simp [Value.cells, Value.oneCell']) ho (by omega) (by omega)
  refine ⟨w2, fun ty => ?_, h2, h3⟩
  rw [Nat.mul_one] at h1
  rw [show N - m = k by omega]
  exact h1
 have HAPP := Lib.hid happ
 have HCLR := Lib.hid hclr
 rw [← hj]
 rw [← hN] at HO ⊢
 rw [hji]
 have hb1 : (j : Int) ≤ (N : Int) := by omega
 have hb1' : j ≤ N := by omega
 have hb2 : (N : Int) ≤ cap := by omega
 have hb3 : (i : Int) ≤ cap := by omega
 have hb4 : i ≤ cap := by omega
 have hb5 : (i : Int) ≤ (j : Int) := by omega
 have hb5' : i ≤ j := by omega
 have hb6 : ¬ cap = m := by omega
 have hb7 : (m : Int) ≤ (N : Int) := by omega
 have hb8 : (j : Int) ≤ cap := by omega
 have hb9 : ((i : Int) == (j : Int)) = false := by rw [beq_eq_false_iff_ne]; omega
 have hba : m ≤ N := by omega
 have hbb : N ≤ 1000000 := by omega
 have hbc : N - j = m - i := by omega
 have hbd : ¬ N = i := by omega
 have HBC := Lib.hid hbc
 clear hpre hdl hd1 hsum happ hclr hcl hown e1 e2 e3 hi0 h1 hji hbc hjv
 rcases (show (cap = j ∧ m = i) ∨ (¬ cap = j ∧ j < cap) from by omega) with ⟨hc1, hc2⟩ | ⟨hc1, hc2⟩
 ·
  subst hc1 hc2
  obtain ⟨w1, hrun, ho1, hg1⟩ := HAPP.out 0 (.inl rfl)
  obtain ⟨w2, hrun2, ho2, hg2⟩ := HCLR.out w1 ho1
  have HR := Lib.hid hrun
  have HR2 := Lib.hid hrun2
  have HO2 := Lib.hid (And.intro ho2 (World.grownBy.trans (grown_drew hg1) hg2))
  clear hrun hrun2 ho1 hg1 ho2 hg2 hj hN
  go_enter Try.func88, Try.ntmps88
  go_wp2_with fail
  refine region_m [(0, false), (1, false), (2, false), (3, false), (4, false), (5, false)] 6 (fun _ => True) (by kernel_rfl) (by kernel_rfl) trivial ?_
  iterate 6
   refine m_take (v := ?_) rfl rfl ?_ ?_
   rotate_left
   ·
    intro W hW
    go_simp
    with_reducible rfl
   simp only [Act.put, List.setIfInBounds_toArray, List.set_cons_zero, List.set_cons_succ]
  refine m_done ?_
  simp only [List.drop_succ_cons, List.drop_zero]
  rw [HBC.out]
  refine list_value rfl (exec_app rfl rfl rfl HR.out) ?_
  have hrun2 := HR2.out
  go_wp2_with fail
  simp only [NP]
  go_wp2_with fail
  go_ret
  exact ⟨rfl, HO2.out⟩
 ·
  obtain ⟨w1, hrun, ho1, hg1⟩ := HAPP.out j (.inr rfl)
  obtain ⟨w2, hrun2, ho2, hg2⟩ := HCLR.out w1 ho1
  have HR := Lib.hid hrun
  have HR2 := Lib.hid hrun2
  have HO2 := Lib.hid (And.intro ho2 (World.grownBy.trans (grown_drew hg1) hg2))
  clear hrun hrun2 ho1 hg1 ho2 hg2 hj hN
  go_enter Try.func88, Try.ntmps88
  go_wp2_with fail
  refine region_m [(0, false), (1, false), (2, false), (3, false), (4, false), (5, false)] 6 (fun _ => True) (by kernel_rfl) (by kernel_rfl) trivial ?_
  iterate 6
   refine m_take (v := ?_) rfl rfl ?_ ?_
   rotate_left
   ·
    intro W hW
    go_simp
    with_reducible rfl
   simp only [Act.put, List.setIfInBounds_toArray, List.set_cons_zero, List.set_cons_succ]
  refine m_done ?_
  simp only [List.drop_succ_cons, List.drop_zero]
  rw [HBC.out]
  refine list_value rfl (exec_app rfl rfl rfl HR.out) ?_
  have hrun2 := HR2.out
  go_wp2_with fail
  simp only [NP]
  go_wp2_with fail
  go_ret
  exact ⟨rfl, HO2.out⟩
end Go.Proofs.Ytmafnjidhjabgaa
namespace Go.Proofs.Ytmafnjidhjabgaa
open Go.RowKit
section
variable {P : Program} {ops : Array Oper} {md : Region.Mode} {S : World → Prop}
def wpQ (P : Program) (ops : Array Oper) (S : World → Prop) (T : Act → World → Prop) : List Nat → Act → World → Prop
 | [], a, w => T a w
 | i :: r, a, w => ∃ o, ops[i]? = some o ∧ ∃ v, YieldsIf P ops S o v a ∧ wpQ P ops S T r (a.put o.dst v) w
def chkQ (md : Region.Mode) (ops : Array Oper) : List Nat → Array Bool → Bool
 | [], _ => true
 | i :: r, listed => decide (i < ops.size) && (Region.ready md ops listed).contains i && Region.free md ops listed i && chkQ md ops r (listed.setIfInBounds i true)
def markQ : List Nat → Array Bool → Array Bool
 | [], l => l
 | i :: r, l => markQ r (l.setIfInBounds i true)
def left (l : Array Bool) : Nat := l.toList.countP (fun b => !b)
theorem countP_set : ∀ (l : List Bool) (i : Nat), l[i]? = some false → (l.set i true).countP (fun b => !b) + 1 = l.countP (fun b => !b)
 | [], i, h => by simp at h
 | b :: l, 0, h => by
  simp only [List.getElem?_cons_zero, Option.some.injEq] at h
  subst h
  simp
 | b :: l, i + 1, h => by
  have ih := countP_set l i (by simpa using h)
  rw [List.set_cons_succ, List.countP_cons, List.countP_cons]
  omega
theorem left_set {l : Array Bool} {i : Nat} (h : l.getD i true = false) : left (l.setIfInBounds i true) + 1 = left l := by
 unfold left
 have hi : l.toList[i]? = some false := by
  rw [Array.getD_eq_getD_getElem?] at h
  cases e : l[i]? with
  | none => rw [e] at h; simp at h
  | some b => rw [e] at h; simp at h; subst h; simpa using e
 have := countP_set l.toList i hi
 simpa using this
theorem wpX_of_J {Q : Exit → Act → World → Prop} (J : Array Bool → Act → World → Prop) (hJS : ∀ l a w, J l a w → S w)
  (hstep : ∀ l a w i, J l a w → i ∈ Region.ready md ops l → wpOp P ops Q i (fun a' w' => J (l.setIfInBounds i true) a' w') a w)
  (hend : ∀ l a w, J l a w → Region.ready md ops l = [] → Q .normal a w) :
  ∀ (fuel : Nat) (l : Array Bool) (a : Act) (w : World), left l ≤ fuel → J l a w → wpX P md ops Q S ops.size fuel l a w
 | 0, l, a, w, hf, hj => by
  have hr : Region.ready md ops l = [] := by
   cases e : Region.ready md ops l with
   | nil => rfl
   | cons i r =>
    have hi : i ∈ Region.ready md ops l := by rw [e]; simp
    have := left_set (mem_ready.1 hi).1
    omega
  exact ⟨hr, hend l a w hj hr⟩
 | fuel + 1, l, a, w, hf, hj => by
  refine ⟨hend l a w hj, fun i hi => ?_⟩
  have hl := left_set (mem_ready.1 hi).1
  exact wpOp_mono (fun a' w' h' => ⟨fun _ => hJS _ _ _ h', wpX_of_J J hJS hstep hend fuel _ a' w' (by omega) h'⟩) (hstep l a w i hj hi)
def JT (P : Program) (md : Region.Mode) (ops : Array Oper) (Q : Exit → Act → World → Prop) (S : World → Prop) (l : Array Bool) (a : Act) (w : World) : Prop :=
 ∃ J : Array Bool → Act → World → Prop, J l a w ∧ (∀ l a w, J l a w → S w) ∧ (∀ l a w i, J l a w → i ∈ Region.ready md ops l → wpOp P ops Q i (fun a' w' => J (l.setIfInBounds i true) a' w') a w) ∧ (∀ l a w, J l a w → Region.ready md ops l = [] → Q .normal a w)
theorem jt_intro {Q : Exit → Act → World → Prop} {l : Array Bool} {a : Act} {w : World} (J : Act → Array Bool → Act → World → Prop) (h0 : J a l a w) (h1 : ∀ l' a' w', J a l' a' w' → S w')
 (h2 : ∀ l' a' w' i, J a l' a' w' → i ∈ Region.ready md ops l' → wpOp P ops Q i (fun a' w' => J a (l'.setIfInBounds i true) a' w') a' w') (h3 : ∀ l' a' w', J a l' a' w' → Region.ready md ops l' = [] → Q .normal a' w') : JT P md ops Q S l a w := ⟨J a, h0, h1, h2, h3⟩
theorem wpX_of_Q {Q : Exit → Act → World → Prop} (hQ : ∀ c a d v w, Q (.panic c) (Act.put a d v) w → Q (.panic c) a w) (hsel : Region.noSelect ops = true) :
  ∀ (π : List Nat) (l : Array Bool) (a : Act) (w : World), HeadInv md ops ops.size l → chkQ md ops π l = true → S w → wpQ P ops S (JT P md ops Q S (markQ π l)) π a w → wpX P md ops Q S ops.size (left l) l a w
 | [], l, a, w, _, _, _, h => by
  obtain ⟨J, h0, hJS, hstep, hend⟩ := h
  exact wpX_of_J J hJS hstep hend _ l a w (Nat.le_refl _) h0
 | i :: r, l, a, w, inv, hc, hS, h => by
  simp only [chkQ, Bool.and_eq_true, decide_eq_true_eq] at hc
  obtain ⟨⟨⟨hin, hr⟩, hf⟩, hc'⟩ := hc
  obtain ⟨o, ho, v, hy, h'⟩ := h
  have hr' : i ∈ Region.ready md ops l := by simpa using hr
  have hl := left_set (mem_ready.1 hr').1
  have htail : ∀ listed : Array Bool, HeadInv md ops ops.size listed → listed.getD i true = false → ∀ t, ops.size ≤ t → t ∉ Region.ready md ops listed := fun listed _ _ t ht hr => by
   obtain ⟨_, o, ho, _⟩ := mem_ready.1 hr
   have := (Array.getElem?_eq_some_iff.1 ho).1
   omega
  rw [← hl]
  exact wpX_first ho (Region.noSelect_spec hsel) (fun c a w => hQ c a _ _ w) hin htail _ l a w inv (Region.free_spec ho hf) hr' hy hS
   (wpX_of_Q hQ hsel r _ _ w (inv.set hr' hin) hc' hS h')
theorem region_j {Q : Exit → Act → World → Prop} {id : Nat} (π : List Nat) (S : World → Prop) {a : Act} {w : World} (hm : P.follows .mixedOrders = true)
  (hB : (Region.noSelect ops && chkQ .any ops π (Array.replicate ops.size false)) = true) (hS : S w.drew)
  (h : wpQ P ops S (JT P .any ops (NP Q) S (markQ π (Array.replicate ops.size false))) π a w.drew) : (Code.region id ops true).wp P Q a w := by
 refine Code.wp_mono NP.imp (wp_region_draw fun q => ?_)
 rw [Bool.and_eq_true] at hB
 have inv0 : HeadInv .any ops ops.size (Array.replicate ops.size false) :=
  ⟨by simp, fun j oj _ hl => (by rw [getD_replicate_false] at hl; cases hl), fun t _ ht => getD_in (by simpa using ht) (getD_replicate_false _ _)⟩
 have H := wpAny_of_X _ _ _ _ (wpX_of_Q (fun _ _ _ _ _ h => h) hB.1 π _ a w.drew inv0 hB.2 hS h)
 have hle : left (Array.replicate ops.size false) = ops.size := by simp [left, List.countP_replicate]
 rw [hle] at H
 simp only [Region.schedule, hm, Bool.true_or, if_true]
 exact wpAny_sound ops.size q _ a _ H
end
def lowB (md : Region.Mode) (ops : Array Oper) : Bool := (List.range ops.size).all fun i => match ops[i]? with | some o => o.after.all fun e => !Region.binds md e || decide (e.on < i) | none => true
theorem all_listed {md : Region.Mode} {ops : Array Oper} {l : Array Bool} (hsz : l.size = ops.size) (hlow : lowB md ops = true) (hr : Region.ready md ops l = []) : ∀ k, k ≤ ops.size → ∀ i, i < k → l.getD i true = true
 | 0, _, i, hi => by omega
 | k + 1, hk, i, hi => by
  have ih := all_listed hsz hlow hr k (by omega)
  by_cases hik : i < k
  · exact ih i hik
  ·
   obtain rfl : i = k := by omega
   cases e : l.getD i true
   ·
    exfalso
    have ho : ops[i]? = some ops[i] := Array.getElem?_eq_getElem (by omega)
    have hm : i ∈ Region.ready md ops l := by
     refine mem_ready.2 ⟨e, _, ho, fun x hx hb => ?_⟩
     have hl := List.all_eq_true.1 hlow i (List.mem_range.2 (by omega))
     simp only [ho] at hl
     have hx2 := Array.all_eq_true'.1 hl x hx
     rw [hb] at hx2
     have hlt : x.on < i := by simpa using hx2
     have h1 := ih x.on hlt
     rw [Array.getD_eq_getD_getElem?, Array.getElem?_eq_getElem (by omega)] at h1 ⊢
     simpa using h1
    rw [hr] at hm
    cases hm
   · rfl
section
variable {P : Program} {l : List Oper} {S : World → Prop} {T : Act → World → Prop} {i : Nat} {o : Oper} {r : List Nat} {a : Act} {w : World} {v : Value}
theorem q_take (ho : l[i]? = some o) (hw : Region.wanted o (yielded l.toArray a.tmps) = true)
  (hy : ∀ W, S W → (execOp a.eval o).run P W = .ok (.value v) W) (h : wpQ P l.toArray S T r (a.put o.dst v) w) : wpQ P l.toArray S T (i :: r) a w :=
 ⟨o, by simpa using ho, v, .inl ⟨hw, hy⟩, h⟩
theorem q_done (h : T a w) : wpQ P l.toArray S T [] a w := h
theorem j_op {Q : Exit → Act → World → Prop} {J : Act → World → Prop} (ho : l[i]? = some o)
  (h : ∀ K : Act → World → Prop, (∀ a w, J a w → K a w) → if Region.wanted o (yielded l.toArray a.tmps) = true then o.wp P a w K Q else K (a.put o.dst undef) w) : wpOp P l.toArray Q i J a w := by
 have ho' : l.toArray[i]? = some o := by simpa using ho
 have := h J (fun a w h => h)
 unfold wpOp
 simp only [ho']
 by_cases hw : Region.wanted o (yielded l.toArray a.tmps) = true
 · simp only [hw, if_true] at this ⊢; exact .inl this
 · simp only [hw, Bool.false_eq_true, if_false] at this ⊢; exact this
end
end Go.Proofs.Ytmafnjidhjabgaa
namespace Go.Proofs.Ytmafnjidhjabgaa
set_option linter.unusedSimpArgs false
set_option linter.unusedVariables false
def itS (i : Itc) : Str := i.s.data.toList
def pageI : List Itc → Option (List KV × List Int)
 | [k, v, c] => if k.l.length = 0 ∨ k.l.length ≠ v.l.length ∨ (0 < c.l.length ∧ c.l.length ≠ k.l.length + 1) then none else some (List.zip (k.l.map itS) (v.l.map itS), c.l.map Itc.n)
 | _ => none
theorem pageI_len : ∀ {l : List Itc}, l.length ≠ 3 → pageI l = none
 | [], _ => rfl
 | [_], _ => rfl
 | [_, _], _ => rfl
 | [_, _, _], h => absurd rfl h
 | _ :: _ :: _ :: _ :: _, _ => rfl
theorem pageI_three (k v c : Itc) : pageI [k, v, c] = if k.l.length = 0 ∨ k.l.length ≠ v.l.length ∨ (0 < c.l.length ∧ c.l.length ≠ k.l.length + 1) then none else some (List.zip (k.l.map itS) (v.l.map itS), c.l.map Itc.n) := rfl
def pageP (b : List UInt8) (pg : Int) : Option (List KV × List Int) := if (Fr.FrM.next b pg).2.2 = 0 then (dec (Fr.FrM.next b pg).1).bind pageI else none
theorem pageI_some {l : List Itc} {es : List KV} {ks : List Int} (h : pageI l = some (es, ks)) : ∃ k v c, l = [k, v, c] ∧ 0 < k.l.length ∧ k.l.length = v.l.length ∧ (c.l.length = 0 ∨ c.l.length = k.l.length + 1) ∧ es = List.zip (k.l.map itS) (v.l.map itS) ∧ ks = c.l.map Itc.n := by
 match l, h with
 | [k, v, c], h =>
  have h' : (if k.l.length = 0 ∨ k.l.length ≠ v.l.length ∨ (0 < c.l.length ∧ c.l.length ≠ k.l.length + 1) then none else some (List.zip (k.l.map itS) (v.l.map itS), c.l.map Itc.n)) = some (es, ks) := h
  by_cases hn : k.l.length = 0 ∨ k.l.length ≠ v.l.length ∨ (0 < c.l.length ∧ c.l.length ≠ k.l.length + 1)
  · rw [if_pos hn] at h'; cases h'
  ·
   rw [if_neg hn] at h'
   simp only [Option.some.injEq, Prod.mk.injEq] at h'
   exact ⟨k, v, c, rfl, by omega, by omega, by omega, h'.1.symm, h'.2.symm⟩
theorem next_in {b : List UInt8} {pg : Int} (h : (Fr.FrM.next b pg).2.2 = 0) : 0 ≤ pg ∧ pg ≤ b.length := by
 unfold Fr.FrM.next at h
 split at h
 · simp at h
 · omega
theorem pageP_some {b : List UInt8} {pg : Int} {es : List KV} {ks : List Int} (h : pageP b pg = some (es, ks)) : 0 ≤ pg ∧ pg ≤ b.length ∧ 0 < es.length ∧ es.length ≤ 65536 ∧ (ks.length = 0 ∨ ks.length = es.length + 1) ∧ ∀ k ∈ ks, I64 k := by
 unfold pageP at h
 split at h
 ·
  rename_i h0
  cases hd : dec (Fr.FrM.next b pg).1 with
  | none => rw [hd] at h; cases h
  | some l =>
   rw [hd] at h
   obtain ⟨k, v, c, rfl, h1, h2, h3, rfl, rfl⟩ := pageI_some h
   obtain ⟨-, hw⟩ := dec_wf hd
   have hk := wfI_len (hw k (by simp))
   have e : (List.zip (k.l.map itS) (v.l.map itS)).length = k.l.length := by simp [h2]
   rw [e, List.length_map]
   refine ⟨(next_in h0).1, (next_in h0).2, h1, hk, h3, fun n hn => ?_⟩
   obtain ⟨i, hi, rfl⟩ := List.mem_map.1 hn
   exact wfI_n (wfI_l (hw c (by simp)) i hi)
 · cases h
def loadK (g : Int → List Int → Option (List Int)) : List Int → List Int → Option (List Int)
 | [], s => some s
 | k :: ks, s => (g k s).bind (loadK g ks)
def loadP (b : List UInt8) : Nat → Int → List Int → Option (List Int)
 | 0, _, _ => none
 | f + 1, pg, s => if pg ∈ s then none else match pageP b pg with
  | none => none
  | some (_, ks) => loadK (loadP b f) ks (pg :: s)
theorem loadK_app (g : Int → List Int → Option (List Int)) : ∀ (a c s : List Int), loadK g (a ++ c) s = (loadK g a s).bind (loadK g c)
 | [], _, _ => rfl
 | k :: a, c, s => by
  show (g k s).bind (loadK g (a ++ c)) = ((g k s).bind (loadK g a)).bind (loadK g c)
  cases g k s with
  | none => rfl
  | some s' => exact loadK_app g a c s'
theorem loadK_snoc (g : Int → List Int → Option (List Int)) (a : List Int) (k : Int) (s : List Int) : loadK g (a ++ [k]) s = (loadK g a s).bind (g k) := by
 rw [loadK_app]
 congr 1
 funext s'
 show (g k s').bind (fun x => some x) = g k s'
 cases g k s' <;> rfl
theorem loadP_some {b : List UInt8} {f : Nat} {pg : Int} {s s' : List Int} (h : loadP b (f + 1) pg s = some s') : pg ∉ s ∧ ∃ es ks, pageP b pg = some (es, ks) ∧ loadK (loadP b f) ks (pg :: s) = some s' := by
 unfold loadP at h
 split at h
 · cases h
 ·
  rename_i hn
  refine ⟨hn, ?_⟩
  cases hp : pageP b pg with
  | none => rw [hp] at h; cases h
  | some x => obtain ⟨es, ks⟩ := x; rw [hp] at h; exact ⟨es, ks, rfl, h⟩
def kidsM {α : Type} (g : Int → Option α) : List Int → Option (List α)
 | [] => some []
 | k :: ks => (g k).bind fun c => (kidsM g ks).map (c :: ·)
def btP (b : List UInt8) : (h : Nat) → Int → Option (BT h)
 | 0, pg => match pageP b pg with
  | some (es, []) => some es
  | _ => none
 | h + 1, pg => match pageP b pg with
  | some (es, k :: ks) => (kidsM (btP b h) (k :: ks)).map fun l => (es, l)
  | _ => none
theorem kidsM_len {α : Type} {g : Int → Option α} : ∀ {ks : List Int} {l : List α}, kidsM g ks = some l → l.length = ks.length
 | [], l, h => by cases h; rfl
 | k :: ks, l, h => by
  unfold kidsM at h
  cases hg : g k with
  | none => rw [hg] at h; cases h
  | some c =>
   rw [hg] at h
   cases hm : kidsM g ks with
   | none => rw [hm] at h; cases h
   | some l2 =>
    rw [hm] at h
    cases h
    simp [kidsM_len hm]
theorem kidsM_at {α : Type} {g : Int → Option α} : ∀ {ks : List Int} {l : List α}, kidsM g ks = some l → ∀ (i : Nat) (c : Int), ks[i]? = some c → ∃ t, l[i]? = some t ∧ g c = some t
 | [], l, h, i, c, hi => by simp at hi
 | k :: ks, l, h, i, c, hi => by
  unfold kidsM at h
  cases hg : g k with
  | none => rw [hg] at h; cases h
  | some t =>
   rw [hg] at h
   cases hm : kidsM g ks with
   | none => rw [hm] at h; cases h
   | some l2 =>
    rw [hm] at h
    cases h
    cases i with
    | zero =>
     simp only [List.getElem?_cons_zero, Option.some.injEq] at hi
     subst hi
     exact ⟨t, rfl, hg⟩
    | succ i => exact kidsM_at hm i c (by simpa using hi)
end Go.Proofs.Ytmafnjidhjabgaa
namespace Go.Proofs.Ytmafnjidhjabgaa
set_option linter.unusedSimpArgs false
set_option linter.unusedVariables false
def readI : List Itc → ByteArray × Nat
 | [a, b] => if a.k = 0 ∧ 1 ≤ a.n ∧ b.k = 1 then (b.s, a.n.toNat) else (⟨#[]⟩, 0)
 | _ => (⟨#[]⟩, 0)
theorem readI_len : ∀ {l : List Itc}, l.length ≠ 2 → readI l = (⟨#[]⟩, 0)
 | [], _ => rfl
 | [_], _ => rfl
 | [_, _], h => absurd rfl h
 | _ :: _ :: _ :: _, _ => rfl
theorem readI_two (a b : Itc) : readI [a, b] = if a.k = 0 ∧ 1 ≤ a.n ∧ b.k = 1 then (b.s, a.n.toNat) else (⟨#[]⟩, 0) := rfl
def readD : Option (List Itc) → ByteArray × Nat
 | some l => readI l
 | none => (⟨#[]⟩, 0)
def readS (b : List UInt8) : ByteArray × Nat := if (Fr.FrM.next b 0).2.2 = 0 then readD (dec (Fr.FrM.next b 0).1) else (⟨#[]⟩, 0)
theorem readS_none {b : List UInt8} (h : (Fr.FrM.next b 0).2.2 ≠ 0) : readS b = (⟨#[]⟩, 0) := if_neg h
theorem readS_dec {b : List UInt8} (h : (Fr.FrM.next b 0).2.2 = 0) : readS b = readD (dec (Fr.FrM.next b 0).1) := if_pos h
theorem readS_ok (b : List UInt8) : (readS b).1.size ≤ 65536 ∧ (readS b).2 ≤ 9223372036854775807 := by
 by_cases h : (Fr.FrM.next b 0).2.2 = 0
 ·
  rw [readS_dec h]
  cases hd : dec (Fr.FrM.next b 0).1 with
  | none => exact ⟨Nat.zero_le _, Nat.zero_le _⟩
  | some l =>
   show (readI l).1.size ≤ 65536 ∧ (readI l).2 ≤ 9223372036854775807
   by_cases hl : l.length = 2
   ·
    match l, hl with
    | [x, y], _ =>
     obtain ⟨-, hw⟩ := dec_wf hd
     have h1 := wfI_n (hw x (by simp))
     have h2 := wfI_s (hw y (by simp))
     rw [readI_two]
     split
     ·
      refine ⟨h2, ?_⟩
      have := h1.2
      show x.n.toNat ≤ _
      omega
     · exact ⟨Nat.zero_le _, Nat.zero_le _⟩
   ·
    rw [readI_len hl]
    exact ⟨Nat.zero_le _, Nat.zero_le _⟩
 ·
  rw [readS_none h]
  exact ⟨Nat.zero_le _, Nat.zero_le _⟩
theorem kidsM_snoc {α : Type} {g : Int → Option α} : ∀ {ks : List Int} {l : List α} {k : Int} {c : α}, kidsM g ks = some l → g k = some c → kidsM g (ks ++ [k]) = some (l ++ [c])
 | [], l, k, c, h, hc => by
  cases h
  show (g k).bind (fun c => (kidsM g []).map (c :: ·)) = _
  rw [hc]
  rfl
 | q :: ks, l, k, c, h, hc => by
  unfold kidsM at h
  cases hg : g q with
  | none => rw [hg] at h; cases h
  | some x =>
   rw [hg] at h
   cases hm : kidsM g ks with
   | none => rw [hm] at h; cases h
   | some l2 =>
    rw [hm] at h
    cases h
    show (g q).bind (fun c => (kidsM g (ks ++ [k])).map (c :: ·)) = _
    rw [hg, kidsM_snoc hm hc]
    rfl
def Sound (b : List UInt8) (pg : Int) (lo h : Nat) : Prop := ∃ t, btP b h pg = some t ∧ BT.Ok h lo t
def Sounds (b : List UInt8) (ks : List Int) (h : Nat) : Prop := ∃ l : List (BT h), kidsM (btP b h) ks = some l ∧ ∀ c ∈ l, BT.Ok h 3 c
theorem Sounds.nil (b : List UInt8) (h : Nat) : Sounds b [] h := ⟨[], rfl, fun c hc => by cases hc⟩
theorem Sounds.snoc {b : List UInt8} {ks : List Int} {h : Nat} {k : Int} (hs : Sounds b ks h) (hk : Sound b k 3 h) : Sounds b (ks ++ [k]) h := by
 obtain ⟨l, h1, h2⟩ := hs
 obtain ⟨t, h3, h4⟩ := hk
 refine ⟨l ++ [t], kidsM_snoc h1 h3, fun c hc => ?_⟩
 rcases List.mem_append.1 hc with hc | hc
 · exact h2 c hc
 · rw [List.mem_singleton.1 hc]; exact h4
theorem Sound.leaf {b : List UInt8} {pg : Int} {es : List KV} {lo : Nat} (h : pageP b pg = some (es, [])) (h1 : lo ≤ es.length) (h2 : es.length ≤ 7) : Sound b pg lo 0 := by
 refine ⟨es, ?_, h1, h2⟩
 unfold btP
 rw [h]
theorem Sound.node {b : List UInt8} {pg : Int} {es : List KV} {ks : List Int} {lo h : Nat} (hp : pageP b pg = some (es, ks)) (hk : 0 < ks.length) (h1 : lo ≤ es.length) (h2 : es.length ≤ 7) (hs : Sounds b ks h) : Sound b pg lo (h + 1) := by
 obtain ⟨l, h3, h4⟩ := hs
 have hl := kidsM_len h3
 have hke : ks.length = es.length + 1 := by
  have := (pageP_some hp).2.2.2.2.1
  omega
 cases ks with
 | nil => cases hk
 | cons k ks =>
  refine ⟨(es, l), ?_, h1, h2, by rw [hl, hke], h4⟩
  unfold btP
  rw [hp]
  show (kidsM (btP b h) (k :: ks)).map _ = _
  rw [h3]
  rfl
theorem Sound.inv {b : List UInt8} {pg : Int} {es : List KV} {ks : List Int} {lo h : Nat} (hs : Sound b pg lo h) (hp : pageP b pg = some (es, ks)) : lo ≤ es.length ∧ es.length ≤ 7 ∧ (ks = [] → h = 0) ∧ (ks ≠ [] → ∃ h', h = h' + 1 ∧ ∀ (i : Nat) (c : Int), ks[i]? = some c → Sound b c 3 h') := by
 obtain ⟨t, ht, hok⟩ := hs
 cases h with
 | zero =>
  unfold btP at ht
  rw [hp] at ht
  cases ks with
  | nil =>
   cases ht
   exact ⟨hok.1, hok.2, fun _ => rfl, fun h => absurd rfl h⟩
  | cons k ks => cases ht
 | succ h =>
  unfold btP at ht
  rw [hp] at ht
  cases ks with
  | nil => cases ht
  | cons k ks =>
   cases hm : kidsM (btP b h) (k :: ks) with
   | none => simp only [hm] at ht; cases ht
   | some l =>
    simp only [hm] at ht
    cases ht
    refine ⟨hok.1, hok.2.1, (fun h => by cases h), fun _ => ⟨h, rfl, fun i c hc => ?_⟩⟩
    obtain ⟨t, h1, h2⟩ := kidsM_at hm i c hc
    exact ⟨t, h2, hok.2.2.2 t (List.mem_of_getElem? h1)⟩
theorem btP_one {b : List UInt8} : ∀ {h h' : Nat} {pg : Int} {t : BT h} {t' : BT h'}, btP b h pg = some t → btP b h' pg = some t' → h = h'
 | 0, 0, _, _, _, _, _ => rfl
 | 0, h' + 1, pg, t, t', ht, ht' => by
  unfold btP at ht ht'
  cases hp : pageP b pg with
  | none => rw [hp] at ht; cases ht
  | some x =>
   obtain ⟨es, ks⟩ := x
   rw [hp] at ht ht'
   cases ks with
   | nil => cases ht'
   | cons k ks => cases ht
 | h + 1, 0, pg, t, t', ht, ht' => by
  unfold btP at ht ht'
  cases hp : pageP b pg with
  | none => rw [hp] at ht; cases ht
  | some x =>
   obtain ⟨es, ks⟩ := x
   rw [hp] at ht ht'
   cases ks with
   | nil => cases ht
   | cons k ks => cases ht'
 | h + 1, h' + 1, pg, t, t', ht, ht' => by
  unfold btP at ht ht'
  cases hp : pageP b pg with
  | none => rw [hp] at ht; cases ht
  | some x =>
   obtain ⟨es, ks⟩ := x
   rw [hp] at ht ht'
   cases ks with
   | nil => cases ht
   | cons k ks =>
    cases hm : kidsM (btP b h) (k :: ks) with
    | none => simp only [hm] at ht; cases ht
    | some l =>
     cases hm' : kidsM (btP b h') (k :: ks) with
     | none => simp only [hm'] at ht'; cases ht'
     | some l' =>
      obtain ⟨u, -, h1⟩ := kidsM_at hm 0 k rfl
      obtain ⟨u', -, h2⟩ := kidsM_at hm' 0 k rfl
      rw [btP_one h1 h2]
theorem Sound.one {b : List UInt8} {pg : Int} {lo lo' h h' : Nat} (hs : Sound b pg lo h) (hs' : Sound b pg lo' h') : h = h' := by
 obtain ⟨t, h1, -⟩ := hs
 obtain ⟨t', h2, -⟩ := hs'
 exact btP_one h1 h2
theorem Sounds.at {b : List UInt8} {ks : List Int} {h : Nat} (hs : Sounds b ks h) {i : Nat} {c : Int} (hc : ks[i]? = some c) : Sound b c 3 h := by
 obtain ⟨l, h1, h2⟩ := hs
 obtain ⟨t, h3, h4⟩ := kidsM_at h1 i c hc
 exact ⟨t, h4, h2 t (List.mem_of_getElem? h3)⟩
end Go.Proofs.Ytmafnjidhjabgaa
namespace Go.Proofs.Ytmafnjidhjabgaa
open Go.RowKit
section
variable {P : Program} {ops : Array Oper} {md : Region.Mode} {S : World → Prop} {n : Nat}
inductive Ord where
 | done : Ord
 | take : Nat → Ord → Ord
 | loud : Nat → Ord → Ord
 | two : Nat → Ord → Nat → Ord → Ord
def wpT (P : Program) (ops : Array Oper) (Q : Exit → Act → World → Prop) (S : World → Prop) (T : Act → World → Prop) : Ord → Act → World → Prop
 | .done, a, w => T a w
 | .take i r, a, w => ∃ o, ops[i]? = some o ∧ ∃ v, YieldsIf P ops S o v a ∧ wpT P ops Q S T r (a.put o.dst v) w
 | .loud i r, a, w => wpOp P ops Q i (fun a' w' => S w' ∧ wpT P ops Q S T r a' w') a w
 | .two i r j s, a, w => wpOp P ops Q i (fun a' w' => S w' ∧ wpT P ops Q S T r a' w') a w ∧ wpOp P ops Q j (fun a' w' => S w' ∧ wpT P ops Q S T s a' w') a w
def chkT (md : Region.Mode) (ops : Array Oper) (n : Nat) : Nat → Ord → Array Bool → Bool
 | 0, .done, listed => Region.seqB md ops (ops.size - n) n listed
 | k + 1, .take i r, listed => decide (i < n) && (Region.ready md ops listed).contains i && Region.free md ops listed i && chkT md ops n k r (listed.setIfInBounds i true)
 | k + 1, .loud i r, listed => decide (i < n) && decide (Region.ready md ops listed = [i]) && chkT md ops n k r (listed.setIfInBounds i true)
 | k + 1, .two i r j s, listed => decide (i < n) && decide (j < n) && decide (Region.ready md ops listed = [i, j]) && chkT md ops n k r (listed.setIfInBounds i true) && chkT md ops n k s (listed.setIfInBounds j true)
 | _, _, _ => false
def chkO (md : Region.Mode) (ops : Array Oper) (n : Nat) (t : Ord) : Bool :=
 Region.noSelect ops && (decide (n = ops.size) || (decide (n < ops.size) && Region.sinkB md ops n && Region.chainB md ops n)) && chkT md ops n n t (Array.replicate ops.size false)
theorem wpX_of_T {Q : Exit → Act → World → Prop} (hQ : ∀ c a d v w, Q (.panic c) (Act.put a d v) w → Q (.panic c) a w) (hsel : Region.noSelect ops = true) (hn : n ≤ ops.size)
  (htail : ∀ i, i < n → ∀ listed : Array Bool, HeadInv md ops n listed → listed.getD i true = false → ∀ t, n ≤ t → t ∉ Region.ready md ops listed) :
  ∀ (k : Nat) (t : Ord) (listed : Array Bool) (a : Act) (w : World), HeadInv md ops n listed → chkT md ops n k t listed = true → S w →
   wpT P ops Q S (wpList P ops Q (ops.toList.drop n)) t a w → wpX P md ops Q S n (k + (ops.size - n)) listed a w
 | 0, .done, listed, a, w, _, hc, _, h => by
  have hl : (ops.toList.drop n).length = ops.size - n := by simp
  have := wpX_of_seq (S := S) (n := n) (md := md) (ops.toList.drop n) n listed a w (Nat.le_refl _) (fun j => by simp [List.getElem?_drop]) (by rw [hl]; exact hc) h
  rw [hl] at this
  simpa using this
 | 0, .take _ _, _, _, _, _, hc, _, _ => by simp [chkT] at hc
 | 0, .loud _ _, _, _, _, _, hc, _, _ => by simp [chkT] at hc
 | 0, .two _ _ _ _, _, _, _, _, hc, _, _ => by simp [chkT] at hc
 | _ + 1, .done, _, _, _, _, hc, _, _ => by simp [chkT] at hc
 | k + 1, .take i r, listed, a, w, inv, hc, hS, h => by
  simp only [chkT, Bool.and_eq_true, decide_eq_true_eq] at hc
  obtain ⟨⟨⟨hin, hr⟩, hf⟩, hc'⟩ := hc
  obtain ⟨o, ho, v, hy, h'⟩ := h
  have hr' : i ∈ Region.ready md ops listed := by simpa using hr
  rw [show k + 1 + (ops.size - n) = (k + (ops.size - n)) + 1 by omega]
  exact wpX_first ho (Region.noSelect_spec hsel) (fun c a w => hQ c a _ _ w) hin (htail i hin) _ listed a w inv (Region.free_spec ho hf) hr' hy hS
   (wpX_of_T hQ hsel hn htail k r _ _ w (inv.set hr' hin) hc' hS h')
 | k + 1, .loud i r, listed, a, w, inv, hc, hS, h => by
  simp only [chkT, Bool.and_eq_true, decide_eq_true_eq] at hc
  obtain ⟨⟨hin, hr⟩, hc'⟩ := hc
  have hr' : i ∈ Region.ready md ops listed := by rw [hr]; simp
  rw [show k + 1 + (ops.size - n) = (k + (ops.size - n)) + 1 by omega]
  refine ⟨fun h1 => (by rw [hr] at h1; cases h1), fun j hj => ?_⟩
  rw [hr] at hj
  obtain rfl : j = i := by simpa using hj
  exact wpOp_mono (fun a' w' h' => ⟨fun _ => h'.1, wpX_of_T hQ hsel hn htail k r _ _ w' (inv.set hr' hin) hc' h'.1 h'.2⟩) h
 | k + 1, .two i r j s, listed, a, w, inv, hc, hS, h => by
  simp only [chkT, Bool.and_eq_true, decide_eq_true_eq] at hc
  obtain ⟨⟨⟨⟨hin, hjn⟩, hr⟩, hc1⟩, hc2⟩ := hc
  have hri : i ∈ Region.ready md ops listed := by rw [hr]; simp
  have hrj : j ∈ Region.ready md ops listed := by rw [hr]; simp
  rw [show k + 1 + (ops.size - n) = (k + (ops.size - n)) + 1 by omega]
  refine ⟨fun h1 => (by rw [hr] at h1; cases h1), fun q hq => ?_⟩
  rw [hr] at hq
  rcases (show q = i ∨ q = j by simpa using hq) with rfl | rfl
  · exact wpOp_mono (fun a' w' h' => ⟨fun _ => h'.1, wpX_of_T hQ hsel hn htail k r _ _ w' (inv.set hri hin) hc1 h'.1 h'.2⟩) h.1
  · exact wpOp_mono (fun a' w' h' => ⟨fun _ => h'.1, wpX_of_T hQ hsel hn htail k s _ _ w' (inv.set hrj hjn) hc2 h'.1 h'.2⟩) h.2
theorem wpOps_of_T {Q : Exit → Act → World → Prop} (hQ : ∀ c a d v w, Q (.panic c) (Act.put a d v) w → Q (.panic c) a w) (t : Ord) (hm : P.follows .mixedOrders = true) (hB : chkO .any ops n t = true) {a : Act} {w : World} (hS : S w)
  (h : wpT P ops Q S (wpList P ops Q (ops.toList.drop n)) t a w) (q : Nat) : wpOps P ops Q (Region.schedule (P.follows .mixedOrders) ops q) a w := by
 simp only [chkO, Bool.and_eq_true, decide_eq_true_eq, Bool.or_eq_true] at hB
 obtain ⟨⟨hsel, hn⟩, hc⟩ := hB
 have hn' : n ≤ ops.size := by omega
 have inv0 : HeadInv .any ops n (Array.replicate ops.size false) :=
  ⟨by simp, fun j oj _ hl => (by rw [getD_replicate_false] at hl; cases hl), fun t _ ht => getD_in (by simpa using ht) (getD_replicate_false _ _)⟩
 have htail : ∀ i, i < n → ∀ listed : Array Bool, HeadInv .any ops n listed → listed.getD i true = false → ∀ t, n ≤ t → t ∉ Region.ready .any ops listed := by
  intro i hi listed inv hun t ht hr
  rcases hn with rfl | ⟨⟨hlt, hs⟩, hch⟩
  ·
   obtain ⟨_, o, ho, _⟩ := mem_ready.1 hr
   have := (Array.getElem?_eq_some_iff.1 ho).1
   omega
  · exact tail_waits hs hch hlt inv _ i rfl hi hun t ht hr
 have H := wpAny_of_X _ _ _ _ (wpX_of_T hQ hsel hn' htail n t _ a w inv0 hc hS h)
 rw [show n + (ops.size - n) = ops.size by omega] at H
 simp only [Region.schedule, hm, Bool.true_or, if_true]
 exact wpAny_sound ops.size q _ a _ H
theorem region_t {Q : Exit → Act → World → Prop} {id : Nat} (t : Ord) (n : Nat) (S : World → Prop) {a : Act} {w : World} (hm : P.follows .mixedOrders = true) (hB : chkO .any ops n t = true) (hS : S w.drew)
  (h : wpT P ops (NP Q) S (wpList P ops (NP Q) (ops.toList.drop n)) t a w.drew) : (Code.region id ops true).wp P Q a w :=
 Code.wp_mono NP.imp (wp_region_draw fun q => wpOps_of_T (fun _ _ _ _ _ h => h) t hm hB hS h q)
end
section
variable {P : Program} {l : List Oper} {Q : Exit → Act → World → Prop} {S : World → Prop} {T : Act → World → Prop} {i j : Nat} {o : Oper} {r r' : Ord} {a : Act} {w w' : World} {v v' : Value}
theorem t_take (ho : l[i]? = some o) (hw : Region.wanted o (yielded l.toArray a.tmps) = true)
  (hy : ∀ W, S W → (execOp a.eval o).run P W = .ok (.value v) W) (h : wpT P l.toArray Q S T r (a.put o.dst v) w) : wpT P l.toArray Q S T (.take i r) a w :=
 ⟨o, by simpa using ho, v, .inl ⟨hw, hy⟩, h⟩
theorem t_skip (ho : l[i]? = some o) (hw : Region.wanted o (yielded l.toArray a.tmps) = false)
  (h : wpT P l.toArray Q S T r (a.put o.dst undef) w) : wpT P l.toArray Q S T (.take i r) a w :=
 ⟨o, by simpa using ho, undef, .inr ⟨hw, rfl⟩, h⟩
theorem t_loud (ho : l[i]? = some o)
  (h : ∀ K : Act → World → Prop, (∀ a w, S w → wpT P l.toArray Q S T r a w → K a w) → if Region.wanted o (yielded l.toArray a.tmps) = true then o.wp P a w K Q else K (a.put o.dst undef) w) : wpT P l.toArray Q S T (.loud i r) a w := by
 have ho' : l.toArray[i]? = some o := by simpa using ho
 have := h (fun a' w' => S w' ∧ wpT P l.toArray Q S T r a' w') (fun a w hS h => ⟨hS, h⟩)
 show wpOp P l.toArray Q i _ a w
 unfold wpOp
 simp only [ho']
 by_cases hw : Region.wanted o (yielded l.toArray a.tmps) = true
 · simp only [hw, if_true] at this ⊢; exact .inl this
 · simp only [hw, Bool.false_eq_true, if_false] at this ⊢; exact this
theorem t_two (h1 : wpT P l.toArray Q S T (.loud i r) a w) (h2 : wpT P l.toArray Q S T (.loud j r') a w) : wpT P l.toArray Q S T (.two i r j r') a w := ⟨h1, h2⟩
theorem t_done (h : T a w) : wpT P l.toArray Q S T .done a w := h
theorem t_value (ho : l[i]? = some o) (hw : Region.wanted o (yielded l.toArray a.tmps) = true) (hrun : (execOp a.eval o).run P w = .ok (.value v') w') (hS : S w') (h : wpT P l.toArray Q S T r (a.put o.dst v') w') : wpT P l.toArray Q S T (.loud i r) a w := by
 refine t_loud ho fun K hK => ?_
 rw [if_pos hw]
 unfold Oper.wp
 rw [hrun]
 exact hK _ _ hS h
theorem t_app {s x : Operand} {t e : TypeId} {z : Value} {sz bytes base n m : Nat} {sv : Value} {xs ys : List Value} (T' : STy P t e z sz bytes)
  (hown : w.ownsRow base e sz v n xs) (hr : Rd w sz sv m ys) (h1 : ∀ u ∈ ys, u.oneCell' = true) (hb : (n + m) * bytes ≤ 140737488355328) (hm : n + m ≤ 9223372036854775807) (hbase : base ≤ w.heap.size)
  (ho : l[i]? = some o) (hw : Region.wanted o (yielded l.toArray a.tmps) = true) (hop : o.op = .call { callee := .builtin .append, args := #[s, x], argTypes := #[t, t] }) (hs : a.eval s = v) (hx : a.eval x = sv)
  (h : ∀ v' w', w'.ownsRow base e sz v' (n + m) (xs ++ ys) → w.grownBy w' v.ownBlock → S w' ∧ wpT P l.toArray Q S T r (a.put o.dst v') w') :
  wpT P l.toArray Q S T (.loud i r) a w := by
 obtain ⟨v', w', hrun, h2, h3, -⟩ := run_app (ty := o.type) T' hown hr h1 hb hm hbase
 have := h v' w' h2 h3
 exact t_value ho hw (exec_app hop hs hx hrun) this.1 this.2
end
end Go.Proofs.Ytmafnjidhjabgaa
namespace Go.Proofs.Ytmafnjidhjabgaa
open Go.RowKit
variable {P : Program}
theorem range_wx {σ : Type} {g : Operand} {ps : Array Tmp} {assign body : Code} {Q : Exit → Act → World → Prop} {a : Act} {w : World}
  {gf : Nat} {lb : Array Value} (hg : a.eval g = .func (.func gf) #[] lb) (eg : ∀ args w, (callFunc gf args).run P w = .ok (.enter gf args) w)
  (J : σ → World → Prop) (JX : Code → World → Prop) (Step : σ → Array Value → σ → World → Prop) (Done : σ → Prop) (s0 : σ)
  (hJ : ∀ s W W', Calm w.heap.size W W' → J s W → J s W') (hJX : ∀ c W W', Calm w.heap.size W W' → JX c W → JX c W')
  (h0 : J s0 w)
  (hiter : ∀ (l : Nat) (J' : σ → World → Prop) (Jx' : World → Prop) (W : World), (∀ s W W', Below W.heap.size W W' → J' s W → J' s W') → (∀ W W', Below W.heap.size W W' → Jx' W → Jx' W') →
   (∀ s W, J' s W → J s W) → (∀ W, Jx' W → ∃ c, JX c W) → Calm w.heap.size w W → J' s0 W →
   (∀ s args s' W, J' s W → Step s args s' W → YieldAt Fence.wide 0 P l args W fun e W' => (e = .returned (.bool true) ∧ J' s' W') ∨ (e = .returned (.bool false) ∧ Jx' W')) →
   CallsIn Fence.wide 0 P gf (#[.func (.yield l) #[] #[]] ++ lb) W fun e W' => (∃ v, e = .returned v) ∧ ((∃ s, Done s ∧ J' s W') ∨ Jx' W'))
  (hbody : ∀ (l : Nat) (s : σ) (args : Array Value) (s' : σ) (W : World), J s W → Step s args s' W → w.heap.size ≤ W.heap.size → args.size = ps.size ∧
   assign.wpIn (Fence.wide.inRound l) 0 P (Exit.then (fun a₁ W₁ => KeepsOthers W W₁ ∧ ∀ W₂, Calm w.heap.size W₁ W₂ → body.wpIn (Fence.wide.inRound l) 0 P (roundEnds (J s') (fun _ => False) JX W₂) a₁ W₂) (fun _ _ _ => False))
    { tmps := (ps.zip args).foldl (fun t (p, v) => t.setIfInBounds p v) a.tmps, defers := [] } W)
  (hdone : ∀ (D : Nat) (s : σ) (W : World), w.heap.size ≤ D → Done s → J s W → W.heap[D]? = some (.deferred (some [])) → Q .normal { a with defers := { target := .collected D, args := #[] } :: a.defers } W)
  (hstop : ∀ (D : Nat) (c : Code) (W : World), w.heap.size ≤ D → JX c W → W.heap[D]? = some (.deferred (some [])) → c.wpIn Fence.wide 0 P Q { a with defers := { target := .collected D, args := #[] } :: a.defers } W) :
  (Code.rangeFunc g ps assign body).wpIn Fence.wide 0 P Q a w := by
 refine wpIn_rangeFunc ?_
 intro fn hfn
 obtain ⟨rec, hrec⟩ : ∃ rec : LoopState → Option Code → Loop, rec = fun st pe => { state := st, pending := pe, fn, tmps := a.tmps, params := ps, assign, body, defers := w.heap.size } := ⟨_, rfl⟩
 obtain ⟨W1, hW1⟩ : ∃ W1, (w.alloc (.deferred (some []))).alloc (.loop (rec .ready none)) = W1 := ⟨_, rfl⟩
 have hL1 : W1.heap[w.heap.size + 1]? = some (.loop (rec .ready none)) := by
  rw [← hW1]; have := World.alloc_heap_new (w.alloc (.deferred (some []))) (.loop (rec .ready none)); rwa [World.size_alloc] at this
 have hK1 : W1.heap[w.heap.size]? = some (.deferred (some [])) := by
  rw [← hW1]; exact (Below.heap_alloc _ _ _ (by simp)).trans (World.alloc_heap_new w _)
 have hC1 : Calm w.heap.size w W1 := by
  rw [← hW1]; exact Calm.of_below (Nat.le_refl _) (((Below.refl _ w).alloc (Nat.le_refl _) _).alloc (by simp) _)
 refine ⟨w.heap.size + 1, [{ target := .collected w.heap.size, args := #[] }], W1, { target := .fn (.func gf) lb, args := #[.func (.yield (w.heap.size + 1)) #[] #[]] }, W1, gf,
  #[.func (.yield (w.heap.size + 1)) #[] #[]] ++ lb, W1, ?_, ?_, ?_, ?_, fun h => by simp [Fence.wide] at h, ?_⟩
 · rw [← hW1, hrec]; exact run_enterLoop_outer _ _ _ _ _
 ·
  simp only [resolve, hg]
  simp [go_sem]
 · intro f' _; trivial
 · simp [invoke, go_sem, eg]
 ·
  refine (hiter (w.heap.size + 1)
   (fun s W => J s W ∧ W.heap[w.heap.size + 1]? = some (.loop (rec .ready none)) ∧ W.heap[w.heap.size]? = some (.deferred (some [])))
   (fun W => ∃ c, JX c W ∧ W.heap[w.heap.size + 1]? = some (.loop (rec .done (some c))) ∧ W.heap[w.heap.size]? = some (.deferred (some [])))
   W1 ?_ ?_ (fun _ _ h => h.1) (fun _ ⟨c, h, _⟩ => ⟨c, h⟩) hC1 ⟨hJ _ _ _ hC1 h0, hL1, hK1⟩ ?_).mono ?_
  ·
   rintro s W W' hb ⟨hj, hl, hk⟩
   have hlt := (Array.getElem?_eq_some_iff.1 hl).1
   exact ⟨hJ _ _ _ (Calm.of_below (by omega) hb) hj, (hb.block _ hlt).trans hl, (hb.block _ (by omega)).trans hk⟩
  ·
   rintro W W' hb ⟨c, hj, hl, hk⟩
   have hlt := (Array.getElem?_eq_some_iff.1 hl).1
   exact ⟨c, hJX _ _ _ (Calm.of_below (by omega) hb) hj, (hb.block _ hlt).trans hl, (hb.block _ (by omega)).trans hk⟩
  ·
   rintro s args s' W ⟨hj, hl, hk⟩ hst
   have hlt : w.heap.size + 1 < W.heap.size := (Array.getElem?_eq_some_iff.1 hl).1
   obtain ⟨hsz, hwalk⟩ := hbody (w.heap.size + 1) s args s' W hj hst (by omega)
   have hy := run_yield (P := P) (args := args) hl (by rw [hrec]; exact hsz)
   rw [hrec] at hy
   refine ⟨fn, _, assign, body, hy, roundIn_of_wpIn trivial (wpIn_mono hwalk ?_)⟩
   rintro e a₁ W₁ hp
   cases e <;> try exact (hp : False).elim
   obtain ⟨hk1, hb1⟩ := hp
   have hl1 := hk1.same _ _ hl rfl
   have hd1 := hk1.same _ _ hk rfl
   refine ⟨_, run_beginRound hl1 (by rw [hrec]), ?_⟩
   have hl2 : (W₁.putObj (w.heap.size + 1) (.loop { rec .ready none with state := .busy })).heap[w.heap.size + 1]? = some (.loop { rec .ready none with state := .busy }) := World.putObj_heap_same (Array.getElem?_eq_some_iff.1 hl1).1
   have hk2 : (W₁.putObj (w.heap.size + 1) (.loop { rec .ready none with state := .busy })).heap[w.heap.size]? = some (.deferred (some [])) := (World.putObj_heap_other (by omega)).trans hd1
   refine wpIn_mono (hb1 _ (Calm.putObj _ (by omega) hl1 rfl)) ?_
   have fin : ∀ (jump : Option Code) (W3 : World), KeepsOthers (W₁.putObj (w.heap.size + 1) (.loop { rec .ready none with state := .busy })) W3 →
     (Instr.endRound (w.heap.size + 1) jump).run P W3 = .ok (.bool jump.isNone) (W3.putObj (w.heap.size + 1) (.loop (rec (if jump.isNone then .ready else .done) jump))) ∧
     W3.heap[w.heap.size + 1]? = some (.loop { rec .ready none with state := .busy }) ∧
     (W3.putObj (w.heap.size + 1) (.loop (rec (if jump.isNone then .ready else .done) jump))).heap[w.heap.size + 1]? = some (.loop (rec (if jump.isNone then .ready else .done) jump)) ∧
     (W3.putObj (w.heap.size + 1) (.loop (rec (if jump.isNone then .ready else .done) jump))).heap[w.heap.size]? = some (.deferred (some [])) := fun jump W3 hk3 => by
    have hl3 := hk3.same _ _ hl2 rfl
    have := run_endRound (P := P) jump hl3
    rw [hrec] at this ⊢
    exact ⟨this, by rw [hrec] at hl3; exact hl3, World.putObj_heap_same (Array.getElem?_eq_some_iff.1 hl3).1, (World.putObj_heap_other (by omega)).trans (hk3.same _ _ hk2 rfl)⟩
   rintro e a3 W3 hp
   cases e with
   | normal =>
    obtain ⟨hk3, hi3⟩ := hp
    obtain ⟨hr, hl3, hl4, hk4⟩ := fin none W3 hk3
    exact ⟨_, _, hr, .inl ⟨rfl, hJ _ _ _ (Calm.putObj _ (by omega) hl3 rfl) hi3, hl4, hk4⟩⟩
   | ret =>
    obtain ⟨hk3, hi3⟩ := hp
    obtain ⟨hr, hl3, hl4, hk4⟩ := fin (some .ret) W3 hk3
    exact ⟨_, _, hr, .inr ⟨rfl, .ret, hJX _ _ _ (Calm.putObj _ (by omega) hl3 rfl) hi3, hl4, hk4⟩⟩
   | exit id =>
    obtain ⟨hk3, hi3⟩ := hp
    obtain ⟨hr, hl3, hl4, hk4⟩ := fin (some (.exit id)) W3 hk3
    exact ⟨_, _, hr, .inr ⟨rfl, .exit id, hJX _ _ _ (Calm.putObj _ (by omega) hl3 rfl) hi3, hl4, hk4⟩⟩
   | goto t => exact hp.elim
   | panic ch => exact hp.elim
   | outgrown => exact hp.elim
  ·
   rintro e W2 ⟨⟨v, rfl⟩, (⟨s, hS, hi, hl, hk⟩ | ⟨c, hi, hl, hk⟩)⟩
   · exact ⟨none, _, by have := run_endLoop (P := P) hl (by rw [hrec]; simp); rw [hrec] at this; exact this, hdone _ s _ (Nat.le_refl _) hS (hJ _ _ _ (Calm.putObj _ (by omega) hl rfl) hi) ((World.putObj_heap_other (by omega)).trans hk)⟩
   · exact ⟨some c, _, by have := run_endLoop (P := P) hl (by rw [hrec]; simp); rw [hrec] at this; exact this, hstop _ c _ (Nat.le_refl _) (hJX _ _ _ (Calm.putObj _ (by omega) hl rfl) hi) ((World.putObj_heap_other (by omega)).trans hk)⟩
end Go.Proofs.Ytmafnjidhjabgaa
namespace Go.Proofs.Ytmafnjidhjabgaa
set_option linter.unusedSimpArgs false
set_option linter.unusedVariables false
theorem nodup_le : ∀ (n : Nat) (l : List Nat), l.Nodup → (∀ x ∈ l, x < n) → l.length ≤ n
 | 0, l, _, h => by
  cases l with
  | nil => simp
  | cons x l => exact absurd (h x (by simp)) (by omega)
 | n + 1, l, hd, h => by
  by_cases hn : n ∈ l
  ·
   have h1 := nodup_le n (l.erase n) (hd.erase n) (fun x hx => by
    have h2 := (hd.mem_erase_iff.1 hx)
    have h3 := h x h2.2
    have h4 := h2.1
    omega)
   rw [List.length_erase_of_mem hn] at h1
   have : 0 < l.length := List.length_pos_of_mem hn
   omega
  ·
   have := nodup_le n l hd (fun x hx => by
    have h3 := h x hx
    have h4 : x ≠ n := fun e => hn (e ▸ hx)
    omega)
   omega
theorem nodup_le_int {n : Nat} {l : List Int} (hd : l.Nodup) (h : ∀ x ∈ l, 0 ≤ x ∧ x ≤ n) : l.length ≤ n + 1 := by
 have h1 := nodup_le (n + 1) (l.map Int.toNat) (by
  refine List.pairwise_map.2 (hd.imp_of_mem ?_)
  intro a b ha hb hne e
  have h2 := h a ha
  have h3 := h b hb
  omega) (fun x hx => by
  obtain ⟨a, ha, rfl⟩ := List.mem_map.1 hx
  have := h a ha
  omega)
 simpa using h1
theorem wr_len : ∀ (es : List KV) (ks : List (List KV)), (wr es ks).length ≤ es.length + (ks.map List.length).sum
 | [], ks => by simp [wr]
 | e :: es, [] => by simp [wr]
 | e :: es, k :: ks => by
  have := wr_len es ks
  simp only [wr, List.length_cons, List.length_append, List.map_cons, List.sum_cons]
  omega
theorem weave_len (es : List KV) (ks : List (List KV)) : (weave ks es).length ≤ es.length + (ks.map List.length).sum := by
 cases ks with
 | nil => simp [weave]
 | cons k ks =>
  have := wr_len es ks
  show (k ++ wr es ks).length ≤ _
  simp only [List.length_append, List.map_cons, List.sum_cons]
  omega
structure Seen2 (b : List UInt8) (s s' : List Int) : Prop where
 nd : s'.Nodup
 rg : ∀ x ∈ s', 0 ≤ x ∧ x ≤ b.length
 le : s.length ≤ s'.length
theorem loadP_seen {b : List UInt8} : ∀ {f : Nat} {pg : Int} {s s' : List Int}, loadP b f pg s = some s' → s.Nodup → (∀ x ∈ s, 0 ≤ x ∧ x ≤ b.length) → Seen2 b s s' ∧ ∀ (h lo : Nat) (t : BT h), btP b h pg = some t → BT.Ok h lo t → (flat h t).length + 7 * s.length ≤ 7 * s'.length
 | 0, _, _, _, h, _, _ => by cases h
 | f + 1, pg, s, s', h, hnd, hrg => by
  obtain ⟨hns, es, ks, hp, hk⟩ := loadP_some h
  obtain ⟨p0, p1, p2, p3, p4, p5⟩ := pageP_some hp
  have hnd1 : (pg :: s).Nodup := List.nodup_cons.2 ⟨hns, hnd⟩
  have hrg1 : ∀ x ∈ pg :: s, 0 ≤ x ∧ x ≤ b.length := by
   intro x hx
   rcases List.mem_cons.1 hx with rfl | hx
   · exact ⟨p0, p1⟩
   · exact hrg x hx
  have key : ∀ (ks : List Int) (s s' : List Int), loadK (loadP b f) ks s = some s' → s.Nodup → (∀ x ∈ s, 0 ≤ x ∧ x ≤ b.length) → Seen2 b s s' ∧ ∀ (h : Nat) (l : List (BT h)), kidsM (btP b h) ks = some l → (∀ c ∈ l, BT.Ok h 3 c) → ((l.map (flat h)).map List.length).sum + 7 * s.length ≤ 7 * s'.length := by
   intro ks
   induction ks with
   | nil =>
    intro s s' hk hnd hrg
    cases hk
    refine ⟨⟨hnd, hrg, Nat.le_refl _⟩, fun h l hl _ => ?_⟩
    cases hl
    simp
   | cons k ks ih =>
    intro s s' hk hnd hrg
    unfold loadK at hk
    cases hg : loadP b f k s with
    | none => rw [hg] at hk; cases hk
    | some s1 =>
     rw [hg] at hk
     obtain ⟨hs1, ht1⟩ := loadP_seen hg hnd hrg
     obtain ⟨hs2, ht2⟩ := ih s1 s' hk hs1.nd hs1.rg
     refine ⟨⟨hs2.nd, hs2.rg, Nat.le_trans hs1.le hs2.le⟩, fun h l hl hok => ?_⟩
     unfold kidsM at hl
     cases hgk : btP b h k with
     | none => rw [hgk] at hl; cases hl
     | some c =>
      rw [hgk] at hl
      cases hm : kidsM (btP b h) ks with
      | none => rw [hm] at hl; cases hl
      | some l2 =>
       rw [hm] at hl
       cases hl
       have h1 := ht1 h 3 c hgk (hok c (by simp))
       have h2 := ht2 h l2 hm (fun c hc => hok c (by simp [hc]))
       simp only [List.map_cons, List.sum_cons]
       omega
  obtain ⟨hs, ht⟩ := key ks (pg :: s) s' hk hnd1 hrg1
  have hle := hs.le
  rw [List.length_cons] at hle
  refine ⟨⟨hs.nd, hs.rg, by omega⟩, fun h lo t hbt hok => ?_⟩
  cases h with
  | zero =>
   unfold btP at hbt
   rw [hp] at hbt
   cases ks with
   | nil =>
    cases hbt
    have h7 : List.length (α := KV) es ≤ 7 := hok.2
    show List.length (α := KV) es + 7 * s.length ≤ _
    omega
   | cons k ks => cases hbt
  | succ h =>
   unfold btP at hbt
   rw [hp] at hbt
   cases ks with
   | nil => cases hbt
   | cons k ks =>
    cases hm : kidsM (btP b h) (k :: ks) with
    | none => simp only [hm] at hbt; cases hbt
    | some l =>
     simp only [hm] at hbt
     cases hbt
     have h1 := ht h l hm hok.2.2.2
     have h7 : es.length ≤ 7 := hok.2.1
     have h2 := weave_len es (l.map (flat h))
     show (weave (l.map (flat h)) es).length + 7 * s.length ≤ _
     rw [List.length_cons] at h1
     omega
theorem flat_bound {b : List UInt8} {pg : Int} {s' : List Int} {h lo : Nat} {t : BT h} (hl : loadP b 41 pg [] = some s') (ht : btP b h pg = some t) (ho : BT.Ok h lo t) : (flat h t).length ≤ 7 * (b.length + 1) := by
 obtain ⟨h1, h2⟩ := loadP_seen hl List.nodup_nil (fun x hx => by cases hx)
 have h3 := h2 h lo t ht ho
 have h4 := nodup_le_int h1.nd h1.rg
 simp only [List.length_nil] at h3
 omega
end Go.Proofs.Ytmafnjidhjabgaa
