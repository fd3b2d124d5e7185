/- Layer 5: a post with the blocks that are its own; what each call makes of its messages, for both posts alike. -/
import Derived.Test.YtpmkepmnldkccaaMail07
import Derived.Test.YtpmkepmnldkccaaMail20
namespace Go.Proofs.Ytpmkepmnldkccaa
open Go.RowKit Go.Shelf

abbrev Key := Int × Int × List UInt8

/-- A post, and the blocks that are its own. -/
structure PostB (w : World) (base pb : Nat) (N : Int) (es : List Ent) (B : Nat → Prop) : Prop where
  post : ∃ rv, Post w pb N rv es ∧ ∀ g, rv.ownBlock = some g → B g
  pbB : B pb
  data : ∀ e ∈ es, ∀ g, e.dv.ownBlock = some g → B g
  lt : ∀ j, B j → base ≤ j ∧ j < w.heap.size

def growB (B : Nat → Prop) (w w' : World) (j : Nat) : Prop := B j ∨ (w.heap.size ≤ j ∧ j < w'.heap.size)

structure After (w w' : World) (base pb : Nat) (N : Int) (es : List Ent) (B : Nat → Prop) : Prop where
  post : PostB w' base pb N es (growB B w w')
  only : Only B w w'

theorem PostB.only {w w' : World} {base pb : Nat} {N : Int} {es : List Ent} {B C : Nat → Prop} (h : PostB w base pb N es B) (ho : Only C w w') (hC : ∀ j, B j → ¬ C j) : PostB w' base pb N es B := by
  obtain ⟨rv, hp, hr⟩ := h.post
  exact ⟨⟨rv, hp.only ho (hC _ h.pbB) (fun g hg => hC _ (hr g hg)) (fun e he g hg => hC _ (h.data e he g hg)), hr⟩, h.pbB, h.data, fun j hj => ⟨(h.lt j hj).1, Nat.lt_of_lt_of_le (h.lt j hj).2 ho.size⟩⟩
theorem PostB.below {w w' : World} {base pb : Nat} {N : Int} {es : List Ent} {B : Nat → Prop} (h : PostB w base pb N es B) (hb : Below w.heap.size w w') : PostB w' base pb N es B :=
  h.only (Only.of_below (S := fun _ => False) hb) (fun _ _ h => h)
theorem PostB.next {w w' : World} {base pb : Nat} {N : Int} {rv' : Value} {es es' : List Ent} {B C : Nat → Prop} (h : PostB w base pb N es B) (hbase : base ≤ w.heap.size) (hp' : Post w' pb N rv' es') (hon : Only C w w') (hC : ∀ j, j < w.heap.size → C j → B j)
    (hrv : ∀ g, rv'.ownBlock = some g → B g ∨ w.heap.size ≤ g) (hd : ∀ e ∈ es', ∀ g, e.dv.ownBlock = some g → B g ∨ w.heap.size ≤ g) : After w w' base pb N es' B := by
  have hup : ∀ g, B g ∨ w.heap.size ≤ g → g < w'.heap.size → growB B w w' g := fun g h1 h2 => h1.imp id (fun h3 => ⟨h3, h2⟩)
  refine ⟨⟨⟨rv', hp', fun g hg => hup g (hrv g hg) (World.ownsRow.lt hp'.own g hg).2⟩, .inl h.pbB, fun e he g hg => hup g (hd e he g hg) (World.ownsRow.lt (hp'.data e he) g hg).2, fun j hj => ?_⟩, hon.weak hC⟩
  rcases hj with hj | ⟨h1, h2⟩
  · exact ⟨(h.lt j hj).1, Nat.lt_of_lt_of_le (h.lt j hj).2 hon.size⟩
  · exact ⟨by omega, h2⟩
theorem PostB.same {w w' : World} {base pb : Nat} {N : Int} {es : List Ent} {B : Nat → Prop} (h : PostB w base pb N es B) (hbase : base ≤ w.heap.size) (hb : Below w.heap.size w w') : After w w' base pb N es B := by
  obtain ⟨rv, hp, hr⟩ := h.post
  exact h.next hbase (hp.below hb) (Only.of_below (S := fun _ => False) hb) (fun _ _ h => h.elim) (fun g hg => .inl (hr g hg)) (fun e he g hg => .inl (h.data e he g hg))

def keys (es : List Ent) : List Key := es.map Ent.key
theorem keys_length (es : List Ent) : (keys es).length = es.length := by simp [keys]
theorem keys_get (es : List Ent) (i : Nat) (h : i < es.length) : (keys es)[i]? = some es[i].key := by simp [keys, h]

/-! ### Send -/
def sendK (N f t : Int) (xs : List UInt8) (K : List Key) : List Key := if sendCode N f t xs = 0 then K ++ [(f, t, xs)] else K
def SendSpec (fn : Nat) : Prop := ∀ (base pb : Nat) (N : Int) (es : List Ent) (B : Nat → Prop) (f t : Int) (dv : Value) (xs : List UInt8) (w : World), PostB w base pb N es B → base ≤ w.heap.size → Bytes w dv xs → es.length ≤ 100000 →
  Calls Try.prog fn #[.pointer (some ⟨pb, 0, none⟩), .agg #[.int .i64 f, .int .i64 t, dv]] w fun e w' => e = .returned (.int .i64 (sendCode N f t xs)) ∧ ∃ es', keys es' = sendK N f t xs (keys es) ∧ After w w' base pb N es' B
theorem send_grew {w w' : World} {base pb : Nat} {N : Int} {es : List Ent} {B : Nat → Prop} {rv : Value} {f t : Int} {xs : List UInt8} (h : PostB w base pb N es B) (hbase : base ≤ w.heap.size) (hr : ∀ g, rv.ownBlock = some g → B g) (hg : Grew w w' pb N rv es f t xs) :
    ∃ es', keys es' = keys es ++ [(f, t, xs)] ∧ After w w' base pb N es' B := by
  obtain ⟨⟨rv', dv', hp', hrv, hdv⟩, hfr⟩ := hg
  refine ⟨_, by simp only [keys, List.map_append, List.map_cons, List.map_nil]; rfl, h.next hbase hp' hfr (fun j _ hj => ?_) (fun g hg => ?_) (fun e he g hg => ?_)⟩
  · rcases hj with rfl | hj
    · exact h.pbB
    · exact hr j hj
  · rcases hrv with e | ⟨g0, e, hge⟩
    · rw [e] at hg; exact .inl (hr g hg)
    · rw [e] at hg; cases hg; exact .inr hge
  · rcases List.mem_append.1 he with he | he
    · exact .inl (h.data e he g hg)
    · rw [List.mem_singleton.1 he] at hg; exact .inr (hdv g hg)
theorem send_spec : SendSpec 9 := by
  intro base pb N es B f t dv xs w h hbase hv hn
  obtain ⟨rv, hp, hr⟩ := h.post
  by_cases hc : sendCode N f t xs = 0
  · obtain ⟨h1, h2, h3⟩ := sendCode_yes hc
    refine (send_yes pb N rv es f t dv xs w hp hv hn h3 h1 h2).mono ?_
    rintro e w' ⟨rfl, hg⟩
    unfold sendK
    rw [if_pos hc, hc]
    exact ⟨rfl, send_grew h hbase hr hg⟩
  · refine (send_no pb N f t dv xs w hp.c0 hv hc).mono ?_
    rintro e w' ⟨rfl, hb⟩
    unfold sendK
    rw [if_neg hc]
    exact ⟨rfl, es, rfl, h.same hbase hb⟩
theorem rsend_spec : SendSpec 14 := by
  intro base pb N es B f t dv xs w h hbase hv hn
  obtain ⟨rv, hp, hr⟩ := h.post
  by_cases hc : sendCode N f t xs = 0
  · obtain ⟨h1, h2, h3⟩ := sendCode_yes hc
    refine (rsend_yes pb N rv es f t dv xs w hp hv hn h3 h1 h2).mono ?_
    rintro e w' ⟨rfl, hg⟩
    unfold sendK
    rw [if_pos hc, hc]
    exact ⟨rfl, send_grew h hbase hr hg⟩
  · refine (rsend_no pb N f t dv xs w hp.c0 hv hc).mono ?_
    rintro e w' ⟨rfl, hb⟩
    unfold sendK
    rw [if_neg hc]
    exact ⟨rfl, es, rfl, h.same hbase hb⟩

/-! ### Twice -/
def inK (i : Int) (K : List Key) : Option Key := if i < 0 then none else K[i.toNat]?
theorem inK_none {i : Int} {es : List Ent} (h : i < 0 ∨ (es.length : Int) ≤ i) : inK i (keys es) = none := by
  unfold inK
  split
  · rfl
  · rw [List.getElem?_eq_none (by rw [keys_length]; omega)]
theorem inK_some {i : Nat} {es : List Ent} (h : i < es.length) : inK (i : Int) (keys es) = some es[i].key := by
  unfold inK
  rw [if_neg (by omega)]
  exact keys_get es i h
def twiceK (i : Int) (K : List Key) : Int × List Key := match inK i K with
  | none => (7, K)
  | some k => (0, K ++ [k])
def TwiceSpec (fn : Nat) : Prop := ∀ (base pb : Nat) (N : Int) (es : List Ent) (B : Nat → Prop) (i : Int) (w : World), PostB w base pb N es B → base ≤ w.heap.size → es.length ≤ 100000 →
  Calls Try.prog fn #[.pointer (some ⟨pb, 0, none⟩), .int .i64 i] w fun e w' => e = .returned (.int .i64 (twiceK i (keys es)).1) ∧ ∃ es', keys es' = (twiceK i (keys es)).2 ∧ After w w' base pb N es' B
theorem twice_of (fn : Nat) (hy : ∀ (pb : Nat) (N : Int) (rv : Value) (es : List Ent) (i : Nat) (w : World) (_ : Post w pb N rv es) (hi : i < es.length) (_ : es.length ≤ 100000), Calls Try.prog fn #[.pointer (some ⟨pb, 0, none⟩), .int .i64 i] w fun e w' => e = .returned (.int .i64 0) ∧ Grew w w' pb N rv es es[i].f es[i].t es[i].data)
    (hno : ∀ (pb n c : Nat) (a : Option Addr) (i : Int) (w : World), w.cell? ⟨pb, 1, none⟩ = some (.slice a n c) → (i < 0 ∨ (n : Int) ≤ i) → Calls Try.prog fn #[.pointer (some ⟨pb, 0, none⟩), .int .i64 i] w fun e w' => e = .returned (.int .i64 7) ∧ w' = w) : TwiceSpec fn := by
  intro base pb N es B i w h hbase hn
  obtain ⟨rv, hp, hr⟩ := h.post
  by_cases hi : i < 0 ∨ (es.length : Int) ≤ i
  · obtain ⟨ra, rc, rfl⟩ := hp.slice
    refine (hno pb es.length rc ra i w hp.c1 hi).mono ?_
    rintro e w' ⟨rfl, rfl⟩
    unfold twiceK
    rw [inK_none hi]
    exact ⟨rfl, es, rfl, h.same hbase (Below.refl _ _)⟩
  · obtain ⟨k, rfl⟩ : ∃ k : Nat, i = k := ⟨i.toNat, by omega⟩
    have hk : k < es.length := by omega
    refine (hy pb N rv es k w hp hk hn).mono ?_
    rintro e w' ⟨rfl, hg⟩
    unfold twiceK
    rw [inK_some hk]
    exact ⟨rfl, send_grew h hbase hr hg⟩
theorem twice_spec : TwiceSpec 10 := twice_of _ twice_yes twice_no
theorem rtwice_spec : TwiceSpec 16 := twice_of _ rtwice_yes rtwice_no

/-! ### Take -/
def takeK (i : Int) (K : List Key) : Int × Key × List Key := match inK i K with
  | none => (7, (0, 0, []), K)
  | some k => (0, k, K.eraseIdx i.toNat)
def TakeSpec (fn : Nat) : Prop := ∀ (base pb : Nat) (N : Int) (es : List Ent) (B : Nat → Prop) (i : Int) (w : World), PostB w base pb N es B → base ≤ w.heap.size → es.length ≤ 100000 →
  Calls Try.prog fn #[.pointer (some ⟨pb, 0, none⟩), .int .i64 i] w fun e w' => ∃ m : Ent, m.key = (takeK i (keys es)).2.1 ∧ e = .returned (.tuple #[.agg #[.int .i64 m.f, .int .i64 m.t, m.dv], .int .i64 (takeK i (keys es)).1]) ∧ Mine w' 0 m.dv m.data ∧ (∀ g, m.dv.ownBlock = some g → growB B w w' g) ∧
    ∃ es', keys es' = (takeK i (keys es)).2.2 ∧ After w w' base pb N es' B
theorem take_of (fn : Nat) (hy : ∀ (pb : Nat) (N : Int) (rv : Value) (es : List Ent) (i : Nat) (w : World) (_ : Post w pb N rv es) (hi : i < es.length) (_ : es.length ≤ 100000), Calls Try.prog fn #[.pointer (some ⟨pb, 0, none⟩), .int .i64 i] w fun e w' => e = .returned (.tuple #[.agg #[.int .i64 es[i].f, .int .i64 es[i].t, es[i].dv], .int .i64 0]) ∧
      ∃ rv', Post w' pb N rv' (es.eraseIdx i) ∧ (∀ g, rv'.ownBlock = some g → w.heap.size ≤ g) ∧ Mine w' (pb + 1) es[i].dv es[i].data ∧ Only (fun j => j = pb) w w')
    (hno : ∀ (pb n c : Nat) (a : Option Addr) (i : Int) (w : World), w.cell? ⟨pb, 1, none⟩ = some (.slice a n c) → (i < 0 ∨ (n : Int) ≤ i) → Calls Try.prog fn #[.pointer (some ⟨pb, 0, none⟩), .int .i64 i] w fun e w' => e = .returned (.tuple #[.agg #[.int .i64 0, .int .i64 0, .slice none 0 0], .int .i64 7]) ∧ Below w.heap.size w w') : TakeSpec fn := by
  intro base pb N es B i w h hbase hn
  obtain ⟨rv, hp, hr⟩ := h.post
  by_cases hi : i < 0 ∨ (es.length : Int) ≤ i
  · obtain ⟨ra, rc, rfl⟩ := hp.slice
    refine (hno pb es.length rc ra i w hp.c1 hi).mono ?_
    rintro e w' ⟨rfl, hb⟩
    unfold takeK
    rw [inK_none hi]
    exact ⟨⟨0, 0, .slice none 0 0, []⟩, rfl, rfl, Mine.nil _ _, fun g hg => by simp [Value.ownBlock] at hg, es, rfl, h.same hbase hb⟩
  · obtain ⟨k, rfl⟩ : ∃ k : Nat, i = k := ⟨i.toNat, by omega⟩
    have hk : k < es.length := by omega
    refine (hy pb N rv es k w hp hk hn).mono ?_
    rintro e w' ⟨rfl, rv', hp', hrv', hm, hon⟩
    unfold takeK
    rw [inK_some hk]
    refine ⟨es[k], rfl, rfl, hm.mono (Nat.zero_le _), fun g hg => .inl (h.data _ (List.getElem_mem _) g hg), es.eraseIdx k, ?_, h.next hbase hp' hon (fun j _ hj => by subst hj; exact h.pbB) (fun g hg => .inr (hrv' g hg)) (fun e he g hg => .inl (h.data e (List.mem_of_mem_eraseIdx he) g hg))⟩
    simp only [keys, Int.toNat_natCast]
    rw [List.eraseIdx_eq_take_drop_succ, List.eraseIdx_eq_take_drop_succ, List.map_append, List.map_take, List.map_drop]
theorem take_spec : TakeSpec 11 := take_of _ take_yes take_no
theorem rtake_spec : TakeSpec 15 := take_of _ rtake_yes rtake_no

/-! ### Spoil -/
def spoilK (i a tu : Int) (K : List Key) : Int × List Key := match inK i K with
  | none => (7, K)
  | some k => if a < 0 ∨ (k.2.2.length : Int) ≤ a then (8, K) else (0, K.set i.toNat (k.1, k.2.1, k.2.2.set a.toNat (turnB (k.2.2.getD a.toNat 0) tu)))
def SpoilSpec (fn : Nat) : Prop := ∀ (base pb : Nat) (N : Int) (es : List Ent) (B : Nat → Prop) (i a tu : Int) (w : World), PostB w base pb N es B → base ≤ w.heap.size → 0 ≤ tu ∧ tu < 256 →
  Calls Try.prog fn #[.pointer (some ⟨pb, 0, none⟩), .int .i64 i, .int .i64 a, .int .u8 tu] w fun e w' => e = .returned (.int .i64 (spoilK i a tu (keys es)).1) ∧ ∃ es', keys es' = (spoilK i a tu (keys es)).2 ∧ After w w' base pb N es' B
theorem spoil_of (fn : Nat) (hy : ∀ (pb : Nat) (N : Int) (rv : Value) (es : List Ent) (i at_ : Nat) (tu : Int) (w : World) (_ : Post w pb N rv es) (hi : i < es.length) (_ : at_ < es[i].data.length) (_ : 0 ≤ tu ∧ tu < 256),
      Calls Try.prog fn #[.pointer (some ⟨pb, 0, none⟩), .int .i64 i, .int .i64 at_, .int .u8 tu] w fun e w' => e = .returned (.int .i64 0) ∧ ∃ dv', Post w' pb N rv (es.set i (es[i].turned at_ tu dv')) ∧ (∀ k, dv'.ownBlock = some k → w.heap.size ≤ k) ∧ Only (fun j => rv.ownBlock = some j) w w')
    (hrange : ∀ (pb : Nat) (N : Int) (rv : Value) (es : List Ent) (i : Nat) (at_ t : Int) (w : World) (_ : Post w pb N rv es) (hi : i < es.length) (_ : at_ < 0 ∨ (es[i].data.length : Int) ≤ at_),
      Calls Try.prog fn #[.pointer (some ⟨pb, 0, none⟩), .int .i64 i, .int .i64 at_, .int .u8 t] w fun e w' => e = .returned (.int .i64 8) ∧ w' = w)
    (hno : ∀ (pb n c : Nat) (a : Option Addr) (i at_ t : Int) (w : World), w.cell? ⟨pb, 1, none⟩ = some (.slice a n c) → (i < 0 ∨ (n : Int) ≤ i) → Calls Try.prog fn #[.pointer (some ⟨pb, 0, none⟩), .int .i64 i, .int .i64 at_, .int .u8 t] w fun e w' => e = .returned (.int .i64 7) ∧ w' = w) : SpoilSpec fn := by
  intro base pb N es B i a tu w h hbase htu
  obtain ⟨rv, hp, hr⟩ := h.post
  by_cases hi : i < 0 ∨ (es.length : Int) ≤ i
  · obtain ⟨ra, rc, rfl⟩ := hp.slice
    refine (hno pb es.length rc ra i a tu w hp.c1 hi).mono ?_
    rintro e w' ⟨rfl, rfl⟩
    unfold spoilK
    rw [inK_none hi]
    exact ⟨rfl, es, rfl, h.same hbase (Below.refl _ _)⟩
  · obtain ⟨k, rfl⟩ : ∃ k : Nat, i = k := ⟨i.toNat, by omega⟩
    have hk : k < es.length := by omega
    by_cases ha : a < 0 ∨ (es[k].data.length : Int) ≤ a
    · refine (hrange pb N rv es k a tu w hp hk ha).mono ?_
      rintro e w' ⟨rfl, rfl⟩
      unfold spoilK
      rw [inK_some hk]
      simp only
      rw [if_pos (show a < 0 ∨ (es[k].key.2.2.length : Int) ≤ a from ha)]
      exact ⟨rfl, es, rfl, h.same hbase (Below.refl _ _)⟩
    · obtain ⟨q, rfl⟩ : ∃ q : Nat, a = q := ⟨a.toNat, by omega⟩
      refine (hy pb N rv es k q tu w hp hk (by omega) htu).mono ?_
      rintro e w' ⟨rfl, dv', hp', hdv, hon⟩
      unfold spoilK
      rw [inK_some hk]
      simp only
      rw [if_neg (show ¬ ((q : Int) < 0 ∨ (es[k].key.2.2.length : Int) ≤ q) from ha)]
      refine ⟨rfl, _, ?_, h.next hbase hp' hon (fun j _ hj => hr j hj) (fun g hg => .inl (hr g hg)) (fun e he g hg => ?_)⟩
      · simp only [keys, List.map_set, Int.toNat_natCast]
        rfl
      · rcases List.mem_or_eq_of_mem_set he with he | rfl
        · exact .inl (h.data e he g hg)
        · exact .inr (hdv g hg)
theorem spoil_spec : SpoilSpec 17 := spoil_of _ spoil_yes spoil_range spoil_none
theorem rspoil_spec : SpoilSpec 18 := spoil_of _ rspoil_yes rspoil_range rspoil_none

/-! ### Lose -/
def loseK (n : Int) (K : List Key) : List Key := K.filter fun k => !(k.1 == n || k.2.1 == n)
def LoseSpec (fn : Nat) : Prop := ∀ (base pb : Nat) (N : Int) (es : List Ent) (B : Nat → Prop) (n : Int) (w : World), PostB w base pb N es B → base ≤ w.heap.size → es.length ≤ 100000 →
  Calls Try.prog fn #[.pointer (some ⟨pb, 0, none⟩), .int .i64 n] w fun e w' => e = .returned (.int .i64 (((keys es).length : Int) - ((loseK n (keys es)).length : Int))) ∧ ∃ es', keys es' = loseK n (keys es) ∧ After w w' base pb N es' B
theorem loseK_keys (n : Int) (es : List Ent) : loseK n (keys es) = keys (es.filter (stays n)) := by
  unfold loseK keys
  rw [List.filter_map]
  rfl
theorem lose_of (fn : Nat) (hy : ∀ (pb : Nat) (N : Int) (rv : Value) (es : List Ent) (n : Int) (w : World), Post w pb N rv es → es.length ≤ 100000 →
      Calls Try.prog fn #[.pointer (some ⟨pb, 0, none⟩), .int .i64 n] w fun e w' => e = .returned (.int .i64 ((es.length : Int) - ((es.filter (stays n)).length : Int))) ∧
        ∃ rv', Post w' pb N rv' (es.filter (stays n)) ∧ (∀ g, rv'.ownBlock = some g → w.heap.size ≤ g) ∧ Only (fun j => j = pb) w w') : LoseSpec fn := by
  intro base pb N es B n w h hbase hn
  obtain ⟨rv, hp, hr⟩ := h.post
  refine (hy pb N rv es n w hp hn).mono ?_
  rintro e w' ⟨rfl, rv', hp', hrv', hon⟩
  rw [loseK_keys, keys_length, keys_length]
  exact ⟨rfl, _, rfl, h.next hbase hp' hon (fun j _ hj => by subst hj; exact h.pbB) (fun g hg => .inr (hrv' g hg)) (fun e he g hg => .inl (h.data e (List.mem_filter.1 he).1 g hg))⟩
theorem lose_spec : LoseSpec 19 := lose_of _ lose_calls
theorem rlose_spec : LoseSpec 20 := lose_of _ rlose_calls
end Go.Proofs.Ytpmkepmnldkccaa
