/- Layer 5: MailScripts walked. -/
import Derived.Test.YtpmkepmnldkccaaMail22
import Derived.Test.YtpmkepmnldkccaaFlat
namespace Go.Proofs.Ytpmkepmnldkccaa
open Go.RowKit Go.Shelf

/-! ### Two posts side by side -/
structure Two (w : World) (base pb mb : Nat) (N : Int) (K K' : List Key) (es es' : List Ent) (B B' : Nat → Prop) : Prop where
  p : PostB w base pb N es B
  m : PostB w base mb N es' B'
  dis : ∀ j, B j → ¬ B' j
  kp : keys es = K
  km : keys es' = K'
  bs : base ≤ w.heap.size
variable {w w1 : World} {base pb mb : Nat} {N : Int} {K K' K1 : List Key} {es es' es1 : List Ent} {B B' : Nat → Prop}
theorem Two.below (h : Two w base pb mb N K K' es es' B B') (hb : Below w.heap.size w w1) : Two w1 base pb mb N K K' es es' B B' := ⟨h.p.below hb, h.m.below hb, h.dis, h.kp, h.km, Nat.le_trans h.bs hb.size⟩
theorem Two.pstep (h : Two w base pb mb N K K' es es' B B') (ha : After w w1 base pb N es1 B) (hk : keys es1 = K1) : Two w1 base pb mb N K1 K' es1 es' (growB B w w1) B' := by
  refine ⟨ha.post, h.m.only ha.only (fun j hj hb => h.dis j hb hj), fun j hj hj' => ?_, hk, h.km, Nat.le_trans h.bs ha.only.size⟩
  rcases hj with hj | ⟨h1, -⟩
  · exact h.dis j hj hj'
  · have := (h.m.lt j hj').2; omega
theorem Two.mstep (h : Two w base pb mb N K K' es es' B B') (ha : After w w1 base mb N es1 B') (hk : keys es1 = K1) : Two w1 base pb mb N K K1 es es1 B (growB B' w w1) := by
  refine ⟨h.p.only ha.only (fun j hj hb => h.dis j hj hb), ha.post, fun j hj hj' => ?_, h.kp, hk, Nat.le_trans h.bs ha.only.size⟩
  rcases hj' with hj' | ⟨h1, -⟩
  · exact h.dis j hj hj'
  · have := (h.p.lt j hj).2; omega
theorem Two.plen (h : Two w base pb mb N K K' es es' B B') : es.length = K.length := by rw [← h.kp, keys_length]
theorem Two.mlen (h : Two w base pb mb N K K' es es' B B') : es'.length = K'.length := by rw [← h.km, keys_length]
theorem After.below (h : PostB w base pb N es B) (ha : After w w1 base pb N es1 B) : Below base w w1 := ha.only.below (by have := (h.lt pb h.pbB); omega) (fun j hj hb => by have := (h.lt j hb).1; omega)
theorem After.cell (ha : After w w1 base pb N es1 B) {b o : Nat} {v : Value} (hb : ¬ B b) (hc : w.cell? ⟨b, o, none⟩ = some v) : w1.cell? ⟨b, o, none⟩ = some v := ha.only.cell hb hc

/-- A step of a script. -/
structure Stp where
  k : Int
  i : Int
  a : Int
  tu : Int
  f : Int
  t : Int
  dv : Value
  data : List UInt8
def Stp.cells (s : Stp) : List Value := [.int .i64 s.k, .int .i64 s.i, .int .i64 s.a, .int .u8 s.tu, .int .i64 s.f, .int .i64 s.t, s.dv]
theorem stp7 (s : Stp) : s.cells.length = 7 := rfl
structure StpOk (w : World) (s : Stp) : Prop where
  data : Bytes w s.dv s.data
  tu : 0 ≤ s.tu ∧ s.tu < 256
def Stps (w : World) (v : Value) (ss : List Stp) : Prop := Rd w 7 v ss.length (flatF Stp.cells ss)

theorem stp_at {w : World} {a : Option Addr} {n cap : Nat} {ss : List Stp} (h : Stps w (.slice a n cap) ss) (i : Nat) (hi : i < ss.length) :
    ∃ b o, a = some ⟨b, o, none⟩ ∧ w.cell? ⟨b, o + i * 7, none⟩ = some (.int .i64 ss[i].k) ∧ w.cell? ⟨b, o + i * 7 + 1, none⟩ = some (.int .i64 ss[i].i) ∧ w.cell? ⟨b, o + i * 7 + 2, none⟩ = some (.int .i64 ss[i].a) ∧ w.cell? ⟨b, o + i * 7 + 3, none⟩ = some (.int .u8 ss[i].tu) ∧
      w.cell? ⟨b, o + i * 7 + 4, none⟩ = some (.int .i64 ss[i].f) ∧ w.cell? ⟨b, o + i * 7 + 5, none⟩ = some (.int .i64 ss[i].t) ∧ w.cell? ⟨b, o + i * 7 + 6, none⟩ = some ss[i].dv := by
  obtain ⟨b, o, rfl, hc⟩ := rdF_at (k := 7) stp7 h i hi
  exact ⟨b, o, rfl, hc 0 _ (by omega) rfl, hc 1 _ (by omega) rfl, hc 2 _ (by omega) rfl, hc 3 _ (by omega) rfl, hc 4 _ (by omega) rfl, hc 5 _ (by omega) rfl, hc 6 _ (by omega) rfl⟩

theorem sendK_len (N f t : Int) (xs : List UInt8) (K : List Key) : (sendK N f t xs K).length ≤ K.length + 1 := by
  unfold sendK; split
  · simp
  · omega
theorem twiceK_len (i : Int) (K : List Key) : (twiceK i K).2.length ≤ K.length + 1 := by
  unfold twiceK; split
  · simp
  · simp
theorem takeK_len (i : Int) (K : List Key) : (takeK i K).2.2.length ≤ K.length + 1 := by
  unfold takeK; split
  · simp
  · have := List.length_eraseIdx_le K i.toNat
    simp only; omega
theorem spoilK_len (i a tu : Int) (K : List Key) : (spoilK i a tu K).2.length ≤ K.length + 1 := by
  unfold spoilK; split
  · simp
  · split
    · simp
    · simp
theorem loseK_len (n : Int) (K : List Key) : (loseK n K).length ≤ K.length + 1 := by
  unfold loseK
  have := List.length_filter_le (fun k : Key => !(k.1 == n || k.2.1 == n)) K
  omega
end Go.Proofs.Ytpmkepmnldkccaa
