/- Layer 5: the post; New, Len, Send, Twice, Take walked. -/
import Derived.Test.YtpmkepmnldkccaaMail01
namespace Go.Proofs.Ytpmkepmnldkccaa
open Go.RowKit

/-- A post in memory: block pb holds the number of nodes and the row. -/
structure Post (w : World) (pb : Nat) (N : Int) (rv : Value) (es : List Ent) : Prop where
  c0 : w.cell? ⟨pb, 0, none⟩ = some (.int .i64 N)
  c1 : w.cell? ⟨pb, 1, none⟩ = some rv
  fz : w.frozen? ⟨pb, 1, none⟩ = false
  own : w.ownsRow (pb + 1) 32 3 rv es.length (flat es)
  data : ∀ e ∈ es, Mine w (pb + 1) e.dv e.data
  small : ∀ e ∈ es, e.data.length ≤ 65536

theorem Post.lt {w : World} {pb : Nat} {N : Int} {rv : Value} {es : List Ent} (h : Post w pb N rv es) : pb < w.heap.size := World.block_lt_of_cell? w _ h.c0
theorem Post.only {S : Nat → Prop} {w w' : World} {pb : Nat} {N : Int} {rv : Value} {es : List Ent} (h : Post w pb N rv es) (ho : Only S w w') (h1 : ¬ S pb) (h2 : ∀ g, rv.ownBlock = some g → ¬ S g) (h3 : ∀ e ∈ es, ∀ g, e.dv.ownBlock = some g → ¬ S g) : Post w' pb N rv es :=
  ⟨ho.cell h1 h.c0, ho.cell h1 h.c1, (ho.frozen h.lt h1).trans h.fz, ownsRow_only h.own ho h2, fun e he => ownsRow_only (h.data e he) ho (h3 e he), h.small⟩
theorem Post.below {w w' : World} {pb : Nat} {N : Int} {rv : Value} {es : List Ent} (h : Post w pb N rv es) (hb : Below w.heap.size w w') : Post w' pb N rv es :=
  h.only (Only.of_below (S := fun _ => False) hb) (fun h => h) (fun _ _ h => h) (fun _ _ _ _ h => h)
theorem Post.drew {w : World} {pb : Nat} {N : Int} {rv : Value} {es : List Ent} (h : Post w pb N rv es) : Post w.drew pb N rv es := ⟨h.c0, h.c1, h.fz, h.own, h.data, h.small⟩
theorem Post.reads {w : World} {pb : Nat} {N : Int} {rv : Value} {es : List Ent} (h : Post w pb N rv es) : Reads w es := fun e he => (h.data e he).bytes
theorem Post.slice {w : World} {pb : Nat} {N : Int} {rv : Value} {es : List Ent} (h : Post w pb N rv es) : ∃ a c, rv = .slice a es.length c := own_slice h.own
/-- A row's elements in their cells. -/
theorem own_at {w : World} {base : Nat} {rv : Value} {es : List Ent} (h : w.ownsRow base 32 3 rv es.length (flat es)) (i : Nat) (hi : i < es.length) :
    ∃ g c, rv = .slice (some ⟨g, 0, none⟩) es.length c ∧ w.cell? ⟨g, i * 3, none⟩ = some (.int .i64 es[i].f) ∧ w.cell? ⟨g, i * 3 + 1, none⟩ = some (.int .i64 es[i].t) ∧ w.cell? ⟨g, i * 3 + 2, none⟩ = some es[i].dv := by
  obtain ⟨x, y, z⟩ := flat_get es i hi
  rcases h.2 with ⟨-, h0⟩ | ⟨g, cap, cur, rfl, hb, hg, hn, hm, -⟩
  · omega
  · refine ⟨g, cap, rfl, ?_, ?_, ?_⟩
    · have := World.ownsRow.cells h rfl _ _ x
      rwa [add_off, Nat.zero_add] at this
    · have := World.ownsRow.cells h rfl _ _ y
      rwa [add_off, Nat.zero_add] at this
    · have := World.ownsRow.cells h rfl _ _ z
      rwa [add_off, Nat.zero_add] at this

/-- A row that has grown is stored. -/
theorem Post.push {w w' : World} {pb : Nat} {N : Int} {rv : Value} {es : List Ent} (h : Post w pb N rv es) (e : Ent) (hd : Mine w (pb + 1) e.dv e.data) (hs : e.data.length ≤ 65536) {g cap : Nat}
    (ho : w'.ownsRow (pb + 1) 32 3 (.slice (some ⟨g, 0, none⟩) (es.length + 1) cap) (es.length + 1) (flat es ++ [.int .i64 e.f, .int .i64 e.t, e.dv])) (hg : w.grownBy w' rv.ownBlock) :
    Post (w'.setCell ⟨pb, 1, none⟩ (.slice (some ⟨g, 0, none⟩) (es.length + 1) cap)) pb N (.slice (some ⟨g, 0, none⟩) (es.length + 1) cap) (es ++ [e]) := by
  have hne : some pb ≠ rv.ownBlock := fun e => by have := (World.ownsRow.lt h.own pb e.symm).1; omega
  have c0 := hg.cell h.c0 hne
  have c1 := hg.cell h.c1 hne
  have fz : w'.frozen? ⟨pb, 1, none⟩ = false := (World.frozen?_of_block (a := ⟨pb, 1, none⟩) (hg.block pb h.lt hne)).trans h.fz
  have hdat : ∀ x ∈ es ++ [e], Mine w' (pb + 1) x.dv x.data := by
    intro x hx
    have hx1 : Mine w (pb + 1) x.dv x.data := by
      rcases List.mem_append.1 hx with hx | hx
      · exact h.data x hx
      · simp at hx; subst hx; exact hd
    exact own_otherT h.own hx1 (by decide) hg
  refine ⟨?_, ?_, ?_, ?_, fun x hx => (hdat x hx).set _ _ (by simp), ?_⟩
  · rw [cell_set_off _ (by omega), c0]
  · rw [cell_set_same _ c1]
  · rw [frozen_set, fz]
  · rw [flat_append, flat_one, List.length_append]
    exact ownsRow_set ho _ _ (by simp)
  · intro x hx
    rcases List.mem_append.1 hx with hx | hx
    · exact h.small x hx
    · simp at hx; subst hx; exact hs

theorem new_calls (N : Int) (w : World) (h1 : 1 ≤ N) (h2 : N ≤ 64) :
    Calls Try.prog 8 #[.int .i64 N] w fun e w' => e = .returned (.tuple #[.pointer (some ⟨w.heap.size, 0, none⟩), .int .i64 0]) ∧ Post w' w.heap.size N (.slice none 0 0) [] ∧ Below w.heap.size w w' := by
  have g1 : ¬ N < 1 := by omega
  have g2 : ¬ 64 < N := by omega
  go_enter Try.func8, Try.ntmps8
  go_wp2
  go_ret2
  refine ⟨rfl, ⟨?_, ?_, ?_, World.ownsRow_nil _ _ _ _, fun e he => by simp at he, fun e he => by simp at he⟩, (Below.refl _ _).alloc (Nat.le_refl _) _⟩
  · rw [World.cell?_alloc_at _ _ _ _ rfl]; rfl
  · rw [World.cell?_alloc_at _ _ _ _ rfl]; rfl
  · rw [World.frozen?_alloc_at _ _ _ _ rfl]
theorem new_no (N : Int) (w : World) (h : N < 1 ∨ 64 < N) :
    Calls Try.prog 8 #[.int .i64 N] w fun e w' => e = .returned (.tuple #[.pointer none, .int .i64 1]) ∧ w' = w := by
  rcases h with h | h
  · go_enter Try.func8, Try.ntmps8
    go_wp2
    go_ret2
    exact ⟨rfl, rfl⟩
  · have g1 : ¬ N < 1 := by omega
    go_enter Try.func8, Try.ntmps8
    go_wp2
    go_ret2
    exact ⟨rfl, rfl⟩

theorem len_calls (pb n c : Nat) (a : Option Addr) (w : World) (hc : w.cell? ⟨pb, 1, none⟩ = some (.slice a n c)) :
    Calls Try.prog 13 #[.pointer (some ⟨pb, 0, none⟩)] w fun e w' => e = .returned (.int .i64 n) ∧ w' = w := by
  go_enter Try.func13, Try.ntmps13
  go_wp2
  go_ret
  exact ⟨rfl, rfl⟩

theorem there_yes (pb n c : Nat) (a : Option Addr) (i : Nat) (w : World) (hc : w.cell? ⟨pb, 1, none⟩ = some (.slice a n c)) (hi : i < n) :
    Calls Try.prog 28 #[.pointer (some ⟨pb, 0, none⟩), .int .i64 i] w fun e w' => e = .returned (.int .i64 0) ∧ w' = w := by
  have g1 : ¬ (i : Int) < 0 := by omega
  have g2 : ¬ (n : Int) ≤ i := by omega
  go_enter Try.func28, Try.ntmps28
  go_wp2
  go_ret
  exact ⟨rfl, rfl⟩
theorem there_no (pb n c : Nat) (a : Option Addr) (i : Int) (w : World) (hc : w.cell? ⟨pb, 1, none⟩ = some (.slice a n c)) (hi : i < 0 ∨ (n : Int) ≤ i) :
    Calls Try.prog 28 #[.pointer (some ⟨pb, 0, none⟩), .int .i64 i] w fun e w' => e = .returned (.int .i64 7) ∧ w' = w := by
  rcases hi with h | h
  · go_enter Try.func28, Try.ntmps28
    go_wp2
    go_ret
    exact ⟨rfl, rfl⟩
  · have g1 : ¬ i < 0 := by omega
    go_enter Try.func28, Try.ntmps28
    go_wp2
    go_ret
    exact ⟨rfl, rfl⟩
end Go.Proofs.Ytpmkepmnldkccaa
