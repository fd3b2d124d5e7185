/- Walks and plain laws of the chapter, laid together; each part says what it proves. -/
import Derived.Deep.MidRow
import Derived.Test.YthgmligpconhhaaGreatDoorPkA
import Derived.Test.YthgmligpconhhaaGreatDoorPkC
import Derived.Test.YthgmligpconhhaaGreatDoorPkD
import Derived.Test.YthgmligpconhhaaGreatDoorPkK
/- Layer 24: the sink as it lies in memory, its lines, what they do; no call walked. -/
namespace Go.Proofs.YthgmligpconhhaaGreatDoor
open Go.RowKit Go.Shelf
set_option linter.unusedVariables false
set_option linter.unusedSimpArgs false
set_option maxRecDepth 100000

/-! ### Pairs -/
structure Pr where
  key : ByteArray
  val : Int
instance : Inhabited Pr := ⟨⟨⟨#[]⟩, 0⟩⟩
def Pr.cells (p : Pr) : List Value := [.string p.key, .int .u32 p.val]
theorem pr2 (p : Pr) : p.cells.length = 2 := rfl
def U32 (n : Int) : Prop := 0 ≤ n ∧ n < 4294967296
theorem tyPairs : STy Tryz.prog 23 39 (.agg #[.string nos, .int .u32 0]) 2 24 := .of Tryz.underlying23 (by kernel_rfl) rfl (by omega)
theorem tyPairsL : STy Tryz.prog 46 23 (.slice none 0 0) 1 24 := .of Tryz.underlying46 (by kernel_rfl) rfl (by omega)
theorem pr_one (l : List Pr) : ∀ u ∈ flatF Pr.cells l, u.oneCell' = true := by
  intro u hu
  obtain ⟨p, hp, hu⟩ := List.mem_flatMap.1 hu
  simp only [Pr.cells, List.mem_cons, List.not_mem_nil, or_false] at hu
  rcases hu with rfl | rfl <;> rfl
/-- A row of pairs of one's own. -/
def PRow (w : World) (B : Nat) (v : Value) (l : List Pr) : Prop := w.ownsRow B 39 2 v l.length (flatF Pr.cells l)
theorem PRow.nil (w : World) (B : Nat) : PRow w B (.slice none 0 0) [] := World.ownsRow_nil _ _ _ _
theorem PRow.only {S : Nat → Prop} {w w' : World} {B : Nat} {v : Value} {l : List Pr} (h : PRow w B v l) (ho : Only S w w') (hS : ∀ g, v.ownBlock = some g → ¬ S g) : PRow w' B v l := ownsRow_only h ho hS
theorem PRow.ty {w : World} {B : Nat} {v : Value} {l : List Pr} (h : PRow w B v l) {g : Nat} (hg : v.ownBlock = some g) : TyAt w g 39 := own_ty h hg
theorem PRow.lt {w : World} {B : Nat} {v : Value} {l : List Pr} (h : PRow w B v l) {g : Nat} (hg : v.ownBlock = some g) : B ≤ g ∧ g < w.heap.size := World.ownsRow.lt h g hg
theorem PRow.mono {w : World} {B B' : Nat} {v : Value} {l : List Pr} (h : PRow w B v l) (hb : B' ≤ B) : PRow w B' v l := ownsRow_mono h hb

/-! ### The sink -/
structure Sk where
  l : Nat
  broken : Bool
  gen : Int
  ev : Value
  eps : List (Value × List Pr)
  gv : Value
  gath : List Pr
  pv : Value
  pairs : List Pr
  prep : Bool
def Sk.cells (S : Sk) : List Value := [.pointer (some ⟨S.l, 0, none⟩), .bool S.broken, .int .i64 S.gen, S.ev, S.gv, S.pv, .bool S.prep]
structure SkAt (w : World) (B s : Nat) (S : Sk) : Prop where
  box : w.ownsRow B 59 7 (.slice (some ⟨s, 0, none⟩) 1 1) 1 S.cells
  erow : w.ownsRow B 23 1 S.ev S.eps.length (S.eps.map Prod.fst)
  eps : ∀ x ∈ S.eps, PRow w B x.1 x.2
  grow : PRow w B S.gv S.gath
  prow : PRow w B S.pv S.pairs
  gap : ∀ g, S.gv.ownBlock = some g → S.pv.ownBlock ≠ some g ∧ ∀ x ∈ S.eps, x.1.ownBlock ≠ some g
def Sk.foot (s : Nat) (S : Sk) (j : Nat) : Prop := j = s ∨ S.ev.ownBlock = some j ∨ S.gv.ownBlock = some j ∨ S.pv.ownBlock = some j ∨ ∃ x ∈ S.eps, x.1.ownBlock = some j
def SkTy (e : TypeId) : Prop := e = 59 ∨ e = 23 ∨ e = 39
theorem SkAt.foot_ty {w : World} {B s : Nat} {S : Sk} (h : SkAt w B s S) {j : Nat} (hj : S.foot s j) : ∃ e, SkTy e ∧ TyAt w j e := by
  rcases hj with rfl | hj | hj | hj | ⟨x, hx, hj⟩
  · exact ⟨_, .inl rfl, own_ty h.box rfl⟩
  · exact ⟨_, .inr (.inl rfl), own_ty h.erow hj⟩
  · exact ⟨_, .inr (.inr rfl), h.grow.ty hj⟩
  · exact ⟨_, .inr (.inr rfl), h.prow.ty hj⟩
  · exact ⟨_, .inr (.inr rfl), (h.eps x hx).ty hj⟩
theorem SkAt.foot_lt {w : World} {B s : Nat} {S : Sk} (h : SkAt w B s S) {j : Nat} (hj : S.foot s j) : B ≤ j ∧ j < w.heap.size := by
  rcases hj with rfl | hj | hj | hj | ⟨x, hx, hj⟩
  · exact World.ownsRow.lt h.box _ rfl
  · exact World.ownsRow.lt h.erow _ hj
  · exact h.grow.lt hj
  · exact h.prow.lt hj
  · exact (h.eps x hx).lt hj
theorem SkAt.only {T : Nat → Prop} {w w' : World} {B s : Nat} {S : Sk} (h : SkAt w B s S) (ho : Only T w w') (hT : ∀ j, T j → ¬ S.foot s j) : SkAt w' B s S :=
  ⟨ownsRow_only h.box ho (fun g hg e => hT g e (.inl (by simp only [Value.ownBlock, Option.some.injEq] at hg; exact hg.symm))), ownsRow_only h.erow ho (fun g hg e => hT g e (.inr (.inl hg))),
   fun x hx => (h.eps x hx).only ho (fun g hg e => hT g e (.inr (.inr (.inr (.inr ⟨x, hx, hg⟩))))), h.grow.only ho (fun g hg e => hT g e (.inr (.inr (.inl hg)))), h.prow.only ho (fun g hg e => hT g e (.inr (.inr (.inr (.inl hg))))), h.gap⟩
theorem SkAt.below {w w' : World} {B s : Nat} {S : Sk} (h : SkAt w B s S) (hb : Below w.heap.size w w') : SkAt w' B s S :=
  h.only (Only.of_below (S := fun j => w.heap.size ≤ j) hb) (fun j hj hf => by have := (h.foot_lt hf).2; omega)
theorem SkAt.at {w : World} {B s : Nat} {S : Sk} (h : SkAt w B s S) : w.cell? ⟨s, 0, none⟩ = some (.pointer (some ⟨S.l, 0, none⟩)) ∧ w.cell? ⟨s, 1, none⟩ = some (.bool S.broken) ∧ w.cell? ⟨s, 2, none⟩ = some (.int .i64 S.gen) ∧ w.cell? ⟨s, 3, none⟩ = some S.ev ∧ w.cell? ⟨s, 4, none⟩ = some S.gv ∧ w.cell? ⟨s, 5, none⟩ = some S.pv ∧ w.cell? ⟨s, 6, none⟩ = some (.bool S.prep) := by
  have e := fun j u hj => World.ownsRow.cells h.box (g := s) rfl j u hj
  simp only [add_off, Nat.zero_add] at e
  exact ⟨e 0 _ rfl, e 1 _ rfl, e 2 _ rfl, e 3 _ rfl, e 4 _ rfl, e 5 _ rfl, e 6 _ rfl⟩
theorem SkAt.frz {w : World} {B s : Nat} {S : Sk} (h : SkAt w B s S) (j : Nat) : w.frozen? ⟨s, j, none⟩ = false := World.ownsRow.frozenAt h.box j
/-- The box is laid anew; the rows were there. -/
theorem SkAt.boxed {w w' : World} {B s : Nat} {S : Sk} (h : SkAt w B s S) (ho : Only (fun j => j = s) w w') {S' : Sk} (hb : w'.ownsRow B 59 7 (.slice (some ⟨s, 0, none⟩) 1 1) 1 S'.cells)
    (h1 : w.ownsRow B 23 1 S'.ev S'.eps.length (S'.eps.map Prod.fst)) (h2 : ∀ x ∈ S'.eps, PRow w B x.1 x.2) (h3 : PRow w B S'.gv S'.gath) (h4 : PRow w B S'.pv S'.pairs)
    (h5 : ∀ g, S'.gv.ownBlock = some g → S'.pv.ownBlock ≠ some g ∧ ∀ x ∈ S'.eps, x.1.ownBlock ≠ some g) : SkAt w' B s S' := by
  have ht : TyAt w s 59 := own_ty h.box rfl
  have hP : ∀ {v : Value} {l : List Pr}, PRow w B v l → ∀ g, v.ownBlock = some g → ¬ g = s := fun hr g hg e => by subst e; exact absurd ((hr.ty hg).eq ht) (by decide)
  exact ⟨hb, ownsRow_only h1 ho (fun g hg e => by subst e; exact absurd ((own_ty h1 hg).eq ht) (by decide)), fun x hx => (h2 x hx).only ho (hP (h2 x hx)), h3.only ho (hP h3), h4.only ho (hP h4), h5⟩

/-! ### The sink and its log -/
theorem DiskAt.foot_not {w : World} {B d : Nat} {D : Dk} (h : DiskAt w B d D) {j : Nat} (hj : D.foot d j) {e : TypeId} (h1 : 54 ≠ e) (h2 : 79 ≠ e) : ¬ TyAt w j e := by
  intro ht
  rcases hj with rfl | rfl | rfl | hj
  · exact h1 ((own_ty h.box rfl).eq ht)
  · exact h.nowM.notTy ht
  · exact h.durM.notTy ht
  · exact h2 ((own_ty h.row hj).eq ht)
def LogNot (e : TypeId) : Prop := 54 ≠ e ∧ 79 ≠ e ∧ ¬ LogTy e
theorem LD.foot_not {w : World} {B l : Nat} {L : Lg} {D : Dk} (h : LD w B l L D) {j : Nat} (hj : ldFoot l L D j) {e : TypeId} (he : LogNot e) : ¬ TyAt w j e := by
  rcases hj with hf | hf
  · intro ht
    obtain ⟨e', he', ht'⟩ := h.log.foot_ty hf
    exact he.2.2 (by rw [← ht'.eq ht]; exact he')
  · exact h.disk.foot_not hf he.1 he.2.1
theorem skTy_not {e : TypeId} (h : SkTy e) : LogNot e := by
  rcases h with rfl | rfl | rfl <;> exact ⟨by decide, by decide, fun h => by rcases h with h | h | h | h <;> exact absurd h (by decide)⟩
theorem item_not : LogNot 70 := ⟨by decide, by decide, fun h => by rcases h with h | h | h | h <;> exact absurd h (by decide)⟩
structure SD (w : World) (B s : Nat) (S : Sk) (L : Lg) (D : Dk) : Prop where
  sk : SkAt w B s S
  ld : LD w B S.l L D
def skFoot (s : Nat) (S : Sk) (L : Lg) (D : Dk) (j : Nat) : Prop := S.foot s j ∨ ldFoot S.l L D j
theorem SD.apart {w : World} {B s : Nat} {S : Sk} {L : Lg} {D : Dk} (h : SD w B s S L D) {j : Nat} (hj : ldFoot S.l L D j) : ¬ S.foot s j := fun hf => by
  obtain ⟨e, he, ht⟩ := h.sk.foot_ty hf
  exact h.ld.foot_not hj (skTy_not he) ht
theorem SD.foot_lt {w : World} {B s : Nat} {S : Sk} {L : Lg} {D : Dk} (h : SD w B s S L D) {j : Nat} (hj : skFoot s S L D j) : B ≤ j ∧ j < w.heap.size := hj.elim h.sk.foot_lt h.ld.foot_lt
theorem SD.foot_not {w : World} {B s : Nat} {S : Sk} {L : Lg} {D : Dk} (h : SD w B s S L D) {j : Nat} (hj : skFoot s S L D j) {e : TypeId} (he : LogNot e) (h2 : ¬ SkTy e) : ¬ TyAt w j e := by
  rcases hj with hf | hf
  · intro ht
    obtain ⟨e', he', ht'⟩ := h.sk.foot_ty hf
    exact h2 (by rw [← ht'.eq ht]; exact he')
  · exact h.ld.foot_not hf he
theorem SD.foot_u8 {w : World} {B s : Nat} {S : Sk} {L : Lg} {D : Dk} (h : SD w B s S L D) {j : Nat} (hj : skFoot s S L D j) : ¬ IsU8 w j := by
  rcases hj with hf | hf
  · intro hu
    obtain ⟨e', he', ht'⟩ := h.sk.foot_ty hf
    have := ht'.eq (show TyAt w j 5 from hu)
    subst this
    rcases he' with he' | he' | he' <;> exact absurd he' (by decide)
  · exact h.ld.foot_u8 hf
theorem SD.below {w w' : World} {B s : Nat} {S : Sk} {L : Lg} {D : Dk} (h : SD w B s S L D) (hb : Below w.heap.size w w') : SD w' B s S L D := ⟨h.sk.below hb, h.ld.below hb⟩
/-- Behind a call. -/
structure ST (w w' : World) (B s : Nat) (S : Sk) (L : Lg) (D : Dk) (S' : Sk) (L' : Lg) (D' : Dk) : Prop where
  is : SD w' B s S' L' D'
  only : Only (skFoot s S L D) w w'
  foot : ∀ j, skFoot s S' L' D' j → skFoot s S L D j ∨ w.heap.size ≤ j
theorem ST.of_below {w w' : World} {B s : Nat} {S : Sk} {L : Lg} {D : Dk} (h : SD w B s S L D) (hb : Below w.heap.size w w') : ST w w' B s S L D S L D := ⟨h.below hb, Only.of_below hb, fun j hj => .inl hj⟩
theorem ST.refl {w : World} {B s : Nat} {S : Sk} {L : Lg} {D : Dk} (h : SD w B s S L D) : ST w w B s S L D S L D := ST.of_below h (Below.refl _ _)
theorem ST.trans {w w' w'' : World} {B s : Nat} {S S' S'' : Sk} {L L' L'' : Lg} {D D' D'' : Dk} (h : ST w w' B s S L D S' L' D') (k : ST w' w'' B s S' L' D' S'' L'' D'') : ST w w'' B s S L D S'' L'' D'' :=
  ⟨k.is, h.only.trans k.only (fun j hj hf => (h.foot j hf).resolve_right (by omega)), fun j hj => (k.foot j hj).elim (fun hf => h.foot j hf) (fun hs => .inr (Nat.le_trans h.only.size hs))⟩
theorem ST.below {w w' w'' : World} {B s : Nat} {S S' : Sk} {L L' : Lg} {D D' : Dk} (h : ST w w' B s S L D S' L' D') (hb : Below w'.heap.size w' w'') : ST w w'' B s S L D S' L' D' := h.trans (ST.of_below h.is hb)
theorem ST.after {w0 w w' : World} {B s : Nat} {S S' : Sk} {L L' : Lg} {D D' : Dk} (h : ST w w' B s S L D S' L' D') (hb : Below w0.heap.size w0 w) (h0 : SD w0 B s S L D) : ST w0 w' B s S L D S' L' D' := (ST.of_below h0 hb).trans h
/-- The log alone is turned. -/
theorem ST.log {w w' : World} {B s : Nat} {S : Sk} {L L' : Lg} {D D' : Dk} (h : SD w B s S L D) (ht : LT w w' B S.l L D L' D') : ST w w' B s S L D S L' D' :=
  ⟨⟨h.sk.only ht.only (fun j hj => h.apart hj), ht.is⟩, ht.only.weak (fun j _ e => .inr e), fun j hj => hj.elim (fun e => .inl (.inl e)) (fun e => (ht.foot j e).elim (fun e => .inl (.inr e)) .inr)⟩
/-- The sink alone is turned. -/
theorem ST.sink {w w' : World} {B s : Nat} {S S' : Sk} {L : Lg} {D : Dk} (h : SD w B s S L D) (hs : SkAt w' B s S') (hl : S'.l = S.l) (ho : Only (S.foot s) w w') (hf : ∀ j, S'.foot s j → S.foot s j ∨ w.heap.size ≤ j) : ST w w' B s S L D S' L D := by
  refine ⟨⟨hs, ?_⟩, ho.weak (fun j _ e => .inl e), fun j hj => hj.elim (fun e => (hf j e).elim (fun e => .inl (.inl e)) .inr) (fun e => .inl (.inr (by rw [← hl]; exact e)))⟩
  rw [hl]
  refine h.ld.only ho (fun j hj hf => h.apart hf hj) (fun j hj => h.foot_u8 (.inl hj))

/-! ### Lines -/
structure SM where
  gen : Int
  eps : List (List Pr)
  gath : List Pr
  pairs : List Pr
  prep : Bool
def Sk.m (S : Sk) : SM := ⟨S.gen, S.eps.map Prod.snd, S.gath, S.pairs, S.prep⟩
def SM.new : SM := ⟨0, [], [], [], false⟩
inductive Ln where
  | hears (n : Int)
  | stage (n : Nat) (ps : List Pr)
  | ready (n : Nat)
  | commits (n : Nat)
  | aborts (n : Nat)
def stp (M : SM) : Ln → Option SM
  | .hears n => if M.gen < n then some { M with gen := n } else none
  | .stage n ps => some { M with gath := (if n = 0 then [] else M.gath) ++ ps }
  | .ready n => if n = M.eps.length then some { M with pairs := M.gath, gath := [], prep := true } else none
  | .commits n => if n = M.eps.length ∧ M.prep = true then some { M with eps := M.eps ++ [M.pairs], pairs := [], prep := false } else none
  | .aborts n => if n = M.eps.length ∧ M.prep = true then some { M with pairs := [], prep := false } else none
def play (M : SM) : List Ln → Option SM
  | [] => some M
  | x :: r => (stp M x).bind fun M' => play M' r
theorem play_app : ∀ (M : SM) (a b : List Ln), play M (a ++ b) = (play M a).bind fun M' => play M' b
  | M, [], b => rfl
  | M, x :: a, b => by
    show (stp M x).bind (fun M' => play M' (a ++ b)) = ((stp M x).bind fun M' => play M' a).bind fun M' => play M' b
    cases stp M x with
    | none => rfl
    | some M' => exact play_app M' a b
/-- The items of a line. -/
def iI (n : Int) : Itc := .mk 0 n nos []
def iT (s : ByteArray) : Itc := .mk 1 0 s []
def prI (p : Pr) : List Itc := [iT p.key, iI p.val]
def Ln.its : Ln → List Itc
  | .hears n => [iI 0, iI n]
  | .stage n ps => iI 1 :: iI n :: ps.flatMap prI
  | .ready n => [iI 2, iI n]
  | .commits n => [iI 3, iI n]
  | .aborts n => [iI 4, iI n]
def Ln.kind : Ln → Int
  | .hears _ => 0
  | .stage _ _ => 1
  | .ready _ => 2
  | .commits _ => 3
  | .aborts _ => 4
def Ln.num : Ln → Int
  | .hears n => n
  | .stage n _ => n
  | .ready n => n
  | .commits n => n
  | .aborts n => n
def Ln.rest : Ln → List Itc
  | .stage _ ps => ps.flatMap prI
  | _ => []
theorem Ln.its_eq (x : Ln) : x.its = iI x.kind :: iI x.num :: x.rest := by cases x <;> rfl
def Pr.ok (p : Pr) : Prop := p.key.size ≤ 32 ∧ U32 p.val
def Ln.ok (x : Ln) : Prop := (-9223372036854775808 ≤ x.num ∧ x.num ≤ 9223372036854775807) ∧ match x with
  | .stage _ ps => ps.length ≤ 800 ∧ ∀ p ∈ ps, p.ok
  | _ => True
def Ln.enc (x : Ln) : List UInt8 := Go.Proofs.YthgmligpconhhaaGreatDoor.enc x.its
end Go.Proofs.YthgmligpconhhaaGreatDoor

/- Layer 24: what each line does to the sink: the closures of does, walked. -/
namespace Go.Proofs.YthgmligpconhhaaGreatDoor
open Go.RowKit Go.Shelf
set_option linter.unusedVariables false
set_option linter.unusedSimpArgs false
set_option maxRecDepth 100000

/-- What a closure makes of the sink. -/
def DoneBy (w w' : World) (B s : Nat) (S : Sk) (M : SM) : Prop := ∃ S', SkAt w' B s S' ∧ S'.m = M ∧ S'.l = S.l ∧ S'.broken = S.broken ∧ Only (S.foot s) w w' ∧ ∀ j, S'.foot s j → S.foot s j ∨ w.heap.size ≤ j

theorem does1_calls (B s bx : Nat) (S : Sk) (m : Int) (a : Option Addr) (c : Nat) (w : World) (h : SkAt w B s S) (hb : w.cell? ⟨bx, 0, none⟩ = some (.pointer (some ⟨s, 0, none⟩))) (hm : S.gen < m) :
    Calls Tryz.prog 66 #[.int .i64 m, .slice a 0 c, .pointer (some ⟨bx, 0, none⟩)] w fun e w' => e = .returned (.bool true) ∧ DoneBy w w' B s S { S.m with gen := m } := by
  obtain ⟨-, -, c2, -⟩ := h.at
  have f2 := h.frz 2
  have d1 : decide (S.gen < m) = true := decide_eq_true hm
  have HS := Lib.hid h
  clear h
  go_enter Tryz.func66, Tryz.ntmps66
  go_wp2_with fail
  go_ret
  refine ⟨rfl, { S with gen := m }, ?_, rfl, rfl, rfl, ?_, fun j hj => .inl hj⟩
  · have hst := World.ownsRow.stored HS.out.box 2 (.int .i64 m)
    exact HS.out.boxed ((Only.of_grown hst.2).weak (fun j _ e => (Option.some.inj e).symm)) hst.1 HS.out.erow HS.out.eps HS.out.grow HS.out.prow HS.out.gap
  · exact ((Only.refl _ w).setCell ⟨s, 2, none⟩ _ (.inl (.inl rfl)))
set_option maxHeartbeats 1000000 in
theorem does3_calls (B s bx : Nat) (S : Sk) (m : Nat) (a : Option Addr) (c : Nat) (w : World) (h : SkAt w B s S) (hb : w.cell? ⟨bx, 0, none⟩ = some (.pointer (some ⟨s, 0, none⟩))) (hbx : ¬ S.foot s bx) (hm : m = S.eps.length) :
    Calls Tryz.prog 68 #[.int .i64 m, .slice a 0 c, .pointer (some ⟨bx, 0, none⟩)] w fun e w' => e = .returned (.bool true) ∧ DoneBy w w' B s S { S.m with pairs := S.gath, gath := [], prep := true } := by
  -- the sink's fields, the slices in plain sight
  obtain ⟨sl, sbr, sgen, sev, seps, sgv, sgath, spv, spairs, sprep⟩ := S
  obtain ⟨ga, gc, hgv⟩ := own_slice h.grow
  obtain ⟨pa, pc, hpv⟩ := own_slice h.prow
  obtain ⟨ea, ec, hev⟩ := own_slice h.erow
  simp only at hgv hpv hev
  subst hgv hpv hev
  obtain ⟨c0, c1, c2, c3, c4, c5, c6⟩ := h.at
  have f3 := h.frz 3
  have f4 := h.frz 4
  have f5 := h.frz 5
  have f6 := h.frz 6
  simp only at c0 c1 c2 c3 c4 c5 c6
  have hne : bx ≠ s := fun e => hbx (.inl e)
  have HS := Lib.hid h
  have HNE := Lib.hid hne
  clear h hbx hne
  have d1 : ((m : Int) == (seps.length : Int)) = true := by rw [hm]; simp
  clear hm
  go_enter Tryz.func68, Tryz.ntmps68
  go_wp2_with fail
  refine region_m [(0, false), (1, false), (2, false), (3, false), (4, false), (5, false), (6, true), (7, false), (8, false), (9, true), (10, false), (11, false), (12, true), (13, false), (14, false), (15, true)] 16 (fun X => X.cell? ⟨bx, 0, none⟩ = some (.pointer (some ⟨s, 0, none⟩))) (by kernel_rfl) (by kernel_rfl) hb ?_
  iterate 6
    first
    | (refine m_take (v := ?_) rfl rfl ?_ ?_
       rotate_left
       · intro W hW
         go_simp
         with_reducible rfl
       simp only [Act.put, List.setIfInBounds_toArray, List.set_cons_zero, List.set_cons_succ])
    | (refine m_skip rfl rfl ?_
       simp only [Act.put, List.setIfInBounds_toArray, List.set_cons_zero, List.set_cons_succ])
  refine m_loud rfl (fun K hK => ?_)
  have HK := Lib.hid hK
  clear hK
  go_simp
  refine HK.out _ _ hb ?_
  clear HK
  iterate 2
    first
    | (refine m_take (v := ?_) rfl rfl ?_ ?_
       rotate_left
       · intro W hW
         go_simp
         with_reducible rfl
       simp only [Act.put, List.setIfInBounds_toArray, List.set_cons_zero, List.set_cons_succ])
    | (refine m_skip rfl rfl ?_
       simp only [Act.put, List.setIfInBounds_toArray, List.set_cons_zero, List.set_cons_succ])
  refine m_loud rfl (fun K hK => ?_)
  have HK := Lib.hid hK
  clear hK
  go_simp
  obtain ⟨W1, hW1⟩ : ∃ W, W = (w.setCell ⟨s, 5, none⟩ (.slice ga sgath.length gc)).drew := ⟨_, rfl⟩
  have e0 := World.ownsRow.stored (w := w) HS.out.box 5 (.slice ga sgath.length gc)
  have e1 := And.intro (ownsRow_below e0.1 ((Below.refl _ _).drew) (Nat.le_refl _)) ((Only.of_grown e0.2).drew.weak (fun j _ e => (Option.some.inj e).symm))
  rw [← hW1] at e1 ⊢
  have hb1 : W1.cell? ⟨bx, 0, none⟩ = some (.pointer (some ⟨s, 0, none⟩)) := by rw [hW1]; exact (cell_set_block _ (by simp; exact HNE.out)).trans hb
  have c41 : W1.cell? ⟨s, 4, none⟩ = some (.slice ga sgath.length gc) := by
    have := World.ownsRow.cells e1.1 (g := s) rfl 4 _ rfl
    simpa only [add_off, Nat.zero_add] using this
  have f41 : W1.frozen? ⟨s, 4, none⟩ = false := World.ownsRow.frozenAt e1.1 4
  have E1 := Lib.hid e1
  clear e0 e1 hW1 c4 c5 f4 f5
  refine HK.out _ _ hb1 ?_
  clear HK
  iterate 2
    first
    | (refine m_take (v := ?_) rfl rfl ?_ ?_
       rotate_left
       · intro W hW
         go_simp
         with_reducible rfl
       simp only [Act.put, List.setIfInBounds_toArray, List.set_cons_zero, List.set_cons_succ])
    | (refine m_skip rfl rfl ?_
       simp only [Act.put, List.setIfInBounds_toArray, List.set_cons_zero, List.set_cons_succ])
  refine m_loud rfl (fun K hK => ?_)
  have HK := Lib.hid hK
  clear hK
  go_simp
  obtain ⟨W2, hW2⟩ : ∃ W, W = W1.setCell ⟨s, 4, none⟩ (.slice none 0 0) := ⟨_, rfl⟩
  have e2 := World.ownsRow.stored E1.out.1 4 (.slice none 0 0)
  rw [← hW2] at e2 ⊢
  have hb2 : W2.cell? ⟨bx, 0, none⟩ = some (.pointer (some ⟨s, 0, none⟩)) := by rw [hW2, cell_set_block _ (by simp; exact HNE.out)]; exact hb1
  have c62 : W2.cell? ⟨s, 6, none⟩ = some (.bool sprep) := by
    have := World.ownsRow.cells e2.1 (g := s) rfl 6 _ rfl
    simpa only [add_off, Nat.zero_add] using this
  have f62 : W2.frozen? ⟨s, 6, none⟩ = false := World.ownsRow.frozenAt e2.1 6
  have E2 := Lib.hid e2
  clear e2 hW2 c41 f41 hb1
  refine HK.out _ _ hb2 ?_
  clear HK
  iterate 2
    first
    | (refine m_take (v := ?_) rfl rfl ?_ ?_
       rotate_left
       · intro W hW
         go_simp
         with_reducible rfl
       simp only [Act.put, List.setIfInBounds_toArray, List.set_cons_zero, List.set_cons_succ])
    | (refine m_skip rfl rfl ?_
       simp only [Act.put, List.setIfInBounds_toArray, List.set_cons_zero, List.set_cons_succ])
  refine m_loud rfl (fun K hK => ?_)
  have HK := Lib.hid hK
  clear hK
  go_simp
  obtain ⟨W3, hW3⟩ : ∃ W, W = W2.setCell ⟨s, 6, none⟩ (.bool true) := ⟨_, rfl⟩
  have e3 := World.ownsRow.stored E2.out.1 6 (.bool true)
  rw [← hW3] at e3 ⊢
  have hb3 : W3.cell? ⟨bx, 0, none⟩ = some (.pointer (some ⟨s, 0, none⟩)) := by rw [hW3, cell_set_block _ (by simp; exact HNE.out)]; exact hb2
  have E3 := Lib.hid e3
  clear e3 hW3 c62 f62 hb2
  refine HK.out _ _ hb3 ?_
  clear HK
  refine m_done ?_
  simp only [List.drop_succ_cons, List.drop_zero]
  go_wp2_with fail
  simp only [NP]
  go_wp2_with fail
  go_ret
  have hon : Only (fun j => j = s) w W3 := (E1.out.2.trans ((Only.of_grown E2.out.2).weak (fun j _ e => (Option.some.inj e).symm)) (fun j _ e => e)).trans ((Only.of_grown E3.out.2).weak (fun j _ e => (Option.some.inj e).symm)) (fun j _ e => e)
  refine ⟨rfl, ⟨sl, sbr, sgen, .slice ea seps.length ec, seps, .slice none 0 0, [], .slice ga sgath.length gc, sgath, true⟩, ?_, rfl, rfl, rfl, hon.weak (fun j _ e => .inl e), ?_⟩
  · exact HS.out.boxed hon E3.out.1 HS.out.erow HS.out.eps (PRow.nil _ _) HS.out.grow (fun g hg => by simp [Value.ownBlock] at hg)
  · rintro j (e | e | e | e | e)
    · exact .inl (.inl e)
    · exact .inl (.inr (.inl e))
    · simp [Value.ownBlock] at e
    · exact .inl (.inr (.inr (.inl e)))
    · exact .inl (.inr (.inr (.inr (.inr e))))
set_option maxHeartbeats 1000000 in
theorem does4_calls (B s bx : Nat) (S : Sk) (m : Nat) (a : Option Addr) (c : Nat) (w : World) (h : SkAt w B s S) (hb : w.cell? ⟨bx, 0, none⟩ = some (.pointer (some ⟨s, 0, none⟩))) (hbx : ¬ S.foot s bx) (hm : m = S.eps.length) (hp : S.prep = true) (hl : S.eps.length ≤ 1000000) :
    Calls Tryz.prog 69 #[.int .i64 m, .slice a 0 c, .pointer (some ⟨bx, 0, none⟩)] w fun e w' => e = .returned (.bool true) ∧ DoneBy w w' B s S { S.m with eps := S.m.eps ++ [S.pairs], pairs := [], prep := false } := by
  have HBX := Lib.hid hbx
  -- the sink's fields, the slices in plain sight
  obtain ⟨sl, sbr, sgen, sev, seps, sgv, sgath, spv, spairs, sprep⟩ := S
  obtain ⟨ga, gc, hgv⟩ := own_slice h.grow
  obtain ⟨pa, pc, hpv⟩ := own_slice h.prow
  obtain ⟨ea, ec, hev⟩ := own_slice h.erow
  simp only at hgv hpv hev
  subst hgv hpv hev
  obtain ⟨c0, c1, c2, c3, c4, c5, c6⟩ := h.at
  have f3 := h.frz 3
  have f4 := h.frz 4
  have f5 := h.frz 5
  have f6 := h.frz 6
  simp only at c0 c1 c2 c3 c4 c5 c6
  have hne : bx ≠ s := fun e => hbx (.inl e)
  have HS := Lib.hid h
  have HNE := Lib.hid hne
  clear h hbx hne
  have d1 : ((m : Int) == (seps.length : Int)) = true := by rw [hm]; simp
  simp only at hp hl
  rw [hp] at c6
  have hlb := World.block_lt_of_cell? w _ hb
  clear hm
  go_enter Tryz.func69, Tryz.ntmps69
  go_wp2_with fail
  refine region_m [(0, false), (1, false), (2, false), (3, false), (4, false), (5, false), (6, false), (7, false), (8, false), (9, true), (10, true), (11, false), (12, false)] 13 (fun X => X.cell? ⟨bx, 0, none⟩ = some (.pointer (some ⟨s, 0, none⟩)) ∧ X.cell? ⟨s, 5, none⟩ = some (.slice pa spairs.length pc) ∧ (X.cell? ⟨s, 3, none⟩ = some (.slice ea seps.length ec))) (by kernel_rfl) (by kernel_rfl) ⟨hb, c5, c3⟩ ?_
  iterate 9
    first
    | (refine m_take (v := ?_) rfl rfl ?_ ?_
       rotate_left
       · intro W hW
         go_simp
         with_reducible rfl
       simp only [Act.put, List.setIfInBounds_toArray, List.set_cons_zero, List.set_cons_succ])
    | (refine m_skip rfl rfl ?_
       simp only [Act.put, List.setIfInBounds_toArray, List.set_cons_zero, List.set_cons_succ])
  refine m_loud rfl (fun K hK => ?_)
  have HK := Lib.hid hK
  clear hK
  go_simp
  obtain ⟨W1, hW1⟩ : ∃ W1, W1 = (w.alloc (.cells #[.slice pa spairs.length pc] 23)).drew := ⟨_, rfl⟩
  have hal : Below w.heap.size w W1 := by rw [hW1]; exact (below_alloc w _).drew
  have H1 := Lib.hid (HS.out.below hal)
  have HLIT := Lib.hid (show Rd W1 1 (.slice (some ⟨w.heap.size, 0, none⟩) 1 1) 1 [.slice pa spairs.length pc] by rw [hW1]; exact (Rd.lit (w := w) (cs := #[.slice pa spairs.length pc]) (e := 23) (n := 1) (sz := 1) rfl (by omega)).below ((Below.refl _ _).drew) (Nat.le_refl _))
  have HON1 := Lib.hid (show Only (fun j => j = s) w W1 from Only.of_below hal)
  have hBs : B ≤ W1.heap.size := by have := (H1.out.foot_lt (.inl rfl)); omega
  have HB1 := Lib.hid hal
  rw [← hW1]
  refine HK.out _ _ ⟨cell_later hal hb, cell_later hal c5, cell_later hal c3⟩ ?_
  clear HK
  clear hW1 hal
  refine m_app tyPairsL (base := B) (n := seps.length) (v := .slice ea seps.length ec) (xs := seps.map Prod.fst) H1.out.erow HLIT.out (by simp [Value.oneCell']) (by omega) (by omega) (by omega) hBs rfl rfl rfl rfl rfl ?_
  intro g gcap w2 ho2 hold2 hg2 hgc2
  have hon2 := Only.of_grown hg2
  have hse : ¬ (Value.slice ea seps.length ec).ownBlock = some s := fun e => absurd ((own_ty H1.out.erow e).eq (own_ty H1.out.box (j := s) rfl)) (by decide)
  have hbe : ¬ (Value.slice ea seps.length ec).ownBlock = some bx := fun e => HBX.out (.inr (.inl e))
  have hbx2 := ownsRow_only H1.out.box hon2 (fun j hj e => hse (by simp only [Value.ownBlock, Option.some.injEq] at hj; subst hj; exact e))
  have hb1 : W1.cell? ⟨bx, 0, none⟩ = some (.pointer (some ⟨s, 0, none⟩)) := cell_later HB1.out hb
  have hb2 : w2.cell? ⟨bx, 0, none⟩ = some (.pointer (some ⟨s, 0, none⟩)) := hon2.cell (b := bx) (o := 0) hbe hb1
  have ce := fun j u hj => World.ownsRow.cells hbx2 (g := s) rfl j u hj
  simp only [add_off, Nat.zero_add] at ce
  have c32 : w2.cell? ⟨s, 3, none⟩ = some (.slice ea seps.length ec) := ce 3 _ rfl
  have c52 : w2.cell? ⟨s, 5, none⟩ = some (.slice pa spairs.length pc) := ce 5 _ rfl
  have f32 : w2.frozen? ⟨s, 3, none⟩ = false := World.ownsRow.frozenAt hbx2 3
  refine ⟨⟨hb2, c52, c32⟩, ?_⟩
  have HBX2 := Lib.hid hbx2
  have HG2 := Lib.hid (And.intro ho2 (And.intro hg2 hgc2))
  have HNL := Lib.hid (And.intro hse hbe)
  clear ho2 hold2 hg2 hgc2 hon2 hse hbe hbx2 hb1 ce c3 c5 hb
  iterate 2
    first
    | (refine m_take (v := ?_) rfl rfl ?_ ?_
       rotate_left
       · intro W hW
         go_simp
         with_reducible rfl
       simp only [Act.put, List.setIfInBounds_toArray, List.set_cons_zero, List.set_cons_succ])
    | (refine m_skip rfl rfl ?_
       simp only [Act.put, List.setIfInBounds_toArray, List.set_cons_zero, List.set_cons_succ])
  refine m_done ?_
  simp only [List.drop_succ_cons, List.drop_zero]
  go_upto_region 3 with fail
  simp only [NP]
  go_upto_region 3 with fail
  obtain ⟨V, hV⟩ : ∃ V, V = w2.setCell ⟨s, 3, none⟩ (.slice (some ⟨g, 0, none⟩) (seps.length + 1) gcap) := ⟨_, rfl⟩
  have eV := World.ownsRow.stored HBX2.out 3 (.slice (some ⟨g, 0, none⟩) (seps.length + 1) gcap)
  rw [← hV] at eV ⊢
  have hbV : V.cell? ⟨bx, 0, none⟩ = some (.pointer (some ⟨s, 0, none⟩)) := by rw [hV]; exact (cell_set_block _ (by simp; exact HNE.out)).trans hb2
  have HBV := Lib.hid eV.1
  have HOV := Lib.hid (show Only (fun j => j = s) w2 V from (Only.of_grown eV.2).weak (fun j _ e => (Option.some.inj e).symm))
  subst hp
  clear eV hV hb2 c32 c52 f32 hlb
  -- pairs are none, nothing is prepared: the region's loads of the box (at bx), then two stores; V the world, HBV its box (cells CS)
  have ceV := fun j u hj => World.ownsRow.cells HBV.out (g := s) rfl j u hj
  simp only [add_off, Nat.zero_add] at ceV
  have c5V : V.cell? ⟨s, 5, none⟩ = some (.slice pa spairs.length pc) := ceV 5 _ rfl
  have f5V : V.frozen? ⟨s, 5, none⟩ = false := World.ownsRow.frozenAt HBV.out 5
  clear ceV
  refine region_m [(0, false), (1, false), (2, false), (3, false), (4, true), (5, false), (6, false), (7, true)] 8 (fun X => X.cell? ⟨bx, 0, none⟩ = some (.pointer (some ⟨s, 0, none⟩))) (by kernel_rfl) (by kernel_rfl) hbV ?_
  iterate 4
    first
    | (refine m_take (v := ?_) rfl rfl ?_ ?_
       rotate_left
       · intro W hW
         go_simp
         with_reducible rfl
       simp only [Act.put, List.setIfInBounds_toArray, List.set_cons_zero, List.set_cons_succ])
    | (refine m_skip rfl rfl ?_
       simp only [Act.put, List.setIfInBounds_toArray, List.set_cons_zero, List.set_cons_succ])
  refine m_loud rfl (fun K hK => ?_)
  have HK := Lib.hid hK
  clear hK
  go_simp
  obtain ⟨V1, hV1⟩ : ∃ W, W = (V.setCell ⟨s, 5, none⟩ (.slice none 0 0)).drew := ⟨_, rfl⟩
  have e0 := World.ownsRow.stored (w := V) HBV.out 5 (.slice none 0 0)
  have e1 := And.intro (ownsRow_below e0.1 ((Below.refl _ _).drew) (Nat.le_refl _)) ((Only.of_grown e0.2).drew.weak (fun j _ e => (Option.some.inj e).symm))
  rw [← hV1] at e1 ⊢
  have hb1 : V1.cell? ⟨bx, 0, none⟩ = some (.pointer (some ⟨s, 0, none⟩)) := by rw [hV1]; exact (cell_set_block _ (by simp; exact HNE.out)).trans hbV
  have ce1 := fun j u hj => World.ownsRow.cells e1.1 (g := s) rfl j u hj
  simp only [add_off, Nat.zero_add] at ce1
  have c61 : V1.cell? ⟨s, 6, none⟩ = some (.bool true) := ce1 6 _ rfl
  have f61 : V1.frozen? ⟨s, 6, none⟩ = false := World.ownsRow.frozenAt e1.1 6
  have E1 := Lib.hid e1
  clear e0 e1 ce1 hV1 c5V f5V hbV
  refine HK.out _ _ hb1 ?_
  clear HK
  iterate 2
    first
    | (refine m_take (v := ?_) rfl rfl ?_ ?_
       rotate_left
       · intro W hW
         go_simp
         with_reducible rfl
       simp only [Act.put, List.setIfInBounds_toArray, List.set_cons_zero, List.set_cons_succ])
    | (refine m_skip rfl rfl ?_
       simp only [Act.put, List.setIfInBounds_toArray, List.set_cons_zero, List.set_cons_succ])
  refine m_loud rfl (fun K hK => ?_)
  have HK := Lib.hid hK
  clear hK
  go_simp
  obtain ⟨V2, hV2⟩ : ∃ W, W = V1.setCell ⟨s, 6, none⟩ (.bool false) := ⟨_, rfl⟩
  have e2 := World.ownsRow.stored E1.out.1 6 (.bool false)
  rw [← hV2] at e2 ⊢
  have hb2 : V2.cell? ⟨bx, 0, none⟩ = some (.pointer (some ⟨s, 0, none⟩)) := by rw [hV2]; exact (cell_set_block _ (by simp; exact HNE.out)).trans hb1
  have E2 := Lib.hid e2
  clear e2 hV2 c61 f61 hb1
  refine HK.out _ _ hb2 ?_
  clear HK
  refine m_done ?_
  simp only [List.drop_succ_cons, List.drop_zero]
  have HON := Lib.hid (show Only (fun j => j = s) V V2 from E1.out.2.trans ((Only.of_grown E2.out.2).weak (fun j _ e => (Option.some.inj e).symm)) (fun j _ e => e))
  go_wp2_with fail
  simp only [NP]
  go_wp2_with fail
  go_ret
  have hon2 := Only.of_grown HG2.out.2.1
  have hov := HOV.out.trans HON.out (fun j _ e => e)
  have hgr := H1.out.erow
  have hall : Only (fun j => j = s ∨ (Value.slice ea seps.length ec).ownBlock = some j) w V2 := ((HON1.out.weak (fun j _ e => .inl e)).trans (hon2.weak (fun j _ e => .inr e)) (fun j _ e => e)).trans (hov.weak (fun j _ e => .inl e)) (fun j _ e => e)
  have hP : ∀ {v : Value} {l : List Pr}, PRow W1 B v l → PRow w2 B v l := fun hr => hr.only hon2 (fun j hj e => absurd ((hr.ty hj).eq (own_ty hgr e)) (by decide))
  refine ⟨rfl, ⟨sl, sbr, sgen, .slice (some ⟨g, 0, none⟩) (seps.length + 1) gcap, seps ++ [(.slice pa spairs.length pc, spairs)], .slice ga sgath.length gc, sgath, .slice none 0 0, [], false⟩, ?_, ?_, rfl, rfl, hall.weak (fun j _ e => e.elim .inl (fun e => .inr (.inl e))), ?_⟩
  · have ht : TyAt w2 s 59 := own_ty HBX2.out rfl
    have hR : ∀ {v : Value} {l : List Pr}, PRow W1 B v l → PRow V2 B v l := fun hr => (hP hr).only hov (fun j hj e => by subst e; exact absurd (((hP hr).ty hj).eq ht) (by decide))
    refine ⟨E2.out.1, ?_, fun x hx => ?_, hR H1.out.grow, PRow.nil _ _, fun j hj => ⟨by simp [Value.ownBlock], fun x hx => ?_⟩⟩
    · have := ownsRow_only HG2.out.1 hov (fun j hj e => by subst e; exact absurd ((own_ty HG2.out.1 hj).eq ht) (by decide))
      simpa using this
    · rcases List.mem_append.1 hx with hx | hx
      · exact hR (H1.out.eps x hx)
      · rw [List.mem_singleton.1 hx]; exact hR H1.out.prow
    · rcases List.mem_append.1 hx with hx | hx
      · exact (H1.out.gap j hj).2 x hx
      · rw [List.mem_singleton.1 hx]; exact (H1.out.gap j hj).1
  · simp [Sk.m]
  · rintro j (e | e | e | e | ⟨x, hx, e⟩)
    · exact .inl (.inl e)
    · have e : some g = some j := e
      simp only [Option.some.injEq] at e
      subst e
      rcases HG2.out.2.2 with ⟨k, c', e, -⟩ | e
      · exact .inl (.inr (.inl (by show (Value.slice ea seps.length ec).ownBlock = _; rw [e]; rfl)))
      · exact .inr (Nat.le_trans HB1.out.size e)
    · exact .inl (.inr (.inr (.inl e)))
    · simp [Value.ownBlock] at e
    · rcases List.mem_append.1 hx with hx | hx
      · exact .inl (.inr (.inr (.inr (.inr ⟨x, hx, e⟩))))
      · rw [List.mem_singleton.1 hx] at e
        exact .inl (.inr (.inr (.inr (.inl e))))
set_option maxHeartbeats 1000000 in
theorem does5_calls (B s bx : Nat) (S : Sk) (m : Nat) (a : Option Addr) (c : Nat) (w : World) (h : SkAt w B s S) (hb : w.cell? ⟨bx, 0, none⟩ = some (.pointer (some ⟨s, 0, none⟩))) (hbx : ¬ S.foot s bx) (hm : m = S.eps.length) (hp : S.prep = true) :
    Calls Tryz.prog 70 #[.int .i64 m, .slice a 0 c, .pointer (some ⟨bx, 0, none⟩)] w fun e w' => e = .returned (.bool true) ∧ DoneBy w w' B s S { S.m with pairs := [], prep := false } := by
  -- the sink's fields, the slices in plain sight
  obtain ⟨sl, sbr, sgen, sev, seps, sgv, sgath, spv, spairs, sprep⟩ := S
  obtain ⟨ga, gc, hgv⟩ := own_slice h.grow
  obtain ⟨pa, pc, hpv⟩ := own_slice h.prow
  obtain ⟨ea, ec, hev⟩ := own_slice h.erow
  simp only at hgv hpv hev
  subst hgv hpv hev
  obtain ⟨c0, c1, c2, c3, c4, c5, c6⟩ := h.at
  have f3 := h.frz 3
  have f4 := h.frz 4
  have f5 := h.frz 5
  have f6 := h.frz 6
  simp only at c0 c1 c2 c3 c4 c5 c6
  have hne : bx ≠ s := fun e => hbx (.inl e)
  have HS := Lib.hid h
  have HNE := Lib.hid hne
  clear h hbx hne
  have d1 : ((m : Int) == (seps.length : Int)) = true := by rw [hm]; simp
  simp only at hp
  subst hp
  clear hm
  go_enter Tryz.func70, Tryz.ntmps70
  go_upto_region 2 with fail
  obtain ⟨V, hV⟩ : ∃ V, V = w := ⟨_, rfl⟩
  have hbV := hb
  have HBV := Lib.hid HS.out.box
  rw [← hV] at hbV HBV ⊢
  have HVE := Lib.hid hV
  clear hV c5 f5 c6 f6 hb
  -- pairs are none, nothing is prepared: the region's loads of the box (at bx), then two stores; V the world, HBV its box (cells CS)
  have ceV := fun j u hj => World.ownsRow.cells HBV.out (g := s) rfl j u hj
  simp only [add_off, Nat.zero_add] at ceV
  have c5V : V.cell? ⟨s, 5, none⟩ = some (.slice pa spairs.length pc) := ceV 5 _ rfl
  have f5V : V.frozen? ⟨s, 5, none⟩ = false := World.ownsRow.frozenAt HBV.out 5
  clear ceV
  refine region_m [(0, false), (1, false), (2, false), (3, false), (4, true), (5, false), (6, false), (7, true)] 8 (fun X => X.cell? ⟨bx, 0, none⟩ = some (.pointer (some ⟨s, 0, none⟩))) (by kernel_rfl) (by kernel_rfl) hbV ?_
  iterate 4
    first
    | (refine m_take (v := ?_) rfl rfl ?_ ?_
       rotate_left
       · intro W hW
         go_simp
         with_reducible rfl
       simp only [Act.put, List.setIfInBounds_toArray, List.set_cons_zero, List.set_cons_succ])
    | (refine m_skip rfl rfl ?_
       simp only [Act.put, List.setIfInBounds_toArray, List.set_cons_zero, List.set_cons_succ])
  refine m_loud rfl (fun K hK => ?_)
  have HK := Lib.hid hK
  clear hK
  go_simp
  obtain ⟨V1, hV1⟩ : ∃ W, W = (V.setCell ⟨s, 5, none⟩ (.slice none 0 0)).drew := ⟨_, rfl⟩
  have e0 := World.ownsRow.stored (w := V) HBV.out 5 (.slice none 0 0)
  have e1 := And.intro (ownsRow_below e0.1 ((Below.refl _ _).drew) (Nat.le_refl _)) ((Only.of_grown e0.2).drew.weak (fun j _ e => (Option.some.inj e).symm))
  rw [← hV1] at e1 ⊢
  have hb1 : V1.cell? ⟨bx, 0, none⟩ = some (.pointer (some ⟨s, 0, none⟩)) := by rw [hV1]; exact (cell_set_block _ (by simp; exact HNE.out)).trans hbV
  have ce1 := fun j u hj => World.ownsRow.cells e1.1 (g := s) rfl j u hj
  simp only [add_off, Nat.zero_add] at ce1
  have c61 : V1.cell? ⟨s, 6, none⟩ = some (.bool true) := ce1 6 _ rfl
  have f61 : V1.frozen? ⟨s, 6, none⟩ = false := World.ownsRow.frozenAt e1.1 6
  have E1 := Lib.hid e1
  clear e0 e1 ce1 hV1 c5V f5V hbV
  refine HK.out _ _ hb1 ?_
  clear HK
  iterate 2
    first
    | (refine m_take (v := ?_) rfl rfl ?_ ?_
       rotate_left
       · intro W hW
         go_simp
         with_reducible rfl
       simp only [Act.put, List.setIfInBounds_toArray, List.set_cons_zero, List.set_cons_succ])
    | (refine m_skip rfl rfl ?_
       simp only [Act.put, List.setIfInBounds_toArray, List.set_cons_zero, List.set_cons_succ])
  refine m_loud rfl (fun K hK => ?_)
  have HK := Lib.hid hK
  clear hK
  go_simp
  obtain ⟨V2, hV2⟩ : ∃ W, W = V1.setCell ⟨s, 6, none⟩ (.bool false) := ⟨_, rfl⟩
  have e2 := World.ownsRow.stored E1.out.1 6 (.bool false)
  rw [← hV2] at e2 ⊢
  have hb2 : V2.cell? ⟨bx, 0, none⟩ = some (.pointer (some ⟨s, 0, none⟩)) := by rw [hV2]; exact (cell_set_block _ (by simp; exact HNE.out)).trans hb1
  have E2 := Lib.hid e2
  clear e2 hV2 c61 f61 hb1
  refine HK.out _ _ hb2 ?_
  clear HK
  refine m_done ?_
  simp only [List.drop_succ_cons, List.drop_zero]
  have HON := Lib.hid (show Only (fun j => j = s) V V2 from E1.out.2.trans ((Only.of_grown E2.out.2).weak (fun j _ e => (Option.some.inj e).symm)) (fun j _ e => e))
  go_wp2_with fail
  simp only [NP]
  go_wp2_with fail
  go_ret
  have hov := HON.out
  rw [HVE.out] at hov
  refine ⟨rfl, ⟨sl, sbr, sgen, .slice ea seps.length ec, seps, .slice ga sgath.length gc, sgath, .slice none 0 0, [], false⟩, ?_, rfl, rfl, rfl, hov.weak (fun j _ e => .inl e), ?_⟩
  · exact HS.out.boxed hov E2.out.1 HS.out.erow HS.out.eps HS.out.grow (PRow.nil _ _) (fun j hj => ⟨by simp [Value.ownBlock], (HS.out.gap j hj).2⟩)
  · rintro j (e | e | e | e | e)
    · exact .inl (.inl e)
    · exact .inl (.inr (.inl e))
    · exact .inl (.inr (.inr (.inl e)))
    · simp [Value.ownBlock] at e
    · exact .inl (.inr (.inr (.inr (.inr e))))
end Go.Proofs.YthgmligpconhhaaGreatDoor

/- Layer 24: pairs are gathered (does$2); a line is done; walked. -/
namespace Go.Proofs.YthgmligpconhhaaGreatDoor
open Go.RowKit Go.Shelf
set_option linter.unusedVariables false
set_option linter.unusedSimpArgs false
set_option maxRecDepth 100000

theorem SkAt.grown {w w2 : World} {B s : Nat} {S : Sk} (h : SkAt w B s S) {g gcap n : Nat} {xs : List Pr} (ho : w2.ownsRow B 39 2 (.slice (some ⟨g, 0, none⟩) n gcap) n (flatF Pr.cells S.gath ++ flatF Pr.cells xs)) (hn : n = S.gath.length + xs.length) (hg : w.grownBy w2 S.gv.ownBlock)
    (hc : (∃ k c, S.gv = .slice (some ⟨g, 0, none⟩) k c ∧ gcap = c) ∨ w.heap.size ≤ g) {S' : Sk} (hS : S' = { S with gv := .slice (some ⟨g, 0, none⟩) n gcap, gath := S.gath ++ xs }) :
    SkAt (w2.setCell ⟨s, 4, none⟩ (.slice (some ⟨g, 0, none⟩) n gcap)) B s S' ∧ Only (S.foot s) w (w2.setCell ⟨s, 4, none⟩ (.slice (some ⟨g, 0, none⟩) n gcap)) ∧ (∀ j, S'.foot s j → S.foot s j ∨ w.heap.size ≤ j) := by
  subst hS
  have hon := Only.of_grown hg
  have hts : TyAt w s 59 := own_ty h.box rfl
  have hgt : ∀ j, S.gv.ownBlock = some j → TyAt w j 39 := fun j hj => h.grow.ty hj
  have hbx2 := ownsRow_only h.box hon (fun j hj e => by
    simp only [Value.ownBlock, Option.some.injEq] at hj
    subst hj
    exact absurd ((hgt _ e).eq hts) (by decide))
  have hst := World.ownsRow.stored hbx2 4 (.slice (some ⟨g, 0, none⟩) n gcap)
  have ho2 : Only (fun j => j = s) w2 (w2.setCell ⟨s, 4, none⟩ (.slice (some ⟨g, 0, none⟩) n gcap)) := (Only.of_grown hst.2).weak (fun j _ e => (Option.some.inj e).symm)
  have hts2 : TyAt w2 s 59 := own_ty hbx2 rfl
  have hrow : PRow w2 B (.slice (some ⟨g, 0, none⟩) n gcap) (S.gath ++ xs) := by
    unfold PRow
    rw [List.length_append, flatF_append, ← hn]
    exact ho
  have hne : ∀ {v : Value} {l : List Pr}, PRow w2 B v l → PRow (w2.setCell ⟨s, 4, none⟩ (.slice (some ⟨g, 0, none⟩) n gcap)) B v l := fun hr => hr.only ho2 (fun j hj e => by subst e; exact absurd ((hr.ty hj).eq hts2) (by decide))
  refine ⟨⟨hst.1, ?_, fun x hx => ?_, hne hrow, ?_, fun j hj => ?_⟩, (hon.weak (fun j _ e => .inr (.inr (.inl e)))).trans (ho2.weak (fun j _ e => .inl e)) (fun j _ e => e), ?_⟩
  · have h1 := ownsRow_only h.erow hon (fun j hj e => absurd ((hgt j e).eq (own_ty h.erow hj)) (by decide))
    exact ownsRow_only h1 ho2 (fun j hj e => by subst e; exact absurd ((own_ty h1 hj).eq hts2) (by decide))
  · exact hne ((h.eps x hx).only hon (fun j hj e => (h.gap j e).2 x hx hj))
  · exact hne (h.prow.only hon (fun j hj e => (h.gap j e).1 hj))
  · have hj : some g = some j := hj
    simp only [Option.some.injEq] at hj
    subst hj
    rcases hc with ⟨k, c', e, -⟩ | e
    · exact h.gap g (by rw [e]; rfl)
    · exact ⟨fun e2 => by have := (h.prow.lt e2).2; omega, fun x hx e2 => by have := ((h.eps x hx).lt e2).2; omega⟩
  · rintro j (e | e | e | e | e)
    · exact .inl (.inl e)
    · exact .inl (.inr (.inl e))
    · have e : some g = some j := e
      simp only [Option.some.injEq] at e
      subst e
      rcases hc with ⟨k, c', e, -⟩ | e
      · exact .inl (.inr (.inr (.inl (by rw [e]; rfl))))
      · exact .inr e
    · exact .inl (.inr (.inr (.inr (.inl e))))
    · exact .inl (.inr (.inr (.inr (.inr e))))
/-- The items of pairs, read one by one. -/
def PIts (w : World) (a : Option Addr) (ps : List Pr) : Prop := ∀ (i : Nat) (hi : i < ps.length), ∃ b o, a = some ⟨b, o, none⟩ ∧ TyAt w b 70 ∧ w.cell? ⟨b, o + 2 * i * 4, none⟩ = some (.int .i64 1) ∧ w.cell? ⟨b, o + 2 * i * 4 + 2, none⟩ = some (.string ps[i].key) ∧ w.cell? ⟨b, o + (2 * i + 1) * 4, none⟩ = some (.int .i64 0) ∧ w.cell? ⟨b, o + (2 * i + 1) * 4 + 1, none⟩ = some (.int .i64 ps[i].val)
theorem PIts.only {T : Nat → Prop} {w w' : World} {a : Option Addr} {ps : List Pr} (h : PIts w a ps) (ho : Only T w w') (hT : ∀ j, T j → ¬ TyAt w j 70) : PIts w' a ps := fun i hi => by
  obtain ⟨b, o, rfl, ht, h1, h2, h3, h4⟩ := h i hi
  have hn : ¬ T b := fun e => hT b e ht
  refine ⟨b, o, rfl, ?_, ho.cell hn h1, ho.cell hn h2, ho.cell hn h3, ho.cell hn h4⟩
  obtain ⟨cs, x, hc⟩ := ht
  exact ⟨cs, x, (ho.block b (Array.getElem?_eq_some_iff.1 hc).1 hn).trans hc⟩
theorem u32w {n : Int} (h : U32 n) : IntKind.u32.wrap n = n := by
  obtain ⟨h0, h1⟩ := h
  simp [IntKind.wrap, IntKind.bits, IntKind.signed]
  omega
set_option maxHeartbeats 2000000 in
theorem does2_calls (B s bx : Nat) (S : Sk) (m : Nat) (ps : List Pr) (a : Option Addr) (c : Nat) (w : World) (h : SkAt w B s S) (hb : w.heap[bx]? = some (.cells #[.pointer (some ⟨s, 0, none⟩)] 29)) (hps : PIts w a ps) (hok : ∀ p ∈ ps, U32 p.val) (hc : 2 * ps.length ≤ c) (hc2 : c ≤ 9223372036854775807) (hl : ps.length ≤ 800) (hgl : S.gath.length ≤ 1000000) :
    Calls Tryz.prog 67 #[.int .i64 m, .slice a (2 * ps.length) c, .pointer (some ⟨bx, 0, none⟩)] w fun e w' => e = .returned (.bool true) ∧ DoneBy w w' B s S { S.m with gath := (if m = 0 then [] else S.gath) ++ ps } := by
  have hbt : TyAt w bx 29 := ⟨_, _, hb⟩
  have hbc : ∀ W : World, Only (S.foot s) w W → W.cell? ⟨bx, 0, none⟩ = some (.pointer (some ⟨s, 0, none⟩)) := fun W ho => by
    have hn : ¬ S.foot s bx := fun hf => by
      obtain ⟨e, he, ht⟩ := h.foot_ty hf
      have := ht.eq hbt
      subst this
      rcases he with he | he | he <;> exact absurd he (by decide)
    have := (ho.block bx (Array.getElem?_eq_some_iff.1 hb).1 hn).trans hb
    simp only [World.cell?, this]
    rfl
  have HBC := Lib.hid hbc
  have HXT := Lib.hid (show ∀ W : World, Only (S.foot s) w W → TyAt W bx 29 from fun W ho => by
    have hn : ¬ S.foot s bx := fun hf => by
      obtain ⟨e, he, ht⟩ := h.foot_ty hf
      have := ht.eq hbt
      subst this
      rcases he with he | he | he <;> exact absurd he (by decide)
    exact ⟨_, _, (ho.block bx (Array.getElem?_eq_some_iff.1 hb).1 hn).trans hb⟩)
  have hTi : ∀ j, S.foot s j → ¬ TyAt w j 70 := fun j hj ht => by
    obtain ⟨e, he, ht2⟩ := h.foot_ty hj
    have := ht2.eq ht
    subst this
    rcases he with he | he | he <;> exact absurd he (by decide)
  have HPI := Lib.hid (show ∀ W : World, Only (S.foot s) w W → PIts W a ps from fun W ho => hps.only ho hTi)
  have HOK := Lib.hid hok
  have h0 := hbc w (Only.refl _ _)
  obtain ⟨N, hN⟩ : ∃ N, N = 2 * ps.length := ⟨_, rfl⟩
  rw [← hN] at hc ⊢
  have HN := Lib.hid hN
  have HS := Lib.hid h
  obtain ⟨ga, gc, hgv⟩ := own_slice h.grow
  obtain ⟨-, -, -, -, c4, -, -⟩ := h.at
  have f4 := h.frz 4
  rw [hgv] at c4
  clear hbc hTi hb hbt hps hok h hN hgv
  by_cases hm : m = 0
  · rw [if_pos hm]
    have em : ((m : Int) == 0) = true := by rw [hm]; rfl
    clear hm
    obtain ⟨G0, hG0⟩ : ∃ G0 : List Pr, [] = G0 := ⟨_, rfl⟩
    rw [hG0]
    have HLEN := Lib.hid (show G0.length ≤ 1000000 from by rw [← hG0]; simp)
    go_enter Tryz.func67, Tryz.ntmps67
    go_wp2_with fail
    obtain ⟨V0, hV0⟩ : ∃ V0, V0 = w.setCell ⟨s, 4, none⟩ (.slice none 0 0) := ⟨_, rfl⟩
    have e0 := World.ownsRow.stored HS.out.box 4 (.slice none 0 0)
    have hon0 : Only (fun j => j = s) w (w.setCell ⟨s, 4, none⟩ (.slice none 0 0)) := (Only.of_grown e0.2).weak (fun j _ e => (Option.some.inj e).symm)
    obtain ⟨gv0, hgv0⟩ : ∃ v, v = Value.slice none 0 0 := ⟨_, rfl⟩
    have HS0 := Lib.hid (show SkAt V0 B s { S with gv := gv0, gath := G0 } from by
      rw [hV0, hgv0, ← hG0]
      exact HS.out.boxed hon0 e0.1 HS.out.erow HS.out.eps (PRow.nil _ _) HS.out.prow (fun j hj => by simp [Value.ownBlock] at hj))
    have HO0 := Lib.hid (show Only (S.foot s) w V0 from by rw [hV0]; exact hon0.weak (fun j _ e => .inl e))
    have HF0 := Lib.hid (show ∀ x, gv0.ownBlock = some x → S.gv.ownBlock = some x ∨ w.heap.size ≤ x from fun x hx => by rw [hgv0] at hx; simp [Value.ownBlock] at hx)
    rw [← hV0]
    clear hV0 e0 hon0 hgv0 hG0 c4 f4 h0
    -- the loop over the pairs, from the world V0, where gathered is G0 (in gv0)
    go_loopw [6] (fun iv wr => ∃ (j k : Nat) (gv : Value), j ≤ ps.length ∧ k = 2 * j ∧ iv = .int .i64 k ∧ SkAt wr B s { S with gv := gv, gath := G0 ++ ps.take j } ∧ Only (S.foot s) w wr ∧ ∀ x, gv.ownBlock = some x → S.gv.ownBlock = some x ∨ w.heap.size ≤ x) (fun iv _ => N - (intOf iv).toNat)
    case atStart => exact ⟨0, 0, gv0, by omega, by omega, rfl, by simpa using HS0.out, HO0.out, HF0.out⟩
    case round =>
      clear HS0 HO0 HF0
      obtain ⟨j, k, gv, hj, hk, rfl, hs, ho, hf⟩ := hrel
      have HS := Lib.hid hs
      have HO := Lib.hid ho
      have HF := Lib.hid hf
      have hn2 := HN.out
      have h0 := HBC.out wr ho
      obtain ⟨ga, gc, hgv⟩ := own_slice hs.grow
      simp only at hgv
      subst hgv
      obtain ⟨-, -, -, -, c4, -, -⟩ := hs.at
      have f4 := hs.frz 4
      simp only at c4
      have hkN : k ≤ N := by omega
      by_cases hlt : j < ps.length
      · obtain ⟨b, o, rfl, hbt, i1, i2, i3, i4⟩ := HPI.out wr ho j hlt
        rw [← hk] at i1 i2 i3 i4
        obtain ⟨p, hp⟩ : ∃ p, ps[j] = p := ⟨_, rfl⟩
        rw [hp] at i2 i4
        have hu := u32w (HOK.out p (by rw [← hp]; exact List.getElem_mem hlt))
        have HTK := Lib.hid (show ps.take (j + 1) = ps.take j ++ [p] by rw [List.take_succ_eq_append_getElem hlt, hp])
        have hgl2 : (G0 ++ ps.take j).length ≤ 1000800 := by rw [List.length_append, List.length_take]; have := HLEN.out; omega
        have d1 : decide ((k : Int) + 1 < (N : Int)) = true := decide_eq_true (by omega)
        have HK := Lib.hid hk
        have hlt1 : k < N := by omega
        have hlt2 : k + 1 < N := by omega
        have hcN : N ≤ c := by omega
        obtain ⟨pk, pv⟩ := p
        simp only at i2 i4 hu
        clear hs ho hf hk hp hn2
        generalize hGL : G0 ++ ps.take j = GL at *
        have HGL := Lib.hid hGL
        clear hGL
        go_wp2_with fail
        have q3 : 0 ≤ (k : Int) + 1 := by omega
        have q4 : (k : Int) + 1 < (N : Int) := by omega
        have q2 := w64 (n := (k : Int) + 1) (by omega) (by omega)
        have q1 := i64w (n := (k : Int) + 1) (by clear q2; omega) (by clear q2; omega)
        refine region_m [(0, false), (1, false), (2, false), (3, false), (4, false), (5, false), (6, false), (7, false), (8, false), (9, false), (10, false), (11, false), (12, false), (13, false), (14, false), (15, false), (16, false), (17, false), (18, true), (19, true), (20, false), (21, false)] 22 (fun X => X.cell? ⟨bx, 0, none⟩ = some (.pointer (some ⟨s, 0, none⟩)) ∧ X.cell? ⟨s, 4, none⟩ = some (.slice ga GL.length gc) ∧ X.cell? ⟨b, o + k * 4 + 2, none⟩ = some (.string pk) ∧ X.cell? ⟨b, o + (k + 1) * 4 + 1, none⟩ = some (.int .i64 pv)) (by kernel_rfl) (by kernel_rfl) ⟨h0, c4, i2, i4⟩ ?_
        iterate 18
          first
          | (refine m_take (v := ?_) rfl rfl ?_ ?_
             rotate_left
             · intro W hW
               go_simp
               with_reducible rfl
             simp only [Act.put, List.setIfInBounds_toArray, List.set_cons_zero, List.set_cons_succ])
          | (refine m_skip rfl rfl ?_
             simp only [Act.put, List.setIfInBounds_toArray, List.set_cons_zero, List.set_cons_succ])
        clear q1 q2 q3 q4
        refine m_loud rfl (fun K hK => ?_)
        have HK := Lib.hid hK
        clear hK
        go_simp
        obtain ⟨W1, hW1⟩ : ∃ W1, W1 = (wr.alloc (.cells #[.string pk, .int .u32 pv] 39)).drew := ⟨_, rfl⟩
        have hal : Below wr.heap.size wr W1 := by rw [hW1]; exact (below_alloc wr _).drew
        have H1 := Lib.hid (HS.out.below hal)
        have HLIT := Lib.hid (show Rd W1 2 (.slice (some ⟨wr.heap.size, 0, none⟩) 1 1) 1 [.string pk, .int .u32 pv] by rw [hW1]; exact (Rd.lit (w := wr) (cs := #[.string pk, .int .u32 pv]) (e := 39) (n := 1) (sz := 2) rfl (by omega)).below ((Below.refl _ _).drew) (Nat.le_refl _))
        have hBs : B ≤ W1.heap.size := by have := (H1.out.foot_lt (.inl rfl)); omega
        have HB1 := Lib.hid hal
        have g0 := cell_later hal h0
        have g2 := cell_later hal i2
        have g4 := cell_later hal i4
        have HT1 := Lib.hid (show TyAt W1 b 70 from by
          obtain ⟨cs, x, hc⟩ := hbt
          exact ⟨cs, x, (hal.block b (Array.getElem?_eq_some_iff.1 hc).1).trans hc⟩)
        rw [← hW1]
        refine HK.out _ _ ⟨g0, cell_later hal c4, g2, g4⟩ ?_
        clear HK
        clear hW1 hal h0 c4 f4 i1 i2 i3 i4 hbt
        refine m_app tyPairs (base := B) (n := GL.length) (v := .slice ga GL.length gc) (xs := flatF Pr.cells GL) H1.out.grow HLIT.out (by simp [Value.oneCell']) (by omega) (by omega) (by omega) hBs rfl rfl rfl rfl rfl ?_
        intro g gcap w2 ho2 hold2 hg2 hgc2
        have HGC := Lib.hid hgc2
        have HGR := Lib.hid (H1.out.grown (xs := [⟨pk, pv⟩]) ho2 rfl hg2 hgc2 rfl)
        have hon2 := Only.of_grown hg2
        have hng : ∀ x, (Value.slice ga GL.length gc).ownBlock = some x → TyAt W1 x 39 := fun x hx => H1.out.grow.ty hx
        have hnb : ¬ (Value.slice ga GL.length gc).ownBlock = some b := fun e => absurd ((hng b e).eq HT1.out) (by decide)
        have hns : ¬ (Value.slice ga GL.length gc).ownBlock = some s := fun e => absurd ((hng s e).eq (own_ty H1.out.box (j := s) rfl)) (by decide)
        have hnx : ¬ (Value.slice ga GL.length gc).ownBlock = some bx := fun e => by
          have hx := HXT.out W1 ((HO.out.trans (Only.of_below (S := S.foot s) HB1.out) (fun j _ e => e)))
          exact absurd ((hng bx e).eq hx) (by decide)
        have hbx2 := ownsRow_only H1.out.box hon2 (fun j hj e => hns (by simp only [Value.ownBlock, Option.some.injEq] at hj; subst hj; exact e))
        have c42 : w2.cell? ⟨s, 4, none⟩ = some (.slice ga GL.length gc) := by
          have := World.ownsRow.cells hbx2 (g := s) rfl 4 _ rfl
          simpa only [add_off, Nat.zero_add] using this
        have f42 : w2.frozen? ⟨s, 4, none⟩ = false := World.ownsRow.frozenAt hbx2 4
        refine ⟨⟨hon2.cell (b := bx) (o := 0) hnx g0, c42, hon2.cell (b := b) hnb g2, hon2.cell (b := b) hnb g4⟩, ?_⟩
        clear ho2 hold2 hg2 hgc2 hon2 hng hnb hns hnx hbx2 g0 g2 g4
        iterate 2
          first
          | (refine m_take (v := ?_) rfl rfl ?_ ?_
             rotate_left
             · intro W hW
               go_simp
               with_reducible rfl
             simp only [Act.put, List.setIfInBounds_toArray, List.set_cons_zero, List.set_cons_succ])
          | (refine m_skip rfl rfl ?_
             simp only [Act.put, List.setIfInBounds_toArray, List.set_cons_zero, List.set_cons_succ])
        refine m_done ?_
        simp only [List.drop_succ_cons, List.drop_zero]
        go_wp2_with fail
        simp only [NP]
        go_wp2_with fail
        go_roundw
        case rel =>
          obtain ⟨r1, r2, r3⟩ := HGR.out
          refine ⟨j + 1, k + 2, .slice (some ⟨g, 0, none⟩) (GL.length + 1) gcap, by omega, by have := HK.out; omega, by go_num, ?_, ?_, ?_⟩
          · have e : G0 ++ ps.take (j + 1) = GL ++ [⟨pk, pv⟩] := by rw [HTK.out, ← List.append_assoc, HGL.out]
            rw [e]
            exact r1
          · exact (HO.out.trans (Only.of_below (S := S.foot s) HB1.out) (fun j _ e => e)).trans r2 (fun x hx e => by
              rcases e with e | e | e | e | e
              · exact .inl e
              · exact .inr (.inl e)
              · rcases HF.out x e with e | e
                · exact .inr (.inr (.inl e))
                · omega
              · exact .inr (.inr (.inr (.inl e)))
              · exact .inr (.inr (.inr (.inr e))))
          · intro x hx
            have hx : some g = some x := hx
            simp only [Option.some.injEq] at hx
            subst hx
            rcases HGC.out with ⟨k', c', e, -⟩ | e
            · exact HF.out g (by rw [e]; rfl)
            · have := HO.out.size
              have := HB1.out.size
              right
              omega
        case measure => simp [intOf]; omega
      · have hjl : j = ps.length := by omega
        have d1 : decide ((k : Int) + 1 < (N : Int)) = false := decide_eq_false (by omega)
        have hrem : ((N : Int).tmod 2 == 0) = true := by
          have : (N : Int).tmod 2 = 0 := by rw [Int.tmod_eq_emod_of_nonneg (by omega)]; omega
          rw [this]; rfl
        have hrem2 : (N : Int) % 2 = 0 := by omega
        have hN16 : N ≤ 1600 := by omega
        have hmn : decide ((0 : Int) ≤ (m : Int)) = true := decide_eq_true (by omega)
        have HJ := Lib.hid (And.intro hjl hk)
        clear hs ho hf hk hjl hn2
        go_wp2_with fail
        go_ret
        have ej := HJ.out.1
        refine ⟨rfl, _, HS.out, ?_, rfl, rfl, HO.out, ?_⟩
        · rw [ej, List.take_length]
          rfl
        · rintro x (e | e | e | e | e)
          · exact .inl (.inl e)
          · exact .inl (.inr (.inl e))
          · exact (HF.out x e).elim (fun e => .inl (.inr (.inr (.inl e)))) .inr
          · exact .inl (.inr (.inr (.inr (.inl e))))
          · exact .inl (.inr (.inr (.inr (.inr e))))
  · rw [if_neg hm]
    have em : ((m : Int) == 0) = false := by rw [beq_eq_false_iff_ne]; omega
    clear hm
    obtain ⟨G0, hG0⟩ : ∃ G0 : List Pr, S.gath = G0 := ⟨_, rfl⟩
    rw [hG0] at hgl ⊢
    have HLEN := Lib.hid hgl
    obtain ⟨gv0, hgv0⟩ : ∃ v, v = S.gv := ⟨_, rfl⟩
    have HS0 := Lib.hid (show SkAt w B s { S with gv := gv0, gath := G0 } from by rw [hgv0, ← hG0]; exact HS.out)
    have HO0 := Lib.hid (Only.refl (S.foot s) w)
    have HF0 := Lib.hid (show ∀ x, gv0.ownBlock = some x → S.gv.ownBlock = some x ∨ w.heap.size ≤ x from fun x hx => .inl (by rw [← hgv0]; exact hx))
    clear hgv0 hG0 c4 f4 h0
    go_enter Tryz.func67, Tryz.ntmps67
    go_wp2_with fail
    -- the loop over the pairs, from the world V0, where gathered is G0 (in gv0)
    go_loopw [6] (fun iv wr => ∃ (j k : Nat) (gv : Value), j ≤ ps.length ∧ k = 2 * j ∧ iv = .int .i64 k ∧ SkAt wr B s { S with gv := gv, gath := G0 ++ ps.take j } ∧ Only (S.foot s) w wr ∧ ∀ x, gv.ownBlock = some x → S.gv.ownBlock = some x ∨ w.heap.size ≤ x) (fun iv _ => N - (intOf iv).toNat)
    case atStart => exact ⟨0, 0, gv0, by omega, by omega, rfl, by simpa using HS0.out, HO0.out, HF0.out⟩
    case round =>
      clear HS0 HO0 HF0
      obtain ⟨j, k, gv, hj, hk, rfl, hs, ho, hf⟩ := hrel
      have HS := Lib.hid hs
      have HO := Lib.hid ho
      have HF := Lib.hid hf
      have hn2 := HN.out
      have h0 := HBC.out wr ho
      obtain ⟨ga, gc, hgv⟩ := own_slice hs.grow
      simp only at hgv
      subst hgv
      obtain ⟨-, -, -, -, c4, -, -⟩ := hs.at
      have f4 := hs.frz 4
      simp only at c4
      have hkN : k ≤ N := by omega
      by_cases hlt : j < ps.length
      · obtain ⟨b, o, rfl, hbt, i1, i2, i3, i4⟩ := HPI.out wr ho j hlt
        rw [← hk] at i1 i2 i3 i4
        obtain ⟨p, hp⟩ : ∃ p, ps[j] = p := ⟨_, rfl⟩
        rw [hp] at i2 i4
        have hu := u32w (HOK.out p (by rw [← hp]; exact List.getElem_mem hlt))
        have HTK := Lib.hid (show ps.take (j + 1) = ps.take j ++ [p] by rw [List.take_succ_eq_append_getElem hlt, hp])
        have hgl2 : (G0 ++ ps.take j).length ≤ 1000800 := by rw [List.length_append, List.length_take]; have := HLEN.out; omega
        have d1 : decide ((k : Int) + 1 < (N : Int)) = true := decide_eq_true (by omega)
        have HK := Lib.hid hk
        have hlt1 : k < N := by omega
        have hlt2 : k + 1 < N := by omega
        have hcN : N ≤ c := by omega
        obtain ⟨pk, pv⟩ := p
        simp only at i2 i4 hu
        clear hs ho hf hk hp hn2
        generalize hGL : G0 ++ ps.take j = GL at *
        have HGL := Lib.hid hGL
        clear hGL
        go_wp2_with fail
        have q3 : 0 ≤ (k : Int) + 1 := by omega
        have q4 : (k : Int) + 1 < (N : Int) := by omega
        have q2 := w64 (n := (k : Int) + 1) (by omega) (by omega)
        have q1 := i64w (n := (k : Int) + 1) (by clear q2; omega) (by clear q2; omega)
        refine region_m [(0, false), (1, false), (2, false), (3, false), (4, false), (5, false), (6, false), (7, false), (8, false), (9, false), (10, false), (11, false), (12, false), (13, false), (14, false), (15, false), (16, false), (17, false), (18, true), (19, true), (20, false), (21, false)] 22 (fun X => X.cell? ⟨bx, 0, none⟩ = some (.pointer (some ⟨s, 0, none⟩)) ∧ X.cell? ⟨s, 4, none⟩ = some (.slice ga GL.length gc) ∧ X.cell? ⟨b, o + k * 4 + 2, none⟩ = some (.string pk) ∧ X.cell? ⟨b, o + (k + 1) * 4 + 1, none⟩ = some (.int .i64 pv)) (by kernel_rfl) (by kernel_rfl) ⟨h0, c4, i2, i4⟩ ?_
        iterate 18
          first
          | (refine m_take (v := ?_) rfl rfl ?_ ?_
             rotate_left
             · intro W hW
               go_simp
               with_reducible rfl
             simp only [Act.put, List.setIfInBounds_toArray, List.set_cons_zero, List.set_cons_succ])
          | (refine m_skip rfl rfl ?_
             simp only [Act.put, List.setIfInBounds_toArray, List.set_cons_zero, List.set_cons_succ])
        clear q1 q2 q3 q4
        refine m_loud rfl (fun K hK => ?_)
        have HK := Lib.hid hK
        clear hK
        go_simp
        obtain ⟨W1, hW1⟩ : ∃ W1, W1 = (wr.alloc (.cells #[.string pk, .int .u32 pv] 39)).drew := ⟨_, rfl⟩
        have hal : Below wr.heap.size wr W1 := by rw [hW1]; exact (below_alloc wr _).drew
        have H1 := Lib.hid (HS.out.below hal)
        have HLIT := Lib.hid (show Rd W1 2 (.slice (some ⟨wr.heap.size, 0, none⟩) 1 1) 1 [.string pk, .int .u32 pv] by rw [hW1]; exact (Rd.lit (w := wr) (cs := #[.string pk, .int .u32 pv]) (e := 39) (n := 1) (sz := 2) rfl (by omega)).below ((Below.refl _ _).drew) (Nat.le_refl _))
        have hBs : B ≤ W1.heap.size := by have := (H1.out.foot_lt (.inl rfl)); omega
        have HB1 := Lib.hid hal
        have g0 := cell_later hal h0
        have g2 := cell_later hal i2
        have g4 := cell_later hal i4
        have HT1 := Lib.hid (show TyAt W1 b 70 from by
          obtain ⟨cs, x, hc⟩ := hbt
          exact ⟨cs, x, (hal.block b (Array.getElem?_eq_some_iff.1 hc).1).trans hc⟩)
        rw [← hW1]
        refine HK.out _ _ ⟨g0, cell_later hal c4, g2, g4⟩ ?_
        clear HK
        clear hW1 hal h0 c4 f4 i1 i2 i3 i4 hbt
        refine m_app tyPairs (base := B) (n := GL.length) (v := .slice ga GL.length gc) (xs := flatF Pr.cells GL) H1.out.grow HLIT.out (by simp [Value.oneCell']) (by omega) (by omega) (by omega) hBs rfl rfl rfl rfl rfl ?_
        intro g gcap w2 ho2 hold2 hg2 hgc2
        have HGC := Lib.hid hgc2
        have HGR := Lib.hid (H1.out.grown (xs := [⟨pk, pv⟩]) ho2 rfl hg2 hgc2 rfl)
        have hon2 := Only.of_grown hg2
        have hng : ∀ x, (Value.slice ga GL.length gc).ownBlock = some x → TyAt W1 x 39 := fun x hx => H1.out.grow.ty hx
        have hnb : ¬ (Value.slice ga GL.length gc).ownBlock = some b := fun e => absurd ((hng b e).eq HT1.out) (by decide)
        have hns : ¬ (Value.slice ga GL.length gc).ownBlock = some s := fun e => absurd ((hng s e).eq (own_ty H1.out.box (j := s) rfl)) (by decide)
        have hnx : ¬ (Value.slice ga GL.length gc).ownBlock = some bx := fun e => by
          have hx := HXT.out W1 ((HO.out.trans (Only.of_below (S := S.foot s) HB1.out) (fun j _ e => e)))
          exact absurd ((hng bx e).eq hx) (by decide)
        have hbx2 := ownsRow_only H1.out.box hon2 (fun j hj e => hns (by simp only [Value.ownBlock, Option.some.injEq] at hj; subst hj; exact e))
        have c42 : w2.cell? ⟨s, 4, none⟩ = some (.slice ga GL.length gc) := by
          have := World.ownsRow.cells hbx2 (g := s) rfl 4 _ rfl
          simpa only [add_off, Nat.zero_add] using this
        have f42 : w2.frozen? ⟨s, 4, none⟩ = false := World.ownsRow.frozenAt hbx2 4
        refine ⟨⟨hon2.cell (b := bx) (o := 0) hnx g0, c42, hon2.cell (b := b) hnb g2, hon2.cell (b := b) hnb g4⟩, ?_⟩
        clear ho2 hold2 hg2 hgc2 hon2 hng hnb hns hnx hbx2 g0 g2 g4
        iterate 2
          first
          | (refine m_take (v := ?_) rfl rfl ?_ ?_
             rotate_left
             · intro W hW
               go_simp
               with_reducible rfl
             simp only [Act.put, List.setIfInBounds_toArray, List.set_cons_zero, List.set_cons_succ])
          | (refine m_skip rfl rfl ?_
             simp only [Act.put, List.setIfInBounds_toArray, List.set_cons_zero, List.set_cons_succ])
        refine m_done ?_
        simp only [List.drop_succ_cons, List.drop_zero]
        go_wp2_with fail
        simp only [NP]
        go_wp2_with fail
        go_roundw
        case rel =>
          obtain ⟨r1, r2, r3⟩ := HGR.out
          refine ⟨j + 1, k + 2, .slice (some ⟨g, 0, none⟩) (GL.length + 1) gcap, by omega, by have := HK.out; omega, by go_num, ?_, ?_, ?_⟩
          · have e : G0 ++ ps.take (j + 1) = GL ++ [⟨pk, pv⟩] := by rw [HTK.out, ← List.append_assoc, HGL.out]
            rw [e]
            exact r1
          · exact (HO.out.trans (Only.of_below (S := S.foot s) HB1.out) (fun j _ e => e)).trans r2 (fun x hx e => by
              rcases e with e | e | e | e | e
              · exact .inl e
              · exact .inr (.inl e)
              · rcases HF.out x e with e | e
                · exact .inr (.inr (.inl e))
                · omega
              · exact .inr (.inr (.inr (.inl e)))
              · exact .inr (.inr (.inr (.inr e))))
          · intro x hx
            have hx : some g = some x := hx
            simp only [Option.some.injEq] at hx
            subst hx
            rcases HGC.out with ⟨k', c', e, -⟩ | e
            · exact HF.out g (by rw [e]; rfl)
            · have := HO.out.size
              have := HB1.out.size
              right
              omega
        case measure => simp [intOf]; omega
      · have hjl : j = ps.length := by omega
        have d1 : decide ((k : Int) + 1 < (N : Int)) = false := decide_eq_false (by omega)
        have hrem : ((N : Int).tmod 2 == 0) = true := by
          have : (N : Int).tmod 2 = 0 := by rw [Int.tmod_eq_emod_of_nonneg (by omega)]; omega
          rw [this]; rfl
        have hrem2 : (N : Int) % 2 = 0 := by omega
        have hN16 : N ≤ 1600 := by omega
        have hmn : decide ((0 : Int) ≤ (m : Int)) = true := decide_eq_true (by omega)
        have HJ := Lib.hid (And.intro hjl hk)
        clear hs ho hf hk hjl hn2
        go_wp2_with fail
        go_ret
        have ej := HJ.out.1
        refine ⟨rfl, _, HS.out, ?_, rfl, rfl, HO.out, ?_⟩
        · rw [ej, List.take_length]
          rfl
        · rintro x (e | e | e | e | e)
          · exact .inl (.inl e)
          · exact .inl (.inr (.inl e))
          · exact (HF.out x e).elim (fun e => .inl (.inr (.inr (.inl e)))) .inr
          · exact .inl (.inr (.inr (.inr (.inl e))))
          · exact .inl (.inr (.inr (.inr (.inr e))))
end Go.Proofs.YthgmligpconhhaaGreatDoor

/- Layer 24: a line is done, walked. -/
namespace Go.Proofs.YthgmligpconhhaaGreatDoor
open Go.RowKit Go.Shelf
set_option linter.unusedVariables false
set_option linter.unusedSimpArgs false
set_option maxRecDepth 100000

def fns (bx : Nat) : List Value := [.func (.func 66) #[] #[.pointer (some ⟨bx, 0, none⟩)], .func (.func 67) #[] #[.pointer (some ⟨bx, 0, none⟩)], .func (.func 68) #[] #[.pointer (some ⟨bx, 0, none⟩)], .func (.func 69) #[] #[.pointer (some ⟨bx, 0, none⟩)], .func (.func 70) #[] #[.pointer (some ⟨bx, 0, none⟩)]]
theorem does_calls (s : Nat) (w : World) : Calls Tryz.prog 45 #[.pointer (some ⟨s, 0, none⟩)] w fun e w' => e = .returned (.agg (fns w.heap.size).toArray) ∧ Below w.heap.size w w' ∧ w'.heap[w.heap.size]? = some (.cells #[.pointer (some ⟨s, 0, none⟩)] 29) := by
  go_enter Tryz.func45, Tryz.ntmps45
  go_wp2_with fail
  refine bodyPost_ret (v := .agg (fns w.heap.size).toArray) (res_cell Tryz.results45 rfl (run_loadVar_mid (P := Tryz.prog) _ _ _ 107 (fns w.heap.size) _ ?_ Tryz.underlying107 rfl (by show _ = some 5; kernel_rfl))) rfl ⟨rfl, ?_, ?_⟩
  · rw [← World.size_alloc w (.cells #[.pointer (some ⟨s, 0, none⟩)] 29)]
    exact range_box (cs := fns w.heap.size)
  · exact ((Below.refl _ w).alloc (Nat.le_refl _) _).alloc (by simp) _
  · rw [Below.heap_alloc _ _ _ (by simp), World.alloc_heap_new]

theorem idx0 (bx : Nat) (W : World) : (Instr.index 107 (.agg #[.func (.func 66) #[] #[.pointer (some ⟨bx, 0, none⟩)], .func (.func 67) #[] #[.pointer (some ⟨bx, 0, none⟩)], .func (.func 68) #[] #[.pointer (some ⟨bx, 0, none⟩)], .func (.func 69) #[] #[.pointer (some ⟨bx, 0, none⟩)], .func (.func 70) #[] #[.pointer (some ⟨bx, 0, none⟩)]]) (.int .i64 0)).run Tryz.prog W = .ok (.func (.func 66) #[] #[.pointer (some ⟨bx, 0, none⟩)]) W := by kernel_rfl
theorem idx1 (bx : Nat) (W : World) : (Instr.index 107 (.agg #[.func (.func 66) #[] #[.pointer (some ⟨bx, 0, none⟩)], .func (.func 67) #[] #[.pointer (some ⟨bx, 0, none⟩)], .func (.func 68) #[] #[.pointer (some ⟨bx, 0, none⟩)], .func (.func 69) #[] #[.pointer (some ⟨bx, 0, none⟩)], .func (.func 70) #[] #[.pointer (some ⟨bx, 0, none⟩)]]) (.int .i64 1)).run Tryz.prog W = .ok (.func (.func 67) #[] #[.pointer (some ⟨bx, 0, none⟩)]) W := by kernel_rfl
theorem idx2 (bx : Nat) (W : World) : (Instr.index 107 (.agg #[.func (.func 66) #[] #[.pointer (some ⟨bx, 0, none⟩)], .func (.func 67) #[] #[.pointer (some ⟨bx, 0, none⟩)], .func (.func 68) #[] #[.pointer (some ⟨bx, 0, none⟩)], .func (.func 69) #[] #[.pointer (some ⟨bx, 0, none⟩)], .func (.func 70) #[] #[.pointer (some ⟨bx, 0, none⟩)]]) (.int .i64 2)).run Tryz.prog W = .ok (.func (.func 68) #[] #[.pointer (some ⟨bx, 0, none⟩)]) W := by kernel_rfl
theorem idx3 (bx : Nat) (W : World) : (Instr.index 107 (.agg #[.func (.func 66) #[] #[.pointer (some ⟨bx, 0, none⟩)], .func (.func 67) #[] #[.pointer (some ⟨bx, 0, none⟩)], .func (.func 68) #[] #[.pointer (some ⟨bx, 0, none⟩)], .func (.func 69) #[] #[.pointer (some ⟨bx, 0, none⟩)], .func (.func 70) #[] #[.pointer (some ⟨bx, 0, none⟩)]]) (.int .i64 3)).run Tryz.prog W = .ok (.func (.func 69) #[] #[.pointer (some ⟨bx, 0, none⟩)]) W := by kernel_rfl
theorem idx4 (bx : Nat) (W : World) : (Instr.index 107 (.agg #[.func (.func 66) #[] #[.pointer (some ⟨bx, 0, none⟩)], .func (.func 67) #[] #[.pointer (some ⟨bx, 0, none⟩)], .func (.func 68) #[] #[.pointer (some ⟨bx, 0, none⟩)], .func (.func 69) #[] #[.pointer (some ⟨bx, 0, none⟩)], .func (.func 70) #[] #[.pointer (some ⟨bx, 0, none⟩)]]) (.int .i64 4)).run Tryz.prog W = .ok (.func (.func 70) #[] #[.pointer (some ⟨bx, 0, none⟩)]) W := by kernel_rfl

/-! ### A line's bytes -/
theorem iI_len (n : Int) : (encI 8 (iI n)).length ≤ 12 := by
  show (UInt8.ofNat (0 : Int).toNat :: num (zig n)).length ≤ 12
  have := (num_len (zig n)).1
  rw [List.length_cons]; omega
theorem iT_len (s : ByteArray) : (encI 8 (iT s)).length ≤ 12 + s.size := by
  show (UInt8.ofNat (1 : Int).toNat :: (num s.size ++ s.data.toList)).length ≤ 12 + s.size
  have := (num_len s.size).1
  have e : s.data.toList.length = s.size := by rw [Array.length_toList]; rfl
  rw [List.length_cons, List.length_append, e]
  omega
theorem iI_ok {n : Int} (h : -9223372036854775808 ≤ n ∧ n ≤ 9223372036854775807) : okI 8 (iI n) := .inl ⟨rfl, h, rfl, rfl⟩
theorem iT_ok {s : ByteArray} (h : s.size ≤ 65536) : okI 8 (iT s) := .inr (.inl ⟨rfl, rfl, h, rfl⟩)
theorem pr_its : ∀ (ps : List Pr), (∀ p ∈ ps, p.ok) → (∀ i ∈ ps.flatMap prI, okI 8 i) ∧ ((ps.flatMap prI).map (szI 8)).sum = 2 * ps.length ∧ (enc (ps.flatMap prI)).length ≤ 56 * ps.length
  | [], _ => ⟨(fun i hi => by cases hi), rfl, by simp [enc]⟩
  | p :: r, h => by
    obtain ⟨h1, h2, h3⟩ := pr_its r (fun q hq => h q (List.mem_cons_of_mem _ hq))
    obtain ⟨hk, hv⟩ := h p List.mem_cons_self
    have hv2 : -9223372036854775808 ≤ p.val ∧ p.val ≤ 9223372036854775807 := by unfold U32 at hv; omega
    refine ⟨fun i hi => ?_, ?_, ?_⟩
    · rw [List.flatMap_cons] at hi
      rcases List.mem_append.1 hi with hi | hi
      · simp only [prI, List.mem_cons, List.not_mem_nil, or_false] at hi
        rcases hi with rfl | rfl
        · exact iT_ok (by omega)
        · exact iI_ok hv2
      · exact h1 i hi
    · rw [List.flatMap_cons, List.map_append, List.sum_append, h2, List.length_cons]
      show (szI 8 (iT p.key) + (szI 8 (iI p.val) + 0)) + _ = _
      have e1 : szI 8 (iT p.key) = 1 := rfl
      have e2 : szI 8 (iI p.val) = 1 := rfl
      omega
    · unfold enc at h3 ⊢
      rw [List.flatMap_cons, List.flatMap_append, List.length_append, List.length_cons]
      have e : (prI p).flatMap (encI 8) = encI 8 (iT p.key) ++ (encI 8 (iI p.val) ++ []) := rfl
      rw [e, List.append_nil, List.length_append]
      have := iT_len p.key
      have := iI_len p.val
      omega
theorem rest_its {x : Ln} (h : x.ok) : (∀ i ∈ x.rest, okI 8 i) ∧ (x.rest.map (szI 8)).sum ≤ 1600 ∧ (enc x.rest).length ≤ 44800 := by
  cases x with
  | stage n ps =>
    obtain ⟨h1, h2, h3⟩ := pr_its ps h.2.2
    have := h.2.1
    exact ⟨h1, by show ((ps.flatMap prI).map (szI 8)).sum ≤ _; omega, by show (enc (ps.flatMap prI)).length ≤ _; omega⟩
  | _ => exact ⟨(fun i hi => by cases hi), by simp [Ln.rest], by simp [Ln.rest, enc]⟩
theorem kind_ok (x : Ln) : 0 ≤ x.kind ∧ x.kind ≤ 4 := by cases x <;> simp [Ln.kind]
theorem its_ok {x : Ln} (h : x.ok) : (∀ i ∈ x.its, okI 8 i) ∧ (x.its.map (szI 8)).sum ≤ 4096 ∧ x.enc.length ≤ 65536 := by
  obtain ⟨h1, h2, h3⟩ := rest_its h
  have hk := kind_ok x
  unfold Ln.enc
  rw [x.its_eq]
  refine ⟨fun i hi => ?_, ?_, ?_⟩
  · rcases List.mem_cons.1 hi with rfl | hi
    · exact iI_ok (by omega)
    · rcases List.mem_cons.1 hi with rfl | hi
      · exact iI_ok h.1
      · exact h1 i hi
  · rw [List.map_cons, List.map_cons, List.sum_cons, List.sum_cons]
    have e1 : ∀ n, szI 8 (iI n) = 1 := fun n => rfl
    rw [e1, e1]
    omega
  · unfold enc at h3 ⊢
    rw [List.flatMap_cons, List.flatMap_cons, List.length_append, List.length_append]
    have := iI_len x.kind
    have := iI_len x.num
    omega
theorem dec_ln {x : Ln} (h : x.ok) : dec x.enc = some x.its := by
  obtain ⟨h1, h2, h3⟩ := its_ok h
  exact dec_enc h1 h2 h3

theorem prI_get : ∀ (ps : List Pr) (i : Nat) (hi : i < ps.length), (ps.flatMap prI)[2 * i]? = some (iT ps[i].key) ∧ (ps.flatMap prI)[2 * i + 1]? = some (iI ps[i].val)
  | p :: r, 0, _ => ⟨rfl, rfl⟩
  | p :: r, i + 1, hi => by
    have ih := prI_get r i (by simpa using hi)
    have e : (p :: r).flatMap prI = iT p.key :: iI p.val :: r.flatMap prI := rfl
    rw [e, show 2 * (i + 1) = 2 * i + 2 by omega, show 2 * i + 2 + 1 = 2 * i + 1 + 2 by omega]
    simp only [List.getElem?_cons_succ, List.getElem_cons_succ]
    exact ih
theorem prI_length : ∀ (ps : List Pr), (ps.flatMap prI).length = 2 * ps.length
  | [] => rfl
  | p :: r => by
    rw [List.flatMap_cons, List.length_append, prI_length r, List.length_cons]
    show 2 + _ = _
    omega
/-- The cells of the decoded items. -/
theorem item_cell {w : World} {B N c : Nat} {a : Option Addr} {ys : List Iv} (h : w.ownsRow B 70 4 (.slice a N c) ys.length (flatF Iv.cells ys)) (i : Nat) {y : Itc} (hy : (ys.map Iv.c)[i]? = some y) :
    ∃ b, a = some ⟨b, 0, none⟩ ∧ N = ys.length ∧ N ≤ c ∧ c ≤ 9223372036854775807 ∧ TyAt w b 70 ∧ B ≤ b ∧ w.cell? ⟨b, i * 4, none⟩ = some (.int .i64 y.k) ∧ w.cell? ⟨b, i * 4 + 1, none⟩ = some (.int .i64 y.n) ∧ w.cell? ⟨b, i * 4 + 2, none⟩ = some (.string y.s) := by
  rw [List.getElem?_map] at hy
  cases hq : ys[i]? with
  | none => rw [hq] at hy; cases hy
  | some z =>
    rw [hq] at hy
    simp only [Option.map_some, Option.some.injEq] at hy
    subst hy
    have hi := (List.getElem?_eq_some_iff.1 hq).1
    have hz := (List.getElem?_eq_some_iff.1 hq).2
    rcases h.2 with ⟨_, h0⟩ | ⟨g, cap, cur, hv, hb, hg, hn, hm, -⟩
    · omega
    · simp only [Value.slice.injEq] at hv
      obtain ⟨rfl, rfl, rfl⟩ := hv
      have hc := fun j u hj => World.ownsRow.cells h (g := g) rfl j u hj
      simp only [add_off, Nat.zero_add] at hc
      have hf := fun r hr => flatF_get (k := 4) iv4 ys i r hi hr
      rw [hz] at hf
      exact ⟨g, rfl, rfl, hn, hm, ⟨_, _, hg⟩, hb, hc _ _ (hf 0 (by omega)), hc _ _ (hf 1 (by omega)), hc _ _ (hf 2 (by omega))⟩

theorem DoneBy.after {w w2 w3 : World} {B s : Nat} {S : Sk} {M : SM} (h : DoneBy w2 w3 B s S M) (hb : Below w.heap.size w w2) : DoneBy w w3 B s S M := by
  obtain ⟨S', h1, h2, h3, h4, h5, h6⟩ := h
  exact ⟨S', h1, h2, h3, h4, (Only.of_below (S := S.foot s) hb).trans h5 (fun j _ e => e), fun j hj => (h6 j hj).imp id (fun e => Nat.le_trans hb.size e)⟩
set_option maxHeartbeats 4000000 in
theorem line_calls (B s : Nat) (S : Sk) (x : Ln) (M' : SM) (v : Value) (w : World) (h : SkAt w B s S) (hv : Bytes w v x.enc) (hx : x.ok) (hst : stp S.m x = some M') (hgl : S.gath.length ≤ 1000000) (hel : S.eps.length ≤ 1000000) :
    Calls Tryz.prog 20 #[.pointer (some ⟨s, 0, none⟩), v] w fun e w' => e = .returned (.bool true) ∧ DoneBy w w' B s S M' := by
  have HS := Lib.hid h
  have HV := Lib.hid hv
  have HX := Lib.hid hx
  have HST := Lib.hid hst
  obtain ⟨va, vc, rfl, -⟩ := hv
  have hlen := (its_ok hx).2.2
  have hk := kind_ok x
  clear h hx hst
  go_enter Tryz.func20, Tryz.ntmps20
  go_wp2_with fail
  refine (wdecode2_calls _ x.enc w HV.out (by omega)).mono ?_
  rintro e w1 ⟨lv, cd, rfl, hb1, -, hd⟩
  unfold DecRes2 at hd
  rw [dec_ln HX.out] at hd
  obtain ⟨rfl, ys, hys, hrow, -⟩ := hd
  rw [x.its_eq] at hys
  have hyl : ys.length = x.rest.length + 2 := by have := congrArg List.length hys; simpa using this
  obtain ⟨la, lc, rfl⟩ := own_slice hrow
  obtain ⟨b, rfl, -, hc1, hc2, hbt, hbl, p0, p1, -⟩ := item_cell hrow 0 (y := iI x.kind) (by rw [hys]; rfl)
  obtain ⟨b', hb', -, -, -, -, -, p2, p3, -⟩ := item_cell hrow 1 (y := iI x.num) (by rw [hys]; rfl)
  simp only [Option.some.injEq, Addr.mk.injEq, and_true] at hb'
  subst hb'
  have HYS := Lib.hid hys
  have HROW := Lib.hid hrow
  have HB1 := Lib.hid hb1
  have HBT := Lib.hid (And.intro hbt hbl)
  simp only [Nat.zero_mul, Nat.one_mul, Nat.zero_add] at p0 p1 p2 p3
  have i0 : w1.cell? ⟨b, 0, none⟩ = some (.int .i64 0) := p0
  have i1 : w1.cell? ⟨b, 1, none⟩ = some (.int .i64 x.kind) := p1
  have j0 : w1.cell? ⟨b, 4, none⟩ = some (.int .i64 0) := p2
  have j1 : w1.cell? ⟨b, 5, none⟩ = some (.int .i64 x.num) := p3
  obtain ⟨N, hN⟩ : ∃ N, N = ys.length := ⟨_, rfl⟩
  rw [← hN] at hyl hc1 HROW ⊢
  have HN := Lib.hid hyl
  have hN2 : 2 ≤ N := by omega
  have hNr : N ≤ 1602 := by
    have h1 := (rest_its HX.out).2.1
    have h2 : x.rest.length ≤ (x.rest.map (szI 8)).sum := len_le_sum 8 x.rest (rest_its HX.out).1
    omega
  have dN : decide ((N : Int) < 2) = false := decide_eq_false (by omega)
  have dk0 : decide (x.kind < 0) = false := decide_eq_false (by omega)
  have dk5 : decide (5 ≤ x.kind) = false := decide_eq_false (by omega)
  clear hb1 hys hrow hbt hbl hyl hN p0 p1 p2 p3
  go_upto_region 4 with fail
  have z1 : (2 : Int) ≤ (N : Int) := by omega
  have z2 : (N : Int) ≤ (lc : Int) := by omega
  have z3 : (0 : Int) ≤ (lc : Int) := by omega
  have z4 : (0 : Int) < (N : Int) := by omega
  have z5 : (1 : Int) < (N : Int) := by omega
  have z6 : 0 < N := by omega
  cases x with
  | hears n =>
    have hst := HST.out
    simp only [stp] at hst
    split at hst
    · rename_i hg
      have HG := Lib.hid hg
      clear hg
      simp only [Option.some.injEq] at hst
      have HM := Lib.hid hst
      clear hst
      have h0 : N - 2 = 0 := by have := HN.out; simp only [Ln.rest, List.length_nil] at this; omega
      simp only [Ln.kind, Ln.num] at i1 j1 ⊢
      -- the region with the two calls; does1_calls B s w1.heap.size S n aa (lc - 2) w2 HSK.out (by simp only [World.cell?, HBX.out]; rfl) HG.out the closure's contract (in w2), n the number's value
      refine region_m [(0, false), (2, false), (3, false), (4, false), (5, false), (7, false), (8, false), (9, false), (10, false), (11, false), (12, false), (1, true), (6, false), (13, true), (14, false)] 15 (fun X => X.cell? ⟨b, 1, none⟩ = some (.int .i64 0) ∧ X.cell? ⟨b, 5, none⟩ = some (.int .i64 n)) (by kernel_rfl) (by kernel_rfl) ⟨i1, j1⟩ ?_
      iterate 11
        first
        | (refine m_take (v := ?_) rfl rfl ?_ ?_
           rotate_left
           · intro W hW
             go_simp
             with_reducible rfl
           simp only [Act.put, List.setIfInBounds_toArray, List.set_cons_zero, List.set_cons_succ])
        | (refine m_skip rfl rfl ?_
           simp only [Act.put, List.setIfInBounds_toArray, List.set_cons_zero, List.set_cons_succ])
      generalize hAA : (if lc = 2 then (some ⟨b, 0, none⟩ : Option Addr) else some ⟨b, 8, none⟩) = aa
      have HAA := Lib.hid hAA
      clear hAA
      refine m_loud rfl (fun K hK => ?_)
      have HK := Lib.hid hK
      clear hK
      go_simp
      refine (does_calls s _).mono ?_
      rintro e w2 ⟨rfl, hb2, hbx⟩
      have hb2 : Below w1.heap.size w1 w2 := ((Below.refl w1.heap.size w1).drew).trans hb2
      have hbx : w2.heap[w1.heap.size]? = some (.cells #[.pointer (some ⟨s, 0, none⟩)] 29) := hbx
      have k1 := cell_later hb2 i1
      have k2 := cell_later hb2 j1
      have HBW := Lib.hid (HB1.out.trans (hb2.mono HB1.out.size))
      have HSK := Lib.hid (HS.out.below (HB1.out.trans (hb2.mono HB1.out.size)))
      have HBX := Lib.hid hbx
      have HB2 := Lib.hid hb2
      refine HK.out _ _ ⟨k1, k2⟩ ?_
      clear HK
      unfold fns
      have hix := idx0 w1.heap.size
      clear hbx hb2
      iterate 1
        first
        | (refine m_take (v := ?_) rfl rfl ?_ ?_
           rotate_left
           · intro W hW
             go_simp
             with_reducible rfl
           simp only [Act.put, List.setIfInBounds_toArray, List.set_cons_zero, List.set_cons_succ])
        | (refine m_skip rfl rfl ?_
           simp only [Act.put, List.setIfInBounds_toArray, List.set_cons_zero, List.set_cons_succ])
      refine m_loud rfl (fun K hK => ?_)
      have HK := Lib.hid hK
      clear hK
      go_simp
      clear hix
      have HC := Lib.hid (does1_calls B s w1.heap.size S n aa (lc - 2) w2 HSK.out (by simp only [World.cell?, HBX.out]; rfl) HG.out)
      refine HC.out.mono ?_
      rintro e w3 ⟨rfl, hdone⟩
      have HDN := Lib.hid (hdone.after HBW.out)
      have hno : ¬ S.foot s b := fun hf => by
        obtain ⟨e, he, ht⟩ := HS.out.foot_ty hf
        have := (HS.out.foot_lt hf).2
        have := HBT.out.2
        omega
      have hon : Only (S.foot s) w2 w3 := by obtain ⟨S', -, -, -, -, h5, -⟩ := hdone; exact h5
      refine HK.out _ _ ⟨hon.cell hno k1, hon.cell hno k2⟩ ?_
      clear HK
      clear hdone hon k1 k2
      iterate 1
        first
        | (refine m_take (v := ?_) rfl rfl ?_ ?_
           rotate_left
           · intro W hW
             go_simp
             with_reducible rfl
           simp only [Act.put, List.setIfInBounds_toArray, List.set_cons_zero, List.set_cons_succ])
        | (refine m_skip rfl rfl ?_
           simp only [Act.put, List.setIfInBounds_toArray, List.set_cons_zero, List.set_cons_succ])
      refine m_done ?_
      simp only [List.drop_succ_cons, List.drop_zero]
      go_wp2_with fail
      simp only [NP]
      go_wp2_with fail
      go_ret
      rw [← HM.out]
      exact ⟨rfl, HDN.out⟩
    · cases hst
  | stage n ps =>
    have hst := HST.out
    simp only [stp, Option.some.injEq] at hst
    have HM := Lib.hid hst
    clear hst
    have hpl : ps.length ≤ 800 := HX.out.2.1
    have hpo := HX.out.2.2
    have h0 : N - 2 = 2 * ps.length := by have := HN.out; simp only [Ln.rest] at this; rw [prI_length] at this; omega
    have HPI := Lib.hid (show ∀ W : World, Below w1.heap.size w1 W → PIts W (if lc = 2 then some ⟨b, 0, none⟩ else some ⟨b, 8, none⟩) ps from fun W hW i hi => by
      have hlc : ¬ lc = 2 := by omega
      rw [if_neg hlc]
      obtain ⟨p1, p2⟩ := prI_get ps i hi
      have hrow := HROW.out
      have hNy : N = ys.length := by have := HN.out; have := congrArg List.length HYS.out; simp at this; omega
      rw [hNy] at hrow
      obtain ⟨b1, hb1, -, -, -, ht1, -, c0, -, c2⟩ := item_cell hrow (2 * i + 2) (y := iT ps[i].key) (by rw [HYS.out]; simpa [Ln.rest] using p1)
      obtain ⟨b2, hb2, -, -, -, -, -, d0, d1, -⟩ := item_cell hrow (2 * i + 1 + 2) (y := iI ps[i].val) (by rw [HYS.out]; simpa [Ln.rest] using p2)
      simp only [Option.some.injEq, Addr.mk.injEq, and_true] at hb1 hb2
      subst hb1 hb2
      refine ⟨b, 8, rfl, ?_, ?_, ?_, ?_, ?_⟩
      · obtain ⟨cs, x, hc⟩ := ht1
        exact ⟨cs, x, (hW.block b (Array.getElem?_eq_some_iff.1 hc).1).trans hc⟩
      · rw [show 8 + 2 * i * 4 = (2 * i + 2) * 4 by omega]; exact cell_later hW c0
      · rw [show 8 + 2 * i * 4 + 2 = (2 * i + 2) * 4 + 2 by omega]; exact cell_later hW c2
      · rw [show 8 + (2 * i + 1) * 4 = (2 * i + 1 + 2) * 4 by omega]; exact cell_later hW d0
      · rw [show 8 + (2 * i + 1) * 4 + 1 = (2 * i + 1 + 2) * 4 + 1 by omega]; exact cell_later hW d1)
    simp only [Ln.kind, Ln.num] at i1 j1 ⊢
    -- the region with the two calls; does2_calls B s w1.heap.size S n ps aa (lc - 2) w2 HSK.out HBX.out (by rw [← HAA.out]; exact HPI.out w2 HB2.out) (fun p hp => (hpo p hp).2) (by omega) (by omega) hpl hgl the closure's contract (in w2), n the number's value
    refine region_m [(0, false), (2, false), (3, false), (4, false), (5, false), (7, false), (8, false), (9, false), (10, false), (11, false), (12, false), (1, true), (6, false), (13, true), (14, false)] 15 (fun X => X.cell? ⟨b, 1, none⟩ = some (.int .i64 1) ∧ X.cell? ⟨b, 5, none⟩ = some (.int .i64 n)) (by kernel_rfl) (by kernel_rfl) ⟨i1, j1⟩ ?_
    iterate 11
      first
      | (refine m_take (v := ?_) rfl rfl ?_ ?_
         rotate_left
         · intro W hW
           go_simp
           with_reducible rfl
         simp only [Act.put, List.setIfInBounds_toArray, List.set_cons_zero, List.set_cons_succ])
      | (refine m_skip rfl rfl ?_
         simp only [Act.put, List.setIfInBounds_toArray, List.set_cons_zero, List.set_cons_succ])
    generalize hAA : (if lc = 2 then (some ⟨b, 0, none⟩ : Option Addr) else some ⟨b, 8, none⟩) = aa
    have HAA := Lib.hid hAA
    clear hAA
    refine m_loud rfl (fun K hK => ?_)
    have HK := Lib.hid hK
    clear hK
    go_simp
    refine (does_calls s _).mono ?_
    rintro e w2 ⟨rfl, hb2, hbx⟩
    have hb2 : Below w1.heap.size w1 w2 := ((Below.refl w1.heap.size w1).drew).trans hb2
    have hbx : w2.heap[w1.heap.size]? = some (.cells #[.pointer (some ⟨s, 0, none⟩)] 29) := hbx
    have k1 := cell_later hb2 i1
    have k2 := cell_later hb2 j1
    have HBW := Lib.hid (HB1.out.trans (hb2.mono HB1.out.size))
    have HSK := Lib.hid (HS.out.below (HB1.out.trans (hb2.mono HB1.out.size)))
    have HBX := Lib.hid hbx
    have HB2 := Lib.hid hb2
    refine HK.out _ _ ⟨k1, k2⟩ ?_
    clear HK
    unfold fns
    have hix := idx1 w1.heap.size
    clear hbx hb2
    iterate 1
      first
      | (refine m_take (v := ?_) rfl rfl ?_ ?_
         rotate_left
         · intro W hW
           go_simp
           with_reducible rfl
         simp only [Act.put, List.setIfInBounds_toArray, List.set_cons_zero, List.set_cons_succ])
      | (refine m_skip rfl rfl ?_
         simp only [Act.put, List.setIfInBounds_toArray, List.set_cons_zero, List.set_cons_succ])
    refine m_loud rfl (fun K hK => ?_)
    have HK := Lib.hid hK
    clear hK
    go_simp
    clear hix
    have HC := Lib.hid (does2_calls B s w1.heap.size S n ps aa (lc - 2) w2 HSK.out HBX.out (by rw [← HAA.out]; exact HPI.out w2 HB2.out) (fun p hp => (hpo p hp).2) (by omega) (by omega) hpl hgl)
    refine HC.out.mono ?_
    rintro e w3 ⟨rfl, hdone⟩
    have HDN := Lib.hid (hdone.after HBW.out)
    have hno : ¬ S.foot s b := fun hf => by
      obtain ⟨e, he, ht⟩ := HS.out.foot_ty hf
      have := (HS.out.foot_lt hf).2
      have := HBT.out.2
      omega
    have hon : Only (S.foot s) w2 w3 := by obtain ⟨S', -, -, -, -, h5, -⟩ := hdone; exact h5
    refine HK.out _ _ ⟨hon.cell hno k1, hon.cell hno k2⟩ ?_
    clear HK
    clear hdone hon k1 k2
    iterate 1
      first
      | (refine m_take (v := ?_) rfl rfl ?_ ?_
         rotate_left
         · intro W hW
           go_simp
           with_reducible rfl
         simp only [Act.put, List.setIfInBounds_toArray, List.set_cons_zero, List.set_cons_succ])
      | (refine m_skip rfl rfl ?_
         simp only [Act.put, List.setIfInBounds_toArray, List.set_cons_zero, List.set_cons_succ])
    refine m_done ?_
    simp only [List.drop_succ_cons, List.drop_zero]
    go_wp2_with fail
    simp only [NP]
    go_wp2_with fail
    go_ret
    rw [← HM.out]
    exact ⟨rfl, HDN.out⟩
  | ready n =>
    have hst := HST.out
    simp only [stp] at hst
    split at hst
    · rename_i hg
      have HG := Lib.hid hg
      clear hg
      simp only [Option.some.injEq] at hst
      have HM := Lib.hid hst
      clear hst
      have h0 : N - 2 = 0 := by have := HN.out; simp only [Ln.rest, List.length_nil] at this; omega
      simp only [Ln.kind, Ln.num] at i1 j1 ⊢
      -- the region with the two calls; does3_calls B s w1.heap.size S n aa (lc - 2) w2 HSK.out (by simp only [World.cell?, HBX.out]; rfl) (fun hf => by have := (HS.out.foot_lt hf).2; have := HB1.out.size; omega) (by rw [HG.out]; simp [Sk.m]) the closure's contract (in w2), n the number's value
      refine region_m [(0, false), (2, false), (3, false), (4, false), (5, false), (7, false), (8, false), (9, false), (10, false), (11, false), (12, false), (1, true), (6, false), (13, true), (14, false)] 15 (fun X => X.cell? ⟨b, 1, none⟩ = some (.int .i64 2) ∧ X.cell? ⟨b, 5, none⟩ = some (.int .i64 n)) (by kernel_rfl) (by kernel_rfl) ⟨i1, j1⟩ ?_
      iterate 11
        first
        | (refine m_take (v := ?_) rfl rfl ?_ ?_
           rotate_left
           · intro W hW
             go_simp
             with_reducible rfl
           simp only [Act.put, List.setIfInBounds_toArray, List.set_cons_zero, List.set_cons_succ])
        | (refine m_skip rfl rfl ?_
           simp only [Act.put, List.setIfInBounds_toArray, List.set_cons_zero, List.set_cons_succ])
      generalize hAA : (if lc = 2 then (some ⟨b, 0, none⟩ : Option Addr) else some ⟨b, 8, none⟩) = aa
      have HAA := Lib.hid hAA
      clear hAA
      refine m_loud rfl (fun K hK => ?_)
      have HK := Lib.hid hK
      clear hK
      go_simp
      refine (does_calls s _).mono ?_
      rintro e w2 ⟨rfl, hb2, hbx⟩
      have hb2 : Below w1.heap.size w1 w2 := ((Below.refl w1.heap.size w1).drew).trans hb2
      have hbx : w2.heap[w1.heap.size]? = some (.cells #[.pointer (some ⟨s, 0, none⟩)] 29) := hbx
      have k1 := cell_later hb2 i1
      have k2 := cell_later hb2 j1
      have HBW := Lib.hid (HB1.out.trans (hb2.mono HB1.out.size))
      have HSK := Lib.hid (HS.out.below (HB1.out.trans (hb2.mono HB1.out.size)))
      have HBX := Lib.hid hbx
      have HB2 := Lib.hid hb2
      refine HK.out _ _ ⟨k1, k2⟩ ?_
      clear HK
      unfold fns
      have hix := idx2 w1.heap.size
      clear hbx hb2
      iterate 1
        first
        | (refine m_take (v := ?_) rfl rfl ?_ ?_
           rotate_left
           · intro W hW
             go_simp
             with_reducible rfl
           simp only [Act.put, List.setIfInBounds_toArray, List.set_cons_zero, List.set_cons_succ])
        | (refine m_skip rfl rfl ?_
           simp only [Act.put, List.setIfInBounds_toArray, List.set_cons_zero, List.set_cons_succ])
      refine m_loud rfl (fun K hK => ?_)
      have HK := Lib.hid hK
      clear hK
      go_simp
      clear hix
      have HC := Lib.hid (does3_calls B s w1.heap.size S n aa (lc - 2) w2 HSK.out (by simp only [World.cell?, HBX.out]; rfl) (fun hf => by have := (HS.out.foot_lt hf).2; have := HB1.out.size; omega) (by rw [HG.out]; simp [Sk.m]))
      refine HC.out.mono ?_
      rintro e w3 ⟨rfl, hdone⟩
      have HDN := Lib.hid (hdone.after HBW.out)
      have hno : ¬ S.foot s b := fun hf => by
        obtain ⟨e, he, ht⟩ := HS.out.foot_ty hf
        have := (HS.out.foot_lt hf).2
        have := HBT.out.2
        omega
      have hon : Only (S.foot s) w2 w3 := by obtain ⟨S', -, -, -, -, h5, -⟩ := hdone; exact h5
      refine HK.out _ _ ⟨hon.cell hno k1, hon.cell hno k2⟩ ?_
      clear HK
      clear hdone hon k1 k2
      iterate 1
        first
        | (refine m_take (v := ?_) rfl rfl ?_ ?_
           rotate_left
           · intro W hW
             go_simp
             with_reducible rfl
           simp only [Act.put, List.setIfInBounds_toArray, List.set_cons_zero, List.set_cons_succ])
        | (refine m_skip rfl rfl ?_
           simp only [Act.put, List.setIfInBounds_toArray, List.set_cons_zero, List.set_cons_succ])
      refine m_done ?_
      simp only [List.drop_succ_cons, List.drop_zero]
      go_wp2_with fail
      simp only [NP]
      go_wp2_with fail
      go_ret
      rw [← HM.out]
      exact ⟨rfl, HDN.out⟩
    · cases hst
  | commits n =>
    have hst := HST.out
    simp only [stp] at hst
    split at hst
    · rename_i hg
      have HG := Lib.hid hg
      clear hg
      simp only [Option.some.injEq] at hst
      have HM := Lib.hid hst
      clear hst
      have h0 : N - 2 = 0 := by have := HN.out; simp only [Ln.rest, List.length_nil] at this; omega
      simp only [Ln.kind, Ln.num] at i1 j1 ⊢
      -- the region with the two calls; does4_calls B s w1.heap.size S n aa (lc - 2) w2 HSK.out (by simp only [World.cell?, HBX.out]; rfl) (fun hf => by have := (HS.out.foot_lt hf).2; have := HB1.out.size; omega) (by rw [HG.out.1]; simp [Sk.m]) HG.out.2 hel the closure's contract (in w2), n the number's value
      refine region_m [(0, false), (2, false), (3, false), (4, false), (5, false), (7, false), (8, false), (9, false), (10, false), (11, false), (12, false), (1, true), (6, false), (13, true), (14, false)] 15 (fun X => X.cell? ⟨b, 1, none⟩ = some (.int .i64 3) ∧ X.cell? ⟨b, 5, none⟩ = some (.int .i64 n)) (by kernel_rfl) (by kernel_rfl) ⟨i1, j1⟩ ?_
      iterate 11
        first
        | (refine m_take (v := ?_) rfl rfl ?_ ?_
           rotate_left
           · intro W hW
             go_simp
             with_reducible rfl
           simp only [Act.put, List.setIfInBounds_toArray, List.set_cons_zero, List.set_cons_succ])
        | (refine m_skip rfl rfl ?_
           simp only [Act.put, List.setIfInBounds_toArray, List.set_cons_zero, List.set_cons_succ])
      generalize hAA : (if lc = 2 then (some ⟨b, 0, none⟩ : Option Addr) else some ⟨b, 8, none⟩) = aa
      have HAA := Lib.hid hAA
      clear hAA
      refine m_loud rfl (fun K hK => ?_)
      have HK := Lib.hid hK
      clear hK
      go_simp
      refine (does_calls s _).mono ?_
      rintro e w2 ⟨rfl, hb2, hbx⟩
      have hb2 : Below w1.heap.size w1 w2 := ((Below.refl w1.heap.size w1).drew).trans hb2
      have hbx : w2.heap[w1.heap.size]? = some (.cells #[.pointer (some ⟨s, 0, none⟩)] 29) := hbx
      have k1 := cell_later hb2 i1
      have k2 := cell_later hb2 j1
      have HBW := Lib.hid (HB1.out.trans (hb2.mono HB1.out.size))
      have HSK := Lib.hid (HS.out.below (HB1.out.trans (hb2.mono HB1.out.size)))
      have HBX := Lib.hid hbx
      have HB2 := Lib.hid hb2
      refine HK.out _ _ ⟨k1, k2⟩ ?_
      clear HK
      unfold fns
      have hix := idx3 w1.heap.size
      clear hbx hb2
      iterate 1
        first
        | (refine m_take (v := ?_) rfl rfl ?_ ?_
           rotate_left
           · intro W hW
             go_simp
             with_reducible rfl
           simp only [Act.put, List.setIfInBounds_toArray, List.set_cons_zero, List.set_cons_succ])
        | (refine m_skip rfl rfl ?_
           simp only [Act.put, List.setIfInBounds_toArray, List.set_cons_zero, List.set_cons_succ])
      refine m_loud rfl (fun K hK => ?_)
      have HK := Lib.hid hK
      clear hK
      go_simp
      clear hix
      have HC := Lib.hid (does4_calls B s w1.heap.size S n aa (lc - 2) w2 HSK.out (by simp only [World.cell?, HBX.out]; rfl) (fun hf => by have := (HS.out.foot_lt hf).2; have := HB1.out.size; omega) (by rw [HG.out.1]; simp [Sk.m]) HG.out.2 hel)
      refine HC.out.mono ?_
      rintro e w3 ⟨rfl, hdone⟩
      have HDN := Lib.hid (hdone.after HBW.out)
      have hno : ¬ S.foot s b := fun hf => by
        obtain ⟨e, he, ht⟩ := HS.out.foot_ty hf
        have := (HS.out.foot_lt hf).2
        have := HBT.out.2
        omega
      have hon : Only (S.foot s) w2 w3 := by obtain ⟨S', -, -, -, -, h5, -⟩ := hdone; exact h5
      refine HK.out _ _ ⟨hon.cell hno k1, hon.cell hno k2⟩ ?_
      clear HK
      clear hdone hon k1 k2
      iterate 1
        first
        | (refine m_take (v := ?_) rfl rfl ?_ ?_
           rotate_left
           · intro W hW
             go_simp
             with_reducible rfl
           simp only [Act.put, List.setIfInBounds_toArray, List.set_cons_zero, List.set_cons_succ])
        | (refine m_skip rfl rfl ?_
           simp only [Act.put, List.setIfInBounds_toArray, List.set_cons_zero, List.set_cons_succ])
      refine m_done ?_
      simp only [List.drop_succ_cons, List.drop_zero]
      go_wp2_with fail
      simp only [NP]
      go_wp2_with fail
      go_ret
      rw [← HM.out]
      exact ⟨rfl, HDN.out⟩
    · cases hst
  | aborts n =>
    have hst := HST.out
    simp only [stp] at hst
    split at hst
    · rename_i hg
      have HG := Lib.hid hg
      clear hg
      simp only [Option.some.injEq] at hst
      have HM := Lib.hid hst
      clear hst
      have h0 : N - 2 = 0 := by have := HN.out; simp only [Ln.rest, List.length_nil] at this; omega
      simp only [Ln.kind, Ln.num] at i1 j1 ⊢
      -- the region with the two calls; does5_calls B s w1.heap.size S n aa (lc - 2) w2 HSK.out (by simp only [World.cell?, HBX.out]; rfl) (fun hf => by have := (HS.out.foot_lt hf).2; have := HB1.out.size; omega) (by rw [HG.out.1]; simp [Sk.m]) HG.out.2 the closure's contract (in w2), n the number's value
      refine region_m [(0, false), (2, false), (3, false), (4, false), (5, false), (7, false), (8, false), (9, false), (10, false), (11, false), (12, false), (1, true), (6, false), (13, true), (14, false)] 15 (fun X => X.cell? ⟨b, 1, none⟩ = some (.int .i64 4) ∧ X.cell? ⟨b, 5, none⟩ = some (.int .i64 n)) (by kernel_rfl) (by kernel_rfl) ⟨i1, j1⟩ ?_
      iterate 11
        first
        | (refine m_take (v := ?_) rfl rfl ?_ ?_
           rotate_left
           · intro W hW
             go_simp
             with_reducible rfl
           simp only [Act.put, List.setIfInBounds_toArray, List.set_cons_zero, List.set_cons_succ])
        | (refine m_skip rfl rfl ?_
           simp only [Act.put, List.setIfInBounds_toArray, List.set_cons_zero, List.set_cons_succ])
      generalize hAA : (if lc = 2 then (some ⟨b, 0, none⟩ : Option Addr) else some ⟨b, 8, none⟩) = aa
      have HAA := Lib.hid hAA
      clear hAA
      refine m_loud rfl (fun K hK => ?_)
      have HK := Lib.hid hK
      clear hK
      go_simp
      refine (does_calls s _).mono ?_
      rintro e w2 ⟨rfl, hb2, hbx⟩
      have hb2 : Below w1.heap.size w1 w2 := ((Below.refl w1.heap.size w1).drew).trans hb2
      have hbx : w2.heap[w1.heap.size]? = some (.cells #[.pointer (some ⟨s, 0, none⟩)] 29) := hbx
      have k1 := cell_later hb2 i1
      have k2 := cell_later hb2 j1
      have HBW := Lib.hid (HB1.out.trans (hb2.mono HB1.out.size))
      have HSK := Lib.hid (HS.out.below (HB1.out.trans (hb2.mono HB1.out.size)))
      have HBX := Lib.hid hbx
      have HB2 := Lib.hid hb2
      refine HK.out _ _ ⟨k1, k2⟩ ?_
      clear HK
      unfold fns
      have hix := idx4 w1.heap.size
      clear hbx hb2
      iterate 1
        first
        | (refine m_take (v := ?_) rfl rfl ?_ ?_
           rotate_left
           · intro W hW
             go_simp
             with_reducible rfl
           simp only [Act.put, List.setIfInBounds_toArray, List.set_cons_zero, List.set_cons_succ])
        | (refine m_skip rfl rfl ?_
           simp only [Act.put, List.setIfInBounds_toArray, List.set_cons_zero, List.set_cons_succ])
      refine m_loud rfl (fun K hK => ?_)
      have HK := Lib.hid hK
      clear hK
      go_simp
      clear hix
      have HC := Lib.hid (does5_calls B s w1.heap.size S n aa (lc - 2) w2 HSK.out (by simp only [World.cell?, HBX.out]; rfl) (fun hf => by have := (HS.out.foot_lt hf).2; have := HB1.out.size; omega) (by rw [HG.out.1]; simp [Sk.m]) HG.out.2)
      refine HC.out.mono ?_
      rintro e w3 ⟨rfl, hdone⟩
      have HDN := Lib.hid (hdone.after HBW.out)
      have hno : ¬ S.foot s b := fun hf => by
        obtain ⟨e, he, ht⟩ := HS.out.foot_ty hf
        have := (HS.out.foot_lt hf).2
        have := HBT.out.2
        omega
      have hon : Only (S.foot s) w2 w3 := by obtain ⟨S', -, -, -, -, h5, -⟩ := hdone; exact h5
      refine HK.out _ _ ⟨hon.cell hno k1, hon.cell hno k2⟩ ?_
      clear HK
      clear hdone hon k1 k2
      iterate 1
        first
        | (refine m_take (v := ?_) rfl rfl ?_ ?_
           rotate_left
           · intro W hW
             go_simp
             with_reducible rfl
           simp only [Act.put, List.setIfInBounds_toArray, List.set_cons_zero, List.set_cons_succ])
        | (refine m_skip rfl rfl ?_
           simp only [Act.put, List.setIfInBounds_toArray, List.set_cons_zero, List.set_cons_succ])
      refine m_done ?_
      simp only [List.drop_succ_cons, List.drop_zero]
      go_wp2_with fail
      simp only [NP]
      go_wp2_with fail
      go_ret
      rw [← HM.out]
      exact ⟨rfl, HDN.out⟩
    · cases hst
end Go.Proofs.YthgmligpconhhaaGreatDoor

/- Layer 6: entries appended one after another, then synced (no program). -/
namespace Go.Proofs.YthgmligpconhhaaGreatDoor
open Go.RowKit Go.Shelf
set_option linter.unusedVariables false
set_option linter.unusedSimpArgs false
set_option maxRecDepth 100000

/-- At most the last segment is not durable. -/
structure GB (L : Lg) (D : Dk) : Prop where
  txt : ∀ s ∈ L.segs, fileOf D.now (fnm L.name s.base) = Fr.FrM.rowOf (s.evs.map Prod.snd)
  onl : ∀ nm, (mget D.now nm).isSome = true → ∃ s ∈ L.segs, nm = fnm L.name s.base
  last : ∀ (i : Nat) (s : Seg), L.segs[i]? = some s → s.dirty = true → i + 1 = L.segs.length
  dur : ∀ nm, (∀ s ∈ L.segs, s.dirty = true → nm ≠ fnm L.name s.base) → (mget D.dur nm).map Prod.snd = (mget D.now nm).map Prod.snd
  chg : ∀ c ∈ D.chg, ∃ s ∈ L.segs, s.dirty = true ∧ c.nm = fnm L.name s.base
theorem GB.of_gs {L : Lg} {D : Dk} (h : GS L D) : GB L D :=
  ⟨h.txt, h.onl, (fun i s hi hd => by rw [h.cl s (List.mem_of_getElem? hi)] at hd; cases hd), fun nm _ => h.dur nm, fun c hc => by rw [h.chg] at hc; cases hc⟩
theorem GB.allClean {L : Lg} {D : Dk} (h : GB L D) (hc : ∀ s ∈ L.segs, s.dirty = false) : GS L D :=
  ⟨h.txt, h.onl, hc, fun nm => h.dur nm (fun s hs hd => by rw [hc s hs] at hd; cases hd), by
    cases hq : D.chg with
    | nil => rfl
    | cons c r =>
      obtain ⟨s, hs, hd, -⟩ := h.chg c (by rw [hq]; exact List.mem_cons_self)
      rw [hc s hs] at hd; cases hd⟩
theorem GB.one {L : Lg} {D : Dk} (h : GB L D) {i : Nat} {s t : Seg} (hl : L.segs.length = i + 1) (hs : L.segs[i]? = some s) (ht : t ∈ L.segs) (hd : t.dirty = true) : t = s := by
  obtain ⟨j, hj⟩ := List.getElem?_of_mem ht
  have := h.last j t hj hd
  have : j = i := by omega
  subst this
  rw [hs] at hj
  exact (Option.some.inj hj).symm
/-- Behind the new segment's write. -/
theorem GS.fresh {Ls : Lg} {Ds : Dk} {b n : Nat} {nv dv cv sv ev v : Value} {ys : List UInt8} (h : GS Ls Ds) (hb : ∀ t ∈ Ls.segs, t.base ≠ n) : GB { Ls with sv := sv, segs := Ls.segs ++ [⟨b, n, ev, [(v, ys)], 12 + ys.length, true⟩] } (wrD Ds (fnm Ls.name n) 0 (Fr.FrM.frameOf ys) nv dv cv) := by
  have hnone : mget Ds.now (fnm Ls.name n) = none := by
    cases hm : mget Ds.now (fnm Ls.name n) with
    | none => rfl
    | some p =>
      obtain ⟨t, ht, e⟩ := h.onl _ (by rw [hm]; rfl)
      exact absurd (fnm_inj e).symm (hb t ht)
  have hfo : fileOf Ds.now (fnm Ls.name n) = [] := fileOf_none hnone
  have hwr : wrt ([] : List UInt8) (Fr.FrM.frameOf ys) 0 = Fr.FrM.frameOf ys := by have := wrt_end [] (Fr.FrM.frameOf ys); simpa using this
  refine ⟨fun t ht => ?_, fun nm hn => ?_, fun i t hi hd => ?_, fun nm hn => ?_, fun c hc => ?_⟩
  · show fileOf (mput Ds.now (fnm Ls.name n) (nv, wrt (fileOf Ds.now (fnm Ls.name n)) (Fr.FrM.frameOf ys) 0)) (fnm Ls.name t.base) = _
    rcases List.mem_append.1 ht with ht | ht
    · rw [fileOf_put_other (fun e => hb t ht (fnm_inj e))]
      exact h.txt t ht
    · rw [List.mem_singleton.1 ht]
      simp only [List.map_cons, List.map_nil]
      rw [fileOf_put_same, hfo, hwr, Fr.FrM.rowOf_one]
  · by_cases e : nm = fnm Ls.name n
    · exact ⟨_, List.mem_append_right _ (List.mem_singleton_self _), e⟩
    · have hn : (mget (mput Ds.now (fnm Ls.name n) (nv, wrt (fileOf Ds.now (fnm Ls.name n)) (Fr.FrM.frameOf ys) 0)) nm).isSome = true := hn
      rw [mget_put_other e] at hn
      obtain ⟨t, ht, rfl⟩ := h.onl nm hn
      exact ⟨t, List.mem_append_left _ ht, rfl⟩
  · have hi : (Ls.segs ++ [_])[i]? = some t := hi
    show i + 1 = (Ls.segs ++ [_]).length
    rw [List.length_append, List.length_singleton]
    by_cases hil : i < Ls.segs.length
    · rw [List.getElem?_append_left hil] at hi
      rw [h.cl t (List.mem_of_getElem? hi)] at hd; cases hd
    · have := (List.getElem?_eq_some_iff.1 hi).1
      rw [List.length_append, List.length_singleton] at this
      omega
  · have hne : nm ≠ fnm Ls.name n := hn ⟨b, n, ev, [(v, ys)], 12 + ys.length, true⟩ (List.mem_append_right _ (List.mem_singleton_self _)) rfl
    show (mget Ds.dur nm).map Prod.snd = (mget (mput Ds.now (fnm Ls.name n) (nv, wrt (fileOf Ds.now (fnm Ls.name n)) (Fr.FrM.frameOf ys) 0)) nm).map Prod.snd
    rw [mget_put_other hne]
    exact h.dur nm
  · have hc : c ∈ Ds.chg ++ [⟨0, fnm Ls.name n, ((0 : Nat) : Int), dv, Fr.FrM.frameOf ys⟩] := hc
    rw [h.chg, List.nil_append, List.mem_singleton] at hc
    exact ⟨_, List.mem_append_right _ (List.mem_singleton_self _), rfl, by rw [hc]⟩
theorem GB.app {L L' : Lg} {D D' : Dk} {E : List (List UInt8)} {ys : List UInt8} (h : GB L D) (hg : GL L D 0 E) (ha : AppStay L D ys L' D' ∨ AppFresh L D ys L' D') : GB L' D' := by
  rcases ha with ⟨i, s, nv, dv, cv, ev, v, hl, hs, hsz, rfl, rfl⟩ | ⟨Ls, Ds, b, nv, dv, cv, sv, ev, v, hfr, rfl, rfl⟩
  · have hsm := List.mem_of_getElem? hs
    have hil := (List.getElem?_eq_some_iff.1 hs).1
    have hbase : ∀ (j : Nat) (t : Seg), L.segs[j]? = some t → j ≠ i → t.base ≠ s.base := fun j t ht hj => hg.dif j i t s ht hs hj
    have hfn : ∀ t : Seg, t.base ≠ s.base → fnm L.name t.base ≠ fnm L.name s.base := fun t ht e => ht (fnm_inj e)
    obtain ⟨s', hs'⟩ : ∃ s' : Seg, s' = { s with ev := ev, evs := s.evs ++ [(v, ys)], size := s.size + (12 + ys.length), dirty := true } := ⟨_, rfl⟩
    rw [← hs']
    have hsb : s'.base = s.base := by rw [hs']
    have hsd : s'.dirty = true := by rw [hs']
    have hin : s' ∈ L.segs.set i s' := List.mem_of_getElem? (List.getElem?_set_self hil)
    have hmem : ∀ t ∈ L.segs.set i s', (t = s') ∨ (t ∈ L.segs ∧ t.base ≠ s.base) := fun t ht => by
      obtain ⟨j, hj⟩ := List.getElem?_of_mem ht
      by_cases hji : j = i
      · subst hji
        rw [List.getElem?_set_self hil] at hj
        simp only [Option.some.injEq] at hj
        exact .inl hj.symm
      · rw [List.getElem?_set_ne (fun e => hji e.symm)] at hj
        exact .inr ⟨List.mem_of_getElem? hj, hbase j t hj hji⟩
    have hlen : (fileOf D.now (fnm L.name s.base)).length = s.size := (hg.file s hsm).2
    refine ⟨fun t ht => ?_, fun nm hn => ?_, fun j t hj hd => ?_, fun nm hn => ?_, fun c hc => ?_⟩
    · show fileOf (mput D.now (fnm L.name s.base) (nv, wrt (fileOf D.now (fnm L.name s.base)) (Fr.FrM.frameOf ys) s.size)) (fnm L.name t.base) = _
      rcases hmem t ht with rfl | ⟨htm, hb⟩
      · rw [hsb, fileOf_put_same, ← hlen, wrt_end, h.txt s hsm, hs']
        simp only [List.map_append, List.map_cons, List.map_nil]
        rw [Fr.FrM.rowOf_append, Fr.FrM.rowOf_one]
      · rw [fileOf_put_other (hfn t hb)]
        exact h.txt t htm
    · by_cases e : nm = fnm L.name s.base
      · exact ⟨s', hin, by rw [hsb]; exact e⟩
      · have hn : (mget (mput D.now (fnm L.name s.base) (nv, wrt (fileOf D.now (fnm L.name s.base)) (Fr.FrM.frameOf ys) s.size)) nm).isSome = true := hn
        rw [mget_put_other e] at hn
        obtain ⟨t, ht, rfl⟩ := h.onl nm hn
        obtain ⟨j, hj⟩ := List.getElem?_of_mem ht
        have hji : j ≠ i := fun e2 => by
          subst e2
          rw [hs] at hj
          simp only [Option.some.injEq] at hj
          exact e (by rw [hj])
        exact ⟨t, List.mem_of_getElem? (by show (L.segs.set i s')[j]? = _; rw [List.getElem?_set_ne (fun e => hji e.symm)]; exact hj), rfl⟩
    · have hj : (L.segs.set i s')[j]? = some t := hj
      show j + 1 = (L.segs.set i s').length
      rw [List.length_set]
      by_cases hji : j = i
      · omega
      · rw [List.getElem?_set_ne (fun e => hji e.symm)] at hj
        exact h.last j t hj hd
    · have hne : nm ≠ fnm L.name s.base := by rw [← hsb]; exact hn s' hin hsd
      show (mget D.dur nm).map Prod.snd = (mget (mput D.now (fnm L.name s.base) (nv, wrt (fileOf D.now (fnm L.name s.base)) (Fr.FrM.frameOf ys) s.size)) nm).map Prod.snd
      rw [mget_put_other hne]
      exact h.dur nm (fun t ht hd => by rw [h.one hl hs ht hd]; exact hne)
    · have hc : c ∈ D.chg ++ [⟨0, fnm L.name s.base, (s.size : Int), dv, Fr.FrM.frameOf ys⟩] := hc
      rcases List.mem_append.1 hc with hc | hc
      · obtain ⟨t, ht, hd, e⟩ := h.chg c hc
        exact ⟨s', hin, hsd, by rw [e, h.one hl hs ht hd, hsb]⟩
      · rw [List.mem_singleton.1 hc]
        exact ⟨s', hin, hsd, by rw [hsb]⟩
  · have hnx := hg.next
    rw [Nat.zero_add] at hnx
    have hbl : ∀ t ∈ L.segs, t.base ≠ nextOf L := fun t ht => by
      have := hg.mem t ht
      omega
    have hmain : GS Ls Ds ∧ Ls.name = L.name ∧ ∀ t ∈ Ls.segs, t.base ≠ nextOf L := by
      rcases hfr with ⟨h0, rfl, rfl⟩ | ⟨i, s, hl, hs, -, ⟨hd, rfl, rfl⟩ | ⟨hd, cv2, v2, rfl, rfl⟩⟩
      · exact ⟨h.allClean (fun s hs => by rw [h0] at hs; cases hs), rfl, hbl⟩
      · refine ⟨h.allClean (fun t ht => ?_), rfl, hbl⟩
        cases hq : t.dirty with
        | false => rfl
        | true => rw [h.one hl hs ht hq, hd] at hq; cases hq
      · have hsm := List.mem_of_getElem? hs
        have hil := (List.getElem?_eq_some_iff.1 hs).1
        have hmem : ∀ t ∈ L.segs.set i { s with dirty := false }, t = { s with dirty := false } ∨ (t ∈ L.segs ∧ t.dirty = false) := fun t ht => by
          obtain ⟨j, hj⟩ := List.getElem?_of_mem ht
          by_cases hji : j = i
          · subst hji
            rw [List.getElem?_set_self hil] at hj
            simp only [Option.some.injEq] at hj
            exact .inl hj.symm
          · rw [List.getElem?_set_ne (fun e => hji e.symm)] at hj
            refine .inr ⟨List.mem_of_getElem? hj, ?_⟩
            cases hq : t.dirty with
            | false => rfl
            | true => have := h.last j t hj hq; omega
        have hin : ({ s with dirty := false } : Seg) ∈ L.segs.set i { s with dirty := false } := List.mem_of_getElem? (List.getElem?_set_self hil)
        refine ⟨⟨fun t ht => ?_, fun nm hn => ?_, fun t ht => ?_, fun nm => ?_, ?_⟩, rfl, fun t ht => ?_⟩
        · rcases hmem t ht with rfl | ⟨ht, -⟩
          · exact h.txt s hsm
          · exact h.txt t ht
        · obtain ⟨t, ht, e⟩ := h.onl nm hn
          obtain ⟨j, hj⟩ := List.getElem?_of_mem ht
          by_cases hji : j = i
          · subst hji
            rw [hs] at hj
            simp only [Option.some.injEq] at hj
            subst hj
            exact ⟨_, hin, e⟩
          · exact ⟨t, List.mem_of_getElem? (by show (L.segs.set i _)[j]? = _; rw [List.getElem?_set_ne (fun e => hji e.symm)]; exact hj), e⟩
        · rcases hmem t ht with rfl | ⟨-, hq⟩
          · rfl
          · exact hq
        · show (mget (match mget D.now (fnm L.name s.base) with | some f => mput D.dur (fnm L.name s.base) (v2, f.2) | none => mdel D.dur (fnm L.name s.base)) nm).map Prod.snd = (mget D.now nm).map Prod.snd
          have h4 := (hg.file s hsm).1
          cases hm : mget D.now (fnm L.name s.base) with
          | none => rw [hm] at h4; cases h4
          | some f =>
            simp only
            by_cases e : nm = fnm L.name s.base
            · subst e
              rw [mget_put_same, hm]
              rfl
            · rw [mget_put_other e]
              exact h.dur nm (fun t ht hq => by rw [h.one hl hs ht hq]; exact e)
        · show D.chg.filter (fun c => !isNm (fnm L.name s.base) c) = []
          rw [List.filter_eq_nil_iff]
          intro c hc
          obtain ⟨t, ht, hq, e⟩ := h.chg c hc
          rw [h.one hl hs ht hq] at e
          simp [isNm, e]
        · rcases hmem t ht with rfl | ⟨ht, -⟩
          · exact hbl s hsm
          · exact hbl t ht
    obtain ⟨h1, h2, h3⟩ := hmain
    have := h1.fresh (b := b) (nv := nv) (dv := dv) (cv := cv) (sv := sv) (ev := ev) (v := v) (ys := ys) h3
    rw [← h2]
    exact this
theorem Sy.none {L : Lg} {D : Dk} (hc : ∀ s ∈ L.segs, s.dirty = false) {k : Nat} {D' : Dk} (h : Sy L D k D') : D' = D := by
  induction h with
  | zero => rfl
  | skip _ _ _ ih => exact ih
  | sync cv v _ hk hd _ => rw [hc _ (List.mem_of_getElem? hk)] at hd; cases hd
theorem GB.sync {L : Lg} {D D' : Dk} {E : List (List UInt8)} (h : GB L D) (hg : GL L D 0 E) (hs : Sy L D L.segs.length D') : GS { L with segs := clean L.segs.length L.segs } D' := by
  have hcl : clean L.segs.length L.segs = L.segs.map (fun s => { s with dirty := false }) := by
    unfold clean
    rw [List.take_length, List.drop_length, List.append_nil]
  have hmain : D'.now = D.now ∧ D'.chg = [] ∧ ∀ nm, (mget D'.dur nm).map Prod.snd = (mget D.now nm).map Prod.snd := by
    by_cases hd : ∃ s ∈ L.segs, s.dirty = true
    · obtain ⟨s, hsm, hd⟩ := hd
      obtain ⟨j, hj⟩ := List.getElem?_of_mem hsm
      have hl := h.last j s hj hd
      obtain ⟨i1, -, -, i4⟩ := Sy.dur (b := s.base) (fun t ht hq => by rw [h.one hl.symm hj ht hq]) (fun nm hn => h.dur nm (fun t ht hq => by rw [h.one hl.symm hj ht hq]; exact hn)) (fun c hc => by
        obtain ⟨t, ht, hq, e⟩ := h.chg c hc
        rw [e, h.one hl.symm hj ht hq]) (hg.file s hsm).1 hs
      obtain ⟨i5, i6⟩ := i4 ⟨j, s, (List.getElem?_eq_some_iff.1 hj).1, hj, hd⟩
      exact ⟨i1, i5, i6⟩
    · have hc : ∀ s ∈ L.segs, s.dirty = false := fun s hs => by
        cases hq : s.dirty with
        | false => rfl
        | true => exact absurd ⟨s, hs, hq⟩ hd
      have e := Sy.none hc hs
      have hgs := h.allClean hc
      rw [e]
      exact ⟨rfl, hgs.chg, hgs.dur⟩
  obtain ⟨i1, i5, i6⟩ := hmain
  refine ⟨fun s hsm => ?_, fun nm hn => ?_, fun s hsm => ?_, fun nm => by rw [i6 nm, i1], i5⟩
  · have hsm : s ∈ clean L.segs.length L.segs := hsm
    rw [hcl] at hsm
    obtain ⟨t, ht, rfl⟩ := List.mem_map.1 hsm
    rw [i1]
    exact h.txt t ht
  · rw [i1] at hn
    obtain ⟨t, ht, e⟩ := h.onl nm hn
    exact ⟨{ t with dirty := false }, by show _ ∈ clean L.segs.length L.segs; rw [hcl]; exact List.mem_map.2 ⟨t, ht, rfl⟩, e⟩
  · have hsm : s ∈ clean L.segs.length L.segs := hsm
    rw [hcl] at hsm
    obtain ⟨t, ht, rfl⟩ := List.mem_map.1 hsm
    rfl
end Go.Proofs.YthgmligpconhhaaGreatDoor

/- Layer 24: lines are written and then done: write, walked. -/
namespace Go.Proofs.YthgmligpconhhaaGreatDoor
open Go.RowKit Go.Shelf
set_option linter.unusedVariables false
set_option linter.unusedSimpArgs false
set_option maxRecDepth 100000

/-! ### Plain -/
theorem play_snoc {M M' M'' : SM} {a : List Ln} {x : Ln} (h : play M a = some M') (k : stp M' x = some M'') : play M (a ++ [x]) = some M'' := by
  rw [play_app, h]
  show (stp M' x).bind _ = _
  rw [k]; rfl
theorem play_take : ∀ {M M' : SM} {ys : List Ln}, play M ys = some M' → ∀ (i : Nat) (hi : i < ys.length), ∃ Mi Mj, play M (ys.take i) = some Mi ∧ stp Mi ys[i] = some Mj ∧ play M (ys.take (i + 1)) = some Mj
  | M, M', [], _, i, hi => by simp at hi
  | M, M', x :: r, h, 0, _ => by
    have h' : (stp M x).bind (fun M1 => play M1 r) = some M' := h
    cases hs : stp M x with
    | none => rw [hs] at h'; cases h'
    | some M1 =>
      refine ⟨M, M1, rfl, hs, ?_⟩
      show (stp M x).bind (fun M1 => play M1 []) = some M1
      rw [hs]; rfl
  | M, M', x :: r, h, i + 1, hi => by
    have h' : (stp M x).bind (fun M1 => play M1 r) = some M' := h
    cases hs : stp M x with
    | none => rw [hs] at h'; cases h'
    | some M1 =>
      rw [hs] at h'
      obtain ⟨Mi, Mj, h1, h2, h3⟩ := play_take (M := M1) h' i (by simpa using hi)
      refine ⟨Mi, Mj, ?_, h2, ?_⟩
      · show (stp M x).bind (fun M1 => play M1 (r.take i)) = some Mi
        rw [hs]; exact h1
      · show (stp M x).bind (fun M1 => play M1 (r.take (i + 1))) = some Mj
        rw [hs]; exact h3
/-- How much a sink may hold behind so many lines. -/
def SM.le (M : SM) (n : Nat) : Prop := M.eps.length ≤ n ∧ M.gath.length ≤ 800 * n ∧ M.pairs.length ≤ 800 * n ∧ ∀ e ∈ M.eps, e.length ≤ 800 * n
theorem SM.le.mono {M : SM} {n m : Nat} (h : M.le n) (hm : n ≤ m) : M.le m := ⟨by have := h.1; omega, by have := h.2.1; omega, by have := h.2.2.1; omega, fun e he => by have := h.2.2.2 e he; omega⟩
theorem stp_le {M M' : SM} {x : Ln} {n : Nat} (h : M.le n) (hx : x.ok) (hs : stp M x = some M') : M'.le (n + 1) := by
  obtain ⟨h1, h2, h3, h4⟩ := h
  cases x with
  | hears m =>
    simp only [stp] at hs
    split at hs
    · simp only [Option.some.injEq] at hs
      subst hs
      exact ⟨by show M.eps.length ≤ _; omega, by show M.gath.length ≤ _; omega, by show M.pairs.length ≤ _; omega, fun e he => by have := h4 e he; omega⟩
    · cases hs
  | stage m ps =>
    simp only [stp, Option.some.injEq] at hs
    subst hs
    have hp : ps.length ≤ 800 := hx.2.1
    refine ⟨by show M.eps.length ≤ _; omega, ?_, by show M.pairs.length ≤ _; omega, fun e he => by have := h4 e he; omega⟩
    show ((if m = 0 then [] else M.gath) ++ ps).length ≤ _
    rw [List.length_append]
    split
    · simp; omega
    · omega
  | ready m =>
    simp only [stp] at hs
    split at hs
    · simp only [Option.some.injEq] at hs
      subst hs
      exact ⟨by show M.eps.length ≤ _; omega, by simp, by show M.gath.length ≤ _; omega, fun e he => by have := h4 e he; omega⟩
    · cases hs
  | commits m =>
    simp only [stp] at hs
    split at hs
    · simp only [Option.some.injEq] at hs
      subst hs
      refine ⟨by show (M.eps ++ [M.pairs]).length ≤ _; rw [List.length_append, List.length_singleton]; omega, by show M.gath.length ≤ _; omega, by simp, fun e he => ?_⟩
      rcases List.mem_append.1 he with he | he
      · have := h4 e he; omega
      · rw [List.mem_singleton.1 he]; omega
    · cases hs
  | aborts m =>
    simp only [stp] at hs
    split at hs
    · simp only [Option.some.injEq] at hs
      subst hs
      exact ⟨by show M.eps.length ≤ _; omega, by show M.gath.length ≤ _; omega, by simp, fun e he => by have := h4 e he; omega⟩
    · cases hs
theorem play_le : ∀ {M M' : SM} {ys : List Ln} {n : Nat}, M.le n → (∀ y ∈ ys, y.ok) → play M ys = some M' → M'.le (n + ys.length)
  | M, M', [], n, h, _, hp => by
    have : M = M' := by simpa [play] using hp
    subst this
    exact h
  | M, M', x :: r, n, h, ho, hp => by
    have hp' : (stp M x).bind (fun M1 => play M1 r) = some M' := hp
    cases hs : stp M x with
    | none => rw [hs] at hp'; cases hp'
    | some M1 =>
      rw [hs] at hp'
      have := play_le (stp_le h (ho x List.mem_cons_self) hs) (fun y hy => ho y (List.mem_cons_of_mem _ hy)) hp'
      rw [List.length_cons]
      rw [show n + (r.length + 1) = n + 1 + r.length by omega]
      exact this
/-- A sink that is as its log says. -/
structure SG (S : Sk) (L : Lg) (D : Dk) (xs : List Ln) : Prop where
  gl : GL L D 0 (xs.map Ln.enc)
  dom : Dom L D
  gs : GS L D
  pl : play SM.new xs = some S.m
  ok : ∀ x ∈ xs, x.ok
  br : S.broken = false
theorem SG.le {S : Sk} {L : Lg} {D : Dk} {xs : List Ln} (h : SG S L D xs) : S.m.le xs.length := by
  have := play_le (M := SM.new) (n := 0) ⟨by simp [SM.new], by simp [SM.new], by simp [SM.new], fun e he => by simp [SM.new] at he⟩ h.ok h.pl
  rwa [Nat.zero_add] at this

/-! ### Frames -/
theorem mineL_only {T : Nat → Prop} {w w' : World} {base : Nat} {v : Value} {pss : List (List UInt8)} (h : Fr.MineL w base v pss) (ho : Only T w w') (h1 : ∀ j, v.ownBlock = some j → ¬ T j) (h2 : ∀ j, T j → ¬ IsU8 w j) : Fr.MineL w' base v pss := by
  obtain ⟨vs, hr, he⟩ := h
  exact ⟨vs, ownsRow_only hr ho h1, fun i u y hu hy => ownsRow_only (he i u y hu hy) ho (fun g hg e => h2 g e (own_ty (he i u y hu hy) hg))⟩
theorem ST.other {T : Nat → Prop} {w0 w w' : World} {B s : Nat} {S S' : Sk} {L L' : Lg} {D D' : Dk} (h : ST w0 w B s S L D S' L' D') (ho : Only T w w') (hT : ∀ j, T j → ¬ skFoot s S' L' D' j) (hu : ∀ j, T j → ¬ IsU8 w j) (h0 : ∀ j, T j → w0.heap.size ≤ j) : ST w0 w' B s S L D S' L' D' :=
  ⟨⟨h.is.sk.only ho (fun j hj hf => hT j hj (.inl hf)), h.is.ld.only ho (fun j hj hf => hT j hj (.inr hf)) hu⟩, h.only.trans ho (fun j hj e => by have := h0 j e; omega), h.foot⟩
/-- What the writing of lines asks. -/
structure WIn (w : World) (B s : Nat) (S : Sk) (L : Lg) (D : Dk) (xs ys : List Ln) (M' : SM) : Prop where
  sd : SD w B s S L D
  sg : SG S L D xs
  ok : ∀ y ∈ ys, y.ok
  pl : play S.m ys = some M'
  cnt : xs.length + ys.length ≤ 900
  cap : ((xs.length + ys.length) * 65548 : Int) ≤ D.room
  room : D.room ≤ 1073741824
  vars : VarsIn w
  b5 : 5 ≤ B
set_option maxHeartbeats 4000000 in
theorem write_calls (B s : Nat) (S : Sk) (L : Lg) (D : Dk) (xs ys : List Ln) (M' : SM) (lv : Value) (vs : List Value) (P : Nat → Prop) (w : World) (h : WIn w B s S L D xs ys M') (hl : Rd w 1 lv ys.length vs) (hi : ∀ (i : Nat) (v : Value) (y : Ln), vs[i]? = some v → ys[i]? = some y → ItR P 8 w v y.its)
    (hP : ∀ j, P j → j < w.heap.size ∧ ¬ skFoot s S L D j) (hlP : ∀ a n c, lv = .slice (some a) n c → 0 < ys.length → P a.block) :
    Calls Tryz.prog 26 #[.pointer (some ⟨s, 0, none⟩), lv] w fun e w' => e = .returned (.int .i64 0) ∧ ∃ S' L' D', ST w w' B s S L D S' L' D' ∧ SG S' L' D' (xs ++ ys) ∧ S'.m = M' ∧ S'.l = S.l ∧ L'.d = L.d ∧ D'.room = D.room ∧ L'.name = L.name ∧ L'.room = L.room := by
  have H := Lib.hid h
  have HL := Lib.hid hl
  have HI := Lib.hid hi
  have HP := Lib.hid hP
  have HLP := Lib.hid hlP
  obtain ⟨la, lc, rfl, hlc, hlc2⟩ := hl.slice
  have hcnt := h.cnt
  have hwB : B ≤ w.heap.size := by have := h.sd.foot_lt (.inl (.inl rfl)); omega
  have HS0 := Lib.hid (ST.refl h.sd)
  have HG0 := Lib.hid h.sg.gl
  have HM0 := Lib.hid h.sg.dom
  have HB0 := Lib.hid (GB.of_gs h.sg.gs)
  have hsk := h.sd.sk.at.1
  clear h hl hi hP hlP
  go_enter Tryz.func26, Tryz.ntmps26
  go_wp2_with fail
  go_loopw [5, 7, 8, 9, 10, 11, 17] (fun av _ _ _ _ _ iv wr => ∃ (i : Nat) (L1 : Lg) (D1 : Dk), i ≤ ys.length ∧ iv = .int .i64 i ∧ ST w wr B s S L D S L1 D1 ∧ GL L1 D1 0 ((xs ++ ys.take i).map Ln.enc) ∧ Dom L1 D1 ∧ GB L1 D1 ∧ L1.d = L.d ∧ D1.room = D.room ∧ L1.name = L.name ∧ L1.room = L.room ∧ Fr.MineL wr w.heap.size av ((ys.take i).map Ln.enc) ∧ ∀ j, av.ownBlock = some j → ¬ ldFoot S.l L1 D1 j) (fun _ _ _ _ _ _ iv _ => ys.length - (intOf iv).toNat)
  case atStart => exact ⟨0, L, D, by omega, rfl, HS0.out, by simpa using HG0.out, HM0.out, HB0.out, rfl, rfl, rfl, rfl, Fr.MineL.nil _ _, fun j hj => by simp [Value.ownBlock] at hj⟩
  case round =>
    clear HS0 HG0 HM0 HB0 hsk
    obtain ⟨i, L1, D1, hi, rfl, hst, hg, hm, hb, e1, e2, e3, e4, hml, hap⟩ := hrel
    have HST := Lib.hid hst
    have HG := Lib.hid hg
    have HM := Lib.hid hm
    have HB := Lib.hid hb
    have HE := Lib.hid (And.intro e1 (And.intro e2 (And.intro e3 e4)))
    have HML := Lib.hid hml
    have HAP := Lib.hid hap
    obtain ⟨aa, ac, hav⟩ := hml.slice'
    have hilen : ((ys.take i).map Ln.enc).length = i := by rw [List.length_map, List.length_take]; omega
    rw [hilen] at hav
    have hcell := hst.is.sk.at.1
    have hws := hst.only.size
    subst hav
    clear hst hg hm hb e1 e2 e3 e4 hml hap
    by_cases hlt : i < ys.length
    · obtain ⟨y, hy⟩ : ∃ y, ys[i]? = some y := ⟨_, List.getElem?_eq_getElem hlt⟩
      have hyy : ys[i] = y := (List.getElem?_eq_some_iff.1 hy).2
      have hvl : vs.length = ys.length := by obtain ⟨_, _, _, h, -⟩ := HL.out; omega
      obtain ⟨u, hu⟩ : ∃ u, vs[i]? = some u := ⟨_, List.getElem?_eq_getElem (by omega)⟩
      have hit := HI.out i u y hu hy
      obtain ⟨ua, uc, hue, -⟩ := hit.slice
      obtain ⟨_, _, he2, -, -, -, hc2⟩ := HL.out
      rcases hc2 with hc2 | ⟨b, off, rfl, hc2⟩
      · simp only [Value.slice.injEq] at he2; omega
      simp only [Value.slice.injEq] at he2
      obtain ⟨rfl, -, rfl⟩ := he2
      have hcu := hc2 i u hu
      have hbP := HLP.out _ _ _ rfl (by omega)
      have hcw : wr.cell? ⟨b, off + i, none⟩ = some u := HST.out.only.cell (HP.out b hbP).2 hcu
      have hity := its_ok (H.out.ok y (List.mem_of_getElem? hy))
      have HIT := Lib.hid (show Its wr 8 u y.its from (hit.only HST.out.only (fun j hj hs => (HP.out j hj).2 hs)).mono (fun j hj => by have := (HP.out j hj).1; omega))
      have HY := Lib.hid (And.intro hity (And.intro hy hyy))
      have hic : i < lc := by omega
      subst hue
      have hTKm : (ys.take (i + 1)) = ys.take i ++ [y] := by rw [List.take_succ_eq_append_getElem hlt, hyy]
      have HTK := Lib.hid hTKm
      have hylen := hity.2.2
      clear hit hu hc2 hcu hbP hity hy hyy hTKm hilen
      go_wp2_with fail
      refine (wencode_calls _ y.its wr HIT.out HY.out.1.1 HY.out.1.2.1 HY.out.1.2.2).mono ?_
      rintro e w2 ⟨bv, rfl, hbrow, hb2⟩
      have hbm : Mine w2 wr.heap.size bv y.enc := hbrow
      have HBM := Lib.hid hbm
      have HB2 := Lib.hid hb2
      have HST2 := Lib.hid (HST.out.below hb2)
      have HML2 := Lib.hid (HML.out.below hb2 (Nat.le_refl _))
      have hs2 := hb2.size
      obtain ⟨ba, bc, rfl⟩ := hbm.slice
      have hcell2 := cell_later hb2 hcell
      obtain ⟨vs2, hvs2, hel2⟩ := HML2.out
      have hilen : ((ys.take i).map Ln.enc).length = i := by rw [List.length_map, List.length_take]; omega
      have HIL := Lib.hid hilen
      rw [hilen] at hvs2
      have HVS2 := Lib.hid (And.intro hvs2 hel2)
      have hal := below_alloc w2 (.cells #[.slice ba y.enc.length bc] 63)
      have hlit := Rd.lit (w := w2) (cs := #[.slice ba y.enc.length bc]) (e := 63) (n := 1) (sz := 1) rfl (by omega)
      obtain ⟨w3, hw3⟩ : ∃ w3, w3 = w2.alloc (.cells #[.slice ba y.enc.length bc] 63) := ⟨_, rfl⟩
      rw [← hw3] at hal hlit
      have HAL := Lib.hid hal
      have HLIT := Lib.hid hlit
      have HROW3 := Lib.hid (ownsRow_below hvs2 hal (Nat.le_refl _))
      have hws3 : w.heap.size ≤ w3.heap.size := by have := hal.size; omega
      have HW3 := Lib.hid hw3
      have hi9 : i ≤ 900 := by omega
      have HST3 := Lib.hid (HST2.out.below hal)
      have hty : ∀ j, (Value.slice aa i ac).ownBlock = some j → TyAt w3 j 63 := fun j hj => own_ty HROW3.out hj
      have HTY := Lib.hid hty
      have HNX := Lib.hid (show ∀ w4, w3.grownBy w4 (Value.slice aa i ac).ownBlock → ST w w4 B s S L D S L1 D1 from fun w4 hg4 => HST3.out.other (Only.of_grown hg4) (fun j hj hf => by
          rcases hf with hf | hf
          · obtain ⟨e, he, ht⟩ := HST3.out.is.sk.foot_ty hf
            have := ht.eq (hty j hj)
            subst this
            rcases he with he | he | he <;> exact absurd he (by decide)
          · exact HAP.out j hj hf) (fun j hj hu => absurd ((hty j hj).eq (show TyAt w3 j 5 from hu)) (by decide)) (fun j hj => (World.ownsRow.lt HROW3.out j hj).1))
      clear hbm hbrow hb2 hvs2 hel2 hal hlit hw3 hilen hty hcell hcell2
      go_wp2_with (at_builtin; rw [← HW3.out]; go_loud (refine app_keep Fr.tyBytesL HROW3.out HLIT.out (by simp [Value.oneCell']) (by omega) (by omega) (by omega) hws3 rfl rfl rfl rfl ?_; intro g gcap w4 h2 h3 h4 h5; have G2 := Lib.hid h2; have G4 := Lib.hid h4; have G5 := Lib.hid h5; have HST4 := Lib.hid (HNX.out w4 h4); have hcell4 := HST4.out.is.sk.at.1; clear h2 h3 h4 h5))
      have hBs4 : Mine w4 wr.heap.size (.slice ba y.enc.length bc) y.enc := ownsRow_only (HBM.out.below HAL.out (Nat.le_refl _)) (Only.of_grown G4.out) (fun j hj e => absurd ((HTY.out j e).eq (own_ty (HBM.out.below HAL.out (Nat.le_refl _)) hj)) (by decide))
      have HB4 := Lib.hid hBs4
      have HBB := Lib.hid (HST4.out.only.below hwB (fun j hj hf => by have := (H.out.sd.foot_lt hf).1; omega))
      have HV4 := Lib.hid (H.out.vars.below HBB.out H.out.b5)
      have hB4 : B ≤ w4.heap.size := by have := HBB.out.size; omega
      have h5 := H.out.b5
      have hEl : ((xs ++ ys.take i).map Ln.enc).length = xs.length + i := by rw [List.length_map, List.length_append, List.length_take]; omega
      have hnx : nextOf L1 = xs.length + i := by rw [HG.out.next, Nat.zero_add, hEl]
      have hus := HG.out.used
      have hcap := H.out.cap
      have hrm := H.out.room
      rw [hEl, Nat.zero_add] at hus
      refine (lappend_calls B S.l L1 D1 (.slice ba y.enc.length bc) y.enc w4 HST4.out.is.ld (HG.out.aok HM.out (by rw [hEl]; omega) (by rw [HE.out.2.1]; push_cast at hcap ⊢; omega) (by rw [HE.out.2.1]; exact hrm)) hBs4.bytes (fun a n c e _ hf => by
          simp only [Value.slice.injEq] at e
          obtain ⟨rfl, -, -⟩ := e
          have hm := Txt.of_mine hBs4
          exact HST4.out.is.ld.foot_u8 hf (hm.2 a _ _ rfl)) (fun n W hn ho => ItoaAt.all (by omega) (HV4.out.only ho h5 hB4) (by have := ho.size; omega)) hylen).mono ?_
      rintro e w5 ⟨rfl, L2, D2, ha, hlt5⟩
      obtain ⟨a1, a2, a3⟩ := HG.out.app HM.out hylen ha
      obtain ⟨-, b1, b2, b3⟩ := app_shape ha
      have HG5 := Lib.hid a1
      have HM5 := Lib.hid a2
      have HB5 := Lib.hid (HB.out.app HG.out ha)
      have HE5 := Lib.hid (show L2.d = L.d ∧ D2.room = D.room ∧ L2.name = L.name ∧ L2.room = L.room from ⟨b3.trans HE.out.1, a3.trans HE.out.2.1, b2.trans HE.out.2.2.1, b1.trans HE.out.2.2.2⟩)
      have HLT5 := Lib.hid hlt5
      have HST5 := Lib.hid (HST4.out.trans (ST.log HST4.out.is hlt5))
      clear hlt5 ha a1 a2 a3 b1 b2 b3 hBs4 hus hcap hrm hEl hnx hcell4 hcw
      go_wp2_with fail
      go_roundw
      case rel =>
        have hga : ¬ ldFoot S.l L1 D1 g := fun hf => by
          rcases G5.out with ⟨k, c, e, -⟩ | e
          · exact HAP.out g (by rw [e]; rfl) hf
          · have := (HST3.out.is.ld.foot_lt hf).2; omega
        have hgl : g < w4.heap.size := (World.ownsRow.lt G2.out g rfl).2
        obtain ⟨ml4, -⟩ := Fr.mineL_grown (w0 := w3) (ps := (ys.take i).map Ln.enc) (by rw [HIL.out]; exact HROW3.out) (fun j u z hu hz => (HVS2.out.2 j u z hu hz).below HAL.out (Nat.le_refl _)) ((HBM.out.mono hws).below HAL.out (Nat.le_refl _)) (Below.refl _ _) hws3 (by rw [HIL.out]; exact G2.out) G4.out
        refine ⟨i + 1, L2, D2, by omega, by go_num, HST5.out, ?_, HM5.out, HB5.out, HE5.out.1, HE5.out.2.1, HE5.out.2.2.1, HE5.out.2.2.2, ?_, fun j hj hf => ?_⟩
        · have e : (xs ++ ys.take (i + 1)).map Ln.enc = (xs ++ ys.take i).map Ln.enc ++ [y.enc] := by
            rw [HTK.out, ← List.append_assoc, List.map_append]; rfl
          rw [e]
          exact HG5.out
        · have e : (ys.take (i + 1)).map Ln.enc = (ys.take i).map Ln.enc ++ [y.enc] := by rw [HTK.out, List.map_append]; rfl
          rw [e]
          exact mineL_only ml4 HLT5.out.only (fun j hj => by
            have hj : some g = some j := hj
            simp only [Option.some.injEq] at hj
            subst hj
            exact hga) (fun j hj => HST4.out.is.ld.foot_u8 hj)
        · have hj : some g = some j := hj
          simp only [Option.some.injEq] at hj
          subst hj
          rcases HLT5.out.foot g hf with e | e
          · exact hga e
          · omega
      case measure => simp [intOf]; omega
    · have hiy : i = ys.length := by omega
      have hEl : ((xs ++ ys.take i).map Ln.enc).length = xs.length + i := by rw [List.length_map, List.length_append, List.length_take]; omega
      have HBB := Lib.hid (HST.out.only.below hwB (fun j hj hf => by have := (H.out.sd.foot_lt hf).1; omega))
      have HV4 := Lib.hid (H.out.vars.below HBB.out H.out.b5)
      have hB4 : B ≤ wr.heap.size := by have := HBB.out.size; omega
      have h5 := H.out.b5
      have HIY := Lib.hid hiy
      clear hiy hilen
      go_wp2_with fail
      refine (lsync_calls B S.l L1 D1 wr HST.out.is.ld (HG.out.sok (by rw [hEl]; omega)) (fun t ht W ho => ItoaAt.all (by have := HG.out.mem t ht; rw [hEl] at this; omega) (HV4.out.only ho h5 hB4) (by have := ho.size; omega))).mono ?_
      rintro e w5 ⟨rfl, D2, hsy, hlt5⟩
      have HGS := Lib.hid (HB.out.sync HG.out hsy)
      have HG5 := Lib.hid (HG.out.sync hsy)
      obtain ⟨y1, y2, y3, -⟩ := hsy.same
      have HM5 := Lib.hid (HM.out.like (L' := { L1 with segs := clean L1.segs.length L1.segs }) (D' := D2) rfl (clean_map _ _) y1)
      obtain ⟨L2, hL2⟩ : ∃ L2, L2 = { L1 with segs := clean L1.segs.length L1.segs } := ⟨_, rfl⟩
      have HE5 := Lib.hid (show L2.d = L.d ∧ D2.room = D.room ∧ L2.name = L.name ∧ L2.room = L.room from by rw [hL2]; exact ⟨HE.out.1, y2.trans HE.out.2.1, HE.out.2.2.1, HE.out.2.2.2⟩)
      rw [← hL2] at hlt5 HGS HG5 HM5
      have HLT5 := Lib.hid hlt5
      have HST5 := Lib.hid (HST.out.trans (ST.log HST.out.is hlt5))
      have HML5 := Lib.hid (mineL_only HML.out hlt5.only (fun j hj => HAP.out j hj) (fun j hj => HST.out.is.ld.foot_u8 hj))
      clear hsy hlt5 y1 y2 y3 hL2 hEl
      go_wp2_with fail
      go_loopw [14, 59] (fun _ iv wr2 => ∃ (k : Nat) (S2 : Sk), k ≤ i ∧ iv = .int .i64 k ∧ ST w wr2 B s S L D S2 L2 D2 ∧ play S.m (ys.take k) = some S2.m ∧ S2.l = S.l ∧ S2.broken = S.broken ∧ Fr.MineL wr2 w.heap.size (.slice aa i ac) ((ys.take i).map Ln.enc)) (fun _ iv _ => i - (intOf iv).toNat)
      case atStart => exact ⟨0, S, by omega, rfl, HST5.out, rfl, rfl, rfl, HML5.out⟩
      case round =>
        clear HST5 HML5
        obtain ⟨k, S2, hk, rfl, hst2, hpl2, hl2, hbr2, hml2⟩ := hrel
        have HST2 := Lib.hid hst2
        have HPL2 := Lib.hid (And.intro hpl2 (And.intro hl2 hbr2))
        have HML2 := Lib.hid hml2
        clear hst2 hpl2 hl2 hbr2 hml2
        by_cases hki : k < i
        · have hky : k < ys.length := by have := HIY.out; omega
          obtain ⟨vs3, hvs3, hel3⟩ := HML2.out
          have hilen : ((ys.take i).map Ln.enc).length = i := by rw [List.length_map, List.length_take]; omega
          rw [hilen] at hvs3
          have hv3l : vs3.length = i := by have := hvs3.1; omega
          obtain ⟨u, hu⟩ : ∃ u, vs3[k]? = some u := ⟨_, List.getElem?_eq_getElem (by omega)⟩
          have hye : ((ys.take i).map Ln.enc)[k]? = some (ys[k].enc) := by rw [List.getElem?_map, List.getElem?_take, if_pos hki, List.getElem?_eq_getElem hky]; rfl
          have hmu := hel3 k u _ hu hye
          obtain ⟨g, rfl, hgc, hgm, hcg⟩ := row_cell hvs3 k u hu
          obtain ⟨y, hy⟩ : ∃ y, ys[k] = y := ⟨_, rfl⟩
          rw [hy] at hmu
          obtain ⟨ua, uc, rfl⟩ := hmu.slice
          obtain ⟨Mi, Mj, t1, t2, t3⟩ := play_take H.out.pl k hky
          rw [HPL2.out.1] at t1
          simp only [Option.some.injEq] at t1
          rw [← t1, hy] at t2
          have hle := play_le H.out.sg.le (fun z hz => H.out.ok z (List.mem_of_mem_take hz)) HPL2.out.1
          have hle2 := hle.mono (m := 900) (by rw [List.length_take]; omega)
          have hgl : S2.gath.length ≤ 1000000 := by have := hle2.2.1; have e : S2.m.gath.length = S2.gath.length := rfl; omega
          have hel : S2.eps.length ≤ 1000000 := by have := hle2.1; have e : S2.m.eps.length = S2.eps.length := by simp [Sk.m]
                                                   omega
          have HLC := Lib.hid (line_calls B s S2 y Mj (.slice ua y.enc.length uc) wr HST2.out.is.sk hmu.bytes (H.out.ok y (by rw [← hy]; exact List.getElem_mem hky)) t2 hgl hel)
          have HT3 := Lib.hid t3
          have hkc : k < ac := by omega
          clear hvs3 hel3 hilen hv3l hu hye hmu t1 t2 t3 hle hle2 hgl hel hy
          go_wp2_with fail
          refine HLC.out.mono ?_
          rintro e w6 ⟨rfl, S3, d1, d2, d3, d4, d5, d6⟩
          have HST6 := Lib.hid (HST2.out.trans (ST.sink HST2.out.is d1 d3 d5 d6))
          have HML6 := Lib.hid (mineL_only HML2.out d5 (fun j hj hf => by
            obtain ⟨e, he, ht⟩ := HST2.out.is.sk.foot_ty hf
            obtain ⟨vs4, hvs4, -⟩ := HML2.out
            have := ht.eq (own_ty hvs4 hj)
            subst this
            rcases he with he | he | he <;> exact absurd he (by decide)) (fun j hj => HST2.out.is.foot_u8 (.inl hj)))
          have HD6 := Lib.hid (And.intro d2 (And.intro d3 d4))
          clear d1 d2 d3 d4 d5 d6
          go_wp2_with fail
          go_roundw
          case rel => exact ⟨k + 1, S3, by omega, by go_num, HST6.out, by rw [HT3.out, HD6.out.1], HD6.out.2.1.trans HPL2.out.2.1, HD6.out.2.2.trans HPL2.out.2.2, HML6.out⟩
          case measure => simp [intOf]; omega
        · have hkk : k = i := by omega
          have HKK := Lib.hid hkk
          clear hkk
          go_wp2_with fail
          go_ret
          have hiy := HIY.out
          have hp := HPL2.out.1
          rw [HKK.out, hiy, List.take_length, H.out.pl] at hp
          simp only [Option.some.injEq] at hp
          have hg := HG5.out
          rw [hiy, List.take_length] at hg
          refine ⟨rfl, S2, L2, D2, HST2.out, ⟨hg, HM5.out, HGS.out, ?_, fun z hz => ?_, HPL2.out.2.2.trans H.out.sg.br⟩, hp.symm, HPL2.out.2.1, HE5.out.1, HE5.out.2.1, HE5.out.2.2.1, HE5.out.2.2.2⟩
          · rw [play_app, H.out.sg.pl]
            show play S.m ys = _
            rw [H.out.pl, hp]
          · rcases List.mem_append.1 hz with hz | hz
            · exact H.out.sg.ok z hz
            · exact H.out.ok z hz
end Go.Proofs.YthgmligpconhhaaGreatDoor
