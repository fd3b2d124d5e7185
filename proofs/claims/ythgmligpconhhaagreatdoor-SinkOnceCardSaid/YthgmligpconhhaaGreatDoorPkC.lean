/- Walks and plain laws of the chapter, laid together; each part says what it proves. -/
import Derived.Lib.ItoaNum
import Derived.Lib.SlBytesConst
import Derived.Scope
import Derived.WalkMore
import Derived.Test.YthgmligpconhhaaGreatDoorPkA
import Derived.Test.YthgmligpconhhaaGreatDoorPkB
/- Layer 6: a log as it lies in memory; no call walked. -/
namespace Go.Proofs.YthgmligpconhhaaGreatDoor
open Go.RowKit Go.Shelf
set_option linter.unusedVariables false
set_option linter.unusedSimpArgs false
set_option maxRecDepth 100000

theorem tyBytesL : STy Tryz.prog 91 63 (.slice none 0 0) 1 24 := .of Tryz.underlying91 (by kernel_rfl) rfl (by omega)
theorem tySegs : STy Tryz.prog 84 94 (.pointer none) 1 8 := .of Tryz.underlying84 (by kernel_rfl) rfl (by omega)

/-- A block of cells of a type. -/
def TyAt (w : World) (j : Nat) (e : TypeId) : Prop := ∃ cs x, w.heap[j]? = some (Obj.cells cs e x)
theorem TyAt.eq {w : World} {j : Nat} {e f : TypeId} (h : TyAt w j e) (k : TyAt w j f) : e = f := by
  obtain ⟨cs, x, h⟩ := h
  obtain ⟨cs', x', k⟩ := k
  rw [h] at k
  simp only [Option.some.injEq, Obj.cells.injEq] at k
  exact k.2.1
theorem own_ty {w : World} {B sz n : Nat} {e : TypeId} {v : Value} {xs : List Value} (h : w.ownsRow B e sz v n xs) {j : Nat} (hj : v.ownBlock = some j) : TyAt w j e := by
  rcases h.2 with ⟨rfl, -⟩ | ⟨g, cap, cur, rfl, -, hh, -⟩
  · simp [Value.ownBlock] at hj
  · simp only [Value.ownBlock, Option.some.injEq] at hj
    subst hj
    exact ⟨cur, _, hh⟩
theorem MapIs.notTy {w : World} {r : Nat} {m : Ents} (h : MapIs w r m) {e : TypeId} : ¬ TyAt w r e := fun ⟨cs, x, hc⟩ => h.cell cs e x hc
theorem TyAt.lt {w : World} {j : Nat} {e : TypeId} (h : TyAt w j e) : j < w.heap.size := by
  obtain ⟨cs, x, h⟩ := h
  exact (Array.getElem?_eq_some_iff.1 h).1

structure Seg where
  b : Nat
  base : Nat
  ev : Value
  evs : List (Value × List UInt8)
  size : Nat
  dirty : Bool
def Seg.cells (s : Seg) : List Value := [.int .i64 s.base, s.ev, .int .i64 s.size, .bool s.dirty]
def Seg.ptr (s : Seg) : Value := .pointer (some ⟨s.b, 0, none⟩)
structure Lg where
  d : Nat
  name : ByteArray
  room : Int
  sv : Value
  segs : List Seg
  broken : Bool
def Lg.cells (L : Lg) : List Value := [.pointer (some ⟨L.d, 0, none⟩), .string L.name, .int .i64 L.room, L.sv, .bool L.broken]

structure SegAt (w : World) (B : Nat) (s : Seg) : Prop where
  box : w.ownsRow B 96 4 (.slice (some ⟨s.b, 0, none⟩) 1 1) 1 s.cells
  row : w.ownsRow B 63 1 s.ev s.evs.length (s.evs.map Prod.fst)
  txt : ∀ x ∈ s.evs, Txt w x.1 x.2
def Seg.foot (s : Seg) (j : Nat) : Prop := j = s.b ∨ s.ev.ownBlock = some j
theorem SegAt.foot_ty {w : World} {B : Nat} {s : Seg} (h : SegAt w B s) {j : Nat} (hj : s.foot j) : TyAt w j 96 ∨ TyAt w j 63 := by
  rcases hj with rfl | hj
  · exact .inl (own_ty h.box rfl)
  · exact .inr (own_ty h.row hj)
theorem SegAt.foot_lt {w : World} {B : Nat} {s : Seg} (h : SegAt w B s) {j : Nat} (hj : s.foot j) : B ≤ j ∧ j < w.heap.size := by
  rcases hj with rfl | hj
  · exact World.ownsRow.lt h.box _ rfl
  · exact World.ownsRow.lt h.row _ hj
theorem SegAt.only {S : Nat → Prop} {w w' : World} {B : Nat} {s : Seg} (h : SegAt w B s) (ho : Only S w w') (hF : ∀ j, S j → ¬ s.foot j) (hU : ∀ j, S j → ¬ IsU8 w j) : SegAt w' B s where
  box := ownsRow_only h.box ho (fun g hg hs => hF g hs (.inl (by simp only [Value.ownBlock, Option.some.injEq] at hg; exact hg.symm)))
  row := ownsRow_only h.row ho (fun g hg hs => hF g hs (.inr hg))
  txt := fun x hx => (h.txt x hx).only ho hU
theorem SegAt.at {w : World} {B : Nat} {s : Seg} (h : SegAt w B s) : w.cell? ⟨s.b, 0, none⟩ = some (.int .i64 s.base) ∧ w.cell? ⟨s.b, 1, none⟩ = some s.ev ∧ w.cell? ⟨s.b, 2, none⟩ = some (.int .i64 s.size) ∧ w.cell? ⟨s.b, 3, none⟩ = some (.bool s.dirty) := by
  have e := fun j u hj => World.ownsRow.cells h.box (g := s.b) rfl j u hj
  simp only [add_off, Nat.zero_add] at e
  exact ⟨e 0 _ rfl, e 1 _ rfl, e 2 _ rfl, e 3 _ rfl⟩
theorem SegAt.frz {w : World} {B : Nat} {s : Seg} (h : SegAt w B s) (j : Nat) : w.frozen? ⟨s.b, j, none⟩ = false := World.ownsRow.frozenAt h.box j

structure LogAt (w : World) (B l : Nat) (L : Lg) : Prop where
  box : w.ownsRow B 86 5 (.slice (some ⟨l, 0, none⟩) 1 1) 1 L.cells
  row : w.ownsRow B 94 1 L.sv L.segs.length (L.segs.map Seg.ptr)
  segs : ∀ s ∈ L.segs, SegAt w B s
  apart : ∀ (i j : Nat) (s t : Seg), L.segs[i]? = some s → L.segs[j]? = some t → i ≠ j → ∀ b, s.foot b → ¬ t.foot b
def Lg.foot (l : Nat) (L : Lg) (j : Nat) : Prop := j = l ∨ L.sv.ownBlock = some j ∨ ∃ s ∈ L.segs, s.foot j
def LogTy (e : TypeId) : Prop := e = 86 ∨ e = 94 ∨ e = 96 ∨ e = 63
theorem LogAt.foot_ty {w : World} {B l : Nat} {L : Lg} (h : LogAt w B l L) {j : Nat} (hj : L.foot l j) : ∃ e, LogTy e ∧ TyAt w j e := by
  rcases hj with rfl | hj | ⟨s, hs, hj⟩
  · exact ⟨_, .inl rfl, own_ty h.box rfl⟩
  · exact ⟨_, .inr (.inl rfl), own_ty h.row hj⟩
  · rcases (h.segs s hs).foot_ty hj with hj | hj
    · exact ⟨_, .inr (.inr (.inl rfl)), hj⟩
    · exact ⟨_, .inr (.inr (.inr rfl)), hj⟩
theorem LogAt.foot_lt {w : World} {B l : Nat} {L : Lg} (h : LogAt w B l L) {j : Nat} (hj : L.foot l j) : B ≤ j ∧ j < w.heap.size := by
  rcases hj with rfl | hj | ⟨s, hs, hj⟩
  · exact World.ownsRow.lt h.box _ rfl
  · exact World.ownsRow.lt h.row _ hj
  · exact (h.segs s hs).foot_lt hj
theorem LogAt.foot_u8 {w : World} {B l : Nat} {L : Lg} (h : LogAt w B l L) {j : Nat} (hj : L.foot l j) : ¬ IsU8 w j := by
  intro hu
  obtain ⟨e, he, ht⟩ := h.foot_ty hj
  have := ht.eq (show TyAt w j 5 from hu)
  subst this
  rcases he with he | he | he | he <;> exact absurd he (by decide)
theorem DiskAt.foot_ty {w : World} {B d : Nat} {D : Dk} (h : DiskAt w B d D) {j : Nat} (hj : D.foot d j) {e : TypeId} (he : LogTy e) : ¬ TyAt w j e := by
  intro ht
  rcases hj with rfl | rfl | rfl | hj
  · have := ht.eq (own_ty h.box rfl)
    subst this
    rcases he with he | he | he | he <;> exact absurd he (by decide)
  · exact h.nowM.notTy ht
  · exact h.durM.notTy ht
  · have := ht.eq (own_ty h.row hj)
    subst this
    rcases he with he | he | he | he <;> exact absurd he (by decide)
theorem foot_apart {w : World} {B l d : Nat} {L : Lg} {D : Dk} (h : LogAt w B l L) (k : DiskAt w B d D) {j : Nat} (hj : L.foot l j) : ¬ D.foot d j := by
  obtain ⟨e, he, ht⟩ := h.foot_ty hj
  exact fun hd => k.foot_ty hd he ht
theorem LogAt.only {S : Nat → Prop} {w w' : World} {B l : Nat} {L : Lg} (h : LogAt w B l L) (ho : Only S w w') (hF : ∀ j, S j → ¬ L.foot l j) (hU : ∀ j, S j → ¬ IsU8 w j) : LogAt w' B l L where
  box := ownsRow_only h.box ho (fun g hg hs => hF g hs (.inl (by simp only [Value.ownBlock, Option.some.injEq] at hg; exact hg.symm)))
  row := ownsRow_only h.row ho (fun g hg hs => hF g hs (.inr (.inl hg)))
  segs := fun s hs => (h.segs s hs).only ho (fun j hj hf => hF j hj (.inr (.inr ⟨s, hs, hf⟩))) hU
  apart := h.apart
theorem LogAt.below {w w' : World} {B l : Nat} {L : Lg} (h : LogAt w B l L) (hb : Below w.heap.size w w') : LogAt w' B l L :=
  h.only (Only.of_below (S := fun j => w.heap.size ≤ j) hb) (fun j hj hf => by have := (h.foot_lt hf).2; omega) (fun j hj hu => by have := TyAt.lt (show TyAt w j 5 from hu); omega)
theorem LogAt.at {w : World} {B l : Nat} {L : Lg} (h : LogAt w B l L) : w.cell? ⟨l, 0, none⟩ = some (.pointer (some ⟨L.d, 0, none⟩)) ∧ w.cell? ⟨l, 1, none⟩ = some (.string L.name) ∧ w.cell? ⟨l, 2, none⟩ = some (.int .i64 L.room) ∧ w.cell? ⟨l, 3, none⟩ = some L.sv ∧ w.cell? ⟨l, 4, none⟩ = some (.bool L.broken) := by
  have e := fun j u hj => World.ownsRow.cells h.box (g := l) rfl j u hj
  simp only [add_off, Nat.zero_add] at e
  exact ⟨e 0 _ rfl, e 1 _ rfl, e 2 _ rfl, e 3 _ rfl, e 4 _ rfl⟩
theorem LogAt.frz {w : World} {B l : Nat} {L : Lg} (h : LogAt w B l L) (j : Nat) : w.frozen? ⟨l, j, none⟩ = false := World.ownsRow.frozenAt h.box j
/-- The pointer at a place of the segments. -/
theorem LogAt.ptr {w : World} {B l : Nat} {L : Lg} (h : LogAt w B l L) (i : Nat) (hi : i < L.segs.length) : ∃ b cap, L.sv = .slice (some ⟨b, 0, none⟩) L.segs.length cap ∧ L.segs.length ≤ cap ∧ cap ≤ 9223372036854775807 ∧ w.cell? ⟨b, i, none⟩ = some (.pointer (some ⟨L.segs[i].b, 0, none⟩)) := by
  rcases h.row.2 with ⟨_, h0⟩ | ⟨g, cap, cur, hv, hb, hg, hn, hm, _⟩
  · omega
  · have := World.ownsRow.cells h.row (g := g) (by rw [hv]; rfl) i _ (by rw [List.getElem?_map, List.getElem?_eq_getElem hi]; rfl)
    rw [add_off, Nat.zero_add] at this
    exact ⟨g, cap, hv, hn, by unfold maxLen at hm; omega, this⟩

/-- The log on its disk. -/
structure LD (w : World) (B l : Nat) (L : Lg) (D : Dk) : Prop where
  log : LogAt w B l L
  disk : DiskAt w B L.d D
def ldFoot (l : Nat) (L : Lg) (D : Dk) (j : Nat) : Prop := L.foot l j ∨ D.foot L.d j
/-- Behind a call: another log on another disk, at the same places. -/
structure LT (w w' : World) (B l : Nat) (L : Lg) (D : Dk) (L' : Lg) (D' : Dk) : Prop where
  is : LD w' B l L' D'
  d : L'.d = L.d
  only : Only (ldFoot l L D) w w'
  foot : ∀ j, ldFoot l L' D' j → ldFoot l L D j ∨ w.heap.size ≤ j
theorem LD.below {w w' : World} {B l : Nat} {L : Lg} {D : Dk} (h : LD w B l L D) (hb : Below w.heap.size w w') : LD w' B l L D := ⟨h.log.below hb, h.disk.below hb⟩
theorem LD.foot_u8 {w : World} {B l : Nat} {L : Lg} {D : Dk} (h : LD w B l L D) {j : Nat} (hj : ldFoot l L D j) : ¬ IsU8 w j := hj.elim (fun e => h.log.foot_u8 e) (fun e => h.disk.foot_u8 e)
theorem LD.foot_lt {w : World} {B l : Nat} {L : Lg} {D : Dk} (h : LD w B l L D) {j : Nat} (hj : ldFoot l L D j) : B ≤ j ∧ j < w.heap.size := hj.elim (fun e => h.log.foot_lt e) (fun e => h.disk.foot_lt e)
theorem LD.only {S : Nat → Prop} {w w' : World} {B l : Nat} {L : Lg} {D : Dk} (h : LD w B l L D) (ho : Only S w w') (hF : ∀ j, S j → ¬ ldFoot l L D j) (hU : ∀ j, S j → ¬ IsU8 w j) : LD w' B l L D :=
  ⟨h.log.only ho (fun j hj hf => hF j hj (.inl hf)) hU, h.disk.only ho (fun j hj hf => hF j hj (.inr hf)) hU⟩
theorem LT.of_below {w w' : World} {B l : Nat} {L : Lg} {D : Dk} (h : LD w B l L D) (hb : Below w.heap.size w w') : LT w w' B l L D L D := ⟨h.below hb, rfl, Only.of_below hb, fun j hj => .inl hj⟩
theorem LT.refl {w : World} {B l : Nat} {L : Lg} {D : Dk} (h : LD w B l L D) : LT w w B l L D L D := LT.of_below h (Below.refl _ _)
theorem LT.trans {w w' w'' : World} {B l : Nat} {L L' L'' : Lg} {D D' D'' : Dk} (h : LT w w' B l L D L' D') (k : LT w' w'' B l L' D' L'' D'') : LT w w'' B l L D L'' D'' :=
  ⟨k.is, k.d.trans h.d, h.only.trans k.only (fun j hj hf => (h.foot j hf).resolve_right (by omega)), fun j hj => (k.foot j hj).elim (fun hf => h.foot j hf) (fun hs => .inr (Nat.le_trans h.only.size hs))⟩
theorem LT.below {w w' w'' : World} {B l : Nat} {L L' : Lg} {D D' : Dk} (h : LT w w' B l L D L' D') (hb : Below w'.heap.size w' w'') : LT w w'' B l L D L' D' := h.trans (LT.of_below h.is hb)
theorem LT.txt {w w' : World} {B l : Nat} {L L' : Lg} {D D' : Dk} (h : LT w w' B l L D L' D') (h0 : LD w B l L D) {v : Value} {xs : List UInt8} (hv : Txt w v xs) : Txt w' v xs := hv.only h.only (fun j hj => h0.foot_u8 hj)
/-- A call of the disk's. -/
theorem LT.disk {w w' : World} {B l : Nat} {L : Lg} {D D' : Dk} (h : LD w B l L D) (ht : Turned w w' B L.d D D') : LT w w' B l L D L D' :=
  ⟨⟨h.log.only ht.only (fun j hj hf => foot_apart h.log h.disk hf hj) (fun j hj => h.disk.foot_u8 hj), ht.is⟩, rfl, ht.only.weak (fun j _ e => .inr e), fun j hj => hj.elim (fun e => .inl (.inl e)) (fun e => (ht.foot j e).elim (fun e => .inl (.inr e)) .inr)⟩
theorem LT.drew {w : World} {B l : Nat} {L : Lg} {D : Dk} (h : LD w B l L D) : LD w.drew B l L D := h.below ((Below.refl _ _).drew)

/-- A change of what the log itself holds. -/
theorem LT.log {w w' : World} {B l : Nat} {L L' : Lg} {D : Dk} (h : LD w B l L D) (ho : Only (L.foot l) w w') (h' : LogAt w' B l L') (hd : L'.d = L.d) (hf : ∀ j, L'.foot l j → L.foot l j ∨ w.heap.size ≤ j) : LT w w' B l L D L' D :=
  ⟨⟨h', by rw [hd]; exact h.disk.only ho (fun j hj => foot_apart h.log h.disk hj) (fun j hj => h.log.foot_u8 hj)⟩, hd, ho.weak (fun j _ e => .inl e), fun j hj => hj.elim (fun e => (hf j e).elim (fun e => .inl (.inl e)) .inr) (fun e => .inl (.inr (by rw [hd] at e; exact e)))⟩

/-- Another content of the log's own box. -/
theorem LogAt.setBox {w : World} {B l : Nat} {L : Lg} (h : LogAt w B l L) (o : Nat) (v : Value) : Only (fun j => j = l) w (w.setCell ⟨l, o, none⟩ v) ∧ (w.setCell ⟨l, o, none⟩ v).ownsRow B 86 5 (.slice (some ⟨l, 0, none⟩) 1 1) 1 (L.cells.set o v) ∧
    (w.setCell ⟨l, o, none⟩ v).ownsRow B 94 1 L.sv L.segs.length (L.segs.map Seg.ptr) ∧ ∀ s ∈ L.segs, SegAt (w.setCell ⟨l, o, none⟩ v) B s := by
  have hst := World.ownsRow.stored h.box o v
  have ho : Only (fun j => j = l) w (w.setCell ⟨l, o, none⟩ v) := (Only.of_grown hst.2).weak (fun j _ e => (Option.some.inj e).symm)
  have hty := own_ty h.box (j := l) rfl
  refine ⟨ho, hst.1, ownsRow_only h.row ho (fun g hg e => ?_), fun s hs => (h.segs s hs).only ho (fun j e hf => ?_) (fun j e hu => ?_)⟩
  · subst e
    exact absurd ((own_ty h.row hg).eq hty) (by decide)
  · subst e
    rcases (h.segs s hs).foot_ty hf with hf | hf
    · exact absurd (hf.eq hty) (by decide)
    · exact absurd (hf.eq hty) (by decide)
  · subst e
    exact absurd (hty.eq (show TyAt w j 5 from hu)) (by decide)
end Go.Proofs.YthgmligpconhhaaGreatDoor

/- Layer 6: numbers as texts, names of files; plain Lean. -/
namespace Go.Proofs.YthgmligpconhhaaGreatDoor

/-- A number's text. -/
def istr (n : Nat) : ByteArray := ⟨(Lib.decDigits n).toArray⟩
theorem dec_val (u : Nat) : (Lib.decDigits u).foldl (fun a b => 10 * a + (b.toNat - 48)) 0 = u := by
  induction u using Nat.strongRecOn with
  | _ u ih =>
    by_cases h : u < 10
    · rw [Lib.decDigits_one h]
      simp only [List.foldl_cons, List.foldl_nil, UInt8.toNat_ofNat']
      omega
    · rw [Lib.decDigits, dif_neg h, List.foldl_append, ih (u / 10) (by omega)]
      simp only [List.foldl_cons, List.foldl_nil, UInt8.toNat_ofNat']
      omega
theorem dec_inj {a b : Nat} (h : Lib.decDigits a = Lib.decDigits b) : a = b := by rw [← dec_val a, ← dec_val b, h]
theorem istr_inj {a b : Nat} (h : istr a = istr b) : a = b := dec_inj (by have := congrArg (fun x => x.data.toList) h; simpa [istr] using this)
theorem dec_ok (u : Nat) : (Lib.decDigits u).all okC = true := by
  have d : ∀ k : Fin 10, okC (UInt8.ofNat (48 + k.val)) = true := by decide
  induction u using Nat.strongRecOn with
  | _ u ih =>
    by_cases h : u < 10
    · rw [Lib.decDigits_one h]
      simpa using d ⟨u, h⟩
    · rw [Lib.decDigits, dif_neg h, List.all_append, ih (u / 10) (by omega)]
      simpa using d ⟨u % 10, by omega⟩
theorem nDig_pow (u : Nat) : ∀ k, Lib.nDigits u = k + 1 → k = 0 ∨ 10 ^ k ≤ u := by
  induction u using Nat.strongRecOn with
  | _ u ih =>
    intro k hk
    by_cases h : u < 10
    · rw [Lib.nDigits_small h] at hk
      exact .inl (by omega)
    · rw [Lib.nDigits_big h] at hk
      right
      obtain ⟨k', rfl⟩ : ∃ k', k = k' + 1 := ⟨k - 1, by have := Lib.nDigits_pos (u / 10); omega⟩
      have := ih (u / 10) (by omega) k' (by omega)
      rw [Nat.pow_succ]
      rcases this with rfl | h1
      · omega
      · have : 10 ^ k' * 10 ≤ u / 10 * 10 := Nat.mul_le_mul_right _ h1
        omega
theorem dec_len {u k : Nat} (h : u < 10 ^ k) (hk : 0 < k) : (Lib.decDigits u).length ≤ k := by
  rw [Lib.decDigits_length]
  by_cases h1 : k < Lib.nDigits u
  · obtain ⟨j, hj⟩ : ∃ j, Lib.nDigits u = j + 1 := ⟨Lib.nDigits u - 1, by omega⟩
    have h2 := nDig_pow u j hj
    have h3 : 10 ^ k ≤ 10 ^ j := Nat.pow_le_pow_right (by decide) (by omega)
    omega
  · omega
theorem istr_size (n : Nat) (hn : n < 9223372036854775808) : (istr n).size ≤ 19 := by
  show (Lib.decDigits n).toArray.size ≤ 19
  rw [List.size_toArray]
  exact dec_len (by have : (10 : Nat) ^ 19 = 10000000000000000000 := by decide
                    omega) (by decide)
/-- A segment's file. -/
def fnm (name : ByteArray) (n : Nat) : ByteArray := (name ++ ⟨#[45]⟩) ++ istr n
theorem fnm_list (name : ByteArray) (n : Nat) : (fnm name n).data.toList = name.data.toList ++ [45] ++ Lib.decDigits n := by
  simp [fnm, istr, ByteArray.data_append]
theorem fnm_inj {name : ByteArray} {a b : Nat} (h : fnm name a = fnm name b) : a = b := by
  have := congrArg (fun x => x.data.toList) h
  simp only [fnm_list] at this
  exact dec_inj (List.append_cancel_left this)
theorem fnm_size (name : ByteArray) (n : Nat) : (fnm name n).size = name.size + 1 + (istr n).size := by
  unfold fnm
  rw [ByteArray.size_append, ByteArray.size_append]
  rfl
/-- A log's name. -/
def rightNm (xs : List UInt8) : Bool := decide (1 ≤ xs.length) && decide (xs.length ≤ 12) && xs.all (fun c => 97 ≤ c && c ≤ 122)
theorem fnm_good {name : ByteArray} {n : Nat} (h : rightNm name.data.toList = true) (hn : n < 9223372036854775808) : goodNm (fnm name n).data.toList = true := by
  unfold rightNm at h
  simp only [Bool.and_eq_true, decide_eq_true_eq] at h
  obtain ⟨⟨h1, h2⟩, h3⟩ := h
  rw [fnm_list]
  unfold goodNm
  have h4 : (Lib.decDigits n).length ≤ 19 := by have := istr_size n hn; simpa [istr, ByteArray.size] using this
  have h5 : name.data.toList.all okC = true := by
    rw [List.all_eq_true] at h3 ⊢
    intro c hc
    have := h3 c hc
    unfold okC
    rw [this]
    rfl
  simp only [List.length_append, List.length_cons, List.length_nil, List.all_append, List.all_cons, List.all_nil, h5, dec_ok, Bool.and_true, Bool.and_eq_true, decide_eq_true_eq]
  exact ⟨⟨by omega, by omega⟩, by decide⟩
theorem rightNm_size {name : ByteArray} (h : rightNm name.data.toList = true) : name.size ≤ 12 := by
  unfold rightNm at h
  simp only [Bool.and_eq_true, decide_eq_true_eq] at h
  have := h.1.2
  rwa [Array.length_toList] at this
end Go.Proofs.YthgmligpconhhaaGreatDoor

/- Layer 6: the small calls of a log, walked. -/
namespace Go.Proofs.YthgmligpconhhaaGreatDoor
open Go.RowKit Go.Shelf
set_option linter.unusedVariables false
set_option linter.unusedSimpArgs false
set_option maxRecDepth 100000

/-- Itoa answers so at n. -/
def ItoaAt (n : Nat) (w : World) : Prop := ∀ W, Below w.heap.size w W → Calls Tryz.prog 55 #[.int .i64 n] W fun e W' => e = .returned (.string (istr n)) ∧ Below W.heap.size W W'
theorem itoa_small {n : Nat} (hn : n < 100) (w : World) : ItoaAt n w := fun W _ => (Any.strconv_Itoa_small Tryz.lays171 n hn W).mono fun e W' ⟨h1, h2⟩ => ⟨h1, by rw [h2]; exact Below.refl _ _⟩
theorem ItoaAt.below {n : Nat} {w w' : World} (h : ItoaAt n w) (hb : Below w.heap.size w w') : ItoaAt n w' := fun W hW => h W (hb.trans (hW.mono hb.size))
set_option maxHeartbeats 1000000 in
theorem sfile_calls (l sb : Nat) (name : ByteArray) (n : Nat) (w : World) (h1 : w.cell? ⟨l, 1, none⟩ = some (.string name)) (h2 : w.cell? ⟨sb, 0, none⟩ = some (.int .i64 n)) (hi : ItoaAt n w) (hs : name.size ≤ 1000000) (hn : n < 9223372036854775808) :
    Calls Tryz.prog 60 #[.pointer (some ⟨l, 0, none⟩), .pointer (some ⟨sb, 0, none⟩)] w fun e w' => e = .returned (.string (fnm name n)) ∧ Below w.heap.size w w' := by
  have HI := Lib.hid hi
  have hil : (istr n).size ≤ 19 := istr_size n hn
  have k1 : ¬ (9223372036854775807 < name.size + 1) := by omega
  have k3 : ¬ (9223372036854775807 < name.size + 1 + (istr n).size) := by omega
  clear hi
  go_enter Tryz.func60, Tryz.ntmps60
  go_wp2_with fail
  refine region_m [(0, false), (1, false), (2, false), (3, false), (4, false), (5, false), (6, false), (7, false), (8, false), (9, true), (10, false)] 11 (fun V => V.cell? ⟨l, 1, none⟩ = some (.string name) ∧ V.cell? ⟨sb, 0, none⟩ = some (.int .i64 n)) (by kernel_rfl) (by kernel_rfl) ⟨h1, h2⟩ ?_
  iterate 9
    first
    | (refine m_take (v := ?_) rfl rfl ?_ ?_
       rotate_left
       · intro W hW
         go_simp
         with_reducible rfl
       simp only [Act.put, List.setIfInBounds_toArray, List.set_cons_zero, List.set_cons_succ])
    | (refine m_skip rfl rfl ?_
       simp only [Act.put, List.setIfInBounds_toArray, List.set_cons_zero, List.set_cons_succ])
  refine m_loud rfl (fun K hK => ?_)
  have HK := Lib.hid hK
  clear hK
  go_simp
  refine (HI.out _ ((Below.refl _ _).drew)).mono ?_
  rintro e w1 ⟨rfl, hb⟩
  have hb : Below w.heap.size w w1 := ((Below.refl w.heap.size w).drew).trans hb
  have HB := Lib.hid hb
  refine HK.out _ _ ⟨cell_later hb h1, cell_later hb h2⟩ ?_
  clear HK
  clear hb
  iterate 1
    first
    | (refine m_take (v := ?_) rfl rfl ?_ ?_
       rotate_left
       · intro W hW
         go_simp
         with_reducible rfl
       simp only [Act.put, List.setIfInBounds_toArray, List.set_cons_zero, List.set_cons_succ])
    | (refine m_skip rfl rfl ?_
       simp only [Act.put, List.setIfInBounds_toArray, List.set_cons_zero, List.set_cons_succ])
  refine m_done ?_
  simp only [List.drop_succ_cons, List.drop_zero]
  go_wp2_with fail
  simp only [NP]
  go_wp2_with fail
  go_ret
  exact ⟨rfl, HB.out⟩
set_option maxHeartbeats 1000000 in
theorem snext_calls (sb n : Nat) (v : Value) (m : Nat) (w : World) (h1 : w.cell? ⟨sb, 0, none⟩ = some (.int .i64 n)) (h2 : w.cell? ⟨sb, 1, none⟩ = some v) (hv : ∃ a c, v = .slice a m c) (hs : n + m ≤ 9223372036854775807) :
    Calls Tryz.prog 38 #[.pointer (some ⟨sb, 0, none⟩)] w fun e w' => e = .returned (.int .i64 ((n + m : Nat) : Int)) ∧ Below w.heap.size w w' := by
  obtain ⟨a, c, rfl⟩ := hv
  go_enter Tryz.func38, Tryz.ntmps38
  go_wp2_with fail
  refine region_m [(0, false), (1, false), (2, false), (3, false), (4, false), (5, false), (6, false), (7, false), (8, false), (9, false)] 10 (fun V => V.cell? ⟨sb, 0, none⟩ = some (.int .i64 n) ∧ V.cell? ⟨sb, 1, none⟩ = some (.slice a m c)) (by kernel_rfl) (by kernel_rfl) ⟨h1, h2⟩ ?_
  have q1 := i64w (n := (n : Int) + (m : Int)) (by omega) (by omega)
  have q2 := w64 (n := (n : Int) + (m : Int)) (by omega) (by omega)
  iterate 10
    first
    | (refine m_take (v := ?_) rfl rfl ?_ ?_
       rotate_left
       · intro W hW
         go_simp
         with_reducible rfl
       simp only [Act.put, List.setIfInBounds_toArray, List.set_cons_zero, List.set_cons_succ])
    | (refine m_skip rfl rfl ?_
       simp only [Act.put, List.setIfInBounds_toArray, List.set_cons_zero, List.set_cons_succ])
  refine m_done ?_
  simp only [List.drop_succ_cons, List.drop_zero]
  go_wp2_with fail
  simp only [NP]
  go_wp2_with fail
  go_ret
  exact ⟨by go_num, (Below.refl _ _).drew⟩

/-! ### ready, First, Next, fail -/
theorem lready_nil (w : World) : Calls Tryz.prog 72 #[.pointer none] w fun e w' => e = .returned (.int .i64 9) ∧ w' = w := by
  go_enter Tryz.func72, Tryz.ntmps72
  go_wp2_with fail
  go_ret
  exact ⟨rfl, rfl⟩
theorem lready_calls (l : Nat) (w : World) (h : w.cell? ⟨l, 4, none⟩ = some (.bool false)) : Calls Tryz.prog 72 #[.pointer (some ⟨l, 0, none⟩)] w fun e w' => e = .returned (.int .i64 0) ∧ w' = w := by
  go_enter Tryz.func72, Tryz.ntmps72
  go_wp2_with fail
  go_ret
  exact ⟨rfl, rfl⟩
theorem lnext_nil (w : World) : Calls Tryz.prog 74 #[.pointer none] w fun e w' => e = .returned (.int .i64 0) ∧ w' = w := by
  go_enter Tryz.func74, Tryz.ntmps74
  go_wp2_with fail
  go_ret
  exact ⟨rfl, rfl⟩
def firstOf (L : Lg) : Nat := match L.segs with | [] => 0 | s :: _ => s.base
def nextOf (L : Lg) : Nat := match L.segs.getLast? with | none => 0 | some s => s.base + s.evs.length
theorem firstOf_cons {L : Lg} (h : 0 < L.segs.length) : firstOf L = L.segs[0].base := by
  unfold firstOf
  generalize L.segs = l at *
  cases l with
  | nil => simp at h
  | cons a b => rfl
theorem nextOf_last {L : Lg} {m : Nat} (h : L.segs.length = m + 1) : nextOf L = (L.segs[m]'(by omega)).base + (L.segs[m]'(by omega)).evs.length := by
  have e : L.segs.getLast? = some (L.segs[m]'(by omega)) := by
    rw [List.getLast?_eq_getElem?, List.getElem?_eq_some_iff]
    exact ⟨by omega, by congr 1; omega⟩
  unfold nextOf
  rw [e]
set_option maxHeartbeats 1000000 in
theorem lnext_calls (B l : Nat) (L : Lg) (w : World) (h : LogAt w B l L) (hb : nextOf L ≤ 9223372036854775807) (hl40 : L.segs.length ≤ 1000000) : Calls Tryz.prog 74 #[.pointer (some ⟨l, 0, none⟩)] w fun e w' => e = .returned (.int .i64 (nextOf L)) ∧ Below w.heap.size w w' := by
  obtain ⟨-, -, -, c3, -⟩ := h.at
  by_cases h0 : 0 < L.segs.length
  · obtain ⟨m, hm⟩ : ∃ m, L.segs.length = m + 1 := ⟨L.segs.length - 1, by omega⟩
    obtain ⟨b, cap, hsv, hc1, hc2, hp⟩ := h.ptr m (by omega)
    have hsg := h.segs _ (List.getElem_mem (l := L.segs) (n := m) (by omega))
    obtain ⟨s0, s1, -, -⟩ := hsg.at
    have hev := own_slice hsg.row
    have hn := nextOf_last hm
    rw [hn] at hb ⊢
    have HS := Lib.hid (fun W (x0 : W.cell? _ = _) (x1 : W.cell? _ = _) => snext_calls (L.segs[m]'(by omega)).b (L.segs[m]'(by omega)).base (L.segs[m]'(by omega)).ev (L.segs[m]'(by omega)).evs.length W x0 x1 hev hb)
    rw [hsv, hm] at c3
    generalize (L.segs[m]'(by omega)).base = n at *
    generalize (L.segs[m]'(by omega)).b = sb at *
    generalize (L.segs[m]'(by omega)).ev = ev at *
    generalize (L.segs[m]'(by omega)).evs.length = el at *
    have e1 : (((m + 1 : Nat) : Int) == 0) = false := by rw [beq_eq_false_iff_ne]; omega
    have e2 : (((m : Int) + 1) == 0) = false := by rw [beq_eq_false_iff_ne]; omega
    have hm1 : m < cap := by omega
    have b1 : (m : Int) < (m : Int) + 1 := by omega
    have q1 := i64w (n := (m : Int)) (by omega) (by omega)
    have q2 := w64 (n := (m : Int)) (by omega) (by omega)
    clear h hsv hsg hev hn
    go_enter Tryz.func74, Tryz.ntmps74
    go_wp2_with fail
    refine region_m [(0, false), (1, false), (2, false), (3, false), (4, false), (5, false), (6, false), (7, false), (8, false), (9, false), (10, false), (11, false), (12, true)] 13 (fun V => V.cell? ⟨l, 3, none⟩ = some (.slice (some ⟨b, 0, none⟩) (m + 1) cap) ∧ V.cell? ⟨b, m, none⟩ = some (.pointer (some ⟨sb, 0, none⟩)) ∧ V.cell? ⟨sb, 0, none⟩ = some (.int .i64 n) ∧ V.cell? ⟨sb, 1, none⟩ = some ev) (by kernel_rfl) (by kernel_rfl) ⟨c3, hp, s0, s1⟩ ?_
    iterate 12
      first
      | (refine m_take (v := ?_) rfl rfl ?_ ?_
         rotate_left
         · intro W hW
           go_simp
           with_reducible rfl
         simp only [Act.put, List.setIfInBounds_toArray, List.set_cons_zero, List.set_cons_succ])
      | (refine m_skip rfl rfl ?_
         simp only [Act.put, List.setIfInBounds_toArray, List.set_cons_zero, List.set_cons_succ])
    refine m_loud rfl (fun K hK => ?_)
    have HK := Lib.hid hK
    clear hK
    go_simp
    refine (HS.out w.drew s0 s1).mono ?_
    rintro e w1 ⟨rfl, hb1⟩
    have hb1 : Below w.heap.size w w1 := ((Below.refl w.heap.size w).drew).trans hb1
    have HB1 := Lib.hid hb1
    refine HK.out _ _ ⟨cell_later hb1 c3, cell_later hb1 hp, cell_later hb1 s0, cell_later hb1 s1⟩ ?_
    clear HK
    clear hb1
    refine m_done ?_
    simp only [List.drop_succ_cons, List.drop_zero]
    go_wp2_with fail
    simp only [NP]
    go_wp2_with fail
    go_ret
    exact ⟨rfl, HB1.out⟩
  · have hl : L.segs = [] := List.eq_nil_of_length_eq_zero (by omega)
    obtain ⟨a, c, hsv⟩ := own_slice h.row
    have HF := Lib.hid (show nextOf L = 0 from by unfold nextOf; rw [hl]; rfl)
    rw [hl] at hsv
    rw [hsv] at c3
    clear h hsv h0 hl
    go_enter Tryz.func74, Tryz.ntmps74
    go_wp2_with fail
    go_ret
    exact ⟨by rw [HF.out]; rfl, Below.refl _ _⟩
end Go.Proofs.YthgmligpconhhaaGreatDoor

/- Layer 6: what changes of a log; no call walked. -/
namespace Go.Proofs.YthgmligpconhhaaGreatDoor
open Go.RowKit Go.Shelf
set_option linter.unusedVariables false
set_option linter.unusedSimpArgs false
set_option maxRecDepth 100000

theorem LogAt.seg_ne {w : World} {B l : Nat} {L : Lg} (h : LogAt w B l L) {i : Nat} {s : Seg} (hi : L.segs[i]? = some s) {j : Nat} (hj : s.foot j) : j ≠ l ∧ L.sv.ownBlock ≠ some j := by
  have hs := h.segs s (List.mem_of_getElem? hi)
  have ht := hs.foot_ty hj
  refine ⟨fun e => ?_, fun e => ?_⟩
  · subst e
    rcases ht with ht | ht
    · exact absurd (ht.eq (own_ty h.box rfl)) (by decide)
    · exact absurd (ht.eq (own_ty h.box rfl)) (by decide)
  · rcases ht with ht | ht
    · exact absurd (ht.eq (own_ty h.row e)) (by decide)
    · exact absurd (ht.eq (own_ty h.row e)) (by decide)

/-- One segment is another at the same place. -/
theorem LogAt.setSeg {w w' : World} {B l : Nat} {L : Lg} (h : LogAt w B l L) {i : Nat} {s s' : Seg} (hi : L.segs[i]? = some s) (hb : s'.b = s.b) (ho : Only s.foot w w') (hs' : SegAt w' B s') (hf : ∀ j, s'.foot j → s.foot j ∨ w.heap.size ≤ j) :
    LogAt w' B l { L with segs := L.segs.set i s' } ∧ Only (L.foot l) w w' ∧ ∀ j, Lg.foot l { L with segs := L.segs.set i s' } j → L.foot l j ∨ w.heap.size ≤ j := by
  have hm := List.mem_of_getElem? hi
  have hil : i < L.segs.length := (List.getElem?_eq_some_iff.1 hi).1
  have hsg := h.segs s hm
  have hU : ∀ j, s.foot j → ¬ IsU8 w j := fun j hj => h.foot_u8 (.inr (.inr ⟨s, hm, hj⟩))
  have hold : ∀ (k : Nat) (t : Seg), L.segs[k]? = some t → k ≠ i → SegAt w' B t := fun k t hk hki =>
    (h.segs t (List.mem_of_getElem? hk)).only ho (fun j hj ht => h.apart i k s t hi hk (fun e => hki e.symm) j hj ht) hU
  have hget : ∀ k, (L.segs.set i s')[k]? = if i = k then (if i < L.segs.length then some s' else none) else L.segs[k]? := fun k => List.getElem?_set ..
  refine ⟨⟨ownsRow_only h.box ho (fun g hg hs => ?_), ?_, fun t ht => ?_, fun a b t u ha hb hab k hk1 hk2 => ?_⟩, ho.weak (fun j _ e => .inr (.inr ⟨s, hm, e⟩)), fun j hj => ?_⟩
  · simp only [Value.ownBlock, Option.some.injEq] at hg
    exact (h.seg_ne hi hs).1 hg.symm
  · have e : (L.segs.set i s').map Seg.ptr = L.segs.map Seg.ptr := by
      rw [List.map_set]
      apply List.ext_getElem?
      intro k
      rw [List.getElem?_set]
      split
      · rename_i e
        subst e
        rw [if_pos (by simpa using hil), List.getElem?_map, hi]
        simp [Seg.ptr, hb]
      · rfl
    show w'.ownsRow B 94 1 L.sv (L.segs.set i s').length ((L.segs.set i s').map Seg.ptr)
    rw [e, List.length_set]
    exact ownsRow_only h.row ho (fun g hg hs => (h.seg_ne hi hs).2 hg)
  · obtain ⟨k, hk⟩ := List.getElem?_of_mem ht
    rw [hget] at hk
    split at hk
    · cases hk
      exact hs'
    · rename_i hne
      exact hold k t hk (fun e => hne e.symm)
  · have ha' := ha
    have hb' := hb
    rw [hget] at ha' hb'
    split at ha' <;> split at hb'
    · omega
    · rename_i e1 e2
      cases ha'
      rcases hf k hk1 with h1 | h1
      · exact h.apart i b s u hi hb' (fun e => e2 e) k h1 hk2
      · have := ((h.segs u (List.mem_of_getElem? hb')).foot_lt hk2).2
        omega
    · rename_i e1 e2
      cases hb'
      rcases hf k hk2 with h1 | h1
      · exact h.apart a i t s ha' hi (fun e => e1 e.symm) k hk1 h1
      · have := ((h.segs t (List.mem_of_getElem? ha')).foot_lt hk1).2
        omega
    · exact h.apart a b t u ha' hb' hab k hk1 hk2
  · rcases hj with e | e | ⟨t, ht, e⟩
    · exact .inl (.inl e)
    · exact .inl (.inr (.inl e))
    · obtain ⟨k, hk⟩ := List.getElem?_of_mem ht
      have hk' := hk
      rw [hget] at hk'
      split at hk'
      · cases hk'
        exact (hf j e).elim (fun e => .inl (.inr (.inr ⟨s, hm, e⟩))) .inr
      · exact .inl (.inr (.inr ⟨t, List.mem_of_getElem? hk', e⟩))
theorem LT.setSeg {w w' : World} {B l : Nat} {L : Lg} {D : Dk} (h : LD w B l L D) {i : Nat} {s s' : Seg} (hi : L.segs[i]? = some s) (hb : s'.b = s.b) (ho : Only s.foot w w') (hs' : SegAt w' B s') (hf : ∀ j, s'.foot j → s.foot j ∨ w.heap.size ≤ j) :
    LT w w' B l L D { L with segs := L.segs.set i s' } D := by
  obtain ⟨h1, h2, h3⟩ := h.log.setSeg hi hb ho hs' hf
  exact LT.log h h2 h1 rfl h3

/-- A cell of a segment's box. -/
theorem SegAt.setCell {w : World} {B : Nat} {s s' : Seg} (h : SegAt w B s) (o : Nat) (v : Value) (hb : s'.b = s.b) (hev : s'.ev = s.ev) (hevs : s'.evs = s.evs) (hc : s'.cells = s.cells.set o v) : SegAt (w.setCell ⟨s.b, o, none⟩ v) B s' ∧ Only s.foot w (w.setCell ⟨s.b, o, none⟩ v) := by
  have hst := World.ownsRow.stored h.box o v
  have ho : Only (fun j => j = s.b) w (w.setCell ⟨s.b, o, none⟩ v) := (Only.of_grown hst.2).weak (fun j _ e => (Option.some.inj e).symm)
  have hty := own_ty h.box (j := s.b) rfl
  refine ⟨⟨?_, ?_, fun x hx => ?_⟩, ho.weak (fun j _ e => .inl e)⟩
  · rw [hb, hc]
    exact hst.1
  · rw [hev, hevs]
    exact ownsRow_only h.row ho (fun g hg e => by subst e; exact absurd ((own_ty h.row hg).eq hty) (by decide))
  · rw [hevs] at hx
    exact (h.txt x hx).only ho (fun j e hu => by subst e; exact absurd (hty.eq (show TyAt w s.b 5 from hu)) (by decide))
theorem LT.setDirty {w : World} {B l : Nat} {L : Lg} {D : Dk} (h : LD w B l L D) {i : Nat} {s : Seg} (hi : L.segs[i]? = some s) (b : Bool) : LT w (w.setCell ⟨s.b, 3, none⟩ (.bool b)) B l L D { L with segs := L.segs.set i { s with dirty := b } } D := by
  obtain ⟨h1, h2⟩ := (h.log.segs s (List.mem_of_getElem? hi)).setCell (s' := { s with dirty := b }) 3 (.bool b) rfl rfl rfl rfl
  exact LT.setSeg h hi rfl h2 h1 (fun j hj => .inl hj)
theorem LT.setSize {w : World} {B l : Nat} {L : Lg} {D : Dk} (h : LD w B l L D) {i : Nat} {s : Seg} (hi : L.segs[i]? = some s) (n : Nat) : LT w (w.setCell ⟨s.b, 2, none⟩ (.int .i64 n)) B l L D { L with segs := L.segs.set i { s with size := n } } D := by
  obtain ⟨h1, h2⟩ := (h.log.segs s (List.mem_of_getElem? hi)).setCell (s' := { s with size := n }) 2 (.int .i64 n) rfl rfl rfl rfl
  exact LT.setSeg h hi rfl h2 h1 (fun j hj => .inl hj)

/-- An entry more: the row has grown, the box holds it. -/
theorem SegAt.addEntry {w w2 : World} {B : Nat} {s : Seg} {ev2 : Value} {x : Value × List UInt8} (h : SegAt w B s) (hx : Txt w x.1 x.2) (hr : w2.ownsRow B 63 1 ev2 (s.evs.length + 1) (s.evs.map Prod.fst ++ [x.1])) (hg : w.grownBy w2 s.ev.ownBlock) :
    SegAt (w2.setCell ⟨s.b, 1, none⟩ ev2) B { s with ev := ev2, evs := s.evs ++ [x] } ∧ Only s.foot w (w2.setCell ⟨s.b, 1, none⟩ ev2) := by
  have ho2 : Only (fun j => s.ev.ownBlock = some j) w w2 := Only.of_grown hg
  have hty := own_ty h.box (j := s.b) rfl
  have hb2 : w2.ownsRow B 96 4 (.slice (some ⟨s.b, 0, none⟩) 1 1) 1 s.cells := ownsRow_only h.box ho2 (fun g hg e => by
    simp only [Value.ownBlock, Option.some.injEq] at hg
    subst hg
    exact absurd ((own_ty h.row e).eq hty) (by decide))
  have hst := World.ownsRow.stored hb2 1 ev2
  have ho3 : Only (fun j => j = s.b) w2 (w2.setCell ⟨s.b, 1, none⟩ ev2) := (Only.of_grown hst.2).weak (fun j _ e => (Option.some.inj e).symm)
  have ho : Only s.foot w (w2.setCell ⟨s.b, 1, none⟩ ev2) := (ho2.weak (fun j _ e => .inr e)).trans ho3 (fun j _ e => .inl e)
  have hU : ∀ j, s.foot j → ¬ IsU8 w j := fun j hj hu => by
    rcases h.foot_ty hj with e | e
    · exact absurd (e.eq (show TyAt w j 5 from hu)) (by decide)
    · exact absurd (e.eq (show TyAt w j 5 from hu)) (by decide)
  refine ⟨⟨hst.1, ?_, fun y hy => ?_⟩, ho⟩
  · have := ownsRow_only hr ho3 (fun g hg e => by
      subst e
      exact absurd ((own_ty hr hg).eq (own_ty hb2 (j := s.b) rfl)) (by decide))
    show (w2.setCell ⟨s.b, 1, none⟩ ev2).ownsRow B 63 1 ev2 (s.evs ++ [x]).length ((s.evs ++ [x]).map Prod.fst)
    rw [List.length_append, List.map_append]
    exact this
  · rcases List.mem_append.1 hy with hy | hy
    · exact (h.txt y hy).only ho hU
    · rw [List.mem_singleton.1 hy]
      exact hx.only ho hU
theorem LT.addEntry {w w2 : World} {B l : Nat} {L : Lg} {D : Dk} (h : LD w B l L D) {i : Nat} {s : Seg} {ev2 : Value} {x : Value × List UInt8} (hi : L.segs[i]? = some s) (hx : Txt w x.1 x.2) (hr : w2.ownsRow B 63 1 ev2 (s.evs.length + 1) (s.evs.map Prod.fst ++ [x.1])) (hg : w.grownBy w2 s.ev.ownBlock)
    (hnew : ∀ j, ev2.ownBlock = some j → s.ev.ownBlock = some j ∨ w.heap.size ≤ j) : LT w (w2.setCell ⟨s.b, 1, none⟩ ev2) B l L D { L with segs := L.segs.set i { s with ev := ev2, evs := s.evs ++ [x] } } D := by
  obtain ⟨h1, h2⟩ := (h.log.segs s (List.mem_of_getElem? hi)).addEntry hx hr hg
  refine LT.setSeg h hi rfl h2 h1 (fun j hj => ?_)
  rcases hj with e | e
  · exact .inl (.inl e)
  · exact (hnew j e).elim (fun e => .inl (.inr e)) .inr

theorem LT.entry {w w2 : World} {B l : Nat} {L : Lg} {D : Dk} (h : LD w B l L D) {i : Nat} {s : Seg} {ev2 : Value} {x : Value × List UInt8} (hi : L.segs[i]? = some s) (hx : Txt w x.1 x.2) (hr : w2.ownsRow B 63 1 ev2 (s.evs.length + 1) (s.evs.map Prod.fst ++ [x.1])) (hg : w.grownBy w2 s.ev.ownBlock)
    (hnew : ∀ j, ev2.ownBlock = some j → s.ev.ownBlock = some j ∨ w.heap.size ≤ j) (n : Nat) :
    LT w (((w2.setCell ⟨s.b, 1, none⟩ ev2).setCell ⟨s.b, 2, none⟩ (.int .i64 n)).setCell ⟨s.b, 3, none⟩ (.bool true)) B l L D { L with segs := L.segs.set i { s with ev := ev2, evs := s.evs ++ [x], size := n, dirty := true } } D := by
  have A1 := LT.addEntry h hi hx hr hg hnew
  have hil := (List.getElem?_eq_some_iff.1 hi).1
  have A2 := LT.setSize A1.is (i := i) (s := { s with ev := ev2, evs := s.evs ++ [x] }) (List.getElem?_set_self hil) n
  have A3 := LT.setDirty A2.is (i := i) (s := { s with ev := ev2, evs := s.evs ++ [x], size := n }) (List.getElem?_set_self (by rw [List.length_set]; exact hil)) true
  have := (A1.trans A2).trans A3
  simp only [List.set_set] at this
  exact this

/-- A segment more behind the others. -/
theorem LT.addSeg {w0 w w2 : World} {B l : Nat} {L0 L : Lg} {D0 D : Dk} {s : Seg} {sv2 : Value} (h0 : LT w0 w B l L0 D0 L D) (hs : SegAt w B s) (hfr : ∀ j, s.foot j → w0.heap.size ≤ j) (hL : ∀ j, s.foot j → ¬ L.foot l j) (hr : w2.ownsRow B 94 1 sv2 (L.segs.length + 1) (L.segs.map Seg.ptr ++ [s.ptr])) (hg : w.grownBy w2 L.sv.ownBlock)
    (hnew : ∀ j, sv2.ownBlock = some j → L.sv.ownBlock = some j ∨ w.heap.size ≤ j) : LT w0 (w2.setCell ⟨l, 3, none⟩ sv2) B l L0 D0 { L with sv := sv2, segs := L.segs ++ [s] } D := by
  have h := h0.is.log
  have ho2 : Only (fun j => L.sv.ownBlock = some j) w w2 := Only.of_grown hg
  have hty := own_ty h.box (j := l) rfl
  have hb2 : w2.ownsRow B 86 5 (.slice (some ⟨l, 0, none⟩) 1 1) 1 L.cells := ownsRow_only h.box ho2 (fun g hg e => by
    simp only [Value.ownBlock, Option.some.injEq] at hg
    subst hg
    exact absurd ((own_ty h.row e).eq hty) (by decide))
  have hst := World.ownsRow.stored hb2 3 sv2
  have ho3 : Only (fun j => j = l) w2 (w2.setCell ⟨l, 3, none⟩ sv2) := (Only.of_grown hst.2).weak (fun j _ e => (Option.some.inj e).symm)
  have ho : Only (fun j => j = l ∨ L.sv.ownBlock = some j) w (w2.setCell ⟨l, 3, none⟩ sv2) := (ho2.weak (fun j _ e => .inr e)).trans ho3 (fun j _ e => .inl e)
  have hoL : Only (L.foot l) w (w2.setCell ⟨l, 3, none⟩ sv2) := ho.weak (fun j _ e => e.elim .inl (fun e => .inr (.inl e)))
  have hU : ∀ j, (j = l ∨ L.sv.ownBlock = some j) → ¬ IsU8 w j := fun j e => h.foot_u8 (e.elim .inl (fun e => .inr (.inl e)))
  have hseg : ∀ t ∈ L.segs, SegAt (w2.setCell ⟨l, 3, none⟩ sv2) B t := fun t ht => by
    obtain ⟨k, hk⟩ := List.getElem?_of_mem ht
    exact (h.segs t ht).only ho (fun j e hf => by
      have := h.seg_ne hk hf
      exact e.elim this.1 this.2) hU
  have hnews : SegAt (w2.setCell ⟨l, 3, none⟩ sv2) B s := hs.only ho (fun j e hf => hL j hf (e.elim .inl (fun e => .inr (.inl e)))) hU
  have hlog : LogAt (w2.setCell ⟨l, 3, none⟩ sv2) B l { L with sv := sv2, segs := L.segs ++ [s] } := by
    refine ⟨hst.1, ?_, fun t ht => ?_, fun a b t u ha hb hab k hk1 hk2 => ?_⟩
    · have := ownsRow_only hr ho3 (fun g hg e => by
        subst e
        exact absurd ((own_ty hr hg).eq (own_ty hb2 (j := g) rfl)) (by decide))
      show (w2.setCell ⟨l, 3, none⟩ sv2).ownsRow B 94 1 sv2 (L.segs ++ [s]).length ((L.segs ++ [s]).map Seg.ptr)
      rw [List.length_append, List.map_append]
      exact this
    · rcases List.mem_append.1 ht with ht | ht
      · exact hseg t ht
      · rw [List.mem_singleton.1 ht]; exact hnews
    · have last : ∀ (i : Nat) (x : Seg), (L.segs ++ [s])[i]? = some x → (i < L.segs.length ∧ L.segs[i]? = some x) ∨ (i = L.segs.length ∧ x = s) := fun i x hx => by
        rcases Nat.lt_trichotomy i L.segs.length with hlt | heq | hgt
        · rw [List.getElem?_append_left hlt] at hx; exact .inl ⟨hlt, hx⟩
        · subst heq
          rw [List.getElem?_append_right (Nat.le_refl _), Nat.sub_self] at hx
          simp only [List.getElem?_cons_zero, Option.some.injEq] at hx
          exact .inr ⟨rfl, hx.symm⟩
        · rw [List.getElem?_eq_none (by rw [List.length_append]; simp; omega)] at hx
          cases hx
      rcases last a t ha with ⟨la, ja⟩ | ⟨la, rfl⟩ <;> rcases last b u hb with ⟨lb, jb⟩ | ⟨lb, rfl⟩
      · exact h.apart a b t u ja jb hab k hk1 hk2
      · exact hL k hk2 (.inr (.inr ⟨t, List.mem_of_getElem? ja, hk1⟩))
      · exact hL k hk1 (.inr (.inr ⟨u, List.mem_of_getElem? jb, hk2⟩))
      · omega
  have hdisk : DiskAt (w2.setCell ⟨l, 3, none⟩ sv2) B L.d D := h0.is.disk.only hoL (fun j hj => foot_apart h h0.is.disk hj) (fun j hj => h.foot_u8 hj)
  refine ⟨⟨hlog, hdisk⟩, h0.d, h0.only.trans (hoL.weak (T := ldFoot l L D) (fun j _ e => .inl e)) (fun j hj hf => (h0.foot j hf).resolve_right (by omega)), fun j hj => ?_⟩
  have hsz := h0.only.size
  rcases hj with (e | e | ⟨t, ht, e⟩) | e
  · exact .inl (.inl (.inl e))
  · rcases hnew j e with e | e
    · exact h0.foot j (.inl (.inr (.inl e)))
    · exact .inr (by omega)
  · rcases List.mem_append.1 ht with ht | ht
    · exact h0.foot j (.inl (.inr (.inr ⟨t, ht, e⟩)))
    · rw [List.mem_singleton.1 ht] at e
      exact .inr (hfr j e)
  · exact h0.foot j (.inr e)
end Go.Proofs.YthgmligpconhhaaGreatDoor

/- Layer 6: Append, walked. -/
namespace Go.Proofs.YthgmligpconhhaaGreatDoor
open Go.RowKit Go.Shelf
set_option linter.unusedVariables false
set_option linter.unusedSimpArgs false
set_option maxRecDepth 100000

theorem Bytes.only0 {S : Nat → Prop} {w w' : World} {v : Value} {xs : List UInt8} (h : Bytes w v xs) (ho : Only S w w') (hS : ∀ a n c, v = .slice (some a) n c → 0 < xs.length → ¬ S a.block) : Bytes w' v xs := by
  by_cases h0 : 0 < xs.length
  · exact h.only ho (fun a n c e => hS a n c e h0)
  · obtain ⟨a, cap, hv, h1, h2, h3⟩ := h
    refine ⟨a, cap, hv, h1, h2, h3.elim .inl (fun ⟨b, off, hab, _⟩ => .inr ⟨b, off, hab, fun i hi => by omega⟩)⟩

/-- What Append asks of the log and its disk. -/
structure AOk (L : Lg) (D : Dk) (n : Nat) : Prop where
  open_ : L.broken = false
  nofail : D.fails = false
  nm : rightNm L.name.data.toList = true
  nx : nextOf L ≤ 1000000000
  base : ∀ s ∈ L.segs, s.base ≤ nextOf L
  evs : ∀ s ∈ L.segs, s.evs.length ≤ 1000000
  file : ∀ s ∈ L.segs, (mget D.now (fnm L.name s.base)).isSome = true ∧ (fileOf D.now (fnm L.name s.base)).length = s.size
  new : mget D.now (fnm L.name (nextOf L)) = none
  room : usedOf D.now + (12 + n) ≤ D.room
  roomB : D.room ≤ 1073741824
  chg : D.chg.length ≤ 100000
  segs : L.segs.length ≤ 100000
  lroom : 0 ≤ L.room ∧ L.room ≤ 4294967296

theorem file_le : ∀ (m : Files) (nm : ByteArray), (fileOf m nm).length ≤ usedOf m
  | [], nm => by simp [fileOf, mget]
  | p :: m, nm => by
    have ih := file_le m nm
    unfold fileOf mget
    unfold fileOf at ih
    have e : usedOf (p :: m) = p.2.2.length + usedOf m := by simp [usedOf]
    split
    · rw [e]; simp
    · omega

/-- Behind Append: in the last segment. -/
def AppStay (L : Lg) (D : Dk) (ys : List UInt8) (L' : Lg) (D' : Dk) : Prop :=
  ∃ (i : Nat) (s : Seg) (nv dv cv ev v : Value), L.segs.length = i + 1 ∧ L.segs[i]? = some s ∧ (s.size : Int) < L.room ∧ D' = wrD D (fnm L.name s.base) s.size (Fr.FrM.frameOf ys) nv dv cv ∧
    L' = { L with segs := L.segs.set i { s with ev := ev, evs := s.evs ++ [(v, ys)], size := s.size + (12 + ys.length), dirty := true } }
/-- The last segment is synced. -/
def Freshened (L : Lg) (D : Dk) (Ls : Lg) (Ds : Dk) : Prop :=
  (L.segs = [] ∧ Ls = L ∧ Ds = D) ∨ ∃ (i : Nat) (s : Seg), L.segs.length = i + 1 ∧ L.segs[i]? = some s ∧ L.room ≤ (s.size : Int) ∧
    ((s.dirty = false ∧ Ls = L ∧ Ds = D) ∨ (s.dirty = true ∧ ∃ cv v, Ls = { L with segs := L.segs.set i { s with dirty := false } } ∧ Ds = syD D (fnm L.name s.base) cv v))
/-- Behind Append: in a new segment. -/
def AppFresh (L : Lg) (D : Dk) (ys : List UInt8) (L' : Lg) (D' : Dk) : Prop :=
  ∃ (Ls : Lg) (Ds : Dk) (b : Nat) (nv dv cv sv ev v : Value), Freshened L D Ls Ds ∧ D' = wrD Ds (fnm L.name (nextOf L)) 0 (Fr.FrM.frameOf ys) nv dv cv ∧
    L' = { Ls with sv := sv, segs := Ls.segs ++ [⟨b, nextOf L, ev, [(v, ys)], 12 + ys.length, true⟩] }

theorem rdy_ok {D : Dk} {name : ByteArray} {n m : Nat} (h1 : D.fails = false) (h2 : rightNm name.data.toList = true) (hn : n < 9223372036854775808) : rdyE D (fnm name n) m = 0 := by
  unfold rdyE
  rw [h1, fnm_good h2 hn]
  simp
theorem wr_ok {D : Dk} {name : ByteArray} {n at_ : Nat} {ys : List UInt8} (h1 : D.fails = false) (h2 : rightNm name.data.toList = true) (hn : n < 9223372036854775808) (hl : at_ ≤ (fileOf D.now (fnm name n)).length) (hr : (usedOf D.now + ys.length : Int) ≤ D.room) : wrE D (fnm name n) at_ ys = 0 := by
  unfold wrE
  rw [rdy_ok h1 h2 hn, if_neg (by simp), if_neg (by omega), if_neg (by omega)]
theorem sy_ok {D : Dk} {name : ByteArray} {n : Nat} (h1 : D.fails = false) (h2 : rightNm name.data.toList = true) (hn : n < 9223372036854775808) (h : (mget D.now (fnm name n)).isSome = true) : syE D (fnm name n) = 0 := by
  unfold syE
  have : rdyE D (fnm name n) 0 = 0 := rdy_ok (m := 0) h1 h2 hn
  rw [this, if_neg (by simp), if_neg (by rintro ⟨h3, -⟩; rw [Option.isNone_iff_eq_none] at h3; rw [h3] at h; cases h)]

theorem SegAt.turned {w w' : World} {B d : Nat} {D D' : Dk} {s : Seg} (h : SegAt w B s) (hd : DiskAt w B d D) (ht : Turned w w' B d D D') : SegAt w' B s :=
  h.only ht.only (fun j hj hf => by
    rcases h.foot_ty hf with e | e
    · exact hd.foot_ty hj (.inr (.inr (.inl rfl))) e
    · exact hd.foot_ty hj (.inr (.inr (.inr rfl))) e) (fun j hj => hd.foot_u8 hj)
theorem SegAt.below {w w' : World} {B : Nat} {s : Seg} (h : SegAt w B s) (hb : Below w.heap.size w w') : SegAt w' B s :=
  h.only (Only.of_below (S := fun j => w.heap.size ≤ j) hb) (fun j hj hf => by have := (h.foot_lt hf).2; omega) (fun j hj hu => by have := TyAt.lt (show TyAt w j 5 from hu); omega)
theorem set_set_set {L : Lg} {i : Nat} {a b c : Seg} : ((L.segs.set i a).set i b).set i c = L.segs.set i c := by rw [List.set_set, List.set_set]
/-- The last entry of the last segment. -/
def lastE (L : Lg) : Option (Value × List UInt8) := L.segs.getLast?.bind (fun s => s.evs.getLast?)
theorem lastE_set {L : Lg} {X : List Seg} {i : Nat} {s : Seg} {evs : List (Value × List UInt8)} {x : Value × List UInt8} (hX : X.length = i + 1) (hs : s.evs = evs ++ [x]) (hL : L.segs = X.set i s) : lastE L = some x := by
  unfold lastE
  rw [hL, List.getLast?_eq_getElem?, List.length_set, hX, Nat.add_sub_cancel, List.getElem?_set_self (by omega)]
  simp [hs]
set_option maxHeartbeats 8000000 in
theorem lappend2_calls (B l : Nat) (L : Lg) (D : Dk) (v : Value) (ys : List UInt8) (w : World) (h : LD w B l L D) (hok : AOk L D ys.length) (hv : Bytes w v ys) (hvF : ∀ a n c, v = .slice (some a) n c → 0 < ys.length → ¬ ldFoot l L D a.block) (hit : ∀ n W, n ≤ nextOf L → Only (fun j => B ≤ j) w W → ItoaAt n W) (hlen : ys.length ≤ 65536) :
    Calls Tryz.prog 48 #[.pointer (some ⟨l, 0, none⟩), v] w fun e w' => e = .returned (.tuple #[.int .i64 (nextOf L), .int .i64 0]) ∧ ∃ L' D', (AppStay L D ys L' D' ∨ AppFresh L D ys L' D') ∧ LT w w' B l L D L' D' ∧ ∃ v, lastE L' = some (v, ys) ∧ ∀ b, v.ownBlock = some b → w.heap.size ≤ b := by
  have HD := Lib.hid h
  have HOK := Lib.hid hok
  have HV := Lib.hid hv
  have HVF := Lib.hid hvF
  have HIT := Lib.hid hit
  have hnx := hok.nx
  have hsl := hok.segs
  obtain ⟨-, -, -, -, c4⟩ := h.log.at
  rw [hok.open_] at c4
  obtain ⟨va, vc, rfl, -⟩ := hv
  have HN := Lib.hid (fun W (hW : LD W B l L D) => lnext_calls B l L W hW.log (by omega) (by omega))
  have HNE := Lib.hid (show ∃ N, N = nextOf L from ⟨_, rfl⟩)
  clear h hok hvF hit
  generalize hNX : nextOf L = nx at *
  have HNX := Lib.hid hNX
  clear hNX HNE
  go_enter Tryz.func48, Tryz.ntmps48
  go_wp2_with fail
  refine (lready_calls l w c4).mono ?_
  rintro e w0 ⟨rfl, rfl⟩
  go_wp2_with fail
  refine (Fr.put_calls _ ys _ HV.out).mono ?_
  rintro e w1 ⟨fv, fc, rfl, hpo, hb1⟩
  unfold Fr.PutOut at hpo
  rw [if_pos hlen] at hpo
  obtain ⟨hfm, rfl⟩ := hpo
  have HB1 := Lib.hid hb1
  have HD1 := Lib.hid (HD.out.below hb1)
  have HFM := Lib.hid (Txt.of_mine hfm)
  have hfl := Fr.FrM.frameOf_length ys
  obtain ⟨fa, fcap, rfl⟩ := hfm.slice
  rw [hfl] at HFM ⊢
  clear hb1 hfm c4 hfl
  go_wp2_with fail
  refine (HN.out _ HD1.out).mono ?_
  rintro e w2 ⟨rfl, hb2⟩
  have HB2 := Lib.hid (HB1.out.trans (hb2.mono HB1.out.size))
  have HD2 := Lib.hid (HD1.out.below hb2)
  have HF2 := Lib.hid (HFM.out.below hb2)
  clear hb2 HFM HD1 HB1
  have e1 : ((nx : Int) == 9223372036854775807) = false := by rw [beq_eq_false_iff_ne]; omega
  obtain ⟨c0, -, c2, c3, -⟩ := HD2.out.log.at
  by_cases hz : L.segs = []
  · obtain ⟨sa0, sc0, hsv0⟩ := own_slice HD2.out.log.row
    rw [hz] at hsv0
    rw [hsv0] at c3
    go_upto_region 14 with fail
    refine region_m [(0, false), (1, false), (2, false), (3, false), (4, false), (5, false), (6, false), (7, false), (8, false), (9, false), (10, false), (11, false), (12, false)] 13 (fun X => True) (by kernel_rfl) (by kernel_rfl) trivial ?_
    iterate 13
      first
      | (refine m_take (v := ?_) rfl rfl ?_ ?_
         rotate_left
         · intro W hW
           go_simp
           with_reducible rfl
         simp only [Act.put, List.setIfInBounds_toArray, List.set_cons_zero, List.set_cons_succ])
      | (refine m_skip rfl rfl ?_
         simp only [Act.put, List.setIfInBounds_toArray, List.set_cons_zero, List.set_cons_succ])
    refine m_done ?_
    simp only [List.drop_succ_cons, List.drop_zero]
    have HT := Lib.hid (LT.of_below HD.out HB2.out.drew)
    have HFV := Lib.hid HF2.out.drew
    obtain ⟨Ls, hLs⟩ : ∃ Ls, Ls = L := ⟨_, rfl⟩
    obtain ⟨Ds, hDs⟩ : ∃ Ds, Ds = D := ⟨_, rfl⟩
    have HFR := Lib.hid (show Freshened L D Ls Ds from .inl ⟨hz, hLs, hDs⟩)
    have HNM := Lib.hid (show rightNm Ls.name.data.toList = true by rw [hLs]; exact HOK.out.nm)
    have HDS := Lib.hid (show Ds.now = D.now ∧ Ds.room = D.room ∧ Ds.fails = D.fails ∧ Ds.chg.length ≤ D.chg.length by rw [hDs]; exact ⟨rfl, rfl, rfl, Nat.le_refl _⟩)
    have hsl2 : Ls.segs.length ≤ 100000 := by rw [hLs]; exact hsl
    have HLN := Lib.hid (show Ls.name = L.name by rw [hLs])
    clear c0 c2 c3 HF2 HB2 HD2
    generalize w2.drew = V0 at *
    have HT := Lib.hid (show LT w0 V0 B l L D Ls Ds by rw [hLs, hDs]; exact HT.out)
    clear hLs hDs hsv0 hz
    go_upto_region 15 with fail
    simp only [NP]
    -- the rest of Append in a new segment: HT in the world V0, of the log Ls on the disk Ds
    obtain ⟨sb, hsb⟩ : ∃ sb, sb = (V0).heap.size := ⟨_, rfl⟩
    obtain ⟨V, hV⟩ : ∃ V, V = (V0).alloc (.cells #[.int .i64 nx, .slice none 0 0, .int .i64 0, .bool false] 96) := ⟨_, rfl⟩
    have hal := below_alloc (V0) (.cells #[.int .i64 nx, .slice none 0 0, .int .i64 0, .bool false] 96)
    have hB3 : B ≤ (V0).heap.size := by have := HT.out.is.log.foot_lt (j := l) (.inl rfl); omega
    obtain ⟨sev, hsev⟩ : ∃ v : Value, v = .slice none 0 0 := ⟨_, rfl⟩
    obtain ⟨sevs, hsevs⟩ : ∃ v : List (Value × List UInt8), v = [] := ⟨_, rfl⟩
    obtain ⟨sz, hsz⟩ : ∃ n : Nat, n = 0 := ⟨_, rfl⟩
    obtain ⟨sdirty, hsdirty⟩ : ∃ b : Bool, b = false := ⟨_, rfl⟩
    obtain ⟨sbase, hsbase⟩ : ∃ n : Nat, n = nx := ⟨_, rfl⟩
    have HSB := Lib.hid (show w0.heap.size ≤ sb ∧ ∀ j, Ls.foot l j → j < sb from ⟨by rw [hsb]; exact HT.out.only.size, fun j hj => by rw [hsb]; exact (HT.out.is.log.foot_lt hj).2⟩)
    have SG := Lib.hid (show SegAt V B ⟨sb, sbase, sev, sevs, sz, sdirty⟩ from by
      rw [hsev, hsevs, hsz, hsdirty, hsbase, hsb, hV]
      exact ⟨World.ownsRow_lit (V0) _ 1 hB3 (by unfold maxLen; omega) rfl, World.ownsRow_nil _ _ _ _, fun x hx => by cases hx⟩)
    have HITS := Lib.hid (show ItoaAt sbase V from HIT.out sbase V (by omega) (by rw [hV]; exact (HT.out.below hal).only.weak (fun j _ hj => (HD.out.foot_lt hj).1)))
    have HT := Lib.hid (show LT w0 V B l L D Ls Ds by rw [hV]; exact HT.out.below hal)
    have HFV := Lib.hid (show Txt V (.slice fa (12 + ys.length) fcap) (Fr.FrM.frameOf ys) by rw [hV]; exact HFV.out.below hal)
    have HW := Lib.hid (show wrE Ds (fnm Ls.name sbase) sz (Fr.FrM.frameOf ys) = 0 ∧ (fileOf Ds.now (fnm Ls.name sbase)).length ≤ 1099511627776 ∧ usedOf Ds.now ≤ 1152921504606846976 ∧ Ds.chg.length ≤ 1000000 ∧ 0 ≤ Ds.room ∧ Ds.room ≤ 1152921504606846976 from by
      have h1 := HOK.out.room
      have h2 := HOK.out.roomB
      have h3 := HOK.out.chg
      have h4 := HDS.out
      have h5 := file_le D.now (fnm Ls.name sbase)
      rw [hsz, h4.1, h4.2.1]
      refine ⟨wr_ok (h4.2.2.1.trans HOK.out.nofail) HNM.out (by omega) (by omega) (by rw [Fr.FrM.frameOf_length, h4.1, h4.2.1]; omega), by omega, by omega, by omega, by omega, by omega⟩)
    clear hal hB3
    go_upto_region 22 with fail
    rw [← hV, ← hsb]
    have EV := Lib.hid (And.intro hsev (And.intro hsevs (And.intro hsz (And.intro hsdirty hsbase))))
    have hszb : sz ≤ 1073741824 := by omega
    have hes : sevs.length ≤ 1000000 := by rw [hsevs]; simp
    have hbn : sbase ≤ nx := by omega
    clear hV hsb hsev hsevs hsz hsdirty hsbase
    -- regions 22 to 24: the frame goes to the file of the segment SG, of the log Ls on the disk Ds, in the world V; HW: that the disk takes it
    obtain ⟨c0, c1, -, -, -⟩ := HT.out.is.log.at
    obtain ⟨s0, -, s2, -⟩ := SG.out.at
    simp only at c0 c1 s0 s2
    refine region_m [(0, false), (1, false), (2, false), (3, false), (4, false), (5, false), (7, false), (8, false), (9, false), (10, false), (11, false), (6, true), (12, true)] 13 (fun X => X.cell? ⟨l, 0, none⟩ = some (.pointer (some ⟨(Ls).d, 0, none⟩)) ∧ X.cell? ⟨sb, 2, none⟩ = some (.int .i64 sz)) (by kernel_rfl) (by kernel_rfl) ⟨c0, s2⟩ ?_
    iterate 11
      first
      | (refine m_take (v := ?_) rfl rfl ?_ ?_
         rotate_left
         · intro W hW
           go_simp
           with_reducible rfl
         simp only [Act.put, List.setIfInBounds_toArray, List.set_cons_zero, List.set_cons_succ])
      | (refine m_skip rfl rfl ?_
         simp only [Act.put, List.setIfInBounds_toArray, List.set_cons_zero, List.set_cons_succ])
    refine m_loud rfl (fun K hK => ?_)
    have HK := Lib.hid hK
    clear hK
    go_simp
    refine (sfile_calls l sb (Ls).name sbase V.drew c1 s0 (HITS.out.below ((Below.refl _ _).drew)) (by have := rightNm_size HNM.out; omega) (by omega)).mono ?_
    rintro e w3 ⟨rfl, hb3⟩
    have hb3 : Below V.heap.size V w3 := ((Below.refl V.heap.size V).drew).trans hb3
    have HT3 := Lib.hid (HT.out.below hb3)
    have SG3 := Lib.hid (SG.out.below hb3)
    have HFV3 := Lib.hid (HFV.out.below hb3)
    refine HK.out _ _ ⟨cell_later hb3 c0, cell_later hb3 s2⟩ ?_
    clear HK
    clear hb3 HFV SG HT c0 c1 s0 s2
    refine m_loud rfl (fun K hK => ?_)
    have HK := Lib.hid hK
    clear hK
    go_simp
    refine (dwrite_calls (Ls).d B Ds (fnm (Ls).name sbase) sz _ (Fr.FrM.frameOf ys) w3 HT3.out.is.disk HFV3.out.1 (fun a n c e hf => HT3.out.is.disk.foot_u8 hf (HFV3.out.2 a n c e)) (by rw [fnm_size]; have := rightNm_size HNM.out; have := istr_size sbase (by omega); omega) (by omega) (by rw [Fr.FrM.frameOf_length]; omega) HW.out.2.1 HW.out.2.2.1 HW.out.2.2.2.1 HW.out.2.2.2.2.1 HW.out.2.2.2.2.2).mono ?_
    rintro e w4 ⟨er, rfl, her, hpost⟩
    rw [HW.out.1] at her
    subst her
    obtain ⟨hne, -⟩ | ⟨-, nv, dvv, dcv, ht⟩ := hpost
    · exact absurd rfl hne
    have HT := Lib.hid (HT3.out.trans (LT.disk HT3.out.is ht))
    have SG := Lib.hid (SG3.out.turned HT3.out.is.disk ht)
    have hc := HT.out.is.log.at.1
    have hc2' := SG.out.at.2.2.1
    simp only at hc hc2'
    clear ht HT3 SG3 HFV3
    refine HK.out _ _ ⟨hc, hc2'⟩ ?_
    clear HK
    clear hc hc2'
    refine m_done ?_
    simp only [List.drop_succ_cons, List.drop_zero]
    go_upto_region 26 with fail
    try simp only [NP]
    go_upto_region 26 with fail
    obtain ⟨ra, rc, hrv⟩ := own_slice HT.out.is.log.row
    have l3 := HT.out.is.log.at.2.2.2.1
    try simp only at hrv l3
    rw [hrv] at l3
    obtain ⟨W5, hW5⟩ : ∃ W5, W5 = w4.alloc (.cells #[.pointer (some ⟨sb, 0, none⟩)] 94) := ⟨_, rfl⟩
    have hal5 : Below w4.heap.size w4 W5 := by rw [hW5]; exact below_alloc w4 _
    have HT5 := Lib.hid (HT.out.below hal5)
    have SG5 := Lib.hid (SG.out.below hal5)
    have HOW := Lib.hid (show W5.ownsRow B 94 1 (.slice ra Ls.segs.length rc) Ls.segs.length (Ls.segs.map Seg.ptr) from by have := HT5.out.is.log.row; rwa [hrv] at this)
    have HLIT := Lib.hid (show Rd W5 1 (.slice (some ⟨w4.heap.size, 0, none⟩) 1 1) 1 [.pointer (some ⟨sb, 0, none⟩)] by rw [hW5]; exact Rd.lit (w := w4) (cs := #[.pointer (some ⟨sb, 0, none⟩)]) (e := 94) (n := 1) (sz := 1) rfl (by omega))
    have HZ := Lib.hid (show B ≤ W5.heap.size by have := HT5.out.is.log.foot_lt (j := l) (.inl rfl); omega)
    have HRV := Lib.hid hrv
    rw [hW5] at HOW HLIT HZ HT5 SG5
    clear hrv hal5 hW5
    go_upto_region 27 with (at_builtin; go_loud (refine app_keep tySegs HOW.out HLIT.out (by simp [Value.oneCell']) (by omega) (by omega) (by omega) HZ.out rfl rfl rfl rfl ?_; intro g gcap w6 h2 h3 h4 h5; have hbx := ownsRow_only HT5.out.is.log.box (Only.of_grown h4) (fun j hj e => by (simp only [Value.ownBlock, Option.some.injEq] at hj; subst hj; exact absurd ((own_ty HOW.out e).eq (own_ty HT5.out.is.log.box (j := l) rfl)) (by decide))); have l3 : w6.cell? ⟨l, 3, none⟩ = some (.slice ra Ls.segs.length rc) := (by have e := World.ownsRow.cells hbx (g := l) rfl 3 _ rfl; rw [add_off, Nat.zero_add] at e; rw [← HRV.out]; exact e); have z3 : w6.frozen? ⟨l, 3, none⟩ = false := World.ownsRow.frozenAt hbx 3; have Q2 := Lib.hid h2; have Q4 := Lib.hid h4; have Q5 := Lib.hid h5; clear h2 h3 h4 h5 hbx))
    have HA := Lib.hid (show LT w0 (w6.setCell ⟨l, 3, none⟩ (.slice (some ⟨g, 0, none⟩) (Ls.segs.length + 1) gcap)) B l L D { Ls with sv := .slice (some ⟨g, 0, none⟩) (Ls.segs.length + 1) gcap, segs := Ls.segs ++ [⟨sb, sbase, sev, sevs, sz, sdirty⟩] } (wrD Ds (fnm Ls.name sbase) sz (Fr.FrM.frameOf ys) nv dvv dcv) from by
      refine LT.addSeg HT5.out SG5.out (fun j hj => ?_) (fun j hj hf => ?_) Q2.out (by rw [HRV.out]; exact Q4.out) (fun j e => ?_)
      · rcases hj with e | e
        · rw [e]; exact HSB.out.1
        · rw [EV.out.1] at e; cases e
      · rcases hj with e | e
        · have := HSB.out.2 j hf
          simp only at e
          omega
        · rw [EV.out.1] at e; cases e
      · simp only [Value.ownBlock, Option.some.injEq] at e
        subst e
        rcases Q5.out with ⟨k, c, e, -⟩ | e
        · refine .inl ?_
          rw [HRV.out, e]; rfl
        · exact .inr e)
    have HI := Lib.hid (show (Ls.segs ++ [(⟨sb, sbase, sev, sevs, sz, sdirty⟩ : Seg)])[Ls.segs.length]? = some ⟨sb, sbase, sev, sevs, sz, sdirty⟩ by simp)
    clear l3 z3 Q2 Q4 Q5 HT5 SG5 HOW HLIT HZ HT SG
    generalize w6.setCell ⟨l, 3, none⟩ (.slice (some ⟨g, 0, none⟩) (Ls.segs.length + 1) gcap) = w7 at *
    have HT := HA
    have SG := Lib.hid (HA.out.is.log.segs _ (List.mem_append_right _ (List.mem_singleton_self _)))
    clear HA
    -- regions 27 to 30: the entry goes to the segment SG (at HI) of the log HT, in the world w7; Ls.segs.length: the number of the place
    obtain ⟨ea, ec, hev⟩ := own_slice SG.out.row
    simp only at hev
    subst hev
    obtain ⟨s0, s1, s2, s3⟩ := SG.out.at
    simp only at s0 s1 s2 s3
    have HVV := Lib.hid (Bytes.only0 HV.out HT.out.only (fun a n c e => HVF.out a n c e))
    go_upto_region 27 with fail
    try simp only [NP]
    go_upto_region 27 with fail
    refine region_m [(0, false), (1, false), (2, false), (3, false), (4, false), (5, false), (6, true), (7, true), (8, true)] 9 (fun X => X.cell? ⟨sb, 1, none⟩ = some (.slice ea sevs.length ec)) (by kernel_rfl) (by kernel_rfl) s1 ?_
    iterate 6
      first
      | (refine m_take (v := ?_) rfl rfl ?_ ?_
         rotate_left
         · intro W hW
           go_simp
           with_reducible rfl
         simp only [Act.put, List.setIfInBounds_toArray, List.set_cons_zero, List.set_cons_succ])
      | (refine m_skip rfl rfl ?_
         simp only [Act.put, List.setIfInBounds_toArray, List.set_cons_zero, List.set_cons_succ])
    refine m_loud rfl (fun K hK => ?_)
    have HK := Lib.hid hK
    clear hK
    go_simp
    refine (cloneB_calls _ ys _ (HVV.out.below ((Below.refl _ _).drew) (Nat.le_refl _)) (by omega)).mono ?_
    rintro e w6 ⟨cv', rfl, hm6, hb6⟩
    have hb6 : Below (w7).heap.size (w7) w6 := ((Below.refl (w7).heap.size (w7)).drew).trans hb6
    have HT6 := Lib.hid (HT.out.below hb6)
    have SG6 := Lib.hid (SG.out.below hb6)
    have HM6 := Lib.hid (Txt.of_mine hm6)
    obtain ⟨xa, xc, rfl⟩ := hm6.slice
    have HNW := Lib.hid (show ∀ b, (Value.slice xa ys.length xc).ownBlock = some b → w0.heap.size ≤ b from fun b hb => by
      have h1 := (World.ownsRow.lt hm6 b hb).1
      have h2 := HT.out.only.size
      exact Nat.le_trans h2 h1)
    have c6 := SG6.out.at.2.1
    simp only at c6
    refine HK.out _ _ c6 ?_
    clear HK
    clear hm6 hb6 HVV s0 s1 s2 s3
    refine m_loud rfl (fun K hK => ?_)
    have HK := Lib.hid hK
    clear hK
    go_simp
    have hb7 := below_alloc w6 (.cells #[.slice xa ys.length xc] 63)
    have HT7 := Lib.hid (HT6.out.below hb7)
    have SG7 := Lib.hid (SG6.out.below hb7)
    have HM7 := Lib.hid (HM6.out.below hb7)
    have c7 := SG7.out.at.2.1
    simp only at c7
    have HLIT := Lib.hid (Rd.lit (w := w6) (cs := #[.slice xa ys.length xc]) (e := 63) (n := 1) (sz := 1) rfl (by omega))
    refine HK.out _ _ c7 ?_
    clear HK
    clear hb7 c6
    have hB7 : B ≤ (w6.alloc (.cells #[.slice xa ys.length xc] 63)).heap.size := by have := SG7.out.foot_lt (.inl rfl); omega
    generalize w6.alloc (.cells #[.slice xa ys.length xc] 63) = w7 at *
    refine m_app tyBytesL (base := B) (n := sevs.length) (v := .slice ea sevs.length ec) (xs := sevs.map Prod.fst) SG7.out.row HLIT.out (by simp [Value.oneCell']) (by omega) (by omega) (by omega) hB7 rfl rfl rfl rfl rfl ?_
    intro g cap w8 ho8 hold8 hg8 hgc8
    have hne : ∀ j, (Value.slice (some ⟨g, 0, none⟩) (sevs.length + 1) cap).ownBlock = some j → (Value.slice ea sevs.length ec).ownBlock = some j ∨ w7.heap.size ≤ j := fun j e => by
      simp only [Value.ownBlock, Option.some.injEq] at e
      subst e
      rcases hgc8 with ⟨k, c, e, -⟩ | e
      · exact .inl (by rw [e]; rfl)
      · exact .inr e
    have HFIN := Lib.hid (HT7.out.trans (LT.entry (x := (.slice xa ys.length xc, ys)) HT7.out.is HI.out HM7.out (by have := ho8; exact this) hg8 hne (sz + (12 + ys.length))))
    have hrb := ownsRow_only SG7.out.box (Only.of_grown hg8) (fun j hj e => by
      simp only [Value.ownBlock, Option.some.injEq] at hj
      subst hj
      exact absurd ((own_ty SG7.out.row e).eq (own_ty SG7.out.box (j := sb) rfl)) (by decide))
    have hcs := fun j u hj => World.ownsRow.cells hrb (g := sb) rfl j u hj
    simp only [add_off, Nat.zero_add] at hcs
    have c81 : w8.cell? ⟨sb, 1, none⟩ = some (.slice ea sevs.length ec) := hcs 1 _ rfl
    have c82 : w8.cell? ⟨sb, 2, none⟩ = some (.int .i64 sz) := hcs 2 _ rfl
    have c83 : w8.cell? ⟨sb, 3, none⟩ = some (.bool sdirty) := hcs 3 _ rfl
    have f8 : ∀ j, w8.frozen? ⟨sb, j, none⟩ = false := fun j => World.ownsRow.frozenAt hrb j
    refine ⟨c81, ?_⟩
    clear ho8 hold8 hg8 hgc8 hrb c7 hcs hne
    refine m_done ?_
    simp only [List.drop_succ_cons, List.drop_zero]
    have hs40 : sz + (12 + ys.length) ≤ 4611686018427387904 := by omega
    go_wp2_with fail
    try simp only [NP]
    go_wp2_with fail
    go_ret2
    have hF := HFIN.out
    push_cast at hF
    exact ⟨rfl, _, _, .inr ⟨Ls, Ds, sb, nv, dvv, dcv, _, _, _, HFR.out, by rw [HLN.out, EV.out.2.2.1, EV.out.2.2.2.2, HNX.out], by rw [List.set_append_right _ _ (Nat.le_refl _), Nat.sub_self, EV.out.2.1, EV.out.2.2.1, EV.out.2.2.2.2, HNX.out, Nat.zero_add]; rfl⟩, hF, _, lastE_set (by first | exact hm | simp) rfl rfl, HNW.out⟩
  · obtain ⟨m, hm⟩ : ∃ m, L.segs.length = m + 1 := ⟨L.segs.length - 1, by have := List.length_pos_iff.2 hz; omega⟩
    have hml : m < L.segs.length := by omega
    obtain ⟨sv0, scap, hsv, hc1, hc2, hp⟩ := HD2.out.log.ptr m hml
    have hmem := List.getElem_mem hml
    have hgi : L.segs[m]? = some L.segs[m] := List.getElem?_eq_getElem hml
    have hfi := HOK.out.file _ hmem
    have hba := HOK.out.base _ hmem
    have hes := HOK.out.evs _ hmem
    have hsg := HD2.out.log.segs _ hmem
    obtain ⟨s, hS⟩ : ∃ s, L.segs[m] = s := ⟨_, rfl⟩
    rw [hS] at hp hgi hfi hba hes hsg hmem
    obtain ⟨sb, sbase, sev, sevs, sz, sdirty⟩ := s
    simp only at hp hfi hba hes
    rw [hsv, hm] at c3
    rw [hm] at hc1
    have hbn : sbase ≤ nx := by rw [HNX.out] at hba; exact hba
    have SG := Lib.hid hsg
    have HI := Lib.hid hgi
    have HFI := Lib.hid hfi
    obtain ⟨s0, s1, s2, s3⟩ := hsg.at
    simp only at s0 s1 s2 s3
    have hszb : sz ≤ 1073741824 := by
      have h1 := hfi.2
      have h2 := file_le D.now (fnm L.name sbase)
      have h3 := HOK.out.room
      have h4 := HOK.out.roomB
      omega
    have hlr := HOK.out.lroom
    generalize hlroom : L.room = lroom at *
    have HLR := Lib.hid hlroom
    clear hlroom hgi hfi hsg hsv hS hz
    have b1 : (m : Int) < (m : Int) + 1 := by omega
    have hmc : m < scap := by omega
    go_upto_region 14 with fail
    refine region_m [(0, false), (1, false), (2, false), (3, false), (4, false), (5, false), (6, false), (7, false), (8, false), (9, false), (10, false), (11, false), (12, false)] 13 (fun X => X.cell? ⟨sb, 2, none⟩ = some (.int .i64 sz) ∧ X.cell? ⟨l, 2, none⟩ = some (.int .i64 lroom)) (by kernel_rfl) (by kernel_rfl) ⟨s2, c2⟩ ?_
    by_cases hfull : lroom ≤ (sz : Int)
    · have d1 : decide (lroom ≤ (sz : Int)) = true := decide_eq_true hfull
      have HFU := Lib.hid hfull
      iterate 13
        first
        | (refine m_take (v := ?_) rfl rfl ?_ ?_
           rotate_left
           · intro W hW
             go_simp
             with_reducible rfl
           simp only [Act.put, List.setIfInBounds_toArray, List.set_cons_zero, List.set_cons_succ])
        | (refine m_skip rfl rfl ?_
           simp only [Act.put, List.setIfInBounds_toArray, List.set_cons_zero, List.set_cons_succ])
      refine m_done ?_
      simp only [List.drop_succ_cons, List.drop_zero]
      have HT := Lib.hid (LT.of_below HD.out HB2.out.drew)
      have SG := Lib.hid (SG.out.below ((Below.refl _ _).drew))
      have HFV := Lib.hid HF2.out.drew
      have HITS := Lib.hid (HIT.out sbase w2.drew hbn (Only.of_below HB2.out.drew))
      clear s0 s1 s2 s3 c0 c2 c3 hp HD2 HF2 HB2
      generalize w2.drew = V0 at *
      have s3 := SG.out.at.2.2.2
      simp only at s3
      go_upto_region 15 with fail
      simp only [NP]
      cases sdirty with
      | false =>
        obtain ⟨Ls, hLs⟩ : ∃ Ls, Ls = L := ⟨_, rfl⟩
        obtain ⟨Ds, hDs⟩ : ∃ Ds, Ds = D := ⟨_, rfl⟩
        have HFR := Lib.hid (show Freshened L D Ls Ds from .inr ⟨m, _, hm, HI.out, by rw [HLR.out]; exact HFU.out, .inl ⟨rfl, hLs, hDs⟩⟩)
        have HNM := Lib.hid (show rightNm Ls.name.data.toList = true by rw [hLs]; exact HOK.out.nm)
        have HDS := Lib.hid (show Ds.now = D.now ∧ Ds.room = D.room ∧ Ds.fails = D.fails ∧ Ds.chg.length ≤ D.chg.length by rw [hDs]; exact ⟨rfl, rfl, rfl, Nat.le_refl _⟩)
        have hsl2 : Ls.segs.length ≤ 100000 := by rw [hLs]; exact hsl
        have HLN := Lib.hid (show Ls.name = L.name by rw [hLs])
        have HT := Lib.hid (show LT w0 V0 B l L D Ls Ds by rw [hLs, hDs]; exact HT.out)
        clear hLs hDs
        -- the rest of Append in a new segment: HT in the world V0, of the log Ls on the disk Ds
        obtain ⟨sb, hsb⟩ : ∃ sb, sb = (V0).heap.size := ⟨_, rfl⟩
        obtain ⟨V, hV⟩ : ∃ V, V = (V0).alloc (.cells #[.int .i64 nx, .slice none 0 0, .int .i64 0, .bool false] 96) := ⟨_, rfl⟩
        have hal := below_alloc (V0) (.cells #[.int .i64 nx, .slice none 0 0, .int .i64 0, .bool false] 96)
        have hB3 : B ≤ (V0).heap.size := by have := HT.out.is.log.foot_lt (j := l) (.inl rfl); omega
        obtain ⟨sev, hsev⟩ : ∃ v : Value, v = .slice none 0 0 := ⟨_, rfl⟩
        obtain ⟨sevs, hsevs⟩ : ∃ v : List (Value × List UInt8), v = [] := ⟨_, rfl⟩
        obtain ⟨sz, hsz⟩ : ∃ n : Nat, n = 0 := ⟨_, rfl⟩
        obtain ⟨sdirty, hsdirty⟩ : ∃ b : Bool, b = false := ⟨_, rfl⟩
        obtain ⟨sbase, hsbase⟩ : ∃ n : Nat, n = nx := ⟨_, rfl⟩
        have HSB := Lib.hid (show w0.heap.size ≤ sb ∧ ∀ j, Ls.foot l j → j < sb from ⟨by rw [hsb]; exact HT.out.only.size, fun j hj => by rw [hsb]; exact (HT.out.is.log.foot_lt hj).2⟩)
        have SG := Lib.hid (show SegAt V B ⟨sb, sbase, sev, sevs, sz, sdirty⟩ from by
          rw [hsev, hsevs, hsz, hsdirty, hsbase, hsb, hV]
          exact ⟨World.ownsRow_lit (V0) _ 1 hB3 (by unfold maxLen; omega) rfl, World.ownsRow_nil _ _ _ _, fun x hx => by cases hx⟩)
        have HITS := Lib.hid (show ItoaAt sbase V from HIT.out sbase V (by omega) (by rw [hV]; exact (HT.out.below hal).only.weak (fun j _ hj => (HD.out.foot_lt hj).1)))
        have HT := Lib.hid (show LT w0 V B l L D Ls Ds by rw [hV]; exact HT.out.below hal)
        have HFV := Lib.hid (show Txt V (.slice fa (12 + ys.length) fcap) (Fr.FrM.frameOf ys) by rw [hV]; exact HFV.out.below hal)
        have HW := Lib.hid (show wrE Ds (fnm Ls.name sbase) sz (Fr.FrM.frameOf ys) = 0 ∧ (fileOf Ds.now (fnm Ls.name sbase)).length ≤ 1099511627776 ∧ usedOf Ds.now ≤ 1152921504606846976 ∧ Ds.chg.length ≤ 1000000 ∧ 0 ≤ Ds.room ∧ Ds.room ≤ 1152921504606846976 from by
          have h1 := HOK.out.room
          have h2 := HOK.out.roomB
          have h3 := HOK.out.chg
          have h4 := HDS.out
          have h5 := file_le D.now (fnm Ls.name sbase)
          rw [hsz, h4.1, h4.2.1]
          refine ⟨wr_ok (h4.2.2.1.trans HOK.out.nofail) HNM.out (by omega) (by omega) (by rw [Fr.FrM.frameOf_length, h4.1, h4.2.1]; omega), by omega, by omega, by omega, by omega, by omega⟩)
        clear hal hB3
        go_upto_region 22 with fail
        rw [← hV, ← hsb]
        have EV := Lib.hid (And.intro hsev (And.intro hsevs (And.intro hsz (And.intro hsdirty hsbase))))
        have hszb : sz ≤ 1073741824 := by omega
        have hes : sevs.length ≤ 1000000 := by rw [hsevs]; simp
        have hbn : sbase ≤ nx := by omega
        clear hV hsb hsev hsevs hsz hsdirty hsbase
        -- regions 22 to 24: the frame goes to the file of the segment SG, of the log Ls on the disk Ds, in the world V; HW: that the disk takes it
        obtain ⟨c0, c1, -, -, -⟩ := HT.out.is.log.at
        obtain ⟨s0, -, s2, -⟩ := SG.out.at
        simp only at c0 c1 s0 s2
        refine region_m [(0, false), (1, false), (2, false), (3, false), (4, false), (5, false), (7, false), (8, false), (9, false), (10, false), (11, false), (6, true), (12, true)] 13 (fun X => X.cell? ⟨l, 0, none⟩ = some (.pointer (some ⟨(Ls).d, 0, none⟩)) ∧ X.cell? ⟨sb, 2, none⟩ = some (.int .i64 sz)) (by kernel_rfl) (by kernel_rfl) ⟨c0, s2⟩ ?_
        iterate 11
          first
          | (refine m_take (v := ?_) rfl rfl ?_ ?_
             rotate_left
             · intro W hW
               go_simp
               with_reducible rfl
             simp only [Act.put, List.setIfInBounds_toArray, List.set_cons_zero, List.set_cons_succ])
          | (refine m_skip rfl rfl ?_
             simp only [Act.put, List.setIfInBounds_toArray, List.set_cons_zero, List.set_cons_succ])
        refine m_loud rfl (fun K hK => ?_)
        have HK := Lib.hid hK
        clear hK
        go_simp
        refine (sfile_calls l sb (Ls).name sbase V.drew c1 s0 (HITS.out.below ((Below.refl _ _).drew)) (by have := rightNm_size HNM.out; omega) (by omega)).mono ?_
        rintro e w3 ⟨rfl, hb3⟩
        have hb3 : Below V.heap.size V w3 := ((Below.refl V.heap.size V).drew).trans hb3
        have HT3 := Lib.hid (HT.out.below hb3)
        have SG3 := Lib.hid (SG.out.below hb3)
        have HFV3 := Lib.hid (HFV.out.below hb3)
        refine HK.out _ _ ⟨cell_later hb3 c0, cell_later hb3 s2⟩ ?_
        clear HK
        clear hb3 HFV SG HT c0 c1 s0 s2
        refine m_loud rfl (fun K hK => ?_)
        have HK := Lib.hid hK
        clear hK
        go_simp
        refine (dwrite_calls (Ls).d B Ds (fnm (Ls).name sbase) sz _ (Fr.FrM.frameOf ys) w3 HT3.out.is.disk HFV3.out.1 (fun a n c e hf => HT3.out.is.disk.foot_u8 hf (HFV3.out.2 a n c e)) (by rw [fnm_size]; have := rightNm_size HNM.out; have := istr_size sbase (by omega); omega) (by omega) (by rw [Fr.FrM.frameOf_length]; omega) HW.out.2.1 HW.out.2.2.1 HW.out.2.2.2.1 HW.out.2.2.2.2.1 HW.out.2.2.2.2.2).mono ?_
        rintro e w4 ⟨er, rfl, her, hpost⟩
        rw [HW.out.1] at her
        subst her
        obtain ⟨hne, -⟩ | ⟨-, nv, dvv, dcv, ht⟩ := hpost
        · exact absurd rfl hne
        have HT := Lib.hid (HT3.out.trans (LT.disk HT3.out.is ht))
        have SG := Lib.hid (SG3.out.turned HT3.out.is.disk ht)
        have hc := HT.out.is.log.at.1
        have hc2' := SG.out.at.2.2.1
        simp only at hc hc2'
        clear ht HT3 SG3 HFV3
        refine HK.out _ _ ⟨hc, hc2'⟩ ?_
        clear HK
        clear hc hc2'
        refine m_done ?_
        simp only [List.drop_succ_cons, List.drop_zero]
        go_upto_region 26 with fail
        try simp only [NP]
        go_upto_region 26 with fail
        obtain ⟨ra, rc, hrv⟩ := own_slice HT.out.is.log.row
        have l3 := HT.out.is.log.at.2.2.2.1
        try simp only at hrv l3
        rw [hrv] at l3
        obtain ⟨W5, hW5⟩ : ∃ W5, W5 = w4.alloc (.cells #[.pointer (some ⟨sb, 0, none⟩)] 94) := ⟨_, rfl⟩
        have hal5 : Below w4.heap.size w4 W5 := by rw [hW5]; exact below_alloc w4 _
        have HT5 := Lib.hid (HT.out.below hal5)
        have SG5 := Lib.hid (SG.out.below hal5)
        have HOW := Lib.hid (show W5.ownsRow B 94 1 (.slice ra Ls.segs.length rc) Ls.segs.length (Ls.segs.map Seg.ptr) from by have := HT5.out.is.log.row; rwa [hrv] at this)
        have HLIT := Lib.hid (show Rd W5 1 (.slice (some ⟨w4.heap.size, 0, none⟩) 1 1) 1 [.pointer (some ⟨sb, 0, none⟩)] by rw [hW5]; exact Rd.lit (w := w4) (cs := #[.pointer (some ⟨sb, 0, none⟩)]) (e := 94) (n := 1) (sz := 1) rfl (by omega))
        have HZ := Lib.hid (show B ≤ W5.heap.size by have := HT5.out.is.log.foot_lt (j := l) (.inl rfl); omega)
        have HRV := Lib.hid hrv
        rw [hW5] at HOW HLIT HZ HT5 SG5
        clear hrv hal5 hW5
        go_upto_region 27 with (at_builtin; go_loud (refine app_keep tySegs HOW.out HLIT.out (by simp [Value.oneCell']) (by omega) (by omega) (by omega) HZ.out rfl rfl rfl rfl ?_; intro g gcap w6 h2 h3 h4 h5; have hbx := ownsRow_only HT5.out.is.log.box (Only.of_grown h4) (fun j hj e => by (simp only [Value.ownBlock, Option.some.injEq] at hj; subst hj; exact absurd ((own_ty HOW.out e).eq (own_ty HT5.out.is.log.box (j := l) rfl)) (by decide))); have l3 : w6.cell? ⟨l, 3, none⟩ = some (.slice ra Ls.segs.length rc) := (by have e := World.ownsRow.cells hbx (g := l) rfl 3 _ rfl; rw [add_off, Nat.zero_add] at e; rw [← HRV.out]; exact e); have z3 : w6.frozen? ⟨l, 3, none⟩ = false := World.ownsRow.frozenAt hbx 3; have Q2 := Lib.hid h2; have Q4 := Lib.hid h4; have Q5 := Lib.hid h5; clear h2 h3 h4 h5 hbx))
        have HA := Lib.hid (show LT w0 (w6.setCell ⟨l, 3, none⟩ (.slice (some ⟨g, 0, none⟩) (Ls.segs.length + 1) gcap)) B l L D { Ls with sv := .slice (some ⟨g, 0, none⟩) (Ls.segs.length + 1) gcap, segs := Ls.segs ++ [⟨sb, sbase, sev, sevs, sz, sdirty⟩] } (wrD Ds (fnm Ls.name sbase) sz (Fr.FrM.frameOf ys) nv dvv dcv) from by
          refine LT.addSeg HT5.out SG5.out (fun j hj => ?_) (fun j hj hf => ?_) Q2.out (by rw [HRV.out]; exact Q4.out) (fun j e => ?_)
          · rcases hj with e | e
            · rw [e]; exact HSB.out.1
            · rw [EV.out.1] at e; cases e
          · rcases hj with e | e
            · have := HSB.out.2 j hf
              simp only at e
              omega
            · rw [EV.out.1] at e; cases e
          · simp only [Value.ownBlock, Option.some.injEq] at e
            subst e
            rcases Q5.out with ⟨k, c, e, -⟩ | e
            · refine .inl ?_
              rw [HRV.out, e]; rfl
            · exact .inr e)
        have HI := Lib.hid (show (Ls.segs ++ [(⟨sb, sbase, sev, sevs, sz, sdirty⟩ : Seg)])[Ls.segs.length]? = some ⟨sb, sbase, sev, sevs, sz, sdirty⟩ by simp)
        clear l3 z3 Q2 Q4 Q5 HT5 SG5 HOW HLIT HZ HT SG
        generalize w6.setCell ⟨l, 3, none⟩ (.slice (some ⟨g, 0, none⟩) (Ls.segs.length + 1) gcap) = w7 at *
        have HT := HA
        have SG := Lib.hid (HA.out.is.log.segs _ (List.mem_append_right _ (List.mem_singleton_self _)))
        clear HA
        -- regions 27 to 30: the entry goes to the segment SG (at HI) of the log HT, in the world w7; Ls.segs.length: the number of the place
        obtain ⟨ea, ec, hev⟩ := own_slice SG.out.row
        simp only at hev
        subst hev
        obtain ⟨s0, s1, s2, s3⟩ := SG.out.at
        simp only at s0 s1 s2 s3
        have HVV := Lib.hid (Bytes.only0 HV.out HT.out.only (fun a n c e => HVF.out a n c e))
        go_upto_region 27 with fail
        try simp only [NP]
        go_upto_region 27 with fail
        refine region_m [(0, false), (1, false), (2, false), (3, false), (4, false), (5, false), (6, true), (7, true), (8, true)] 9 (fun X => X.cell? ⟨sb, 1, none⟩ = some (.slice ea sevs.length ec)) (by kernel_rfl) (by kernel_rfl) s1 ?_
        iterate 6
          first
          | (refine m_take (v := ?_) rfl rfl ?_ ?_
             rotate_left
             · intro W hW
               go_simp
               with_reducible rfl
             simp only [Act.put, List.setIfInBounds_toArray, List.set_cons_zero, List.set_cons_succ])
          | (refine m_skip rfl rfl ?_
             simp only [Act.put, List.setIfInBounds_toArray, List.set_cons_zero, List.set_cons_succ])
        refine m_loud rfl (fun K hK => ?_)
        have HK := Lib.hid hK
        clear hK
        go_simp
        refine (cloneB_calls _ ys _ (HVV.out.below ((Below.refl _ _).drew) (Nat.le_refl _)) (by omega)).mono ?_
        rintro e w6 ⟨cv', rfl, hm6, hb6⟩
        have hb6 : Below (w7).heap.size (w7) w6 := ((Below.refl (w7).heap.size (w7)).drew).trans hb6
        have HT6 := Lib.hid (HT.out.below hb6)
        have SG6 := Lib.hid (SG.out.below hb6)
        have HM6 := Lib.hid (Txt.of_mine hm6)
        obtain ⟨xa, xc, rfl⟩ := hm6.slice
        have HNW := Lib.hid (show ∀ b, (Value.slice xa ys.length xc).ownBlock = some b → w0.heap.size ≤ b from fun b hb => by
          have h1 := (World.ownsRow.lt hm6 b hb).1
          have h2 := HT.out.only.size
          exact Nat.le_trans h2 h1)
        have c6 := SG6.out.at.2.1
        simp only at c6
        refine HK.out _ _ c6 ?_
        clear HK
        clear hm6 hb6 HVV s0 s1 s2 s3
        refine m_loud rfl (fun K hK => ?_)
        have HK := Lib.hid hK
        clear hK
        go_simp
        have hb7 := below_alloc w6 (.cells #[.slice xa ys.length xc] 63)
        have HT7 := Lib.hid (HT6.out.below hb7)
        have SG7 := Lib.hid (SG6.out.below hb7)
        have HM7 := Lib.hid (HM6.out.below hb7)
        have c7 := SG7.out.at.2.1
        simp only at c7
        have HLIT := Lib.hid (Rd.lit (w := w6) (cs := #[.slice xa ys.length xc]) (e := 63) (n := 1) (sz := 1) rfl (by omega))
        refine HK.out _ _ c7 ?_
        clear HK
        clear hb7 c6
        have hB7 : B ≤ (w6.alloc (.cells #[.slice xa ys.length xc] 63)).heap.size := by have := SG7.out.foot_lt (.inl rfl); omega
        generalize w6.alloc (.cells #[.slice xa ys.length xc] 63) = w7 at *
        refine m_app tyBytesL (base := B) (n := sevs.length) (v := .slice ea sevs.length ec) (xs := sevs.map Prod.fst) SG7.out.row HLIT.out (by simp [Value.oneCell']) (by omega) (by omega) (by omega) hB7 rfl rfl rfl rfl rfl ?_
        intro g cap w8 ho8 hold8 hg8 hgc8
        have hne : ∀ j, (Value.slice (some ⟨g, 0, none⟩) (sevs.length + 1) cap).ownBlock = some j → (Value.slice ea sevs.length ec).ownBlock = some j ∨ w7.heap.size ≤ j := fun j e => by
          simp only [Value.ownBlock, Option.some.injEq] at e
          subst e
          rcases hgc8 with ⟨k, c, e, -⟩ | e
          · exact .inl (by rw [e]; rfl)
          · exact .inr e
        have HFIN := Lib.hid (HT7.out.trans (LT.entry (x := (.slice xa ys.length xc, ys)) HT7.out.is HI.out HM7.out (by have := ho8; exact this) hg8 hne (sz + (12 + ys.length))))
        have hrb := ownsRow_only SG7.out.box (Only.of_grown hg8) (fun j hj e => by
          simp only [Value.ownBlock, Option.some.injEq] at hj
          subst hj
          exact absurd ((own_ty SG7.out.row e).eq (own_ty SG7.out.box (j := sb) rfl)) (by decide))
        have hcs := fun j u hj => World.ownsRow.cells hrb (g := sb) rfl j u hj
        simp only [add_off, Nat.zero_add] at hcs
        have c81 : w8.cell? ⟨sb, 1, none⟩ = some (.slice ea sevs.length ec) := hcs 1 _ rfl
        have c82 : w8.cell? ⟨sb, 2, none⟩ = some (.int .i64 sz) := hcs 2 _ rfl
        have c83 : w8.cell? ⟨sb, 3, none⟩ = some (.bool sdirty) := hcs 3 _ rfl
        have f8 : ∀ j, w8.frozen? ⟨sb, j, none⟩ = false := fun j => World.ownsRow.frozenAt hrb j
        refine ⟨c81, ?_⟩
        clear ho8 hold8 hg8 hgc8 hrb c7 hcs hne
        refine m_done ?_
        simp only [List.drop_succ_cons, List.drop_zero]
        have hs40 : sz + (12 + ys.length) ≤ 4611686018427387904 := by omega
        go_wp2_with fail
        try simp only [NP]
        go_wp2_with fail
        go_ret2
        have hF := HFIN.out
        push_cast at hF
        exact ⟨rfl, _, _, .inr ⟨Ls, Ds, sb, nv, dvv, dcv, _, _, _, HFR.out, by rw [HLN.out, EV.out.2.2.1, EV.out.2.2.2.2, HNX.out], by rw [List.set_append_right _ _ (Nat.le_refl _), Nat.sub_self, EV.out.2.1, EV.out.2.2.1, EV.out.2.2.2.2, HNX.out, Nat.zero_add]; rfl⟩, hF, _, lastE_set (by first | exact hm | simp) rfl rfl, HNW.out⟩
      | true =>
        have c0 := HT.out.is.log.at.1
        have c1 := HT.out.is.log.at.2.1
        have s0 := SG.out.at.1
        simp only at s0
        go_upto_region 17 with fail
        refine region_m [(0, false), (1, false), (2, false), (3, false), (4, false), (5, false), (6, true), (7, true)] 8 (fun X => X.cell? ⟨l, 0, none⟩ = some (.pointer (some ⟨L.d, 0, none⟩))) (by kernel_rfl) (by kernel_rfl) c0 ?_
        iterate 6
          first
          | (refine m_take (v := ?_) rfl rfl ?_ ?_
             rotate_left
             · intro W hW
               go_simp
               with_reducible rfl
             simp only [Act.put, List.setIfInBounds_toArray, List.set_cons_zero, List.set_cons_succ])
          | (refine m_skip rfl rfl ?_
             simp only [Act.put, List.setIfInBounds_toArray, List.set_cons_zero, List.set_cons_succ])
        refine m_loud rfl (fun K hK => ?_)
        have HK := Lib.hid hK
        clear hK
        go_simp
        refine (sfile_calls l sb L.name sbase V0.drew c1 s0 (HITS.out.below ((Below.refl _ _).drew)) (by have := rightNm_size HOK.out.nm; omega) (by omega)).mono ?_
        rintro e w3 ⟨rfl, hb3⟩
        have hb3 : Below V0.heap.size V0 w3 := ((Below.refl V0.heap.size V0).drew).trans hb3
        have HT3 := Lib.hid (HT.out.below hb3)
        have SG3 := Lib.hid (SG.out.below hb3)
        have HFV3 := Lib.hid (HFV.out.below hb3)
        refine HK.out _ _ (cell_later hb3 c0) ?_
        clear HK
        clear hb3 HFV SG HT c0 c1 s0 s3
        refine m_loud rfl (fun K hK => ?_)
        have HK := Lib.hid hK
        clear hK
        go_simp
        refine (dsync_calls L.d B D (fnm L.name sbase) w3 HT3.out.is.disk (by rw [fnm_size]; have := rightNm_size HOK.out.nm; have := istr_size sbase (by omega); omega) (by have h1 := HFI.out.2; omega) (by have h1 := HOK.out.chg; omega)).mono ?_
        rintro e w4 ⟨er, rfl, her, hpost⟩
        rw [sy_ok HOK.out.nofail HOK.out.nm (by omega) HFI.out.1] at her
        subst her
        obtain ⟨hne, -⟩ | ⟨-, scv, sv4, ht⟩ := hpost
        · exact absurd rfl hne
        have HT4 := Lib.hid (HT3.out.trans (LT.disk HT3.out.is ht))
        have SG4 := Lib.hid (SG3.out.turned HT3.out.is.disk ht)
        have HFV4 := Lib.hid (HFV3.out.only ht.only (fun j hj => HT3.out.is.disk.foot_u8 hj))
        have hc := HT4.out.is.log.at.1
        clear ht HT3 SG3 HFV3
        refine HK.out _ _ hc ?_
        clear HK
        clear hc
        refine m_done ?_
        simp only [List.drop_succ_cons, List.drop_zero]
        have s3 := SG4.out.at.2.2.2
        have z3 := SG4.out.frz 3
        simp only at s3
        obtain ⟨V1, hV1⟩ : ∃ V1, V1 = w4.setCell ⟨sb, 3, none⟩ (.bool false) := ⟨_, rfl⟩
        have hs4 := SG4.out.setCell (s' := ⟨sb, sbase, sev, sevs, sz, false⟩) 3 (.bool false) rfl rfl rfl rfl
        obtain ⟨Ls, hLs⟩ : ∃ Ls, Ls = { L with segs := L.segs.set m ⟨sb, sbase, sev, sevs, sz, false⟩ } := ⟨_, rfl⟩
        obtain ⟨Ds, hDs⟩ : ∃ Ds, Ds = syD D (fnm L.name sbase) scv sv4 := ⟨_, rfl⟩
        have HFR := Lib.hid (show Freshened L D Ls Ds from .inr ⟨m, _, hm, HI.out, by rw [HLR.out]; exact HFU.out, .inr ⟨rfl, scv, sv4, hLs, hDs⟩⟩)
        have HNM := Lib.hid (show rightNm Ls.name.data.toList = true by rw [hLs]; exact HOK.out.nm)
        have HDS := Lib.hid (show Ds.now = D.now ∧ Ds.room = D.room ∧ Ds.fails = D.fails ∧ Ds.chg.length ≤ D.chg.length by rw [hDs]; exact ⟨rfl, rfl, rfl, List.length_filter_le _ _⟩)
        have hsl2 : Ls.segs.length ≤ 100000 := by rw [hLs]; simp only [List.length_set]; exact hsl
        have HLN := Lib.hid (show Ls.name = L.name by rw [hLs])
        have HT := Lib.hid (show LT w0 V1 B l L D Ls Ds by rw [hLs, hDs, hV1]; exact HT4.out.trans (LT.setDirty HT4.out.is HI.out false))
        have HFV := Lib.hid (show Txt V1 (.slice fa (12 + ys.length) fcap) (Fr.FrM.frameOf ys) by rw [hV1]; exact HFV4.out.only hs4.2 (fun j hj => HT4.out.is.log.foot_u8 (.inr (.inr ⟨_, List.mem_of_getElem? HI.out, hj⟩))))
        have HV1 := Lib.hid hV1
        clear hLs hDs hV1 hs4 HT4 SG4 HFV4
        go_upto_region 18 with fail
        try simp only [NP]
        go_upto_region 21 with fail
        rw [← HV1.out]
        -- the rest of Append in a new segment: HT in the world V1, of the log Ls on the disk Ds
        obtain ⟨sb, hsb⟩ : ∃ sb, sb = (V1).heap.size := ⟨_, rfl⟩
        obtain ⟨V, hV⟩ : ∃ V, V = (V1).alloc (.cells #[.int .i64 nx, .slice none 0 0, .int .i64 0, .bool false] 96) := ⟨_, rfl⟩
        have hal := below_alloc (V1) (.cells #[.int .i64 nx, .slice none 0 0, .int .i64 0, .bool false] 96)
        have hB3 : B ≤ (V1).heap.size := by have := HT.out.is.log.foot_lt (j := l) (.inl rfl); omega
        obtain ⟨sev, hsev⟩ : ∃ v : Value, v = .slice none 0 0 := ⟨_, rfl⟩
        obtain ⟨sevs, hsevs⟩ : ∃ v : List (Value × List UInt8), v = [] := ⟨_, rfl⟩
        obtain ⟨sz, hsz⟩ : ∃ n : Nat, n = 0 := ⟨_, rfl⟩
        obtain ⟨sdirty, hsdirty⟩ : ∃ b : Bool, b = false := ⟨_, rfl⟩
        obtain ⟨sbase, hsbase⟩ : ∃ n : Nat, n = nx := ⟨_, rfl⟩
        have HSB := Lib.hid (show w0.heap.size ≤ sb ∧ ∀ j, Ls.foot l j → j < sb from ⟨by rw [hsb]; exact HT.out.only.size, fun j hj => by rw [hsb]; exact (HT.out.is.log.foot_lt hj).2⟩)
        have SG := Lib.hid (show SegAt V B ⟨sb, sbase, sev, sevs, sz, sdirty⟩ from by
          rw [hsev, hsevs, hsz, hsdirty, hsbase, hsb, hV]
          exact ⟨World.ownsRow_lit (V1) _ 1 hB3 (by unfold maxLen; omega) rfl, World.ownsRow_nil _ _ _ _, fun x hx => by cases hx⟩)
        have HITS := Lib.hid (show ItoaAt sbase V from HIT.out sbase V (by omega) (by rw [hV]; exact (HT.out.below hal).only.weak (fun j _ hj => (HD.out.foot_lt hj).1)))
        have HT := Lib.hid (show LT w0 V B l L D Ls Ds by rw [hV]; exact HT.out.below hal)
        have HFV := Lib.hid (show Txt V (.slice fa (12 + ys.length) fcap) (Fr.FrM.frameOf ys) by rw [hV]; exact HFV.out.below hal)
        have HW := Lib.hid (show wrE Ds (fnm Ls.name sbase) sz (Fr.FrM.frameOf ys) = 0 ∧ (fileOf Ds.now (fnm Ls.name sbase)).length ≤ 1099511627776 ∧ usedOf Ds.now ≤ 1152921504606846976 ∧ Ds.chg.length ≤ 1000000 ∧ 0 ≤ Ds.room ∧ Ds.room ≤ 1152921504606846976 from by
          have h1 := HOK.out.room
          have h2 := HOK.out.roomB
          have h3 := HOK.out.chg
          have h4 := HDS.out
          have h5 := file_le D.now (fnm Ls.name sbase)
          rw [hsz, h4.1, h4.2.1]
          refine ⟨wr_ok (h4.2.2.1.trans HOK.out.nofail) HNM.out (by omega) (by omega) (by rw [Fr.FrM.frameOf_length, h4.1, h4.2.1]; omega), by omega, by omega, by omega, by omega, by omega⟩)
        clear hal hB3
        go_upto_region 22 with fail
        rw [← hV, ← hsb]
        have EV := Lib.hid (And.intro hsev (And.intro hsevs (And.intro hsz (And.intro hsdirty hsbase))))
        have hszb : sz ≤ 1073741824 := by omega
        have hes : sevs.length ≤ 1000000 := by rw [hsevs]; simp
        have hbn : sbase ≤ nx := by omega
        clear hV hsb hsev hsevs hsz hsdirty hsbase
        -- regions 22 to 24: the frame goes to the file of the segment SG, of the log Ls on the disk Ds, in the world V; HW: that the disk takes it
        obtain ⟨c0, c1, -, -, -⟩ := HT.out.is.log.at
        obtain ⟨s0, -, s2, -⟩ := SG.out.at
        simp only at c0 c1 s0 s2
        refine region_m [(0, false), (1, false), (2, false), (3, false), (4, false), (5, false), (7, false), (8, false), (9, false), (10, false), (11, false), (6, true), (12, true)] 13 (fun X => X.cell? ⟨l, 0, none⟩ = some (.pointer (some ⟨(Ls).d, 0, none⟩)) ∧ X.cell? ⟨sb, 2, none⟩ = some (.int .i64 sz)) (by kernel_rfl) (by kernel_rfl) ⟨c0, s2⟩ ?_
        iterate 11
          first
          | (refine m_take (v := ?_) rfl rfl ?_ ?_
             rotate_left
             · intro W hW
               go_simp
               with_reducible rfl
             simp only [Act.put, List.setIfInBounds_toArray, List.set_cons_zero, List.set_cons_succ])
          | (refine m_skip rfl rfl ?_
             simp only [Act.put, List.setIfInBounds_toArray, List.set_cons_zero, List.set_cons_succ])
        refine m_loud rfl (fun K hK => ?_)
        have HK := Lib.hid hK
        clear hK
        go_simp
        refine (sfile_calls l sb (Ls).name sbase V.drew c1 s0 (HITS.out.below ((Below.refl _ _).drew)) (by have := rightNm_size HNM.out; omega) (by omega)).mono ?_
        rintro e w3 ⟨rfl, hb3⟩
        have hb3 : Below V.heap.size V w3 := ((Below.refl V.heap.size V).drew).trans hb3
        have HT3 := Lib.hid (HT.out.below hb3)
        have SG3 := Lib.hid (SG.out.below hb3)
        have HFV3 := Lib.hid (HFV.out.below hb3)
        refine HK.out _ _ ⟨cell_later hb3 c0, cell_later hb3 s2⟩ ?_
        clear HK
        clear hb3 HFV SG HT c0 c1 s0 s2
        refine m_loud rfl (fun K hK => ?_)
        have HK := Lib.hid hK
        clear hK
        go_simp
        refine (dwrite_calls (Ls).d B Ds (fnm (Ls).name sbase) sz _ (Fr.FrM.frameOf ys) w3 HT3.out.is.disk HFV3.out.1 (fun a n c e hf => HT3.out.is.disk.foot_u8 hf (HFV3.out.2 a n c e)) (by rw [fnm_size]; have := rightNm_size HNM.out; have := istr_size sbase (by omega); omega) (by omega) (by rw [Fr.FrM.frameOf_length]; omega) HW.out.2.1 HW.out.2.2.1 HW.out.2.2.2.1 HW.out.2.2.2.2.1 HW.out.2.2.2.2.2).mono ?_
        rintro e w4 ⟨er, rfl, her, hpost⟩
        rw [HW.out.1] at her
        subst her
        obtain ⟨hne, -⟩ | ⟨-, nv, dvv, dcv, ht⟩ := hpost
        · exact absurd rfl hne
        have HT := Lib.hid (HT3.out.trans (LT.disk HT3.out.is ht))
        have SG := Lib.hid (SG3.out.turned HT3.out.is.disk ht)
        have hc := HT.out.is.log.at.1
        have hc2' := SG.out.at.2.2.1
        simp only at hc hc2'
        clear ht HT3 SG3 HFV3
        refine HK.out _ _ ⟨hc, hc2'⟩ ?_
        clear HK
        clear hc hc2'
        refine m_done ?_
        simp only [List.drop_succ_cons, List.drop_zero]
        go_upto_region 26 with fail
        try simp only [NP]
        go_upto_region 26 with fail
        obtain ⟨ra, rc, hrv⟩ := own_slice HT.out.is.log.row
        have l3 := HT.out.is.log.at.2.2.2.1
        try simp only at hrv l3
        rw [hrv] at l3
        obtain ⟨W5, hW5⟩ : ∃ W5, W5 = w4.alloc (.cells #[.pointer (some ⟨sb, 0, none⟩)] 94) := ⟨_, rfl⟩
        have hal5 : Below w4.heap.size w4 W5 := by rw [hW5]; exact below_alloc w4 _
        have HT5 := Lib.hid (HT.out.below hal5)
        have SG5 := Lib.hid (SG.out.below hal5)
        have HOW := Lib.hid (show W5.ownsRow B 94 1 (.slice ra Ls.segs.length rc) Ls.segs.length (Ls.segs.map Seg.ptr) from by have := HT5.out.is.log.row; rwa [hrv] at this)
        have HLIT := Lib.hid (show Rd W5 1 (.slice (some ⟨w4.heap.size, 0, none⟩) 1 1) 1 [.pointer (some ⟨sb, 0, none⟩)] by rw [hW5]; exact Rd.lit (w := w4) (cs := #[.pointer (some ⟨sb, 0, none⟩)]) (e := 94) (n := 1) (sz := 1) rfl (by omega))
        have HZ := Lib.hid (show B ≤ W5.heap.size by have := HT5.out.is.log.foot_lt (j := l) (.inl rfl); omega)
        have HRV := Lib.hid hrv
        rw [hW5] at HOW HLIT HZ HT5 SG5
        clear hrv hal5 hW5
        go_upto_region 27 with (at_builtin; go_loud (refine app_keep tySegs HOW.out HLIT.out (by simp [Value.oneCell']) (by omega) (by omega) (by omega) HZ.out rfl rfl rfl rfl ?_; intro g gcap w6 h2 h3 h4 h5; have hbx := ownsRow_only HT5.out.is.log.box (Only.of_grown h4) (fun j hj e => by (simp only [Value.ownBlock, Option.some.injEq] at hj; subst hj; exact absurd ((own_ty HOW.out e).eq (own_ty HT5.out.is.log.box (j := l) rfl)) (by decide))); have l3 : w6.cell? ⟨l, 3, none⟩ = some (.slice ra Ls.segs.length rc) := (by have e := World.ownsRow.cells hbx (g := l) rfl 3 _ rfl; rw [add_off, Nat.zero_add] at e; rw [← HRV.out]; exact e); have z3 : w6.frozen? ⟨l, 3, none⟩ = false := World.ownsRow.frozenAt hbx 3; have Q2 := Lib.hid h2; have Q4 := Lib.hid h4; have Q5 := Lib.hid h5; clear h2 h3 h4 h5 hbx))
        have HA := Lib.hid (show LT w0 (w6.setCell ⟨l, 3, none⟩ (.slice (some ⟨g, 0, none⟩) (Ls.segs.length + 1) gcap)) B l L D { Ls with sv := .slice (some ⟨g, 0, none⟩) (Ls.segs.length + 1) gcap, segs := Ls.segs ++ [⟨sb, sbase, sev, sevs, sz, sdirty⟩] } (wrD Ds (fnm Ls.name sbase) sz (Fr.FrM.frameOf ys) nv dvv dcv) from by
          refine LT.addSeg HT5.out SG5.out (fun j hj => ?_) (fun j hj hf => ?_) Q2.out (by rw [HRV.out]; exact Q4.out) (fun j e => ?_)
          · rcases hj with e | e
            · rw [e]; exact HSB.out.1
            · rw [EV.out.1] at e; cases e
          · rcases hj with e | e
            · have := HSB.out.2 j hf
              simp only at e
              omega
            · rw [EV.out.1] at e; cases e
          · simp only [Value.ownBlock, Option.some.injEq] at e
            subst e
            rcases Q5.out with ⟨k, c, e, -⟩ | e
            · refine .inl ?_
              rw [HRV.out, e]; rfl
            · exact .inr e)
        have HI := Lib.hid (show (Ls.segs ++ [(⟨sb, sbase, sev, sevs, sz, sdirty⟩ : Seg)])[Ls.segs.length]? = some ⟨sb, sbase, sev, sevs, sz, sdirty⟩ by simp)
        clear l3 z3 Q2 Q4 Q5 HT5 SG5 HOW HLIT HZ HT SG
        generalize w6.setCell ⟨l, 3, none⟩ (.slice (some ⟨g, 0, none⟩) (Ls.segs.length + 1) gcap) = w7 at *
        have HT := HA
        have SG := Lib.hid (HA.out.is.log.segs _ (List.mem_append_right _ (List.mem_singleton_self _)))
        clear HA
        -- regions 27 to 30: the entry goes to the segment SG (at HI) of the log HT, in the world w7; Ls.segs.length: the number of the place
        obtain ⟨ea, ec, hev⟩ := own_slice SG.out.row
        simp only at hev
        subst hev
        obtain ⟨s0, s1, s2, s3⟩ := SG.out.at
        simp only at s0 s1 s2 s3
        have HVV := Lib.hid (Bytes.only0 HV.out HT.out.only (fun a n c e => HVF.out a n c e))
        go_upto_region 27 with fail
        try simp only [NP]
        go_upto_region 27 with fail
        refine region_m [(0, false), (1, false), (2, false), (3, false), (4, false), (5, false), (6, true), (7, true), (8, true)] 9 (fun X => X.cell? ⟨sb, 1, none⟩ = some (.slice ea sevs.length ec)) (by kernel_rfl) (by kernel_rfl) s1 ?_
        iterate 6
          first
          | (refine m_take (v := ?_) rfl rfl ?_ ?_
             rotate_left
             · intro W hW
               go_simp
               with_reducible rfl
             simp only [Act.put, List.setIfInBounds_toArray, List.set_cons_zero, List.set_cons_succ])
          | (refine m_skip rfl rfl ?_
             simp only [Act.put, List.setIfInBounds_toArray, List.set_cons_zero, List.set_cons_succ])
        refine m_loud rfl (fun K hK => ?_)
        have HK := Lib.hid hK
        clear hK
        go_simp
        refine (cloneB_calls _ ys _ (HVV.out.below ((Below.refl _ _).drew) (Nat.le_refl _)) (by omega)).mono ?_
        rintro e w6 ⟨cv', rfl, hm6, hb6⟩
        have hb6 : Below (w7).heap.size (w7) w6 := ((Below.refl (w7).heap.size (w7)).drew).trans hb6
        have HT6 := Lib.hid (HT.out.below hb6)
        have SG6 := Lib.hid (SG.out.below hb6)
        have HM6 := Lib.hid (Txt.of_mine hm6)
        obtain ⟨xa, xc, rfl⟩ := hm6.slice
        have HNW := Lib.hid (show ∀ b, (Value.slice xa ys.length xc).ownBlock = some b → w0.heap.size ≤ b from fun b hb => by
          have h1 := (World.ownsRow.lt hm6 b hb).1
          have h2 := HT.out.only.size
          exact Nat.le_trans h2 h1)
        have c6 := SG6.out.at.2.1
        simp only at c6
        refine HK.out _ _ c6 ?_
        clear HK
        clear hm6 hb6 HVV s0 s1 s2 s3
        refine m_loud rfl (fun K hK => ?_)
        have HK := Lib.hid hK
        clear hK
        go_simp
        have hb7 := below_alloc w6 (.cells #[.slice xa ys.length xc] 63)
        have HT7 := Lib.hid (HT6.out.below hb7)
        have SG7 := Lib.hid (SG6.out.below hb7)
        have HM7 := Lib.hid (HM6.out.below hb7)
        have c7 := SG7.out.at.2.1
        simp only at c7
        have HLIT := Lib.hid (Rd.lit (w := w6) (cs := #[.slice xa ys.length xc]) (e := 63) (n := 1) (sz := 1) rfl (by omega))
        refine HK.out _ _ c7 ?_
        clear HK
        clear hb7 c6
        have hB7 : B ≤ (w6.alloc (.cells #[.slice xa ys.length xc] 63)).heap.size := by have := SG7.out.foot_lt (.inl rfl); omega
        generalize w6.alloc (.cells #[.slice xa ys.length xc] 63) = w7 at *
        refine m_app tyBytesL (base := B) (n := sevs.length) (v := .slice ea sevs.length ec) (xs := sevs.map Prod.fst) SG7.out.row HLIT.out (by simp [Value.oneCell']) (by omega) (by omega) (by omega) hB7 rfl rfl rfl rfl rfl ?_
        intro g cap w8 ho8 hold8 hg8 hgc8
        have hne : ∀ j, (Value.slice (some ⟨g, 0, none⟩) (sevs.length + 1) cap).ownBlock = some j → (Value.slice ea sevs.length ec).ownBlock = some j ∨ w7.heap.size ≤ j := fun j e => by
          simp only [Value.ownBlock, Option.some.injEq] at e
          subst e
          rcases hgc8 with ⟨k, c, e, -⟩ | e
          · exact .inl (by rw [e]; rfl)
          · exact .inr e
        have HFIN := Lib.hid (HT7.out.trans (LT.entry (x := (.slice xa ys.length xc, ys)) HT7.out.is HI.out HM7.out (by have := ho8; exact this) hg8 hne (sz + (12 + ys.length))))
        have hrb := ownsRow_only SG7.out.box (Only.of_grown hg8) (fun j hj e => by
          simp only [Value.ownBlock, Option.some.injEq] at hj
          subst hj
          exact absurd ((own_ty SG7.out.row e).eq (own_ty SG7.out.box (j := sb) rfl)) (by decide))
        have hcs := fun j u hj => World.ownsRow.cells hrb (g := sb) rfl j u hj
        simp only [add_off, Nat.zero_add] at hcs
        have c81 : w8.cell? ⟨sb, 1, none⟩ = some (.slice ea sevs.length ec) := hcs 1 _ rfl
        have c82 : w8.cell? ⟨sb, 2, none⟩ = some (.int .i64 sz) := hcs 2 _ rfl
        have c83 : w8.cell? ⟨sb, 3, none⟩ = some (.bool sdirty) := hcs 3 _ rfl
        have f8 : ∀ j, w8.frozen? ⟨sb, j, none⟩ = false := fun j => World.ownsRow.frozenAt hrb j
        refine ⟨c81, ?_⟩
        clear ho8 hold8 hg8 hgc8 hrb c7 hcs hne
        refine m_done ?_
        simp only [List.drop_succ_cons, List.drop_zero]
        have hs40 : sz + (12 + ys.length) ≤ 4611686018427387904 := by omega
        go_wp2_with fail
        try simp only [NP]
        go_wp2_with fail
        go_ret2
        have hF := HFIN.out
        push_cast at hF
        exact ⟨rfl, _, _, .inr ⟨Ls, Ds, sb, nv, dvv, dcv, _, _, _, HFR.out, by rw [HLN.out, EV.out.2.2.1, EV.out.2.2.2.2, HNX.out], by rw [List.set_append_right _ _ (Nat.le_refl _), Nat.sub_self, EV.out.2.1, EV.out.2.2.1, EV.out.2.2.2.2, HNX.out, Nat.zero_add]; rfl⟩, hF, _, lastE_set (by first | exact hm | simp) rfl rfl, HNW.out⟩
    · have d1 : decide (lroom ≤ (sz : Int)) = false := decide_eq_false hfull
      iterate 13
        first
        | (refine m_take (v := ?_) rfl rfl ?_ ?_
           rotate_left
           · intro W hW
             go_simp
             with_reducible rfl
           simp only [Act.put, List.setIfInBounds_toArray, List.set_cons_zero, List.set_cons_succ])
        | (refine m_skip rfl rfl ?_
           simp only [Act.put, List.setIfInBounds_toArray, List.set_cons_zero, List.set_cons_succ])
      refine m_done ?_
      simp only [List.drop_succ_cons, List.drop_zero]
      have HT := Lib.hid (LT.of_below HD.out HB2.out.drew)
      have SG := Lib.hid (SG.out.below ((Below.refl _ _).drew))
      have HFV := Lib.hid HF2.out.drew
      have HITS := Lib.hid (HIT.out sbase w2.drew hbn (Only.of_below HB2.out.drew))
      have HNM := Lib.hid HOK.out.nm
      have HW := Lib.hid (show wrE D (fnm L.name sbase) sz (Fr.FrM.frameOf ys) = 0 ∧ (fileOf D.now (fnm L.name sbase)).length ≤ 1099511627776 ∧ usedOf D.now ≤ 1152921504606846976 ∧ D.chg.length ≤ 1000000 ∧ 0 ≤ D.room ∧ D.room ≤ 1152921504606846976 from by
        have h1 := HOK.out.room
        have h2 := HOK.out.roomB
        have h3 := HOK.out.chg
        have h4 := HFI.out.2
        refine ⟨wr_ok HOK.out.nofail HOK.out.nm (by omega) (by omega) (by rw [Fr.FrM.frameOf_length]; omega), by omega, by omega, by omega, by omega, by omega⟩)
      clear s0 s1 s2 s3 c0 c2 c3 hp HD2 HF2 HB2 HIT
      generalize w2.drew = V at *
      go_upto_region 22 with fail
      simp only [NP]
      go_upto_region 22 with fail
      -- regions 22 to 24: the frame goes to the file of the segment SG, of the log L on the disk D, in the world V; HW: that the disk takes it
      obtain ⟨c0, c1, -, -, -⟩ := HT.out.is.log.at
      obtain ⟨s0, -, s2, -⟩ := SG.out.at
      simp only at c0 c1 s0 s2
      refine region_m [(0, false), (1, false), (2, false), (3, false), (4, false), (5, false), (7, false), (8, false), (9, false), (10, false), (11, false), (6, true), (12, true)] 13 (fun X => X.cell? ⟨l, 0, none⟩ = some (.pointer (some ⟨(L).d, 0, none⟩)) ∧ X.cell? ⟨sb, 2, none⟩ = some (.int .i64 sz)) (by kernel_rfl) (by kernel_rfl) ⟨c0, s2⟩ ?_
      iterate 11
        first
        | (refine m_take (v := ?_) rfl rfl ?_ ?_
           rotate_left
           · intro W hW
             go_simp
             with_reducible rfl
           simp only [Act.put, List.setIfInBounds_toArray, List.set_cons_zero, List.set_cons_succ])
        | (refine m_skip rfl rfl ?_
           simp only [Act.put, List.setIfInBounds_toArray, List.set_cons_zero, List.set_cons_succ])
      refine m_loud rfl (fun K hK => ?_)
      have HK := Lib.hid hK
      clear hK
      go_simp
      refine (sfile_calls l sb (L).name sbase V.drew c1 s0 (HITS.out.below ((Below.refl _ _).drew)) (by have := rightNm_size HNM.out; omega) (by omega)).mono ?_
      rintro e w3 ⟨rfl, hb3⟩
      have hb3 : Below V.heap.size V w3 := ((Below.refl V.heap.size V).drew).trans hb3
      have HT3 := Lib.hid (HT.out.below hb3)
      have SG3 := Lib.hid (SG.out.below hb3)
      have HFV3 := Lib.hid (HFV.out.below hb3)
      refine HK.out _ _ ⟨cell_later hb3 c0, cell_later hb3 s2⟩ ?_
      clear HK
      clear hb3 HFV SG HT c0 c1 s0 s2
      refine m_loud rfl (fun K hK => ?_)
      have HK := Lib.hid hK
      clear hK
      go_simp
      refine (dwrite_calls (L).d B D (fnm (L).name sbase) sz _ (Fr.FrM.frameOf ys) w3 HT3.out.is.disk HFV3.out.1 (fun a n c e hf => HT3.out.is.disk.foot_u8 hf (HFV3.out.2 a n c e)) (by rw [fnm_size]; have := rightNm_size HNM.out; have := istr_size sbase (by omega); omega) (by omega) (by rw [Fr.FrM.frameOf_length]; omega) HW.out.2.1 HW.out.2.2.1 HW.out.2.2.2.1 HW.out.2.2.2.2.1 HW.out.2.2.2.2.2).mono ?_
      rintro e w4 ⟨er, rfl, her, hpost⟩
      rw [HW.out.1] at her
      subst her
      obtain ⟨hne, -⟩ | ⟨-, nv, dvv, dcv, ht⟩ := hpost
      · exact absurd rfl hne
      have HT := Lib.hid (HT3.out.trans (LT.disk HT3.out.is ht))
      have SG := Lib.hid (SG3.out.turned HT3.out.is.disk ht)
      have hc := HT.out.is.log.at.1
      have hc2' := SG.out.at.2.2.1
      simp only at hc hc2'
      clear ht HT3 SG3 HFV3
      refine HK.out _ _ ⟨hc, hc2'⟩ ?_
      clear HK
      clear hc hc2'
      refine m_done ?_
      simp only [List.drop_succ_cons, List.drop_zero]
      -- regions 27 to 30: the entry goes to the segment SG (at HI) of the log HT, in the world w4; m: the number of the place
      obtain ⟨ea, ec, hev⟩ := own_slice SG.out.row
      simp only at hev
      subst hev
      obtain ⟨s0, s1, s2, s3⟩ := SG.out.at
      simp only at s0 s1 s2 s3
      have HVV := Lib.hid (Bytes.only0 HV.out HT.out.only (fun a n c e => HVF.out a n c e))
      go_upto_region 27 with fail
      try simp only [NP]
      go_upto_region 27 with fail
      refine region_m [(0, false), (1, false), (2, false), (3, false), (4, false), (5, false), (6, true), (7, true), (8, true)] 9 (fun X => X.cell? ⟨sb, 1, none⟩ = some (.slice ea sevs.length ec)) (by kernel_rfl) (by kernel_rfl) s1 ?_
      iterate 6
        first
        | (refine m_take (v := ?_) rfl rfl ?_ ?_
           rotate_left
           · intro W hW
             go_simp
             with_reducible rfl
           simp only [Act.put, List.setIfInBounds_toArray, List.set_cons_zero, List.set_cons_succ])
        | (refine m_skip rfl rfl ?_
           simp only [Act.put, List.setIfInBounds_toArray, List.set_cons_zero, List.set_cons_succ])
      refine m_loud rfl (fun K hK => ?_)
      have HK := Lib.hid hK
      clear hK
      go_simp
      refine (cloneB_calls _ ys _ (HVV.out.below ((Below.refl _ _).drew) (Nat.le_refl _)) (by omega)).mono ?_
      rintro e w6 ⟨cv', rfl, hm6, hb6⟩
      have hb6 : Below (w4).heap.size (w4) w6 := ((Below.refl (w4).heap.size (w4)).drew).trans hb6
      have HT6 := Lib.hid (HT.out.below hb6)
      have SG6 := Lib.hid (SG.out.below hb6)
      have HM6 := Lib.hid (Txt.of_mine hm6)
      obtain ⟨xa, xc, rfl⟩ := hm6.slice
      have HNW := Lib.hid (show ∀ b, (Value.slice xa ys.length xc).ownBlock = some b → w0.heap.size ≤ b from fun b hb => by
        have h1 := (World.ownsRow.lt hm6 b hb).1
        have h2 := HT.out.only.size
        exact Nat.le_trans h2 h1)
      have c6 := SG6.out.at.2.1
      simp only at c6
      refine HK.out _ _ c6 ?_
      clear HK
      clear hm6 hb6 HVV s0 s1 s2 s3
      refine m_loud rfl (fun K hK => ?_)
      have HK := Lib.hid hK
      clear hK
      go_simp
      have hb7 := below_alloc w6 (.cells #[.slice xa ys.length xc] 63)
      have HT7 := Lib.hid (HT6.out.below hb7)
      have SG7 := Lib.hid (SG6.out.below hb7)
      have HM7 := Lib.hid (HM6.out.below hb7)
      have c7 := SG7.out.at.2.1
      simp only at c7
      have HLIT := Lib.hid (Rd.lit (w := w6) (cs := #[.slice xa ys.length xc]) (e := 63) (n := 1) (sz := 1) rfl (by omega))
      refine HK.out _ _ c7 ?_
      clear HK
      clear hb7 c6
      have hB7 : B ≤ (w6.alloc (.cells #[.slice xa ys.length xc] 63)).heap.size := by have := SG7.out.foot_lt (.inl rfl); omega
      generalize w6.alloc (.cells #[.slice xa ys.length xc] 63) = w7 at *
      refine m_app tyBytesL (base := B) (n := sevs.length) (v := .slice ea sevs.length ec) (xs := sevs.map Prod.fst) SG7.out.row HLIT.out (by simp [Value.oneCell']) (by omega) (by omega) (by omega) hB7 rfl rfl rfl rfl rfl ?_
      intro g cap w8 ho8 hold8 hg8 hgc8
      have hne : ∀ j, (Value.slice (some ⟨g, 0, none⟩) (sevs.length + 1) cap).ownBlock = some j → (Value.slice ea sevs.length ec).ownBlock = some j ∨ w7.heap.size ≤ j := fun j e => by
        simp only [Value.ownBlock, Option.some.injEq] at e
        subst e
        rcases hgc8 with ⟨k, c, e, -⟩ | e
        · exact .inl (by rw [e]; rfl)
        · exact .inr e
      have HFIN := Lib.hid (HT7.out.trans (LT.entry (x := (.slice xa ys.length xc, ys)) HT7.out.is HI.out HM7.out (by have := ho8; exact this) hg8 hne (sz + (12 + ys.length))))
      have hrb := ownsRow_only SG7.out.box (Only.of_grown hg8) (fun j hj e => by
        simp only [Value.ownBlock, Option.some.injEq] at hj
        subst hj
        exact absurd ((own_ty SG7.out.row e).eq (own_ty SG7.out.box (j := sb) rfl)) (by decide))
      have hcs := fun j u hj => World.ownsRow.cells hrb (g := sb) rfl j u hj
      simp only [add_off, Nat.zero_add] at hcs
      have c81 : w8.cell? ⟨sb, 1, none⟩ = some (.slice ea sevs.length ec) := hcs 1 _ rfl
      have c82 : w8.cell? ⟨sb, 2, none⟩ = some (.int .i64 sz) := hcs 2 _ rfl
      have c83 : w8.cell? ⟨sb, 3, none⟩ = some (.bool sdirty) := hcs 3 _ rfl
      have f8 : ∀ j, w8.frozen? ⟨sb, j, none⟩ = false := fun j => World.ownsRow.frozenAt hrb j
      refine ⟨c81, ?_⟩
      clear ho8 hold8 hg8 hgc8 hrb c7 hcs hne
      refine m_done ?_
      simp only [List.drop_succ_cons, List.drop_zero]
      have hs40 : sz + (12 + ys.length) ≤ 4611686018427387904 := by omega
      go_wp2_with fail
      try simp only [NP]
      go_wp2_with fail
      go_ret2
      have hF := HFIN.out
      push_cast at hF
      exact ⟨rfl, _, _, .inl ⟨m, _, nv, dvv, dcv, _, _, hm, HI.out, by rw [HLR.out]; simp only; omega, rfl, rfl⟩, hF, _, lastE_set (by first | exact hm | simp) rfl rfl, HNW.out⟩

theorem lappend_calls (B l : Nat) (L : Lg) (D : Dk) (v : Value) (ys : List UInt8) (w : World) (h : LD w B l L D) (hok : AOk L D ys.length) (hv : Bytes w v ys) (hvF : ∀ a n c, v = .slice (some a) n c → 0 < ys.length → ¬ ldFoot l L D a.block) (hit : ∀ n W, n ≤ nextOf L → Only (fun j => B ≤ j) w W → ItoaAt n W) (hlen : ys.length ≤ 65536) :
    Calls Tryz.prog 48 #[.pointer (some ⟨l, 0, none⟩), v] w fun e w' => e = .returned (.tuple #[.int .i64 (nextOf L), .int .i64 0]) ∧ ∃ L' D', (AppStay L D ys L' D' ∨ AppFresh L D ys L' D') ∧ LT w w' B l L D L' D' := by
  refine (lappend2_calls B l L D v ys w h hok hv hvF hit hlen).mono ?_
  rintro e w' ⟨h1, L', D', h2, h3, -⟩
  exact ⟨h1, L', D', h2, h3⟩
end Go.Proofs.YthgmligpconhhaaGreatDoor

/- Layer 6: Sync and Read, walked. -/
namespace Go.Proofs.YthgmligpconhhaaGreatDoor
open Go.RowKit Go.Shelf
set_option linter.unusedVariables false
set_option linter.unusedSimpArgs false
set_option maxRecDepth 100000

/-- The first k segments are synced. -/
def clean (k : Nat) (l : List Seg) : List Seg := (l.take k).map (fun s => { s with dirty := false }) ++ l.drop k
theorem clean_len (k : Nat) (l : List Seg) : (clean k l).length = l.length := by
  unfold clean
  rw [List.length_append, List.length_map, List.length_take, List.length_drop]
  omega
theorem clean_zero (l : List Seg) : clean 0 l = l := by simp [clean]
theorem clean_get (k : Nat) (l : List Seg) : (clean k l)[k]? = l[k]? := by
  unfold clean
  by_cases h : k ≤ l.length
  · rw [List.getElem?_append_right (by rw [List.length_map, List.length_take]; omega), List.length_map, List.length_take, Nat.min_eq_left h, Nat.sub_self, List.getElem?_drop, Nat.add_zero]
  · rw [List.getElem?_eq_none (by rw [List.length_append, List.length_map, List.length_take, List.length_drop]; omega), List.getElem?_eq_none (by omega)]
theorem clean_step {k : Nat} {l : List Seg} {s : Seg} (h : l[k]? = some s) : (clean k l).set k { s with dirty := false } = clean (k + 1) l := by
  have hk : k < l.length := (List.getElem?_eq_some_iff.1 h).1
  have hs : l[k] = s := (List.getElem?_eq_some_iff.1 h).2
  unfold clean
  rw [List.set_append_right _ _ (by rw [List.length_map, List.length_take]; omega), List.length_map, List.length_take, Nat.min_eq_left (Nat.le_of_lt hk), Nat.sub_self, List.drop_eq_getElem_cons hk, List.set_cons_zero, List.take_succ_eq_append_getElem hk, hs, List.map_append, List.append_assoc]
  rfl
theorem clean_same {k : Nat} {l : List Seg} {s : Seg} (h : l[k]? = some s) (hd : s.dirty = false) : clean k l = clean (k + 1) l := by
  rw [← clean_step h]
  have hk : k < l.length := (List.getElem?_eq_some_iff.1 h).1
  apply List.ext_getElem?
  intro i
  rw [List.getElem?_set]
  split
  · rename_i e
    subst e
    rw [if_pos (by rw [clean_len]; exact hk), clean_get, h]
    obtain ⟨a, b, c, d, e, f⟩ := s
    simp only at hd
    rw [hd]
  · rfl
theorem clean_ptr (k : Nat) (l : List Seg) : (clean k l).map Seg.ptr = l.map Seg.ptr := by
  unfold clean
  rw [List.map_append, List.map_map]
  conv => rhs; rw [← List.take_append_drop k l, List.map_append]
  rfl

/-- The disk behind the Syncs of the first k segments. -/
inductive Sy (L : Lg) (D : Dk) : Nat → Dk → Prop
  | zero : Sy L D 0 D
  | skip {k : Nat} {D' : Dk} {s : Seg} : Sy L D k D' → L.segs[k]? = some s → s.dirty = false → Sy L D (k + 1) D'
  | sync {k : Nat} {D' : Dk} {s : Seg} (cv v : Value) : Sy L D k D' → L.segs[k]? = some s → s.dirty = true → Sy L D (k + 1) (syD D' (fnm L.name s.base) cv v)
theorem Sy.same {L : Lg} {D D' : Dk} {k : Nat} (h : Sy L D k D') : D'.now = D.now ∧ D'.room = D.room ∧ D'.fails = D.fails ∧ D'.chg.length ≤ D.chg.length := by
  induction h with
  | zero => exact ⟨rfl, rfl, rfl, Nat.le_refl _⟩
  | skip _ _ _ ih => exact ih
  | sync cv v _ _ _ ih => exact ⟨ih.1, ih.2.1, ih.2.2.1, Nat.le_trans (List.length_filter_le _ _) ih.2.2.2⟩

structure SOk (L : Lg) (D : Dk) : Prop where
  open_ : L.broken = false
  nofail : D.fails = false
  nm : rightNm L.name.data.toList = true
  base : ∀ s ∈ L.segs, s.base ≤ 1000000000
  file : ∀ s ∈ L.segs, (mget D.now (fnm L.name s.base)).isSome = true ∧ (fileOf D.now (fnm L.name s.base)).length ≤ 1073741824
  chg : D.chg.length ≤ 100000
  segs : L.segs.length ≤ 100000

set_option maxHeartbeats 8000000 in
theorem lsync_calls (B l : Nat) (L : Lg) (D : Dk) (w : World) (h : LD w B l L D) (hok : SOk L D) (hit : ∀ s ∈ L.segs, ∀ W, Only (fun j => B ≤ j) w W → ItoaAt s.base W) :
    Calls Tryz.prog 49 #[.pointer (some ⟨l, 0, none⟩)] w fun e w' => e = .returned (.int .i64 0) ∧ ∃ D', Sy L D L.segs.length D' ∧ LT w w' B l L D { L with segs := clean L.segs.length L.segs } D' := by
  have HD := Lib.hid h
  have HOK := Lib.hid hok
  have HIT := Lib.hid hit
  obtain ⟨-, -, -, c3, c4⟩ := h.log.at
  rw [hok.open_] at c4
  obtain ⟨sa, sc, hsv⟩ := own_slice h.log.row
  rw [hsv] at c3
  have HSV := Lib.hid hsv
  have hsl := hok.segs
  clear h hok hit hsv
  go_enter Tryz.func49, Tryz.ntmps49
  go_wp2_with fail
  refine (lready_calls l w c4).mono ?_
  rintro e w0 ⟨rfl, rfl⟩
  go_wp2_with fail
  go_loopw [5, 6, 17] (fun _ _ iv wr => ∃ (k : Nat) (D' : Dk), k ≤ L.segs.length ∧ iv = .int .i64 k ∧ Sy L D k D' ∧ LT w0 wr B l L D { L with segs := clean k L.segs } D') (fun _ _ iv _ => L.segs.length - (intOf iv).toNat)
  case atStart => exact ⟨0, D, by omega, rfl, .zero, by rw [clean_zero]; exact LT.refl HD.out⟩
  case round =>
    obtain ⟨k, D', hk, rfl, hsy, hlt⟩ := hrel
    have HSY := Lib.hid hsy
    have HT := Lib.hid hlt
    clear hsy hlt c3 c4
    by_cases hkl : k < L.segs.length
    · have hgk : L.segs[k]? = some L.segs[k] := List.getElem?_eq_getElem hkl
      obtain ⟨s, hS⟩ : ∃ s, L.segs[k] = s := ⟨_, rfl⟩
      rw [hS] at hgk
      have hmem := List.mem_of_getElem? hgk
      have hgc : (clean k L.segs)[k]? = some s := by rw [clean_get]; exact hgk
      have SG := Lib.hid (HT.out.is.log.segs s (List.mem_of_getElem? hgc))
      have HGC := Lib.hid hgc
      have HGK := Lib.hid hgk
      have HMEM := Lib.hid hmem
      obtain ⟨sv0, scap, hsv, hc1, hc2, hp⟩ := HT.out.is.log.ptr k (by show k < (clean k L.segs).length; rw [clean_len]; exact hkl)
      have hpe : wr.cell? ⟨sv0, k, none⟩ = some (.pointer (some ⟨s.b, 0, none⟩)) := by
        rw [hp]
        have : (clean k L.segs)[k]'(by rw [clean_len]; exact hkl) = s := (List.getElem?_eq_some_iff.1 hgc).2
        show some (Value.pointer (some ⟨((clean k L.segs)[k]'_).b, 0, none⟩)) = _
        rw [this]
      have hsv' : sa = some ⟨sv0, 0, none⟩ := by
        have := HSV.out.symm.trans hsv
        simp only [Value.slice.injEq] at this
        exact this.1
      subst hsv'
      clear hp hgc hgk hS hmem hsv hc1
      obtain ⟨sb, sbase, sev, sevs, sz, sdirty⟩ := s
      simp only at hpe
      have s3 := SG.out.at.2.2.2
      simp only at s3
      have hkc : k < sc := by
        obtain ⟨_, c2, e, _, hc, _⟩ := HT.out.is.log.ptr k (by show k < (clean k L.segs).length; rw [clean_len]; exact hkl)
        have := HSV.out.symm.trans e
        simp only [Value.slice.injEq] at this
        have h3 := this.2.2
        have hcl := clean_len k L.segs
        obtain ⟨_, _, e2, hle, _⟩ := HT.out.is.log.ptr k (by show k < (clean k L.segs).length; rw [clean_len]; exact hkl)
        have h4 := HSV.out.symm.trans e2
        simp only [Value.slice.injEq] at h4
        have hle2 : (clean k L.segs).length ≤ _ := hle
        omega
      cases sdirty with
      | false =>
        have HSY2 := Lib.hid (HSY.out.skip HGK.out rfl)
        have HT2 := Lib.hid (show LT w0 wr B l L D { L with segs := clean (k + 1) L.segs } D' by rw [← clean_same HGK.out rfl]; exact HT.out)
        go_wp2_with fail
        go_roundw
        case rel => exact ⟨k + 1, _, by omega, by go_num, HSY2.out, HT2.out⟩
        case measure => simp [intOf]; omega
      | true =>
        have c0 := HT.out.is.log.at.1
        have c1 := HT.out.is.log.at.2.1
        have s0 := SG.out.at.1
        simp only at s0 c0 c1
        have hba := HOK.out.base _ HMEM.out
        have hfi := HOK.out.file _ HMEM.out
        simp only at hba hfi
        have HITS := Lib.hid (HIT.out _ HMEM.out wr (HT.out.only.weak (fun j _ hj => (HD.out.foot_lt hj).1)))
        have HNM := Lib.hid HOK.out.nm
        have HSD := Lib.hid HSY.out.same
        go_upto_region 8 with fail
        refine region_m [(0, false), (1, false), (2, false), (3, false), (4, false), (5, false), (6, true), (7, true)] 8 (fun X => X.cell? ⟨l, 0, none⟩ = some (.pointer (some ⟨L.d, 0, none⟩))) (by kernel_rfl) (by kernel_rfl) c0 ?_
        iterate 6
          first
          | (refine m_take (v := ?_) rfl rfl ?_ ?_
             rotate_left
             · intro W hW
               go_simp
               with_reducible rfl
             simp only [Act.put, List.setIfInBounds_toArray, List.set_cons_zero, List.set_cons_succ])
          | (refine m_skip rfl rfl ?_
             simp only [Act.put, List.setIfInBounds_toArray, List.set_cons_zero, List.set_cons_succ])
        refine m_loud rfl (fun K hK => ?_)
        have HK := Lib.hid hK
        clear hK
        go_simp
        refine (sfile_calls l sb L.name sbase wr.drew c1 s0 (HITS.out.below ((Below.refl _ _).drew)) (by have := rightNm_size HNM.out; omega) (by omega)).mono ?_
        rintro e w3 ⟨rfl, hb3⟩
        have hb3 : Below wr.heap.size wr w3 := ((Below.refl wr.heap.size wr).drew).trans hb3
        have HT3 := Lib.hid (HT.out.below hb3)
        have SG3 := Lib.hid (SG.out.below hb3)
        refine HK.out _ _ (cell_later hb3 c0) ?_
        clear HK
        clear hb3 SG HT c0 c1 s0 s3 hpe
        refine m_loud rfl (fun K hK => ?_)
        have HK := Lib.hid hK
        clear hK
        go_simp
        refine (dsync_calls L.d B D' (fnm L.name sbase) w3 HT3.out.is.disk (by rw [fnm_size]; have := rightNm_size HNM.out; have := istr_size sbase (by omega); omega) (by rw [HSD.out.1]; have h1 := hfi.2; omega) (by have h1 := HOK.out.chg; have h2 := HSD.out.2.2.2; omega)).mono ?_
        rintro e w4 ⟨er, rfl, her, hpost⟩
        rw [sy_ok (HSD.out.2.2.1.trans HOK.out.nofail) HNM.out (by omega) (by rw [HSD.out.1]; exact hfi.1)] at her
        subst her
        obtain ⟨hne, -⟩ | ⟨-, scv, sv4, ht⟩ := hpost
        · exact absurd rfl hne
        have HT4 := Lib.hid (HT3.out.trans (LT.disk HT3.out.is ht))
        have SG4 := Lib.hid (SG3.out.turned HT3.out.is.disk ht)
        have hc := HT4.out.is.log.at.1
        simp only at hc
        clear ht HT3 SG3
        refine HK.out _ _ hc ?_
        clear HK
        clear hc
        refine m_done ?_
        simp only [List.drop_succ_cons, List.drop_zero]
        have s3 := SG4.out.at.2.2.2
        have z3 := SG4.out.frz 3
        simp only at s3
        have HSY2 := Lib.hid (HSY.out.sync scv sv4 HGK.out rfl)
        have HT2 := Lib.hid (show LT w0 (w4.setCell ⟨sb, 3, none⟩ (.bool false)) B l L D { L with segs := clean (k + 1) L.segs } (syD D' (fnm L.name sbase) scv sv4) by
          have := HT4.out.trans (LT.setDirty HT4.out.is HGC.out false)
          rw [← clean_step HGK.out]
          exact this)
        go_wp2_with fail
        try simp only [NP]
        go_wp2_with fail
        go_roundw
        case rel => exact ⟨k + 1, _, by omega, by go_num, HSY2.out, HT2.out⟩
        case measure => simp [intOf]; omega
    · obtain rfl : k = L.segs.length := by omega
      go_wp2_with fail
      go_ret
      exact ⟨rfl, _, HSY.out, HT.out⟩
end Go.Proofs.YthgmligpconhhaaGreatDoor

/- Layer 6: Read, walked. -/
namespace Go.Proofs.YthgmligpconhhaaGreatDoor
open Go.RowKit Go.Shelf
set_option linter.unusedVariables false
set_option linter.unusedSimpArgs false
set_option maxRecDepth 100000

/-- Holds a segment the number? -/
def Seg.has (s : Seg) (at_ : Int) : Bool := decide ((s.base : Int) ≤ at_) && decide (at_ < (s.base : Int) + s.evs.length)
/-- What stands at a number. -/
def readOf (L : Lg) (at_ : Int) : Option (List UInt8) := (L.segs.find? (Seg.has · at_)).bind (fun s => s.evs[(at_ - s.base).toNat]?.map Prod.snd)
def ReadOut (r : Option (List UInt8)) (e : Ending) (w w' : World) : Prop :=
  match r with
  | some ys => ∃ v, e = .returned (.tuple #[v, .int .i64 0]) ∧ Mine w' w.heap.size v ys
  | none => e = .returned (.tuple #[.slice none 0 0, .int .i64 7])
theorem find_at {α : Type} (p : α → Bool) : ∀ (l : List α) (k : Nat) (x : α), l[k]? = some x → p x = true → (∀ i y, i < k → l[i]? = some y → p y = false) → l.find? p = some x
  | [], k, x, h, _, _ => by simp at h
  | a :: l, 0, x, h, hp, _ => by
    simp only [List.getElem?_cons_zero, Option.some.injEq] at h
    subst h
    simp [List.find?, hp]
  | a :: l, k + 1, x, h, hp, hn => by
    rw [List.getElem?_cons_succ] at h
    have ha := hn 0 a (by omega) rfl
    rw [List.find?_cons_of_neg (by rw [ha]; simp)]
    exact find_at p l k x h hp (fun i y hi hy => hn (i + 1) y (by omega) (by rw [List.getElem?_cons_succ]; exact hy))
theorem find_not {α : Type} (p : α → Bool) (l : List α) (h : ∀ (i : Nat) (y : α), i < l.length → l[i]? = some y → p y = false) : l.find? p = none := by
  rw [List.find?_eq_none]
  intro x hx
  obtain ⟨i, hi⟩ := List.getElem?_of_mem hx
  rw [h i x (List.getElem?_eq_some_iff.1 hi).1 hi]
  simp

/-- The entry at a place. -/
theorem SegAt.ent {w : World} {B : Nat} {s : Seg} (h : SegAt w B s) (j : Nat) (x : Value × List UInt8) (hj : s.evs[j]? = some x) : ∃ b cap, s.ev = .slice (some ⟨b, 0, none⟩) s.evs.length cap ∧ s.evs.length ≤ cap ∧ cap ≤ 9223372036854775807 ∧ w.cell? ⟨b, j, none⟩ = some x.1 := by
  have hl := (List.getElem?_eq_some_iff.1 hj).1
  rcases h.row.2 with ⟨_, h0⟩ | ⟨g, cap, cur, hv, hb, hg, hn, hm, _⟩
  · omega
  · have := World.ownsRow.cells h.row (g := g) (by rw [hv]; rfl) j _ (by rw [List.getElem?_map, hj]; rfl)
    rw [add_off, Nat.zero_add] at this
    exact ⟨g, cap, hv, hn, by unfold maxLen at hm; omega, this⟩
end Go.Proofs.YthgmligpconhhaaGreatDoor

/- Layer 6: slices.Delete of segments, walked. -/
namespace Go.Proofs.YthgmligpconhhaaGreatDoor
open Go.RowKit Go.Shelf
set_option linter.unusedVariables false
set_option linter.unusedSimpArgs false
set_option maxRecDepth 100000
set_option maxHeartbeats 800000 in
theorem del_calls (g cap m i base : Nat) (cs : List Value) (w : World) (hown : w.ownsRow base 94 1 (.slice (some ⟨g, 0, none⟩) (m + 1) cap) (m + 1) cs) (h1 : ∀ u ∈ cs, u.oneCell' = true) (hi : i ≤ m) (hn : m ≤ 1000000) :
    Calls Tryz.prog 63 #[.slice (some ⟨g, 0, none⟩) (m + 1) cap, .int .i64 i, .int .i64 ((i : Int) + 1)] w fun e w' => e = .returned (.slice (some ⟨g, 0, none⟩) m cap) ∧
      w'.ownsRow base 94 1 (.slice (some ⟨g, 0, none⟩) m cap) m (cs.take i ++ cs.drop (i + 1)) ∧ w.grownBy w' (some g) := by
  obtain ⟨g', cap', hgc, -, -, hnc, hcm⟩ := own_succ hown
  simp only [Value.slice.injEq, Option.some.injEq, Addr.mk.injEq, and_true, true_and] at hgc
  obtain ⟨rfl, rfl⟩ := hgc
  have HO := Lib.hid hown
  have H1 := Lib.hid h1
  clear h1
  have hb1 : (i : Int) + 1 ≤ (m : Int) + 1 := by omega
  have hb2 : (m : Int) + 1 ≤ cap := by omega
  have hb3 : (i : Int) ≤ cap := by omega
  have hb4 : i ≤ cap := by omega
  have hb5 : (0 : Int) ≤ (i : Int) + 1 := by omega
  have hb6 : ¬ cap = m := by omega
  have hb7 : (m : Int) ≤ (m : Int) + 1 := by omega
  obtain ⟨i0, hi0, e1, e2, e3⟩ := tySegs.hi
  have hcl : cs.length = (m + 1) := by have := hown.1; rw [Nat.mul_one] at this; exact this
  have hpre := own_prefix (n := i) (m := m + 1 - i) (xs := cs.take i) (ys := cs.drop i) (by rw [List.take_append_drop, Nat.add_sub_cancel' (by omega)]; exact hown) (by rw [List.length_take]; omega)
  have hdl : (cs.drop (i + 1)).length = m - i := by rw [List.length_drop]; omega
  have hd1 : ∀ u ∈ cs.drop (i + 1), u.oneCell' = true := fun u hu => H1.out u (List.mem_of_mem_drop hu)
  have hsum : i + (m - i) = m := by omega
  have happ : ∀ (o : Nat), (m = i ∨ o = i + 1) → ∃ w1, (Builtin.append_ #[84, 84] 84 #[.slice (some ⟨g, 0, none⟩) i cap, .slice (some ⟨g, o, none⟩) (m - i) (cap - (i + 1))]).run Tryz.prog w.drew = .ok (.slice (some ⟨g, 0, none⟩) m cap) w1 ∧
      w1.ownsRow base 94 1 (.slice (some ⟨g, 0, none⟩) m cap) m (cs.take i ++ cs.drop (i + 1)) ∧ w.drew.grownBy w1 (some g) := by
    intro o ho
    have h := run_append_fits (P := Tryz.prog) (w := w.drew) (ty := 84) base 84 94 i0 1 tySegs.ht hi0 e2 g i cap (cs.take i) hpre
      ⟨g, o, none⟩ (m - i) (cap - (i + 1)) (cs.drop (i + 1)) (by rw [Nat.mul_one]; exact hdl) (fun j u hj => by
        have hlt : j < (cs.drop (i + 1)).length := (List.getElem?_eq_some_iff.1 hj).1
        rw [List.getElem?_drop] at hj
        have := World.ownsRow.cells hown rfl _ _ hj
        rw [add_off] at this ⊢
        rcases ho with ho | ho
        · omega
        · rw [ho]; rwa [Nat.zero_add] at this) hd1 (by omega)
    rw [hsum] at h
    exact h
  have hclr : ∀ w1 : World, w1.ownsRow base 94 1 (.slice (some ⟨g, 0, none⟩) m cap) m (cs.take i ++ cs.drop (i + 1)) → ∃ w2, (∀ ty, (Builtin.clear_ #[84] ty #[.slice (some ⟨g, m, none⟩) 1 (cap - m)]).run Tryz.prog w1 = .ok (.tuple #[]) w2) ∧
      w2.ownsRow base 94 1 (.slice (some ⟨g, 0, none⟩) m cap) m (cs.take i ++ cs.drop (i + 1)) ∧ w1.grownBy w2 (some g) := by
    intro w1 ho
    obtain ⟨w2, h1, h2, h3⟩ := run_clear_tail (P := Tryz.prog) (t := 84) (ty := 0) (m := 1) (c := cap - m) tySegs (fun w => by kernel_rfl) (by simp [Value.cells, Value.oneCell']) ho (by omega) (by omega)
    exact ⟨w2, fun ty => by rw [Nat.mul_one] at h1; exact h1, h2, h3⟩
  have HAPP := Lib.hid happ
  have HCLR := Lib.hid hclr
  clear hpre hdl hd1 hsum happ hclr hcl hown e1 e2 e3 hi0
  rcases (show (cap = i + 1 ∧ m = i) ∨ (¬ cap = i + 1 ∧ i + 1 < cap) from by omega) with ⟨hc1, hc2⟩ | ⟨hc1, hc2⟩
  · subst hc1 hc2
    have hb8 : (m : Int) ≤ (m : Int) + 1 := by omega
    obtain ⟨w1, hrun, ho1, hg1⟩ := HAPP.out 0 (.inl rfl)
    obtain ⟨w2, hrun2, ho2, hg2⟩ := HCLR.out w1 ho1
    simp only [Nat.sub_self, show m + 1 - m = 1 from by omega] at hrun hrun2
    have HR := Lib.hid hrun
    have HR2 := Lib.hid hrun2
    have HO2 := Lib.hid (And.intro ho2 (World.grownBy.trans (grown_drew hg1) hg2))
    clear hrun hrun2 ho1 hg1 ho2 hg2
    go_enter Tryz.func63, Tryz.ntmps63
    go_wp2_with fail
    refine region_m [(0, false), (1, false), (2, false), (3, false), (4, false), (5, false)] 6 (fun _ => True) (by kernel_rfl) (by kernel_rfl) trivial ?_
    iterate 6
      refine m_take (v := ?_) rfl rfl ?_ ?_
      rotate_left
      · intro W hW
        go_simp
        with_reducible rfl
      simp only [Act.put, List.setIfInBounds_toArray, List.set_cons_zero, List.set_cons_succ]
    refine m_done ?_
    simp only [List.drop_succ_cons, List.drop_zero]
    refine list_value rfl (exec_app rfl rfl rfl HR.out) ?_
    have hrun2 := HR2.out
    go_wp2_with fail
    simp only [NP]
    go_wp2_with fail
    go_ret
    exact ⟨rfl, HO2.out⟩
  · have g3 : (i : Int) + 1 ≤ cap := by omega
    obtain ⟨w1, hrun, ho1, hg1⟩ := HAPP.out (i + 1) (.inr rfl)
    obtain ⟨w2, hrun2, ho2, hg2⟩ := HCLR.out w1 ho1
    have HR := Lib.hid hrun
    have HR2 := Lib.hid hrun2
    have HO2 := Lib.hid (And.intro ho2 (World.grownBy.trans (grown_drew hg1) hg2))
    clear hrun hrun2 ho1 hg1 ho2 hg2
    go_enter Tryz.func63, Tryz.ntmps63
    go_wp2_with fail
    refine region_m [(0, false), (1, false), (2, false), (3, false), (4, false), (5, false)] 6 (fun _ => True) (by kernel_rfl) (by kernel_rfl) trivial ?_
    iterate 6
      refine m_take (v := ?_) rfl rfl ?_ ?_
      rotate_left
      · intro W hW
        go_simp
        with_reducible rfl
      simp only [Act.put, List.setIfInBounds_toArray, List.set_cons_zero, List.set_cons_succ]
    refine m_done ?_
    simp only [List.drop_succ_cons, List.drop_zero]
    refine list_value rfl (exec_app rfl rfl rfl HR.out) ?_
    have hrun2 := HR2.out
    go_wp2_with fail
    simp only [NP]
    go_wp2_with fail
    go_ret
    exact ⟨rfl, HO2.out⟩
end Go.Proofs.YthgmligpconhhaaGreatDoor

/- Layer 6: drop, walked. -/
namespace Go.Proofs.YthgmligpconhhaaGreatDoor
open Go.RowKit Go.Shelf
set_option linter.unusedVariables false
set_option linter.unusedSimpArgs false
set_option maxRecDepth 100000

/-- A segment less. -/
theorem LT.dropSeg {w0 w w2 : World} {B l : Nat} {L0 L : Lg} {D0 D : Dk} {i : Nat} {sv2 : Value} (h0 : LT w0 w B l L0 D0 L D) (hr : w2.ownsRow B 94 1 sv2 (L.segs.eraseIdx i).length ((L.segs.eraseIdx i).map Seg.ptr)) (hg : w.grownBy w2 L.sv.ownBlock)
    (hnew : ∀ j, sv2.ownBlock = some j → L.sv.ownBlock = some j ∨ w.heap.size ≤ j) : LT w0 (w2.setCell ⟨l, 3, none⟩ sv2) B l L0 D0 { L with sv := sv2, segs := L.segs.eraseIdx i } D := by
  have h := h0.is.log
  have ho2 : Only (fun j => L.sv.ownBlock = some j) w w2 := Only.of_grown hg
  have hty := own_ty h.box (j := l) rfl
  have hb2 : w2.ownsRow B 86 5 (.slice (some ⟨l, 0, none⟩) 1 1) 1 L.cells := ownsRow_only h.box ho2 (fun g hg e => by
    simp only [Value.ownBlock, Option.some.injEq] at hg
    subst hg
    exact absurd ((own_ty h.row e).eq hty) (by decide))
  have hst := World.ownsRow.stored hb2 3 sv2
  have ho3 : Only (fun j => j = l) w2 (w2.setCell ⟨l, 3, none⟩ sv2) := (Only.of_grown hst.2).weak (fun j _ e => (Option.some.inj e).symm)
  have ho : Only (fun j => j = l ∨ L.sv.ownBlock = some j) w (w2.setCell ⟨l, 3, none⟩ sv2) := (ho2.weak (fun j _ e => .inr e)).trans ho3 (fun j _ e => .inl e)
  have hoL : Only (L.foot l) w (w2.setCell ⟨l, 3, none⟩ sv2) := ho.weak (fun j _ e => e.elim .inl (fun e => .inr (.inl e)))
  have hU : ∀ j, (j = l ∨ L.sv.ownBlock = some j) → ¬ IsU8 w j := fun j e => h.foot_u8 (e.elim .inl (fun e => .inr (.inl e)))
  have hsub : ∀ t ∈ L.segs.eraseIdx i, t ∈ L.segs := fun t ht => List.mem_of_mem_eraseIdx ht
  have hseg : ∀ t ∈ L.segs, SegAt (w2.setCell ⟨l, 3, none⟩ sv2) B t := fun t ht => by
    obtain ⟨k, hk⟩ := List.getElem?_of_mem ht
    exact (h.segs t ht).only ho (fun j e hf => by
      have := h.seg_ne hk hf
      exact e.elim this.1 this.2) hU
  have hlog : LogAt (w2.setCell ⟨l, 3, none⟩ sv2) B l { L with sv := sv2, segs := L.segs.eraseIdx i } := by
    refine ⟨hst.1, ?_, fun t ht => hseg t (hsub t ht), fun a b t u ha hb hab k hk1 hk2 => ?_⟩
    · exact ownsRow_only hr ho3 (fun g hg e => by
        subst e
        exact absurd ((own_ty hr hg).eq (own_ty hb2 (j := g) rfl)) (by decide))
    · simp only [List.getElem?_eraseIdx] at ha hb
      split at ha <;> split at hb
      · exact h.apart a b t u ha hb hab k hk1 hk2
      · exact h.apart a (b + 1) t u ha hb (by omega) k hk1 hk2
      · exact h.apart (a + 1) b t u ha hb (by omega) k hk1 hk2
      · exact h.apart (a + 1) (b + 1) t u ha hb (by omega) k hk1 hk2
  have hdisk : DiskAt (w2.setCell ⟨l, 3, none⟩ sv2) B L.d D := h0.is.disk.only hoL (fun j hj => foot_apart h h0.is.disk hj) (fun j hj => h.foot_u8 hj)
  refine ⟨⟨hlog, hdisk⟩, h0.d, h0.only.trans (hoL.weak (T := ldFoot l L D) (fun j _ e => .inl e)) (fun j hj hf => (h0.foot j hf).resolve_right (by omega)), fun j hj => ?_⟩
  have hsz := h0.only.size
  rcases hj with (e | e | ⟨t, ht, e⟩) | e
  · exact .inl (.inl (.inl e))
  · rcases hnew j e with e | e
    · exact h0.foot j (.inl (.inr (.inl e)))
    · exact .inr (by omega)
  · exact h0.foot j (.inl (.inr (.inr ⟨t, hsub t ht, e⟩)))
  · exact h0.foot j (.inr e)

theorem rm_ok {D : Dk} {name : ByteArray} {n : Nat} (h1 : D.fails = false) (h2 : rightNm name.data.toList = true) (hn : n < 9223372036854775808) (h : (mget D.now (fnm name n)).isSome = true) : rmE D (fnm name n) = 0 := by
  unfold rmE
  have hr : rdyE D (fnm name n) 0 = 0 := rdy_ok (m := 0) h1 h2 hn
  rw [hr, if_neg (by simp), if_neg (by intro h3; rw [Option.isNone_iff_eq_none] at h3; rw [h3] at h; cases h)]
theorem rmsy_ok {D : Dk} {name : ByteArray} {n : Nat} (cv : Value) (h1 : D.fails = false) (h2 : rightNm name.data.toList = true) (hn : n < 9223372036854775808) : syE (rmD D (fnm name n) cv) (fnm name n) = 0 := by
  unfold syE
  have : rdyE (rmD D (fnm name n) cv) (fnm name n) 0 = 0 := rdy_ok (D := rmD D (fnm name n) cv) (m := 0) h1 h2 hn
  rw [this, if_neg (by simp), if_neg (by
    rintro ⟨-, -, h3⟩
    have : (rmD D (fnm name n) cv).chg.any (isNm (fnm name n)) = true := by
      unfold rmD
      rw [List.any_append]
      simp [isNm]
    rw [this] at h3
    cases h3)]
set_option maxHeartbeats 4000000 in
theorem ldrop_calls (B l i : Nat) (L : Lg) (D : Dk) (s : Seg) (w : World) (h : LD w B l L D) (hs : L.segs[i]? = some s) (hnf : D.fails = false) (hnm : rightNm L.name.data.toList = true) (hba : s.base ≤ 4611686018427387904) (hfi : (mget D.now (fnm L.name s.base)).isSome = true) (hch : D.chg.length ≤ 900000) (hsl : L.segs.length ≤ 100000) (hit : ∀ W, Only (fun j => B ≤ j) w W → ItoaAt s.base W) :
    Calls Tryz.prog 39 #[.pointer (some ⟨l, 0, none⟩), .int .i64 i] w fun e w' => e = .returned (.int .i64 0) ∧ ∃ sv cv cv2 v, LT w w' B l L D { L with sv := sv, segs := L.segs.eraseIdx i } (syD (rmD D (fnm L.name s.base) cv) (fnm L.name s.base) cv2 v) := by
  have HD := Lib.hid h
  have HIT := Lib.hid hit
  have HNM := Lib.hid hnm
  have HNF := Lib.hid hnf
  have HFI := Lib.hid hfi
  have HGS := Lib.hid hs
  have hil : i < L.segs.length := (List.getElem?_eq_some_iff.1 hs).1
  have hiv : L.segs[i] = s := (List.getElem?_eq_some_iff.1 hs).2
  obtain ⟨c0, c1, -, c3, -⟩ := h.log.at
  obtain ⟨sb, scap, hsv, hc1, hc2, hp⟩ := h.log.ptr i hil
  rw [hiv] at hp
  rw [hsv] at c3
  have s0 := (h.log.segs s (List.mem_of_getElem? hs)).at.1
  have b1 : (i : Int) < L.segs.length := by omega
  have hic : i < scap := by omega
  have HSV := Lib.hid hsv
  obtain ⟨qb, qbase, qev, qevs, qsz, qd⟩ := s
  simp only at hba HIT HFI s0 hp
  clear h hit hnm hnf hfi hs hiv hsv
  go_enter Tryz.func39, Tryz.ntmps39
  go_wp2_with fail
  refine (sfile_calls l qb L.name qbase w c1 s0 (HIT.out w (Only.refl _ _)) (by have := rightNm_size HNM.out; omega) (by omega)).mono ?_
  rintro e w1 ⟨rfl, hb1⟩
  have HD1 := Lib.hid (HD.out.below hb1)
  have HB1 := Lib.hid hb1
  clear hb1 c0 c1 c3 hp s0
  have c0 := HD1.out.log.at.1
  go_wp2_with fail
  refine (dremove_calls L.d B D (fnm L.name qbase) w1 HD1.out.disk (by rw [fnm_size]; have := rightNm_size HNM.out; have := istr_size qbase (by omega); omega) (by omega)).mono ?_
  rintro e w2 ⟨er, rfl, her, hpost⟩
  rw [rm_ok HNF.out HNM.out (by omega) HFI.out] at her
  subst her
  obtain ⟨hne, -⟩ | ⟨-, cv, ht⟩ := hpost
  · exact absurd rfl hne
  have HT2 := Lib.hid ((LT.of_below HD.out HB1.out).trans (LT.disk HD1.out ht))
  clear ht c0
  have c0 := HT2.out.is.log.at.1
  go_wp2_with fail
  refine (dsync_calls L.d B (rmD D (fnm L.name qbase) cv) (fnm L.name qbase) w2 HT2.out.is.disk (by rw [fnm_size]; have := rightNm_size HNM.out; have := istr_size qbase (by omega); omega) (by
      have : fileOf (rmD D (fnm L.name qbase) cv).now (fnm L.name qbase) = [] := by
        unfold fileOf
        rw [show (rmD D (fnm L.name qbase) cv).now = mdel D.now (fnm L.name qbase) from rfl, mget_del_same _ _ HD1.out.disk.know]
        rfl
      rw [this]; simp) (by show (D.chg ++ [_]).length ≤ _; rw [List.length_append]; simp; omega)).mono ?_
  rintro e w3 ⟨er, rfl, her, hpost⟩
  rw [rmsy_ok cv HNF.out HNM.out (by omega)] at her
  subst her
  obtain ⟨hne, -⟩ | ⟨-, cv2, v2, ht⟩ := hpost
  · exact absurd rfl hne
  have HT3 := Lib.hid (HT2.out.trans (LT.disk HT2.out.is ht))
  clear ht c0
  obtain ⟨-, -, -, c3, -⟩ := HT3.out.is.log.at
  have z3 := HT3.out.is.log.frz 3
  rw [HSV.out] at c3
  obtain ⟨m, hm⟩ : ∃ m, L.segs.length = m + 1 := ⟨L.segs.length - 1, by omega⟩
  have HM := Lib.hid hm
  rw [hm] at c3
  have q1 := i64w (n := (i : Int) + 1) (by omega) (by omega)
  have q2 := w64 (n := (i : Int) + 1) (by omega) (by omega)
  go_wp2_with fail
  refine (del_calls sb scap m i B (L.segs.map Seg.ptr) w3 (by have := HT3.out.is.log.row; rw [HSV.out, HM.out] at this; exact this) (by
    intro u hu
    obtain ⟨t, -, rfl⟩ := List.mem_map.1 hu
    rfl) (by omega) (by omega)).mono ?_
  rintro e w4 ⟨rfl, ho4, hg4⟩
  have hrb := ownsRow_only HT3.out.is.log.box (Only.of_grown hg4) (fun j hj e => by
    simp only [Value.ownBlock, Option.some.injEq] at hj e
    subst hj
    subst e
    have h1 := own_ty HT3.out.is.log.row (j := sb) (by rw [HSV.out]; rfl)
    exact absurd (h1.eq (own_ty HT3.out.is.log.box (j := sb) rfl)) (by decide))
  have l3 : w4.cell? ⟨l, 3, none⟩ = some (.slice (some ⟨sb, 0, none⟩) (m + 1) scap) := by
    have e := World.ownsRow.cells hrb (g := l) rfl 3 _ rfl
    rw [add_off, Nat.zero_add] at e
    rw [← HM.out, ← HSV.out]
    exact e
  have z3 : w4.frozen? ⟨l, 3, none⟩ = false := World.ownsRow.frozenAt hrb 3
  have HF := Lib.hid (LT.dropSeg (i := i) (sv2 := .slice (some ⟨sb, 0, none⟩) m scap) HT3.out (by
    have e1 : (L.segs.eraseIdx i).length = m := by rw [List.length_eraseIdx_of_lt hil]; omega
    have e2 : (L.segs.eraseIdx i).map Seg.ptr = (L.segs.map Seg.ptr).take i ++ (L.segs.map Seg.ptr).drop (i + 1) := by
      rw [List.eraseIdx_eq_take_drop_succ, List.map_append, List.map_take, List.map_drop]
    rw [e1, e2]
    exact ho4) (by rw [HSV.out]; exact hg4) (fun j hj => .inl (by rw [HSV.out]; exact hj)))
  clear ho4 hg4 hrb c3
  go_wp2_with fail
  go_ret
  exact ⟨rfl, _, cv, cv2, v2, HF.out⟩
end Go.Proofs.YthgmligpconhhaaGreatDoor

/- Layer 6: CutHead, walked; the calls of a nil log. -/
namespace Go.Proofs.YthgmligpconhhaaGreatDoor
open Go.RowKit Go.Shelf
set_option linter.unusedVariables false
set_option linter.unusedSimpArgs false
set_option maxRecDepth 100000

/-- The disk behind k drops of the first segment. -/
inductive Drops (L : Lg) (D : Dk) : Nat → Dk → Prop
  | zero : Drops L D 0 D
  | more {k : Nat} {D' : Dk} {s : Seg} (cv cv2 v : Value) : Drops L D k D' → L.segs[k]? = some s → Drops L D (k + 1) (syD (rmD D' (fnm L.name s.base) cv) (fnm L.name s.base) cv2 v)
theorem Drops.same {L : Lg} {D D' : Dk} {k : Nat} (h : Drops L D k D') : D'.room = D.room ∧ D'.fails = D.fails ∧ D'.chg.length ≤ D.chg.length + k ∧ ∀ nm, (∀ i s, i < k → L.segs[i]? = some s → nm ≠ fnm L.name s.base) → mget D'.now nm = mget D.now nm := by
  induction h with
  | zero => exact ⟨rfl, rfl, by omega, fun _ _ => rfl⟩
  | @more k D' s cv cv2 v _ hs ih =>
    refine ⟨ih.1, ih.2.1, ?_, fun nm hnm => ?_⟩
    · refine Nat.le_trans (List.length_filter_le _ _) ?_
      show (D'.chg ++ [_]).length ≤ _
      rw [List.length_append]
      simp only [List.length_singleton]
      have := ih.2.2.1
      omega
    · rw [← ih.2.2.2 nm (fun i t hi ht => hnm i t (by omega) ht)]
      show mget (mdel D'.now (fnm L.name s.base)) nm = mget D'.now nm
      exact mget_del_other (hnm k s (by omega) hs) _

theorem clean_at {k n : Nat} {l : List Seg} {s : Seg} (h : (clean n l)[k]? = some s) (hn : l.length ≤ n) : ∃ t, l[k]? = some t ∧ s.b = t.b ∧ s.base = t.base ∧ s.ev = t.ev ∧ s.evs = t.evs ∧ s.size = t.size := by
  unfold clean at h
  rw [List.drop_eq_nil_of_le hn, List.append_nil, List.take_of_length_le hn, List.getElem?_map] at h
  cases ht : l[k]? with
  | none => rw [ht] at h; cases h
  | some t =>
    rw [ht] at h
    simp only [Option.map, Option.some.injEq] at h
    subst h
    exact ⟨t, rfl, rfl, rfl, rfl, rfl, rfl⟩
/-- The log behind Sync and k drops. -/
def Lg.cut (L : Lg) (k : Nat) (sv : Value) : Lg := { L with sv := sv, segs := (clean L.segs.length L.segs).drop k }

theorem lsync_nil (w : World) : Calls Tryz.prog 49 #[.pointer none] w fun e w' => e = .returned (.int .i64 9) ∧ w' = w := by
  go_enter Tryz.func49, Tryz.ntmps49
  go_wp2_with fail
  refine (lready_nil w).mono ?_
  rintro e w0 ⟨rfl, rfl⟩
  go_wp2_with fail
  go_ret
  exact ⟨rfl, rfl⟩
theorem lappend_nil (w : World) (v : Value) : Calls Tryz.prog 48 #[.pointer none, v] w fun e w' => e = .returned (.tuple #[.int .i64 0, .int .i64 9]) ∧ w' = w := by
  go_enter Tryz.func48, Tryz.ntmps48
  go_wp2_with fail
  refine (lready_nil w).mono ?_
  rintro e w0 ⟨rfl, rfl⟩
  go_wp2_with fail
  go_ret2
  exact ⟨rfl, rfl⟩

/-- How long the log's row is, as its cell tells. -/
def lenAt (w : World) (l : Nat) : Nat := match w.cell? ⟨l, 3, none⟩ with | some (.slice _ n _) => n | _ => 0
theorem lenAt_is {w : World} {B l : Nat} {L : Lg} (h : LogAt w B l L) : lenAt w l = L.segs.length := by
  obtain ⟨a, c, e⟩ := own_slice h.row
  unfold lenAt
  rw [h.at.2.2.2.1, e]
def CutPost (B l : Nat) (L : Lg) (D : Dk) (at_ : Int) (w w' : World) : Prop := ∃ k sv Ds D', Sy L D L.segs.length Ds ∧ Drops L Ds k D' ∧ LT w w' B l L D (L.cut k sv) D' ∧
  (L.segs = [] ∨ k < L.segs.length) ∧ (∀ i s, i < k → L.segs[i]? = some s → (s.base + s.evs.length : Int) ≤ at_) ∧ (L.segs.length ≤ k + 1 ∨ ∃ s, L.segs[k]? = some s ∧ at_ < (s.base + s.evs.length : Int))
end Go.Proofs.YthgmligpconhhaaGreatDoor

/- Layer 6: Open on a disk without files, walked. -/
namespace Go.Proofs.YthgmligpconhhaaGreatDoor
open Go.RowKit Go.Shelf
set_option linter.unusedVariables false
set_option linter.unusedSimpArgs false
set_option maxRecDepth 100000

def lowC (c : UInt8) : Bool := 97 ≤ c && c ≤ 122
theorem lowC_int (xs : List UInt8) (k : Nat) (h : k < xs.length) : lowC xs[k] = !(decide (bt xs k < 97) || decide (122 < bt xs k)) := by
  have hb : bt xs k = ((xs[k].toNat : Nat) : Int) := by unfold bt; simp [h]
  rw [hb]
  have : ∀ c : Fin 256, lowC (UInt8.ofNat c.val) = !(decide ((c.val : Int) < 97) || decide (122 < (c.val : Int))) := by decide +kernel
  have h2 := this ⟨xs[k].toNat, xs[k].toNat_lt⟩
  simpa using h2
set_option maxHeartbeats 2000000 in
theorem lright_calls (s : ByteArray) (w : World) (hs : s.size ≤ 140737488355328) :
    Calls Tryz.prog 31 #[.string s] w fun e w' => e = .returned (.bool (rightNm s.data.toList)) ∧ Below w.heap.size w w' := by
  obtain ⟨w1, cap, hcv, hb1, hby⟩ := conv_str s w (by omega)
  have hl : s.data.toList.length = s.size := by rw [Array.length_toList]; rfl
  have HB1 := Lib.hid hb1
  have HBY := Lib.hid hby
  have HL := Lib.hid hl
  generalize hX : s.data.toList = xs at *
  have HX := Lib.hid hX
  clear hX hb1 hby hl
  go_enter Tryz.func31, Tryz.ntmps31
  go_wp2_with fail
  go_loopw [4, 8] (fun _ iv wr => ∃ k : Nat, k ≤ s.size ∧ iv = .int .i64 k ∧ (xs.take k).all lowC = true ∧ wr = w1) (fun _ iv _ => s.size - (intOf iv).toNat)
  case atStart => exact ⟨0, by omega, rfl, by simp, rfl⟩
  case round =>
    obtain ⟨k, hk, rfl, hall, rfl⟩ := hrel
    have HALL := Lib.hid hall
    clear hall
    by_cases hlt : k < s.size
    · have hlt' : k < xs.length := by rw [HL.out]; exact hlt
      obtain ⟨a, c2, he, hle, hcap, hc⟩ := HBY.out
      simp only [Value.slice.injEq] at he
      obtain ⟨rfl, -, rfl⟩ := he
      rcases hc with hc | ⟨b, off, hab, hc⟩
      · omega
      simp only [Option.some.injEq, Addr.mk.injEq, and_true] at hab
      obtain ⟨rfl, rfl⟩ := hab
      have c0 := hc k hlt'
      rw [Nat.zero_add] at c0
      have hok := lowC_int xs k hlt'
      have HNX := Lib.hid (show (xs.take (k + 1)).all lowC = lowC xs[k] from by
        rw [List.take_succ_eq_append_getElem hlt', List.all_append, HALL.out]; simp)
      have HNO := Lib.hid (show lowC xs[k] = false → xs.all lowC = false from fun h => by
        rw [Bool.eq_false_iff]; intro h2; rw [List.all_eq_true] at h2; have := h2 _ (List.getElem_mem hlt'); rw [h] at this; cases this)
      generalize bt xs k = c at *
      generalize lowC xs[k] = ok at *
      obtain ⟨b1, h1⟩ : ∃ b, decide (c < 97) = b := ⟨_, rfl⟩
      obtain ⟨b2, h2⟩ : ∃ b, decide (122 < c) = b := ⟨_, rfl⟩
      rw [h1, h2] at hok
      have HOK := Lib.hid hok
      clear hok hc hle hcap
      cases b1 <;> cases b2
      all_goals
        first
        | (have e := HOK.out
           simp only [Bool.or_true, Bool.or_false, Bool.true_and, Bool.and_true, Bool.false_and, Bool.and_false, Bool.not_true, Bool.not_false] at e
           subst e
           clear HOK
           go_wp2_with fail
           go_roundw
           case rel => exact ⟨k + 1, by omega, by go_num, HNX.out, (by trivial)⟩
           case measure => simp [intOf]; omega)
        | (have e := HOK.out
           simp only [Bool.or_true, Bool.or_false, Bool.true_and, Bool.and_true, Bool.false_and, Bool.and_false, Bool.not_true, Bool.not_false] at e
           subst e
           clear HOK
           go_wp2_with fail
           go_ret
           refine ⟨?_, HB1.out⟩
           have h9 := HNO.out (by trivial)
           unfold lowC at h9
           unfold rightNm
           rw [h9, Bool.and_false]
           rfl)
    · obtain rfl : k = s.size := by omega
      have HG := Lib.hid (show rightNm xs = (decide ((1 : Int) ≤ (s.size : Int)) && decide ((s.size : Int) ≤ 12)) from by
        have h := HALL.out
        rw [← HL.out, List.take_length] at h
        unfold lowC at h
        unfold rightNm
        rw [h, HL.out, Bool.and_true]
        congr 1
        · rw [Bool.eq_iff_iff]; simp; omega
        · rw [Bool.eq_iff_iff]; simp; omega)
      by_cases hg1 : 1 ≤ s.size
      · have d1 : decide ((1 : Int) ≤ (s.size : Int)) = true := decide_eq_true (by omega)
        go_wp2_with fail
        go_ret
        exact ⟨by rw [HG.out, d1]; rfl, HB1.out⟩
      · have d1 : decide ((1 : Int) ≤ (s.size : Int)) = false := decide_eq_false (by omega)
        go_wp2_with fail
        go_ret
        exact ⟨by rw [HG.out, d1]; rfl, HB1.out⟩

/-! ### Sorting nothing -/
theorem inss_nil (w : World) (v : Value) : Calls Tryz.prog 103 #[v, .int .i64 0, .int .i64 0] w fun e w' => (∃ v, e = .returned v) ∧ w' = w := by
  go_enter Tryz.func103, Tryz.ntmps103
  go_wp2_with fail
  go_loopw [6, 7] (fun iv _ wr => iv = .int .i64 1 ∧ wr = w) (fun _ _ _ => 0)
  case atStart => exact ⟨rfl, rfl⟩
  case round =>
    obtain ⟨rfl, rfl⟩ := hrel
    go_wp2_with fail
    go_end0
    exact ⟨⟨_, rfl⟩, rfl⟩
theorem insf_nil (w : World) (v f : Value) : Calls Tryz.prog 83 #[v, .int .i64 0, .int .i64 0, f] w fun e w' => (∃ v, e = .returned v) ∧ w' = w := by
  go_enter Tryz.func83, Tryz.ntmps83
  go_wp2_with fail
  go_loopw [8, 9] (fun iv _ wr => iv = .int .i64 1 ∧ wr = w) (fun _ _ _ => 0)
  case atStart => exact ⟨rfl, rfl⟩
  case round =>
    obtain ⟨rfl, rfl⟩ := hrel
    go_wp2_with fail
    go_end0
    exact ⟨⟨_, rfl⟩, rfl⟩
theorem pdqs_nil (w : World) (v lim : Value) : Calls Tryz.prog 76 #[v, .int .i64 0, .int .i64 0, lim] w fun e w' => (∃ v, e = .returned v) ∧ w' = w := by
  go_enter Tryz.func76, Tryz.ntmps76
  go_wp2_with fail
  go_loopw [1, 2, 3, 8, 9, 10, 11, 12, 13, 14, 15, 16, 17, 18] (fun a b _ _ _ _ _ _ _ _ _ _ _ _ wr => a = .int .i64 0 ∧ b = .int .i64 0 ∧ wr = w) (fun _ _ _ _ _ _ _ _ _ _ _ _ _ _ _ => 0)
  case atStart => exact ⟨rfl, rfl, rfl⟩
  case round =>
    obtain ⟨rfl, rfl, rfl⟩ := hrel
    go_wp2_with fail
    refine (inss_nil _ v).mono ?_
    rintro e w2 ⟨⟨v', rfl⟩, rfl⟩
    go_wp2_with fail
    ((try simp only [Exit.inBlock, Exit.then]); refine bodyPost_ret (results_none rfl _ _ _) rfl ?_)
    exact ⟨⟨_, rfl⟩, rfl⟩
theorem pdqf_nil (w : World) (v lim f : Value) : Calls Tryz.prog 58 #[v, .int .i64 0, .int .i64 0, lim, f] w fun e w' => (∃ v, e = .returned v) ∧ w' = w := by
  go_enter Tryz.func58, Tryz.ntmps58
  go_wp2_with fail
  go_loopw [1, 2, 3, 10, 11, 12, 13, 14, 15, 16, 17, 18, 19, 20] (fun a b _ _ _ _ _ _ _ _ _ _ _ _ wr => a = .int .i64 0 ∧ b = .int .i64 0 ∧ wr = w) (fun _ _ _ _ _ _ _ _ _ _ _ _ _ _ _ => 0)
  case atStart => exact ⟨rfl, rfl, rfl⟩
  case round =>
    obtain ⟨rfl, rfl, rfl⟩ := hrel
    go_wp2_with fail
    refine (insf_nil _ v f).mono ?_
    rintro e w2 ⟨⟨v', rfl⟩, rfl⟩
    go_wp2_with fail
    ((try simp only [Exit.inBlock, Exit.then]); refine bodyPost_ret (results_none rfl _ _ _) rfl ?_)
    exact ⟨⟨_, rfl⟩, rfl⟩
theorem sorts_nil (w : World) : Calls Tryz.prog 52 #[.slice none 0 0] w fun e w' => (∃ v, e = .returned v) ∧ w' = w := by
  go_enter Tryz.func52, Tryz.ntmps52
  go_wp2_with fail
  refine (Any.bits_Len Tryz.lays125 0 w (by omega) (by omega)).mono ?_
  rintro e w1 ⟨rfl, rfl⟩
  go_wp2_with fail
  refine (pdqs_nil _ _ _).mono ?_
  rintro e w2 ⟨⟨v', rfl⟩, rfl⟩
  go_wp2_with fail
  go_end0
  exact ⟨⟨_, rfl⟩, rfl⟩
theorem sortf_nil (w : World) (f : Value) : Calls Tryz.prog 36 #[.slice none 0 0, f] w fun e w' => (∃ v, e = .returned v) ∧ w' = w := by
  go_enter Tryz.func36, Tryz.ntmps36
  go_wp2_with fail
  refine (Any.bits_Len Tryz.lays125 0 w (by omega) (by omega)).mono ?_
  rintro e w1 ⟨rfl, rfl⟩
  go_wp2_with fail
  refine (pdqf_nil _ _ _ _).mono ?_
  rintro e w2 ⟨⟨v', rfl⟩, rfl⟩
  go_wp2_with fail
  go_end0
  exact ⟨⟨_, rfl⟩, rfl⟩
set_option maxHeartbeats 1000000 in
theorem names_none (d B : Nat) (D : Dk) (w : World) (h : DiskAt w B d D) (h0 : D.now = []) : Calls Tryz.prog 32 #[.pointer (some ⟨d, 0, none⟩)] w fun e w' => e = .returned (.slice none 0 0) ∧ Below w.heap.size w w' := by
  obtain ⟨-, -, c2, -⟩ := h.cells
  obtain ⟨w1, hr1, hrg, hb1, hs1⟩ := h.nowM.range (P := Tryz.prog) (t := 51) Tryz.underlying51
  have HRG := Lib.hid hrg
  have HB1 := Lib.hid hb1
  have H0 := Lib.hid h0
  clear h hrg hb1 h0
  go_enter Tryz.func32, Tryz.ntmps32
  go_wp2_with fail
  go_loopw [3, 4] (fun v _ wr => v = .slice none 0 0 ∧ wr = w1) (fun _ _ _ => 0)
  case atStart => exact ⟨rfl, rfl⟩
  case round =>
    obtain ⟨rfl, rfl⟩ := hrel
    rcases HRG.out.next (P := Tryz.prog) 0 with ⟨hnil, hrun⟩ | ⟨j, p, w2, hj, -⟩
    · have hrun' : ∀ ty, (Instr.next (.pointer (some ⟨w.heap.size, 0, none⟩)) false ty).run Tryz.prog wr = .ok (.tuple #[.bool false]) wr := fun ty => hrun
      clear hnil hrun
      go_wp2_with fail
      refine (sorts_nil _).mono ?_
      rintro e w3 ⟨⟨v', rfl⟩, rfl⟩
      go_wp2_with fail
      go_ret
      exact ⟨rfl, HB1.out⟩
    · rw [H0.out] at hj
      simp [Files.ents, mmap] at hj

def newL (d : Nat) (nm : ByteArray) (room : Int) : Lg := ⟨d, nm, room, .slice none 0 0, [], false⟩
theorem lopen_nil (nm : ByteArray) (room : Int) (w : World) : Calls Tryz.prog 18 #[.pointer none, .string nm, .int .i64 room] w fun e w' => e = .returned (.tuple #[.pointer none, .int .i64 9]) ∧ w' = w := by
  go_enter Tryz.func18, Tryz.ntmps18
  go_wp2_with fail
  go_ret2
  exact ⟨rfl, rfl⟩
set_option maxHeartbeats 2000000 in
theorem lopen_new (d B : Nat) (D : Dk) (nm : ByteArray) (room : Int) (w : World) (h : DiskAt w B d D) (h0 : D.now = []) (hB : B ≤ w.heap.size) (hn : rightNm nm.data.toList = true) (hr : 1 ≤ room ∧ room ≤ 1048576) :
    Calls Tryz.prog 18 #[.pointer (some ⟨d, 0, none⟩), .string nm, .int .i64 room] w fun e w' => ∃ l, e = .returned (.tuple #[.pointer (some ⟨l, 0, none⟩), .int .i64 0]) ∧ w.heap.size ≤ l ∧ LogAt w' B l (newL d nm room) ∧ Below w.heap.size w w' := by
  have hns := rightNm_size hn
  have HR := Lib.hid (lright_calls nm w (by omega))
  have HN := Lib.hid hn
  have HD := Lib.hid h
  have H0 := Lib.hid h0
  have d1 : decide (room < 1) = false := decide_eq_false (by omega)
  have d2 : decide (1048576 < room) = false := decide_eq_false (by omega)
  clear h h0 hn
  go_enter Tryz.func18, Tryz.ntmps18
  go_wp2_with fail
  refine HR.out.mono ?_
  rintro e w1 ⟨rfl, hb1⟩
  rw [HN.out]
  have HB1 := Lib.hid hb1
  obtain ⟨U, hU⟩ : ∃ U, U = w1.alloc (.cells #[.pointer (some ⟨d, 0, none⟩), .string nm, .int .i64 room, .slice none 0 0, .bool false] 86) := ⟨_, rfl⟩
  have hal := below_alloc w1 (.cells #[.pointer (some ⟨d, 0, none⟩), .string nm, .int .i64 room, .slice none 0 0, .bool false] 86)
  have hsz := hb1.size
  have HLU := Lib.hid (show LogAt U B w1.heap.size (newL d nm room) from by
    rw [hU]
    refine ⟨World.ownsRow_lit w1 _ 1 (by omega) (by unfold maxLen; omega) rfl, World.ownsRow_nil _ _ _ _, (fun s hs => by cases hs), (fun i j s t hs => by simp [newL] at hs)⟩)
  have HBU := Lib.hid (show Below w.heap.size w U by rw [hU]; exact hb1.trans (hal.mono hsz))
  have HDU := Lib.hid (show DiskAt U B d D from HD.out.below HBU.out)
  clear hb1 hal
  go_upto_region 6 with fail
  rw [← hU]
  clear hU
  generalize w1.heap.size = l at *
  go_wp2_with fail
  refine (names_none d B D U HDU.out H0.out).mono ?_
  rintro e w2 ⟨rfl, hb2⟩
  have HL2 := Lib.hid (HLU.out.below hb2)
  have HB2 := Lib.hid (HBU.out.trans (hb2.mono HBU.out.size))
  clear hb2
  have c3 := HL2.out.at.2.2.2.1
  simp only [newL] at c3
  go_wp2_with fail
  go_loopw [10, 11, 12, 13, 14, 15, 44] (fun _ _ _ _ _ _ iv wr => iv = .int .i64 0 ∧ wr = w2) (fun _ _ _ _ _ _ _ _ => 0)
  case atStart => exact ⟨rfl, rfl⟩
  case round =>
    obtain ⟨rfl, rfl⟩ := hrel
    go_wp2_with fail
    refine (sortf_nil _ _).mono ?_
    rintro e w3 ⟨⟨v', rfl⟩, rfl⟩
    go_wp2_with fail
    go_loopw [16, 17, 18, 98] (fun kv _ _ iv wr => kv = .int .i64 0 ∧ iv = .int .i64 0 ∧ wr = w3) (fun _ _ _ _ _ => 0)
    case atStart => exact ⟨rfl, rfl, rfl⟩
    case round =>
      obtain ⟨rfl, rfl, rfl⟩ := hrel
      go_wp2_with fail
      go_loopw [19] (fun _ wr2 => wr2 = wr) (fun _ _ => 0)
      case atStart => exact rfl
      case round =>
        subst hrel
        go_wp2_with fail
        go_ret2
        exact ⟨_, rfl, by omega, HL2.out, HB2.out⟩
end Go.Proofs.YthgmligpconhhaaGreatDoor

/- Layer 6: what the log holds, by its calls; no program walked. -/
namespace Go.Proofs.YthgmligpconhhaaGreatDoor
open Go.RowKit Go.Shelf
set_option linter.unusedVariables false
set_option linter.unusedSimpArgs false

def chainFrom : Nat → List Seg → Prop
  | _, [] => True
  | f, s :: r => s.base = f ∧ s.evs ≠ [] ∧ chainFrom (f + s.evs.length) r
def entsOf (l : List Seg) : List (List UInt8) := l.flatMap (fun s => s.evs.map Prod.snd)
theorem entsOf_app (a b : List Seg) : entsOf (a ++ b) = entsOf a ++ entsOf b := List.flatMap_append
theorem entsOf_one (s : Seg) : entsOf [s] = s.evs.map Prod.snd := by simp [entsOf]
theorem entsOf_cons (s : Seg) (l : List Seg) : entsOf (s :: l) = s.evs.map Prod.snd ++ entsOf l := by simp [entsOf]
theorem chain_app : ∀ (f : Nat) (a b : List Seg), chainFrom f (a ++ b) ↔ chainFrom f a ∧ chainFrom (f + (entsOf a).length) b
  | f, [], b => by simp [chainFrom, entsOf]
  | f, s :: a, b => by
    have e1 : chainFrom f (s :: (a ++ b)) = (s.base = f ∧ s.evs ≠ [] ∧ chainFrom (f + s.evs.length) (a ++ b)) := rfl
    have e2 : chainFrom f (s :: a) = (s.base = f ∧ s.evs ≠ [] ∧ chainFrom (f + s.evs.length) a) := rfl
    rw [List.cons_append, e1, e2, chain_app (f + s.evs.length) a b, entsOf_cons, List.length_append, List.length_map, ← Nat.add_assoc]
    constructor
    · rintro ⟨h1, h2, h3, h4⟩; exact ⟨⟨h1, h2, h3⟩, h4⟩
    · rintro ⟨⟨h1, h2, h3⟩, h4⟩; exact ⟨h1, h2, h3, h4⟩
theorem chain_mem : ∀ {f : Nat} {l : List Seg}, chainFrom f l → ∀ t ∈ l, f ≤ t.base ∧ t.base + t.evs.length ≤ f + (entsOf l).length ∧ 0 < t.evs.length
  | f, [], _, t, ht => by cases ht
  | f, s :: r, h, t, ht => by
    obtain ⟨h1, h2, h3⟩ := h
    have hp := List.length_pos_iff.2 h2
    rw [entsOf_cons, List.length_append, List.length_map]
    rcases List.mem_cons.1 ht with rfl | ht
    · omega
    · have := chain_mem h3 t ht
      omega
theorem split_last {l : List Seg} {i : Nat} {s : Seg} (h : l.length = i + 1) (hs : l[i]? = some s) : ∃ a, l = a ++ [s] ∧ a.length = i := by
  refine ⟨l.take i, ?_, by rw [List.length_take]; omega⟩
  have hi : i < l.length := by omega
  have e := (List.getElem?_eq_some_iff.1 hs).2
  conv => lhs; rw [← List.take_append_drop i l, List.drop_eq_getElem_cons hi, e, List.drop_eq_nil_of_le (by omega)]
theorem usedOf_put {k : ByteArray} {v : Value} {xs : List UInt8} : ∀ {m : Files}, usedOf (mput m k (v, xs)) + (fileOf m k).length = usedOf m + xs.length
  | [] => by simp [mput, usedOf, fileOf, mget]
  | p :: m => by
    have ih := usedOf_put (k := k) (v := v) (xs := xs) (m := m)
    unfold mput fileOf mget
    unfold fileOf at ih
    have e : usedOf (p :: m) = p.2.2.length + usedOf m := by simp [usedOf]
    split
    · rw [e]
      simp [usedOf]
      omega
    · have e2 : usedOf (p :: mput m k (v, xs)) = p.2.2.length + usedOf (mput m k (v, xs)) := by simp [usedOf]
      rw [e, e2]
      omega
theorem usedOf_del {k : ByteArray} : ∀ {m : Files}, usedOf (mdel m k) ≤ usedOf m
  | [] => by simp [mdel]
  | p :: m => by
    have ih := usedOf_del (k := k) (m := m)
    have e : usedOf (p :: m) = p.2.2.length + usedOf m := by simp [usedOf]
    unfold mdel
    split
    · rw [e]; omega
    · have e2 : usedOf (p :: mdel m k) = p.2.2.length + usedOf (mdel m k) := by simp [usedOf]
      rw [e, e2]; omega
theorem fileOf_put_same {k : ByteArray} {v : Value} {xs : List UInt8} {m : Files} : fileOf (mput m k (v, xs)) k = xs := by
  unfold fileOf; rw [mget_put_same]; rfl
theorem fileOf_put_other {k k' : ByteArray} (h : k' ≠ k) {v : Value} {xs : List UInt8} {m : Files} : fileOf (mput m k (v, xs)) k' = fileOf m k' := by
  unfold fileOf; rw [mget_put_other h]
theorem fileOf_none {k : ByteArray} {m : Files} (h : mget m k = none) : fileOf m k = [] := by unfold fileOf; rw [h]; rfl

structure GL (L : Lg) (D : Dk) (f : Nat) (E : List (List UInt8)) : Prop where
  open_ : L.broken = false
  nofail : D.fails = false
  nm : rightNm L.name.data.toList = true
  start : L.segs = [] → f = 0
  chain : chainFrom f L.segs
  ents : entsOf L.segs = E
  room : 0 ≤ L.room ∧ L.room ≤ 4294967296
  file : ∀ s ∈ L.segs, (mget D.now (fnm L.name s.base)).isSome = true ∧ (fileOf D.now (fnm L.name s.base)).length = s.size
  used : usedOf D.now ≤ (f + E.length) * 65548
  cost : D.chg.length + L.segs.length ≤ 2 * (f + E.length)
  small : ∀ s ∈ L.segs, ∀ x ∈ s.evs, x.2.length ≤ 65536
/-- No other of the log's files is there. -/
def Dom (L : Lg) (D : Dk) : Prop := ∀ b, (mget D.now (fnm L.name b)).isSome = true → ∃ s ∈ L.segs, s.base = b

theorem nextOf_app {L : Lg} {a : List Seg} {s : Seg} (h : L.segs = a ++ [s]) : nextOf L = s.base + s.evs.length := by
  unfold nextOf; rw [h, List.getLast?_concat]
theorem last_of {l : List Seg} (h : l ≠ []) : ∃ a s, l = a ++ [s] := ⟨l.dropLast, l.getLast h, (List.dropLast_concat_getLast h).symm⟩
theorem GL.next {L : Lg} {D : Dk} {f : Nat} {E : List (List UInt8)} (h : GL L D f E) : nextOf L = f + E.length := by
  by_cases hz : L.segs = []
  · have := h.start hz
    have e : E = [] := by rw [← h.ents, hz]; rfl
    unfold nextOf
    rw [hz, e, this]; rfl
  · obtain ⟨a, s, hs⟩ := last_of hz
    have hc := h.chain
    rw [hs, chain_app] at hc
    rw [nextOf_app hs, ← h.ents, hs, entsOf_app, entsOf_one, List.length_append, List.length_map, hc.2.1]
    omega
theorem GL.first {L : Lg} {D : Dk} {f : Nat} {E : List (List UInt8)} (h : GL L D f E) : firstOf L = f := by
  unfold firstOf
  have h1 := h.start
  have h2 := h.chain
  cases hs : L.segs with
  | nil => exact (h1 hs).symm
  | cons s r => rw [hs] at h2; exact h2.1
theorem GL.mem {L : Lg} {D : Dk} {f : Nat} {E : List (List UInt8)} (h : GL L D f E) : ∀ t ∈ L.segs, f ≤ t.base ∧ t.base + t.evs.length ≤ f + E.length ∧ 0 < t.evs.length := by
  rw [← h.ents]; exact chain_mem h.chain
theorem GL.dif {L : Lg} {D : Dk} {f : Nat} {E : List (List UInt8)} (h : GL L D f E) : ∀ (i j : Nat) (s t : Seg), L.segs[i]? = some s → L.segs[j]? = some t → i ≠ j → s.base ≠ t.base := by
  have key : ∀ (i j : Nat) (s t : Seg), L.segs[i]? = some s → L.segs[j]? = some t → i < j → s.base < t.base := fun i j s t hs ht hij => by
    have hj := (List.getElem?_eq_some_iff.1 ht).1
    have hc := h.chain
    rw [← List.take_append_drop j L.segs, chain_app] at hc
    have h1 := chain_mem hc.1 s (List.mem_of_getElem? (i := i) (by rw [List.getElem?_take, if_pos hij]; exact hs))
    have h2 := chain_mem hc.2 t (List.mem_of_getElem? (i := 0) (by rw [List.getElem?_drop, Nat.add_zero]; exact ht))
    omega
  intro i j s t hs ht hij
  rcases Nat.lt_or_gt_of_ne hij with hlt | hlt
  · have := key i j s t hs ht hlt; omega
  · have := key j i t s ht hs hlt; omega
theorem GL.sok {L : Lg} {D : Dk} {f : Nat} {E : List (List UInt8)} (h : GL L D f E) (hn : f + E.length ≤ 1000) : SOk L D where
  open_ := h.open_
  nofail := h.nofail
  nm := h.nm
  base := fun s hs => by have := h.mem s hs; omega
  file := fun s hs => ⟨(h.file s hs).1, by have := file_le D.now (fnm L.name s.base); have := h.used; have : (f + E.length) * 65548 ≤ 1000 * 65548 := Nat.mul_le_mul_right _ hn; omega⟩
  chg := by have := h.cost; omega
  segs := by have := h.cost; omega
theorem GL.aok {L : Lg} {D : Dk} {f n : Nat} {E : List (List UInt8)} (h : GL L D f E) (hd : Dom L D) (hn : f + E.length ≤ 1000) (hr : (usedOf D.now + (12 + n) : Int) ≤ D.room) (hrb : D.room ≤ 1073741824) : AOk L D n where
  open_ := h.open_
  nofail := h.nofail
  nm := h.nm
  nx := by rw [h.next]; omega
  base := fun s hs => by rw [h.next]; have := h.mem s hs; omega
  evs := fun s hs => by have := h.mem s hs; omega
  file := h.file
  new := by
    cases hm : mget D.now (fnm L.name (nextOf L)) with
    | none => rfl
    | some v =>
      obtain ⟨s, hs, hb⟩ := hd (nextOf L) (by rw [hm]; rfl)
      have := h.mem s hs
      rw [h.next] at hb
      omega
  room := by omega
  roomB := hrb
  chg := by have := h.cost; omega
  segs := by have := h.cost; omega
  lroom := h.room

theorem chain_last {f : Nat} {a : List Seg} {s s' : Seg} (h : chainFrom f (a ++ [s])) (hb : s'.base = s.base) (he : s'.evs ≠ []) : chainFrom f (a ++ [s']) := by
  rw [chain_app] at h ⊢
  exact ⟨h.1, by rw [hb]; exact h.2.1, he, trivial⟩
theorem wrt_end (xs ys : List UInt8) : wrt xs ys xs.length = xs ++ ys := by
  unfold wrt
  rw [List.take_length, List.drop_eq_nil_of_le (by omega), List.append_nil]
/-- Behind an Append in the last segment. -/
theorem GL.stay {L L' : Lg} {D D' : Dk} {f : Nat} {E : List (List UInt8)} {ys : List UInt8} (h : GL L D f E) (hy : ys.length ≤ 65536) (ha : AppStay L D ys L' D') : GL L' D' f (E ++ [ys]) ∧ (Dom L D → Dom L' D') ∧ D'.room = D.room := by
  obtain ⟨i, s, nv, dv, cv, ev, v, hl, hs, hsz, rfl, rfl⟩ := ha
  obtain ⟨a, hla, hai⟩ := split_last hl hs
  have hset : L.segs.set i { s with ev := ev, evs := s.evs ++ [(v, ys)], size := s.size + (12 + ys.length), dirty := true } = a ++ [{ s with ev := ev, evs := s.evs ++ [(v, ys)], size := s.size + (12 + ys.length), dirty := true }] := by
    rw [hla, List.set_append_right _ _ (by omega), hai, Nat.sub_self]; rfl
  have hmem : s ∈ L.segs := List.mem_of_getElem? hs
  have hfs := h.file s hmem
  have hc := h.chain
  rw [hla] at hc
  have hca := (chain_app _ _ _).1 hc
  have hE : E = entsOf a ++ s.evs.map Prod.snd := by rw [← h.ents, hla, entsOf_app, entsOf_one]
  have hne : ∀ t ∈ a, fnm L.name t.base ≠ fnm L.name s.base := fun t ht e => by
    have h1 := chain_mem hca.1 t ht
    have h2 : s.base = f + (entsOf a).length := hca.2.1
    have := fnm_inj e
    omega
  refine ⟨⟨h.open_, h.nofail, h.nm, fun e => ?_, ?_, ?_, h.room, fun t ht => ?_, ?_, ?_, fun t ht x hx => ?_⟩, fun hd b hb => ?_, rfl⟩
  · rw [hset] at e; simp at e
  · show chainFrom f (L.segs.set i _)
    rw [hset]
    exact chain_last hc rfl (by simp)
  · show entsOf (L.segs.set i _) = _
    rw [hset, entsOf_app, entsOf_one, hE]
    simp
  · have ht' : t ∈ L.segs.set i _ := ht
    rw [hset] at ht'
    show (mget (mput D.now (fnm L.name s.base) _) (fnm L.name t.base)).isSome = true ∧ (fileOf (mput D.now (fnm L.name s.base) _) (fnm L.name t.base)).length = t.size
    rcases List.mem_append.1 ht' with ht' | ht'
    · rw [mget_put_other (hne t ht'), fileOf_put_other (hne t ht')]
      exact h.file t (by rw [hla]; exact List.mem_append_left _ ht')
    · rw [List.mem_singleton.1 ht']
      simp only
      rw [mget_put_same, fileOf_put_same]
      refine ⟨rfl, ?_⟩
      rw [wrt_len (by omega), Fr.FrM.frameOf_length]
      omega
  · show usedOf (mput D.now (fnm L.name s.base) _) ≤ _
    have h1 := usedOf_put (k := fnm L.name s.base) (v := nv) (xs := wrt (fileOf D.now (fnm L.name s.base)) (Fr.FrM.frameOf ys) s.size) (m := D.now)
    have h2 : (wrt (fileOf D.now (fnm L.name s.base)) (Fr.FrM.frameOf ys) s.size).length = s.size + (12 + ys.length) := by
      rw [wrt_len (by omega), Fr.FrM.frameOf_length]; omega
    have h3 := h.used
    rw [List.length_append, List.length_singleton]
    have h4 : (f + (E.length + 1)) * 65548 = (f + E.length) * 65548 + 65548 := by omega
    omega
  · show (D.chg ++ [_]).length + (L.segs.set i _).length ≤ _
    have := h.cost
    rw [List.length_set, List.length_append, List.length_append, List.length_singleton, List.length_singleton]
    omega
  · have ht' : t ∈ L.segs.set i _ := ht
    rw [hset] at ht'
    rcases List.mem_append.1 ht' with ht' | ht'
    · exact h.small t (by rw [hla]; exact List.mem_append_left _ ht') x hx
    · rw [List.mem_singleton.1 ht'] at hx
      rcases List.mem_append.1 hx with hx | hx
      · exact h.small s hmem x hx
      · rw [List.mem_singleton.1 hx]; exact hy
  · have hb' : (mget (mput D.now (fnm L.name s.base) _) (fnm L.name b)).isSome = true := hb
    show ∃ t ∈ L.segs.set i _, t.base = b
    rw [hset]
    by_cases e : b = s.base
    · exact ⟨_, List.mem_append_right _ (List.mem_singleton_self _), e.symm⟩
    · rw [mget_put_other (fun e2 => e (fnm_inj e2))] at hb'
      obtain ⟨t, ht, htb⟩ := hd b hb'
      rw [hla] at ht
      rcases List.mem_append.1 ht with ht | ht
      · exact ⟨t, List.mem_append_left _ ht, htb⟩
      · rw [List.mem_singleton.1 ht] at htb
        exact absurd htb.symm e

/-- The same log but for what is dirty, on a disk with the same files. -/
theorem GL.like {L L' : Lg} {D D' : Dk} {f : Nat} {E : List (List UInt8)} (h : GL L D f E) (hL : L'.broken = L.broken ∧ L'.name = L.name ∧ L'.room = L.room) (hs : L'.segs.map (fun s => { s with dirty := false }) = L.segs.map (fun s => { s with dirty := false })) (hD : D'.now = D.now ∧ D'.room = D.room ∧ D'.fails = D.fails ∧ D'.chg.length ≤ D.chg.length) : GL L' D' f E := by
  have hlen : L'.segs.length = L.segs.length := by have := congrArg List.length hs; simpa using this
  have hback : ∀ t ∈ L'.segs, ∃ s ∈ L.segs, t.base = s.base ∧ t.evs = s.evs ∧ t.size = s.size := fun t ht => by
    have : { t with dirty := false } ∈ L.segs.map (fun s => { s with dirty := false }) := by rw [← hs]; exact List.mem_map.2 ⟨t, ht, rfl⟩
    obtain ⟨s, hs', e⟩ := List.mem_map.1 this
    simp only [Seg.mk.injEq] at e
    exact ⟨s, hs', e.2.1.symm, e.2.2.2.1.symm, e.2.2.2.2.1.symm⟩
  have hents : ∀ l : List Seg, entsOf (l.map (fun s => { s with dirty := false })) = entsOf l := fun l => by
    unfold entsOf; rw [List.flatMap_map]
  have hch : ∀ (l : List Seg) (g : Nat), chainFrom g (l.map (fun s => { s with dirty := false })) ↔ chainFrom g l := by
    intro l
    induction l with
    | nil => intro g; exact Iff.rfl
    | cons a r ih =>
      intro g
      show (a.base = g ∧ a.evs ≠ [] ∧ chainFrom (g + a.evs.length) (r.map _)) ↔ (a.base = g ∧ a.evs ≠ [] ∧ chainFrom (g + a.evs.length) r)
      rw [ih]
  refine ⟨hL.1.trans h.open_, hD.2.2.1.trans h.nofail, by rw [hL.2.1]; exact h.nm, fun e => h.start ?_, ?_, ?_, by rw [hL.2.2]; exact h.room, fun t ht => ?_, by rw [hD.1]; exact h.used, by rw [hlen]; have := h.cost; have := hD.2.2.2; omega, fun t ht x hx => ?_⟩
  · rw [e] at hlen; exact List.eq_nil_of_length_eq_zero hlen.symm
  · rw [← hch, hs, hch]; exact h.chain
  · rw [← hents, hs, hents]; exact h.ents
  · obtain ⟨s, hsm, e1, -, e3⟩ := hback t ht
    rw [hL.2.1, hD.1, e1, e3]
    exact h.file s hsm
  · obtain ⟨s, hsm, -, e2, -⟩ := hback t ht
    rw [e2] at hx
    exact h.small s hsm x hx
end Go.Proofs.YthgmligpconhhaaGreatDoor

/- Layer 6: what the log holds, by its calls (on); no program walked. -/
namespace Go.Proofs.YthgmligpconhhaaGreatDoor
open Go.RowKit Go.Shelf
set_option linter.unusedVariables false
set_option linter.unusedSimpArgs false

abbrev cleanS (s : Seg) : Seg := { s with dirty := false }
theorem set_clean {l : List Seg} {i : Nat} {s : Seg} (h : l[i]? = some s) : (l.set i (cleanS s)).map cleanS = l.map cleanS := by
  have hi := (List.getElem?_eq_some_iff.1 h).1
  apply List.ext_getElem?
  intro k
  rw [List.getElem?_map, List.getElem?_map, List.getElem?_set]
  split
  · rename_i e
    subst e
    rw [h]
    rfl
  · rfl
theorem clean_map (k : Nat) (l : List Seg) : (clean k l).map cleanS = l.map cleanS := by
  unfold clean
  conv => rhs; rw [← List.take_append_drop k l, List.map_append]
  rw [List.map_append, List.map_map]
  rfl
theorem map_base {a b : List Seg} (h : a.map cleanS = b.map cleanS) {s : Seg} (hs : s ∈ b) : ∃ t ∈ a, t.base = s.base := by
  have : cleanS s ∈ a.map cleanS := by rw [h]; exact List.mem_map.2 ⟨s, hs, rfl⟩
  obtain ⟨t, ht, e⟩ := List.mem_map.1 this
  simp only [Seg.mk.injEq] at e
  exact ⟨t, ht, e.2.1⟩
theorem Dom.like {L L' : Lg} {D D' : Dk} (h : Dom L D) (hn : L'.name = L.name) (hs : L'.segs.map cleanS = L.segs.map cleanS) (hD : D'.now = D.now) : Dom L' D' := by
  intro b hb
  rw [hn, hD] at hb
  obtain ⟨s, hs', e⟩ := h b hb
  obtain ⟨t, ht, e2⟩ := map_base hs hs'
  exact ⟨t, ht, e2.trans e⟩
theorem fresh_like {L Ls : Lg} {D Ds : Dk} (h : Freshened L D Ls Ds) : (Ls.broken = L.broken ∧ Ls.name = L.name ∧ Ls.room = L.room) ∧ Ls.segs.map cleanS = L.segs.map cleanS ∧ (Ds.now = D.now ∧ Ds.room = D.room ∧ Ds.fails = D.fails ∧ Ds.chg.length ≤ D.chg.length) := by
  rcases h with ⟨-, rfl, rfl⟩ | ⟨i, s, hl, hs, -, ⟨-, rfl, rfl⟩ | ⟨-, cv, v, rfl, rfl⟩⟩
  · exact ⟨⟨rfl, rfl, rfl⟩, rfl, rfl, rfl, rfl, Nat.le_refl _⟩
  · exact ⟨⟨rfl, rfl, rfl⟩, rfl, rfl, rfl, rfl, Nat.le_refl _⟩
  · exact ⟨⟨rfl, rfl, rfl⟩, set_clean hs, rfl, rfl, rfl, List.length_filter_le _ _⟩

theorem GL.add {Ls L' : Lg} {Ds D' : Dk} {f b n : Nat} {E : List (List UInt8)} {ys : List UInt8} {nv dv cv sv ev v : Value} (h : GL Ls Ds f E) (hd : Dom Ls Ds) (hy : ys.length ≤ 65536) (hn : n = f + E.length) (hD : D' = wrD Ds (fnm Ls.name n) 0 (Fr.FrM.frameOf ys) nv dv cv)
    (hL : L' = { Ls with sv := sv, segs := Ls.segs ++ [⟨b, n, ev, [(v, ys)], 12 + ys.length, true⟩] }) : GL L' D' f (E ++ [ys]) ∧ Dom L' D' ∧ D'.room = Ds.room := by
  subst hD hL
  have hnone : mget Ds.now (fnm Ls.name n) = none := by
    cases hm : mget Ds.now (fnm Ls.name n) with
    | none => rfl
    | some x =>
      obtain ⟨s, hs, hb⟩ := hd n (by rw [hm]; rfl)
      have := h.mem s hs
      omega
  have hf0 := fileOf_none hnone
  have hw : wrt (fileOf Ds.now (fnm Ls.name n)) (Fr.FrM.frameOf ys) 0 = Fr.FrM.frameOf ys := by rw [hf0]; simp [wrt]
  have hne : ∀ t ∈ Ls.segs, fnm Ls.name t.base ≠ fnm Ls.name n := fun t ht e => by
    have h1 := h.mem t ht
    have := fnm_inj e
    omega
  refine ⟨⟨h.open_, h.nofail, h.nm, fun e => ?_, ?_, ?_, h.room, fun t ht => ?_, ?_, ?_, fun t ht x hx => ?_⟩, fun c hc => ?_, rfl⟩
  · simp at e
  · show chainFrom f (Ls.segs ++ [_])
    rw [chain_app]
    exact ⟨h.chain, by rw [h.ents]; exact hn, by simp, trivial⟩
  · show entsOf (Ls.segs ++ [_]) = _
    rw [entsOf_app, entsOf_one, h.ents]
    rfl
  · show (mget (mput Ds.now (fnm Ls.name n) _) (fnm Ls.name t.base)).isSome = true ∧ (fileOf (mput Ds.now (fnm Ls.name n) _) (fnm Ls.name t.base)).length = t.size
    rcases List.mem_append.1 ht with ht' | ht'
    · rw [mget_put_other (hne t ht'), fileOf_put_other (hne t ht')]
      exact h.file t ht'
    · rw [List.mem_singleton.1 ht']
      simp only
      rw [mget_put_same, fileOf_put_same, hw, Fr.FrM.frameOf_length]
      exact ⟨rfl, rfl⟩
  · show usedOf (mput Ds.now (fnm Ls.name n) _) ≤ _
    have h1 := usedOf_put (k := fnm Ls.name n) (v := nv) (xs := wrt (fileOf Ds.now (fnm Ls.name n)) (Fr.FrM.frameOf ys) 0) (m := Ds.now)
    rw [hf0] at h1
    have h2 : (wrt [] (Fr.FrM.frameOf ys) 0).length = 12 + ys.length := by rw [← hf0, hw, Fr.FrM.frameOf_length]
    have h3 := h.used
    rw [List.length_append, List.length_singleton, hf0]
    have h4 : (f + (E.length + 1)) * 65548 = (f + E.length) * 65548 + 65548 := by omega
    simp only [List.length_nil] at h1
    omega
  · show (Ds.chg ++ [_]).length + (Ls.segs ++ [_]).length ≤ _
    have := h.cost
    rw [List.length_append, List.length_append, List.length_append, List.length_singleton, List.length_singleton, List.length_singleton]
    omega
  · rcases List.mem_append.1 ht with ht' | ht'
    · exact h.small t ht' x hx
    · rw [List.mem_singleton.1 ht'] at hx
      rw [List.mem_singleton.1 hx]; exact hy
  · have hc' : (mget (mput Ds.now (fnm Ls.name n) _) (fnm Ls.name c)).isSome = true := hc
    show ∃ t ∈ Ls.segs ++ [_], t.base = c
    by_cases e : c = n
    · exact ⟨_, List.mem_append_right _ (List.mem_singleton_self _), e.symm⟩
    · rw [mget_put_other (fun e2 => e (fnm_inj e2))] at hc'
      obtain ⟨t, ht, htb⟩ := hd c hc'
      exact ⟨t, List.mem_append_left _ ht, htb⟩
/-- Behind an Append. -/
theorem GL.app {L L' : Lg} {D D' : Dk} {f : Nat} {E : List (List UInt8)} {ys : List UInt8} (h : GL L D f E) (hd : Dom L D) (hy : ys.length ≤ 65536) (ha : AppStay L D ys L' D' ∨ AppFresh L D ys L' D') : GL L' D' f (E ++ [ys]) ∧ Dom L' D' ∧ D'.room = D.room := by
  rcases ha with ha | ⟨Ls, Ds, b, nv, dv, cv, sv, ev, v, hfr, hD, hL⟩
  · obtain ⟨h1, h2, h3⟩ := h.stay hy ha
    exact ⟨h1, h2 hd, h3⟩
  · obtain ⟨h1, h2, h3⟩ := fresh_like hfr
    have hg := h.like h1 h2 h3
    have hD2 : D' = wrD Ds (fnm Ls.name (nextOf L)) 0 (Fr.FrM.frameOf ys) nv dv cv := by rw [h1.2.1]; exact hD
    obtain ⟨g1, g2, g3⟩ := hg.add (hd.like h1.2.1 h2 h3.1) hy h.next hD2 hL
    exact ⟨g1, g2, g3.trans h3.2.1⟩
/-- Behind a Sync. -/
theorem GL.sync {L : Lg} {D Ds : Dk} {f : Nat} {E : List (List UInt8)} (h : GL L D f E) {k : Nat} (hs : Sy L D k Ds) : GL { L with segs := clean k L.segs } Ds f E :=
  h.like ⟨rfl, rfl, rfl⟩ (clean_map k L.segs) hs.same

theorem Drops.used {L : Lg} {D D' : Dk} {k : Nat} (h : Drops L D k D') : usedOf D'.now ≤ usedOf D.now := by
  induction h with
  | zero => exact Nat.le_refl _
  | more cv cv2 v _ _ ih => exact Nat.le_trans usedOf_del ih
theorem readL {at_ : Nat} : ∀ {f : Nat} {l : List Seg}, chainFrom f l → f ≤ at_ → ((l.find? (Seg.has · (at_ : Int))).bind (fun s => s.evs[((at_ : Int) - s.base).toNat]?.map Prod.snd)) = (entsOf l)[at_ - f]?
  | f, [], _, _ => by simp [entsOf]
  | f, s :: r, h, ha => by
    obtain ⟨h1, h2, h3⟩ := h
    rw [entsOf_cons]
    by_cases hlt : at_ < f + s.evs.length
    · have hh : Seg.has s (at_ : Int) = true := by unfold Seg.has; simp; omega
      rw [show (s :: r).find? (Seg.has · (at_ : Int)) = some s from List.find?_cons_of_pos (p := fun x => Seg.has x (at_ : Int)) hh, List.getElem?_append_left (by rw [List.length_map]; omega), List.getElem?_map]
      show s.evs[((at_ : Int) - s.base).toNat]?.map Prod.snd = _
      rw [show ((at_ : Int) - s.base).toNat = at_ - f by omega]
    · have hh : Seg.has s (at_ : Int) = false := by unfold Seg.has; simp; omega
      rw [show (s :: r).find? (Seg.has · (at_ : Int)) = r.find? (Seg.has · (at_ : Int)) from List.find?_cons_of_neg (p := fun x => Seg.has x (at_ : Int)) (by rw [hh]; simp), readL h3 (by omega), List.getElem?_append_right (by rw [List.length_map]; omega), List.length_map]
      congr 1
      omega
theorem GL.read {L : Lg} {D : Dk} {f : Nat} {E : List (List UInt8)} (h : GL L D f E) {at_ : Nat} (ha : f ≤ at_) : readOf L (at_ : Int) = E[at_ - f]? := by
  rw [← h.ents]
  exact readL h.chain ha

/-- Behind a CutHead. -/
theorem GL.cut {L : Lg} {D : Dk} {f : Nat} {E : List (List UInt8)} {at_ : Nat} {B l : Nat} {w w' : World} (h : GL L D f E) (ha : f ≤ at_) (hc : CutPost B l L D at_ w w') :
    ∃ f' L' D', LT w w' B l L D L' D' ∧ GL L' D' f' (E.drop (f' - f)) ∧ f ≤ f' ∧ f' ≤ at_ ∧ f' + (E.drop (f' - f)).length = f + E.length ∧ L'.segs.length ≤ L.segs.length ∧ ∃ k, k < L.segs.length + 1 ∧ L'.segs.map (·.base) = (L.segs.map (·.base)).drop k := by
  obtain ⟨k, sv, Ds, D', hsy, hdr, hlt, hk, hle, -⟩ := hc
  have hg := h.sync hsy
  have hcl : (clean L.segs.length L.segs).length = L.segs.length := clean_len _ _
  obtain ⟨c, hcE⟩ : ∃ c, c = clean L.segs.length L.segs := ⟨_, rfl⟩
  rw [← hcE] at hg hcl
  have hkn : k ≤ L.segs.length := by
    rcases hk with hk | hk
    · cases hdr with
      | zero => omega
      | more cv cv2 v _ hs => rw [hk] at hs; simp at hs
    · omega
  have hch : chainFrom f (c.take k ++ c.drop k) := by rw [List.take_append_drop]; exact hg.chain
  rw [chain_app] at hch
  have hEE : E = entsOf (c.take k) ++ entsOf (c.drop k) := by rw [← entsOf_app, List.take_append_drop]; exact hg.ents.symm
  obtain ⟨p, hp⟩ : ∃ p, p = (entsOf (c.take k)).length := ⟨_, rfl⟩
  have hdrop : E.drop (f + p - f) = entsOf (c.drop k) := by
    rw [show f + p - f = p by omega, hEE, hp, List.drop_left]
  have hlen : p + (entsOf (c.drop k)).length = E.length := by rw [hEE, List.length_append, hp]
  have hat : f + p ≤ at_ := by
    cases k with
    | zero => simp [entsOf] at hp; omega
    | succ k =>
      have hkl : k < L.segs.length := by omega
      have hck : k < c.length := by omega
      have hgk : (clean L.segs.length L.segs)[k]? = some c[k] := by rw [← hcE]; exact List.getElem?_eq_getElem hck
      obtain ⟨t, ht, -, e2, -, e4, -⟩ := clean_at hgk (Nat.le_refl _)
      have h1 := hle k t (by omega) ht
      have h2 : c.take (k + 1) = c.take k ++ [c[k]] := List.take_succ_eq_append_getElem hck
      have h3 := hch.1
      rw [h2, chain_app] at h3
      have h4 : c[k].base = f + (entsOf (c.take k)).length := h3.2.1
      rw [h2, entsOf_app, entsOf_one, List.length_append, List.length_map] at hp
      rw [e2] at h4
      rw [e4] at hp
      omega
  refine ⟨f + p, L.cut k sv, D', hlt, ⟨h.open_, hdr.same.2.1.trans hg.nofail, h.nm, fun e => ?_, ?_, ?_, h.room, fun s hs => ?_, ?_, ?_, fun s hs x hx => ?_⟩, by omega, hat, by rw [hdrop]; omega, ?_, k, by omega, ?_⟩
  · have e' : (clean L.segs.length L.segs).drop k = [] := e
    rw [List.drop_eq_nil_iff, clean_len] at e'
    have hz : L.segs = [] := by
      rcases hk with hk | hk
      · exact hk
      · omega
    have h0 := h.start hz
    have : c = [] := List.eq_nil_of_length_eq_zero (by rw [hcl, hz]; rfl)
    rw [this] at hp
    simp [entsOf] at hp
    omega
  · show chainFrom (f + p) ((clean L.segs.length L.segs).drop k)
    rw [← hcE, hp]
    exact hch.2
  · show entsOf ((clean L.segs.length L.segs).drop k) = _
    rw [← hcE, hdrop]
  · have hs' : s ∈ (clean L.segs.length L.segs).drop k := hs
    rw [← hcE] at hs'
    have h1 := hg.file s (List.mem_of_mem_drop hs')
    have hmb := chain_mem hch.2 s hs'
    have hnow : mget D'.now (fnm L.name s.base) = mget Ds.now (fnm L.name s.base) := hdr.same.2.2.2 _ (fun i u hi hu e => by
      have hui : i < L.segs.length := (List.getElem?_eq_some_iff.1 hu).1
      have hci : i < c.length := by omega
      have hgi : (clean L.segs.length L.segs)[i]? = some c[i] := by rw [← hcE]; exact List.getElem?_eq_getElem hci
      obtain ⟨t, ht, -, e2, -, e4, -⟩ := clean_at hgi (Nat.le_refl _)
      have ht2 : t = u := by rw [ht] at hu; exact Option.some.inj hu
      have hmt : c[i] ∈ c.take k := List.mem_of_getElem? (i := i) (by rw [List.getElem?_take, if_pos hi]; exact List.getElem?_eq_getElem hci)
      have h5 := chain_mem hch.1 _ hmt
      have h6 := fnm_inj e
      rw [e2, ht2] at h5
      omega)
    have hfile : fileOf D'.now (fnm L.name s.base) = fileOf Ds.now (fnm L.name s.base) := by unfold fileOf; rw [hnow]
    show (mget D'.now (fnm L.name s.base)).isSome = true ∧ (fileOf D'.now (fnm L.name s.base)).length = s.size
    rw [hnow, hfile]
    exact h1
  · have h1 := hdr.used
    have h2 := hg.used
    rw [hdrop, Nat.add_assoc, hlen]
    omega
  · show D'.chg.length + ((clean L.segs.length L.segs).drop k).length ≤ _
    rw [List.length_drop, clean_len, hdrop]
    have h1 := hdr.same.2.2.1
    have h2 : Ds.chg.length + c.length ≤ 2 * (f + E.length) := hg.cost
    omega
  · have hs' : s ∈ (clean L.segs.length L.segs).drop k := hs
    rw [← hcE] at hs'
    exact hg.small s (List.mem_of_mem_drop hs') x hx
  · show ((clean L.segs.length L.segs).drop k).length ≤ _
    rw [List.length_drop, clean_len]
    omega
  · show ((clean L.segs.length L.segs).drop k).map (·.base) = _
    have e : (clean L.segs.length L.segs).map (·.base) = L.segs.map (·.base) := by
      have := congrArg (List.map (fun s : Seg => s.base)) (clean_map L.segs.length L.segs)
      rw [List.map_map, List.map_map] at this
      exact this
    rw [List.map_drop, e]
end Go.Proofs.YthgmligpconhhaaGreatDoor

/- Layer 6: the shape of a log; known, walked. -/
namespace Go.Proofs.YthgmligpconhhaaGreatDoor
open Go.RowKit Go.Shelf
set_option linter.unusedVariables false
set_option linter.unusedSimpArgs false
set_option maxRecDepth 100000

abbrev shp (s : Seg) : Nat × Nat × Nat := (s.base, s.evs.length, s.size)
def shapeOf (L : Lg) : List (Nat × Nat × Nat) := L.segs.map shp
def shapeStep (room : Int) (l : List (Nat × Nat × Nat)) (n : Nat) : List (Nat × Nat × Nat) :=
  match l.getLast? with
  | none => [(0, 1, 12 + n)]
  | some p => if (p.2.2 : Int) < room then l.dropLast ++ [(p.1, p.2.1 + 1, p.2.2 + (12 + n))] else l ++ [(p.1 + p.2.1, 1, 12 + n)]
theorem shape_clean {a b : List Seg} (h : a.map cleanS = b.map cleanS) : a.map shp = b.map shp := by
  have e : ∀ l : List Seg, l.map shp = (l.map cleanS).map shp := fun l => by rw [List.map_map]; rfl
  rw [e a, e b, h]
theorem app_shape {L L' : Lg} {D D' : Dk} {ys : List UInt8} (ha : AppStay L D ys L' D' ∨ AppFresh L D ys L' D') : shapeOf L' = shapeStep L.room (shapeOf L) ys.length ∧ L'.room = L.room ∧ L'.name = L.name ∧ L'.d = L.d := by
  rcases ha with ⟨i, s, nv, dv, cv, ev, v, hl, hs, hsz, rfl, rfl⟩ | ⟨Ls, Ds, b, nv, dv, cv, sv, ev, v, hfr, -, rfl⟩
  · obtain ⟨a, hla, hai⟩ := split_last hl hs
    refine ⟨?_, rfl, rfl, rfl⟩
    unfold shapeOf shapeStep
    simp only
    rw [hla, List.set_append_right _ _ (by omega), hai, Nat.sub_self, List.map_append, List.map_append]
    simp only [List.set_cons_zero, List.map_cons, List.map_nil, List.getLast?_concat, List.dropLast_concat]
    rw [if_pos hsz]
    simp
  · have hk : Ls.room = L.room ∧ Ls.name = L.name ∧ Ls.d = L.d := by
      rcases hfr with ⟨-, rfl, -⟩ | ⟨i, s, -, -, -, ⟨-, rfl, -⟩ | ⟨-, cv, v, rfl, -⟩⟩ <;> exact ⟨rfl, rfl, rfl⟩
    have hm := shape_clean (fresh_like hfr).2.1
    refine ⟨?_, hk.1, hk.2.1, hk.2.2⟩
    have hnx : nextOf L = match (L.segs.map shp).getLast? with | none => 0 | some p => p.1 + p.2.1 := by
      unfold nextOf
      rw [List.getLast?_map]
      cases L.segs.getLast? <;> rfl
    have hroom : ∀ p, (L.segs.map shp).getLast? = some p → L.room ≤ (p.2.2 : Int) := fun p hp => by
      rcases hfr with ⟨hz, -, -⟩ | ⟨i, s, hl, hs, hr, -⟩
      · rw [hz] at hp; cases hp
      · obtain ⟨a, hla, hai⟩ := split_last hl hs
        rw [hla, List.map_append] at hp
        simp only [List.map_cons, List.map_nil, List.getLast?_concat, Option.some.injEq] at hp
        rw [← hp]; exact hr
    unfold shapeOf shapeStep
    simp only [List.map_append, List.map_cons, List.map_nil]
    rw [hm]
    cases hg : (L.segs.map shp).getLast? with
    | none =>
      have hz : L.segs.map shp = [] := by
        rcases List.eq_nil_or_concat (L.segs.map shp) with e | ⟨a, b, e⟩
        · exact e
        · rw [e] at hg; simp at hg
      rw [hg] at hnx
      rw [hz, hnx]
      rfl
    | some p =>
      have := hroom p hg
      rw [hg] at hnx
      simp only
      rw [if_neg (by omega), hnx]
      rfl

theorem app_used {L L' : Lg} {D D' : Dk} {f : Nat} {E : List (List UInt8)} {ys : List UInt8} (h : GL L D f E) (ha : AppStay L D ys L' D' ∨ AppFresh L D ys L' D') : usedOf D'.now ≤ usedOf D.now + (12 + ys.length) := by
  rcases ha with ⟨i, s, nv, dv, cv, ev, v, hl, hs, hsz, rfl, -⟩ | ⟨Ls, Ds, b, nv, dv, cv, sv, ev, v, hfr, rfl, -⟩
  · have hf := h.file s (List.mem_of_getElem? hs)
    have h1 := usedOf_put (k := fnm L.name s.base) (v := nv) (xs := wrt (fileOf D.now (fnm L.name s.base)) (Fr.FrM.frameOf ys) s.size) (m := D.now)
    have h2 : (wrt (fileOf D.now (fnm L.name s.base)) (Fr.FrM.frameOf ys) s.size).length = s.size + (12 + ys.length) := by
      rw [wrt_len (by omega), Fr.FrM.frameOf_length]; omega
    show usedOf (mput D.now (fnm L.name s.base) _) ≤ _
    omega
  · have e := (fresh_like hfr).2.2.1
    have h1 := usedOf_put (k := fnm L.name (nextOf L)) (v := nv) (xs := wrt (fileOf Ds.now (fnm L.name (nextOf L))) (Fr.FrM.frameOf ys) 0) (m := Ds.now)
    have h2 : (wrt (fileOf Ds.now (fnm L.name (nextOf L))) (Fr.FrM.frameOf ys) 0).length = max (fileOf Ds.now (fnm L.name (nextOf L))).length (0 + (12 + ys.length)) := by
      rw [wrt_len (by omega), Fr.FrM.frameOf_length]
    show usedOf (mput Ds.now (fnm L.name (nextOf L)) _) ≤ _
    rw [e] at h1 h2 ⊢
    omega
set_option maxHeartbeats 2000000 in
theorem lappend_long (B l : Nat) (L : Lg) (D : Dk) (v : Value) (ys : List UInt8) (w : World) (h : LD w B l L D) (ho : L.broken = false) (hnx : nextOf L ≤ 1000000000) (hsl : L.segs.length ≤ 100000) (hv : Bytes w v ys) (hlen : ¬ ys.length ≤ 65536) :
    Calls Tryz.prog 48 #[.pointer (some ⟨l, 0, none⟩), v] w fun e w' => e = .returned (.tuple #[.int .i64 0, .int .i64 2]) ∧ Below w.heap.size w w' := by
  have HD := Lib.hid h
  have HV := Lib.hid hv
  obtain ⟨-, -, -, -, c4⟩ := h.log.at
  rw [ho] at c4
  obtain ⟨va, vc, rfl, -⟩ := hv
  clear h
  go_enter Tryz.func48, Tryz.ntmps48
  go_wp2_with fail
  refine (lready_calls l w c4).mono ?_
  rintro e w0 ⟨rfl, rfl⟩
  go_wp2_with fail
  refine (Fr.put_calls _ ys _ HV.out).mono ?_
  rintro e w1 ⟨fv, fc, rfl, hpo, hb1⟩
  unfold Fr.PutOut at hpo
  rw [if_neg hlen] at hpo
  obtain ⟨rfl, rfl⟩ := hpo
  have HB1 := Lib.hid hb1
  clear hb1 c4
  go_wp2_with fail
  refine (lnext_calls B l L w1 (HD.out.below HB1.out).log (by omega) (by omega)).mono ?_
  rintro e w2 ⟨rfl, hb2⟩
  have HB2 := Lib.hid (HB1.out.trans (hb2.mono HB1.out.size))
  clear hb2
  go_wp2_with fail
  go_ret2
  exact ⟨rfl, HB2.out⟩

/-- What Append leaves of a log that is as it should be. -/
def AppOut (w w' : World) (B l : Nat) (L : Lg) (D : Dk) (f : Nat) (E : List (List UInt8)) (ys : List UInt8) (e : Ending) : Prop :=
  (ys.length ≤ 65536 ∧ e = .returned (.tuple #[.int .i64 ((f + E.length : Nat) : Int), .int .i64 0]) ∧ ∃ L' D', LT w w' B l L D L' D' ∧ GL L' D' f (E ++ [ys]) ∧ Dom L' D' ∧ D'.room = D.room ∧ shapeOf L' = shapeStep L.room (shapeOf L) ys.length ∧ L'.room = L.room ∧ L'.name = L.name ∧ L'.d = L.d ∧ usedOf D'.now ≤ usedOf D.now + (12 + ys.length)) ∨
  (65536 < ys.length ∧ e = .returned (.tuple #[.int .i64 0, .int .i64 2]) ∧ Below w.heap.size w w')
theorem lapp_calls (B l : Nat) (L : Lg) (D : Dk) (f : Nat) (E : List (List UInt8)) (v : Value) (ys : List UInt8) (w : World) (h : LD w B l L D) (hg : GL L D f E) (hd : Dom L D) (hn : f + E.length ≤ 90) (hr : ys.length ≤ 65536 → (usedOf D.now + (12 + ys.length) : Int) ≤ D.room) (hrb : D.room ≤ 1073741824)
    (hv : Bytes w v ys) (hvF : ∀ a n c, v = .slice (some a) n c → 0 < ys.length → ¬ ldFoot l L D a.block) :
    Calls Tryz.prog 48 #[.pointer (some ⟨l, 0, none⟩), v] w fun e w' => AppOut w w' B l L D f E ys e := by
  by_cases hl : ys.length ≤ 65536
  · refine (lappend_calls B l L D v ys w h (hg.aok hd (by omega) (hr hl) hrb) hv hvF (fun n W hn2 _ => itoa_small (by rw [hg.next] at hn2; omega) W) hl).mono ?_
    rintro e w' ⟨rfl, L', D', ha, hlt⟩
    obtain ⟨h1, h2, h3⟩ := hg.app hd hl ha
    obtain ⟨h4, h5, h6, h7⟩ := app_shape ha
    exact .inl ⟨hl, by rw [hg.next], L', D', hlt, h1, h2, h3, h4, h5, h6, h7, app_used hg ha⟩
  · refine (lappend_long B l L D v ys w h hg.open_ (by rw [hg.next]; omega) (by have := hg.cost; omega) hv hl).mono ?_
    rintro e w' ⟨rfl, hb⟩
    exact .inr ⟨by omega, rfl, hb⟩

theorem GL.new (d : Nat) (nm : ByteArray) (room rm : Int) (n : Nat) (hn : rightNm nm.data.toList = true) (hr : 0 ≤ rm ∧ rm ≤ 4294967296) : GL (newL d nm rm) (newD room n) 0 [] ∧ Dom (newL d nm rm) (newD room n) := by
  refine ⟨⟨rfl, rfl, hn, fun _ => rfl, trivial, rfl, hr, (fun s hs => by cases hs), (by simp [newD, usedOf]), (by simp [newD, newL]), (fun s hs => by cases hs)⟩, (fun b hb => by cases hb)⟩

theorem lognm : rightNm (⟨#[108, 111, 103]⟩ : ByteArray).data.toList = true := by decide
theorem log2 : fnm (⟨#[108, 111, 103]⟩ : ByteArray) 2 = (⟨#[108, 111, 103, 45, 50]⟩ : ByteArray) := by decide +kernel
/-- A text that was made behind the log. -/
theorem txt_apart {w : World} {B l : Nat} {L : Lg} {D : Dk} {v : Value} {xs : List UInt8} (h : LD w B l L D) (hv : Txt w v xs) : ∀ a n c, v = .slice (some a) n c → ¬ ldFoot l L D a.block :=
  fun a n c e hf => h.foot_u8 hf (hv.2 a n c e)
theorem shape3 : shapeStep 20 (shapeStep 20 (shapeStep 20 [] 3) 1) 1 = [(0, 2, 28), (2, 1, 13)] := by decide
theorem Bytes.lit (w : World) (xs : List UInt8) (e : TypeId) (fr : Nat × Nat) (h : xs.length ≤ 9223372036854775807) : Bytes (w.alloc (.cells (bvs xs).toArray e fr)) (.slice (some ⟨w.heap.size, 0, none⟩) xs.length xs.length) xs := by
  refine ⟨_, _, rfl, Nat.le_refl _, h, .inr ⟨_, _, rfl, fun i hi => ?_⟩⟩
  rw [World.cell?_alloc_mark]
  simpa using bvs_get xs i hi
/-- Append of a text of the program's own. -/
theorem lapp_lit (B l : Nat) (L : Lg) (D : Dk) (E : List (List UInt8)) (xs : List UInt8) (fr : Nat × Nat) (w : World) (h : LD w B l L D) (hg : GL L D 0 E) (hd : Dom L D) (hn : E.length ≤ 3) (hx : xs.length ≤ 3) (hr : D.room = 1000) (hu : usedOf D.now + (12 + xs.length) ≤ 1000) :
    Calls Tryz.prog 48 #[.pointer (some ⟨l, 0, none⟩), .slice (some ⟨w.heap.size, 0, none⟩) xs.length xs.length] (w.alloc (.cells (bvs xs).toArray 5 fr)) fun e w' => e = .returned (.tuple #[.int .i64 (E.length : Int), .int .i64 0]) ∧
      ∃ L' D', LT w w' B l L D L' D' ∧ GL L' D' 0 (E ++ [xs]) ∧ Dom L' D' ∧ D'.room = 1000 ∧ shapeOf L' = shapeStep L.room (shapeOf L) xs.length ∧ L'.room = L.room ∧ L'.name = L.name ∧ L'.d = L.d ∧ usedOf D'.now ≤ usedOf D.now + (12 + xs.length) := by
  have hal := below_alloc w (.cells (bvs xs).toArray 5 fr)
  refine (lapp_calls B l L D 0 E _ xs _ (h.below hal) hg hd (by omega) (fun _ => by omega) (by omega) (Bytes.lit w xs 5 fr (by omega)) (fun a n c e _ hf => ?_)).mono ?_
  · simp only [Value.slice.injEq, Option.some.injEq] at e
    rw [← e.1] at hf
    have := (h.foot_lt hf).2
    simp only at this
    omega
  · rintro e w' (⟨-, rfl, L', D', hlt, h1, h2, h3, h4, h5, h6, h7, h8⟩ | ⟨hbad, -⟩)
    · exact ⟨by rw [Nat.zero_add], L', D', (LT.of_below h hal).trans hlt, h1, h2, h3.trans hr, h4, h5, h6, h7, h8⟩
    · omega
theorem LT.below0 {w0 w w' : World} {B l : Nat} {L L' : Lg} {D D' : Dk} (h : LT w w' B l L D L' D') (h0 : LD w B l L D) (hb : Below B w0 w) (hB : B ≤ w.heap.size) : Below B w0 w' := hb.trans (h.only.below hB (fun j hj e => by have := (h0.foot_lt e).1; omega))
end Go.Proofs.YthgmligpconhhaaGreatDoor

/- Layer 6: a log and what is kept beside it; no law walked. -/
namespace Go.Proofs.YthgmligpconhhaaGreatDoor
open Go.RowKit Go.Shelf
set_option linter.unusedVariables false
set_option linter.unusedSimpArgs false
set_option maxRecDepth 100000

theorem SliceOf.get {w : World} {a : Option Addr} {n cap : Nat} {xss : List (List UInt8)} (h : SliceOf Bytes w (.slice a n cap) xss) (k : Nat) (hk : k < xss.length) :
    n = xss.length ∧ xss.length ≤ cap ∧ cap ≤ 9223372036854775807 ∧ ∃ b o v, a = some ⟨b, o, none⟩ ∧ w.cell? ⟨b, o + k, none⟩ = some v ∧ Bytes w v xss[k] := by
  obtain ⟨vs, ⟨a', cap', hv, h0, h1, h2, h3⟩, hE⟩ := h
  simp only [Value.slice.injEq] at hv
  obtain ⟨rfl, rfl, rfl⟩ := hv
  rcases h3 with h3 | ⟨b, o, hab, hc⟩
  · omega
  · rw [Nat.mul_one] at h0
    have hkv : k < vs.length := by omega
    exact ⟨rfl, h1, h2, b, o, vs[k], hab, hc k _ (List.getElem?_eq_getElem hkv), hE k _ _ (List.getElem?_eq_getElem hkv) (List.getElem?_eq_getElem hk)⟩
theorem Bytes.lt {w : World} {v : Value} {xs : List UInt8} (h : Bytes w v xs) : ∀ a n c, v = .slice (some a) n c → 0 < xs.length → a.block < w.heap.size := by
  intro a n c hv h0
  obtain ⟨a', cap, hv', h1, h2, h3⟩ := h
  rw [hv'] at hv
  simp only [Value.slice.injEq] at hv
  rcases h3 with h3 | ⟨b, o, hab, hc⟩
  · omega
  · have e : a = ⟨b, o, none⟩ := by have := hv.1.symm.trans hab; exact Option.some.inj this
    subst e
    have h5 := hc 0 h0
    rcases Nat.lt_or_ge b w.heap.size with h6 | h6
    · exact h6
    · simp [World.cell?, Array.getElem?_eq_none h6] at h5

theorem row_cell {w : World} {B n kc : Nat} {e : TypeId} {ka : Option Addr} {xs : List Value} (h : w.ownsRow B e 1 (.slice ka n kc) n xs) (k : Nat) (u : Value) (hk : xs[k]? = some u) : ∃ g, ka = some ⟨g, 0, none⟩ ∧ n ≤ kc ∧ kc ≤ 9223372036854775807 ∧ w.cell? ⟨g, k, none⟩ = some u := by
  have hl := (List.getElem?_eq_some_iff.1 hk).1
  have hxl := h.1
  rcases h.2 with ⟨_, h0⟩ | ⟨g, cap, cur, hv, hb, hg, hn, hm, _⟩
  · rw [h0] at hxl; omega
  · have := World.ownsRow.cells h (g := g) (by rw [hv]; rfl) k _ hk
    rw [add_off, Nat.zero_add] at this
    simp only [Value.slice.injEq] at hv
    obtain ⟨rfl, -, rfl⟩ := hv
    exact ⟨g, rfl, hn, by unfold maxLen at hm; omega, this⟩
/-- The log and what is kept beside it. -/
structure HK (w wr : World) (B l : Nat) (L : Lg) (D : Dk) (kv : Value) (KP : List (Value × List UInt8)) : Prop where
  ld : LD wr B l L D
  gl : GL L D 0 (KP.map Prod.snd)
  dom : Dom L D
  room : D.room = 268435456
  row : wr.ownsRow B 63 1 kv KP.length (KP.map Prod.fst)
  ap : ∀ j, kv.ownBlock = some j → ¬ ldFoot l L D j
  txt : ∀ x ∈ KP, Bytes w x.1 x.2
  sm : ∀ x ∈ KP, x.2.length ≤ 65536
  b : Below w.heap.size w wr
  lo : w.heap.size ≤ B
theorem HK.step {w wr w' : World} {B l : Nat} {L L' : Lg} {D D' : Dk} {kv : Value} {KP : List (Value × List UInt8)} (h : HK w wr B l L D kv KP) (ht : LT wr w' B l L D L' D') : w'.ownsRow B 63 1 kv KP.length (KP.map Prod.fst) ∧ (∀ j, kv.ownBlock = some j → ¬ ldFoot l L' D' j) ∧ Below w.heap.size w w' := by
  refine ⟨ownsRow_only h.row ht.only (fun g hg hf => h.ap g hg hf), fun j hj hf => ?_, ?_⟩
  · have hlt := (World.ownsRow.lt h.row j hj).2
    exact (ht.foot j hf).elim (h.ap j hj) (fun e => by omega)
  · exact h.b.trans (ht.only.below h.b.size (fun j hj e => by have := (h.ld.foot_lt e).1; have := h.lo; omega))
theorem HK.below {w wr w' : World} {B l : Nat} {L : Lg} {D : Dk} {kv : Value} {KP : List (Value × List UInt8)} (h : HK w wr B l L D kv KP) (hb : Below wr.heap.size wr w') : HK w w' B l L D kv KP := by
  obtain ⟨h1, h2, h3⟩ := h.step (LT.of_below h.ld hb)
  exact ⟨h.ld.below hb, h.gl, h.dom, h.room, h1, h2, h.txt, h.sm, h3, h.lo⟩
/-- One more is kept. -/
theorem HK.keep {w wr w1 w2 : World} {B l : Nat} {L L' : Lg} {D D' : Dk} {kv kv2 v : Value} {KP : List (Value × List UInt8)} {ys : List UInt8} (h : HK w wr B l L D kv KP) (ht : LT wr w1 B l L D L' D') (hg : GL L' D' 0 (KP.map Prod.snd ++ [ys])) (hd : Dom L' D') (hr : D'.room = D.room) (hy : ys.length ≤ 65536) (hv : Bytes w v ys)
    (hrow : w2.ownsRow B 63 1 kv2 (KP.length + 1) (KP.map Prod.fst ++ [v])) (hgr : w1.grownBy w2 kv.ownBlock) (hnew : ∀ j, kv2.ownBlock = some j → kv.ownBlock = some j ∨ w1.heap.size ≤ j) : HK w w2 B l L' D' kv2 (KP ++ [(v, ys)]) := by
  obtain ⟨h1, h2, h3⟩ := h.step ht
  have ho : Only (fun j => kv.ownBlock = some j) w1 w2 := Only.of_grown hgr
  refine ⟨ht.is.only ho (fun j hj => h2 j hj) (fun j hj hu => ?_), by rw [List.map_append]; exact hg, hd, hr.trans h.room, by rw [List.length_append, List.map_append]; exact hrow, fun j hj hf => ?_, fun x hx => ?_, fun x hx => ?_, ?_, h.lo⟩
  · exact absurd ((own_ty h1 hj).eq (show TyAt w1 j 5 from hu)) (by decide)
  · rcases hnew j hj with e | e
    · exact h2 j e hf
    · have := (ht.is.foot_lt hf).2; omega
  · rcases List.mem_append.1 hx with hx | hx
    · exact h.txt x hx
    · rw [List.mem_singleton.1 hx]; exact hv
  · rcases List.mem_append.1 hx with hx | hx
    · exact h.sm x hx
    · rw [List.mem_singleton.1 hx]; exact hy
  · exact h3.trans (ho.below h3.size (fun j hj e => by have := (World.ownsRow.lt h1 j e).1; have := h.lo; omega))

/-- The log behind some cuts, and what was kept. -/
structure HC (w wr : World) (B l : Nat) (L : Lg) (D : Dk) (kv : Value) (KP : List (Value × List UInt8)) (f : Nat) : Prop where
  ld : LD wr B l L D
  gl : GL L D f ((KP.map Prod.snd).drop f)
  le : f ≤ KP.length
  row : wr.ownsRow B 63 1 kv KP.length (KP.map Prod.fst)
  ap : ∀ j, kv.ownBlock = some j → ¬ ldFoot l L D j
  txt : ∀ x ∈ KP, Bytes w x.1 x.2
  sm : ∀ x ∈ KP, x.2.length ≤ 65536
  b : Below w.heap.size w wr
  lo : w.heap.size ≤ B
theorem HC.step {w wr w' : World} {B l f f' : Nat} {L L' : Lg} {D D' : Dk} {kv : Value} {KP : List (Value × List UInt8)} (h : HC w wr B l L D kv KP f) (ht : LT wr w' B l L D L' D') (hg : GL L' D' f' ((KP.map Prod.snd).drop f')) (hf : f' ≤ KP.length) : HC w w' B l L' D' kv KP f' := by
  refine ⟨ht.is, hg, hf, ownsRow_only h.row ht.only (fun g hg hf => h.ap g hg hf), fun j hj hf => ?_, h.txt, h.sm, ?_, h.lo⟩
  · have hlt := (World.ownsRow.lt h.row j hj).2
    exact (ht.foot j hf).elim (h.ap j hj) (fun e => by omega)
  · exact h.b.trans (ht.only.below h.b.size (fun j hj e => by have := (h.ld.foot_lt e).1; have := h.lo; omega))
theorem HC.below {w wr w' : World} {B l f : Nat} {L : Lg} {D : Dk} {kv : Value} {KP : List (Value × List UInt8)} (h : HC w wr B l L D kv KP f) (hb : Below wr.heap.size wr w') : HC w w' B l L D kv KP f := h.step (LT.of_below h.ld hb) h.gl h.le
theorem HK.hc {w wr w' : World} {B l : Nat} {L : Lg} {D D' : Dk} {kv : Value} {KP : List (Value × List UInt8)} {k : Nat} (h : HK w wr B l L D kv KP) (hs : Sy L D k D') (ht : LT wr w' B l L D { L with segs := clean k L.segs } D') : HC w w' B l { L with segs := clean k L.segs } D' kv KP 0 := by
  have h0 : HC w wr B l L D kv KP 0 := ⟨h.ld, by rw [List.drop_zero]; exact h.gl, by omega, h.row, h.ap, h.txt, h.sm, h.b, h.lo⟩
  exact h0.step ht (by rw [List.drop_zero]; exact h.gl.sync hs) (by omega)
theorem mod_at (cn : Int) (n : Nat) (h : 0 < n) (hn : n ≤ 40) : ∃ a : Nat, a < n ∧ wrap64 ((IntKind.u64.wrap cn).tmod (n : Int)) = (a : Int) := by
  have h0 : 0 ≤ IntKind.u64.wrap cn := by
    simp [IntKind.wrap, IntKind.bits, IntKind.signed]
    omega
  have h1 := Int.tmod_nonneg (n : Int) h0
  have h2 := Int.tmod_lt_of_pos (IntKind.u64.wrap cn) (show (0 : Int) < (n : Int) by omega)
  refine ⟨((IntKind.u64.wrap cn).tmod (n : Int)).toNat, by omega, ?_⟩
  rw [w64 (by omega) (by omega)]
  omega
end Go.Proofs.YthgmligpconhhaaGreatDoor

/- Layer 6: All, walked. -/
namespace Go.Proofs.YthgmligpconhhaaGreatDoor
open Go.RowKit Go.Shelf
set_option linter.unusedVariables false
set_option linter.unusedSimpArgs false
set_option maxRecDepth 100000
attribute [local go_sem] Oper.semAt_some

set_option maxHeartbeats 400000 in
theorem cloneS_calls (v : Value) (n : Nat) (cs : List Value) (w : World) (hv : Rd w 1 v n cs) (h1 : ∀ u ∈ cs, u.oneCell' = true) (hl : n ≤ 1000000) :
    Calls Tryz.prog 42 #[v] w fun e w' => ∃ v', e = .returned v' ∧ w'.ownsRow w.heap.size 94 1 v' n cs ∧ Below w.heap.size w w' := by
  have HV := Lib.hid hv
  have H1 := Lib.hid h1
  obtain ⟨a, c, rfl, hn, hle, hc, h3⟩ := hv
  clear h1
  cases a with
  | none =>
    have h0 : n = 0 := by
      rcases h3 with h3 | ⟨b, o, h, -⟩
      · omega
      · cases h
    subst h0
    have hx : cs = [] := List.eq_nil_of_length_eq_zero (by omega)
    subst hx
    clear h3 hn
    have hnil := fun (w : World) => Lib.run_eql_slice_nil (P := Tryz.prog) w 84 94 none 0 c 0 0 Tryz.underlying84
    go_enter Tryz.func42, Tryz.ntmps42
    go_wp2
    go_ret
    exact ⟨_, rfl, World.ownsRow_nil _ _ _ _, Below.refl _ _⟩
  | some x =>
    clear h3 hn
    have hnil := fun (w : World) => Lib.run_eql_slice_nil (P := Tryz.prog) w 84 94 (some x) n c 0 0 Tryz.underlying84
    have hlit := World.ownsRow_lit (base := w.heap.size) (size := 1) (e := 94) w #[] 0 (Nat.le_refl _) (by unfold maxLen; omega) (by simp)
    have hal := (Below.refl w.heap.size w).alloc (Nat.le_refl _) (.cells #[] 94)
    have HR := Lib.hid (HV.out.below hal (Nat.le_refl _))
    have HLIT := Lib.hid hlit
    have HAL := Lib.hid hal
    clear hlit hal
    go_enter Tryz.func42, Tryz.ntmps42
    go_wp2_with (at_builtin; go_loud (refine app_list tySegs HLIT.out HR.out H1.out (by omega) (by omega) HAL.out.size rfl rfl rfl rfl ?_; intro v3 w3 hm3 hb3 hn3; obtain ⟨ga, gc, rfl⟩ := own_slice hm3))
    go_ret
    refine ⟨_, rfl, ?_, ?_⟩
    · simpa using hm3
    · exact HAL.out.grown hb3 HAL.out.size (fun j e => (World.ownsRow.lt HLIT.out j e).1)


theorem wpIn_scope_w {P : Program} {c : Code} {Q : Exit → Act → World → Prop} {a : Act} {w : World} (h : c.wpIn Fence.wide 0 P (Exit.noGoto Q) a w) : (Code.scope c).wpIn Fence.wide 0 P Q a w := wpIn_wide.2 (wp_scope_straight (wpIn_wide.1 h))
theorem wpIn_label_w {P : Program} {l : Nat} {Q : Exit → Act → World → Prop} {a : Act} {w : World} (h : Q .normal a w) : (Code.label l).wpIn Fence.wide 0 P Q a w := wpIn_wide.2 (wp_label h)
theorem lall_calls (p : Option Addr) (from_ : Int) (w : World) : CallsIn Fence.wide 0 Tryz.prog 19 #[.pointer p, .int .i64 from_] w fun e w' => e = .returned (.func (.func 41) #[] #[.pointer (some ⟨w.heap.size, 0, none⟩), .pointer (some ⟨w.heap.size + 1, 0, none⟩)]) ∧ w' = (w.alloc (.cells #[.pointer p] 55)).alloc (.cells #[.int .i64 from_] 3) := by
  refine callsIn_of_wp Tryz.func19 rfl trivial ?_
  simp only [Tryz.ntmps19, List.size_toArray, List.length_cons, List.length_nil, Nat.reduceAdd, Nat.reduceSub, Array.replicate_succ, Array.replicate_zero, List.push_toArray, List.append_toArray, List.nil_append, List.cons_append]
  gi_wp2
  go_ret
  exact ⟨rfl, rfl⟩

/-- What All's closure hands on: the number, a copy of the entry; and that its own row lies where it lay. -/
abbrev LSt := Nat × List (Nat × Obj)
def LStep (f : Nat) (E : List (List UInt8)) (base : Nat) (s : LSt) (args : Array Value) (s' : LSt) (W : World) : Prop :=
  f ≤ s.1 ∧ s.1 < f + E.length ∧ s'.1 = s.1 + 1 ∧ (∃ c o, s'.2 = [(c, o)] ∧ W.heap[c]? = some o ∧ o.isCells = true ∧ base ≤ c) ∧ ∃ v, args = #[.int .i64 s.1, v] ∧ Mine W base v (E.getD (s.1 - f) [])

/-- The same, with the row's type. -/
def LStepT (f : Nat) (E : List (List UInt8)) (base : Nat) (s : LSt) (args : Array Value) (s' : LSt) (W : World) : Prop :=
  f ≤ s.1 ∧ s.1 < f + E.length ∧ s'.1 = s.1 + 1 ∧ (∃ c o, s'.2 = [(c, o)] ∧ W.heap[c]? = some o ∧ (∃ cs x, o = .cells cs 94 x) ∧ base ≤ c) ∧ ∃ v, args = #[.int .i64 s.1, v] ∧ Mine W base v (E.getD (s.1 - f) [])
theorem LStepT.weak {f base : Nat} {E : List (List UInt8)} {s s' : LSt} {args : Array Value} {W : World} (h : LStepT f E base s args s' W) : LStep f E base s args s' W := by
  obtain ⟨h1, h2, h3, ⟨c, o, h4, h5, ⟨cs, x, h6⟩, h7⟩, h8⟩ := h
  exact ⟨h1, h2, h3, ⟨c, o, h4, h5, by rw [h6]; rfl, h7⟩, h8⟩

set_option maxHeartbeats 4000000 in
theorem lall1_iterW (B l bl bf f fr base ly : Nat) (L : Lg) (E : List (List UInt8)) (J : LSt → World → Prop) (Jx : World → Prop) (w : World) (hch : ∀ (i : Nat) (s : Seg), L.segs[i]? = some s → s.base = f + (entsOf (L.segs.take i)).length) (hE : entsOf L.segs = E) (hb : f + E.length ≤ 9223372036854775000) (hel : E.length ≤ 1000000000) (hsl : L.segs.length ≤ 100000) (hfr : fr ≤ 1000000000)
    (hsm : ∀ s ∈ L.segs, ∀ x ∈ s.evs, x.2.length ≤ 1000000000)
    (hm : ∀ s W W', Below W.heap.size W W' → J s W → J s W')
    (hv : ∀ s W, J s W → LogAt W B l L ∧ W.cell? ⟨bl, 0, none⟩ = some (.pointer (some ⟨l, 0, none⟩)) ∧ W.cell? ⟨bf, 0, none⟩ = some (.int .i64 fr) ∧ base ≤ W.heap.size ∧ ∀ p ∈ s.2, W.heap[p.1]? = some p.2)
    (hy : ∀ s args s' W, J s W → LStepT f E base s args s' W → YieldAt Fence.wide 0 Tryz.prog ly args W fun e W' => (e = .returned (.bool true) ∧ J s' W') ∨ (e = .returned (.bool false) ∧ Jx W'))
    (h0 : J (max fr f, []) w) :
    CallsIn Fence.wide 0 Tryz.prog 41 #[.func (.yield ly) #[] #[], .pointer (some ⟨bl, 0, none⟩), .pointer (some ⟨bf, 0, none⟩)] w fun e W' => (∃ v, e = .returned v) ∧ ((∃ s : LSt, f + E.length ≤ s.1 ∧ J s W') ∨ Jx W') := by
  have HV := Lib.hid hv
  have HY := Lib.hid hy
  have H0 := Lib.hid h0
  have HM := Lib.hid hm
  have HCH := Lib.hid hch
  have HE := Lib.hid hE
  have HSM := Lib.hid hsm
  obtain ⟨hlog, hcl, hcf, hbs, -⟩ := hv _ _ h0
  obtain ⟨-, -, -, c3, -⟩ := hlog.at
  obtain ⟨sa, sc, hsv⟩ := own_slice hlog.row
  rw [hsv] at c3
  have hrow := hlog.row
  rw [hsv] at hrow
  have HROW := Lib.hid hrow
  clear hv hy h0 hm hch hE hsm hsv hrow
  refine callsIn_of_wp Tryz.func41 rfl trivial ?_
  simp only [Tryz.ntmps41, List.size_toArray, List.length_cons, List.length_nil, Nat.reduceAdd, Nat.reduceSub, Array.replicate_succ, Array.replicate_zero, List.push_toArray, List.append_toArray, List.nil_append, List.cons_append]
  refine wpIn_scope_w ?_
  gi_wp2_with fail
  refine wpIn_label_w ?_
  gi_wp2_with (gi_at_call 42; refine (callsIn_wide.2 (cloneS_calls _ _ _ _ (Rd.of_own HROW.out) (by intro u hu; obtain ⟨t, -, rfl⟩ := List.mem_map.1 hu; rfl) (by omega))).mono ?_; rintro e w1 ⟨v1, rfl, ho1, hb1⟩; obtain ⟨ra, rc, rfl⟩ := own_slice ho1; have HO1 := Lib.hid ho1; have HJ1 := Lib.hid (HM.out _ _ _ hb1 H0.out); clear ho1 hb1)
  rcases HO1.out.2 with ⟨hnil, h00⟩ | ⟨g, cap, cur, hvv, hbg, hg, hnn, hmm, hss, htt⟩
  · have hn0 : L.segs.length = 0 := h00
    have hE0 : E.length = 0 := by rw [← HE.out, List.eq_nil_of_length_eq_zero hn0]; rfl
    gi_loopw [5, 6, 7, 8, 17, 30] (fun _ _ _ _ iv _ wr => iv = .int .i64 0 ∧ wr = w1) (fun _ _ _ _ _ _ _ => 0)
    case atStart => exact ⟨rfl, rfl⟩
    case round =>
      obtain ⟨rfl, rfl⟩ := hrel
      have hnn0 : ¬ 0 < L.segs.length := by omega
      gi_wp2_with fail
      rw [Exit.noGoto_normal]
      go_end0
      exact ⟨⟨_, rfl⟩, .inl ⟨(max fr f, []), by simp only; omega, HJ1.out⟩⟩
  · have HG1 := Lib.hid (show w1.heap[g]? = some (.cells cur 94 (0, 0)) ∨ True from .inr trivial)
    obtain ⟨oo, hoo⟩ : ∃ oo, w1.heap[g]? = some oo ∧ ∃ cs x, oo = .cells cs 94 x := ⟨_, hg, _, _, rfl⟩
    simp only [Value.slice.injEq] at hvv
    obtain ⟨rfl, -, rfl⟩ := hvv
    have hcells : ∀ k u, (L.segs.map Seg.ptr)[k]? = some u → ∀ wr : World, wr.heap[g]? = some oo → wr.cell? ⟨g, k, none⟩ = some u := fun k u hk wr hwr => by
      have := World.ownsRow.cells HO1.out (g := g) rfl k u hk
      rw [add_off, Nat.zero_add] at this
      rw [← this]
      exact World.cell?_of_block (w := w1) (hwr.trans hoo.1.symm)
    have HCE := Lib.hid hcells
    have HOO := Lib.hid hoo
    have HGB := Lib.hid (show base ≤ g from Nat.le_trans hbs hbg)
    clear hg htt hss hmm hoo hcells HG1 c3
    gi_loopw [5, 6, 7, 8, 17, 30] (fun _ _ _ _ iv _ wr => ∃ (i : Nat) (pr : List (Nat × Obj)), i ≤ L.segs.length ∧ iv = .int .i64 i ∧ J (max fr (f + (entsOf (L.segs.take i)).length), pr) wr ∧ wr.heap[g]? = some oo) (fun _ _ _ _ iv _ _ => L.segs.length - (intOf iv).toNat)
    case atStart => exact ⟨0, [], by omega, rfl, by simpa [entsOf] using HJ1.out, HOO.out.1⟩
    case round =>
      clear HJ1
      obtain ⟨i, pr, hi, rfl, hj, hgo⟩ := hrel
      have HJ := Lib.hid hj
      have HGO := Lib.hid hgo
      obtain ⟨hlog, hcl, hcf, hbs, -⟩ := HV.out _ _ hj
      clear hj hgo
      by_cases hil : i < L.segs.length
      · have hgi : L.segs[i]? = some L.segs[i] := List.getElem?_eq_getElem hil
        obtain ⟨s, hS⟩ : ∃ s, L.segs[i] = s := ⟨_, rfl⟩
        rw [hS] at hgi
        have hmem := List.mem_of_getElem? hgi
        have hpp := HCE.out i (.pointer (some ⟨s.b, 0, none⟩)) (by rw [List.getElem?_map, hgi]; rfl) wr HGO.out
        have hsb := HCH.out i s hgi
        have hnx : (entsOf (L.segs.take (i + 1))).length = (entsOf (L.segs.take i)).length + s.evs.length := by
          rw [List.take_succ_eq_append_getElem hil, hS, entsOf_app, entsOf_one, List.length_append, List.length_map]
        have hle : f + (entsOf (L.segs.take (i + 1))).length ≤ f + E.length := by
          have : E = entsOf (L.segs.take (i + 1)) ++ entsOf (L.segs.drop (i + 1)) := by rw [← entsOf_app, List.take_append_drop]; exact HE.out.symm
          rw [this, List.length_append]
          omega
        have HEI := Lib.hid (show ∀ q (x : Value × List UInt8), s.evs[q]? = some x → E.getD (s.base + q - f) [] = x.2 from fun q x hq => by
          have e : E = entsOf (L.segs.take i) ++ (s.evs.map Prod.snd ++ entsOf (L.segs.drop (i + 1))) := by
            rw [← entsOf_cons, ← hS, ← List.drop_eq_getElem_cons hil, ← entsOf_app, List.take_append_drop]; exact HE.out.symm
          have hql := (List.getElem?_eq_some_iff.1 hq).1
          rw [List.getD_eq_getElem?_getD, e, List.getElem?_append_right (by omega), List.getElem?_append_left (by rw [List.length_map]; omega), List.getElem?_map, show s.base + q - f - (entsOf (L.segs.take i)).length = q by omega, hq]
          rfl)
        have SG := Lib.hid (hlog.segs s hmem)
        obtain ⟨ea, ec, hev⟩ := own_slice SG.out.row
        have HEV := Lib.hid hev
        have hkc : i < rc := by omega
        obtain ⟨s0, s1, -, -⟩ := SG.out.at
        rw [hev] at s1
        obtain ⟨sb, sbase, sev, sevs, sz, sdirty⟩ := s
        simp only at hpp hsb hnx s0 s1 HEI HEV
        have hels : sevs.length ≤ 1000000000 := by omega
        clear hgi hS hev hlog
        have HSB := Lib.hid hsb
        have HNX := Lib.hid hnx
        have hsbb : sbase + sevs.length ≤ 9223372036854775000 := by omega
        clear hsb hnx
        gi_wp2_with fail
        refine region_mi [(0, false), (2, false), (1, true), (3, false)] 4 (fun V => V.cell? ⟨bf, 0, none⟩ = some (.int .i64 fr)) (by kernel_rfl) (by kernel_rfl) hcf ?_
        iterate 2
          first
          | (refine m_take (v := ?_) rfl rfl ?_ ?_
             rotate_left
             · intro W hW
               go_simp
               with_reducible rfl
             simp only [Act.put, List.setIfInBounds_toArray, List.set_cons_zero, List.set_cons_succ])
          | (refine m_skip rfl rfl ?_
             simp only [Act.put, List.setIfInBounds_toArray, List.set_cons_zero, List.set_cons_succ])
        refine m_loud rfl (fun K hK => ?_)
        have HK := Lib.hid hK
        clear hK
        go_simp
        refine (snext_calls sb sbase (.slice ea sevs.length ec) sevs.length wr.drew s0 s1 ⟨_, _, rfl⟩ (by omega)).mono ?_
        rintro e w4 ⟨he4, hb4⟩
        rw [Int.natCast_add] at he4
        subst he4
        have hb4 : Below wr.heap.size wr w4 := ((Below.refl wr.heap.size wr).drew).trans hb4
        have HJ4 := Lib.hid (HM.out _ _ _ hb4 HJ.out)
        have HG4 := Lib.hid (show w4.heap[g]? = some oo from (hb4.block g (Array.getElem?_eq_some_iff.1 HGO.out).1).trans HGO.out)
        refine HK.out _ _ (cell_later hb4 hcf) ?_
        clear HK
        have s1 := cell_later hb4 s1
        clear hb4 s0 hcf hcl
        iterate 1
          first
          | (refine m_take (v := ?_) rfl rfl ?_ ?_
             rotate_left
             · intro W hW
               go_simp
               with_reducible rfl
             simp only [Act.put, List.setIfInBounds_toArray, List.set_cons_zero, List.set_cons_succ])
          | (refine m_skip rfl rfl ?_
             simp only [Act.put, List.setIfInBounds_toArray, List.set_cons_zero, List.set_cons_succ])
        refine m_done ?_
        simp only [List.drop_succ_cons, List.drop_zero]
        by_cases hnf : sbase + sevs.length ≤ fr
        · have d1 : decide (((sbase + sevs.length : Nat) : Int) ≤ (fr : Int)) = true := decide_eq_true (by omega)
          have d2 : decide ((sbase : Int) + (sevs.length : Int) ≤ (fr : Int)) = true := decide_eq_true (by omega)
          go_wp2_with fail
          try simp only [NP]
          gi_wp2_with fail
          refine ⟨⟨i + 1, pr, by omega, by go_num, ?_, HG4.out⟩, by simp [intOf]; omega⟩
          have e : max fr (f + (entsOf (L.segs.take (i + 1))).length) = max fr (f + (entsOf (L.segs.take i)).length) := by
            have h1 := HSB.out
            have h2 := HNX.out
            omega
          rw [e]
          exact HJ4.out
        · have d1 : decide (((sbase + sevs.length : Nat) : Int) ≤ (fr : Int)) = false := decide_eq_false (by omega)
          have d2 : decide ((sbase : Int) + (sevs.length : Int) ≤ (fr : Int)) = false := decide_eq_false (by omega)
          rw [d2]
          go_wp2_with fail
          try simp only [NP]
          gi_wp2_with fail
          gi_loopw [6, 7, 8, 30] (fun _ _ _ iv wr => ∃ (q : Nat) (pr : List (Nat × Obj)), q ≤ sevs.length ∧ iv = .int .i64 q ∧ J (max fr (sbase + q), pr) wr ∧ wr.heap[g]? = some oo) (fun _ _ _ iv _ => sevs.length - (intOf iv).toNat)
          case atStart => exact ⟨0, pr, by omega, rfl, by rw [Nat.add_zero, HSB.out]; exact HJ4.out, HG4.out⟩
          case round =>
            clear HJ4 HG4 HJ HGO SG
            obtain ⟨q, pr2, hq, rfl, hj, hgo⟩ := hrel
            have HJ := Lib.hid hj
            have HGO := Lib.hid hgo
            obtain ⟨hlog, hcl, hcf, hbs2, -⟩ := HV.out _ _ hj
            clear hj hgo s1 hpp
            by_cases hql : q < sevs.length
            · have SG := Lib.hid (hlog.segs _ hmem)
              obtain ⟨x, hx⟩ : ∃ x, sevs[q] = x := ⟨_, rfl⟩
              have hgq : sevs[q]? = some x := by rw [List.getElem?_eq_getElem hql, hx]
              obtain ⟨eb, ecap, hev2, hle2, hmx2, hcell⟩ := SG.out.ent q x hgq
              have h3 := HEV.out.symm.trans hev2
              simp only [Value.slice.injEq] at h3
              obtain ⟨rfl, -, rfl⟩ := h3
              have hqc : q < ec := by simp only at hle2; omega
              have s0 := SG.out.at.1
              simp only at s0
              have HTX := Lib.hid (SG.out.txt x (List.mem_of_getElem? hgq))
              have HGE := Lib.hid (HEI.out q x hgq)
              have hxl := HSM.out _ hmem x (List.mem_of_getElem? hgq)
              obtain ⟨xv, xs⟩ := x
              obtain ⟨xa, xc, hxv⟩ := HTX.out.slice
              simp only at hxv hcell hxl HTX HGE
              subst hxv
              have Q1 := Lib.hid (i64w (n := (sbase : Int) + (q : Int)) (by omega) (by omega))
              have Q2 := Lib.hid (w64 (n := (sbase : Int) + (q : Int)) (by omega) (by omega))
              clear hx hgq hev2 hle2 hmx2 hlog hcl
              by_cases hge : fr ≤ sbase + q
              · have d3 : decide ((fr : Int) ≤ (sbase : Int) + (q : Int)) = true := decide_eq_true (by omega)
                have HMX := Lib.hid (show max fr (sbase + q) = sbase + q by omega)
                have HST := Lib.hid (show f ≤ sbase + q ∧ sbase + q < f + E.length by have h1 := HSB.out; have h2 := HNX.out; omega)
                gi_wp2_with (gi_at_call 43; refine (callsIn_wide.2 (cloneB_calls _ xs _ HTX.out.1 (by omega))).mono ?_; rintro e w5 ⟨v5, rfl, hm5, hb5⟩; have HJ5 := Lib.hid (show J (sbase + q, pr2) w5 by rw [← HMX.out]; exact HM.out _ _ _ hb5 HJ.out); have HG5 := Lib.hid (show w5.heap[g]? = some oo from (hb5.block g (Array.getElem?_eq_some_iff.1 HGO.out).1).trans HGO.out); have HMI := Lib.hid (show Mine w5 base v5 xs from hm5.mono hbs2); clear hm5 hb5; obtain ⟨fn, tmps, assign, body, hyy, hR⟩ := HY.out (sbase + q, pr2) #[.int .i64 ((sbase : Int) + (q : Int)), v5] (sbase + q + 1, [(g, oo)]) w5 HJ5.out ⟨HST.out.1, HST.out.2, rfl, ⟨g, oo, rfl, HG5.out, HOO.out.2, HGB.out⟩, v5, by rw [← Int.natCast_add], by show Mine w5 base v5 (E.getD (sbase + q - f) []); rw [HGE.out]; exact HMI.out⟩)
                refine hR.mono ?_
                clear hR hyy
                rintro e W' (⟨rfl, hj1⟩ | ⟨rfl, hjx⟩)
                · obtain ⟨-, -, -, -, hpr⟩ := HV.out _ _ hj1
                  have HG6 := Lib.hid (hpr (g, oo) (List.mem_singleton_self _))
                  have HJ6 := Lib.hid hj1
                  clear hj1 hpr
                  gi_wp2
                  refine ⟨⟨q + 1, [(g, oo)], by omega, by go_num, ?_, HG6.out⟩, by simp [intOf]; omega⟩
                  rw [show max fr (sbase + (q + 1)) = sbase + q + 1 by omega]
                  exact HJ6.out
                · have HJX := Lib.hid hjx
                  clear hjx
                  gi_wp2
                  rw [Exit.noGoto_ret]
                  refine bodyPost_ret (results_none rfl _ _ _) rfl ?_
                  exact ⟨⟨_, rfl⟩, .inr HJX.out⟩
              · have d3 : decide ((fr : Int) ≤ (sbase : Int) + (q : Int)) = false := decide_eq_false (by omega)
                gi_wp2_with fail
                refine ⟨⟨q + 1, pr2, by omega, by go_num, ?_, HGO.out⟩, by simp [intOf]; omega⟩
                rw [show max fr (sbase + (q + 1)) = max fr (sbase + q) by omega]
                exact HJ.out
            · obtain rfl : q = sevs.length := by omega
              gi_wp2_with fail
              refine ⟨⟨i + 1, pr2, by omega, by go_num, ?_, HGO.out⟩, by simp [intOf]; omega⟩
              rw [show f + (entsOf (L.segs.take (i + 1))).length = sbase + sevs.length by have h1 := HSB.out; have h2 := HNX.out; omega]
              exact HJ.out
      · obtain rfl : i = L.segs.length := by omega
        have HDN := Lib.hid (show f + E.length ≤ max fr (f + (entsOf (L.segs.take L.segs.length)).length) by rw [List.take_length, HE.out]; exact Nat.le_max_right _ _)
        gi_wp2_with fail
        rw [Exit.noGoto_normal]
        go_end0
        exact ⟨⟨_, rfl⟩, .inl ⟨_, HDN.out, HJ.out⟩⟩
theorem lall1_iter (B l bl bf f fr base ly : Nat) (L : Lg) (E : List (List UInt8)) (J : LSt → World → Prop) (Jx : World → Prop) (w : World) (hch : chainFrom f L.segs) (hE : entsOf L.segs = E) (hb : f + E.length ≤ 9223372036854775000) (hel : E.length ≤ 1000000000) (hsl : L.segs.length ≤ 100000) (hfr : fr ≤ 1000000000)
    (hsm : ∀ s ∈ L.segs, ∀ x ∈ s.evs, x.2.length ≤ 1000000000)
    (hm : ∀ s W W', Below W.heap.size W W' → J s W → J s W')
    (hv : ∀ s W, J s W → LogAt W B l L ∧ W.cell? ⟨bl, 0, none⟩ = some (.pointer (some ⟨l, 0, none⟩)) ∧ W.cell? ⟨bf, 0, none⟩ = some (.int .i64 fr) ∧ base ≤ W.heap.size ∧ ∀ p ∈ s.2, W.heap[p.1]? = some p.2)
    (hy : ∀ s args s' W, J s W → LStep f E base s args s' W → YieldAt Fence.wide 0 Tryz.prog ly args W fun e W' => (e = .returned (.bool true) ∧ J s' W') ∨ (e = .returned (.bool false) ∧ Jx W'))
    (h0 : J (max fr f, []) w) :
    CallsIn Fence.wide 0 Tryz.prog 41 #[.func (.yield ly) #[] #[], .pointer (some ⟨bl, 0, none⟩), .pointer (some ⟨bf, 0, none⟩)] w fun e W' => (∃ v, e = .returned v) ∧ ((∃ s : LSt, f + E.length ≤ s.1 ∧ J s W') ∨ Jx W') :=
  lall1_iterW B l bl bf f fr base ly L E J Jx w (fun i s hs => by
    have hil := (List.getElem?_eq_some_iff.1 hs).1
    have hS := (List.getElem?_eq_some_iff.1 hs).2
    have h := hch
    rw [← List.take_append_drop i L.segs, chain_app, List.drop_eq_getElem_cons hil, hS] at h
    exact h.2.1) hE hb hel hsl hfr hsm hm hv (fun s args s' W hj hst => hy s args s' W hj hst.weak) h0
end Go.Proofs.YthgmligpconhhaaGreatDoor
