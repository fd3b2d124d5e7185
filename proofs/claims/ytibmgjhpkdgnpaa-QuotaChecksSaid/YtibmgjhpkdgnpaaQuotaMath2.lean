/- Layer 15, plain: the document's Check, step by step, is Check. -/
import Derived.Test.YtibmgjhpkdgnpaaQuotaMath
namespace Go.Proofs.Ytibmgjhpkdgnpaa

/-- One record looked at: the least number that isn't on the way. -/
def lstep (r : Rec) (l : Int) (o : Rec) : Int := if o.p = r.p ∧ o.q = r.q ∧ o.s = l ∧ l < 9223372036854775807 then l + 1 else l
def pass (way : List Rec) (r : Rec) (l : Int) : Int := way.foldl (lstep r) l
/-- i passes. -/
def passes (way : List Rec) (r : Rec) (l : Int) : Nat → Int
  | 0 => l
  | i + 1 => pass way r (passes way r l i)

theorem lstep_ge (r : Rec) (l : Int) (o : Rec) : l ≤ lstep r l o := by unfold lstep; split <;> omega
theorem lstep_le (r : Rec) (l : Int) (o : Rec) : lstep r l o ≤ l + 1 := by unfold lstep; split <;> omega
theorem lstep_max (r : Rec) (l : Int) (o : Rec) (h : l ≤ 9223372036854775807) : lstep r l o ≤ 9223372036854775807 := by unfold lstep; split <;> omega
theorem pass_ge (r : Rec) : ∀ (way : List Rec) (l : Int), l ≤ pass way r l
  | [], _ => Int.le_refl _
  | o :: way, l => Int.le_trans (lstep_ge r l o) (pass_ge r way _)
theorem pass_max (r : Rec) : ∀ (way : List Rec) (l : Int), l ≤ 9223372036854775807 → pass way r l ≤ 9223372036854775807
  | [], _, h => h
  | o :: way, l, h => pass_max r way _ (lstep_max r l o h)
theorem passes_ge (way : List Rec) (r : Rec) (l : Int) : ∀ i, l ≤ passes way r l i
  | 0 => Int.le_refl _
  | i + 1 => Int.le_trans (passes_ge way r l i) (pass_ge r way _)
theorem passes_max (way : List Rec) (r : Rec) (l : Int) (h : l ≤ 9223372036854775807) : ∀ i, passes way r l i ≤ 9223372036854775807
  | 0 => h
  | i + 1 => pass_max r way _ (passes_max way r l h i)

theorem onWay_cons (o : Rec) (way : List Rec) (r : Rec) (s : Int) : onWay (o :: way) r s = ((o.p == r.p && o.q == r.q && o.s == s) || onWay way r s) := rfl
theorem onWay_hit {o : Rec} {r : Rec} {s : Int} : (o.p == r.p && o.q == r.q && o.s == s) = true ↔ o.p = r.p ∧ o.q = r.q ∧ o.s = s := by simp [and_assoc]

/-- A number that isn't on the way is never passed. -/
theorem pass_stop (r : Rec) (x : Int) : ∀ (way : List Rec) (l : Int), onWay way r x = false → l ≤ x → pass way r l ≤ x
  | [], _, _, h => h
  | o :: way, l, hx, h => by
    rw [onWay_cons, Bool.or_eq_false_iff] at hx
    refine pass_stop r x way _ hx.2 ?_
    unfold lstep
    split
    · rename_i hm
      rcases Int.lt_or_le l x with hl | hl
      · omega
      · exfalso
        have e : l = x := by omega
        have := onWay_hit.2 ⟨hm.1, hm.2.1, hm.2.2.1.trans e⟩
        rw [hx.1] at this
        cases this
    · exact h
/-- A number that is on the way is passed. -/
theorem pass_go (r : Rec) (x : Int) (hm : x < 9223372036854775807) : ∀ (way : List Rec) (l : Int), onWay way r x = true → x ≤ l → x < pass way r l
  | [], _, hx, _ => by simp [onWay] at hx
  | o :: way, l, hx, h => by
    rw [onWay_cons, Bool.or_eq_true] at hx
    show x < pass way r (lstep r l o)
    rcases Int.lt_or_le x l with hl | hl
    · have h1 := pass_ge r way (lstep r l o)
      have h2 := lstep_ge r l o
      omega
    · have e : l = x := by omega
      rcases hx with hx | hx
      · have h3 := onWay_hit.1 hx
        have h2 : lstep r l o = l + 1 := by unfold lstep; rw [if_pos ⟨h3.1, h3.2.1, by rw [e]; exact h3.2.2, by omega⟩]
        have h1 := pass_ge r way (lstep r l o)
        omega
      · exact pass_go r x hm way _ hx (by have := lstep_ge r l o; omega)
theorem passes_stop (way : List Rec) (r : Rec) (l x : Int) (hx : onWay way r x = false) (h : l ≤ x) : ∀ i, passes way r l i ≤ x
  | 0 => h
  | i + 1 => pass_stop r x way _ hx (passes_stop way r l x hx h i)

theorem pigeon (l0 : Int) : ∀ (m : Nat) (L : List Int), (∀ d : Nat, d < m → l0 + d ∈ L) → m ≤ L.length
  | 0, _, _ => Nat.zero_le _
  | m + 1, L, h => by
    have h1 := h m (by omega)
    have h2 := pigeon l0 m (L.erase (l0 + m)) (fun d hd => (List.mem_erase_of_ne (by omega)).2 (h d (by omega)))
    rw [List.length_erase_of_mem h1] at h2
    have h3 : 0 < L.length := List.length_pos_of_mem h1
    omega

theorem passes_all (way : List Rec) (r : Rec) (l s : Int) (hls : l ≤ s) (hs : s ≤ 9223372036854775807) (hon : onWay way r s = false) (hall : ∀ d : Nat, d < (s - l).toNat → onWay way r (l + d) = true) : passes way r l way.length = s := by
  have hup := passes_stop way r l s hon hls
  have hstep : ∀ i : Nat, l + i ≤ passes way r l i ∨ passes way r l i = s := by
    intro i
    induction i with
    | zero => left; simp [passes]
    | succ i ih =>
      have h1 := hup i
      have h2 := hup (i + 1)
      rcases Int.lt_or_le (passes way r l i) s with hlt | hge
      · left
        have hge0 := passes_ge way r l i
        have hx := hall (passes way r l i - l).toNat (by omega)
        have e : l + ((passes way r l i - l).toNat : Int) = passes way r l i := by omega
        rw [e] at hx
        have := pass_go r (passes way r l i) (by omega) way (passes way r l i) hx (Int.le_refl _)
        rcases ih with ih | ih
        · show l + ((i + 1 : Nat) : Int) ≤ pass way r (passes way r l i)
          omega
        · omega
      · right
        have h3 : passes way r l i ≤ passes way r l (i + 1) := pass_ge r way _
        omega
  have hp : (s - l).toNat ≤ way.length := by
    have := pigeon l (s - l).toNat (way.map (·.s)) (fun d hd => by
      have h := hall d hd
      unfold onWay at h
      rw [List.any_eq_true] at h
      obtain ⟨o, ho, h2⟩ := h
      have h3 := onWay_hit.1 h2
      exact List.mem_map.2 ⟨o, ho, h3.2.2⟩)
    simpa using this
  rcases hstep way.length with h | h
  · have := hup way.length; omega
  · exact h
theorem passes_gap (way : List Rec) (r : Rec) (l s : Int) (d : Nat) (hd : d < (s - l).toNat) (hon : onWay way r (l + d) = false) (i : Nat) : passes way r l i ≠ s := by
  have := passes_stop way r l (l + d) hon (by omega) i
  omega

/-- Behind the passes. -/
theorem checkCode_tail (rs : List Row) (os way : List Rec) (r : Rec) (hlt : lastOf rs r.p r.q < r.s) (hs : r.s ≤ 9223372036854775807) (hon : onWay way r r.s = false) :
    (if ∃ d : Nat, d < (r.s - (lastOf rs r.p r.q + 1)).toNat ∧ onWay way r (lastOf rs r.p r.q + 1 + d) = false then (11 : Int)
  else if 32 ≤ mine os r.p + mine way r.p ∨ 256 ≤ way.length ∨ 512 ≤ os.length + way.length then 10 else 0) =
    if r.s ≠ passes way r (lastOf rs r.p r.q + 1) way.length then 11 else if 32 ≤ mine way r.p + mine os r.p ∨ 256 ≤ way.length ∨ 512 ≤ os.length + way.length then 10 else 0 := by
  by_cases h : ∃ d : Nat, d < (r.s - (lastOf rs r.p r.q + 1)).toNat ∧ onWay way r (lastOf rs r.p r.q + 1 + d) = false
  · obtain ⟨d, h1, h2⟩ := h
    rw [if_pos ⟨d, h1, h2⟩, if_pos (fun e => passes_gap way r _ _ d h1 h2 way.length e.symm)]
  · have hp : passes way r (lastOf rs r.p r.q + 1) way.length = r.s := by
      refine passes_all way r _ _ (by omega) hs hon (fun d hd => ?_)
      cases ho : onWay way r (lastOf rs r.p r.q + 1 + d) with
      | true => rfl
      | false => exact absurd ⟨d, hd, ho⟩ h
    have hn : ¬ (r.s ≠ passes way r (lastOf rs r.p r.q + 1) way.length) := fun e => e hp.symm
    rw [if_neg h, if_neg hn, Nat.add_comm (mine os r.p)]
end Go.Proofs.Ytibmgjhpkdgnpaa
