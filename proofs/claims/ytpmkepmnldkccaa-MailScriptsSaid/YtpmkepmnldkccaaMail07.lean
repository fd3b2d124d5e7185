/- Layer 5: the document's Same; MailNone walked. -/
import Derived.Test.YtpmkepmnldkccaaMail06
import Derived.Test.YtpmkepmnldkccaaTopMail
namespace Go.Proofs.Ytpmkepmnldkccaa
open Go.RowKit

def Ent.key (e : Ent) : Int × Int × List UInt8 := (e.f, e.t, e.data)
def Ent.val (e : Ent) : Value := .agg #[.int .i64 e.f, .int .i64 e.t, e.dv]

theorem key_f {a b : Ent} (h : a.f ≠ b.f) : (a.key == b.key) = false := by
  rw [beq_eq_false_iff_ne]
  intro e
  exact h (congrArg (fun x : Int × Int × List UInt8 => x.1) e)
theorem key_t {a b : Ent} (h : a.t ≠ b.t) : (a.key == b.key) = false := by
  rw [beq_eq_false_iff_ne]
  intro e
  exact h (congrArg (fun x : Int × Int × List UInt8 => x.2.1) e)
theorem key_d {a b : Ent} (h1 : a.f = b.f) (h2 : a.t = b.t) : (a.key == b.key) = (a.data == b.data) := by
  unfold Ent.key
  rw [h1, h2]
  by_cases h : a.data = b.data
  · rw [h]; simp
  · rw [beq_eq_false_iff_ne.2 h, beq_eq_false_iff_ne]
    intro e
    exact h (congrArg (fun x : Int × Int × List UInt8 => x.2.2) e)

set_option maxHeartbeats 800000 in
theorem rsame_calls (a b : Ent) (w : World) (ha : Bytes w a.dv a.data) (hb : Bytes w b.dv b.data) :
    Calls Try.prog 12 #[.agg #[.int .i64 a.f, .int .i64 a.t, a.dv], .agg #[.int .i64 b.f, .int .i64 b.t, b.dv]] w fun e w' => e = .returned (.bool (a.key == b.key)) ∧ Below w.heap.size w w' := by
  have hkf := @key_f a b
  have hkt := @key_t a b
  have hkd := @key_d a b
  obtain ⟨af, at_, adv, axs⟩ := a
  obtain ⟨bf, bt_, bdv, bxs⟩ := b
  simp only at ha hb hkf hkt hkd ⊢
  generalize ((⟨af, at_, adv, axs⟩ : Ent).key == (⟨bf, bt_, bdv, bxs⟩ : Ent).key) = r at *
  have HA := Lib.hid ha
  have HB := Lib.hid hb
  obtain ⟨aa, ac, rfl, -⟩ := ha
  obtain ⟨ba, bc, rfl, -⟩ := hb
  obtain ⟨X, hX⟩ : ∃ X, X = (w.alloc (.cells #[.int .i64 af, .int .i64 at_, .slice aa axs.length ac] 32)).alloc (.cells #[.int .i64 bf, .int .i64 bt_, .slice ba bxs.length bc] 32) := ⟨_, rfl⟩
  obtain ⟨hXs, ⟨p0, p1, p2⟩, ⟨q0, q1, q2⟩, -, hbX⟩ := two_boxes w _ _ _ _ _ _ _ X hX
  have HBX := Lib.hid hbX
  have HX := Lib.hid hX
  have HF := Lib.hid hkf
  have HT := Lib.hid hkt
  have HD := Lib.hid hkd
  clear hX hbX hkf hkt hkd
  by_cases h1 : af = bf
  · by_cases h2 : at_ = bt_
    · subst h1 h2
      have hr : r = (axs == bxs) := HD.out rfl rfl
      subst hr
      go_enter Try.func12, Try.ntmps12
      go_wp2_with fail
      rw [← HX.out]
      refine (same_calls _ _ axs bxs X (HA.out.below HBX.out (Nat.le_refl _)) (HB.out.below HBX.out (Nat.le_refl _))).mono ?_
      rintro e w' ⟨rfl, rfl⟩
      go_wp2_with fail
      go_ret
      exact ⟨rfl, HBX.out⟩
    · have hr : r = false := HT.out h2
      subst hr
      subst h1
      have k2 : (at_ == bt_) = false := beq_eq_false_iff_ne.2 h2
      go_enter Try.func12, Try.ntmps12
      go_wp2_with fail
      go_ret
      exact ⟨rfl, by rw [← HX.out]; exact HBX.out⟩
  · have hr : r = false := HF.out h1
    subst hr
    have k1 : (af == bf) = false := beq_eq_false_iff_ne.2 h1
    go_enter Try.func12, Try.ntmps12
    go_wp2_with fail
    go_ret
    exact ⟨rfl, by rw [← HX.out]; exact HBX.out⟩
end Go.Proofs.Ytpmkepmnldkccaa
