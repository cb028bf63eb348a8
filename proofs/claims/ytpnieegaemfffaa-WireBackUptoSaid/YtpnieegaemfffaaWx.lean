/- The walks: what stands behind a field's head, every kind; and the reference's form of a field. -/
import Derived.Test.YtpnieegaemfffaaWu
import Derived.Test.YtpnieegaemfffaaWv
namespace Go.Proofs.Ytpnieegaemfffaa
open Go.RowKit

set_option maxRecDepth 100000 in
set_option maxHeartbeats 1600000 in
theorem content_o (num kind u : Int) (b : ByteArray) (w : World) (k0 : kind ≠ 0) (k1 : kind ≠ 1) (k2 : kind ≠ 2) (k5 : kind ≠ 5) : Calls Try.prog 29 #[(Fd.mk num kind u b).val] w (ContIs ⟨num, kind, u, b⟩ w) := by
  have e0 : (kind == 0) = false := by simpa using k0
  have e1 : (kind == 1) = false := by simpa using k1
  have e2 : (kind == 2) = false := by simpa using k2
  have e5 : (kind == 5) = false := by simpa using k5
  have K0 := Lib.hid k0
  have K1 := Lib.hid k1
  have K2 := Lib.hid k2
  have K5 := Lib.hid k5
  clear k0 k1 k2 k5
  unfold Fd.val
  go_enter Try.func29, Try.ntmps29
  go_wp2
  all_goals
    go_ret2
    exact cont_ret ((Below.refl _ _).alloc (Nat.le_refl _) _) (fun h => by cases h) (fun _ h => by rcases h.2.2 with ⟨h, _⟩ | ⟨h, _⟩ | ⟨h, _⟩ | ⟨h, _⟩ <;> first | exact K0.out h | exact K1.out h | exact K2.out h | exact K5.out h)
theorem content_any (f : Fd) (w : World) (h : FdOk f) : Calls Try.prog 29 #[f.val] w (ContIs f w) := by
  obtain ⟨num, kind, u, b⟩ := f
  by_cases k0 : kind = 0
  · subst k0; exact content_0 num u b w h
  by_cases k1 : kind = 1
  · subst k1; exact content_1 num u b w h
  by_cases k2 : kind = 2
  · subst k2; exact content_2 num u b w h
  by_cases k5 : kind = 5
  · subst k5; exact content_5 num u b w h
  exact content_o num kind u b w k0 k1 k2 k5

/-- What one leaves. -/
def OneIs (f : Fd) (w : World) (e : Ending) (w' : World) : Prop := ((GoodF f ∧ e = .returned (.tuple #[.string (formB f), .bool true])) ∨ (¬ GoodF f ∧ e = .returned (.tuple #[.string ⟨#[]⟩, .bool false]))) ∧ Below w.heap.size w w'
theorem one_no {f : Fd} {w w' : World} (hb : Below w.heap.size w w') (h : ¬ GoodF f) : OneIs f w (.returned (.tuple #[.string ⟨#[]⟩, .bool false])) w' := ⟨.inr ⟨h, rfl⟩, hb⟩
theorem one_yes {f : Fd} {w w' : World} {c : ByteArray} (hb : Below w.heap.size w w') (h : GoodF f) (hc : c = formB f) : OneIs f w (.returned (.tuple #[.string c, .bool true])) w' := by subst hc; exact ⟨.inl ⟨h, rfl⟩, hb⟩
theorem venc_sz (a : Int) : (strOfNums (venc a)).size ≤ 10 := by rw [strOfNums_size]; exact (vencF_len 9 a).2

set_option maxRecDepth 100000 in
set_option maxHeartbeats 1600000 in
theorem one_bad (num kind u : Int) (b : ByteArray) (w : World) (h : num < 1 ∨ 536870911 < num ∨ (kind ≠ 2 ∧ b ≠ ⟨#[]⟩) ∨ (kind = 2 ∧ u ≠ 0)) : Calls Try.prog 30 #[(Fd.mk num kind u b).val] w (OneIs ⟨num, kind, u, b⟩ w) := by
  have hbad : Hid (¬ GoodF ⟨num, kind, u, b⟩) := Lib.hid (by
    rintro ⟨g1, g2, g3⟩
    dsimp only at g1 g2 g3
    rcases h with h | h | ⟨h, h'⟩ | ⟨h, h'⟩
    · omega
    · omega
    · rcases g3 with ⟨_, g⟩ | ⟨_, g⟩ | ⟨_, g, _⟩ | ⟨g, _⟩
      · exact h' g
      · exact h' g
      · exact h' g
      · exact h g
    · rcases g3 with ⟨g, _⟩ | ⟨g, _⟩ | ⟨g, _⟩ | ⟨_, g⟩ <;> first | exact h' g | omega)
  unfold Fd.val
  rcases h with h | h | ⟨h, h'⟩ | ⟨rfl, h'⟩
  · go_enter Try.func30, Try.ntmps30
    go_wp2
    go_ret2
    exact one_no ((Below.refl _ _).alloc (Nat.le_refl _) _) hbad.out
  · go_enter Try.func30, Try.ntmps30
    go_wp2
    go_ret2
    exact one_no ((Below.refl _ _).alloc (Nat.le_refl _) _) hbad.out
  · have e1 : (kind == 2) = false := by simpa using h
    have e2 := empty_ne h'
    clear h'
    go_enter Try.func30, Try.ntmps30
    go_wp2
    all_goals
      go_ret2
      exact one_no ((Below.refl _ _).alloc (Nat.le_refl _) _) hbad.out
  · have e1 : (u == 0) = false := by simpa using h'
    have e2 : (u != 0) = true := by simpa using h'
    go_enter Try.func30, Try.ntmps30
    go_wp2
    all_goals
      go_ret2
      exact one_no ((Below.refl _ _).alloc (Nat.le_refl _) _) hbad.out
end Go.Proofs.Ytpnieegaemfffaa
