/- The walks: Same, Copy, Clone, spoil. -/
import Derived.Test.YtanghkleojjplaaMem
import Derived.Deep.QuietTactic
import Derived.BigQuiet
namespace Go.Proofs.Ytanghkleojjplaa
open Go.RowKit

theorem bol_ret {a b : Bool} (h : b = a) : Ending.returned (.bool a) = .returned (.bool b) := by rw [h]
theorem eq_of_ix {n : Nat} {l m : List Int} (hl : l.length = n) (hm : m.length = n) (h : ∀ j, j < n → ix l j = ix m j) : l = m :=
  ext_ix (by omega) fun j hj => h j (by omega)

set_option maxHeartbeats 800000 in
theorem same_any (w : World) (B B' : Nat) (A A' : Option Addr) (n c n' c' : Nat) (l m : List Int) (h : Ints w B A n l) (g : Ints w B' A' n' m) (b : Bool) (hb : b = decide (l = m)) :
    Calls Try.prog 16 #[.slice A n c, .slice A' n' c'] w fun e w' => e = .returned (.bool b) ∧ Dn w w' := by
  have hm : n ≤ 9223372036854775807 := h.small
  have gm : n' ≤ 9223372036854775807 := g.small
  have Hl := Lib.hid h.len
  have Gl := Lib.hid g.len
  have Hb := Lib.hid hb
  clear hb
  by_cases hn : n = n'
  case neg =>
    have hne : ((n : Int) == n') = false := by simp; omega
    have hne' : ((n : Int) != n') = true := by simp; omega
    go_enter Try.func16, Try.ntmps16
    go_wp2
    go_ret
    exact ⟨bol_ret (by rw [Hb.out]; simp; intro e; rw [e, Gl.out] at Hl; exact hn Hl.out.symm), 0, rfl⟩
  case pos =>
    subst hn
    go_enter Try.func16, Try.ntmps16
    go_wp2_with fail
    go_loopw [5] (fun i wr => ∃ k : Nat, k ≤ n ∧ i = .int .i64 k ∧ (∀ j, j < k → ix l j = ix m j) ∧ ∃ q, wr = w.drewN q) (fun i _ => n - (intOf i).toNat)
    case atStart => exact ⟨0, Nat.zero_le _, rfl, fun j hj => absurd hj (by omega), 0, rfl⟩
    case round =>
      obtain ⟨k, hk, rfl, hall, q, rfl⟩ := hrel
      have Hall := Lib.hid hall
      clear hall
      by_cases hlt : k < n
      · obtain ⟨b1, off1, rfl, hb1, hc1⟩ := h.get hlt
        obtain ⟨b2, off2, rfl, hb2, hc2⟩ := g.get hlt
        by_cases he : ix l k = ix m k
        · have he' : (ix l k != ix m k) = false := by simp [he]
          have He := Lib.hid he
          clear he
          go_wp2
          go_quiet (fail)
          go_wp2
          go_roundw
          case rel => exact ⟨k + 1, by omega, by go_num, fun j hj => by
            by_cases e : j = k
            · rw [e]; exact He.out
            · exact Hall.out j (by omega), _, rfl⟩
          case measure => simp [intOf]; omega
        · have he' : (ix l k != ix m k) = true := by simp [he]
          go_wp2
          go_quiet (fail)
          go_wp2
          go_ret
          exact ⟨bol_ret (by rw [Hb.out]; simp; intro e; rw [e] at he; exact he rfl), _, World.drewN_drewN _ _ _⟩
      · go_wp2
        go_ret
        exact ⟨bol_ret (by rw [Hb.out]; simp; exact eq_of_ix Hl.out Gl.out fun j hj => Hall.out j (by omega)), q, rfl⟩

set_option maxHeartbeats 400000 in
theorem copy_any (w : World) (B : Nat) (A : Option Addr) (n c : Nat) (l : List Int) (h : Ints w B A n l) (hr : n * 8 ≤ 140737488351232) :
    Calls Try.prog 11 #[.slice A n c] w fun e w' => ∃ v, e = .returned v ∧ Own w' w.heap.size v l ∧ Below w.heap.size w w' := by
  obtain ⟨i0, hi, hz0, hz1, hz2⟩ := info_parts Try.info3
  go_enter Try.func11, Try.ntmps11
  go_wp2_with (at_builtin; refine wpList_append_ints _ rfl _ _ 22 rfl i0 Try.underlying22 hi hz0 hz1 hz2 w.heap.size _ [] rfl (own_nil _ _) B A n c l rfl h (by simp; omega) (Nat.le_refl _) ?_; intro v' w1 hown hgrow)
  go_ret
  exact ⟨_, rfl, hown, (own_nil w _).belowGrown (Below.refl _ _) hgrow (Nat.le_refl _)⟩

set_option maxHeartbeats 400000 in
theorem clone_any (w : World) (B : Nat) (A : Option Addr) (n c : Nat) (l : List Int) (h : Ints w B A n l) (hB : B ≤ w.heap.size) (hr : n * 8 ≤ 140737488351232) :
    Calls Try.prog 27 #[.slice A n c] w fun e w' => ∃ A' n' c', e = .returned (.slice A' n' c') ∧ n' = l.length ∧ Own w' w.heap.size (.slice A' n' c') l ∧ Below w.heap.size w w' := by
  obtain ⟨i0, hi, hz0, hz1, hz2⟩ := info_parts Try.info3
  have q1 := @Lib.run_eql_slice_nil
  cases A with
  | none =>
    have h0 : n = 0 := by
      rcases Nat.eq_zero_or_pos n with e | e
      · exact e
      · obtain ⟨b, o, e, _⟩ := h.at_ e
        cases e
    subst h0
    have hl := h.nil_
    subst hl
    go_enter Try.func27, Try.ntmps27
    go_wp2
    go_ret
    exact ⟨_, _, _, rfl, rfl, own_nil _ _, Below.refl _ _⟩
  | some a =>
    go_enter Try.func27, Try.ntmps27
    go_wp2_with (at_builtin; refine wpList_append_ints _ rfl _ _ 22 rfl i0 Try.underlying22 hi hz0 hz1 hz2 w.heap.size _ [] rfl (own_lit w w.heap.size [] (Nat.le_refl _) (Nat.zero_le _)) B (some a) n c l rfl (h.alloc hB _) (by simp; omega) (by simp) ?_; intro v' w1 hown hgrow)
    obtain ⟨A', c', rfl⟩ := hown.form
    go_wp2
    go_ret
    exact ⟨_, _, _, rfl, rfl, hown, (own_lit w w.heap.size [] (Nat.le_refl _) (Nat.zero_le _)).belowGrown ((Below.refl _ _).alloc (Nat.le_refl _) _) hgrow (by simp)⟩

set_option maxHeartbeats 400000 in
theorem spoil_any (w : World) (B : Nat) (A : Option Addr) (n c : Nat) (l : List Int) (h : Own w B (.slice A n c) l) (hn : n = l.length) :
    Calls Try.prog 17 #[.slice A n c] w fun e w' => e = .returned (.tuple #[]) ∧ Below B w w' := by
  have hm := (h.ints hn).int
  go_enter Try.func17, Try.ntmps17
  go_wp2_with fail
  go_loopw [2] (fun i wr => ∃ k : Nat, k ≤ n ∧ i = .int .i64 k ∧ Below B w wr ∧ ∃ l', Own wr B (.slice A n c) l' ∧ n = l'.length) (fun i _ => n - (intOf i).toNat)
  case atStart => exact ⟨0, Nat.zero_le _, rfl, Below.refl _ _, l, h, hn⟩
  case round =>
    obtain ⟨k, hk, rfl, hb, l', ho, hn'⟩ := hrel
    have Hn' := Lib.hid hn'
    clear hn'
    by_cases hlt : k < n
    · obtain ⟨g, o, rfl, hg, hc⟩ := (ho.ints Hn'.out).get hlt
      have e : o = 0 := by
        rcases ho.1.2 with ⟨e, _⟩ | ⟨g', cap, cur, e, _⟩
        · simp at e
        · simp at e; exact e.1.2
      subst e
      obtain ⟨r1, r2⟩ := ho.read Hn'.out k hlt
      go_wp2
      go_roundw
      case rel => exact ⟨k + 1, by omega, by go_num, hb.setCell ho.base _, _, ho.set_ Hn'.out k _, by rw [List.length_set]; exact Hn'.out⟩
      case measure => simp [intOf]; omega
    · go_wp2
      go_end0
      exact ⟨rfl, hb⟩
end Go.Proofs.Ytanghkleojjplaa
