/- The walks: offsets. -/
import Derived.Test.YtanghkleojjplaaWc
import Derived.Deep.QuietTactic
import Derived.BigQuiet
namespace Go.Proofs.Ytanghkleojjplaa
open Go.RowKit

/-- What an offset is: four ways. -/
def OffIs (l a : List Int) (x err : Int) : Prop :=
  (Bad l err ∧ x = 0) ∨ (Good l ∧ a.length ≠ l.length ∧ x = 0 ∧ err = 1) ∨ (Good l ∧ a.length = l.length ∧ ¬ Within l a ∧ x = 0 ∧ err = 1) ∨ (Good l ∧ a.length = l.length ∧ Within l a ∧ x = offTo l a l.length ∧ err = 0)
theorem offIs_any (l a : List Int) : ∃ x err, OffIs l a x err := by
  rcases bad_ways l with h | ⟨err, _, h⟩
  · by_cases h1 : a.length = l.length
    · by_cases h2 : Within l a
      · exact ⟨_, _, .inr (.inr (.inr ⟨h, h1, h2, rfl, rfl⟩))⟩
      · exact ⟨_, _, .inr (.inr (.inl ⟨h, h1, h2, rfl, rfl⟩))⟩
    · exact ⟨_, _, .inr (.inl ⟨h, h1, rfl, rfl⟩)⟩
  · exact ⟨_, _, .inl ⟨h, rfl⟩⟩
theorem bad_not_good {l : List Int} {err : Int} (h : Bad l err) : ¬ Good l := fun g => by
  have e := (h.1.same (countIs_good g)).2
  rcases h.2 with h | h <;> omega
theorem OffIs.out {l a : List Int} {x err : Int} (h : OffIs l a x err) (hg : Good l) (hw : ¬ (a.length = l.length ∧ Within l a)) : 0 = x ∧ 1 = err := by
  rcases h with ⟨h, _⟩ | ⟨_, _, rfl, rfl⟩ | ⟨_, _, _, rfl, rfl⟩ | ⟨_, h1, h2, _⟩
  · exact absurd hg (bad_not_good h)
  · exact ⟨rfl, rfl⟩
  · exact ⟨rfl, rfl⟩
  · exact absurd ⟨h1, h2⟩ hw
theorem OffIs.ok {l a : List Int} {x err : Int} (h : OffIs l a x err) (hg : Good l) (h1 : a.length = l.length) (hw : Within l a) : offTo l a l.length = x ∧ 0 = err := by
  rcases h with ⟨h, _⟩ | ⟨_, h2, rfl, rfl⟩ | ⟨_, _, h2, rfl, rfl⟩ | ⟨_, _, _, rfl, rfl⟩
  · exact absurd hg (bad_not_good h)
  · exact absurd h1 h2
  · exact absurd hw h2
  · exact ⟨rfl, rfl⟩
theorem two_ret' {x y a b : Int} (h : a = x ∧ b = y) : Ending.returned (.tuple #[.int .i64 a, .int .i64 b]) = .returned (.tuple #[.int .i64 x, .int .i64 y]) := by
  rw [h.1, h.2]

set_option maxHeartbeats 800000 in
theorem offset_bad (w : World) (B : Nat) (A : Option Addr) (n c : Nat) (l : List Int) (h : Ints w B A n l) (A' : Option Addr) (n' c' : Nat) (err : Int) (hb : Bad l err) :
    Calls Try.prog 21 #[.slice A n c, .slice A' n' c'] w (Num w 0 err) := by
  refine hb.cases (P := fun err => Calls Try.prog 21 #[.slice A n c, .slice A' n' c'] w (Num w 0 err)) (fun hc => ?_) (fun hc => ?_)
  all_goals
    have Hb := Lib.hid (show Bad l _ from ⟨hc, by simp⟩)
    clear hb hc
    go_enter Try.func21, Try.ntmps21
    go_wp2_with (go_at_call 14; refine (strides_bad w B A n c l h _ Hb.out).mono ?_; rintro e w1 ⟨As, ns, cs, rfl, _, _, hbel⟩)
    go_ret2
    exact ⟨rfl, hbel⟩

set_option maxHeartbeats 800000 in
theorem offset_good (w : World) (B B' : Nat) (A A' : Option Addr) (n c n' c' : Nat) (l a : List Int) (h : Ints w B A n l) (g : Ints w B' A' n' a) (hB : B ≤ w.heap.size) (hB' : B' ≤ w.heap.size) (hg : Good l) (x err : Int) (ho : OffIs l a x err) :
    Calls Try.prog 21 #[.slice A n c, .slice A' n' c'] w (Num w x err) := by
  have hm : n ≤ 9223372036854775807 := h.small
  have gm : n' ≤ 9223372036854775807 := g.small
  have Hl := Lib.hid h.len
  have Gl := Lib.hid g.len
  have hp := hg.1
  have Hg := Lib.hid hg
  have Ho := Lib.hid ho
  clear ho hg
  by_cases hn : n' = n
  case neg =>
    have hne : ((n' : Int) != n) = true := by simp; omega
    go_enter Try.func21, Try.ntmps21
    go_wp2_with (go_at_call 14; refine (strides_good w B A n c l h hB Hg.out).mono ?_; rintro e w1 ⟨As, ns, cs, rfl, _, _, hbel⟩)
    go_ret2
    exact ⟨two_ret' (Ho.out.out Hg.out fun e => hn (by rw [← Gl.out, ← Hl.out]; exact e.1)), hbel⟩
  case pos =>
    subst hn
    have hne : ((n' : Int) != n') = false := by simp
    go_enter Try.func21, Try.ntmps21
    go_wp2_with fail
    refine (strides_good w B A n' c l h hB Hg.out).mono ?_
    rintro e w1 ⟨As, ns, cs, rfl, hns, hown, hbel⟩
    have hs := hown.ints hns
    rw [st_length, Hl.out] at hns
    subst hns
    have h' := h.below (hbel.mono hB) (Nat.le_refl _)
    have g' := g.below (hbel.mono hB') (Nat.le_refl _)
    go_wp2_with fail
    go_loop [8, 26] (fun s i => ∃ k : Nat, k ≤ ns ∧ i = .int .i64 k ∧ s = .int .i64 (offTo l a k) ∧ ∀ j, j < k → 0 ≤ ix a j ∧ ix a j < ix l j) (fun _ i => ns - (intOf i).toNat)
    case atStart => exact ⟨0, Nat.zero_le _, rfl, rfl, fun j hj => absurd hj (by omega)⟩
    case round =>
      obtain ⟨k, hk, rfl, rfl, hall⟩ := hrel
      have Hall := Lib.hid hall
      clear hall
      by_cases hlt : k < ns
      · obtain ⟨b1, o1, rfl, hb1, hc1⟩ := h'.get hlt
        obtain ⟨b2, o2, rfl, hb2, hc2⟩ := g'.get hlt
        obtain ⟨b3, o3, rfl, hb3, hc3⟩ := hs.get hlt
        rw [st_ix l k (by rw [Hl.out]; exact hlt)] at hc3
        by_cases h1 : ix a k < 0
        · go_wp2
          go_ret2
          exact ⟨two_ret' (Ho.out.out Hg.out fun e => by have := e.2 k (by rw [Hl.out]; exact hlt); omega), hbel⟩
        · by_cases h2 : ix a k < ix l k
          · have hall' : ∀ j, j < k + 1 → 0 ≤ ix a j ∧ ix a j < ix l j := fun j hj => by
              by_cases e : j = k
              · subst e; omega
              · exact Hall.out j (by omega)
            obtain ⟨q1, q2⟩ := offTo_bd l a (k + 1) (by rw [Hl.out]; omega) hp hall'
            obtain ⟨q3, q4⟩ := offTo_bd l a k (by rw [Hl.out]; omega) hp Hall.out
            have Hall' := Lib.hid hall'
            clear hall'
            have hpr := Hg.out.2.2
            have He := Lib.hid (show offTo l a (k + 1) = offTo l a k + ix a k * prod (l.drop (k + 1)) from rfl)
            have hq := prod_pos (pos_drop hp (k + 1))
            have q5 : 0 ≤ ix a k * prod (l.drop (k + 1)) := Int.mul_nonneg (by omega) (by omega)
            have q6 : offTo l a k + ix a k * prod (l.drop (k + 1)) ≤ 65536 := by rw [← He.out]; omega
            go_wp2
            go_round
            case rel => exact ⟨k + 1, by omega, by go_num, by rw [He.out], Hall'.out⟩
            case measure => simp [intOf]; omega
          · go_wp2
            go_ret2
            exact ⟨two_ret' (Ho.out.out Hg.out fun e => by have := e.2 k (by rw [Hl.out]; exact hlt); omega), hbel⟩
      · have e : k = l.length := by rw [Hl.out]; omega
        have Hr := Lib.hid (show offTo l a k = x ∧ 0 = err by
          rw [e]; exact Ho.out.ok Hg.out (by rw [Gl.out, Hl.out]) fun j hj => Hall.out j (by omega))
        clear e
        go_wp2
        go_ret2
        exact ⟨two_ret' Hr.out, hbel⟩

theorem offset_any (w : World) (B B' : Nat) (A A' : Option Addr) (n c n' c' : Nat) (l a : List Int) (h : Ints w B A n l) (g : Ints w B' A' n' a) (hB : B ≤ w.heap.size) (hB' : B' ≤ w.heap.size) (x err : Int) (ho : OffIs l a x err) :
    Calls Try.prog 21 #[.slice A n c, .slice A' n' c'] w (Num w x err) := by
  by_cases hg : Good l
  · exact offset_good w B B' A A' n c n' c' l a h g hB hB' hg x err ho
  · rcases ho with ⟨hb, rfl⟩ | ⟨h1, _⟩ | ⟨h1, _⟩ | ⟨h1, _⟩
    · exact offset_bad w B A n c l h A' n' c' err hb
    · exact absurd h1 hg
    · exact absurd h1 hg
    · exact absurd h1 hg

set_option maxHeartbeats 800000 in
theorem roffset_bad (w : World) (B : Nat) (A : Option Addr) (n c : Nat) (l : List Int) (h : Ints w B A n l) (A' : Option Addr) (n' c' : Nat) (err : Int) (hb : Bad l err) :
    Calls Try.prog 22 #[.slice A n c, .slice A' n' c'] w (Num w 0 err) := by
  refine hb.cases (P := fun err => Calls Try.prog 22 #[.slice A n c, .slice A' n' c'] w (Num w 0 err)) (fun hc => ?_) (fun hc => ?_)
  all_goals
    have Hb := Lib.hid hc
    clear hb hc
    go_enter Try.func22, Try.ntmps22
    go_wp2_with (go_at_call 13; refine (rcount_any w B A n c l h _ _ Hb.out).mono ?_; rintro e w1 ⟨rfl, rfl⟩)
    go_ret2
    exact ⟨rfl, Below.refl _ _⟩

set_option maxHeartbeats 800000 in
theorem roffset_good (w : World) (B B' : Nat) (A A' : Option Addr) (n c n' c' : Nat) (l a : List Int) (h : Ints w B A n l) (g : Ints w B' A' n' a) (hg : Good l) (x err : Int) (ho : OffIs l a x err) :
    Calls Try.prog 22 #[.slice A n c, .slice A' n' c'] w (Num w x err) := by
  have hm : n ≤ 9223372036854775807 := h.small
  have gm : n' ≤ 9223372036854775807 := g.small
  have Hl := Lib.hid h.len
  have Gl := Lib.hid g.len
  have hp := hg.1
  have Hg := Lib.hid hg
  have Hc := Lib.hid (countIs_good hg)
  have Ho := Lib.hid ho
  clear ho hg
  by_cases hn : n' = n
  case neg =>
    have hne : ((n' : Int) != n) = true := by simp; omega
    go_enter Try.func22, Try.ntmps22
    go_wp2_with (go_at_call 13; refine (rcount_any w B A n c l h _ _ Hc.out).mono ?_; rintro e w1 ⟨rfl, rfl⟩)
    go_ret2
    exact ⟨two_ret' (Ho.out.out Hg.out fun e => hn (by rw [← Gl.out, ← Hl.out]; exact e.1)), Below.refl _ _⟩
  case pos =>
    subst hn
    have hne : ((n' : Int) != n') = false := by simp
    go_enter Try.func22, Try.ntmps22
    go_wp2_with (go_at_call 13; refine (rcount_any w B A n' c l h _ _ Hc.out).mono ?_; rintro e w1 ⟨rfl, rfl⟩)
    go_loopw [8, 9] (fun s i wr => ∃ k : Nat, k ≤ n' ∧ i = .int .i64 k ∧ s = .int .i64 (horner l a k) ∧ (∀ j, j < k → 0 ≤ ix a j ∧ ix a j < ix l j) ∧ ∃ q, wr = w.drewN q) (fun _ i _ => n' - (intOf i).toNat)
    case atStart => exact ⟨0, Nat.zero_le _, rfl, rfl, fun j hj => absurd hj (by omega), 0, rfl⟩
    case round =>
      obtain ⟨k, hk, rfl, rfl, hall, q, rfl⟩ := hrel
      have Hall := Lib.hid hall
      clear hall
      by_cases hlt : k < n'
      · obtain ⟨b1, o1, rfl, hb1, hc1⟩ := h.get hlt
        obtain ⟨b2, o2, rfl, hb2, hc2⟩ := g.get hlt
        have hlt' : (k : Int) < n' := by omega
        have hk0 : (0 : Int) ≤ k := by omega
        by_cases h1 : ix a k < 0
        · have d1 : decide (ix a k < 0) = true := by simpa using h1
          go_wp2
          go_quiet (fail)
          go_wp2
          go_ret2
          exact ⟨two_ret' (Ho.out.out Hg.out fun e => by have := e.2 k (by rw [Hl.out]; exact hlt); omega), Dn.below (Dn.drewN (Dn.drewN (Dn.refl _) _) _) _⟩
        · have d1 : decide (ix a k < 0) = false := by simpa using h1
          by_cases h2 : ix a k < ix l k
          · have hall' : ∀ j, j < k + 1 → 0 ≤ ix a j ∧ ix a j < ix l j := fun j hj => by
              by_cases e : j = k
              · subst e; omega
              · exact Hall.out j (by omega)
            obtain ⟨q1, q2⟩ := horner_bd l a (k + 1) (by rw [Hl.out]; omega) hall'
            obtain ⟨q3, q4⟩ := horner_bd l a k (by rw [Hl.out]; omega) Hall.out
            have Hall' := Lib.hid hall'
            clear hall'
            have hpr := Hg.out.2.2
            have hpt := prod_take_le hp (k + 1)
            have He := Lib.hid (show horner l a (k + 1) = horner l a k * ix l k + ix a k from rfl)
            have q5 : 0 ≤ horner l a k * ix l k := Int.mul_nonneg (by omega) (by omega)
            have q6 : horner l a k * ix l k + ix a k ≤ 65536 := by rw [← He.out]; omega
            go_wp2
            go_quiet (fail)
            go_wp2
            go_quiet (fail)
            go_wp2
            go_roundw
            case rel => exact ⟨k + 1, by omega, by go_num, by rw [He.out], Hall'.out, _, rfl⟩
            case measure => simp [intOf]; omega
          · go_wp2
            go_quiet (fail)
            go_wp2
            go_ret2
            exact ⟨two_ret' (Ho.out.out Hg.out fun e => by have := e.2 k (by rw [Hl.out]; exact hlt); omega), Dn.below (Dn.drewN (Dn.drewN (Dn.refl _) _) _) _⟩
      · have e : k = l.length := by rw [Hl.out]; omega
        have Hr := Lib.hid (show horner l a k = x ∧ 0 = err by
          rw [e, horner_all]; exact Ho.out.ok Hg.out (by rw [Gl.out, Hl.out]) fun j hj => Hall.out j (by omega))
        clear e
        go_wp2
        go_ret2
        exact ⟨two_ret' Hr.out, below_drewN (Below.refl _ _) _⟩

theorem roffset_any (w : World) (B B' : Nat) (A A' : Option Addr) (n c n' c' : Nat) (l a : List Int) (h : Ints w B A n l) (g : Ints w B' A' n' a) (x err : Int) (ho : OffIs l a x err) :
    Calls Try.prog 22 #[.slice A n c, .slice A' n' c'] w (Num w x err) := by
  by_cases hg : Good l
  · exact roffset_good w B B' A A' n c n' c' l a h g hg x err ho
  · rcases ho with ⟨hb, rfl⟩ | ⟨h1, _⟩ | ⟨h1, _⟩ | ⟨h1, _⟩
    · exact roffset_bad w B A n c l h A' n' c' err hb
    · exact absurd h1 hg
    · exact absurd h1 hg
    · exact absurd h1 hg
end Go.Proofs.Ytanghkleojjplaa
