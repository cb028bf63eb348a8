/- The walks: counts. -/
import Derived.Test.YtanghkleojjplaaMem
namespace Go.Proofs.Ytanghkleojjplaa
open Go.RowKit

set_option maxHeartbeats 400000 in
theorem neg_any (a : Int) (w : World) :
    Calls Try.prog 26 #[.int .i64 a] w fun e w' => e = .returned (.bool (decide (a < 1))) ∧ w = w' := by
  go_enter Try.func26, Try.ntmps26
  go_wp2
  go_ret
  exact ⟨rfl, rfl⟩
theorem neg_yes (a : Int) (w : World) (h : a < 1) :
    Calls Try.prog 26 #[.int .i64 a] w fun e w' => e = .returned (.bool true) ∧ w = w' := by
  refine (neg_any a w).mono ?_; rintro e w' ⟨rfl, rfl⟩; exact ⟨by simp [h], rfl⟩
theorem neg_no (a : Int) (w : World) (h : ¬ a < 1) :
    Calls Try.prog 26 #[.int .i64 a] w fun e w' => e = .returned (.bool false) ∧ w = w' := by
  refine (neg_any a w).mono ?_; rintro e w' ⟨rfl, rfl⟩; exact ⟨by simp <;> omega, rfl⟩

def IdxPost (l : List Int) (w : World) (e : Ending) (w' : World) : Prop := ∃ i : Int, e = .returned (.int .i64 i) ∧ ((0 ≤ i ∧ ¬ Pos l) ∨ (i < 0 ∧ Pos l)) ∧ w = w'

set_option maxHeartbeats 400000 in
theorem idx_any (w : World) (B : Nat) (A : Option Addr) (n c : Nat) (l : List Int) (h : Ints w B A n l) :
    Calls Try.prog 29 #[.slice A n c, .func (.func 26) #[] #[]] w (IdxPost l w) := by
  have hm : n ≤ 9223372036854775807 := h.small
  go_enter Try.func29, Try.ntmps29
  go_wp2_with fail
  go_loop [8] (fun i => ∃ k : Nat, k ≤ n ∧ i = .int .i64 k ∧ ∀ j, j < k → 1 ≤ ix l j) (fun i => n - (intOf i).toNat)
  case atStart => exact ⟨0, Nat.zero_le _, rfl, fun j hj => absurd hj (by omega)⟩
  case round =>
    obtain ⟨k, hk, rfl, hall⟩ := hrel
    have Hall := Lib.hid hall
    clear hall
    by_cases hlt : k < n
    · obtain ⟨b, off, rfl, hb, hc⟩ := h.get hlt
      by_cases h1 : ix l k < 1
      · go_wp2_with (go_at_call 26; refine (neg_yes _ _ h1).mono ?_; rintro e w' ⟨rfl, rfl⟩)
        go_ret
        exact ⟨_, rfl, .inl ⟨by omega, fun hp => by have := pos_ix hp k (by rw [h.len]; exact hlt); omega⟩, rfl⟩
      · go_wp2_with (go_at_call 26; refine (neg_no _ _ h1).mono ?_; rintro e w' ⟨rfl, rfl⟩)
        go_round
        case rel => exact ⟨k + 1, by omega, by go_num, fun j hj => by
          by_cases e : j = k
          · subst e; omega
          · exact Hall.out j (by omega)⟩
        case measure => simp [intOf]; omega
    · go_wp2
      go_ret
      exact ⟨_, rfl, .inr ⟨by omega, pos_of_ix fun j hj => Hall.out j (by rw [h.len] at hj; omega)⟩, rfl⟩

set_option maxHeartbeats 400000 in
theorem has_no (w : World) (B : Nat) (A : Option Addr) (n c : Nat) (l : List Int) (h : Ints w B A n l) (hp : Pos l) :
    Calls Try.prog 25 #[.slice A n c, .func (.func 26) #[] #[]] w fun e w' => e = .returned (.bool false) ∧ w = w' := by
  have Hp := Lib.hid hp
  clear hp
  go_enter Try.func25, Try.ntmps25
  go_wp2_with fail
  refine (idx_any w B A n c l h).mono ?_
  rintro e w' ⟨i, rfl, hi, rfl⟩
  have hi' : i < 0 := by
    rcases hi with ⟨_, h2⟩ | ⟨h1, _⟩
    · exact absurd Hp.out h2
    · exact h1
  clear hi
  go_wp2
  go_ret
  exact ⟨by simp <;> omega, rfl⟩
set_option maxHeartbeats 400000 in
theorem has_yes (w : World) (B : Nat) (A : Option Addr) (n c : Nat) (l : List Int) (h : Ints w B A n l) (hp : ¬ Pos l) :
    Calls Try.prog 25 #[.slice A n c, .func (.func 26) #[] #[]] w fun e w' => e = .returned (.bool true) ∧ w = w' := by
  have Hp := Lib.hid hp
  clear hp
  go_enter Try.func25, Try.ntmps25
  go_wp2_with fail
  refine (idx_any w B A n c l h).mono ?_
  rintro e w' ⟨i, rfl, hi, rfl⟩
  have hi' : 0 ≤ i := by
    rcases hi with ⟨h1, _⟩ | ⟨_, h2⟩
    · exact h1
    · exact absurd h2 Hp.out
  clear hi
  go_wp2
  go_ret
  exact ⟨by simp <;> omega, rfl⟩

theorem div_gt {d q : Int} (hq : 1 ≤ q) : 65536 / q < d ↔ 65536 < q * d := by
  rw [Int.ediv_lt_iff_lt_mul (by omega), Int.mul_comm]
theorem two_ret {x y a b : Int} (h : x = a ∧ y = b) : Ending.returned (.tuple #[.int .i64 a, .int .i64 b]) = .returned (.tuple #[.int .i64 x, .int .i64 y]) := by
  rw [h.1, h.2]
theorem CountIs.same {l : List Int} {x y a b : Int} (h : CountIs l x a) (g : CountIs l y b) : x = y ∧ a = b := by
  obtain ⟨h1, h2⟩ := h
  obtain ⟨g1, g2⟩ := g
  have e : a = b := h1.symm.trans g1
  exact ⟨by rw [h2, g2, e], e⟩

set_option maxHeartbeats 800000 in
theorem count_any (w : World) (B : Nat) (A : Option Addr) (n c : Nat) (l : List Int) (h : Ints w B A n l) (x err : Int) (hx : CountIs l x err) :
    Calls Try.prog 12 #[.slice A n c] w fun e w' => e = .returned (.tuple #[.int .i64 x, .int .i64 err]) ∧ w = w' := by
  have hm : n ≤ 9223372036854775807 := h.small
  have hl := h.len
  have Hl := Lib.hid hl
  clear hl
  have Hx := Lib.hid hx
  clear hx
  by_cases hp : Pos l
  case neg =>
    go_enter Try.func12, Try.ntmps12
    go_wp2_with (go_at_call 25; refine (has_yes w B A n c l h hp).mono ?_; rintro e w' ⟨rfl, rfl⟩)
    go_ret2
    exact ⟨two_ret (Hx.out.same (countIs_4 hp)), rfl⟩
  case pos =>
    by_cases h6 : 6 < n
    · go_enter Try.func12, Try.ntmps12
      go_wp2_with (go_at_call 25; refine (has_no w B A n c l h hp).mono ?_; rintro e w' ⟨rfl, rfl⟩)
      go_ret2
      exact ⟨two_ret (Hx.out.same (countIs_6 hp (.inl (by rw [Hl.out]; exact h6)))), rfl⟩
    · go_enter Try.func12, Try.ntmps12
      go_wp2_with (go_at_call 25; refine (has_no w B A n c l h hp).mono ?_; rintro e w' ⟨rfl, rfl⟩)
      go_loop [4, 14] (fun p i => ∃ k : Nat, k ≤ n ∧ i = .int .i64 k ∧ p = .int .i64 (prod (l.take k)) ∧ prod (l.take k) ≤ 65536) (fun _ i => n - (intOf i).toNat)
      case atStart => exact ⟨0, Nat.zero_le _, rfl, rfl, by simp [prod]⟩
      case round =>
        obtain ⟨k, hk, rfl, rfl, hq⟩ := hrel
        have hq1 := prod_pos (pos_take hp k)
        by_cases hlt : k < n
        · obtain ⟨b, off, rfl, hb, hc⟩ := h.get hlt
          have hd1 := pos_ix hp k (by rw [Hl.out]; exact hlt)
          have hs := Lib.hid (prod_take_succ l k (by rw [Hl.out]; exact hlt))
          have hle := prod_take_le hp (k + 1)
          have Hle := Lib.hid hle
          clear hle
          by_cases hgt : 65536 / prod (l.take k) < ix l k
          · have hbig := (div_gt hq1).1 hgt
            go_wp2
            go_ret2
            exact ⟨two_ret (Hx.out.same (countIs_6 hp (.inr (by have := Hle.out; rw [hs.out] at this; omega)))), rfl⟩
          · have hsm : prod (l.take k) * ix l k ≤ 65536 := by
              have := mt (div_gt hq1).2 hgt; omega
            have hnn : 0 ≤ prod (l.take k) * ix l k := Int.mul_nonneg (by omega) (by omega)
            go_wp2
            go_round
            case rel => exact ⟨k + 1, by omega, by go_num, by rw [hs.out], by rw [hs.out]; exact hsm⟩
            case measure => simp [intOf]; omega
        · have e : k = n := by omega
          have hg : Good l := ⟨hp, by rw [Hl.out]; omega, by
            have := hq; rw [e, List.take_of_length_le (by rw [Hl.out]; omega)] at this; exact this⟩
          have Hq := Lib.hid (show prod (l.take k) = prod l by rw [List.take_of_length_le (by rw [Hl.out]; omega)])
          clear e
          go_wp2
          go_ret2
          exact ⟨two_ret (by rw [Hq.out]; exact Hx.out.same (countIs_good hg)), rfl⟩

set_option maxHeartbeats 800000 in
theorem rcount_any (w : World) (B : Nat) (A : Option Addr) (n c : Nat) (l : List Int) (h : Ints w B A n l) (x err : Int) (hx : CountIs l x err) :
    Calls Try.prog 13 #[.slice A n c] w fun e w' => e = .returned (.tuple #[.int .i64 x, .int .i64 err]) ∧ w = w' := by
  have hm : n ≤ 9223372036854775807 := h.small
  have hl := h.len
  have Hl := Lib.hid hl
  clear hl
  have Hx := Lib.hid hx
  clear hx
  go_enter Try.func13, Try.ntmps13
  go_wp2_with fail
  go_loop [4] (fun i => ∃ k : Nat, k ≤ n ∧ i = .int .i64 k ∧ ∀ j, j < k → 1 ≤ ix l j) (fun i => n - (intOf i).toNat)
  case atStart => exact ⟨0, Nat.zero_le _, rfl, fun j hj => absurd hj (by omega)⟩
  case round =>
    obtain ⟨k, hk, rfl, hall⟩ := hrel
    have Hall := Lib.hid hall
    clear hall
    by_cases hlt : k < n
    · obtain ⟨b, off, rfl, hb, hc⟩ := h.get hlt
      by_cases h1 : ix l k < 1
      · go_wp2
        go_ret2
        exact ⟨two_ret (Hx.out.same (countIs_4 fun hp => by have := pos_ix hp k (by rw [Hl.out]; exact hlt); omega)), rfl⟩
      · go_wp2
        go_round
        case rel => exact ⟨k + 1, by omega, by go_num, fun j hj => by
          by_cases e : j = k
          · subst e; omega
          · exact Hall.out j (by omega)⟩
        case measure => simp [intOf]; omega
    · have hp := Lib.hid (show Pos l from pos_of_ix fun j hj => Hall.out j (by rw [Hl.out] at hj; omega))
      by_cases h6 : 6 < n
      · go_wp2
        go_ret2
        exact ⟨two_ret (Hx.out.same (countIs_6 hp.out (.inl (by rw [Hl.out]; exact h6)))), rfl⟩
      · clear Hall
        go_wp2_with fail
        clear hlt hk
        go_loop [5, 6] (fun p i => ∃ k : Nat, k ≤ n ∧ i = .int .i64 k ∧ p = .int .i64 (prod (l.take k)) ∧ prod (l.take k) ≤ 65536) (fun _ i => n - (intOf i).toNat)
        case atStart => exact ⟨0, Nat.zero_le _, rfl, rfl, by simp [prod]⟩
        case round =>
          obtain ⟨k, hk, rfl, rfl, hq⟩ := hrel
          have hq1 := prod_pos (pos_take hp.out k)
          by_cases hlt : k < n
          · obtain ⟨b, off, rfl, hb, hc⟩ := h.get hlt
            have hd1 := pos_ix hp.out k (by rw [Hl.out]; exact hlt)
            have hs := Lib.hid (prod_take_succ l k (by rw [Hl.out]; exact hlt))
            have Hle := Lib.hid (prod_take_le hp.out (k + 1))
            by_cases hgt : 65536 < ix l k
            · have hbig : ix l k ≤ prod (l.take k) * ix l k := le_pos_mul (by omega) hq1
              go_wp2
              go_ret2
              exact ⟨two_ret (Hx.out.same (countIs_6 hp.out (.inr (by have := Hle.out; rw [hs.out] at this; omega)))), rfl⟩
            · have hnn : 0 ≤ prod (l.take k) * ix l k := Int.mul_nonneg (by omega) (by omega)
              have hub : prod (l.take k) * ix l k ≤ 65536 * 65536 := Int.mul_le_mul hq (by omega) (by omega) (by omega)
              by_cases hbg : 65536 < prod (l.take k) * ix l k
              · go_wp2
                go_ret2
                exact ⟨two_ret (Hx.out.same (countIs_6 hp.out (.inr (by have := Hle.out; rw [hs.out] at this; omega)))), rfl⟩
              · go_wp2
                go_round
                case rel => exact ⟨k + 1, by omega, by go_num, by rw [hs.out], by rw [hs.out]; omega⟩
                case measure => simp [intOf]; omega
          · have e : k = n := by omega
            have hg : Good l := ⟨hp.out, by rw [Hl.out]; omega, by
              have := hq; rw [e, List.take_of_length_le (by rw [Hl.out]; omega)] at this; exact this⟩
            have Hq := Lib.hid (show prod (l.take k) = prod l by rw [List.take_of_length_le (by rw [Hl.out]; omega)])
            clear e
            go_wp2
            go_ret2
            exact ⟨two_ret (by rw [Hq.out]; exact Hx.out.same (countIs_good hg)), rfl⟩
end Go.Proofs.Ytanghkleojjplaa
