/- The walks: numbers read. -/
import Derived.Test.YtpnieegaemfffaaRows
import Derived.Test.YtpnieegaemfffaaPlain
import Derived.WalkKit
import Derived.WalkSpells
import Derived.WalkLawsBesides
import Derived.Lib.Hide
import Derived.Lib.EndianBits
import Derived.Deep.QuietTactic
import Derived.BigQuiet
namespace Go.Proofs.Ytpnieegaemfffaa
open Go.RowKit

theorem mask127 {c : Int} (h₀ : 0 ≤ c) (h₁ : c ≤ 255) : bits .and .u8 c 127 = c % 128 := bits_mask .u8 8 (by decide) wraps_u8 7 (by decide) c h₀ (by omega)

theorem idx_str (s : ByteArray) (k : Nat) (h : k < s.size) (w : World) (i : Int) (hi : i = (k : Int)) : (Instr.index 9 (.string s) (.int .i64 i)).run Try.prog w = .ok (.int .u8 (bt s k)) w := by
  subst hi
  rw [run_index_string (P := Try.prog) w 9 s .i64 (k : Int) Try.underlying9, dif_pos ⟨by omega, by omega⟩]
  congr 2
  rw [← bt_get s k h]
  rfl
theorem nxw (s : ByteArray) (p i : Nat) (u : Int) (hi : i ≤ 9) (h0 : 0 ≤ u) (h1 : u < two i) (h9 : ¬ (i = 9 ∧ 1 < bt s (p + i))) :
    IntKind.u64.wrap (u + IntKind.u64.wrap (bt s (p + i) % 128 * 2 ^ (7 * i))) = nx s p i u := by
  obtain ⟨a, b⟩ := nx_64 s p i u hi h0 h1 h9
  obtain ⟨c, d⟩ := part_bd s p i u hi h0 h1 h9
  unfold nx two B64 at *
  rw [IntWalk.u64_in _ ⟨c, by omega⟩, IntWalk.u64_in _ ⟨a, by omega⟩]

def TkPost (s : ByteArray) (p : Nat) (e : Ending) : Prop :=
  (∃ u n, tk s p = some (u, n) ∧ e = .returned (.tuple #[.int .u64 u, .int .i64 (n : Int), .bool true])) ∨
  (tk s p = none ∧ e = .returned (.tuple #[.int .u64 0, .int .i64 0, .bool false]))
theorem tkGo_stop (s : ByteArray) (p k : Nat) (u : Int) (hk : k ≤ 9) (h : s.size ≤ p + k ∨ (k = 9 ∧ 1 < bt s (p + k))) : tkGo s p (10 - k) k u = none := by
  rw [show 10 - k = (9 - k) + 1 by omega, tkGo]
  split
  · rfl
  · next hs =>
    rcases h with h | h
    · omega
    · rw [if_pos h]
theorem tkGo_last (s : ByteArray) (p k : Nat) (u : Int) (hk : k ≤ 9) (h : p + k < s.size) (h9 : ¬ (k = 9 ∧ 1 < bt s (p + k))) (hl : bt s (p + k) < 128) : tkGo s p (10 - k) k u = some (nx s p k u, p + k + 1) := by
  rw [show 10 - k = (9 - k) + 1 by omega, tkGo, if_neg (by omega), if_neg h9, if_pos hl]
theorem tkGo_more (s : ByteArray) (p k : Nat) (u : Int) (hk : k ≤ 9) (h : p + k < s.size) (h9 : ¬ (k = 9 ∧ 1 < bt s (p + k))) (hl : ¬ bt s (p + k) < 128) : tkGo s p (10 - k) k u = tkGo s p (10 - (k + 1)) (k + 1) (nx s p k u) := by
  rw [show 10 - k = (9 - k) + 1 by omega, tkGo, if_neg (by omega), if_neg h9, if_neg hl, show 9 - k = 10 - (k + 1) by omega]
theorem three_ret {a b : Int} {c : Bool} {x y : Int} {z : Bool} (h1 : a = x) (h2 : b = y) (h3 : c = z) : Ending.returned (.tuple #[.int .u64 a, .int .i64 b, .bool c]) = .returned (.tuple #[.int .u64 x, .int .i64 y, .bool z]) := by
  rw [h1, h2, h3]

set_option maxRecDepth 100000 in
set_option maxHeartbeats 800000 in
theorem take_any (s : ByteArray) (p : Nat) (w : World) (hs : s.size ≤ 140737488351232) (hp : p ≤ s.size) :
    Calls Try.prog 24 #[.string s, .int .i64 p] w fun e w' => TkPost s p e ∧ w = w' := by
  go_enter Try.func24, Try.ntmps24
  go_wp2_with fail
  go_loop [7, 8] (fun v i => ∃ k : Nat, ∃ u : Int, k ≤ 10 ∧ i = .int .i64 k ∧ v = .int .u64 u ∧ 0 ≤ u ∧ u < two k ∧ tkGo s p (10 - k) k u = tk s p) (fun _ i => 10 - (intOf i).toNat)
  case atStart => exact ⟨0, 0, by omega, rfl, rfl, by omega, by decide, rfl⟩
  case round =>
    obtain ⟨k, u, hk, rfl, rfl, u0, u1, hgo⟩ := hrel
    have Hgo := Lib.hid hgo
    have Hu1 := Lib.hid u1
    clear hgo u1
    by_cases h10 : k = 10
    · have Hn := Lib.hid (show tk s p = none by rw [← Hgo.out, h10]; rfl)
      have hk10 : 10 ≤ k := by omega
      clear h10
      go_wp2
      go_ret3
      exact ⟨.inr ⟨Hn.out, rfl⟩, rfl⟩
    · have hk9 : k ≤ 9 := by omega
      clear hk h10
      by_cases hsz : p + k < s.size
      · have hb := bt_bd s (p + k)
        have hidx : ∀ w, (Instr.index 9 (.string s) (.int .i64 ((p : Int) + (k : Int)))).run Try.prog w = .ok (.int .u8 (bt s (p + k))) w := by
          intro w
          exact idx_str s (p + k) hsz w _ (by omega)
        by_cases h9 : k = 9 ∧ 1 < bt s (p + k)
        · have Hn := Lib.hid (show tk s p = none by rw [← Hgo.out]; exact tkGo_stop s p k u hk9 (.inr h9))
          have q1 : ((k : Int) == 9) = true := by simp; omega
          have q2 : 1 < bt s (p + k) := h9.2
          clear h9
          go_wp2
          go_ret3
          exact ⟨.inr ⟨Hn.out, rfl⟩, rfl⟩
        · have H9 := Lib.hid h9
          have q : (((k : Int) == 9) = true ∧ ¬ 1 < bt s (p + k)) ∨ ((k : Int) == 9) = false := by
            by_cases e : k = 9
            · exact .inl ⟨by simp [e], fun h => h9 ⟨e, h⟩⟩
            · exact .inr (by simp; omega)
          clear h9
          have Hw := Lib.hid (nxw s p k u hk9 u0 Hu1.out H9.out)
          have Hnb := Lib.hid (nx_bd s p k u u0 Hu1.out)
          by_cases hl : bt s (p + k) < 128
          · have Hn := Lib.hid (show tk s p = some (nx s p k u, p + k + 1) by rw [← Hgo.out]; exact tkGo_last s p k u hk9 hsz H9.out hl)
            rcases q with ⟨q1, q2⟩ | q1
            all_goals
              go_wp2
              go_ret3
              exact ⟨.inl ⟨_, _, Hn.out, three_ret Hw.out (by omega) rfl⟩, rfl⟩
          · have Hn := Lib.hid (show tkGo s p (10 - (k + 1)) (k + 1) (nx s p k u) = tk s p by rw [← Hgo.out]; exact (tkGo_more s p k u hk9 hsz H9.out hl).symm)
            rcases q with ⟨q1, q2⟩ | q1
            · omega
            · go_wp2
              go_round
              case rel => exact ⟨k + 1, nx s p k u, by omega, by go_num, by rw [Hw.out], Hnb.out.1, Hnb.out.2, Hn.out⟩
              case measure => simp [intOf]; omega
      · have Hn := Lib.hid (show tk s p = none by rw [← Hgo.out]; exact tkGo_stop s p k u hk9 (.inl (by omega)))
        go_wp2
        go_ret3
        exact ⟨.inr ⟨Hn.out, rfl⟩, rfl⟩
end Go.Proofs.Ytpnieegaemfffaa
