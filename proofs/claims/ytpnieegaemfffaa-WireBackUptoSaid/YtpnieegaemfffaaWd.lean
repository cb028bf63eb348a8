/- The walks: bytes and fixed numbers off the cursor. -/
import Derived.Test.YtpnieegaemfffaaWc
namespace Go.Proofs.Ytpnieegaemfffaa
open Go.RowKit

set_option maxRecDepth 100000 in
set_option maxHeartbeats 1600000 in
theorem bytes_ok (s : ByteArray) (p b : Nat) (w : World) (hs : s.size ≤ 140737488351232) (hc : Cur w b s p) (n : Nat) (hn : p + n ≤ s.size) :
    Calls Try.prog 33 #[.pointer (some ⟨b, 0, none⟩), .int .u64 (n : Int)] w fun e w' => e = .returned (.string (s.extract p (p + n))) ∧ Cur w' b s (p + n) ∧ Only b w w' := by
  have c0 := hc.txt
  have c1 := hc.at_
  have f1 := hc.free 1
  have Hc := Lib.hid hc
  clear hc
  have hp0 : (0 : Int) ≤ p := by omega
  have hp1 : (p : Int) ≤ s.size := by omega
  have hn0 : (0 : Int) ≤ n := by omega
  have hn1 : (p : Int) + n ≤ s.size := by omega
  have hgt : ¬ (s.size : Int) - p < n := by omega
  go_enter Try.func33, Try.ntmps33
  go_wp2
  go_quiet (fail)
  go_wp2
  go_quiet (fail)
  go_wp2
  go_ret
  exact ⟨rfl, (Hc.out.drewN _).set_ _ _ (by omega), (((Only.refl _ _).drewN _).set_ _ _).drewN _⟩

set_option maxRecDepth 100000 in
set_option maxHeartbeats 1600000 in
theorem bytes_bad (s : ByteArray) (p b : Nat) (w : World) (hs : s.size ≤ 140737488351232) (hp : p ≤ s.size) (hc : Cur w b s p) (n : Int) (h0 : 0 ≤ n) (hn : (s.size : Int) - p < n) :
    Calls Try.prog 33 #[.pointer (some ⟨b, 0, none⟩), .int .u64 n] w fun e w' => e = .panicked bad ∧ Only b w w' := by
  have c0 := hc.txt
  have c1 := hc.at_
  have Hc := Lib.hid hc
  clear hc
  have hp0 : (0 : Int) ≤ p := by omega
  have hp1 : (p : Int) ≤ s.size := by omega
  go_enter Try.func33, Try.ntmps33
  go_wp2
  go_quiet (fail)
  go_wp2
  exact ⟨rfl, rfl, (Only.refl _ _).drewN _⟩

/-- So many bytes at a place, the lowest eight bits first. -/
theorem or_low {x y : Int} (h0 : 0 ≤ x) (h1 : x * 256 < B64) (y0 : 0 ≤ y) (y1 : y ≤ 255) : bits .or .u64 (IntKind.u64.wrap (x * 256)) y = y + 256 * x := by
  rw [IntWalk.u64_in _ ⟨by omega, by unfold B64 at h1; omega⟩]
  have := bits_join .u64 64 (by decide) wraps_u64 8 (x * 256) y (by omega) (by omega) (by unfold B64 at h1; omega) y0 (by omega) (by omega)
  rw [this]; omega

set_option maxRecDepth 100000 in
set_option maxHeartbeats 1600000 in
theorem fixed_ok (s : ByteArray) (p b : Nat) (w : World) (hs : s.size ≤ 140737488351232) (hc : Cur w b s p) (n : Nat) (hn8 : n ≤ 8) (hn : p + n ≤ s.size) :
    Calls Try.prog 32 #[.pointer (some ⟨b, 0, none⟩), .int .u64 (n : Int)] w fun e w' => e = .returned (.int .u64 (lowS s p n)) ∧ Cur w' b s (p + n) ∧ Only b w w' := by
  have Hext := Lib.hid (show (s.extract p (p + n)).size = n by simp; omega)
  obtain ⟨t, ht⟩ : ∃ t, t = s.extract p (p + n) := ⟨_, rfl⟩
  have Ht := Lib.hid ht
  have Hb := Lib.hid (bytes_ok s p b w hs hc n hn)
  rw [← Ht.out] at Hb Hext
  have hpn := hn
  have tz : t.size ≤ 8 := by rw [Hext.out]; exact hn8
  clear hc ht
  go_enter Try.func32, Try.ntmps32
  go_wp2_with fail
  refine Hb.out.mono ?_
  rintro e w1 ⟨rfl, hc1, ho1⟩
  have Hc1 := Lib.hid hc1
  clear hc1
  go_wp2_with fail
  go_loop [5, 7] (fun u i => ∃ k : Nat, k ≤ t.size ∧ i = .int .i64 ((k : Int) - 1) ∧ u = .int .u64 (lowS s (p + k) (n - k))) (fun _ i => (intOf i + 1).toNat)
  case atStart => exact ⟨t.size, Nat.le_refl _, rfl, by rw [Hext.out, Nat.sub_self]; rfl⟩
  case round =>
    obtain ⟨k, hk, hi, rfl⟩ := hrel
    cases k with
    | zero =>
      subst hi
      go_wp2
      go_ret
      exact ⟨rfl, Hc1.out, ho1⟩
    | succ k =>
      rw [show ((k + 1 : Nat) : Int) - 1 = (k : Int) by omega] at hi
      subst hi
      have hb := bt_bd t k
      have hidx : ∀ w, (Instr.index 9 (.string t) (.int .i64 (k : Int))).run Try.prog w = .ok (.int .u8 (bt t k)) w := fun w => idx_str t k (by omega) w _ rfl
      have hl := lowS_bd s (p + (k + 1)) (n - (k + 1))
      have Hl2 := Lib.hid (show lowS s (p + (k + 1)) (n - (k + 1)) * 256 < B64 from lowS_64 s _ _ (by have := Hext.out; omega))
      have Hor := Lib.hid (or_low hl.1 Hl2.out hb.1 hb.2)
      have Hst := Lib.hid (show bt t k + 256 * lowS s (p + (k + 1)) (n - (k + 1)) = lowS s (p + k) (n - k) by
        have hn : n - k = (n - (k + 1)) + 1 := by have := Hext.out; omega
        rw [hn, lowS, Ht.out, bt_extract s p (p + n) k (by have := Hext.out; omega) hpn]
        rfl)
      have hl0 := hl.1
      clear hl
      go_wp2
      go_round
      case rel => exact ⟨k, by omega, rfl, by rw [Hor.out, Hst.out]⟩
      case measure => simp [intOf]

set_option maxRecDepth 100000 in
set_option maxHeartbeats 1600000 in
theorem fixed_bad (s : ByteArray) (p b : Nat) (w : World) (hs : s.size ≤ 140737488351232) (hp : p ≤ s.size) (hc : Cur w b s p) (n : Nat) (hn : s.size < p + n) :
    Calls Try.prog 32 #[.pointer (some ⟨b, 0, none⟩), .int .u64 (n : Int)] w fun e w' => e = .panicked bad ∧ Only b w w' := by
  have Hb := Lib.hid (bytes_bad s p b w hs hp hc (n : Int) (by omega) (by omega))
  clear hc
  go_enter Try.func32, Try.ntmps32
  go_wp2_with fail
  refine Hb.out.mono ?_
  rintro e w1 ⟨rfl, ho1⟩
  exact ⟨rfl, rfl, ho1⟩
end Go.Proofs.Ytpnieegaemfffaa
