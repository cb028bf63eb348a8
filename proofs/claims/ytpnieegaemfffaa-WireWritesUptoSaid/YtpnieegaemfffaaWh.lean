/- The walks: the reference's field. -/
import Derived.Test.YtpnieegaemfffaaWg
namespace Go.Proofs.Ytpnieegaemfffaa
open Go.RowKit

theorem low_step {x y : Int} (h0 : 0 ≤ x) (h1 : x * 256 < B64) (y0 : 0 ≤ y) (y1 : y ≤ 255) (h2 : y + 256 * x < B64) : IntKind.u64.wrap (IntKind.u64.wrap (x * 256) + y) = y + 256 * x := by
  unfold B64 at *
  rw [IntWalk.u64_in (x * 256) ⟨by omega, by omega⟩, IntWalk.u64_in _ ⟨by omega, by omega⟩]; omega
theorem lowS_64' (s : ByteArray) (p n : Nat) (h : n ≤ 8) : lowS s p n < B64 := by
  have h1 := (lowS_bd s p n).2
  have h2 := pow256_le n 8 h
  have h3 : (256 : Int) ^ 8 = 18446744073709551616 := by decide
  unfold B64; omega

set_option maxRecDepth 100000 in
set_option maxHeartbeats 1600000 in
theorem low_any (s : ByteArray) (p n : Nat) (w : World) (hs : s.size ≤ 140737488351232) (hn8 : n ≤ 8) (hn : p + n ≤ s.size) :
    Calls Try.prog 34 #[.string s, .int .i64 (p : Int), .int .i64 (n : Int)] w fun e w' => e = .returned (.int .u64 (lowS s p n)) ∧ w = w' := by
  go_enter Try.func34, Try.ntmps34
  go_wp2_with fail
  go_loop [7, 8] (fun u i => ∃ k : Nat, k ≤ n ∧ i = .int .i64 ((k : Int) - 1) ∧ u = .int .u64 (lowS s (p + k) (n - k))) (fun _ i => (intOf i + 1).toNat)
  case atStart => exact ⟨n, Nat.le_refl _, rfl, by rw [Nat.sub_self]; rfl⟩
  case round =>
    obtain ⟨k, hk, hi, rfl⟩ := hrel
    cases k with
    | zero =>
      subst hi
      go_wp2
      go_ret
      exact ⟨rfl, rfl⟩
    | succ k =>
      rw [show ((k + 1 : Nat) : Int) - 1 = (k : Int) by omega] at hi
      subst hi
      have hb := bt_bd s (p + k)
      have hidx : ∀ w, (Instr.index 9 (.string s) (.int .i64 ((p : Int) + (k : Int)))).run Try.prog w = .ok (.int .u8 (bt s (p + k))) w := fun w => idx_str s (p + k) (by omega) w _ (by omega)
      have hl := (lowS_bd s (p + (k + 1)) (n - (k + 1))).1
      have Hl2 := Lib.hid (show lowS s (p + (k + 1)) (n - (k + 1)) * 256 < B64 from lowS_64 s _ _ (by omega))
      have Hst := Lib.hid (show bt s (p + k) + 256 * lowS s (p + (k + 1)) (n - (k + 1)) = lowS s (p + k) (n - k) by
        rw [show n - k = (n - (k + 1)) + 1 by omega, lowS]
        rfl)
      have Hor := Lib.hid (low_step hl Hl2.out hb.1 hb.2 (by rw [Hst.out]; exact lowS_64' s _ _ (by omega)))
      go_wp2
      go_round
      case rel => exact ⟨k, by omega, rfl, by rw [Hor.out, Hst.out]⟩
      case measure => simp [intOf]

def RField (s : ByteArray) (p : Nat) (w : World) (e : Ending) (w' : World) : Prop :=
  Below w.heap.size w w' ∧ ((∃ f n, fieldS s p = some (f, n) ∧ e = .returned (.tuple #[f.val, .int .i64 (n : Nat), .bool true])) ∨ (fieldS s p = none ∧ ∃ (f : Fd) (m : Int), e = .returned (.tuple #[f.val, .int .i64 m, .bool false])))

set_option maxRecDepth 100000 in
set_option maxHeartbeats 1600000 in
theorem rfield_any (s : ByteArray) (p : Nat) (w : World) (hs : s.size ≤ 140737488351232) (hp : p ≤ s.size) :
    Calls Try.prog 27 #[.string s, .int .i64 (p : Int)] w (RField s p w) := by
  have HT := Lib.hid (take_any s p (w.alloc (.cells #[.int .i64 0, .int .i64 0, .int .u64 0, .string ⟨#[]⟩] 35)) hs hp)
  go_enter Try.func27, Try.ntmps27
  go_wp2_with fail
  refine HT.out.mono ?_
  rintro e w1 ⟨hcase, rfl⟩
  rcases hcase with ⟨hd, n, htk, rfl⟩ | ⟨htk, rfl⟩
  case inr =>
    have Hf := Lib.hid (fieldS_none htk)
    clear htk
    go_wp2
    refine bodyPost_ret (v := .tuple #[.agg #[.int .i64 0, .int .i64 0, .int .u64 0, .string ⟨#[]⟩], .int .i64 0, .bool false]) (by simp [results, Try.results27, go_sem]) rfl ⟨?_, .inr ⟨Hf.out, ⟨0, 0, 0, ⟨#[]⟩⟩, _, rfl⟩⟩
    exact (Below.refl _ _).alloc (Nat.le_refl _) _
  case inl =>
    obtain ⟨h0, h64, hn1, hn2⟩ := tk_bd htk
    have Htk := Lib.hid htk
    have H64 := Lib.hid h64
    clear htk h64
    by_cases hbig : 4294967295 < hd
    · have Hf := Lib.hid (fieldS_head Htk.out (.inl hbig))
      go_wp2
      refine bodyPost_ret (v := .tuple #[.agg #[.int .i64 0, .int .i64 0, .int .u64 0, .string ⟨#[]⟩], .int .i64 0, .bool false]) (by simp [results, Try.results27, go_sem]) rfl ⟨?_, .inr ⟨Hf.out, ⟨0, 0, 0, ⟨#[]⟩⟩, _, rfl⟩⟩
      exact (Below.refl _ _).alloc (Nat.le_refl _) _
    · by_cases hsm : hd < 8
      · have Hf := Lib.hid (fieldS_head Htk.out (.inr hsm))
        go_wp2
        refine bodyPost_ret (v := .tuple #[.agg #[.int .i64 0, .int .i64 0, .int .u64 0, .string ⟨#[]⟩], .int .i64 0, .bool false]) (by simp [results, Try.results27, go_sem]) rfl ⟨?_, .inr ⟨Hf.out, ⟨0, 0, 0, ⟨#[]⟩⟩, _, rfl⟩⟩
        exact (Below.refl _ _).alloc (Nat.le_refl _) _
      · have Hf := Lib.hid (fieldS_body Htk.out (by omega))
        have hq8 := u64div 8 h0 H64.out (by omega)
        have kb : 0 ≤ hd % 8 ∧ hd % 8 < 8 := by omega
        have nb : 0 ≤ hd / 8 ∧ hd / 8 ≤ 536870911 := by omega
        by_cases k0 : hd % 8 = 0
        · have q3 : (hd % 8 == 0) = true := by simp [k0]
          have K0 := Lib.hid k0
          have Hbd := Lib.hid (show fieldS s p = (tk s n).map fun r => (⟨hd / 8, 0, r.1, ⟨#[]⟩⟩, r.2) by rw [Hf.out, bodyS, if_pos K0.out])
          clear k0
          go_wp2_with fail
          refine (take_any s n _ hs hn2).mono ?_
          rintro e w2 ⟨hcase, rfl⟩
          rcases hcase with ⟨u, n2, htk2, rfl⟩ | ⟨htk2, rfl⟩
          · have Hres := Lib.hid (show fieldS s p = some (⟨hd / 8, 0, u, ⟨#[]⟩⟩, n2) by rw [Hbd.out, htk2]; rfl)
            clear htk2
            go_wp2
            refine bodyPost_ret (v := .tuple #[.agg #[.int .i64 (hd / 8), .int .i64 (hd % 8), .int .u64 u, .string ⟨#[]⟩], .int .i64 (n2 : Int), .bool true]) (by simp [results, Try.results27, go_sem]) rfl ⟨?_, .inl ⟨_, _, Hres.out, by rw [K0.out]; rfl⟩⟩
            exact ((Below.refl _ _).alloc (Nat.le_refl _) _).alloc (by simp) _
          · have Hres := Lib.hid (show fieldS s p = none by rw [Hbd.out, htk2]; rfl)
            clear htk2
            go_wp2
            refine bodyPost_ret (v := .tuple #[.agg #[.int .i64 (hd / 8), .int .i64 (hd % 8), .int .u64 0, .string ⟨#[]⟩], .int .i64 0, .bool false]) (by simp [results, Try.results27, go_sem]) rfl ⟨?_, .inr ⟨Hres.out, ⟨hd / 8, hd % 8, 0, ⟨#[]⟩⟩, _, rfl⟩⟩
            exact ((Below.refl _ _).alloc (Nat.le_refl _) _).alloc (by simp) _
        · have q3 : (hd % 8 == 0) = false := by simp [k0]
          by_cases k1 : hd % 8 = 1
          · have q4 : (hd % 8 == 1) = true := by simp [k1]
            have q4b : (hd % 8 == 5) = false := by simp [k1]
            have K1 := Lib.hid k1
            by_cases hsz : n + 8 ≤ s.size
            · have Hres := Lib.hid (show fieldS s p = some (⟨hd / 8, 1, lowS s n 8, ⟨#[]⟩⟩, n + 8) by rw [Hf.out, bodyS, if_neg k0, if_pos K1.out, if_neg (by omega)])
              clear k0 k1
              go_wp2_with fail
              refine (low_any s n 8 _ hs (by omega) hsz).mono ?_
              rintro e w2 ⟨rfl, rfl⟩
              go_wp2
              refine bodyPost_ret (v := .tuple #[.agg #[.int .i64 (hd / 8), .int .i64 (hd % 8), .int .u64 (lowS s n 8), .string ⟨#[]⟩], .int .i64 ((n : Int) + 8), .bool true]) (by simp [results, Try.results27, go_sem]) rfl ⟨?_, .inl ⟨_, _, Hres.out, by rw [K1.out]; rfl⟩⟩
              exact ((Below.refl _ _).alloc (Nat.le_refl _) _).alloc (by simp) _
            · have Hres := Lib.hid (show fieldS s p = none by rw [Hf.out, bodyS, if_neg k0, if_pos K1.out, if_pos (by omega)])
              clear k0 k1
              go_wp2
              refine bodyPost_ret (v := .tuple #[.agg #[.int .i64 0, .int .i64 0, .int .u64 0, .string ⟨#[]⟩], .int .i64 0, .bool false]) (by simp [results, Try.results27, go_sem]) rfl ⟨?_, .inr ⟨Hres.out, ⟨0, 0, 0, ⟨#[]⟩⟩, _, rfl⟩⟩
              exact ((Below.refl _ _).alloc (Nat.le_refl _) _).alloc (by simp) _
          · have q4 : (hd % 8 == 1) = false := by simp [k1]
            by_cases k5 : hd % 8 = 5
            · have q5 : (hd % 8 == 5) = true := by simp [k5]
              have K5 := Lib.hid k5
              by_cases hsz : n + 4 ≤ s.size
              · have Hres := Lib.hid (show fieldS s p = some (⟨hd / 8, 5, lowS s n 4, ⟨#[]⟩⟩, n + 4) by rw [Hf.out, bodyS, if_neg k0, if_neg k1, if_pos K5.out, if_neg (by omega)])
                clear k0 k1 k5
                go_wp2_with fail
                refine (low_any s n 4 _ hs (by omega) hsz).mono ?_
                rintro e w2 ⟨rfl, rfl⟩
                go_wp2
                refine bodyPost_ret (v := .tuple #[.agg #[.int .i64 (hd / 8), .int .i64 (hd % 8), .int .u64 (lowS s n 4), .string ⟨#[]⟩], .int .i64 ((n : Int) + 4), .bool true]) (by simp [results, Try.results27, go_sem]) rfl ⟨?_, .inl ⟨_, _, Hres.out, by rw [K5.out]; rfl⟩⟩
                exact ((Below.refl _ _).alloc (Nat.le_refl _) _).alloc (by simp) _
              · have Hres := Lib.hid (show fieldS s p = none by rw [Hf.out, bodyS, if_neg k0, if_neg k1, if_pos K5.out, if_pos (by omega)])
                clear k0 k1 k5
                go_wp2
                refine bodyPost_ret (v := .tuple #[.agg #[.int .i64 0, .int .i64 0, .int .u64 0, .string ⟨#[]⟩], .int .i64 0, .bool false]) (by simp [results, Try.results27, go_sem]) rfl ⟨?_, .inr ⟨Hres.out, ⟨0, 0, 0, ⟨#[]⟩⟩, _, rfl⟩⟩
                exact ((Below.refl _ _).alloc (Nat.le_refl _) _).alloc (by simp) _
            · have q5 : (hd % 8 == 5) = false := by simp [k5]
              by_cases k2 : hd % 8 = 2
              · have q6 : (hd % 8 == 2) = true := by simp [k2]
                have K2 := Lib.hid k2
                have Hbd := Lib.hid (show fieldS s p = (tk s n).bind fun r => if (s.size : Int) - r.2 < r.1 then none else some (⟨hd / 8, 2, 0, s.extract r.2 (r.2 + r.1.toNat)⟩, r.2 + r.1.toNat) by rw [Hf.out, bodyS, if_neg k0, if_neg k1, if_neg k5, if_pos K2.out])
                clear k0 k1 k5 k2
                go_wp2_with fail
                refine (take_any s n _ hs hn2).mono ?_
                rintro e w2 ⟨hcase, rfl⟩
                rcases hcase with ⟨u, n2, htk2, rfl⟩ | ⟨htk2, rfl⟩
                · obtain ⟨u0, u64, n21, n22⟩ := tk_bd htk2
                  have Htk2 := Lib.hid htk2
                  clear htk2 u64
                  by_cases hlong : (s.size : Int) - n2 < u
                  · have Hres := Lib.hid (show fieldS s p = none by rw [Hbd.out, Htk2.out]; simp only [Option.bind_some]; rw [if_pos hlong])
                    go_wp2
                    refine bodyPost_ret (v := .tuple #[.agg #[.int .i64 0, .int .i64 0, .int .u64 0, .string ⟨#[]⟩], .int .i64 0, .bool false]) (by simp [results, Try.results27, go_sem]) rfl ⟨?_, .inr ⟨Hres.out, ⟨0, 0, 0, ⟨#[]⟩⟩, _, rfl⟩⟩
                    exact ((Below.refl _ _).alloc (Nat.le_refl _) _).alloc (by simp) _
                  · obtain ⟨m, rfl⟩ := Int.eq_ofNat_of_zero_le u0
                    have Hres := Lib.hid (show fieldS s p = some (⟨hd / 8, 2, 0, s.extract n2 (n2 + m)⟩, n2 + m) by rw [Hbd.out, Htk2.out]; simp only [Option.bind_some]; rw [if_neg hlong]; rfl)
                    have hm1 : n2 + m ≤ s.size := by omega
                    have hgt : (m : Int) ≤ (s.size : Int) - n2 := by omega
                    have hm0 : (0 : Int) ≤ m := by omega
                    have hq0 : (0 : Int) ≤ n2 := by omega
                    go_wp2
                    refine bodyPost_ret (v := .tuple #[.agg #[.int .i64 (hd / 8), .int .i64 (hd % 8), .int .u64 0, .string (s.extract n2 (n2 + m))], .int .i64 ((n2 : Int) + m), .bool true]) (by simp [results, Try.results27, go_sem]) rfl ⟨?_, .inl ⟨_, _, Hres.out, by rw [K2.out]; rfl⟩⟩
                    exact ((Below.refl _ _).alloc (Nat.le_refl _) _).alloc (by simp) _
                · have Hres := Lib.hid (show fieldS s p = none by rw [Hbd.out, htk2]; rfl)
                  clear htk2
                  go_wp2
                  refine bodyPost_ret (v := .tuple #[.agg #[.int .i64 0, .int .i64 0, .int .u64 0, .string ⟨#[]⟩], .int .i64 0, .bool false]) (by simp [results, Try.results27, go_sem]) rfl ⟨?_, .inr ⟨Hres.out, ⟨0, 0, 0, ⟨#[]⟩⟩, _, rfl⟩⟩
                  exact ((Below.refl _ _).alloc (Nat.le_refl _) _).alloc (by simp) _
              · have q6 : (hd % 8 == 2) = false := by simp [k2]
                have Hres := Lib.hid (show fieldS s p = none by rw [Hf.out, bodyS, if_neg k0, if_neg k1, if_neg k5, if_neg k2])
                clear k0 k1 k5 k2
                go_wp2
                refine bodyPost_ret (v := .tuple #[.agg #[.int .i64 0, .int .i64 0, .int .u64 0, .string ⟨#[]⟩], .int .i64 0, .bool false]) (by simp [results, Try.results27, go_sem]) rfl ⟨?_, .inr ⟨Hres.out, ⟨0, 0, 0, ⟨#[]⟩⟩, _, rfl⟩⟩
                exact ((Below.refl _ _).alloc (Nat.le_refl _) _).alloc (by simp) _
end Go.Proofs.Ytpnieegaemfffaa
