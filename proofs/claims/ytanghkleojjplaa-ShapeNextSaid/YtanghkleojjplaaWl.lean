/- The walks of the laws: steps, next. -/
import Derived.Test.YtanghkleojjplaaWk
import Derived.Deep.QuietTactic
import Derived.BigQuiet
import Derived.Deep.RegionWith
namespace Go.Proofs.Ytanghkleojjplaa
open Go.RowKit

set_option maxHeartbeats 1600000 in
theorem steps_law (w : World) (A : Option Addr) (n c : Nat) (l : List Int) (k : Int) (h : Ints w w.heap.size A n l) :
    Calls Try.prog 10 #[.slice A n c, .int .i64 k] w (Bol w true) := by
  obtain ⟨y, f, hy⟩ := stIs_any l
  have fin : ∀ err, CoIs l k [] err → Err err → (f = 0 ∨ Err f) → Calls Try.prog 10 #[.slice A n c, .int .i64 k] w (Bol w true) := by
    intro err hx he hf
    have Hx := Lib.hid hx
    have Hy := Lib.hid hy
    clear hx hy
    rcases hf with rfl | rfl | rfl | rfl <;> rcases he with rfl | rfl | rfl
    all_goals
      go_enter Try.func10, Try.ntmps10
      go_wp2_with fail
      refine (coords_any _ _ _ _ _ l h (Nat.le_refl _) k [] _ Hx.out).mono ?_
      rintro e1 w1 ⟨Ax, _, cx, rfl, rfl, hox, hb1⟩
      have z1 := hb1.size
      go_wp2_with fail
      refine (strides_any _ _ _ _ _ l (h.below hb1 (Nat.le_refl _)) z1 y _ Hy.out).mono ?_
      rintro e1 w2 ⟨Ay, _, cy, rfl, rfl, hoy, hb2⟩
      have z2 := hb2.size
      go_wp2_with fail
      refine (live_any _).mono ?_
      rintro e1 w3 ⟨rfl, hb3⟩
      go_wp2
      go_ret
      exact ⟨rfl, hb1.trans ((hb2.mono z1).trans (hb3.mono (by omega)))⟩
  have f01 : f = 0 ∨ Err f := by
    rcases hy with ⟨_, _, rfl⟩ | ⟨hb, _⟩
    · exact .inl rfl
    · exact .inr hb.err
  obtain ⟨x, e, hs⟩ := coIs_any l k
  rcases hs with ⟨hb, rfl⟩ | ⟨hg, hm, rfl, rfl⟩ | ⟨hg, ⟨h0, h1⟩, rfl, rfl⟩
  · exact fin e (.inl ⟨hb, rfl⟩) hb.err f01
  · exact fin 1 (.inr (.inl ⟨hg, hm, rfl, rfl⟩)) (by simp [Err]) f01
  · clear fin f01 hy
    have Hx := Lib.hid (show CoIs l k (co l k) 0 from .inr (.inr ⟨hg, ⟨h0, h1⟩, rfl, rfl⟩))
    have Hy := Lib.hid (show StIs l (st l) 0 from .inl ⟨hg, rfl, rfl⟩)
    have Hall := Lib.hid (offTo_co_all l k h0 h1)
    have Hbd := Lib.hid (show ∀ j, j ≤ l.length → 0 ≤ offTo l (co l k) j ∧ offTo l (co l k) j < prod l from fun j hj => offTo_bd l (co l k) j hj hg.1 fun i hi => co_within l k hg.1 i (by omega))
    have hpr := hg.2.2
    have hp := hg.1
    have Hl := Lib.hid h.len
    have hm : n ≤ 9223372036854775807 := h.small
    clear hg h0 h1
    go_enter Try.func10, Try.ntmps10
    go_wp2_with fail
    refine (coords_any _ _ _ _ _ l h (Nat.le_refl _) k _ _ Hx.out).mono ?_
    rintro e1 w1 ⟨Ax, nx, cx, rfl, hnx, hox, hb1⟩
    have z1 := hb1.size
    rw [co_length, Hl.out] at hnx
    subst hnx
    go_wp2_with fail
    refine (strides_any _ _ _ _ _ l (h.below hb1 (Nat.le_refl _)) z1 _ _ Hy.out).mono ?_
    rintro e1 w2 ⟨Ay, ny, cy, rfl, hny, hoy, hb2⟩
    have z2 := hb2.size
    rw [st_length, Hl.out] at hny
    subst hny
    have i1 := (hox.below hb2).ints (by rw [co_length, Hl.out])
    have i2 := hoy.ints (by rw [st_length, Hl.out])
    have hb : Below w.heap.size w w2 := hb1.trans (hb2.mono z1)
    have hne : ((ny : Int) != ny) = false := by simp
    clear hox hoy hb1 hb2
    go_wp2_with fail
    go_loopw [9, 10] (fun s i wr => ∃ j : Nat, j ≤ ny ∧ i = .int .i64 j ∧ s = .int .i64 (offTo l (co l k) j) ∧ Dn w2 wr) (fun _ i _ => ny - (intOf i).toNat)
    case atStart => exact ⟨0, Nat.zero_le _, rfl, rfl, Dn.refl _⟩
    case round =>
      obtain ⟨j, hj, rfl, rfl, hd⟩ := hrel
      have hbd := hd.below w2.heap.size
      by_cases hlt : j < ny
      · obtain ⟨b1, o1, rfl, hb1, hc1⟩ := (i1.below hbd (Nat.le_refl _)).get hlt
        obtain ⟨b2, o2, rfl, hb2, hc2⟩ := (i2.below hbd (Nat.le_refl _)).get hlt
        rw [st_ix l j (by rw [Hl.out]; exact hlt)] at hc2
        have He := Lib.hid (show offTo l (co l k) (j + 1) = offTo l (co l k) j + ix (co l k) j * prod (l.drop (j + 1)) from rfl)
        obtain ⟨q1, q2⟩ := Hbd.out j (by rw [Hl.out]; omega)
        have q3 : 0 ≤ ix (co l k) j * prod (l.drop (j + 1)) := by
          have := (co_within l k hp j (by rw [Hl.out]; exact hlt)).1
          exact Int.mul_nonneg this (by have := prod_pos (pos_drop hp (j + 1)); omega)
        have q4 : offTo l (co l k) j + ix (co l k) j * prod (l.drop (j + 1)) ≤ 65536 := by
          rw [← He.out]; have := (Hbd.out (j + 1) (by rw [Hl.out]; omega)).2; omega
        have hlt' : (j : Int) < ny := by omega
        have hj0 : (0 : Int) ≤ j := by omega
        go_wp2
        go_quiet (fail)
        go_wp2
        go_roundw
        case rel => exact ⟨j + 1, by omega, by go_num, by rw [He.out], hd.drewN _⟩
        case measure => simp [intOf]; omega
      · have e : j = l.length := by rw [Hl.out]; omega
        have Hj := Lib.hid (show offTo l (co l k) j = k by rw [e]; exact Hall.out)
        have heq : (offTo l (co l k) j == k) = true := by simp [Hj.out]
        clear e
        go_wp2_with (go_at_call 18; refine (live_any _).mono ?_; rintro e1 w4 ⟨rfl, hb4⟩)
        go_ret
        exact ⟨rfl, hb.trans ((hbd.mono (by omega)).trans (hb4.mono (by have := hbd.size; omega)))⟩

set_option maxHeartbeats 1600000 in
theorem next_far (w : World) (A : Option Addr) (n c : Nat) (l : List Int) (k : Int) (hk : k < 0 ∨ 65536 ≤ k) :
    Calls Try.prog 7 #[.slice A n c, .int .i64 k] w (Bol w true) := by
  rcases hk with hk | hk
  all_goals
    go_enter Try.func7, Try.ntmps7
    go_wp2_with (go_at_call 18; refine (live_any _).mono ?_; rintro e1 w4 ⟨rfl, hb4⟩)
    go_ret
    exact ⟨rfl, hb4⟩

theorem CoIs.two {l x : List Int} {k e : Int} (h : CoIs l k x e) : (Err e ∧ x = []) ∨ (e = 0 ∧ Good l ∧ 0 ≤ k ∧ k < prod l ∧ x = co l k) := by
  rcases h with ⟨h, rfl⟩ | ⟨_, _, rfl, rfl⟩ | ⟨h1, ⟨h2, h3⟩, rfl, rfl⟩
  · exact .inl ⟨h.err, rfl⟩
  · exact .inl ⟨by simp [Err], rfl⟩
  · exact .inr ⟨rfl, h1, h2, h3, rfl⟩

set_option maxHeartbeats 1600000 in
theorem next_law (w : World) (A : Option Addr) (n c : Nat) (l : List Int) (k : Int) (h : Ints w w.heap.size A n l) (hnc : n ≤ c) :
    Calls Try.prog 7 #[.slice A n c, .int .i64 k] w (Bol w true) := by
  by_cases hk : k < 0 ∨ 65536 ≤ k
  · exact next_far w A n c l k hk
  have k0 : 0 ≤ k := by omega
  have k1 : k < 65536 := by omega
  clear hk
  obtain ⟨x, e, hx⟩ := coIs_any l k
  obtain ⟨y, f, hy⟩ := coIs_any l (k + 1)
  by_cases hbad : Err e ∨ Err f
  · have ways : ∀ P : Int → Int → Prop, (∀ b, P 4 b) → (∀ b, P 6 b) → (∀ b, P 1 b) → P 0 4 → P 0 6 → P 0 1 → P e f := by
      intro P p1 p2 p3 p4 p5 p6
      have two2 : Err e ∨ e = 0 := by rcases hx.two with ⟨h, _⟩ | ⟨h, _⟩ <;> simp [h]
      have two3 : Err f ∨ f = 0 := by rcases hy.two with ⟨h, _⟩ | ⟨h, _⟩ <;> simp [h]
      rcases two2 with (rfl | rfl | rfl) | rfl
      · exact p1 _
      · exact p2 _
      · exact p3 _
      · rcases two3 with (rfl | rfl | rfl) | rfl
        · exact p4
        · exact p5
        · exact p6
        · simp [Err] at hbad
    have Hx := Lib.hid hx
    have Hy := Lib.hid hy
    clear hx hy hbad
    revert Hx Hy
    refine ways (fun e f => Hid (CoIs l k x e) → Hid (CoIs l (k + 1) y f) → Calls Try.prog 7 #[.slice A n c, .int .i64 k] w (Bol w true)) ?_ ?_ ?_ ?_ ?_ ?_
    all_goals
      clear ways
      intros
      rename_i Hx Hy
      go_enter Try.func7, Try.ntmps7
      go_wp2_with fail
      refine (coords_any _ _ _ _ _ l h (Nat.le_refl _) k _ _ Hx.out).mono ?_
      rintro e1 w1 ⟨Ax, _, cx, rfl, rfl, hox, hb1⟩
      have z1 := hb1.size
      go_wp2_with fail
      refine (coords_any _ _ _ _ _ l (h.below hb1 (Nat.le_refl _)) z1 _ _ _ Hy.out).mono ?_
      rintro e1 w2 ⟨Ay, _, cy, rfl, rfl, hoy, hb2⟩
      have z2 := hb2.size
      go_wp2_with (go_at_call 18; refine (live_any _).mono ?_; rintro e1 w4 ⟨rfl, hb4⟩)
      go_ret
      exact ⟨rfl, hb1.trans ((hb2.mono z1).trans (hb4.mono (by omega)))⟩
  · rcases hx.two with ⟨h, _⟩ | ⟨rfl, hg, _, h1, rfl⟩
    · exact absurd (.inl h) hbad
    rcases hy.two with ⟨h, _⟩ | ⟨rfl, _, _, h2, rfl⟩
    · exact absurd (.inr h) hbad
    have Hx := Lib.hid hx
    have Hy := Lib.hid hy
    have Hg := Lib.hid hg
    have Hz := Lib.hid (full_zero l k k0 h2)
    have Hl := Lib.hid h.len
    have hm : n ≤ 6 := by rw [← h.len]; exact hg.2.1
    clear hbad hx hy hg h1 h2
    go_enter Try.func7, Try.ntmps7
    go_wp2_with fail
    refine (coords_any _ _ _ _ _ l h (Nat.le_refl _) k _ _ Hx.out).mono ?_
    rintro e1 w1 ⟨Ax, nx, cx, rfl, hnx, hox, hb1⟩
    have z1 := hb1.size
    rw [co_length, Hl.out] at hnx
    subst hnx
    go_wp2_with fail
    refine (coords_any _ _ _ _ _ l (h.below hb1 (Nat.le_refl _)) z1 _ _ _ Hy.out).mono ?_
    rintro e1 w2 ⟨Ay, ny, cy, rfl, hny, hoy, hb2⟩
    have z2 := hb2.size
    rw [co_length, Hl.out] at hny
    subst hny
    have i1 := (hox.below hb2).ints (by rw [co_length, Hl.out])
    have i2 := hoy.ints (by rw [co_length, Hl.out])
    have hb : Below w.heap.size w w2 := hb1.trans (hb2.mono z1)
    have i0 := h.below hb (Nat.le_refl _)
    have hcx : ny ≤ cx := hox.cap (by rw [co_length, Hl.out])
    have hcy : ny ≤ cy := hoy.cap (by rw [co_length, Hl.out])
    have hne : ((ny : Int) != ny) = false := by simp
    clear hox hoy hb1 hb2
    go_wp2_with fail
    go_loopw [9] (fun i wr => ∃ j : Nat, j ≤ ny ∧ i = .int .i64 ((j : Int) - 1) ∧ Full l k j ∧ Dn w2 wr) (fun i _ => (intOf i + 1).toNat)
    case atStart => exact ⟨ny, Nat.le_refl _, rfl, by rw [← Hl.out]; exact full_end l k, Dn.refl _⟩
    case round =>
      obtain ⟨j, hj, hi, hfull, hd⟩ := hrel
      have Hfull := Lib.hid hfull
      clear hfull
      have hbd := hd.below w2.heap.size
      cases j with
      | zero => exact absurd Hfull.out Hz.out
      | succ j =>
        rw [show ((j + 1 : Nat) : Int) - 1 = (j : Int) by omega] at hi
        subst hi
        obtain ⟨b0, o0, rfl, hb0, hc0⟩ := (i0.below (hbd.mono (by omega)) (Nat.le_refl _)).get (k := j) (by omega)
        obtain ⟨b1, o1, rfl, hb1, hc1⟩ := (i1.below hbd (Nat.le_refl _)).get (k := j) (by omega)
        obtain ⟨b2, o2, rfl, hb2, hc2⟩ := (i2.below hbd (Nat.le_refl _)).get (k := j) (by omega)
        rw [co_ix l k j (by rw [Hl.out]; omega)] at hc1
        rw [co_ix l (k + 1) j (by rw [Hl.out]; omega)] at hc2
        obtain ⟨c1, c2⟩ := coAt_bd l k j (by rw [Hl.out]; omega) Hg.out.1
        have c3 : ix l j ≤ 65536 := by
          have h1 := prod_drop_succ l j (by rw [Hl.out]; omega)
          have h2 := prod_drop_le Hg.out.1 j
          have h3 := le_mul_pos (a := ix l j) (by omega) (prod_pos (pos_drop Hg.out.1 (j + 1)))
          have := Hg.out.2.2
          omega
        have d0 : decide ((0 : Int) ≤ (j : Int)) = true := by simp
        have d1 : decide ((j : Int) < 0) = false := by simp
        have d2 : (j : Int) < ny := by omega
        by_cases he : coAt l k j = ix l j - 1
        · obtain ⟨nz, nf⟩ := next_zero l k j (by rw [Hl.out]; omega) Hg.out.1 Hfull.out he
          have q1 : (coAt l k j == ix l j - 1) = true := by simp [he]
          have q2 : (coAt l (k + 1) j != 0) = false := by simp [nz]
          have Nf := Lib.hid nf
          clear he nz nf
          go_wp2
          go_quiet (fail)
          go_wp2
          go_roundw
          case rel => exact ⟨j, by omega, by go_num, Nf.out, hd.drewN _⟩
          case measure => simp [intOf] <;> omega
        · obtain ⟨nu, ns⟩ := next_up l k j (by rw [Hl.out]; omega) Hg.out.1 Hfull.out he
          have q1 : (coAt l k j == ix l j - 1) = false := by simp [he]
          have q2 : (coAt l (k + 1) j != coAt l k j + 1) = false := by simp [nu]
          have Nt := Lib.hid (show (co l (k + 1)).take j = (co l k).take j from ext_ix (by simp [co_length]) fun i hi => by
            have hi' : i < j := by simp at hi; omega
            rw [ix_take _ _ _ hi', ix_take _ _ _ hi', co_ix l _ i (by rw [Hl.out]; omega), co_ix l _ i (by rw [Hl.out]; omega)]
            exact ns i hi')
          have t1 := Lib.hid ((i1.below hbd (Nat.le_refl _)).head j (by omega))
          have t2 := Lib.hid (show Ints wr w2.heap.size (some ⟨b2, o2, none⟩) j ((co l k).take j) by rw [← Nt.out]; exact (i2.below hbd (Nat.le_refl _)).head j (by omega))
          have c4 : (j : Int) ≤ cx := by omega
          have c5 : (j : Int) ≤ cy := by omega
          clear he nu ns i1 i2 i0
          go_wp2
          go_quiet (fail)
          go_wp2
          go_quiet (fail)
          go_wp2
          go_region_with (first | (go_at_call 16; refine (same_yes _ _ _ _ _ _ _ _ _ ((co l k).take j) (t1.out.drewN _) (t2.out.drewN _)).mono ?_; rintro e1 w4 ⟨rfl, hd4⟩) | (go_at_call 18; refine (live_any _).mono ?_; rintro e1 w5 ⟨rfl, hb5⟩))
          all_goals
            go_wp2
            go_ret
            have hb4 := hd4.below wr.heap.size
            have s1 := hbd.size
            have s4 := hb4.size
            refine ⟨rfl, hb.trans ((hbd.mono (by omega)).trans ((((below_drewN (Below.refl _ _) _).trans (hb4.mono (Nat.le_refl _))).mono (by omega)).trans (hb5.mono ?_)))⟩
            simp at s4
            omega
end Go.Proofs.Ytanghkleojjplaa
