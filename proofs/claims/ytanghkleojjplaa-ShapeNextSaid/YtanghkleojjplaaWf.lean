/- The walks: spreading. -/
import Derived.Test.YtanghkleojjplaaPlainB
import Derived.Test.YtanghkleojjplaaWb
import Derived.Test.YtanghkleojjplaaWc
namespace Go.Proofs.Ytanghkleojjplaa
open Go.RowKit

/-- What two are spread to: five ways. -/
def BcIs (a b x : List Int) (err : Int) : Prop :=
  (Bad a err ∧ x = []) ∨ (Good a ∧ Bad b err ∧ x = []) ∨ (Good a ∧ Good b ∧ ¬ Fits a b ∧ x = [] ∧ err = 4) ∨ (Good a ∧ Good b ∧ Fits a b ∧ Bad (bc a b) err ∧ x = []) ∨ (Good a ∧ Good b ∧ Fits a b ∧ Good (bc a b) ∧ x = bc a b ∧ err = 0)
theorem bcIs_any (a b : List Int) : ∃ x err, BcIs a b x err := by
  rcases bad_ways a with h | ⟨err, _, h⟩
  · rcases bad_ways b with g | ⟨err, _, g⟩
    · by_cases hf : Fits a b
      · rcases bad_ways (bc a b) with k | ⟨err, _, k⟩
        · exact ⟨_, _, .inr (.inr (.inr (.inr ⟨h, g, hf, k, rfl, rfl⟩)))⟩
        · exact ⟨_, _, .inr (.inr (.inr (.inl ⟨h, g, hf, k, rfl⟩)))⟩
      · exact ⟨_, _, .inr (.inr (.inl ⟨h, g, hf, rfl, rfl⟩))⟩
    · exact ⟨_, _, .inr (.inl ⟨h, g, rfl⟩)⟩
  · exact ⟨_, _, .inl ⟨h, rfl⟩⟩

set_option maxHeartbeats 400000 in
theorem at_any (w : World) (B : Nat) (A : Option Addr) (n c : Nat) (l : List Int) (h : Ints w B A n l) (k : Nat) (hk : k ≤ 6) :
    Calls Try.prog 28 #[.slice A n c, .int .i64 k] w fun e w' => e = .returned (.int .i64 (bk l k)) ∧ w = w' := by
  have hm : n ≤ 9223372036854775807 := h.small
  have Hl := Lib.hid h.len
  by_cases hlt : k < n
  · obtain ⟨b, off, rfl, hb, hc⟩ := h.get (k := n - 1 - k) (by omega)
    have He := Lib.hid (show bk l k = ix l (n - 1 - k) by rw [bk_in l k (by rw [Hl.out]; exact hlt), Hl.out])
    go_enter Try.func28, Try.ntmps28
    go_wp2
    go_ret
    exact ⟨by rw [He.out]; rfl, rfl⟩
  · have He := Lib.hid (bk_out l k (by rw [Hl.out]; omega))
    go_enter Try.func28, Try.ntmps28
    go_wp2
    go_ret
    exact ⟨by rw [He.out]; rfl, rfl⟩

theorem BcIs.unfit {a b x : List Int} {err : Int} (h : BcIs a b x err) (ha : Good a) (hb : Good b) (hf : ¬ Fits a b) : x = [] ∧ err = 4 := by
  rcases h with ⟨h, _⟩ | ⟨_, h, _⟩ | ⟨_, _, _, rfl, rfl⟩ | ⟨_, _, h, _⟩ | ⟨_, _, h, _⟩
  · exact absurd ha (bad_not_good' h)
  · exact absurd hb (bad_not_good' h)
  · exact ⟨rfl, rfl⟩
  · exact absurd h hf
  · exact absurd h hf
theorem BcIs.big {a b x : List Int} {err e2 : Int} (h : BcIs a b x err) (ha : Good a) (hb : Good b) (hf : Fits a b) (hg : Bad (bc a b) e2) : x = [] ∧ err = e2 := by
  rcases h with ⟨h, _⟩ | ⟨_, h, _⟩ | ⟨_, _, h, _⟩ | ⟨_, _, _, h, rfl⟩ | ⟨_, _, _, h, _⟩
  · exact absurd ha (bad_not_good' h)
  · exact absurd hb (bad_not_good' h)
  · exact absurd hf h
  · exact ⟨rfl, (h.1.same hg.1).2⟩
  · exact absurd h (bad_not_good' hg)
theorem BcIs.ok {a b x : List Int} {err : Int} (h : BcIs a b x err) (ha : Good a) (hb : Good b) (hf : Fits a b) (hg : Good (bc a b)) : x = bc a b ∧ err = 0 := by
  rcases h with ⟨h, _⟩ | ⟨_, h, _⟩ | ⟨_, _, h, _⟩ | ⟨_, _, _, h, _⟩ | ⟨_, _, _, _, rfl, rfl⟩
  · exact absurd ha (bad_not_good' h)
  · exact absurd hb (bad_not_good' h)
  · exact absurd hf h
  · exact absurd hg (bad_not_good' h)
  · exact ⟨rfl, rfl⟩
theorem lst_err' (w w' : World) (hb : Below w.heap.size w w') {x : List Int} {err e2 : Int} (h : x = [] ∧ err = e2) : Lst w x err (.returned (.tuple #[.slice none 0 0, .int .i64 e2])) w' := by
  obtain ⟨rfl, rfl⟩ := h
  exact ⟨_, _, _, rfl, rfl, own_nil _ _, hb⟩
theorem bk_small {l : List Int} (h : Good l) (i : Nat) : 1 ≤ bk l i ∧ bk l i ≤ 65536 := by
  refine ⟨bk_pos h.1 i, ?_⟩
  unfold bk; split
  · next hi =>
    have h1 := prod_drop_succ l (l.length - 1 - i) (by omega)
    have h2 := prod_drop_le h.1 (l.length - 1 - i)
    have h3 := le_mul_pos (a := ix l (l.length - 1 - i)) (by have := pos_ix h.1 (l.length - 1 - i) (by omega); omega) (prod_pos (pos_drop h.1 (l.length - 1 - i + 1)))
    have := h.2.2
    omega
  · omega

set_option maxHeartbeats 800000 in
theorem rbroad_bad1 (w : World) (B : Nat) (A : Option Addr) (n c : Nat) (l : List Int) (h : Ints w B A n l) (A' : Option Addr) (n' c' : Nat) (err : Int) (hb : Bad l err) :
    Calls Try.prog 20 #[.slice A n c, .slice A' n' c'] w (Lst w [] err) := by
  refine hb.cases (P := fun err => Calls Try.prog 20 #[.slice A n c, .slice A' n' c'] w (Lst w [] err)) (fun hc => ?_) (fun hc => ?_)
  all_goals
    have Hb := Lib.hid hc
    clear hb hc
    go_enter Try.func20, Try.ntmps20
    go_wp2_with (go_at_call 13; refine (rcount_any w B A n c l h _ _ Hb.out).mono ?_; rintro e w1 ⟨rfl, rfl⟩)
    go_ret2
    exact lst_err _ _
set_option maxHeartbeats 800000 in
theorem rbroad_bad2 (w : World) (B B' : Nat) (A A' : Option Addr) (n c n' c' : Nat) (l m : List Int) (h : Ints w B A n l) (g : Ints w B' A' n' m) (hg : Good l) (err : Int) (hb : Bad m err) :
    Calls Try.prog 20 #[.slice A n c, .slice A' n' c'] w (Lst w [] err) := by
  have Hc := Lib.hid (countIs_good hg)
  clear hg
  refine hb.cases (P := fun err => Calls Try.prog 20 #[.slice A n c, .slice A' n' c'] w (Lst w [] err)) (fun hc => ?_) (fun hc => ?_)
  all_goals
    have Hb := Lib.hid hc
    clear hb hc
    go_enter Try.func20, Try.ntmps20
    go_wp2_with fail
    refine (rcount_any w B A n c l h _ _ Hc.out).mono ?_
    rintro e w1 ⟨rfl, rfl⟩
    go_wp2_with fail
    refine (rcount_any w B' A' n' c' m g _ _ Hb.out).mono ?_
    rintro e w1 ⟨rfl, rfl⟩
    go_wp2
    go_ret2
    exact lst_err _ _
set_option maxHeartbeats 1600000 in
theorem rbroad_good (w : World) (B B' : Nat) (A A' : Option Addr) (n c n' c' : Nat) (l m : List Int) (h : Ints w B A n l) (g : Ints w B' A' n' m) (hB : B ≤ w.heap.size) (hB' : B' ≤ w.heap.size) (hgl : Good l) (hgm : Good m) (x : List Int) (err : Int) (hx : BcIs l m x err) :
    Calls Try.prog 20 #[.slice A n c, .slice A' n' c'] w (Lst w x err) := by
  have h6 : n ≤ 6 := by rw [← h.len]; exact hgl.2.1
  have g6 : n' ≤ 6 := by rw [← g.len]; exact hgm.2.1
  have Hl := Lib.hid h.len
  have Gl := Lib.hid g.len
  have Hc := Lib.hid (countIs_good hgl)
  have Gc := Lib.hid (countIs_good hgm)
  have Hg := Lib.hid hgl
  have Gg := Lib.hid hgm
  have Hx := Lib.hid hx
  clear hgl hgm hx
  obtain ⟨N, hN⟩ : ∃ N, N = max l.length m.length := ⟨_, rfl⟩
  have HN := Lib.hid hN
  have hN6 : N ≤ 6 := by rw [Hl.out, Gl.out] at hN; omega
  have hNn : N = max n n' := by rw [hN, Hl.out, Gl.out]
  clear hN
  rcases Nat.lt_or_ge n n' with hle | hle
  · obtain rfl : N = n' := by omega
    clear hNn
    have hmk := run_make_ints N (by omega)
    go_enter Try.func20, Try.ntmps20
    go_wp2_with fail
    refine (rcount_any w B A n c l h _ _ Hc.out).mono ?_
    rintro e w1 ⟨rfl, rfl⟩
    go_wp2_with fail
    refine (rcount_any w B' A' N c' m g _ _ Gc.out).mono ?_
    rintro e w1 ⟨rfl, rfl⟩
    go_wp2_with fail
    clear hmk
    go_loopw [10] (fun i wr => ∃ k : Nat, k ≤ N ∧ i = .int .i64 k ∧ Below w.heap.size w wr ∧ Own wr w.heap.size (.slice (some ⟨w.heap.size, 0, none⟩) N N) (bcBack l m k) ∧ ∀ j, j < k → bk l j = bk m j ∨ bk l j = 1 ∨ bk m j = 1) (fun i _ => N - (intOf i).toNat)
    case atStart =>
      refine ⟨0, Nat.zero_le _, rfl, (Below.refl _ _).alloc (Nat.le_refl _) _, ?_, fun j hj => absurd hj (by omega)⟩
      rw [bcBack_zero, ← HN.out]; exact own_zrow w _ N (Nat.le_refl _) (by unfold maxLen; omega)
    case round =>
      obtain ⟨k, hk, rfl, hb, ho, hall⟩ := hrel
      have Hall := Lib.hid hall
      clear hall
      by_cases hlt : k < N
      · have hi := h.below (hb.mono hB) (Nat.le_refl _)
        have gi := g.below (hb.mono hB') (Nat.le_refl _)
        obtain ⟨r1, r2⟩ := ho.read (by rw [bcBack_length l m k (by rw [← HN.out]; omega), HN.out]) (N - 1 - k) (by omega)
        obtain ⟨x1, x2⟩ := bk_small Hg.out k
        obtain ⟨y1, y2⟩ := bk_small Gg.out k
        have Hrel := Lib.hid (show ∀ (wr : World) (v : Int), v = max (bk l k) (bk m k) → Own wr w.heap.size (.slice (some ⟨w.heap.size, 0, none⟩) N N) (bcBack l m k) → Own (wr.setCell ⟨w.heap.size, N - 1 - k, none⟩ (.int .i64 v)) w.heap.size (.slice (some ⟨w.heap.size, 0, none⟩) N N) (bcBack l m (k + 1)) from fun wr v hv ho => by
          have ho' := ho.set_ (by rw [bcBack_length l m k (by rw [← HN.out]; omega), HN.out]) (N - 1 - k) v
          have e := bcBack_succ l m k (by rw [← HN.out]; exact hlt)
          rw [← hv, ← HN.out] at e
          rw [e] at ho'
          exact ho')
        have Hstep := Lib.hid (show (bk l k = bk m k ∨ bk l k = 1 ∨ bk m k = 1) → ∀ j, j < k + 1 → bk l j = bk m j ∨ bk l j = 1 ∨ bk m j = 1 from fun hf j hj => by
          by_cases e : j = k
          · subst e; exact hf
          · exact Hall.out j (by omega))
        by_cases hf : bk l k = bk m k ∨ bk l k = 1 ∨ bk m k = 1
        · have Hf := Lib.hid hf
          have hways : (bk l k ≤ bk m k ∧ bk m k ≤ bk l k) ∨ (bk l k ≤ 1 ∧ bk l k < bk m k) ∨ (bk m k ≤ 1 ∧ bk m k < bk l k) := by omega
          clear hf
          rcases hways with ⟨z1, z2⟩ | ⟨z1, z2⟩ | ⟨z1, z2⟩
          · have Heq := Lib.hid (show bk m k = bk l k by omega)
            have Hat := Lib.hid (show Calls Try.prog 28 #[.slice A' N c', .int .i64 k] wr fun e w' => e = .returned (.int .i64 (bk l k)) ∧ wr = w' by rw [← Heq.out]; exact at_any wr B' A' N c' m gi k (by omega))
            have Hmx := Lib.hid (show bk l k = max (bk l k) (bk m k) by omega)
            clear z1 z2
            go_wp2_with fail
            refine (at_any _ B A n c l hi k (by omega)).mono ?_
            rintro e w1 ⟨rfl, rfl⟩
            go_wp2_with fail
            refine Hat.out.mono ?_
            rintro e w1 ⟨rfl, rfl⟩
            go_wp2
            go_roundw
            case rel => exact ⟨k + 1, by omega, by go_num, hb.setCell (Nat.le_refl _) _, Hrel.out _ _ Hmx.out ho, Hstep.out Hf.out⟩
            case measure => simp [intOf]; omega
          · have q1 : (bk l k != bk m k) = true := by simp <;> omega
            have q2 : (bk l k != 1) = false := by simp <;> omega
            go_wp2_with fail
            refine (at_any _ B A n c l hi k (by omega)).mono ?_
            rintro e w1 ⟨rfl, rfl⟩
            go_wp2_with fail
            refine (at_any _ B' A' N c' m gi k (by omega)).mono ?_
            rintro e w1 ⟨rfl, rfl⟩
            go_wp2
            all_goals
              go_roundw
              case rel => exact ⟨k + 1, by omega, by go_num, hb.setCell (Nat.le_refl _) _, Hrel.out _ _ (by omega) ho, Hstep.out Hf.out⟩
              case measure => simp [intOf]; omega
          · have q1 : (bk l k != bk m k) = true := by simp <;> omega
            have q2 : (bk l k != 1) = true := by simp <;> omega
            have q3 : (bk m k != 1) = false := by simp <;> omega
            go_wp2_with fail
            refine (at_any _ B A n c l hi k (by omega)).mono ?_
            rintro e w1 ⟨rfl, rfl⟩
            go_wp2_with fail
            refine (at_any _ B' A' N c' m gi k (by omega)).mono ?_
            rintro e w1 ⟨rfl, rfl⟩
            go_wp2
            all_goals
              go_roundw
              case rel => exact ⟨k + 1, by omega, by go_num, hb.setCell (Nat.le_refl _) _, Hrel.out _ _ (by omega) ho, Hstep.out Hf.out⟩
              case measure => simp [intOf]; omega
        · have Hno := Lib.hid (show ¬ Fits l m from fun e => hf (e k))
          have hways : (bk l k < bk m k ∧ 1 < bk l k) ∨ (bk m k < bk l k ∧ 1 < bk m k) := by omega
          clear hf
          rcases hways with ⟨z1, z2⟩ | ⟨z1, z2⟩
          all_goals
            have q1 : (bk l k != bk m k) = true := by simp <;> omega
            have q2 : (bk l k != 1) = true := by simp <;> omega
            have q3 : (bk m k != 1) = true := by simp <;> omega
            go_wp2_with fail
            refine (at_any _ B A n c l hi k (by omega)).mono ?_
            rintro e w1 ⟨rfl, rfl⟩
            go_wp2_with fail
            refine (at_any _ B' A' N c' m gi k (by omega)).mono ?_
            rintro e w1 ⟨rfl, rfl⟩
            go_wp2
            go_ret2
            exact lst_err' _ _ hb (Hx.out.unfit Hg.out Gg.out Hno.out)
      · have hfit : Fits l m := fun i => by
          by_cases hi : i < k
          · exact Hall.out i hi
          · rw [bk_out l i (by rw [Hl.out]; omega)]; exact .inr (.inl rfl)
        have e : k = max l.length m.length := by rw [← HN.out]; omega
        rw [e, bcBack_all] at ho
        have hoi := ho.ints (by rw [bc_length, HN.out])
        have Hfit := Lib.hid hfit
        clear e hfit Hall
        rcases bad_ways (bc l m) with hgood | ⟨e2, hng, hbad⟩
        · have Hok := Lib.hid (Hx.out.ok Hg.out Gg.out Hfit.out hgood)
          have Hcc := Lib.hid (countIs_good hgood)
          clear hgood
          go_wp2_with fail
          refine (rcount_any _ _ _ _ _ _ hoi _ _ Hcc.out).mono ?_
          rintro e w1 ⟨rfl, rfl⟩
          go_wp2
          go_ret2
          obtain ⟨rfl, rfl⟩ := Hok.out
          exact ⟨_, _, _, rfl, by rw [bc_length, HN.out], ho, hb⟩
        · clear hng
          have Hbig := Lib.hid (Hx.out.big Hg.out Gg.out Hfit.out hbad)
          obtain ⟨hc2, rfl | rfl⟩ := hbad
          all_goals
            have Hcc := Lib.hid hc2
            clear hc2
            go_wp2_with fail
            refine (rcount_any _ _ _ _ _ _ hoi _ _ Hcc.out).mono ?_
            rintro e w1 ⟨rfl, rfl⟩
            go_wp2
            go_ret2
            exact lst_err' _ _ hb Hbig.out
  · obtain rfl : N = n := by omega
    clear hNn
    have hmk := run_make_ints N (by omega)
    go_enter Try.func20, Try.ntmps20
    go_wp2_with fail
    refine (rcount_any w B A N c l h _ _ Hc.out).mono ?_
    rintro e w1 ⟨rfl, rfl⟩
    go_wp2_with fail
    refine (rcount_any w B' A' n' c' m g _ _ Gc.out).mono ?_
    rintro e w1 ⟨rfl, rfl⟩
    go_wp2_with fail
    clear hmk
    go_loopw [10] (fun i wr => ∃ k : Nat, k ≤ N ∧ i = .int .i64 k ∧ Below w.heap.size w wr ∧ Own wr w.heap.size (.slice (some ⟨w.heap.size, 0, none⟩) N N) (bcBack l m k) ∧ ∀ j, j < k → bk l j = bk m j ∨ bk l j = 1 ∨ bk m j = 1) (fun i _ => N - (intOf i).toNat)
    case atStart =>
      refine ⟨0, Nat.zero_le _, rfl, (Below.refl _ _).alloc (Nat.le_refl _) _, ?_, fun j hj => absurd hj (by omega)⟩
      rw [bcBack_zero, ← HN.out]; exact own_zrow w _ N (Nat.le_refl _) (by unfold maxLen; omega)
    case round =>
      obtain ⟨k, hk, rfl, hb, ho, hall⟩ := hrel
      have Hall := Lib.hid hall
      clear hall
      by_cases hlt : k < N
      · have hi := h.below (hb.mono hB) (Nat.le_refl _)
        have gi := g.below (hb.mono hB') (Nat.le_refl _)
        obtain ⟨r1, r2⟩ := ho.read (by rw [bcBack_length l m k (by rw [← HN.out]; omega), HN.out]) (N - 1 - k) (by omega)
        obtain ⟨x1, x2⟩ := bk_small Hg.out k
        obtain ⟨y1, y2⟩ := bk_small Gg.out k
        have Hrel := Lib.hid (show ∀ (wr : World) (v : Int), v = max (bk l k) (bk m k) → Own wr w.heap.size (.slice (some ⟨w.heap.size, 0, none⟩) N N) (bcBack l m k) → Own (wr.setCell ⟨w.heap.size, N - 1 - k, none⟩ (.int .i64 v)) w.heap.size (.slice (some ⟨w.heap.size, 0, none⟩) N N) (bcBack l m (k + 1)) from fun wr v hv ho => by
          have ho' := ho.set_ (by rw [bcBack_length l m k (by rw [← HN.out]; omega), HN.out]) (N - 1 - k) v
          have e := bcBack_succ l m k (by rw [← HN.out]; exact hlt)
          rw [← hv, ← HN.out] at e
          rw [e] at ho'
          exact ho')
        have Hstep := Lib.hid (show (bk l k = bk m k ∨ bk l k = 1 ∨ bk m k = 1) → ∀ j, j < k + 1 → bk l j = bk m j ∨ bk l j = 1 ∨ bk m j = 1 from fun hf j hj => by
          by_cases e : j = k
          · subst e; exact hf
          · exact Hall.out j (by omega))
        by_cases hf : bk l k = bk m k ∨ bk l k = 1 ∨ bk m k = 1
        · have Hf := Lib.hid hf
          have hways : (bk l k ≤ bk m k ∧ bk m k ≤ bk l k) ∨ (bk l k ≤ 1 ∧ bk l k < bk m k) ∨ (bk m k ≤ 1 ∧ bk m k < bk l k) := by omega
          clear hf
          rcases hways with ⟨z1, z2⟩ | ⟨z1, z2⟩ | ⟨z1, z2⟩
          · have Heq := Lib.hid (show bk m k = bk l k by omega)
            have Hat := Lib.hid (show Calls Try.prog 28 #[.slice A' n' c', .int .i64 k] wr fun e w' => e = .returned (.int .i64 (bk l k)) ∧ wr = w' by rw [← Heq.out]; exact at_any wr B' A' n' c' m gi k (by omega))
            have Hmx := Lib.hid (show bk l k = max (bk l k) (bk m k) by omega)
            clear z1 z2
            go_wp2_with fail
            refine (at_any _ B A N c l hi k (by omega)).mono ?_
            rintro e w1 ⟨rfl, rfl⟩
            go_wp2_with fail
            refine Hat.out.mono ?_
            rintro e w1 ⟨rfl, rfl⟩
            go_wp2
            go_roundw
            case rel => exact ⟨k + 1, by omega, by go_num, hb.setCell (Nat.le_refl _) _, Hrel.out _ _ Hmx.out ho, Hstep.out Hf.out⟩
            case measure => simp [intOf]; omega
          · have q1 : (bk l k != bk m k) = true := by simp <;> omega
            have q2 : (bk l k != 1) = false := by simp <;> omega
            go_wp2_with fail
            refine (at_any _ B A N c l hi k (by omega)).mono ?_
            rintro e w1 ⟨rfl, rfl⟩
            go_wp2_with fail
            refine (at_any _ B' A' n' c' m gi k (by omega)).mono ?_
            rintro e w1 ⟨rfl, rfl⟩
            go_wp2
            all_goals
              go_roundw
              case rel => exact ⟨k + 1, by omega, by go_num, hb.setCell (Nat.le_refl _) _, Hrel.out _ _ (by omega) ho, Hstep.out Hf.out⟩
              case measure => simp [intOf]; omega
          · have q1 : (bk l k != bk m k) = true := by simp <;> omega
            have q2 : (bk l k != 1) = true := by simp <;> omega
            have q3 : (bk m k != 1) = false := by simp <;> omega
            go_wp2_with fail
            refine (at_any _ B A N c l hi k (by omega)).mono ?_
            rintro e w1 ⟨rfl, rfl⟩
            go_wp2_with fail
            refine (at_any _ B' A' n' c' m gi k (by omega)).mono ?_
            rintro e w1 ⟨rfl, rfl⟩
            go_wp2
            all_goals
              go_roundw
              case rel => exact ⟨k + 1, by omega, by go_num, hb.setCell (Nat.le_refl _) _, Hrel.out _ _ (by omega) ho, Hstep.out Hf.out⟩
              case measure => simp [intOf]; omega
        · have Hno := Lib.hid (show ¬ Fits l m from fun e => hf (e k))
          have hways : (bk l k < bk m k ∧ 1 < bk l k) ∨ (bk m k < bk l k ∧ 1 < bk m k) := by omega
          clear hf
          rcases hways with ⟨z1, z2⟩ | ⟨z1, z2⟩
          all_goals
            have q1 : (bk l k != bk m k) = true := by simp <;> omega
            have q2 : (bk l k != 1) = true := by simp <;> omega
            have q3 : (bk m k != 1) = true := by simp <;> omega
            go_wp2_with fail
            refine (at_any _ B A N c l hi k (by omega)).mono ?_
            rintro e w1 ⟨rfl, rfl⟩
            go_wp2_with fail
            refine (at_any _ B' A' n' c' m gi k (by omega)).mono ?_
            rintro e w1 ⟨rfl, rfl⟩
            go_wp2
            go_ret2
            exact lst_err' _ _ hb (Hx.out.unfit Hg.out Gg.out Hno.out)
      · have hfit : Fits l m := fun i => by
          by_cases hi : i < k
          · exact Hall.out i hi
          · rw [bk_out l i (by rw [Hl.out]; omega)]; exact .inr (.inl rfl)
        have e : k = max l.length m.length := by rw [← HN.out]; omega
        rw [e, bcBack_all] at ho
        have hoi := ho.ints (by rw [bc_length, HN.out])
        have Hfit := Lib.hid hfit
        clear e hfit Hall
        rcases bad_ways (bc l m) with hgood | ⟨e2, hng, hbad⟩
        · have Hok := Lib.hid (Hx.out.ok Hg.out Gg.out Hfit.out hgood)
          have Hcc := Lib.hid (countIs_good hgood)
          clear hgood
          go_wp2_with fail
          refine (rcount_any _ _ _ _ _ _ hoi _ _ Hcc.out).mono ?_
          rintro e w1 ⟨rfl, rfl⟩
          go_wp2
          go_ret2
          obtain ⟨rfl, rfl⟩ := Hok.out
          exact ⟨_, _, _, rfl, by rw [bc_length, HN.out], ho, hb⟩
        · clear hng
          have Hbig := Lib.hid (Hx.out.big Hg.out Gg.out Hfit.out hbad)
          obtain ⟨hc2, rfl | rfl⟩ := hbad
          all_goals
            have Hcc := Lib.hid hc2
            clear hc2
            go_wp2_with fail
            refine (rcount_any _ _ _ _ _ _ hoi _ _ Hcc.out).mono ?_
            rintro e w1 ⟨rfl, rfl⟩
            go_wp2
            go_ret2
            exact lst_err' _ _ hb Hbig.out
end Go.Proofs.Ytanghkleojjplaa
