/- The walks of the laws: even, product, steps. -/
import Derived.Test.YtanghkleojjplaaWi
import Derived.Test.YtanghkleojjplaaPlainC
namespace Go.Proofs.Ytanghkleojjplaa
open Go.RowKit

/-- An error that is none of OK. -/
def Err (e : Int) : Prop := e = 4 ∨ e = 6 ∨ e = 1
theorem Bad.err {l : List Int} {e : Int} (h : Bad l e) : Err e := by rcases h.2 with h | h <;> simp [Err, h]
theorem BcIs.two {a b x : List Int} {e : Int} (h : BcIs a b x e) : (Err e ∧ x = []) ∨ (e = 0 ∧ Good a ∧ Good b ∧ Fits a b ∧ Good (bc a b) ∧ x = bc a b) := by
  rcases h with ⟨h, rfl⟩ | ⟨_, h, rfl⟩ | ⟨_, _, _, rfl, rfl⟩ | ⟨_, _, _, h, rfl⟩ | ⟨h1, h2, h3, h4, rfl, rfl⟩
  · exact .inl ⟨h.err, rfl⟩
  · exact .inl ⟨h.err, rfl⟩
  · exact .inl ⟨by simp [Err], rfl⟩
  · exact .inl ⟨h.err, rfl⟩
  · exact .inr ⟨rfl, h1, h2, h3, h4, rfl⟩
theorem bcIs_ok {a b : List Int} (h1 : Good a) (h2 : Good b) (h3 : Fits a b) (h4 : Good (bc a b)) : BcIs a b (bc a b) 0 := .inr (.inr (.inr (.inr ⟨h1, h2, h3, h4, rfl, rfl⟩)))
/-- Spread in the other order: an error too. -/
theorem BcIs.turn {a b x y : List Int} {e f : Int} (h : BcIs a b x e) (g : BcIs b a y f) (he : Err e) : Err f ∧ y = [] := by
  rcases g.two with k | ⟨rfl, h1, h2, h3, h4, rfl⟩
  · exact k
  · exfalso
    rcases h.two with ⟨_, _⟩ | ⟨rfl, _⟩
    · have k := h.ok h2 h1 (fits_comm h3) (by rw [bc_comm]; exact h4)
      rw [k.2] at he
      simp [Err] at he
    · simp [Err] at he

set_option maxHeartbeats 1600000 in
theorem even_bad (w : World) (A A' A2 : Option Addr) (n c n' c' n2 c2 : Nat) (l m : List Int) (h : Ints w w.heap.size A n l) (g : Ints w w.heap.size A' n' m) (e f : Int) (he : BcIs l m [] e) (hf : BcIs m l [] f) (e1 : Err e) (e2 : Err f) :
    Calls Try.prog 8 #[.slice A n c, .slice A' n' c', .slice A2 n2 c2] w (Bol w true) := by
  have Ha := Lib.hid he
  have Hb := Lib.hid hf
  clear he hf
  rcases e1 with rfl | rfl | rfl <;> rcases e2 with rfl | rfl | rfl
  all_goals
    go_enter Try.func8, Try.ntmps8
    go_wp2_with fail
    refine (broad_any _ _ _ _ _ _ _ _ _ l m h g (Nat.le_refl _) (Nat.le_refl _) [] _ Ha.out).mono ?_
    rintro e1 w1 ⟨Ax, _, cx, rfl, rfl, hox, hb1⟩
    have z1 := hb1.size
    go_wp2_with fail
    refine (broad_any _ _ _ _ _ _ _ _ _ m l (g.below hb1 (Nat.le_refl _)) (h.below hb1 (Nat.le_refl _)) z1 z1 [] _ Hb.out).mono ?_
    rintro e1 w2 ⟨Ay, _, cy, rfl, rfl, hoy, hb2⟩
    have z2 := hb2.size
    go_wp2_with fail
    refine (same_yes _ _ _ _ _ _ _ _ _ [] ((hox.below hb2).ints rfl) (hoy.ints rfl)).mono ?_
    rintro e1 w3 ⟨rfl, hd⟩
    have hb3 := hd.below w2.heap.size
    have z3 := hb3.size
    go_wp2_with fail
    refine (live_any _).mono ?_
    rintro e1 w4 ⟨rfl, hb4⟩
    go_wp2
    go_ret
    exact ⟨rfl, hb1.trans ((hb2.mono z1).trans ((hb3.mono (by omega)).trans (hb4.mono (by omega))))⟩

set_option maxHeartbeats 1600000 in
theorem even_law (w : World) (A A' A2 : Option Addr) (n c n' c' n2 c2 : Nat) (l m r : List Int) (h : Ints w w.heap.size A n l) (g : Ints w w.heap.size A' n' m) (k : Ints w w.heap.size A2 n2 r) :
    Calls Try.prog 8 #[.slice A n c, .slice A' n' c', .slice A2 n2 c2] w (Bol w true) := by
  obtain ⟨x, e, hx⟩ := bcIs_any l m
  obtain ⟨y, f, hy⟩ := bcIs_any m l
  rcases hx.two with ⟨he, rfl⟩ | ⟨rfl, gl, gm, hf, gx, rfl⟩
  · obtain ⟨hf, rfl⟩ := hx.turn hy he
    exact even_bad w A A' A2 n c n' c' n2 c2 l m h g e f hx hy he hf
  · clear hy
    have Hx := Lib.hid hx
    have Hy := Lib.hid (show BcIs m l (bc l m) 0 by rw [bc_comm]; exact bcIs_ok gm gl (fits_comm hf) (by rw [bc_comm]; exact gx))
    have Hz := Lib.hid (show BcIs l (bc l m) (bc l m) 0 by
      have := bcIs_ok (a := l) (b := bc l m) gl gx (fits_self gl.1 hf) (by rw [bc_self]; exact gx)
      rwa [bc_self] at this)
    obtain ⟨u, e2, hu⟩ := bcIs_any (bc l m) r
    obtain ⟨v, e3, hv⟩ := bcIs_any m r
    have Hu := Lib.hid hu
    have Hv := Lib.hid hv
    have front : (∀ (w5 : World) (Ax Au Av Aw : Option Addr) (cx cu cv cw : Nat), True) := fun _ _ _ _ _ _ _ _ _ => trivial
    clear front
    by_cases hbad : Err e2 ∨ Err e3
    · have two2 : Err e2 ∨ e2 = 0 := by rcases hu.two with ⟨h, _⟩ | ⟨h, _⟩ <;> simp [h]
      have two3 : Err e3 ∨ e3 = 0 := by rcases hv.two with ⟨h, _⟩ | ⟨h, _⟩ <;> simp [h]
      have ways : ∀ P : Int → Int → Prop, (∀ b, P 4 b) → (∀ b, P 6 b) → (∀ b, P 1 b) → P 0 4 → P 0 6 → P 0 1 → P e2 e3 := by
        intro P p1 p2 p3 p4 p5 p6
        rcases two2 with (rfl | rfl | rfl) | rfl
        · exact p1 _
        · exact p2 _
        · exact p3 _
        · rcases two3 with (rfl | rfl | rfl) | rfl
          · exact p4
          · exact p5
          · exact p6
          · simp [Err] at hbad
      clear two2 two3 hbad hx hu hv gl gm hf gx
      revert Hu Hv
      refine ways (fun e2 e3 => Hid (BcIs (bc l m) r u e2) → Hid (BcIs m r v e3) → Calls Try.prog 8 #[.slice A n c, .slice A' n' c', .slice A2 n2 c2] w (Bol w true)) ?_ ?_ ?_ ?_ ?_ ?_
      all_goals
        clear ways
        intros
        rename_i Hu Hv
        go_enter Try.func8, Try.ntmps8
        go_wp2_with fail
        refine (broad_any _ _ _ _ _ _ _ _ _ l m h g (Nat.le_refl _) (Nat.le_refl _) _ _ Hx.out).mono ?_
        rintro e1 w1 ⟨Ax, _, cx, rfl, rfl, hox, hb1⟩
        have z1 := hb1.size
        go_wp2_with fail
        refine (broad_any _ _ _ _ _ _ _ _ _ m l (g.below hb1 (Nat.le_refl _)) (h.below hb1 (Nat.le_refl _)) z1 z1 _ _ Hy.out).mono ?_
        rintro e1 w2 ⟨Ay, _, cy, rfl, rfl, hoy, hb2⟩
        have z2 := hb2.size
        have hox2 := hox.below hb2
        go_wp2_with fail
        refine (same_yes _ _ _ _ _ _ _ _ _ _ (hox2.ints rfl) (hoy.ints rfl)).mono ?_
        rintro e1 w3 ⟨rfl, hd⟩
        have hb3 := hd.below w2.heap.size
        have z3 := hb3.size
        have hb13 : Below w.heap.size w w3 := hb1.trans ((hb2.mono z1).trans (hb3.mono (by omega)))
        have h3 := h.below hb13 (Nat.le_refl _)
        have g3 := g.below hb13 (Nat.le_refl _)
        have k3 := k.below hb13 (Nat.le_refl _)
        have x3 := (hox2.below hb3).ints rfl
        go_wp2_with fail
        refine (broad_any _ _ _ _ _ _ _ _ _ l _ h3 x3 (by omega) (Nat.le_refl _) _ _ Hz.out).mono ?_
        rintro e1 w4 ⟨Az, _, cz, rfl, rfl, hoz, hb4⟩
        have z4 := hb4.size
        go_wp2_with fail
        refine (same_yes _ _ _ _ _ _ _ _ _ _ (hoz.ints rfl) (x3.below hb4 (Nat.le_refl _))).mono ?_
        rintro e1 w5 ⟨rfl, hd5⟩
        have hb5 := hd5.below w4.heap.size
        have z5 := hb5.size
        have hb35 : Below w3.heap.size w3 w5 := hb4.trans (hb5.mono z4)
        have x5 := x3.below hb35 (Nat.le_refl _)
        have g5 := g3.below (hb35.mono (by omega)) (Nat.le_refl _)
        have k5 := k3.below (hb35.mono (by omega)) (Nat.le_refl _)
        go_wp2_with fail
        refine (broad_any _ _ _ _ _ _ _ _ _ _ r x5 k5 (by omega) (by omega) _ _ Hu.out).mono ?_
        rintro e1 w6 ⟨Au, _, cu, rfl, rfl, hou, hb6⟩
        have z6 := hb6.size
        have g6 := g5.below (hb6.mono (by omega)) (Nat.le_refl _)
        have k6 := k5.below (hb6.mono (by omega)) (Nat.le_refl _)
        go_wp2_with fail
        refine (broad_any _ _ _ _ _ _ _ _ _ m r g6 k6 (by omega) (by omega) _ _ Hv.out).mono ?_
        rintro e1 w7 ⟨Av, _, cv, rfl, rfl, hov, hb7⟩
        have z7 := hb7.size
        go_wp2_with fail
        refine (live_any _).mono ?_
        rintro e1 w8 ⟨rfl, hb8⟩
        go_wp2
        go_ret
        exact ⟨rfl, hb13.trans ((hb35.mono (by omega)).trans ((hb6.mono (by omega)).trans ((hb7.mono (by omega)).trans (hb8.mono (by omega)))))⟩
    · rcases hu.two with ⟨h, _⟩ | ⟨rfl, _, gr, hfu, gu, rfl⟩
      · exact absurd (.inl h) hbad
      rcases hv.two with ⟨h, _⟩ | ⟨rfl, _, _, hfv, gv, rfl⟩
      · exact absurd (.inr h) hbad
      have Hw := Lib.hid (show BcIs l (bc m r) (bc (bc l m) r) 0 by
        rw [bc_assoc]
        exact bcIs_ok gl gv (fits_assoc gl.1 gm.1 gr.1 hf hfu hfv) (by rw [← bc_assoc]; exact gu))
      clear hbad hx hu hv gl gm hf gx gr hfu gu hfv gv
      go_enter Try.func8, Try.ntmps8
      go_wp2_with fail
      refine (broad_any _ _ _ _ _ _ _ _ _ l m h g (Nat.le_refl _) (Nat.le_refl _) _ _ Hx.out).mono ?_
      rintro e1 w1 ⟨Ax, _, cx, rfl, rfl, hox, hb1⟩
      have z1 := hb1.size
      go_wp2_with fail
      refine (broad_any _ _ _ _ _ _ _ _ _ m l (g.below hb1 (Nat.le_refl _)) (h.below hb1 (Nat.le_refl _)) z1 z1 _ _ Hy.out).mono ?_
      rintro e1 w2 ⟨Ay, _, cy, rfl, rfl, hoy, hb2⟩
      have z2 := hb2.size
      have hox2 := hox.below hb2
      go_wp2_with fail
      refine (same_yes _ _ _ _ _ _ _ _ _ _ (hox2.ints rfl) (hoy.ints rfl)).mono ?_
      rintro e1 w3 ⟨rfl, hd⟩
      have hb3 := hd.below w2.heap.size
      have z3 := hb3.size
      have hb13 : Below w.heap.size w w3 := hb1.trans ((hb2.mono z1).trans (hb3.mono (by omega)))
      have h3 := h.below hb13 (Nat.le_refl _)
      have g3 := g.below hb13 (Nat.le_refl _)
      have k3 := k.below hb13 (Nat.le_refl _)
      have x3 := (hox2.below hb3).ints rfl
      go_wp2_with fail
      refine (broad_any _ _ _ _ _ _ _ _ _ l _ h3 x3 (by omega) (Nat.le_refl _) _ _ Hz.out).mono ?_
      rintro e1 w4 ⟨Az, _, cz, rfl, rfl, hoz, hb4⟩
      have z4 := hb4.size
      go_wp2_with fail
      refine (same_yes _ _ _ _ _ _ _ _ _ _ (hoz.ints rfl) (x3.below hb4 (Nat.le_refl _))).mono ?_
      rintro e1 w5 ⟨rfl, hd5⟩
      have hb5 := hd5.below w4.heap.size
      have z5 := hb5.size
      have hb35 : Below w3.heap.size w3 w5 := hb4.trans (hb5.mono z4)
      have x5 := x3.below hb35 (Nat.le_refl _)
      have h5 := h3.below (hb35.mono (by omega)) (Nat.le_refl _)
      have g5 := g3.below (hb35.mono (by omega)) (Nat.le_refl _)
      have k5 := k3.below (hb35.mono (by omega)) (Nat.le_refl _)
      go_wp2_with fail
      refine (broad_any _ _ _ _ _ _ _ _ _ _ r x5 k5 (by omega) (by omega) _ _ Hu.out).mono ?_
      rintro e1 w6 ⟨Au, _, cu, rfl, rfl, hou, hb6⟩
      have z6 := hb6.size
      have h6 := h5.below (hb6.mono (by omega)) (Nat.le_refl _)
      have g6 := g5.below (hb6.mono (by omega)) (Nat.le_refl _)
      have k6 := k5.below (hb6.mono (by omega)) (Nat.le_refl _)
      go_wp2_with fail
      refine (broad_any _ _ _ _ _ _ _ _ _ m r g6 k6 (by omega) (by omega) _ _ Hv.out).mono ?_
      rintro e1 w7 ⟨Av, _, cv, rfl, rfl, hov, hb7⟩
      have z7 := hb7.size
      have h7 := h6.below (hb7.mono (by omega)) (Nat.le_refl _)
      have hou7 := hou.below hb7
      go_wp2_with fail
      refine (broad_any _ _ _ _ _ _ _ _ _ l _ h7 (hov.ints rfl) (by omega) (Nat.le_refl _) _ _ Hw.out).mono ?_
      rintro e1 w8 ⟨Aw, _, cw, rfl, rfl, how, hb8⟩
      have z8 := hb8.size
      go_wp2_with fail
      refine (same_yes _ _ _ _ _ _ _ _ _ _ ((hou7.below hb8).ints rfl) (how.ints rfl)).mono ?_
      rintro e1 w9 ⟨rfl, hd9⟩
      have hb9 := hd9.below w8.heap.size
      have z9 := hb9.size
      go_wp2_with fail
      refine (live_any _).mono ?_
      rintro e1 w10 ⟨rfl, hb10⟩
      go_wp2
      go_ret
      exact ⟨rfl, hb13.trans ((hb35.mono (by omega)).trans ((hb6.mono (by omega)).trans ((hb7.mono (by omega)).trans ((hb8.mono (by omega)).trans ((hb9.mono (by omega)).trans (hb10.mono (by omega)))))))⟩
end Go.Proofs.Ytanghkleojjplaa
