/- The walks of the laws: counts, spreads, places, back. -/
import Derived.Test.YtanghkleojjplaaWh
namespace Go.Proofs.Ytanghkleojjplaa
open Go.RowKit

/-- What strides are: two ways. -/
def StIs (l x : List Int) (err : Int) : Prop := (Good l ∧ x = st l ∧ err = 0) ∨ (Bad l err ∧ x = [])
theorem stIs_any (l : List Int) : ∃ x err, StIs l x err := by
  rcases bad_ways l with h | ⟨err, _, h⟩
  · exact ⟨_, _, .inl ⟨h, rfl, rfl⟩⟩
  · exact ⟨_, _, .inr ⟨h, rfl⟩⟩
theorem countIs_any (l : List Int) : ∃ x err, CountIs l x err := ⟨_, _, rfl, rfl⟩
theorem strides_any (w : World) (B : Nat) (A : Option Addr) (n c : Nat) (l : List Int) (h : Ints w B A n l) (hB : B ≤ w.heap.size) (x : List Int) (err : Int) (hx : StIs l x err) :
    Calls Try.prog 14 #[.slice A n c] w (Lst w x err) := by
  rcases hx with ⟨hg, rfl, rfl⟩ | ⟨hb, rfl⟩
  · exact strides_good w B A n c l h hB hg
  · exact strides_bad w B A n c l h err hb
theorem rstrides_any (w : World) (B : Nat) (A : Option Addr) (n c : Nat) (l : List Int) (h : Ints w B A n l) (hnc : n ≤ c) (hB : B ≤ w.heap.size) (x : List Int) (err : Int) (hx : StIs l x err) :
    Calls Try.prog 15 #[.slice A n c] w (Lst w x err) := by
  rcases hx with ⟨hg, rfl, rfl⟩ | ⟨hb, rfl⟩
  · exact rstrides_good w B A n c l h hnc hB hg
  · exact rstrides_bad w B A n c l h err hb
theorem same_yes (w : World) (B B' : Nat) (A A' : Option Addr) (n c n' c' : Nat) (l : List Int) (h : Ints w B A n l) (g : Ints w B' A' n' l) :
    Calls Try.prog 16 #[.slice A n c, .slice A' n' c'] w fun e w' => e = .returned (.bool true) ∧ Dn w w' :=
  same_any w B B' A A' n c n' c' l l h g true (by simp)

set_option maxHeartbeats 800000 in
theorem counts_law (w : World) (A : Option Addr) (n c : Nat) (l : List Int) (h : Ints w w.heap.size A n l) (hnc : n ≤ c) (hr : n * 8 ≤ 140737488351232) :
    Calls Try.prog 3 #[.slice A n c] w (Bol w true) := by
  obtain ⟨a, e, hc⟩ := countIs_any l
  obtain ⟨x, f, hs⟩ := stIs_any l
  have Hc := Lib.hid hc
  have Hs := Lib.hid hs
  clear hc hs
  go_enter Try.func3, Try.ntmps3
  go_wp2_with fail
  refine (copy_any w _ A n c l h hr).mono ?_
  rintro e1 w1 ⟨v, rfl, ho, hb⟩
  obtain ⟨Ao, co, rfl⟩ := ho.form
  have hio := ho.ints rfl
  have hi := h.below hb (Nat.le_refl _)
  have z1 := hb.size
  go_wp2_with fail
  refine (count_any _ _ _ _ _ l hio a e Hc.out).mono ?_
  rintro e1 w2 ⟨rfl, rfl⟩
  go_wp2_with fail
  refine (rcount_any _ _ _ _ _ l hi a e Hc.out).mono ?_
  rintro e1 w2 ⟨rfl, rfl⟩
  go_wp2_with fail
  refine (strides_any _ _ _ _ _ l hio (Nat.le_refl _) x f Hs.out).mono ?_
  rintro e1 w2 ⟨Ax, _, cx, rfl, rfl, hox, hb2⟩
  have z2 := hb2.size
  go_wp2_with fail
  refine (rstrides_any _ _ _ _ _ l (hi.below (hb2.mono z1) (Nat.le_refl _)) hnc (by omega) x f Hs.out).mono ?_
  rintro e1 w3 ⟨Ay, _, cy, rfl, rfl, hoy, hb3⟩
  have z3 := hb3.size
  have hox3 := hox.below hb3
  go_wp2_with fail
  refine (same_yes _ _ _ _ _ _ _ _ _ x (hox3.ints rfl) (hoy.ints rfl)).mono ?_
  rintro e1 w4 ⟨rfl, hd⟩
  have hb4 := hd.below w3.heap.size
  have z4 := hb4.size
  have hox4 := hox3.below hb4
  go_wp2_with fail
  refine (spoil_any _ _ _ _ _ x hox4 rfl).mono ?_
  rintro e1 w5 ⟨rfl, hb5⟩
  have z5 := hb5.size
  have hb15 : Below w1.heap.size w1 w5 := hb2.trans ((hb3.mono z2).trans ((hb4.mono (by omega)).trans hb5))
  go_wp2_with fail
  refine (same_yes _ _ _ _ _ _ _ _ _ l (hio.below hb15 (Nat.le_refl _)) (hi.below (hb15.mono z1) (Nat.le_refl _))).mono ?_
  rintro e1 w6 ⟨rfl, hd6⟩
  go_wp2_with fail
  refine (live_any _).mono ?_
  rintro e1 w7 ⟨rfl, hb7⟩
  have hb6 := hd6.below w5.heap.size
  have z6 := hb6.size
  go_wp2
  go_ret
  exact ⟨rfl, hb.trans ((hb15.mono z1).trans ((hb6.mono (by omega)).trans (hb7.mono (by omega))))⟩

set_option maxHeartbeats 800000 in
theorem spreads_law (w : World) (A A' : Option Addr) (n c n' c' : Nat) (l m : List Int) (h : Ints w w.heap.size A n l) (g : Ints w w.heap.size A' n' m) (hr : n * 8 ≤ 140737488351232) (gr : n' * 8 ≤ 140737488351232) :
    Calls Try.prog 4 #[.slice A n c, .slice A' n' c'] w (Bol w true) := by
  obtain ⟨x, f, hs⟩ := bcIs_any l m
  have Hs := Lib.hid hs
  clear hs
  go_enter Try.func4, Try.ntmps4
  go_wp2_with fail
  refine (copy_any w _ A n c l h hr).mono ?_
  rintro e1 w1 ⟨v, rfl, ho, hb⟩
  obtain ⟨Ao, co, rfl⟩ := ho.form
  have z1 := hb.size
  have h1 := h.below hb (Nat.le_refl _)
  have g1 := g.below hb (Nat.le_refl _)
  go_wp2_with fail
  refine (copy_any w1 _ A' n' c' m g1 gr).mono ?_
  rintro e1 w2 ⟨v, rfl, go, gb⟩
  obtain ⟨Bo, bo, rfl⟩ := go.form
  have z2 := gb.size
  have hio := (ho.below gb).ints rfl
  have gio := go.ints rfl
  have h2 := h1.below (gb.mono z1) (Nat.le_refl _)
  have g2 := g1.below (gb.mono z1) (Nat.le_refl _)
  go_wp2_with fail
  refine (broad_any _ _ _ _ _ _ _ _ _ l m hio gio (Nat.le_refl _) (Nat.le_refl _) x f Hs.out).mono ?_
  rintro e1 w3 ⟨Ax, _, cx, rfl, rfl, hox, hb3⟩
  have z3 := hb3.size
  go_wp2_with fail
  refine (rbroad_any _ _ _ _ _ _ _ _ _ l m (h2.below (hb3.mono (by omega)) (Nat.le_refl _)) (g2.below (hb3.mono (by omega)) (Nat.le_refl _)) (by omega) (by omega) x f Hs.out).mono ?_
  rintro e1 w4 ⟨Ay, _, cy, rfl, rfl, hoy, hb4⟩
  have z4 := hb4.size
  have hox4 := hox.below hb4
  go_wp2_with fail
  refine (same_yes _ _ _ _ _ _ _ _ _ x (hox4.ints rfl) (hoy.ints rfl)).mono ?_
  rintro e1 w5 ⟨rfl, hd⟩
  have hb5 := hd.below w4.heap.size
  have z5 := hb5.size
  have hox5 := hox4.below hb5
  go_wp2_with fail
  refine (spoil_any _ _ _ _ _ x hox5 rfl).mono ?_
  rintro e1 w6 ⟨rfl, hb6⟩
  have z6 := hb6.size
  have hb26 : Below w2.heap.size w2 w6 := hb3.trans ((hb4.mono z3).trans ((hb5.mono (by omega)).trans hb6))
  go_wp2_with fail
  refine (same_yes _ _ _ _ _ _ _ _ _ l (hio.below hb26 (Nat.le_refl _)) (h2.below (hb26.mono (by omega)) (Nat.le_refl _))).mono ?_
  rintro e1 w7 ⟨rfl, hd7⟩
  have hb7 := hd7.below w6.heap.size
  have z7 := hb7.size
  have hb27 : Below w2.heap.size w2 w7 := hb26.trans (hb7.mono (by omega))
  go_wp2_with fail
  refine (same_yes _ _ _ _ _ _ _ _ _ m (gio.below hb27 (Nat.le_refl _)) (g2.below (hb27.mono (by omega)) (Nat.le_refl _))).mono ?_
  rintro e1 w8 ⟨rfl, hd8⟩
  have hb8 := hd8.below w7.heap.size
  have z8 := hb8.size
  go_wp2_with fail
  refine (live_any _).mono ?_
  rintro e1 w9 ⟨rfl, hb9⟩
  go_wp2
  go_ret
  exact ⟨rfl, hb.trans ((gb.mono z1).trans ((hb27.mono (by omega)).trans ((hb8.mono (by omega)).trans (hb9.mono (by omega)))))⟩

set_option maxHeartbeats 800000 in
theorem places_law (w : World) (A A' : Option Addr) (n c n' c' : Nat) (l m : List Int) (k : Int) (h : Ints w w.heap.size A n l) (g : Ints w w.heap.size A' n' m) (hr : n * 8 ≤ 140737488351232) :
    Calls Try.prog 5 #[.slice A n c, .slice A' n' c', .int .i64 k] w (Bol w true) := by
  obtain ⟨a, e, hs⟩ := offIs_any l m
  have Hs := Lib.hid hs
  clear hs
  obtain ⟨x, f, hs⟩ := coIs_any l k
  have Hc := Lib.hid hs
  clear hs
  go_enter Try.func5, Try.ntmps5
  go_wp2_with fail
  refine (copy_any w _ A n c l h hr).mono ?_
  rintro e1 w1 ⟨v, rfl, ho, hb⟩
  obtain ⟨Ao, co, rfl⟩ := ho.form
  have z1 := hb.size
  have hio := ho.ints rfl
  have h1 := h.below hb (Nat.le_refl _)
  have g1 := g.below hb (Nat.le_refl _)
  go_wp2_with fail
  refine (offset_any _ _ _ _ _ _ _ _ _ l m hio g1 (Nat.le_refl _) z1 a e Hs.out).mono ?_
  rintro e1 w2 ⟨rfl, hb2⟩
  have z2 := hb2.size
  go_wp2_with fail
  refine (roffset_any _ _ _ _ _ _ _ _ _ l m (h1.below (hb2.mono z1) (Nat.le_refl _)) (g1.below (hb2.mono z1) (Nat.le_refl _)) a e Hs.out).mono ?_
  rintro e1 w3 ⟨rfl, hb3⟩
  have z3 := hb3.size
  have hb13 : Below w1.heap.size w1 w3 := hb2.trans (hb3.mono z2)
  have hio3 := hio.below hb13 (Nat.le_refl _)
  have h3 := h1.below (hb13.mono z1) (Nat.le_refl _)
  go_wp2_with fail
  refine (coords_any _ _ _ _ _ l hio3 (by omega) k x f Hc.out).mono ?_
  rintro e1 w4 ⟨Ax, _, cx, rfl, rfl, hox, hb4⟩
  have z4 := hb4.size
  go_wp2_with fail
  refine (rcoords_any _ _ _ _ _ l (h3.below (hb4.mono (by omega)) (Nat.le_refl _)) (by omega) k x f Hc.out).mono ?_
  rintro e1 w5 ⟨Ay, _, cy, rfl, rfl, hoy, hb5⟩
  have z5 := hb5.size
  have hox5 := hox.below hb5
  go_wp2_with fail
  refine (same_yes _ _ _ _ _ _ _ _ _ x (hox5.ints rfl) (hoy.ints rfl)).mono ?_
  rintro e1 w6 ⟨rfl, hd⟩
  have hb6 := hd.below w5.heap.size
  have z6 := hb6.size
  have hox6 := hox5.below hb6
  go_wp2_with fail
  refine (spoil_any _ _ _ _ _ x hox6 rfl).mono ?_
  rintro e1 w7 ⟨rfl, hb7⟩
  have z7 := hb7.size
  have hb37 : Below w3.heap.size w3 w7 := hb4.trans ((hb5.mono z4).trans ((hb6.mono (by omega)).trans hb7))
  go_wp2_with fail
  refine (same_yes _ _ _ _ _ _ _ _ _ l (hio3.below (hb37.mono (by omega)) (Nat.le_refl _)) (h3.below (hb37.mono (by omega)) (Nat.le_refl _))).mono ?_
  rintro e1 w8 ⟨rfl, hd8⟩
  have hb8 := hd8.below w7.heap.size
  have z8 := hb8.size
  go_wp2_with fail
  refine (live_any _).mono ?_
  rintro e1 w9 ⟨rfl, hb9⟩
  go_wp2
  go_ret
  exact ⟨rfl, hb.trans ((hb13.mono z1).trans ((hb37.mono (by omega)).trans ((hb8.mono (by omega)).trans (hb9.mono (by omega)))))⟩

/-- The offset of an element's own coordinates is its number. -/
theorem off_co (l : List Int) (k : Int) (hg : Good l) (h0 : 0 ≤ k) (h1 : k < prod l) : OffIs l (co l k) k 0 :=
  .inr (.inr (.inr ⟨hg, co_length l k, co_within l k hg.1, (offTo_co_all l k h0 h1).symm, rfl⟩))

set_option maxHeartbeats 800000 in
theorem back_law (w : World) (A : Option Addr) (n c : Nat) (l : List Int) (k : Int) (h : Ints w w.heap.size A n l) :
    Calls Try.prog 6 #[.slice A n c, .int .i64 k] w (Bol w true) := by
  have fin : ∀ err, CoIs l k [] err → (err = 4 ∨ err = 6 ∨ err = 1) → Calls Try.prog 6 #[.slice A n c, .int .i64 k] w (Bol w true) := by
    intro err hx he
    have Hx := Lib.hid hx
    clear hx
    rcases he with rfl | rfl | rfl
    all_goals
      go_enter Try.func6, Try.ntmps6
      go_wp2_with fail
      refine (coords_any _ _ _ _ _ l h (Nat.le_refl _) k [] _ Hx.out).mono ?_
      rintro e1 w1 ⟨Ax, _, cx, rfl, rfl, hox, hb1⟩
      go_wp2_with fail
      refine (live_any _).mono ?_
      rintro e1 w2 ⟨rfl, hb2⟩
      go_wp2
      go_ret
      exact ⟨rfl, hb1.trans (hb2.mono hb1.size)⟩
  obtain ⟨x, f, hs⟩ := coIs_any l k
  rcases hs with ⟨hb, rfl⟩ | ⟨hg, hm, rfl, rfl⟩ | ⟨hg, ⟨h0, h1⟩, rfl, rfl⟩
  · exact fin f (.inl ⟨hb, rfl⟩) (by rcases hb.2 with h | h <;> simp [h])
  · exact fin 1 (.inr (.inl ⟨hg, hm, rfl, rfl⟩)) (.inr (.inr rfl))
  · have Hx := Lib.hid (show CoIs l k (co l k) 0 from .inr (.inr ⟨hg, ⟨h0, h1⟩, rfl, rfl⟩))
    have Ho := Lib.hid (off_co l k hg h0 h1)
    have hlen : n = (co l k).length := by rw [co_length, h.len]
    subst hlen
    clear hg h0 h1
    go_enter Try.func6, Try.ntmps6
    go_wp2_with fail
    refine (coords_any _ _ _ _ _ l h (Nat.le_refl _) k _ _ Hx.out).mono ?_
    rintro e1 w1 ⟨Ax, _, cx, rfl, rfl, hox, hb1⟩
    have z1 := hb1.size
    go_wp2_with fail
    refine (offset_any _ _ _ _ _ _ _ _ _ l _ (h.below hb1 (Nat.le_refl _)) (hox.ints rfl) z1 (Nat.le_refl _) _ _ Ho.out).mono ?_
    rintro e1 w2 ⟨rfl, hb2⟩
    go_wp2_with fail
    refine (live_any _).mono ?_
    rintro e1 w3 ⟨rfl, hb3⟩
    have z2 := hb2.size
    go_wp2
    go_ret
    exact ⟨rfl, hb1.trans ((hb2.mono z1).trans (hb3.mono (by omega)))⟩
end Go.Proofs.Ytanghkleojjplaa
