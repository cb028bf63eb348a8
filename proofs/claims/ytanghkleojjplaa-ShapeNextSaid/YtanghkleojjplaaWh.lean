/- The walk of 'live': the document's own answers. -/
import Derived.Test.YtanghkleojjplaaWd
import Derived.Test.YtanghkleojjplaaWe
import Derived.Test.YtanghkleojjplaaWg
namespace Go.Proofs.Ytanghkleojjplaa
open Go.RowKit

theorem good_23 : Good [2, 3] := ⟨by intro d hd; simp at hd; omega, by decide, by decide⟩
theorem good_213 : Good [2, 1, 3] := ⟨by intro d hd; simp at hd; omega, by decide, by decide⟩
theorem good_41 : Good [4, 1] := ⟨by intro d hd; simp at hd; omega, by decide, by decide⟩
theorem good_243 : Good [2, 4, 3] := ⟨by intro d hd; simp at hd; omega, by decide, by decide⟩
theorem count_live : CountIs [2, 3] 6 0 := countIs_good good_23
theorem bc_live : bc [2, 1, 3] [4, 1] = [2, 4, 3] := by decide
theorem bcIs_live : BcIs [2, 1, 3] [4, 1] [2, 4, 3] 0 := by
  refine .inr (.inr (.inr (.inr ⟨good_213, good_41, ?_, ?_, bc_live.symm, rfl⟩)))
  · refine (fits_long _ _ (by decide)).2 fun k hk => ?_
    match k, hk with
    | 0, _ => decide
    | 1, _ => decide
  · rw [bc_live]; exact good_243
theorem offIs_live : OffIs [2, 3] [1, 2] 5 0 := by
  refine .inr (.inr (.inr ⟨good_23, rfl, ?_, by decide, rfl⟩))
  intro j hj
  match j, hj with
  | 0, _ => decide
  | 1, _ => decide
theorem coIs_live : CoIs [2, 3] 5 [1, 2] 0 := .inr (.inr ⟨good_23, by decide, by decide, rfl⟩)

theorem ints_lit (w : World) (l : List Int) (n : Nat) (hn : n = l.length) (hm : n ≤ maxLen) (cs : Array Value) (hc : cs = (vals l).toArray) (A : Option Addr) (hA : A = some ⟨w.heap.size, 0, none⟩) : Ints (w.alloc (.cells cs 3)) (w.heap.size + 1) A n l := by
  subst hn hc hA
  have h := (own_lit w w.heap.size l (Nat.le_refl _) hm).ints rfl
  exact h.more (by simp)

set_option maxHeartbeats 800000 in
theorem live_any (w : World) : Calls Try.prog 18 #[] w (Bol w true) := by
  have H1 := Lib.hid count_live
  have H2 := Lib.hid bcIs_live
  have H3 := Lib.hid offIs_live
  have H4 := Lib.hid coIs_live
  go_enter Try.func18, Try.ntmps18
  go_wp2_with fail
  refine (count_any _ _ _ _ _ [2, 3] (ints_lit _ [2, 3] _ (by rfl) (by decide) _ (by rfl) _ (by rfl)) 6 0 H1.out).mono ?_
  rintro e w1 ⟨rfl, rfl⟩
  go_wp2_with fail
  refine (broad_any _ _ _ _ _ _ _ _ _ [2, 1, 3] [4, 1] ((ints_lit _ [2, 1, 3] _ (by rfl) (by decide) _ (by rfl) _ (by simp)).alloc (by simp) _) (ints_lit _ [4, 1] _ (by rfl) (by decide) _ (by rfl) _ (by simp)) (by simp) (by simp) [2, 4, 3] 0 H2.out).mono ?_
  rintro e w1 ⟨A1, n1, c1, rfl, rfl, ho1, hb1⟩
  go_wp2_with fail
  refine (offset_any _ _ _ _ _ _ _ _ _ [2, 3] [1, 2] ((ints_lit _ [2, 3] _ (by rfl) (by decide) _ (by rfl) _ (by simp)).alloc (by simp) _) (ints_lit _ [1, 2] _ (by rfl) (by decide) _ (by rfl) _ (by simp)) (by simp) (by simp) 5 0 H3.out).mono ?_
  rintro e w2 ⟨rfl, hb2⟩
  go_wp2_with fail
  refine (coords_any _ _ _ _ _ [2, 3] (ints_lit _ [2, 3] _ (by rfl) (by decide) _ (by rfl) _ (by simp)) (by simp) 5 [1, 2] 0 H4.out).mono ?_
  rintro e w3 ⟨A3, n3, c3, rfl, rfl, ho3, hb3⟩
  have b1 : Below w.heap.size w w1 := ((((Below.refl _ _).alloc (Nat.le_refl _) _).alloc (by simp) _).alloc (by simp; omega) _).trans (hb1.mono (by simp; omega))
  have b2 : Below w1.heap.size w1 w2 := (((Below.refl _ _).alloc (Nat.le_refl _) _).alloc (by simp) _).trans (hb2.mono (by simp; omega))
  have b3 : Below w2.heap.size w2 w3 := ((Below.refl _ _).alloc (Nat.le_refl _) _).trans (hb3.mono (by simp))
  have s1 := b1.size
  have s2 := b2.size
  have s3 := b3.size
  have i1 : Ints w3 w1.heap.size A1 3 [2, 4, 3] := (ho1.ints rfl).below (b2.trans (b3.mono s2)) (Nat.le_refl _)
  have i3 : Ints w3 w3.heap.size A3 2 [1, 2] := ho3.ints rfl
  have b : Below w.heap.size w w3 := b1.trans ((b2.mono s1).trans (b3.mono (by omega)))
  clear ho1 ho3 hb1 hb2 hb3 b1 b2 b3
  go_wp2_with fail
  refine (same_any _ _ _ _ _ _ _ _ _ [2, 4, 3] [2, 4, 3] (i1.alloc (by omega) _) (ints_lit _ [2, 4, 3] _ (by rfl) (by decide) _ (by rfl) _ (by simp)) true (by decide)).mono ?_
  rintro e w4 ⟨rfl, q, rfl⟩
  go_wp2_with fail
  refine (same_any _ _ _ _ _ _ _ _ _ [1, 2] [1, 2] ((((i3.alloc (Nat.le_refl _) _)).drewN q).alloc (by simp) _) (ints_lit _ [1, 2] _ (by rfl) (by decide) _ (by rfl) _ (by simp)) true (by decide)).mono ?_
  rintro e w4 ⟨rfl, q2, rfl⟩
  go_wp2
  go_ret
  exact ⟨rfl, below_drewN ((below_drewN (b.alloc (by omega) _) _).alloc (by simp; omega) _) _⟩
end Go.Proofs.Ytanghkleojjplaa
