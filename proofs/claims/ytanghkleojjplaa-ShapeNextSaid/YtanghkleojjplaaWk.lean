/- The walks of the laws: product, steps. -/
import Derived.Test.YtanghkleojjplaaWj
namespace Go.Proofs.Ytanghkleojjplaa
open Go.RowKit

set_option maxHeartbeats 1600000 in
theorem product_bad1 (w : World) (A A' : Option Addr) (n c n' c' : Nat) (l m : List Int) (h : Ints w w.heap.size A n l) (g : Ints w w.heap.size A' n' m) (e : Int) (hb : Bad l e) :
    Calls Try.prog 9 #[.slice A n c, .slice A' n' c'] w (Bol w true) := by
  obtain ⟨y, f, hy⟩ := countIs_any m
  have Hy := Lib.hid hy
  clear hy
  refine hb.cases (P := fun e => Calls Try.prog 9 #[.slice A n c, .slice A' n' c'] w (Bol w true)) (fun hc => ?_) (fun hc => ?_)
  all_goals
    have Hc := Lib.hid hc
    clear hc hb
    go_enter Try.func9, Try.ntmps9
    go_wp2_with fail
    refine (count_any _ _ _ _ _ l h _ _ Hc.out).mono ?_
    rintro e1 w1 ⟨rfl, rfl⟩
    go_wp2_with fail
    refine (count_any _ _ _ _ _ m g _ _ Hy.out).mono ?_
    rintro e1 w1 ⟨rfl, rfl⟩
    go_wp2_with fail
    refine (live_any _).mono ?_
    rintro e1 w8 ⟨rfl, hb8⟩
    go_wp2
    go_ret
    exact ⟨rfl, hb8⟩

set_option maxHeartbeats 1600000 in
theorem product_bad2 (w : World) (A A' : Option Addr) (n c n' c' : Nat) (l m : List Int) (h : Ints w w.heap.size A n l) (g : Ints w w.heap.size A' n' m) (hg : Good l) (e : Int) (hb : Bad m e) :
    Calls Try.prog 9 #[.slice A n c, .slice A' n' c'] w (Bol w true) := by
  have Hy := Lib.hid (countIs_good hg)
  clear hg
  refine hb.cases (P := fun e => Calls Try.prog 9 #[.slice A n c, .slice A' n' c'] w (Bol w true)) (fun hc => ?_) (fun hc => ?_)
  all_goals
    have Hc := Lib.hid hc
    clear hc hb
    go_enter Try.func9, Try.ntmps9
    go_wp2_with fail
    refine (count_any _ _ _ _ _ l h _ _ Hy.out).mono ?_
    rintro e1 w1 ⟨rfl, rfl⟩
    go_wp2_with fail
    refine (count_any _ _ _ _ _ m g _ _ Hc.out).mono ?_
    rintro e1 w1 ⟨rfl, rfl⟩
    go_wp2_with fail
    refine (live_any _).mono ?_
    rintro e1 w8 ⟨rfl, hb8⟩
    go_wp2
    go_ret
    exact ⟨rfl, hb8⟩

set_option maxHeartbeats 1600000 in
theorem product_good (w : World) (A A' : Option Addr) (n c n' c' : Nat) (l m : List Int) (h : Ints w w.heap.size A n l) (g : Ints w w.heap.size A' n' m) (gl : Good l) (gm : Good m) :
    Calls Try.prog 9 #[.slice A n c, .slice A' n' c'] w (Bol w true) := by
  obtain ⟨i0, hi, hz0, hz1, hz2⟩ := info_parts Try.info3
  have h6 : n ≤ 6 := by rw [← h.len]; exact gl.2.1
  have g6 : n' ≤ 6 := by rw [← g.len]; exact gm.2.1
  have Hl := Lib.hid h.len
  have Gl := Lib.hid g.len
  have hc := Lib.hid (countIs_good gl)
  have gc := Lib.hid (countIs_good gm)
  have p1 := prod_pos gl.1
  have p2 := gl.2.2
  have q1 := prod_pos gm.1
  have q2 := gm.2.2
  have pq1 : 0 ≤ prod l * prod m := Int.mul_nonneg (by omega) (by omega)
  have pq2 : prod l * prod m ≤ 65536 * 65536 := Int.mul_le_mul p2 q2 (by omega) (by omega)
  have Hlen := Lib.hid (show (l ++ m).length = n + n' by rw [List.length_append, Hl.out, Gl.out])
  have Hpr := Lib.hid (prod_append l m)
  have cases : (∃ k e, CountIs (l ++ m) k e ∧ ((6 < n + n' ∧ e = 6) ∨ (¬ 6 < n + n' ∧ 65536 < prod l * prod m ∧ e = 6) ∨ (¬ 6 < n + n' ∧ prod l * prod m ≤ 65536 ∧ e = 0 ∧ k = prod l * prod m))) := by
    by_cases z : 6 < n + n'
    · exact ⟨0, 6, big_append l m gl gm (.inl (by rw [Hlen.out]; exact z)), .inl ⟨z, rfl⟩⟩
    · by_cases z2 : 65536 < prod l * prod m
      · exact ⟨0, 6, big_append l m gl gm (.inr z2), .inr (.inl ⟨z, z2, rfl⟩)⟩
      · exact ⟨_, 0, countIs_good (good_append l m gl gm (by rw [Hlen.out]; omega) (by omega)), .inr (.inr ⟨z, by omega, rfl, Hpr.out⟩)⟩
  obtain ⟨k, e, hk, hcase⟩ := cases
  have Hk := Lib.hid hk
  clear hk gl gm
  rcases hcase with ⟨z, rfl⟩ | ⟨z, z2, rfl⟩ | ⟨z, z2, rfl, rfl⟩
  all_goals
    go_enter Try.func9, Try.ntmps9
    go_wp2_with fail
    refine (count_any _ _ _ _ _ l h _ _ hc.out).mono ?_
    rintro e1 w1 ⟨rfl, rfl⟩
    go_wp2_with fail
    refine (count_any _ _ _ _ _ m g _ _ gc.out).mono ?_
    rintro e1 w1 ⟨rfl, rfl⟩
    go_wp2_with (first | (at_builtin; refine wpList_append_ints _ rfl (.tmp 29) (.tmp 30) 22 rfl i0 Try.underlying22 hi hz0 hz1 hz2 w.heap.size _ [] rfl (own_nil _ _) w.heap.size A n c l rfl h (by simp; omega) (Nat.le_refl _) ?_; intro v1 w1 hown1 hgrow1; have hb1 := (own_nil w w.heap.size).belowGrown (Below.refl w.heap.size w) hgrow1 (Nat.le_refl _); simp only [List.nil_append] at hown1; clear hgrow1) | (at_builtin; refine wpList_append_ints _ rfl (.tmp 32) (.tmp 33) 22 rfl i0 Try.underlying22 hi hz0 hz1 hz2 w.heap.size _ l rfl hown1 w1.heap.size A' n' c' m rfl (g.below hb1 hb1.size) (by rw [Hl.out]; omega) hb1.size ?_; intro v2 w2 hown2 hgrow2; have hb2 := hown1.belowGrown hb1 hgrow2 hb1.size; obtain ⟨Ao, no, co, rfl, Hno, hn1, hn2⟩ := hown2.form2 Hlen.out; clear hgrow2 hown1) | (go_at_call 12; refine (count_any _ _ _ _ _ (l ++ m) (hown2.ints Hno.out) _ _ Hk.out).mono ?_; rintro e1 w3 ⟨rfl, rfl⟩) | (go_at_call 18; refine (live_any _).mono ?_; rintro e1 w4 ⟨rfl, hb4⟩))
    go_ret
    exact ⟨rfl, hb2.trans (hb4.mono hb2.size)⟩

theorem product_law (w : World) (A A' : Option Addr) (n c n' c' : Nat) (l m : List Int) (h : Ints w w.heap.size A n l) (g : Ints w w.heap.size A' n' m) :
    Calls Try.prog 9 #[.slice A n c, .slice A' n' c'] w (Bol w true) := by
  rcases bad_ways l with gl | ⟨e, _, hb⟩
  · rcases bad_ways m with gm | ⟨e, _, hb⟩
    · exact product_good w A A' n c n' c' l m h g gl gm
    · exact product_bad2 w A A' n c n' c' l m h g gl e hb
  · exact product_bad1 w A A' n c n' c' l m h g e hb
end Go.Proofs.Ytanghkleojjplaa
