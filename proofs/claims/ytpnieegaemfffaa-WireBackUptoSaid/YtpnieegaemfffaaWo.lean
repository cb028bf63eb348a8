/- The law of joined texts. -/
import Derived.Test.YtpnieegaemfffaaWn
import Derived.Test.YtpnieegaemfffaaPj
namespace Go.Proofs.Ytpnieegaemfffaa
open Go.RowKit

theorem FdsIs.err {s : ByteArray} {l : List Fd} {err : Int} (h : FdsIs s l err) : err = 0 ∨ err = 3 ∨ err = 6 := by
  rcases h with ⟨_, _, rfl⟩ | ⟨_, _, _, rfl⟩ | ⟨_, _, rfl⟩ <;> simp
theorem FdsIs.good {s : ByteArray} {l : List Fd} (h : FdsIs s l 0) : fieldsS s 0 = some l ∧ s.size ≤ 16777216 := by
  rcases h with ⟨_, _, h⟩ | ⟨_, _, _, h⟩ | ⟨h1, h2, _⟩
  · cases h
  · cases h
  · exact ⟨h2, h1⟩

theorem Flds.to {w : World} {B n n' : Nat} {A : Option Addr} {l l' : List Fd} (h : Flds w B A n l) (e1 : n = n') (e2 : l = l') : Flds w B A n' l' := by subst e1 e2; exact h
theorem fields_len (s : ByteArray) : ∀ k p l, s.size - p ≤ k → fieldsS s p = some l → l.length ≤ s.size - p := by
  intro k
  induction k with
  | zero =>
    intro p l hk h
    rw [fields_end (by omega)] at h
    cases h; simp
  | succ k ih =>
    intro p l hk h
    by_cases hlt : p < s.size
    · cases hf : fieldS s p with
      | none => rw [fields_bad hlt hf] at h; cases h
      | some r =>
        obtain ⟨f, n⟩ := r
        have hb := fieldS_bd hf
        rw [fields_step hlt hf] at h
        cases hr : fieldsS s n with
        | none => rw [hr] at h; cases h
        | some l' =>
          rw [hr] at h
          cases h
          have := ih n l' (by omega) hr
          simp; omega
    · rw [fields_end hlt] at h
      cases h; simp

set_option maxRecDepth 100000 in
set_option maxHeartbeats 1600000 in
theorem joined_law (s t : ByteArray) (w : World) (hs : s.size ≤ 140737488351232) (ht : t.size ≤ 140737488351232) :
    Calls Try.prog 4 #[.string s, .string t] w (Bol w true) := by
  obtain ⟨l, err, hl⟩ := fdsIs_any s
  obtain ⟨m, err2, hm⟩ := fdsIs_any t
  have Hl := Lib.hid hl
  have Hm := Lib.hid hm
  have e1 := Lib.hid hl.err
  have e2 := Lib.hid hm.err
  clear hl hm
  go_enter Try.func4, Try.ntmps4
  go_wp2_with fail
  refine (pfields_any s _ hs l err Hl.out).mono ?_
  rintro e w1 ⟨A1, n1, c1, rfl, rfl, ho1, hb1⟩
  go_wp2_with fail
  refine (pfields_any t _ ht m err2 Hm.out).mono ?_
  rintro e w2 ⟨A2, n2, c2, rfl, rfl, ho2, hb2⟩
  have s1 := hb1.size
  have s2 := hb2.size
  have Hb := Lib.hid (hb1.trans (hb2.mono s1))
  have Ho1 := Lib.hid (ho1.below hb2)
  have Ho2 := Lib.hid ho2
  clear ho1 ho2 hb1 hb2
  by_cases hbad : err = 3 ∨ err = 6
  · rcases hbad with rfl | rfl
    all_goals
      go_wp2_with fail
      refine (live_any _).mono ?_
      rintro e w5 ⟨rfl, hb5⟩
      have Hb5 := Lib.hid hb5
      clear hb5
      go_wp2
      go_ret
      exact ⟨rfl, Hb.out.trans (Hb5.out.mono (by omega))⟩
  · obtain rfl : err = 0 := by
      rcases e1.out with h | h
      · exact h
      · exact absurd h hbad
    clear hbad
    by_cases hbad : err2 = 3 ∨ err2 = 6
    · rcases hbad with rfl | rfl
      all_goals
        go_wp2_with fail
        refine (live_any _).mono ?_
        rintro e w5 ⟨rfl, hb5⟩
        have Hb5 := Lib.hid hb5
        clear hb5
        go_wp2
        go_ret
        exact ⟨rfl, Hb.out.trans (Hb5.out.mono (by omega))⟩
    · obtain rfl : err2 = 0 := by
        rcases e2.out with h | h
        · exact h
        · exact absurd h hbad
      clear hbad
      by_cases hsz : 16777216 < s.size + t.size
      · go_wp2_with fail
        refine (live_any _).mono ?_
        rintro e w5 ⟨rfl, hb5⟩
        have Hb5 := Lib.hid hb5
        clear hb5
        go_wp2
        go_ret
        exact ⟨rfl, Hb.out.trans (Hb5.out.mono (by omega))⟩
      · go_wp2_with fail
        have g1 := Hl.out.good
        have g2 := Hm.out.good
        have n1 := Lib.hid (fields_len s _ 0 l (Nat.le_refl _) g1.1)
        have n2 := Lib.hid (fields_len t _ 0 m (Nat.le_refl _) g2.1)
        have hj : FdsIs (s ++ t) (l ++ m) 0 := .inr (.inr ⟨by rw [size_app]; omega, fields_joined g1.1 g2.1, rfl⟩)
        have Hn1 : Hid (l.length ≤ 16777216 ∧ m.length ≤ 16777216) := ⟨by have := n1.out; omega, by have := n2.out; omega⟩
        have T := pfields_any (s ++ t) w2 (by rw [size_app]; omega) (l ++ m) 0 hj
        clear g1 g2 n1 n2 hj hsz
        refine T.mono ?_
        rintro e w3 ⟨A3, n3, c3, rfl, hn3, ho3, hb3⟩
        have s3 := hb3.size
        have Hb3 := Lib.hid (Hb.out.trans (hb3.mono (by omega)))
        have Fa := Lib.hid ((Ho1.out.flds rfl).below (hb3.mono (by simp)) (Nat.le_refl _))
        have Fb := Lib.hid ((Ho2.out.flds rfl).below hb3 (Nat.le_refl _))
        have F3 := Lib.hid (ho3.flds hn3)
        clear T Hb Ho1 Ho2 hb3 ho3 Hl Hm e1 e2
        obtain ⟨i0, hi, hz0, hz1, hz2⟩ := info_parts Try.info35
        go_wp2_with (first
          | (at_builtin
             refine wpList_append_fs _ rfl (.tmp 44) (.tmp 45) 29 rfl i0 _ rfl Try.underlying29 hi hz0 hz1 hz2 w3.heap.size (.slice none 0 0) [] rfl (ownF_nil _ _) _ A1 l.length c1 l rfl Fa.out (by have := Hn1.out; simp; omega) (Nat.le_refl _) ?_
             intro v1 w4 ho4 hg4
             have Hk4 := Lib.hid ((Below.refl w3.heap.size w3).grown hg4 (Nat.le_refl _) (by simp [Value.ownBlock]))
             have s4 := Hk4.out.size
             have Ho4 := Lib.hid ho4
             clear ho4 hg4)
          | (at_builtin
             refine wpList_append_fs _ rfl (.tmp 47) (.tmp 48) 29 rfl i0 _ rfl Try.underlying29 hi hz0 hz1 hz2 w3.heap.size v1 ([] ++ l) rfl Ho4.out _ A2 m.length c2 m rfl (Fb.out.below (Hk4.out.mono (by omega)) (Nat.le_refl _)) (by have := Hn1.out; simp; omega) (by omega) ?_
             intro v2 w5 ho5 hg5
             have Hk5 := Lib.hid (Ho4.out.grown Hk4.out hg5 (by omega))
             have s5 := Hk5.out.size
             obtain ⟨A5, c5, rfl⟩ := ho5.form
             have F5 := Lib.hid (ho5.flds rfl)
             have F6 := Lib.hid (F3.out.below Hk5.out (Nat.le_refl _))
             clear ho5 hg5))
        refine (same_yes w5 _ _ A3 A5 (l.length + m.length) c3 _ c5 (l ++ m) (F6.out.to (by simp [hn3]) rfl) (F5.out.to (n' := l.length + m.length) (by simp) (by simp))).mono ?_
        rintro e w6 ⟨rfl, hd⟩
        have Hb6 := Lib.hid (Dn.below hd (Hb3.out.trans (Hk5.out.mono (by have := Hb3.out.size; omega))))
        clear hd
        go_wp2_with fail
        refine (live_any _).mono ?_
        rintro e w7 ⟨rfl, hb7⟩
        have Hb7 := Lib.hid hb7
        clear hb7
        go_wp2
        go_ret
        exact ⟨rfl, Hb6.out.trans (Hb7.out.mono Hb6.out.size)⟩
end Go.Proofs.Ytpnieegaemfffaa
