/- The law of fields. -/
import Derived.Test.YtpnieegaemfffaaWq
import Derived.Test.YtpnieegaemfffaaWo
namespace Go.Proofs.Ytpnieegaemfffaa
open Go.RowKit

theorem PkIs.err {s : ByteArray} {l : List Int} {err : Int} (h : PkIs s l err) : err = 0 ∨ err = 3 := by
  rcases h with ⟨_, _, h⟩ | ⟨_, h⟩
  · exact .inr h
  · exact .inl h
theorem dn_drewN {w x : World} (h : Dn w x) (q : Nat) : Dn w (x.drewN q) := by
  obtain ⟨p, rfl⟩ := h; exact ⟨p + q, World.drewN_drewN _ _ _⟩
theorem dn_refl (w : World) : Dn w w := ⟨0, rfl⟩
theorem OwnF.dn {w w' : World} {B : Nat} {v : Value} {l : List Fd} (h : OwnF w B v l) (hd : Dn w w') : OwnF w' B v l := by
  obtain ⟨q, rfl⟩ := hd; exact h.drewN q
theorem Dn.size {w w' : World} (h : Dn w w') : w'.heap.size = w.heap.size := by obtain ⟨q, rfl⟩ := h; rfl

set_option maxRecDepth 100000 in
set_option maxHeartbeats 3200000 in
theorem fields_law (s : ByteArray) (w : World) (hs : s.size ≤ 16777216) :
    Calls Try.prog 5 #[.string s] w (Bol w true) := by
  obtain ⟨l, err, hl⟩ := fdsIs_any s
  obtain ⟨m, err2, hm⟩ := pkIs_any s
  have Hl := Lib.hid hl
  have Hm := Lib.hid hm
  have e1 := Lib.hid hl.err
  have e2 := Lib.hid hm.err
  have Hs := Lib.hid hs
  clear hl hm hs
  go_enter Try.func5, Try.ntmps5
  go_wp2_with fail
  refine (pfields_any s _ (by have := Hs.out; omega) l err Hl.out).mono ?_
  rintro e w1 ⟨A1, n1, c1, rfl, rfl, ho1, hb1⟩
  go_wp2_with fail
  refine (rfields_any s _ (by have := Hs.out; omega) l err Hl.out).mono ?_
  rintro e w2 ⟨A2, n2, c2, rfl, rfl, ho2, hb2⟩
  have s1 := hb1.size
  have s2 := hb2.size
  have Hb2 := Lib.hid (hb1.trans (hb2.mono s1))
  have hA1 : 0 < l.length → ∃ g, A1 = some ⟨g, 0, none⟩ ∧ w.heap.size ≤ g ∧ g < w1.heap.size := fun hn => by
    obtain ⟨g, cap, e, h1, h2⟩ := World.ownsRow.form ho1.1 hn
    simp only [Value.slice.injEq] at e
    exact ⟨g, e.1, h1, h2⟩
  have HA1 := Lib.hid hA1
  have Ho1 := Lib.hid (ho1.below hb2)
  have Ho2 := Lib.hid ho2
  have hsmall : l.length ≤ 9223372036854775807 := by have := ho2.2; unfold maxLen at this; omega
  clear hA1 ho1 ho2 hb1 hb2
  go_wp2_with fail
  refine (same_yes w2 _ _ A1 A2 l.length c1 l.length c2 l (Ho1.out.flds rfl) (Ho2.out.flds rfl)).mono ?_
  rintro e w3 ⟨rfl, hd3⟩
  have Hb3 := Lib.hid (Dn.below hd3 Hb2.out)
  have Ho13 := Lib.hid (Ho1.out.dn hd3)
  have Ho23 := Lib.hid (Ho2.out.dn hd3)
  have s3 := hd3.size
  clear hd3 Ho1 Ho2 Hb2
  have herr : (err == err) = true := by simp
  have herr2 : (err != err) = false := by simp
  go_wp2_with fail
  go_loopw [7] (fun i wr => ∃ k : Nat, k ≤ l.length ∧ i = .int .i64 k ∧ (∃ xs, wr.ownsRow w.heap.size 35 4 (.slice A1 l.length c1) l.length xs) ∧ OwnF wr w1.heap.size (.slice A2 l.length c2) l ∧ Below w.heap.size w wr ∧ w2.heap.size ≤ wr.heap.size) (fun i _ => l.length - (intOf i).toNat)
  case atStart => exact ⟨0, Nat.zero_le _, rfl, ⟨_, Ho13.out.1⟩, Ho23.out, Hb3.out, by omega⟩
  case round =>
    obtain ⟨k, hk, rfl, ⟨xs, hox⟩, ho2, hb, hz⟩ := hrel
    by_cases hlt : k < l.length
    · obtain ⟨g, rfl, hg1, hg2⟩ := HA1.out (by omega)
      have f0 := hox.frozenAt (k * 4)
      have hlen : xs.length = l.length * 4 := hox.1
      have c0 := hox.cellAt (k * 4) (by omega)
      obtain ⟨u, hu⟩ : ∃ u, xs[k * 4]? = some u := ⟨_, List.getElem?_eq_getElem (by omega)⟩
      rw [hu] at c0
      have Hox := Lib.hid hox
      have Ho2 := Lib.hid ho2
      clear hox ho2 hu hlen
      go_wp2
      go_roundw
      case rel => exact ⟨k + 1, by omega, by go_num, ⟨_, (Hox.out.stored _ _).1⟩, Ho2.out.set_far (by omega) _, hb.setCell (by dsimp only; omega) _, by simpa using hz⟩
      case measure => simp [intOf]; omega
    · have Ho2 := Lib.hid ho2
      have Hb := Lib.hid hb
      clear hox hb ho2
      go_wp2_with fail
      refine (pfields_any s _ (by have := Hs.out; omega) l err Hl.out).mono ?_
      rintro e w4 ⟨A4, n4, c4, rfl, rfl, ho4, hb4⟩
      have s4 := hb4.size
      have Hb4 := Lib.hid (Hb.out.trans (hb4.mono Hb.out.size))
      have Ho24 := Lib.hid (Ho2.out.below hb4)
      have Ho4 := Lib.hid ho4
      clear hb4 ho4 Hb Ho2 herr herr2
      go_wp2_with fail
      refine (ppacked_any s _ Hs.out m err2 Hm.out).mono ?_
      rintro e w5 ⟨A5, n5, c5, rfl, rfl, ho5, hb5⟩
      have s5 := hb5.size
      have Hb5 := Lib.hid (Hb4.out.trans (hb5.mono Hb4.out.size))
      have Ho25 := Lib.hid (Ho24.out.below hb5)
      have Ho45 := Lib.hid (Ho4.out.below hb5)
      have Ho5 := Lib.hid ho5
      clear hb5 ho5 Hb4 Ho24 Ho4
      go_wp2_with fail
      refine (rpacked_any s _ Hs.out m err2 Hm.out).mono ?_
      rintro e w6 ⟨A6, n6, c6, rfl, rfl, ho6, hb6⟩
      have s6 := hb6.size
      have Hb6 := Lib.hid (Hb5.out.trans (hb6.mono Hb5.out.size))
      have Ho26 := Lib.hid (Ho25.out.below hb6)
      have Ho46 := Lib.hid (Ho45.out.below hb6)
      have P5 := Lib.hid ((Ho5.out.below hb6).nums rfl)
      have P6 := Lib.hid (ho6.nums rfl)
      have hm5 : m.length ≤ 9223372036854775807 := ho6.2
      clear hb6 ho6 Hb5 Ho25 Ho45 Ho5
      have herr : (err2 == err2) = true := by simp
      have herr2 : (err2 != err2) = false := by simp
      go_wp2_with fail
      go_loopw [14] (fun i wr => ∃ k : Nat, k ≤ m.length ∧ i = .int .i64 k ∧ ∃ q, wr = w6.drewN q) (fun i _ => m.length - (intOf i).toNat)
      case atStart => exact ⟨0, Nat.zero_le _, rfl, 0, rfl⟩
      case round =>
        obtain ⟨k, hk, rfl, q, rfl⟩ := hrel
        by_cases hlt : k < m.length
        · obtain ⟨b1, o1, rfl, hb1, hc1⟩ := P5.out.at_ (by omega)
          obtain ⟨b2, o2, rfl, hb2, hc2⟩ := P6.out.at_ (by omega)
          obtain ⟨f, hf⟩ : ∃ f, m[k]? = some f := ⟨_, List.getElem?_eq_getElem hlt⟩
          have x0 := hc1 k f hf
          have y0 := hc2 k f hf
          clear hc1 hc2 hf
          go_wp2
          go_quiet (fail)
          go_wp2
          go_roundw
          case rel => exact ⟨k + 1, by omega, by go_num, _, rfl⟩
          case measure => simp [intOf]; omega
        · go_wp2_with fail
          refine (same_yes _ _ _ A4 A2 l.length c4 l.length c2 l ((Ho46.out.drewN q).flds rfl) ((Ho26.out.drewN q).flds rfl)).mono ?_
          rintro e w7 ⟨rfl, hd7⟩
          have Hb7 := Lib.hid (Dn.below hd7 (below_drewN Hb6.out q))
          clear hd7
          go_wp2_with fail
          refine (live_any _).mono ?_
          rintro e w8 ⟨rfl, hb8⟩
          have Hb8 := Lib.hid hb8
          clear hb8
          go_wp2
          go_ret
          exact ⟨rfl, Hb7.out.trans (Hb8.out.mono Hb7.out.size)⟩
end Go.Proofs.Ytpnieegaemfffaa
