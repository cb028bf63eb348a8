/- The walks: the reference's Fields. -/
import Derived.Test.YtpnieegaemfffaaMf
namespace Go.Proofs.Ytpnieegaemfffaa
open Go.RowKit

/-- What the fields of any bytes are: three ways. -/
def FdsIs (s : ByteArray) (l : List Fd) (err : Int) : Prop :=
  (16777216 < s.size ∧ l = [] ∧ err = 6) ∨ (s.size ≤ 16777216 ∧ fieldsS s 0 = none ∧ l = [] ∧ err = 3) ∨ (s.size ≤ 16777216 ∧ fieldsS s 0 = some l ∧ err = 0)
theorem fdsIs_any (s : ByteArray) : ∃ l err, FdsIs s l err := by
  by_cases h : 16777216 < s.size
  · exact ⟨_, _, .inl ⟨h, rfl, rfl⟩⟩
  · cases e : fieldsS s 0 with
    | none => exact ⟨_, _, .inr (.inl ⟨by omega, e, rfl, rfl⟩)⟩
    | some l => exact ⟨_, _, .inr (.inr ⟨by omega, e, rfl⟩)⟩
theorem lstF_ret {x l : List Fd} {err e2 : Int} {w w' : World} {A : Option Addr} {n c : Nat} (ho : OwnF w' w.heap.size (.slice A n c) x) (hn : n = x.length) (hb : Below w.heap.size w w') (h1 : x = l) (h2 : e2 = err) : LstF w l err (.returned (.tuple #[.slice A n c, .int .i64 e2])) w' := by
  subst h1 h2; exact ⟨_, _, _, rfl, hn, ho, hb⟩

set_option maxRecDepth 100000 in
set_option maxHeartbeats 1600000 in
theorem rfields_any (s : ByteArray) (w : World) (hs : s.size ≤ 140737488351232) (l : List Fd) (err : Int) (h : FdsIs s l err) :
    Calls Try.prog 16 #[.string s] w (LstF w l err) := by
  obtain ⟨i0, hi, hz0, hz1, hz2⟩ := info_parts Try.info35
  have H := Lib.hid h
  by_cases hbig : 16777216 < s.size
  · have e : l = [] ∧ err = 6 := by
      rcases h with ⟨_, h⟩ | ⟨h, _⟩ | ⟨h, _⟩
      · exact h
      · omega
      · omega
    obtain ⟨rfl, rfl⟩ := e
    clear h H
    go_enter Try.func16, Try.ntmps16
    go_wp2
    go_ret2
    exact lstF_ret (ownF_nil _ _) rfl (Below.refl _ _) rfl rfl
  · clear h
    go_enter Try.func16, Try.ntmps16
    go_wp2_with fail
    go_loopw [4, 5] (fun v i wr => ∃ p : Nat, ∃ x : List Fd, p ≤ s.size ∧ i = .int .i64 p ∧ x.length ≤ p ∧ (fieldsS s p).map (x ++ ·) = fieldsS s 0 ∧ OwnF wr w.heap.size v x ∧ Below w.heap.size w wr) (fun _ i _ => s.size - (intOf i).toNat)
    case atStart => exact ⟨0, [], by omega, rfl, by simp, by simp, ownF_nil _ _, Below.refl _ _⟩
    case round =>
      obtain ⟨p, x, hp, rfl, hxl, hr, ho, hb⟩ := hrel
      have Hr := Lib.hid hr
      have hsz := hb.size
      clear hr
      by_cases hlt : p < s.size
      · go_wp2_with fail
        refine (rfield_any s p _ hs hp).mono ?_
        rintro e w1 ⟨hb1, ⟨f, n, hf, rfl⟩ | ⟨hf, g, m, rfl⟩⟩
        · have hbd := fieldS_bd hf
          have Hf := Lib.hid hf
          have ho1 := ho.below hb1
          have hb01 := hb.trans (hb1.mono hsz)
          have z1 := hb1.size
          clear hf ho hb
          obtain ⟨num, kind, u, b⟩ := f
          unfold Fd.val
          have Hmore := Lib.hid (fields_more hlt Hf.out Hr.out)
          go_wp2_with (at_builtin; refine wpList_append_f1 _ ⟨num, kind, u, b⟩ rfl (.tmp 25) (.tmp 27) 29 rfl i0 _ rfl Try.underlying29 hi hz0 hz1 hz2 w.heap.size _ x rfl ((ho1.alloc _).alloc _) (w1.heap.size + 1) rfl (heap_second _ _ _ _ rfl) (by omega) (by simp; omega) ?_; intro v' w2 ho2 hg2)
          go_roundw
          case rel => exact ⟨n, x ++ [⟨num, kind, u, b⟩], hbd.2, rfl, by simp; omega, Hmore.out, ho2, ((ho1.alloc _).alloc _).grown ((hb01.alloc (by omega) _).alloc (by simp; omega) _) hg2 (by simp; omega)⟩
          case measure => simp [intOf]; omega
        · have He : Hid (l = [] ∧ err = 3) := by
            have e0 := Hr.out
            rw [fields_bad hlt hf] at e0
            rcases H.out with ⟨h, _⟩ | ⟨_, _, h⟩ | ⟨_, h, _⟩
            · omega
            · exact h
            · rw [← e0] at h; simp at h
          clear hf
          have hb01 := hb.trans (hb1.mono hsz)
          have z1 := hb1.size
          obtain ⟨num, kind, u, b⟩ := g
          unfold Fd.val
          go_wp2
          go_ret2
          obtain ⟨rfl, rfl⟩ := He.out
          exact lstF_ret (ownF_nil _ _) rfl (hb01.alloc (by omega) _) rfl rfl
      · have He : Hid (x = l ∧ 0 = err) := by
          have e0 := Hr.out
          rw [fields_end hlt] at e0
          rcases H.out with ⟨h, _⟩ | ⟨_, h, _⟩ | ⟨_, h, rfl⟩
          · omega
          · rw [← e0] at h; simp at h
          · rw [← e0] at h; simp at h; exact ⟨h, rfl⟩
        go_wp2
        obtain ⟨A, c, rfl⟩ := ho.form
        go_ret2
        exact lstF_ret ho rfl hb He.out.1 He.out.2
end Go.Proofs.Ytpnieegaemfffaa
