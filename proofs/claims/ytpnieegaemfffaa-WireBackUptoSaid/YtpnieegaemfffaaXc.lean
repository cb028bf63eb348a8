/- The laws of writing. -/
import Derived.Test.YtpnieegaemfffaaXb
import Derived.Test.YtpnieegaemfffaaPx
import Derived.Test.YtpnieegaemfffaaWo
namespace Go.Proofs.Ytpnieegaemfffaa
open Go.RowKit

theorem fds_text {l : List Fd} (hg : AllGood l) (ho : ∀ f ∈ l, FdOk f) (hs : (textB l).size ≤ 16777216) : FdsIs (textB l) l 0 := .inr (.inr ⟨hs, fields_text l hg ho, rfl⟩)

set_option maxRecDepth 100000 in
set_option maxHeartbeats 1600000 in
theorem again_law (s : ByteArray) (w : World) (hs : s.size ≤ 140737488351232) :
    Calls Try.prog 8 #[.string s] w (Bol w true) := by
  obtain ⟨l, err, hl⟩ := fdsIs_any s
  have T := pfields_any s w hs l err hl
  rcases hl with ⟨_, rfl, rfl⟩ | ⟨_, _, rfl, rfl⟩ | ⟨h1, h2, rfl⟩
  · go_enter Try.func8, Try.ntmps8
    go_wp2_with fail
    refine T.mono ?_
    rintro e w1 ⟨A1, n1, c1, rfl, rfl, ho1, hb1⟩
    have Hb1 := Lib.hid hb1
    clear hb1 ho1 T
    go_wp2_with fail
    refine (live_any _).mono ?_
    rintro e w5 ⟨rfl, hb5⟩
    have Hb5 := Lib.hid hb5
    clear hb5
    go_wp2
    go_ret
    exact ⟨rfl, Hb1.out.trans (Hb5.out.mono Hb1.out.size)⟩
  · go_enter Try.func8, Try.ntmps8
    go_wp2_with fail
    refine T.mono ?_
    rintro e w1 ⟨A1, n1, c1, rfl, rfl, ho1, hb1⟩
    have Hb1 := Lib.hid hb1
    clear hb1 ho1 T
    go_wp2_with fail
    refine (live_any _).mono ?_
    rintro e w5 ⟨rfl, hb5⟩
    have Hb5 := Lib.hid hb5
    clear hb5
    go_wp2
    go_ret
    exact ⟨rfl, Hb1.out.trans (Hb5.out.mono Hb1.out.size)⟩
  · obtain ⟨hg, hok, hsz⟩ := fields_read s hs _ 0 l (Nat.le_refl _) h2
    have hts : (textB l).size ≤ s.size := by omega
    have Hw := Lib.hid (show WrIs l (textB l) 0 from .inr (.inr ⟨hg, by omega, rfl, rfl⟩))
    have Hf := Lib.hid (fds_text hg hok (by omega))
    have Hok := Lib.hid hok
    clear hg hok h2 hsz
    go_enter Try.func8, Try.ntmps8
    go_wp2_with fail
    refine T.mono ?_
    rintro e w1 ⟨A1, n1, c1, rfl, rfl, ho1, hb1⟩
    have Hb1 := Lib.hid hb1
    have z1 := hb1.size
    have F1 := Lib.hid (ho1.flds rfl)
    clear hb1 ho1 T
    go_wp2_with fail
    refine (pwrite_any l A1 l.length c1 w1 _ F1.out (Nat.le_refl _) Hok.out (by omega) _ _ Hw.out).mono ?_
    rintro e w2 ⟨rfl, hb2⟩
    have Hb2 := Lib.hid (Hb1.out.trans (hb2.mono z1))
    have F2 := Lib.hid (F1.out.below hb2 hb2.size)
    have z2 := hb2.size
    clear hb2
    go_wp2_with fail
    refine (pfields_any (textB l) _ (by omega) l 0 Hf.out).mono ?_
    rintro e w3 ⟨A3, n3, c3, rfl, rfl, ho3, hb3⟩
    have Hb3 := Lib.hid (Hb2.out.trans (hb3.mono Hb2.out.size))
    have F3 := Lib.hid (F2.out.below hb3 (Nat.le_refl _))
    have F4 := Lib.hid (ho3.flds rfl)
    clear hb3 ho3
    have hle : ((textB l).size : Int) ≤ s.size := by omega
    go_wp2_with fail
    refine (same_yes w3 _ _ A1 A3 l.length c1 l.length c3 l F3.out F4.out).mono ?_
    rintro e w4 ⟨rfl, hd⟩
    have Hb4 := Lib.hid (Dn.below hd Hb3.out)
    clear hd
    go_wp2_with fail
    refine (live_any _).mono ?_
    rintro e w5 ⟨rfl, hb5⟩
    have Hb5 := Lib.hid hb5
    clear hb5
    go_wp2
    go_ret
    exact ⟨rfl, Hb4.out.trans (Hb5.out.mono Hb4.out.size)⟩

set_option maxRecDepth 100000 in
set_option maxHeartbeats 1600000 in
theorem writes_law (l : List Fd) (A : Option Addr) (n c : Nat) (w : World) (B : Nat) (hl : Flds w B A n l) (hB : B ≤ w.heap.size) (hok : ∀ f ∈ l, FdOk f) (hsz : (textB l).size ≤ 4611686018427387904) (hlen : l.length ≤ 1048576) :
    Calls Try.prog 6 #[.slice A n c] w (Bol w true) := by
  obtain ⟨r, err, hw⟩ := wrIs_any l
  have Hw := Lib.hid hw
  have Hsz := Lib.hid hsz
  have Hok := Lib.hid hok
  obtain rfl : l.length = n := hl.len
  have Hl := Lib.hid hl
  obtain ⟨i0, hi, hz0, hz1, hz2⟩ := info_parts Try.info35
  have hrr : (r.toList == r.toList) = true := by simp
  have hee : (err == err) = true := by simp
  clear hw hsz hok hl
  go_enter Try.func6, Try.ntmps6
  go_wp2_with (at_builtin
               refine wpList_append_fs _ rfl (.tmp 8) (.tmp 9) 29 rfl i0 _ rfl Try.underlying29 hi hz0 hz1 hz2 w.heap.size (.slice none 0 0) [] rfl (ownF_nil _ _) _ A l.length c l rfl Hl.out (by simp; omega) (Nat.le_refl _) ?_
               intro v1 w1 ho1 hg1
               have Hb1 := Lib.hid ((Below.refl w.heap.size w).grown hg1 (Nat.le_refl _) (by simp [Value.ownBlock]))
               have z1 := Hb1.out.size
               have Ho1 := Lib.hid ho1
               obtain ⟨A1, c1, rfl⟩ := ho1.form
               have F1 := Lib.hid ((ho1.flds rfl).to (n' := l.length) (l' := l) (by simp) (by simp))
               clear ho1 hg1)
  refine (pwrite_any l A1 l.length c1 w1 _ F1.out (Nat.le_refl _) Hok.out Hsz.out r err Hw.out).mono ?_
  rintro e w2 ⟨rfl, hb2⟩
  have Hb2 := Lib.hid (Hb1.out.trans (hb2.mono z1))
  have F2 := Lib.hid (F1.out.below hb2 hb2.size)
  have z2 := hb2.size
  have L2 := Lib.hid (Hl.out.below (Hb2.out.mono hB) (Nat.le_refl _))
  clear hb2
  go_wp2_with fail
  refine (rwrite_any l A l.length c w2 _ L2.out (by omega) Hok.out Hsz.out r err Hw.out).mono ?_
  rintro e w3 ⟨rfl, hb3⟩
  have Hb3 := Lib.hid (Hb2.out.trans (hb3.mono Hb2.out.size))
  have F3 := Lib.hid (F2.out.below hb3 hb3.size)
  have L3 := Lib.hid (Hl.out.below (Hb3.out.mono hB) (Nat.le_refl _))
  clear hb3
  go_wp2_with fail
  refine (same_yes w3 _ _ A1 A l.length c1 l.length c l F3.out L3.out).mono ?_
  rintro e w4 ⟨rfl, hd⟩
  have Hb4 := Lib.hid (Dn.below hd Hb3.out)
  clear hd
  go_wp2_with fail
  refine (live_any _).mono ?_
  rintro e w5 ⟨rfl, hb5⟩
  have Hb5 := Lib.hid hb5
  clear hb5
  go_wp2
  go_ret
  exact ⟨rfl, Hb4.out.trans (Hb5.out.mono Hb4.out.size)⟩

set_option maxRecDepth 100000 in
set_option maxHeartbeats 1600000 in
theorem back_law (l : List Fd) (A : Option Addr) (n c : Nat) (w : World) (B : Nat) (hl : Flds w B A n l) (hB : B ≤ w.heap.size) (hok : ∀ f ∈ l, FdOk f) (hsz : (textB l).size ≤ 4611686018427387904) :
    Calls Try.prog 7 #[.slice A n c] w (Bol w true) := by
  obtain ⟨r, err, hw⟩ := wrIs_any l
  have T := pwrite_any l A n c w B hl hB hok hsz r err hw
  obtain rfl : l.length = n := hl.len
  have Hl := Lib.hid hl
  rcases hw with ⟨_, rfl, rfl⟩ | ⟨_, _, rfl, rfl⟩ | ⟨hg, hs, rfl, rfl⟩
  · go_enter Try.func7, Try.ntmps7
    go_wp2_with fail
    refine T.mono ?_
    rintro e w1 ⟨rfl, hb1⟩
    have Hb1 := Lib.hid hb1
    clear hb1 T
    go_wp2_with fail
    refine (live_any _).mono ?_
    rintro e w5 ⟨rfl, hb5⟩
    have Hb5 := Lib.hid hb5
    clear hb5
    go_wp2
    go_ret
    exact ⟨rfl, Hb1.out.trans (Hb5.out.mono Hb1.out.size)⟩
  · go_enter Try.func7, Try.ntmps7
    go_wp2_with fail
    refine T.mono ?_
    rintro e w1 ⟨rfl, hb1⟩
    have Hb1 := Lib.hid hb1
    clear hb1 T
    go_wp2_with fail
    refine (live_any _).mono ?_
    rintro e w5 ⟨rfl, hb5⟩
    have Hb5 := Lib.hid hb5
    clear hb5
    go_wp2
    go_ret
    exact ⟨rfl, Hb1.out.trans (Hb5.out.mono Hb1.out.size)⟩
  · have Hf := Lib.hid (fds_text hg hok hs)
    clear hg hok hl
    go_enter Try.func7, Try.ntmps7
    go_wp2_with fail
    refine T.mono ?_
    rintro e w1 ⟨rfl, hb1⟩
    have Hb1 := Lib.hid hb1
    clear hb1 T
    go_wp2_with fail
    refine (pfields_any (textB l) _ (by omega) l 0 Hf.out).mono ?_
    rintro e w3 ⟨A3, n3, c3, rfl, rfl, ho3, hb3⟩
    have Hb3 := Lib.hid (Hb1.out.trans (hb3.mono Hb1.out.size))
    have F4 := Lib.hid (ho3.flds rfl)
    have L3 := Lib.hid (Hl.out.below (Hb3.out.mono hB) (Nat.le_refl _))
    clear hb3 ho3
    go_wp2_with fail
    refine (same_yes w3 _ _ A3 A l.length c3 l.length c l F4.out L3.out).mono ?_
    rintro e w4 ⟨rfl, hd⟩
    have Hb4 := Lib.hid (Dn.below hd Hb3.out)
    clear hd
    go_wp2_with fail
    refine (live_any _).mono ?_
    rintro e w5 ⟨rfl, hb5⟩
    have Hb5 := Lib.hid hb5
    clear hb5
    go_wp2
    go_ret
    exact ⟨rfl, Hb4.out.trans (Hb5.out.mono Hb4.out.size)⟩
end Go.Proofs.Ytpnieegaemfffaa
