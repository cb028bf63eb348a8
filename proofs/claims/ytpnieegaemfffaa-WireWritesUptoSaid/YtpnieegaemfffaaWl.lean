/- The walks: live, and the law of numbers. -/
import Derived.Test.YtpnieegaemfffaaWk
namespace Go.Proofs.Ytpnieegaemfffaa
open Go.RowKit

/-- What a call leaves that hands back one truth. -/
def Bol (w : World) (b : Bool) (e : Ending) (w' : World) : Prop := e = .returned (.bool b) ∧ Below w.heap.size w w'

theorem tv_live : TvIs ⟨#[172, 2]⟩ 0 300 2 0 := .inr (.inr ⟨0, 2, rfl, by decide, by kernel_rfl, rfl, rfl⟩)
def liveA : Fd := ⟨1, 0, 150, ⟨#[]⟩⟩
def liveB : Fd := ⟨2, 2, 0, ⟨#[97, 98]⟩⟩
theorem fds_live : FdsIs ⟨#[8, 150, 1, 18, 2, 97, 98]⟩ [liveA, liveB] 0 := .inr (.inr ⟨by decide, by kernel_rfl, rfl⟩)
theorem fds_bad : FdsIs ⟨#[11]⟩ [] 3 := .inr (.inl ⟨by decide, by kernel_rfl, rfl, rfl⟩)
theorem str_live : strOfNums (venc 300) = ⟨#[172, 2]⟩ := by kernel_rfl

set_option maxRecDepth 100000 in
set_option maxHeartbeats 800000 in
theorem live_any (w : World) : Calls Try.prog 13 #[] w (Bol w true) := by
  go_enter Try.func13, Try.ntmps13
  go_wp2_with fail
  refine (ptake_any _ _ _ _ _ _ (by decide) tv_live).mono ?_
  rintro e w1 ⟨rfl, hb1⟩
  go_wp2_with fail
  refine (pfields_any _ _ (by decide) _ _ fds_live).mono ?_
  rintro e w2 ⟨A2, n2, c2, rfl, rfl, ho2, hb2⟩
  go_wp2_with fail
  refine (pfields_any _ _ (by decide) _ _ fds_bad).mono ?_
  rintro e w3 ⟨A3, n3, c3, rfl, rfl, ho3, hb3⟩
  have s1 := hb1.size
  have s2 := hb2.size
  have s3 := hb3.size
  have V := varint_w 300 w3 (by decide) (by decide)
  rw [str_live] at V
  have Fl := Lib.hid ((ho2.flds rfl).below hb3 (Nat.le_refl _))
  have B3 := Lib.hid ((hb1.trans (hb2.mono s1)).trans (hb3.mono (Nat.le_trans s1 s2)))
  clear ho2 ho3 hb1 hb2 hb3
  go_wp2_with fail
  refine V.mono ?_
  rintro e w4 ⟨rfl, hb4⟩
  have fl := Fl.out.below (hb4.mono s3) (Nat.le_refl _)
  have Hb4 := Lib.hid (B3.out.trans (hb4.mono (by omega)))
  obtain ⟨b, off, rfl, hlt, hc⟩ := fl.at_ (by simp)
  obtain ⟨x0, x1, x2, x3⟩ := hc 0 liveA rfl
  obtain ⟨y0, y1, y2, y3⟩ := hc 1 liveB rfl
  simp [liveA, liveB] at x2 y3
  clear fl hb4 hc x0 x1 x3 y0 y1 y2
  go_wp2
  go_ret
  exact ⟨rfl, Hb4.out⟩

set_option maxHeartbeats 800000 in
theorem numbers_law (u at_ : Int) (s : ByteArray) (w : World) (h0 : 0 ≤ u) (h1 : u < B64) (hs : s.size ≤ 140737488351232) :
    Calls Try.prog 3 #[.int .u64 u, .string s, .int .i64 at_] w (Bol w true) := by
  obtain ⟨x, n, err, ht⟩ := tvIs_any s at_
  have Ht := Lib.hid ht
  have H1 := Lib.hid h1
  clear ht h1
  go_enter Try.func3, Try.ntmps3
  go_wp2_with fail
  refine (ptake_any _ _ _ _ _ _ hs Ht.out).mono ?_
  rintro e w1 ⟨rfl, hb1⟩
  go_wp2_with fail
  refine (rtake_any _ _ _ _ _ _ hs Ht.out).mono ?_
  rintro e w2 ⟨rfl, hb2⟩
  go_wp2_with fail
  refine (varint_w u _ h0 H1.out).mono ?_
  rintro e w3 ⟨rfl, hb3⟩
  go_wp2_with fail
  refine (rvarint_w u _ h0 H1.out).mono ?_
  rintro e w4 ⟨rfl, hb4⟩
  have s1 := hb1.size
  have s2 := hb2.size
  have s3 := hb3.size
  have Hb := Lib.hid (((hb1.trans (hb2.mono s1)).trans (hb3.mono (Nat.le_trans s1 s2))).trans (hb4.mono (Nat.le_trans s1 (Nat.le_trans s2 s3))))
  clear hb1 hb2 hb3 hb4
  go_wp2_with fail
  refine (live_any _).mono ?_
  rintro e w5 ⟨rfl, hb5⟩
  have Hb5 := Lib.hid hb5
  clear hb5
  go_wp2
  go_ret
  exact ⟨rfl, Hb.out.trans (Hb5.out.mono (by have := Hb.out.size; omega))⟩
end Go.Proofs.Ytpnieegaemfffaa
