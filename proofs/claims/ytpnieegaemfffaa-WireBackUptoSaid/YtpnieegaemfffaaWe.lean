/- The walks: a field off the cursor. -/
import Derived.Test.YtpnieegaemfffaaWd
namespace Go.Proofs.Ytpnieegaemfffaa
open Go.RowKit

def Fd.val (f : Fd) : Value := .agg #[.int .i64 f.num, .int .i64 f.kind, .int .u64 f.u, .string f.b]
def FieldPost (s : ByteArray) (p b : Nat) (w : World) (e : Ending) (w' : World) : Prop :=
  Only b w w' ∧ ((∃ f n, fieldS s p = some (f, n) ∧ e = .returned f.val ∧ Cur w' b s n) ∨ (fieldS s p = none ∧ e = .panicked bad))

theorem blk4 {W : World} {g : Nat} {t : TypeId} {v0 v1 v2 v3 : Value} (h : W.heap[g]? = some (.cells #[v0, v1, v2, v3] t (0, 0))) :
    (W.cell? ⟨g, 0, none⟩ = some v0 ∧ W.cell? ⟨g, 1, none⟩ = some v1 ∧ W.cell? ⟨g, 2, none⟩ = some v2 ∧ W.cell? ⟨g, 3, none⟩ = some v3) ∧
    (W.frozen? ⟨g, 0, none⟩ = false ∧ W.frozen? ⟨g, 1, none⟩ = false ∧ W.frozen? ⟨g, 2, none⟩ = false ∧ W.frozen? ⟨g, 3, none⟩ = false) := by
  refine ⟨⟨cell_of_row W g 0 _ t (0, 0) h, cell_of_row W g 1 _ t (0, 0) h, cell_of_row W g 2 _ t (0, 0) h, cell_of_row W g 3 _ t (0, 0) h⟩, ?_⟩
  refine ⟨?_, ?_, ?_, ?_⟩ <;> simp [World.frozen?, h]
theorem only5 {b : Nat} {w W : World} (h : Only b w W) {g : Nat} (hg : w.heap.size ≤ g) (i : Nat) (x y0 y1 y2 y3 : Value) :
    Only b w (((((W.setCell ⟨g, i, none⟩ x).setCell ⟨w.heap.size, 0, none⟩ y0).setCell ⟨w.heap.size, 1, none⟩ y1).setCell ⟨w.heap.size, 2, none⟩ y2).setCell ⟨w.heap.size, 3, none⟩ y3) :=
  ((((h.new_ hg x).new_ (Nat.le_refl _) y0).new_ (Nat.le_refl _) y1).new_ (Nat.le_refl _) y2).new_ (Nat.le_refl _) y3
theorem cur5 {b n : Nat} {s : ByteArray} {W : World} (h : Cur W b s n) {g r : Nat} (hg : b ≠ g) (hr : b ≠ r) (i : Nat) (x y0 y1 y2 y3 : Value) :
    Cur (((((W.setCell ⟨g, i, none⟩ x).setCell ⟨r, 0, none⟩ y0).setCell ⟨r, 1, none⟩ y1).setCell ⟨r, 2, none⟩ y2).setCell ⟨r, 3, none⟩ y3) b s n :=
  ((((h.far hg x).far hr y0).far hr y1).far hr y2).far hr y3
theorem mask7 {c : Int} (h₀ : 0 ≤ c) (h₁ : c < B64) : bits .and .u64 c 7 = c % 8 := bits_mask .u64 64 (by decide) wraps_u64 3 (by decide) c h₀ (by unfold B64 at h₁; omega)
theorem fieldS_none {s : ByteArray} {p : Nat} (h : tk s p = none) : fieldS s p = none := by simp [fieldS, h]
theorem fieldS_head {s : ByteArray} {p : Nat} {hd : Int} {n : Nat} (h : tk s p = some (hd, n)) (hb : 4294967295 < hd ∨ hd < 8) : fieldS s p = none := by simp [fieldS, h, hb]
theorem fieldS_body {s : ByteArray} {p : Nat} {hd : Int} {n : Nat} (h : tk s p = some (hd, n)) (hb : ¬ (4294967295 < hd ∨ hd < 8)) : fieldS s p = bodyS s hd n := by
  simp only [fieldS, h, Option.bind_some]
  rw [if_neg hb]

set_option maxRecDepth 100000 in
set_option maxHeartbeats 1600000 in
theorem field_any (s : ByteArray) (p b : Nat) (w : World) (hs : s.size ≤ 140737488351232) (hp : p ≤ s.size) (hc : Cur w b s p) :
    Calls Try.prog 26 #[.pointer (some ⟨b, 0, none⟩)] w (FieldPost s p b w) := by
  have hbl := hc.lt
  have Hc := Lib.hid (show Cur (w.alloc (.cells #[.int .i64 0, .int .i64 0, .int .u64 0, .string ⟨#[]⟩] 35)) b s p from (Below.heap_alloc _ _ _ hbl).trans hc)
  clear hc
  go_enter Try.func26, Try.ntmps26
  go_wp2_with fail
  refine (varint_any s p b _ hs hp Hc.out).mono ?_
  rintro e w1 ⟨ho1, hcase⟩
  have s1 : w.heap.size + 1 ≤ w1.heap.size := by have := ho1.size; simpa using this
  have hblk : w1.heap[w.heap.size]? = some (.cells #[.int .i64 0, .int .i64 0, .int .u64 0, .string ⟨#[]⟩] 35 (0, 0)) := (ho1.block _ (by simp) (by omega)).trans (heap_alloc_new w _)
  have Hblk := Lib.hid hblk
  have Ho1 := Lib.hid (((Only.refl b w).alloc _).trans ho1)
  clear hblk ho1
  rcases hcase with ⟨hd, n, htk, rfl, hc1⟩ | ⟨htk, rfl⟩
  case inr => exact ⟨rfl, Ho1.out, .inr ⟨fieldS_none htk, rfl⟩⟩
  case inl =>
    obtain ⟨h0, h64, hn1, hn2⟩ := tk_bd htk
    have Htk := Lib.hid htk
    have H64 := Lib.hid h64
    have Hc1 := Lib.hid hc1
    clear htk h64 hc1
    by_cases hbig : 4294967295 < hd
    · have Hf := Lib.hid (fieldS_head Htk.out (.inl hbig))
      have q1 : (hd / 4294967296 != 0) = true := by simp; omega
      go_wp2
      exact ⟨rfl, Ho1.out, .inr ⟨Hf.out, rfl⟩⟩
    · have q1 : (hd / 4294967296 != 0) = false := by simp; omega
      by_cases hsm : hd < 8
      · have Hf := Lib.hid (fieldS_head Htk.out (.inr hsm))
        have q2 : (hd / 8 == 0) = true := by simp; omega
        go_wp2
        exact ⟨rfl, Ho1.out, .inr ⟨Hf.out, rfl⟩⟩
      · have q2 : (hd / 8 == 0) = false := by simp; omega
        have Hf := Lib.hid (fieldS_body Htk.out (by omega))
        have hm7 := mask7 h0 H64.out
        have Hm7 := Lib.hid hm7
        have kb : 0 ≤ hd % 8 ∧ hd % 8 < 8 := by omega
        have nb : 0 ≤ hd / 8 ∧ hd / 8 ≤ 536870911 := by omega
        by_cases k0 : hd % 8 = 0
        · have q3 : (hd % 8 == 0) = true := by simp [k0]
          have K0 := Lib.hid k0
          clear k0
          go_wp2_with fail
          refine (varint_any s n b _ hs hn2 ((Below.heap_alloc _ _ _ Hc1.out.lt).trans Hc1.out)).mono ?_
          rintro e w2 ⟨ho2, hcase⟩
          have Ho2 := Lib.hid (Ho1.out.trans (((Only.refl b w1).alloc _).trans ho2))
          have hF := (ho2.block w1.heap.size (by simp) (by have := Hc1.out.lt; omega)).trans (heap_alloc_new w1 _)
          have hR := (ho2.block w.heap.size (by simp; omega) (by omega)).trans ((Below.heap_alloc w1 _ w.heap.size (by omega)).trans Hblk.out)
          have s2 : w1.heap.size + 1 ≤ w2.heap.size := by have := ho2.size; simpa using this
          clear ho2
          rcases hcase with ⟨u, n2, htk2, rfl, hc2⟩ | ⟨htk2, rfl⟩
          case inr => exact ⟨rfl, Ho2.out, .inr ⟨by rw [Hf.out, bodyS, if_pos K0.out, htk2]; rfl, rfl⟩⟩
          case inl =>
            obtain ⟨⟨a0, a1, a2, a3⟩, ⟨b0, b1, b2, b3⟩⟩ := blk4 hF
            obtain ⟨⟨c0, c1, c2, c3⟩, ⟨d0, d1, d2, d3⟩⟩ := blk4 hR
            have Hres := Lib.hid (show fieldS s p = some (⟨hd / 8, 0, u, ⟨#[]⟩⟩, n2) by rw [Hf.out, bodyS, if_pos K0.out, htk2]; rfl)
            have Hc2 := Lib.hid hc2
            clear hF hR htk2 hc2
            go_wp2
            refine bodyPost_ret (v := .agg #[.int .i64 (hd / 8), .int .i64 (hd % 8), .int .u64 u, .string ⟨#[]⟩]) (by simp [results, Try.results26, go_sem, a0, a1, a2, a3, b0, b1, b2, b3, c0, c1, c2, c3, d0, d1, d2, d3]) rfl ⟨?_, .inl ⟨_, _, Hres.out, by rw [K0.out]; rfl, ?_⟩⟩
            · exact only5 Ho2.out (by omega) _ _ _ _ _ _
            · exact cur5 Hc2.out (by omega) (by omega) _ _ _ _ _ _
        · have q3 : (hd % 8 == 0) = false := by simp [k0]
          by_cases k1 : hd % 8 = 1
          · have q4 : (hd % 8 == 1) = true := by simp [k1]
            have K0 := Lib.hid k0
            have K1 := Lib.hid k1
            clear k0 k1
            by_cases hsz : n + 8 ≤ s.size
            · have Hres := Lib.hid (show fieldS s p = some (⟨hd / 8, 1, lowS s n 8, ⟨#[]⟩⟩, n + 8) by rw [Hf.out, bodyS, if_neg K0.out, if_pos K1.out, if_neg (by omega)])
              have Hfx := Lib.hid (fixed_ok s n b _ hs (Hc1.out.alloc (.cells #[.int .i64 (hd / 8), .int .i64 (hd % 8), .int .u64 0, .string ⟨#[]⟩] 35)) 8 (by omega) hsz)
              go_wp2_with fail
              refine Hfx.out.mono ?_
              rintro e w2 ⟨rfl, hc2, ho2⟩
              have Ho2 := Lib.hid (Ho1.out.trans (((Only.refl b w1).alloc _).trans ho2))
              have hF := (ho2.block w1.heap.size (by simp) (by have := Hc1.out.lt; omega)).trans (heap_alloc_new w1 _)
              have hR := (ho2.block w.heap.size (by simp; omega) (by omega)).trans ((Below.heap_alloc w1 _ w.heap.size (by omega)).trans Hblk.out)
              have s2 : w1.heap.size + 1 ≤ w2.heap.size := by have := ho2.size; simpa using this
              obtain ⟨⟨a0, a1, a2, a3⟩, ⟨b0, b1, b2, b3⟩⟩ := blk4 hF
              obtain ⟨⟨c0, c1, c2, c3⟩, ⟨d0, d1, d2, d3⟩⟩ := blk4 hR
              have Hc2 := Lib.hid hc2
              clear ho2 hF hR hc2
              go_wp2
              refine bodyPost_ret (v := .agg #[.int .i64 (hd / 8), .int .i64 (hd % 8), .int .u64 (lowS s n 8), .string ⟨#[]⟩]) (by simp [results, Try.results26, go_sem, a0, a1, a2, a3, b0, b1, b2, b3, c0, c1, c2, c3, d0, d1, d2, d3]) rfl ⟨?_, .inl ⟨_, _, Hres.out, by rw [K1.out]; rfl, ?_⟩⟩
              · exact only5 Ho2.out (by omega) _ _ _ _ _ _
              · exact cur5 Hc2.out (by omega) (by omega) _ _ _ _ _ _
            · have Hres := Lib.hid (show fieldS s p = none by rw [Hf.out, bodyS, if_neg K0.out, if_pos K1.out, if_pos (by omega)])
              have Hfx := Lib.hid (fixed_bad s n b _ hs hn2 (Hc1.out.alloc (.cells #[.int .i64 (hd / 8), .int .i64 (hd % 8), .int .u64 0, .string ⟨#[]⟩] 35)) 8 (by omega))
              go_wp2_with fail
              refine Hfx.out.mono ?_
              rintro e w2 ⟨rfl, ho2⟩
              exact ⟨rfl, Ho1.out.trans (((Only.refl b w1).alloc _).trans ho2), .inr ⟨Hres.out, rfl⟩⟩
          · have q4 : (hd % 8 == 1) = false := by simp [k1]
            by_cases k5 : hd % 8 = 5
            · have q5 : (hd % 8 == 5) = true := by simp [k5]
              have K0 := Lib.hid k0
              have K1 := Lib.hid k1
              have K5 := Lib.hid k5
              clear k0 k1 k5
              by_cases hsz : n + 4 ≤ s.size
              · have Hres := Lib.hid (show fieldS s p = some (⟨hd / 8, 5, lowS s n 4, ⟨#[]⟩⟩, n + 4) by rw [Hf.out, bodyS, if_neg K0.out, if_neg K1.out, if_pos K5.out, if_neg (by omega)])
                have Hfx := Lib.hid (fixed_ok s n b _ hs (Hc1.out.alloc (.cells #[.int .i64 (hd / 8), .int .i64 (hd % 8), .int .u64 0, .string ⟨#[]⟩] 35)) 4 (by omega) hsz)
                go_wp2_with fail
                refine Hfx.out.mono ?_
                rintro e w2 ⟨rfl, hc2, ho2⟩
                have Ho2 := Lib.hid (Ho1.out.trans (((Only.refl b w1).alloc _).trans ho2))
                have hF := (ho2.block w1.heap.size (by simp) (by have := Hc1.out.lt; omega)).trans (heap_alloc_new w1 _)
                have hR := (ho2.block w.heap.size (by simp; omega) (by omega)).trans ((Below.heap_alloc w1 _ w.heap.size (by omega)).trans Hblk.out)
                have s2 : w1.heap.size + 1 ≤ w2.heap.size := by have := ho2.size; simpa using this
                obtain ⟨⟨a0, a1, a2, a3⟩, ⟨b0, b1, b2, b3⟩⟩ := blk4 hF
                obtain ⟨⟨c0, c1, c2, c3⟩, ⟨d0, d1, d2, d3⟩⟩ := blk4 hR
                have Hc2 := Lib.hid hc2
                clear ho2 hF hR hc2
                go_wp2
                refine bodyPost_ret (v := .agg #[.int .i64 (hd / 8), .int .i64 (hd % 8), .int .u64 (lowS s n 4), .string ⟨#[]⟩]) (by simp [results, Try.results26, go_sem, a0, a1, a2, a3, b0, b1, b2, b3, c0, c1, c2, c3, d0, d1, d2, d3]) rfl ⟨?_, .inl ⟨_, _, Hres.out, by rw [K5.out]; rfl, ?_⟩⟩
                · exact only5 Ho2.out (by omega) _ _ _ _ _ _
                · exact cur5 Hc2.out (by omega) (by omega) _ _ _ _ _ _
              · have Hres := Lib.hid (show fieldS s p = none by rw [Hf.out, bodyS, if_neg K0.out, if_neg K1.out, if_pos K5.out, if_pos (by omega)])
                have Hfx := Lib.hid (fixed_bad s n b _ hs hn2 (Hc1.out.alloc (.cells #[.int .i64 (hd / 8), .int .i64 (hd % 8), .int .u64 0, .string ⟨#[]⟩] 35)) 4 (by omega))
                go_wp2_with fail
                refine Hfx.out.mono ?_
                rintro e w2 ⟨rfl, ho2⟩
                exact ⟨rfl, Ho1.out.trans (((Only.refl b w1).alloc _).trans ho2), .inr ⟨Hres.out, rfl⟩⟩
            · have q5 : (hd % 8 == 5) = false := by simp [k5]
              by_cases k2 : hd % 8 = 2
              · have q6 : (hd % 8 == 2) = true := by simp [k2]
                have K0 := Lib.hid k0
                have K1 := Lib.hid k1
                have K5 := Lib.hid k5
                have K2 := Lib.hid k2
                have Hbd := Lib.hid (show fieldS s p = (tk s n).bind fun r => if (s.size : Int) - r.2 < r.1 then none else some (⟨hd / 8, 2, 0, s.extract r.2 (r.2 + r.1.toNat)⟩, r.2 + r.1.toNat) by rw [Hf.out, bodyS, if_neg K0.out, if_neg K1.out, if_neg K5.out, if_pos K2.out])
                clear k0 k1 k5 k2
                go_wp2_with fail
                refine (varint_any s n b _ hs hn2 (Hc1.out.alloc _)).mono ?_
                rintro e w2 ⟨ho2, hcase⟩
                have Hg2 := Lib.hid (((Only.refl b w1).alloc _).trans ho2)
                have Ho2 := Lib.hid (Ho1.out.trans Hg2.out)
                have hF := (ho2.block w1.heap.size (by simp) (by have := Hc1.out.lt; omega)).trans (heap_alloc_new w1 _)
                have hR := (ho2.block w.heap.size (by simp; omega) (by omega)).trans ((Below.heap_alloc w1 _ w.heap.size (by omega)).trans Hblk.out)
                have s2 : w1.heap.size + 1 ≤ w2.heap.size := by have := ho2.size; simpa using this
                have HF := Lib.hid hF
                have HR := Lib.hid hR
                clear ho2 hF hR
                rcases hcase with ⟨u, n2, htk2, rfl, hc2⟩ | ⟨htk2, rfl⟩
                case inr => exact ⟨rfl, Ho2.out, .inr ⟨by rw [Hbd.out, htk2]; rfl, rfl⟩⟩
                case inl =>
                  obtain ⟨u0, _, n21, n22⟩ := tk_bd htk2
                  have Htk2 := Lib.hid htk2
                  have Hc2 := Lib.hid hc2
                  clear htk2 hc2
                  by_cases hlong : (s.size : Int) - n2 < u
                  · have Hbb := Lib.hid (bytes_bad s n2 b _ hs n22 Hc2.out u u0 hlong)
                    go_wp2_with fail
                    refine Hbb.out.mono ?_
                    rintro e w3 ⟨rfl, ho3⟩
                    exact ⟨rfl, Ho2.out.trans ho3, .inr ⟨by rw [Hbd.out, Htk2.out]; simp only [Option.bind_some]; rw [if_pos hlong], rfl⟩⟩
                  · obtain ⟨m, rfl⟩ := Int.eq_ofNat_of_zero_le u0
                    have Hbb := Lib.hid (bytes_ok s n2 b _ hs Hc2.out m (by omega))
                    have Hres := Lib.hid (show fieldS s p = some (⟨hd / 8, 2, 0, s.extract n2 (n2 + m)⟩, n2 + m) by rw [Hbd.out, Htk2.out]; simp only [Option.bind_some]; rw [if_neg hlong]; rfl)
                    go_wp2_with fail
                    refine Hbb.out.mono ?_
                    rintro e w3 ⟨rfl, hc3, ho3⟩
                    have hF := (ho3.block w1.heap.size (by omega) (by have := Hc1.out.lt; omega)).trans HF.out
                    have hR := (ho3.block w.heap.size (by omega) (by omega)).trans HR.out
                    have s3 := ho3.size
                    have Ho3 := Lib.hid (Ho2.out.trans ho3)
                    have Hc3 := Lib.hid hc3
                    obtain ⟨⟨a0, a1, a2, a3⟩, ⟨b0, b1, b2, b3⟩⟩ := blk4 hF
                    obtain ⟨⟨c0, c1, c2, c3⟩, ⟨d0, d1, d2, d3⟩⟩ := blk4 hR
                    clear ho3 hF hR hc3
                    go_wp2
                    refine bodyPost_ret (v := .agg #[.int .i64 (hd / 8), .int .i64 (hd % 8), .int .u64 0, .string (s.extract n2 (n2 + m))]) (by simp [results, Try.results26, go_sem, a0, a1, a2, a3, b0, b1, b2, b3, c0, c1, c2, c3, d0, d1, d2, d3]) rfl ⟨?_, .inl ⟨_, _, Hres.out, by rw [K2.out]; rfl, ?_⟩⟩
                    · exact only5 Ho3.out (by omega) _ _ _ _ _ _
                    · exact cur5 Hc3.out (by omega) (by omega) _ _ _ _ _ _
              · have q6 : (hd % 8 == 2) = false := by simp [k2]
                have Hres := Lib.hid (show fieldS s p = none by rw [Hf.out, bodyS, if_neg k0, if_neg k1, if_neg k5, if_neg k2])
                clear k0 k1 k5 k2
                go_wp2
                exact ⟨rfl, Ho1.out.alloc _, .inr ⟨Hres.out, rfl⟩⟩
end Go.Proofs.Ytpnieegaemfffaa
