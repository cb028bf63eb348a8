/- The walks: nodes that are the same. -/
import Derived.Test.YtkcnpnnflbibiaaZq
import Derived.Deep.RegionLaw
import Derived.BigRegion
import Derived.Deep.QuietTactic
import Derived.BigQuiet
set_option linter.unusedVariables false
namespace Go.Proofs.Ytkcnpnnflbibiaa
open Go.RowKit

theorem sameT_self (t : Tn) : sameT t t = true := by simp [sameT]
theorem sameA_self (a : At) : sameA a a = true := by simp [sameA, sameT_self]
set_option maxRecDepth 100000 in
set_option maxHeartbeats 3200000 in
theorem sameN_yes (x : Nd) (w : World) (Z : Nat → Prop) (A1 A2 A3 A4 : Option Addr) (n1 c1 n2 c2 c3 c4 : Nat) (h1 : Slc repStr w Z A1 n1 x.ins) (h2 : Slc repAt w Z A2 n2 x.attrs) (h3 : Slc repStr w Z A3 n1 x.ins) (h4 : Slc repAt w Z A4 n2 x.attrs) (hZ : ∀ k, Z k → k < w.heap.size) :
    Calls Try.prog 26 #[.agg #[.string x.op, .string x.name, .slice A1 n1 c1, .string x.out, .slice A2 n2 c2], .agg #[.string x.op, .string x.name, .slice A3 n1 c3, .string x.out, .slice A4 n2 c4]] w (BolB true w) := by
  have hb0 : Below w.heap.size w ((w.alloc (.cells #[.string x.op, .string x.name, .slice A1 n1 c1, .string x.out, .slice A2 n2 c2] 67)).alloc (.cells #[.string x.op, .string x.name, .slice A3 n1 c3, .string x.out, .slice A4 n2 c4] 67)) := ((Below.refl _ _).alloc (Nat.le_refl _) _).alloc (by simp) _
  have hg1 := (Below.heap_alloc (w.alloc (.cells #[.string x.op, .string x.name, .slice A1 n1 c1, .string x.out, .slice A2 n2 c2] 67)) (.cells #[.string x.op, .string x.name, .slice A3 n1 c3, .string x.out, .slice A4 n2 c4] 67) w.heap.size (by simp)).trans (heap_alloc_new w (.cells #[.string x.op, .string x.name, .slice A1 n1 c1, .string x.out, .slice A2 n2 c2] 67))
  have hg2 := heap_second w (.cells #[.string x.op, .string x.name, .slice A1 n1 c1, .string x.out, .slice A2 n2 c2] 67) (.cells #[.string x.op, .string x.name, .slice A3 n1 c3, .string x.out, .slice A4 n2 c4] 67) (w.heap.size + 1) rfl
  have z0 : ((w.alloc (.cells #[.string x.op, .string x.name, .slice A1 n1 c1, .string x.out, .slice A2 n2 c2] 67)).alloc (.cells #[.string x.op, .string x.name, .slice A3 n1 c3, .string x.out, .slice A4 n2 c4] 67)).heap.size = w.heap.size + 2 := by simp
  have H1 := Lib.hid h1
  have H2 := Lib.hid h2
  have H3 := Lib.hid h3
  have H4 := Lib.hid h4
  have HZ := Lib.hid hZ
  have HB0 := Lib.hid hb0
  have HG1 := Lib.hid hg1
  have HG2 := Lib.hid hg2
  have HZ0 := Lib.hid z0
  have i1 : (n1 : Int) ≤ 9223372036854775807 := by have := h1.small; unfold maxLen at this; omega
  have i2 : (n2 : Int) ≤ 9223372036854775807 := by have := h2.small; unfold maxLen at this; omega
  have x0 : ((w.alloc (.cells #[.string x.op, .string x.name, .slice A1 n1 c1, .string x.out, .slice A2 n2 c2] 67)).alloc (.cells #[.string x.op, .string x.name, .slice A3 n1 c3, .string x.out, .slice A4 n2 c4] 67)).cell? ⟨w.heap.size, 0, none⟩ = some (.string x.op) := cell_of_row _ _ 0 _ 67 (0, 0) hg1
  have x1 : ((w.alloc (.cells #[.string x.op, .string x.name, .slice A1 n1 c1, .string x.out, .slice A2 n2 c2] 67)).alloc (.cells #[.string x.op, .string x.name, .slice A3 n1 c3, .string x.out, .slice A4 n2 c4] 67)).cell? ⟨w.heap.size, 1, none⟩ = some (.string x.name) := cell_of_row _ _ 1 _ 67 (0, 0) hg1
  have x2 : ((w.alloc (.cells #[.string x.op, .string x.name, .slice A1 n1 c1, .string x.out, .slice A2 n2 c2] 67)).alloc (.cells #[.string x.op, .string x.name, .slice A3 n1 c3, .string x.out, .slice A4 n2 c4] 67)).cell? ⟨w.heap.size, 2, none⟩ = some (.slice A1 n1 c1) := cell_of_row _ _ 2 _ 67 (0, 0) hg1
  have x3 : ((w.alloc (.cells #[.string x.op, .string x.name, .slice A1 n1 c1, .string x.out, .slice A2 n2 c2] 67)).alloc (.cells #[.string x.op, .string x.name, .slice A3 n1 c3, .string x.out, .slice A4 n2 c4] 67)).cell? ⟨w.heap.size, 3, none⟩ = some (.string x.out) := cell_of_row _ _ 3 _ 67 (0, 0) hg1
  have x4 : ((w.alloc (.cells #[.string x.op, .string x.name, .slice A1 n1 c1, .string x.out, .slice A2 n2 c2] 67)).alloc (.cells #[.string x.op, .string x.name, .slice A3 n1 c3, .string x.out, .slice A4 n2 c4] 67)).cell? ⟨w.heap.size, 4, none⟩ = some (.slice A2 n2 c2) := cell_of_row _ _ 4 _ 67 (0, 0) hg1
  have y0 : ((w.alloc (.cells #[.string x.op, .string x.name, .slice A1 n1 c1, .string x.out, .slice A2 n2 c2] 67)).alloc (.cells #[.string x.op, .string x.name, .slice A3 n1 c3, .string x.out, .slice A4 n2 c4] 67)).cell? ⟨w.heap.size + 1, 0, none⟩ = some (.string x.op) := cell_of_row _ _ 0 _ 67 (0, 0) hg2
  have y1 : ((w.alloc (.cells #[.string x.op, .string x.name, .slice A1 n1 c1, .string x.out, .slice A2 n2 c2] 67)).alloc (.cells #[.string x.op, .string x.name, .slice A3 n1 c3, .string x.out, .slice A4 n2 c4] 67)).cell? ⟨w.heap.size + 1, 1, none⟩ = some (.string x.name) := cell_of_row _ _ 1 _ 67 (0, 0) hg2
  have y2 : ((w.alloc (.cells #[.string x.op, .string x.name, .slice A1 n1 c1, .string x.out, .slice A2 n2 c2] 67)).alloc (.cells #[.string x.op, .string x.name, .slice A3 n1 c3, .string x.out, .slice A4 n2 c4] 67)).cell? ⟨w.heap.size + 1, 2, none⟩ = some (.slice A3 n1 c3) := cell_of_row _ _ 2 _ 67 (0, 0) hg2
  have y3 : ((w.alloc (.cells #[.string x.op, .string x.name, .slice A1 n1 c1, .string x.out, .slice A2 n2 c2] 67)).alloc (.cells #[.string x.op, .string x.name, .slice A3 n1 c3, .string x.out, .slice A4 n2 c4] 67)).cell? ⟨w.heap.size + 1, 3, none⟩ = some (.string x.out) := cell_of_row _ _ 3 _ 67 (0, 0) hg2
  have y4 : ((w.alloc (.cells #[.string x.op, .string x.name, .slice A1 n1 c1, .string x.out, .slice A2 n2 c2] 67)).alloc (.cells #[.string x.op, .string x.name, .slice A3 n1 c3, .string x.out, .slice A4 n2 c4] 67)).cell? ⟨w.heap.size + 1, 4, none⟩ = some (.slice A4 n2 c4) := cell_of_row _ _ 4 _ 67 (0, 0) hg2
  clear hb0 hg1 hg2 h1 h2 h3 h4 hZ z0
  go_enter Try.func26, Try.ntmps26
  go_wp2_with fail
  generalize ((w.alloc (.cells #[.string x.op, .string x.name, .slice A1 n1 c1, .string x.out, .slice A2 n2 c2] 67)).alloc (.cells #[.string x.op, .string x.name, .slice A3 n1 c3, .string x.out, .slice A4 n2 c4] 67)) = w0 at HB0 HG1 HG2 HZ0 x0 x1 x2 x3 x4 y0 y1 y2 y3 y4 ⊢
  go_loopw [5] (fun i wr => ∃ k : Nat, k ≤ n1 ∧ i = .int .i64 k ∧ ∃ q, wr = w0.drewN q) (fun i _ => n1 - (intOf i).toNat)
  case atStart => exact ⟨0, Nat.zero_le _, rfl, 0, rfl⟩
  case round =>
    obtain ⟨k, hk, rfl, q, rfl⟩ := hrel
    by_cases hlt : k < n1
    · obtain ⟨b1, off1, s, cs, rfl, hb1, hs1, hR1, hc1⟩ := H1.out.get hlt
      obtain ⟨b2, off2, s', cs', rfl, hb2, hs2, hR2, hc2⟩ := H3.out.get hlt
      rw [hs1] at hs2
      cases hs2
      have hcs : cs = [.string s] := hR1
      have hcs' : cs' = [.string s] := hR2
      subst hcs
      subst hcs'
      have d1 : w0.cell? ⟨b1, off1 + k, none⟩ = some (.string s) := (HB0.out.cell (p := ⟨b1, off1 + k, none⟩) (by exact HZ.out _ hb1)).trans (by simpa [repStr] using hc1 0 (by decide))
      have d2 : w0.cell? ⟨b2, off2 + k, none⟩ = some (.string s) := (HB0.out.cell (p := ⟨b2, off2 + k, none⟩) (by exact HZ.out _ hb2)).trans (by simpa [repStr] using hc2 0 (by decide))
      clear hs1 hR1 hR2 hc1 hc2
      go_wp2
      go_quiet (fail)
      go_wp2
      go_roundw
      case rel => exact ⟨k + 1, by omega, by go_num, _, rfl⟩
      case measure => simp [intOf]; omega
    · obtain rfl : k = n1 := by omega
      have HBq := Lib.hid (below_drewN HB0.out q)
      have vv2 : (w0.drewN q).cell? ⟨w.heap.size, 2, none⟩ = some (.slice A1 k c1) := x2
      have vv4 : (w0.drewN q).cell? ⟨w.heap.size, 4, none⟩ = some (.slice A2 n2 c2) := x4
      have uu4 : (w0.drewN q).cell? ⟨w.heap.size + 1, 4, none⟩ = some (.slice A4 n2 c4) := y4
      have HZq := Lib.hid (show (w0.drewN q).heap.size = w.heap.size + 2 from HZ0.out)
      clear x0 x1 x2 x3 x4 y0 y1 y2 y3 y4 HG1 HG2 HB0
      generalize w0.drewN q = w1 at HBq HZq vv2 vv4 uu4 ⊢
      go_wp2_with fail
      go_loopw [6, 7] (fun i u7 wr => ∃ k : Nat, k ≤ n2 ∧ i = .int .i64 k ∧ Below w1.heap.size w1 wr) (fun i _ _ => n2 - (intOf i).toNat)
      case atStart => exact ⟨0, Nat.zero_le _, rfl, Below.refl _ _⟩
      case round =>
        obtain ⟨k, hk, rfl, hbw⟩ := hrel
        have Hbx := Lib.hid hbw
        have Hbw := Lib.hid (HBq.out.trans (hbw.mono HBq.out.size))
        have zr := hbw.size
        have t4 : wr.cell? ⟨w.heap.size, 4, none⟩ = some (.slice A2 n2 c2) := (hbw.cell (by have := HZq.out; dsimp only; omega)).trans vv4
        have r4 : wr.cell? ⟨w.heap.size + 1, 4, none⟩ = some (.slice A4 n2 c4) := (hbw.cell (by have := HZq.out; dsimp only; omega)).trans uu4
        clear hbw
        by_cases hlt : k < n2
        · obtain ⟨bd, od, a, cs, hA, hbZ, hs, hR, hc⟩ := H2.out.get hlt
          obtain ⟨bd', od', a', cs', hA', hbZ', hs', hR', hc'⟩ := H4.out.get hlt
          rw [hs] at hs'
          cases hs'
          obtain ⟨d, e, f, rfl, g1, g2, g3⟩ := hR
          obtain ⟨B1, m1, k1, rfl, g1⟩ := g1
          obtain ⟨B2, m2, k2, rfl, g2⟩ := g2
          obtain ⟨B3, m3, k3, rfl, g3⟩ := g3
          obtain ⟨d', e', f', rfl, g4, g5, g6⟩ := hR'
          obtain ⟨B4, m4, k4, rfl, g4⟩ := g4
          obtain ⟨B5, m5, k5, rfl, g5⟩ := g5
          obtain ⟨B6, m6, k6, rfl, g6⟩ := g6
          have d0 : wr.cell? ⟨bd, od + k * 9, none⟩ = some (.string a.name) := (Hbw.out.cell (p := ⟨bd, od + k * 9, none⟩) (by exact HZ.out _ hbZ)).trans (hc 0 (by decide))
          have d1 : wr.cell? ⟨bd, od + k * 9 + 1, none⟩ = some (.int .i64 a.kind) := (Hbw.out.cell (p := ⟨bd, od + k * 9 + 1, none⟩) (by exact HZ.out _ hbZ)).trans (hc 1 (by decide))
          have d2 : wr.cell? ⟨bd, od + k * 9 + 2, none⟩ = some (.int .i64 a.f) := (Hbw.out.cell (p := ⟨bd, od + k * 9 + 2, none⟩) (by exact HZ.out _ hbZ)).trans (hc 2 (by decide))
          have d3 : wr.cell? ⟨bd, od + k * 9 + 3, none⟩ = some (.int .i64 a.i) := (Hbw.out.cell (p := ⟨bd, od + k * 9 + 3, none⟩) (by exact HZ.out _ hbZ)).trans (hc 3 (by decide))
          have d4 : wr.cell? ⟨bd, od + k * 9 + 4, none⟩ = some (.string a.s) := (Hbw.out.cell (p := ⟨bd, od + k * 9 + 4, none⟩) (by exact HZ.out _ hbZ)).trans (hc 4 (by decide))
          have d5 : wr.cell? ⟨bd, od + k * 9 + 5, none⟩ = some (.int .i64 a.t.typ) := (Hbw.out.cell (p := ⟨bd, od + k * 9 + 5, none⟩) (by exact HZ.out _ hbZ)).trans (hc 5 (by decide))
          have d6 : wr.cell? ⟨bd, od + k * 9 + 6, none⟩ = some (.slice B1 m1 k1) := (Hbw.out.cell (p := ⟨bd, od + k * 9 + 6, none⟩) (by exact HZ.out _ hbZ)).trans (hc 6 (by decide))
          have d7 : wr.cell? ⟨bd, od + k * 9 + 7, none⟩ = some (.slice B2 m2 k2) := (Hbw.out.cell (p := ⟨bd, od + k * 9 + 7, none⟩) (by exact HZ.out _ hbZ)).trans (hc 7 (by decide))
          have d8 : wr.cell? ⟨bd, od + k * 9 + 8, none⟩ = some (.slice B3 m3 k3) := (Hbw.out.cell (p := ⟨bd, od + k * 9 + 8, none⟩) (by exact HZ.out _ hbZ)).trans (hc 8 (by decide))
          have e0 : wr.cell? ⟨bd', od' + k * 9, none⟩ = some (.string a.name) := (Hbw.out.cell (p := ⟨bd', od' + k * 9, none⟩) (by exact HZ.out _ hbZ')).trans (hc' 0 (by decide))
          have e1 : wr.cell? ⟨bd', od' + k * 9 + 1, none⟩ = some (.int .i64 a.kind) := (Hbw.out.cell (p := ⟨bd', od' + k * 9 + 1, none⟩) (by exact HZ.out _ hbZ')).trans (hc' 1 (by decide))
          have e2 : wr.cell? ⟨bd', od' + k * 9 + 2, none⟩ = some (.int .i64 a.f) := (Hbw.out.cell (p := ⟨bd', od' + k * 9 + 2, none⟩) (by exact HZ.out _ hbZ')).trans (hc' 2 (by decide))
          have e3 : wr.cell? ⟨bd', od' + k * 9 + 3, none⟩ = some (.int .i64 a.i) := (Hbw.out.cell (p := ⟨bd', od' + k * 9 + 3, none⟩) (by exact HZ.out _ hbZ')).trans (hc' 3 (by decide))
          have e4 : wr.cell? ⟨bd', od' + k * 9 + 4, none⟩ = some (.string a.s) := (Hbw.out.cell (p := ⟨bd', od' + k * 9 + 4, none⟩) (by exact HZ.out _ hbZ')).trans (hc' 4 (by decide))
          have e5 : wr.cell? ⟨bd', od' + k * 9 + 5, none⟩ = some (.int .i64 a.t.typ) := (Hbw.out.cell (p := ⟨bd', od' + k * 9 + 5, none⟩) (by exact HZ.out _ hbZ')).trans (hc' 5 (by decide))
          have e6 : wr.cell? ⟨bd', od' + k * 9 + 6, none⟩ = some (.slice B4 m4 k4) := (Hbw.out.cell (p := ⟨bd', od' + k * 9 + 6, none⟩) (by exact HZ.out _ hbZ')).trans (hc' 6 (by decide))
          have e7 : wr.cell? ⟨bd', od' + k * 9 + 7, none⟩ = some (.slice B5 m5 k5) := (Hbw.out.cell (p := ⟨bd', od' + k * 9 + 7, none⟩) (by exact HZ.out _ hbZ')).trans (hc' 7 (by decide))
          have e8 : wr.cell? ⟨bd', od' + k * 9 + 8, none⟩ = some (.slice B6 m6 k6) := (Hbw.out.cell (p := ⟨bd', od' + k * 9 + 8, none⟩) (by exact HZ.out _ hbZ')).trans (hc' 8 (by decide))
          subst hA
          subst hA'
          have hbd := below_drewN Hbw.out 1
          have HC := Lib.hid (sameA_any a a (wr.drewN 1) w.heap.size B1 B2 B3 B4 B5 B6 m1 k1 m2 k2 m3 k3 m4 k4 m5 k5 m6 k6 ((slc_ints g1 HZ.out).below hbd (Nat.le_refl _)) ((slc_ints g2 HZ.out).below hbd (Nat.le_refl _)) ((slc_ints g3 HZ.out).below hbd (Nat.le_refl _)) ((slc_ints g4 HZ.out).below hbd (Nat.le_refl _)) ((slc_ints g5 HZ.out).below hbd (Nat.le_refl _)) ((slc_ints g6 HZ.out).below hbd (Nat.le_refl _)) Hbw.out.size)
          rw [sameA_self] at HC
          clear hs hc hc' g1 g2 g3 g4 g5 g6 hbd
          go_wp2_with fail
          first | (go_region_law (first
            | (go_simp; go_at_call 60; refine HC.out.mono ?_; rintro e w5 ⟨rfl, hb5⟩; have Hb5 := Lib.hid (Hbx.out.trans ((below_drewN (Below.refl _ _) 1).trans (hb5.mono zr))); clear hb5; dsimp only))) | fail
          all_goals
            go_wp2_with fail
            go_roundw
            case rel => exact ⟨k + 1, by omega, by go_num, Hb5.out⟩
            case measure => simp [intOf]; omega
        · obtain rfl : k = n2 := by omega
          go_wp2
          go_ret
          exact bolB_ret Hbw.out rfl
end Go.Proofs.Ytkcnpnnflbibiaa
