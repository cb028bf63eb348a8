/- The walks: graphs that are the same. -/
import Derived.Test.YtkcnpnnflbibiaaFd
import Derived.Deep.RegionHeld3
set_option linter.unusedVariables false
namespace Go.Proofs.Ytkcnpnnflbibiaa
open Go.RowKit

set_option maxRecDepth 100000 in
set_option maxHeartbeats 6400000 in
theorem same_yes (g : Gr) (w : World) (Z : Nat → Prop) (A1 A2 A3 A4 B1 B2 B3 B4 : Option Addr) (nn ni no nt Ac1 Ac2 Ac3 Ac4 Bc1 Bc2 Bc3 Bc4 : Nat) (a1 : Slc repNd w Z A1 nn g.nodes) (a2 : Slc repVl w Z A2 ni g.ins) (a3 : Slc repVl w Z A3 no g.outs) (a4 : Slc repNm w Z A4 nt g.inits)
    (b1 : Slc repNd w Z B1 nn g.nodes) (b2 : Slc repVl w Z B2 ni g.ins) (b3 : Slc repVl w Z B3 no g.outs) (b4 : Slc repNm w Z B4 nt g.inits) (hZ : ∀ k, Z k → k < w.heap.size) :
    Calls Try.prog 11 #[.agg #[.string g.name, .slice A1 nn Ac1, .slice A2 ni Ac2, .slice A3 no Ac3, .slice A4 nt Ac4], .agg #[.string g.name, .slice B1 nn Bc1, .slice B2 ni Bc2, .slice B3 no Bc3, .slice B4 nt Bc4]] w (BolB true w) := by
  have hb0 : Below w.heap.size w ((w.alloc (.cells #[.string g.name, .slice A1 nn Ac1, .slice A2 ni Ac2, .slice A3 no Ac3, .slice A4 nt Ac4] 34)).alloc (.cells #[.string g.name, .slice B1 nn Bc1, .slice B2 ni Bc2, .slice B3 no Bc3, .slice B4 nt Bc4] 34)) := ((Below.refl _ _).alloc (Nat.le_refl _) _).alloc (by simp) _
  have hg1 := (Below.heap_alloc (w.alloc (.cells #[.string g.name, .slice A1 nn Ac1, .slice A2 ni Ac2, .slice A3 no Ac3, .slice A4 nt Ac4] 34)) (.cells #[.string g.name, .slice B1 nn Bc1, .slice B2 ni Bc2, .slice B3 no Bc3, .slice B4 nt Bc4] 34) w.heap.size (by simp)).trans (heap_alloc_new w (.cells #[.string g.name, .slice A1 nn Ac1, .slice A2 ni Ac2, .slice A3 no Ac3, .slice A4 nt Ac4] 34))
  have hg2 := heap_second w (.cells #[.string g.name, .slice A1 nn Ac1, .slice A2 ni Ac2, .slice A3 no Ac3, .slice A4 nt Ac4] 34) (.cells #[.string g.name, .slice B1 nn Bc1, .slice B2 ni Bc2, .slice B3 no Bc3, .slice B4 nt Bc4] 34) (w.heap.size + 1) rfl
  have z0 : ((w.alloc (.cells #[.string g.name, .slice A1 nn Ac1, .slice A2 ni Ac2, .slice A3 no Ac3, .slice A4 nt Ac4] 34)).alloc (.cells #[.string g.name, .slice B1 nn Bc1, .slice B2 ni Bc2, .slice B3 no Bc3, .slice B4 nt Bc4] 34)).heap.size = w.heap.size + 2 := by simp
  have kp : ∀ j k, Z k → (((w.alloc (.cells #[.string g.name, .slice A1 nn Ac1, .slice A2 ni Ac2, .slice A3 no Ac3, .slice A4 nt Ac4] 34)).alloc (.cells #[.string g.name, .slice B1 nn Bc1, .slice B2 ni Bc2, .slice B3 no Bc3, .slice B4 nt Bc4] 34)).drewN j).heap[k]? = w.heap[k]? := fun j k hk => hb0.block k (hZ k hk)
  have HV2 := Lib.hid (fun j => sameV_yes g.ins (((w.alloc (.cells #[.string g.name, .slice A1 nn Ac1, .slice A2 ni Ac2, .slice A3 no Ac3, .slice A4 nt Ac4] 34)).alloc (.cells #[.string g.name, .slice B1 nn Bc1, .slice B2 ni Bc2, .slice B3 no Bc3, .slice B4 nt Bc4] 34)).drewN j) Z A2 B2 ni Ac2 Bc2 (a2.keep (kp j) fun _ h => h) (b2.keep (kp j) fun _ h => h) (fun k hk => Nat.lt_of_lt_of_le (hZ k hk) hb0.size))
  have HV3 := Lib.hid (fun j => sameV_yes g.outs (((w.alloc (.cells #[.string g.name, .slice A1 nn Ac1, .slice A2 ni Ac2, .slice A3 no Ac3, .slice A4 nt Ac4] 34)).alloc (.cells #[.string g.name, .slice B1 nn Bc1, .slice B2 ni Bc2, .slice B3 no Bc3, .slice B4 nt Bc4] 34)).drewN j) Z A3 B3 no Ac3 Bc3 (a3.keep (kp j) fun _ h => h) (b3.keep (kp j) fun _ h => h) (fun k hk => Nat.lt_of_lt_of_le (hZ k hk) hb0.size))
  have HA1 := Lib.hid a1
  have HA4 := Lib.hid a4
  have HBb1 := Lib.hid b1
  have HBb4 := Lib.hid b4
  have HZ := Lib.hid hZ
  have HB0 := Lib.hid hb0
  have HG1 := Lib.hid hg1
  have HG2 := Lib.hid hg2
  have HZ0 := Lib.hid z0
  have i1 : (nn : Int) ≤ 9223372036854775807 := by have := a1.small; unfold maxLen at this; omega
  have i2 : (nt : Int) ≤ 9223372036854775807 := by have := a4.small; unfold maxLen at this; omega
  have x0 : ((w.alloc (.cells #[.string g.name, .slice A1 nn Ac1, .slice A2 ni Ac2, .slice A3 no Ac3, .slice A4 nt Ac4] 34)).alloc (.cells #[.string g.name, .slice B1 nn Bc1, .slice B2 ni Bc2, .slice B3 no Bc3, .slice B4 nt Bc4] 34)).cell? ⟨w.heap.size, 0, none⟩ = some (.string g.name) := cell_of_row _ _ 0 _ 34 (0, 0) hg1
  have x1 : ((w.alloc (.cells #[.string g.name, .slice A1 nn Ac1, .slice A2 ni Ac2, .slice A3 no Ac3, .slice A4 nt Ac4] 34)).alloc (.cells #[.string g.name, .slice B1 nn Bc1, .slice B2 ni Bc2, .slice B3 no Bc3, .slice B4 nt Bc4] 34)).cell? ⟨w.heap.size, 1, none⟩ = some (.slice A1 nn Ac1) := cell_of_row _ _ 1 _ 34 (0, 0) hg1
  have x2 : ((w.alloc (.cells #[.string g.name, .slice A1 nn Ac1, .slice A2 ni Ac2, .slice A3 no Ac3, .slice A4 nt Ac4] 34)).alloc (.cells #[.string g.name, .slice B1 nn Bc1, .slice B2 ni Bc2, .slice B3 no Bc3, .slice B4 nt Bc4] 34)).cell? ⟨w.heap.size, 2, none⟩ = some (.slice A2 ni Ac2) := cell_of_row _ _ 2 _ 34 (0, 0) hg1
  have x3 : ((w.alloc (.cells #[.string g.name, .slice A1 nn Ac1, .slice A2 ni Ac2, .slice A3 no Ac3, .slice A4 nt Ac4] 34)).alloc (.cells #[.string g.name, .slice B1 nn Bc1, .slice B2 ni Bc2, .slice B3 no Bc3, .slice B4 nt Bc4] 34)).cell? ⟨w.heap.size, 3, none⟩ = some (.slice A3 no Ac3) := cell_of_row _ _ 3 _ 34 (0, 0) hg1
  have x4 : ((w.alloc (.cells #[.string g.name, .slice A1 nn Ac1, .slice A2 ni Ac2, .slice A3 no Ac3, .slice A4 nt Ac4] 34)).alloc (.cells #[.string g.name, .slice B1 nn Bc1, .slice B2 ni Bc2, .slice B3 no Bc3, .slice B4 nt Bc4] 34)).cell? ⟨w.heap.size, 4, none⟩ = some (.slice A4 nt Ac4) := cell_of_row _ _ 4 _ 34 (0, 0) hg1
  have y0 : ((w.alloc (.cells #[.string g.name, .slice A1 nn Ac1, .slice A2 ni Ac2, .slice A3 no Ac3, .slice A4 nt Ac4] 34)).alloc (.cells #[.string g.name, .slice B1 nn Bc1, .slice B2 ni Bc2, .slice B3 no Bc3, .slice B4 nt Bc4] 34)).cell? ⟨w.heap.size + 1, 0, none⟩ = some (.string g.name) := cell_of_row _ _ 0 _ 34 (0, 0) hg2
  have y1 : ((w.alloc (.cells #[.string g.name, .slice A1 nn Ac1, .slice A2 ni Ac2, .slice A3 no Ac3, .slice A4 nt Ac4] 34)).alloc (.cells #[.string g.name, .slice B1 nn Bc1, .slice B2 ni Bc2, .slice B3 no Bc3, .slice B4 nt Bc4] 34)).cell? ⟨w.heap.size + 1, 1, none⟩ = some (.slice B1 nn Bc1) := cell_of_row _ _ 1 _ 34 (0, 0) hg2
  have y2 : ((w.alloc (.cells #[.string g.name, .slice A1 nn Ac1, .slice A2 ni Ac2, .slice A3 no Ac3, .slice A4 nt Ac4] 34)).alloc (.cells #[.string g.name, .slice B1 nn Bc1, .slice B2 ni Bc2, .slice B3 no Bc3, .slice B4 nt Bc4] 34)).cell? ⟨w.heap.size + 1, 2, none⟩ = some (.slice B2 ni Bc2) := cell_of_row _ _ 2 _ 34 (0, 0) hg2
  have y3 : ((w.alloc (.cells #[.string g.name, .slice A1 nn Ac1, .slice A2 ni Ac2, .slice A3 no Ac3, .slice A4 nt Ac4] 34)).alloc (.cells #[.string g.name, .slice B1 nn Bc1, .slice B2 ni Bc2, .slice B3 no Bc3, .slice B4 nt Bc4] 34)).cell? ⟨w.heap.size + 1, 3, none⟩ = some (.slice B3 no Bc3) := cell_of_row _ _ 3 _ 34 (0, 0) hg2
  have y4 : ((w.alloc (.cells #[.string g.name, .slice A1 nn Ac1, .slice A2 ni Ac2, .slice A3 no Ac3, .slice A4 nt Ac4] 34)).alloc (.cells #[.string g.name, .slice B1 nn Bc1, .slice B2 ni Bc2, .slice B3 no Bc3, .slice B4 nt Bc4] 34)).cell? ⟨w.heap.size + 1, 4, none⟩ = some (.slice B4 nt Bc4) := cell_of_row _ _ 4 _ 34 (0, 0) hg2
  clear hb0 hg1 hg2 a1 a2 a3 a4 b1 b2 b3 b4 hZ z0 kp
  go_enter Try.func11, Try.ntmps11
  go_wp2_with fail
  generalize ((w.alloc (.cells #[.string g.name, .slice A1 nn Ac1, .slice A2 ni Ac2, .slice A3 no Ac3, .slice A4 nt Ac4] 34)).alloc (.cells #[.string g.name, .slice B1 nn Bc1, .slice B2 ni Bc2, .slice B3 no Bc3, .slice B4 nt Bc4] 34)) = w0 at HB0 HG1 HG2 HZ0 HV2 HV3 x0 x1 x2 x3 x4 y0 y1 y2 y3 y4 ⊢
  refine (HV2.out 0).mono ?_
  rintro e w1 ⟨rfl, q1, rfl⟩
  go_wp2_with fail
  refine (HV3.out _).mono ?_
  rintro e w1 ⟨rfl, q2, rfl⟩
  (try rw [World.drewN_drewN])
  (try rw [Nat.zero_add])
  generalize q1 + q2 = q
  have HBq := Lib.hid (below_drewN HB0.out q)
  have vv1 : (w0.drewN q).cell? ⟨w.heap.size, 1, none⟩ = some (.slice A1 nn Ac1) := x1
  have uu1 : (w0.drewN q).cell? ⟨w.heap.size + 1, 1, none⟩ = some (.slice B1 nn Bc1) := y1
  have vv4 : (w0.drewN q).cell? ⟨w.heap.size, 4, none⟩ = some (.slice A4 nt Ac4) := x4
  have uu4 : (w0.drewN q).cell? ⟨w.heap.size + 1, 4, none⟩ = some (.slice B4 nt Bc4) := y4
  have HZq := Lib.hid (show (w0.drewN q).heap.size = w.heap.size + 2 from HZ0.out)
  clear x0 x1 x2 x3 x4 y0 y1 y2 y3 y4 HG1 HG2 HB0 HV2 HV3 HZ0
  generalize w0.drewN q = w1 at HBq HZq vv1 uu1 vv4 uu4 ⊢
  go_wp2_with fail
  go_loopw [5, 6] (fun i u6 wr => ∃ k : Nat, k ≤ nn ∧ i = .int .i64 k ∧ Below w1.heap.size w1 wr) (fun i _ _ => nn - (intOf i).toNat)
  case atStart => exact ⟨0, Nat.zero_le _, rfl, Below.refl _ _⟩
  case round =>
    obtain ⟨k, hk, rfl, hbw⟩ := hrel
    have Hbx := Lib.hid hbw
    have Hbw := Lib.hid (HBq.out.trans (hbw.mono HBq.out.size))
    have zr := hbw.size
    have zw : w.heap.size + 2 ≤ wr.heap.size := by have := HZq.out; omega
    have tt : wr.cell? ⟨w.heap.size, 1, none⟩ = some (.slice A1 nn Ac1) := (hbw.cell (by have := HZq.out; dsimp only; omega)).trans vv1
    have rr : wr.cell? ⟨w.heap.size + 1, 1, none⟩ = some (.slice B1 nn Bc1) := (hbw.cell (by have := HZq.out; dsimp only; omega)).trans uu1
    clear hbw
    by_cases hlt : k < nn
    · obtain ⟨bd, od, a, cs, hA, hbZ, hs, hR, hc⟩ := HA1.out.get hlt
      obtain ⟨bd', od', a', cs', hA', hbZ', hs', hR', hc'⟩ := HBb1.out.get hlt
      rw [hs] at hs'
      cases hs'
      obtain ⟨d, e, rfl, g1, g2⟩ := hR
      obtain ⟨C1, m1, k1, rfl, g1⟩ := g1
      obtain ⟨C2, m2, k2, rfl, g2⟩ := g2
      obtain ⟨d', e', rfl, g3, g4⟩ := hR'
      obtain ⟨C3, m3, k3, rfl, g3⟩ := g3
      obtain ⟨C4, m4, k4, rfl, g4⟩ := g4
      have q1 := g1.len
      have q2 := g2.len
      have q3 := g3.len
      have q4 := g4.len
      obtain rfl : m1 = m3 := by omega
      obtain rfl : m2 = m4 := by omega
      have d0 : wr.cell? ⟨bd, od + k * 5, none⟩ = some (.string a.op) := (Hbw.out.cell (p := ⟨bd, od + k * 5, none⟩) (by exact HZ.out _ hbZ)).trans (hc 0 (by decide))
      have d1 : wr.cell? ⟨bd, od + k * 5 + 1, none⟩ = some (.string a.name) := (Hbw.out.cell (p := ⟨bd, od + k * 5 + 1, none⟩) (by exact HZ.out _ hbZ)).trans (hc 1 (by decide))
      have d2 : wr.cell? ⟨bd, od + k * 5 + 2, none⟩ = some (.slice C1 m1 k1) := (Hbw.out.cell (p := ⟨bd, od + k * 5 + 2, none⟩) (by exact HZ.out _ hbZ)).trans (hc 2 (by decide))
      have d3 : wr.cell? ⟨bd, od + k * 5 + 3, none⟩ = some (.string a.out) := (Hbw.out.cell (p := ⟨bd, od + k * 5 + 3, none⟩) (by exact HZ.out _ hbZ)).trans (hc 3 (by decide))
      have d4 : wr.cell? ⟨bd, od + k * 5 + 4, none⟩ = some (.slice C2 m2 k2) := (Hbw.out.cell (p := ⟨bd, od + k * 5 + 4, none⟩) (by exact HZ.out _ hbZ)).trans (hc 4 (by decide))
      have e0 : wr.cell? ⟨bd', od' + k * 5, none⟩ = some (.string a.op) := (Hbw.out.cell (p := ⟨bd', od' + k * 5, none⟩) (by exact HZ.out _ hbZ')).trans (hc' 0 (by decide))
      have e1 : wr.cell? ⟨bd', od' + k * 5 + 1, none⟩ = some (.string a.name) := (Hbw.out.cell (p := ⟨bd', od' + k * 5 + 1, none⟩) (by exact HZ.out _ hbZ')).trans (hc' 1 (by decide))
      have e2 : wr.cell? ⟨bd', od' + k * 5 + 2, none⟩ = some (.slice C3 m1 k3) := (Hbw.out.cell (p := ⟨bd', od' + k * 5 + 2, none⟩) (by exact HZ.out _ hbZ')).trans (hc' 2 (by decide))
      have e3 : wr.cell? ⟨bd', od' + k * 5 + 3, none⟩ = some (.string a.out) := (Hbw.out.cell (p := ⟨bd', od' + k * 5 + 3, none⟩) (by exact HZ.out _ hbZ')).trans (hc' 3 (by decide))
      have e4 : wr.cell? ⟨bd', od' + k * 5 + 4, none⟩ = some (.slice C4 m2 k4) := (Hbw.out.cell (p := ⟨bd', od' + k * 5 + 4, none⟩) (by exact HZ.out _ hbZ')).trans (hc' 4 (by decide))
      subst hA
      subst hA'
      have kp : ∀ k, Z k → (wr.drewN 1).heap[k]? = w.heap[k]? := fun k hk => Hbw.out.block k (HZ.out k hk)
      have HC := Lib.hid (sameN_yes a (wr.drewN 1) Z C1 C2 C3 C4 m1 k1 m2 k2 k3 k4 (g1.keep kp fun _ h => h) (g2.keep kp fun _ h => h) (g3.keep kp fun _ h => h) (g4.keep kp fun _ h => h) (fun k hk => Nat.lt_of_lt_of_le (HZ.out k hk) Hbw.out.size))
      clear hs hc hc' g1 g2 g3 g4 kp q1 q2 q3 q4
      go_wp2_with fail
      first | (go_region_law (first
        | (go_simp; go_at_call 26; refine HC.out.mono ?_; rintro e w5 ⟨rfl, hb5⟩; have Hb5 := Lib.hid (Hbx.out.trans ((below_drewN (Below.refl _ _) 1).trans (hb5.mono zr))); clear hb5; dsimp only))) | fail
      all_goals
        go_wp2_with fail
        go_roundw
        case rel => exact ⟨k + 1, by omega, by go_num, Hb5.out⟩
        case measure => simp [intOf]; omega
    · obtain rfl : k = nn := by omega
      have tt4 : wr.cell? ⟨w.heap.size, 4, none⟩ = some (.slice A4 nt Ac4) := (Hbx.out.cell (by have := HZq.out; dsimp only; omega)).trans vv4
      have rr4 : wr.cell? ⟨w.heap.size + 1, 4, none⟩ = some (.slice B4 nt Bc4) := (Hbx.out.cell (by have := HZq.out; dsimp only; omega)).trans uu4
      go_wp2_with fail
      go_loopw [7] (fun i wx => ∃ k : Nat, k ≤ nt ∧ i = .int .i64 k ∧ Below w1.heap.size w1 wx) (fun i _ => nt - (intOf i).toNat)
      case atStart => exact ⟨0, Nat.zero_le _, rfl, Hbx.out⟩
      case round =>
        obtain ⟨k, hk, rfl, hbw⟩ := hrel
        have Hbx := Lib.hid hbw
        have Hbw := Lib.hid (HBq.out.trans (hbw.mono HBq.out.size))
        have zr := hbw.size
        have zw : w.heap.size + 2 ≤ wr.heap.size := by have := HZq.out; omega
        have tt : wr.cell? ⟨w.heap.size, 4, none⟩ = some (.slice A4 nt Ac4) := (hbw.cell (by have := HZq.out; dsimp only; omega)).trans vv4
        have rr : wr.cell? ⟨w.heap.size + 1, 4, none⟩ = some (.slice B4 nt Bc4) := (hbw.cell (by have := HZq.out; dsimp only; omega)).trans uu4
        clear hbw
        by_cases hlt : k < nt
        · obtain ⟨bd, od, a, cs, hA, hbZ, hs, hR, hc⟩ := HA4.out.get hlt
          obtain ⟨bd', od', a', cs', hA', hbZ', hs', hR', hc'⟩ := HBb4.out.get hlt
          rw [hs] at hs'
          cases hs'
          obtain ⟨d, e, rfl, g1, g2⟩ := hR
          obtain ⟨C1, m1, k1, rfl, g1⟩ := g1
          obtain ⟨C2, m2, k2, rfl, g2⟩ := g2
          obtain ⟨d', e', rfl, g3, g4⟩ := hR'
          obtain ⟨C3, m3, k3, rfl, g3⟩ := g3
          obtain ⟨C4, m4, k4, rfl, g4⟩ := g4
          have d0 : wr.cell? ⟨bd, od + k * 4, none⟩ = some (.string a.name) := (Hbw.out.cell (p := ⟨bd, od + k * 4, none⟩) (by exact HZ.out _ hbZ)).trans (hc 0 (by decide))
          have d1 : wr.cell? ⟨bd, od + k * 4 + 1, none⟩ = some (.int .i64 a.t.typ) := (Hbw.out.cell (p := ⟨bd, od + k * 4 + 1, none⟩) (by exact HZ.out _ hbZ)).trans (hc 1 (by decide))
          have d2 : wr.cell? ⟨bd, od + k * 4 + 2, none⟩ = some (.slice C1 m1 k1) := (Hbw.out.cell (p := ⟨bd, od + k * 4 + 2, none⟩) (by exact HZ.out _ hbZ)).trans (hc 2 (by decide))
          have d3 : wr.cell? ⟨bd, od + k * 4 + 3, none⟩ = some (.slice C2 m2 k2) := (Hbw.out.cell (p := ⟨bd, od + k * 4 + 3, none⟩) (by exact HZ.out _ hbZ)).trans (hc 3 (by decide))
          have e0 : wr.cell? ⟨bd', od' + k * 4, none⟩ = some (.string a.name) := (Hbw.out.cell (p := ⟨bd', od' + k * 4, none⟩) (by exact HZ.out _ hbZ')).trans (hc' 0 (by decide))
          have e1 : wr.cell? ⟨bd', od' + k * 4 + 1, none⟩ = some (.int .i64 a.t.typ) := (Hbw.out.cell (p := ⟨bd', od' + k * 4 + 1, none⟩) (by exact HZ.out _ hbZ')).trans (hc' 1 (by decide))
          have e2 : wr.cell? ⟨bd', od' + k * 4 + 2, none⟩ = some (.slice C3 m3 k3) := (Hbw.out.cell (p := ⟨bd', od' + k * 4 + 2, none⟩) (by exact HZ.out _ hbZ')).trans (hc' 2 (by decide))
          have e3 : wr.cell? ⟨bd', od' + k * 4 + 3, none⟩ = some (.slice C4 m4 k4) := (Hbw.out.cell (p := ⟨bd', od' + k * 4 + 3, none⟩) (by exact HZ.out _ hbZ')).trans (hc' 3 (by decide))
          subst hA
          subst hA'
          have zb := HZ.out _ hbZ
          have zb' := HZ.out _ hbZ'
          have hbd := below_drewN Hbw.out 1
          have HC := Lib.hid (sameT_any a.t a.t (wr.drewN 1) w.heap.size C1 C2 C3 C4 m1 k1 m2 k2 m3 k3 m4 k4 ((slc_ints g1 HZ.out).below hbd (Nat.le_refl _)) ((slc_ints g2 HZ.out).below hbd (Nat.le_refl _)) ((slc_ints g3 HZ.out).below hbd (Nat.le_refl _)) ((slc_ints g4 HZ.out).below hbd (Nat.le_refl _)) Hbw.out.size)
          rw [sameT_self] at HC
          clear hs hc hc' g1 g2 g3 g4 hbd
          go_wp2_with fail
          go_region_held3 (fun W => W.cell? ⟨w.heap.size, 4, none⟩ = some (.slice (some ⟨bd, od, none⟩) nt Ac4) ∧ W.cell? ⟨w.heap.size + 1, 4, none⟩ = some (.slice (some ⟨bd', od', none⟩) nt Bc4) ∧ W.cell? ⟨bd, od + k * 4, none⟩ = some (.string a.name) ∧ W.cell? ⟨bd, od + k * 4 + 1, none⟩ = some (.int .i64 a.t.typ) ∧ W.cell? ⟨bd, od + k * 4 + 2, none⟩ = some (.slice C1 m1 k1) ∧ W.cell? ⟨bd, od + k * 4 + 3, none⟩ = some (.slice C2 m2 k2) ∧ W.cell? ⟨bd', od' + k * 4, none⟩ = some (.string a.name) ∧ W.cell? ⟨bd', od' + k * 4 + 1, none⟩ = some (.int .i64 a.t.typ) ∧ W.cell? ⟨bd', od' + k * 4 + 2, none⟩ = some (.slice C3 m3 k3) ∧ W.cell? ⟨bd', od' + k * 4 + 3, none⟩ = some (.slice C4 m4 k4)) (first | exact ⟨tt, rr, d0, d1, d2, d3, e0, e1, e2, e3⟩ | exact ⟨jtt, jrr, jd0, jd1, jd2, jd3, je0, je1, je2, je3⟩ | go_keep)
            (first | (go_at_call 27; refine HC.out.mono ?_; rintro e w5 ⟨rfl, hb5⟩; have jtt := (hb5.cell (p := ⟨w.heap.size, 4, none⟩) (by show (_ : Nat) < wr.heap.size; dsimp only; omega)).trans tt; have jrr := (hb5.cell (p := ⟨w.heap.size + 1, 4, none⟩) (by show (_ : Nat) < wr.heap.size; dsimp only; omega)).trans rr; have jd0 := (hb5.cell (p := ⟨bd, od + k * 4, none⟩) (by show (_ : Nat) < wr.heap.size; dsimp only; omega)).trans d0; have jd1 := (hb5.cell (p := ⟨bd, od + k * 4 + 1, none⟩) (by show (_ : Nat) < wr.heap.size; dsimp only; omega)).trans d1; have jd2 := (hb5.cell (p := ⟨bd, od + k * 4 + 2, none⟩) (by show (_ : Nat) < wr.heap.size; dsimp only; omega)).trans d2; have jd3 := (hb5.cell (p := ⟨bd, od + k * 4 + 3, none⟩) (by show (_ : Nat) < wr.heap.size; dsimp only; omega)).trans d3; have je0 := (hb5.cell (p := ⟨bd', od' + k * 4, none⟩) (by show (_ : Nat) < wr.heap.size; dsimp only; omega)).trans e0; have je1 := (hb5.cell (p := ⟨bd', od' + k * 4 + 1, none⟩) (by show (_ : Nat) < wr.heap.size; dsimp only; omega)).trans e1; have je2 := (hb5.cell (p := ⟨bd', od' + k * 4 + 2, none⟩) (by show (_ : Nat) < wr.heap.size; dsimp only; omega)).trans e2; have je3 := (hb5.cell (p := ⟨bd', od' + k * 4 + 3, none⟩) (by show (_ : Nat) < wr.heap.size; dsimp only; omega)).trans e3; have Hb5 := Lib.hid (Hbx.out.trans ((below_drewN (Below.refl _ _) 1).trans (hb5.mono zr))); clear hb5))
          all_goals
            go_wp2_with fail
            go_roundw
            case rel => exact ⟨k + 1, by omega, by go_num, Hb5.out⟩
            case measure => simp [intOf]; omega
        · obtain rfl : k = nt := by omega
          go_wp2
          go_ret
          exact bolB_ret Hbw.out rfl
end Go.Proofs.Ytkcnpnnflbibiaa
