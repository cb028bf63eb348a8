/- The walks: values that are the same; graphs that are the same. -/
import Derived.Test.YtkcnpnnflbibiaaFc
set_option linter.unusedVariables false
namespace Go.Proofs.Ytkcnpnnflbibiaa
open Go.RowKit

set_option maxRecDepth 100000 in
set_option maxHeartbeats 3200000 in
theorem sameV_yes (l : List Vl) (w : World) (Z : Nat → Prop) (A1 A2 : Option Addr) (n c1 c2 : Nat) (h1 : Slc repVl w Z A1 n l) (h2 : Slc repVl w Z A2 n l) (hZ : ∀ k, Z k → k < w.heap.size) :
    Calls Try.prog 25 #[.slice A1 n c1, .slice A2 n c2] w fun e w' => e = .returned (.bool true) ∧ Dn w w' := by
  have H1 := Lib.hid h1
  have H2 := Lib.hid h2
  have HZ := Lib.hid hZ
  have i1 : (n : Int) ≤ 9223372036854775807 := by have := h1.small; unfold maxLen at this; omega
  clear h1 h2 hZ
  go_enter Try.func25, Try.ntmps25
  go_wp2_with fail
  go_loopw [5] (fun i wr => ∃ k : Nat, k ≤ n ∧ i = .int .i64 k ∧ Dn w wr) (fun i _ => n - (intOf i).toNat)
  case atStart => exact ⟨0, Nat.zero_le _, rfl, 0, rfl⟩
  case round =>
    obtain ⟨k, hk, rfl, hdn⟩ := hrel
    have Hdn := Lib.hid hdn
    have hbw := hdn.below w.heap.size
    have Hbw := Lib.hid hbw
    clear hdn hbw
    by_cases hlt : k < n
    · obtain ⟨bd, od, a, cs, hA, hbZ, hs, hR, hc⟩ := H1.out.get hlt
      obtain ⟨bd', od', a', cs', hA', hbZ', hs', hR', hc'⟩ := H2.out.get hlt
      rw [hs] at hs'
      cases hs'
      obtain ⟨d, rfl, g1⟩ := hR
      obtain ⟨B1, m1, k1, rfl, g1⟩ := g1
      obtain ⟨d', rfl, g4⟩ := hR'
      obtain ⟨B4, m4, k4, rfl, g4⟩ := g4
      have d0 : wr.cell? ⟨bd, od + k * 3, none⟩ = some (.string a.name) := (Hbw.out.cell (p := ⟨bd, od + k * 3, none⟩) (by exact HZ.out _ hbZ)).trans (hc 0 (by decide))
      have d1 : wr.cell? ⟨bd, od + k * 3 + 1, none⟩ = some (.int .i64 a.typ) := (Hbw.out.cell (p := ⟨bd, od + k * 3 + 1, none⟩) (by exact HZ.out _ hbZ)).trans (hc 1 (by decide))
      have d2 : wr.cell? ⟨bd, od + k * 3 + 2, none⟩ = some (.slice B1 m1 k1) := (Hbw.out.cell (p := ⟨bd, od + k * 3 + 2, none⟩) (by exact HZ.out _ hbZ)).trans (hc 2 (by decide))
      have e0 : wr.cell? ⟨bd', od' + k * 3, none⟩ = some (.string a.name) := (Hbw.out.cell (p := ⟨bd', od' + k * 3, none⟩) (by exact HZ.out _ hbZ')).trans (hc' 0 (by decide))
      have e1 : wr.cell? ⟨bd', od' + k * 3 + 1, none⟩ = some (.int .i64 a.typ) := (Hbw.out.cell (p := ⟨bd', od' + k * 3 + 1, none⟩) (by exact HZ.out _ hbZ')).trans (hc' 1 (by decide))
      have e2 : wr.cell? ⟨bd', od' + k * 3 + 2, none⟩ = some (.slice B4 m4 k4) := (Hbw.out.cell (p := ⟨bd', od' + k * 3 + 2, none⟩) (by exact HZ.out _ hbZ')).trans (hc' 2 (by decide))
      subst hA
      subst hA'
      have HC := Lib.hid (fun j => same_any (wr.drewN j) w.heap.size w.heap.size B1 B4 m1 k1 m4 k4 a.dims a.dims (((slc_ints g1 HZ.out).below Hbw.out (Nat.le_refl _)).drewN j) (((slc_ints g4 HZ.out).below Hbw.out (Nat.le_refl _)).drewN j) true (by simp))
      clear hs hc hc' g1 g4
      go_wp2_with fail
      go_quiet ((go_at_call 59; exact Calls.quiet_of (HC.out _)))
      go_wp2
      go_roundw
      case rel => exact ⟨k + 1, by omega, by go_num, Hdn.out.drewN _⟩
      case measure => simp [intOf]; omega
    · obtain rfl : k = n := by omega
      go_wp2
      go_ret
      exact ⟨rfl, Hdn.out⟩
end Go.Proofs.Ytkcnpnnflbibiaa
