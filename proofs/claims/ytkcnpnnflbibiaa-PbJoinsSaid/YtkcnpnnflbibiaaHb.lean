/- Copies: values. -/
import Derived.Test.YtkcnpnnflbibiaaHa
import Derived.Deep.RegionHeld3
set_option linter.unusedVariables false
namespace Go.Proofs.Ytkcnpnnflbibiaa
open Go.RowKit

/-- What a copy of a list leaves: a list of the call's own. -/
def LstIs {α : Type} (ρ : Rep α) (ty : TypeId) (l : List α) (w : World) (e : Ending) (w' : World) : Prop := ∃ A c lab, e = .returned (.slice A l.length c) ∧ OL ρ ty lab 1 w' w.heap.size (.slice A l.length c) l ∧ Fresh lab w' ∧ (∀ k, k < w.heap.size → lab k = 0) ∧ Below w.heap.size w w'
set_option maxRecDepth 100000 in
set_option maxHeartbeats 3200000 in
theorem copyV_any (l : List Vl) (w : World) (Z : Nat → Prop) (A : Option Addr) (n c : Nat) (h : Slc repVl w Z A n l) (hZ : ∀ k, Z k → k < w.heap.size) (hl : l.length ≤ 16777216) (hd : ∀ v ∈ l, v.dims.length * 8 ≤ 140737488351232) :
    Calls Try.prog 28 #[.slice A n c] w (LstIs repVl 81 l w) := by
  obtain ⟨i81, hi81, hz810, hz811, hz812⟩ := info_parts Try.info81
  have HI81 := Lib.hid (show _ ∧ _ ∧ _ ∧ _ from ⟨hi81, hz810, hz811, hz812⟩)
  have H := Lib.hid h
  have HZ := Lib.hid hZ
  have HD := Lib.hid hd
  have Ln := Lib.hid h.len
  have hl2 := hl
  rw [h.len] at hl
  have hn : (n : Int) ≤ 9223372036854775807 := by omega
  have HC0 := Lib.hid (CInv.start repVl 81 w)
  clear h hZ hd hi81 hz810 hz811 hz812
  go_enter Try.func28, Try.ntmps28
  go_wp2_with fail
  go_loopw [3, 4] (fun v3 i wr => ∃ k : Nat, k ≤ n ∧ i = .int .i64 k ∧ ∃ lab, CInv repVl 81 w wr v3 (l.take k) lab) (fun _ i _ => n - (intOf i).toNat)
  case atStart => exact ⟨0, Nat.zero_le _, rfl, _, HC0.out⟩
  case round =>
    obtain ⟨k, hk, rfl, lab, hinv⟩ := hrel
    rename_i v3 _
    have HV := Lib.hid hinv
    have zr := hinv.below.size
    obtain ⟨A3, c3, h3⟩ := hinv.own.form
    have hlk : (l.take k).length = k := by rw [List.length_take]; have := Ln.out; omega
    rw [hlk] at h3
    subst h3
    have hlt3 : k ≤ 33554432 := by omega
    have HLK := Lib.hid hlk
    clear hlk
    clear hinv
    by_cases hlt : k < n
    · obtain ⟨bd, od, a, cs, hA, hbZ, hs, hR, hc⟩ := H.out.get hlt
      obtain ⟨d, rfl, g1⟩ := hR
      obtain ⟨B1, m1, k1, rfl, g1⟩ := g1
      have hbl := HZ.out _ hbZ
      have Ht := Lib.hid (show l.take k ++ [a] = l.take (k + 1) by rw [List.take_add_one, hs]; rfl)
      have hdm := HD.out a (List.mem_of_getElem? hs)
      rw [g1.len] at hdm
      have d0 : wr.cell? ⟨bd, od + k * 3, none⟩ = some (.string a.name) := (HV.out.below.cell (p := ⟨bd, od + k * 3, none⟩) (by exact hbl)).trans (hc 0 (by decide))
      have d1 : wr.cell? ⟨bd, od + k * 3 + 1, none⟩ = some (.int .i64 a.typ) := (HV.out.below.cell (p := ⟨bd, od + k * 3 + 1, none⟩) (by exact hbl)).trans (hc 1 (by decide))
      have d2 : wr.cell? ⟨bd, od + k * 3 + 2, none⟩ = some (.slice B1 m1 k1) := (HV.out.below.cell (p := ⟨bd, od + k * 3 + 2, none⟩) (by exact hbl)).trans (hc 2 (by decide))
      subst hA
      have hwd : Below wr.heap.size wr (wr.drewN 1) := below_drewN (Below.refl _ _) 1
      have HC := Lib.hid (copy_any (wr.drewN 1) w.heap.size B1 m1 k1 a.dims ((slc_ints g1 HZ.out).below (HV.out.later hwd).below (Nat.le_refl _)) hdm)
      have HVd := Lib.hid (HV.out.later hwd)
      have zr1 : bd < wr.heap.size := by omega
      clear hs hc g1 hdm hwd
      go_wp2_with fail
      go_region_held3 (fun W => W.cell? ⟨bd, od + k * 3, none⟩ = some (.string a.name) ∧ W.cell? ⟨bd, od + k * 3 + 1, none⟩ = some (.int .i64 a.typ) ∧ W.cell? ⟨bd, od + k * 3 + 2, none⟩ = some (.slice B1 m1 k1)) (first | exact ⟨d0, d1, d2⟩ | exact ⟨j0, j1, j2⟩ | exact ⟨q0, q1, q2⟩ | go_keep)
        (first
          | (go_at_call 61; refine HC.out.mono ?_; rintro e wa ⟨v9, rfl, hown, hba⟩; obtain ⟨A9, c9, hv9, hs9⟩ := own_isSlc3 hown; subst hv9; have j0 := (hba.cell (p := ⟨bd, od + k * 3, none⟩) (by exact zr1)).trans d0; have j1 := (hba.cell (p := ⟨bd, od + k * 3 + 1, none⟩) (by exact zr1)).trans d1; have j2 := (hba.cell (p := ⟨bd, od + k * 3 + 2, none⟩) (by exact zr1)).trans d2; have za : wr.heap.size ≤ wa.heap.size := hba.size; have HVa := Lib.hid (HVd.out.later hba); have HRa := Lib.hid (rep_made (ρ := repVl) (w := wr) (lab := lab) (lo := w.heap.size) (cs := [.string a.name, .int .i64 a.typ, .slice A9 a.dims.length c9]) (x := a) (⟨_, rfl, ⟨_, _, _, rfl, hs9⟩⟩) HV.out.fr zr); clear hba hown hs9)
          | (refine step_append_o wa repVl a [.string a.name, .int .i64 a.typ, .slice A9 a.dims.length c9] (by rfl) (.tmp 11) (.tmp 29) 31 (by rfl) 81 i81 _ 48 Try.underlying31 HI81.out.1 HI81.out.2.1 HI81.out.2.2.1 HI81.out.2.2.2 rfl (by decide) (by decide) lab 1 (by decide) w.heap.size (.slice A3 k c3) (l.take k) (by rfl) HVa.out.own HVa.out.fr HRa.out wa.heap.size rfl (by rfl) (by first | (rw [HLK.out]; omega) | omega) (by first | (rw [HLK.out]; omega) | omega) ?_; intro v' w7 lab' ho7 hg7; obtain ⟨Aw, mw, cw, hvw⟩ : ∃ A m c, v' = .slice A m c := (by obtain ⟨A, c, e⟩ := OL.form ho7; exact ⟨A, _, c, e⟩); subst hvw; have hkp := hg7.keep bd (by omega) (by rw [HVa.out.low bd hbl]; decide); have q0 := (World.cell?_of_block (a := ⟨bd, od + k * 3, none⟩) hkp).trans j0; have q1 := (World.cell?_of_block (a := ⟨bd, od + k * 3 + 1, none⟩) hkp).trans j1; have q2 := (World.cell?_of_block (a := ⟨bd, od + k * 3 + 2, none⟩) hkp).trans j2; have HV7 := Lib.hid (HVa.out.more hg7 (Ht.out ▸ ho7)); clear ho7 hg7 hkp))
      all_goals
        go_wp2_with fail
        go_roundw
        case rel => exact ⟨k + 1, by omega, by go_num, _, HV7.out⟩
        case measure => simp [intOf]; omega
    · obtain rfl : k = n := by omega
      have hall : l.take k = l := by rw [← Ln.out, List.take_length]
      have Hf := Lib.hid (show LstIs repVl 81 l w (.returned (.slice A3 k c3)) wr from by
        have e6 := Ln.out
        have h7 := HV.out
        rw [hall] at h7
        refine ⟨A3, c3, lab, by rw [e6], ?_, h7.fr, h7.low, h7.below⟩
        rw [e6]
        exact h7.own)
      clear hall
      go_wp2
      go_ret
      exact Hf.out
end Go.Proofs.Ytkcnpnnflbibiaa
