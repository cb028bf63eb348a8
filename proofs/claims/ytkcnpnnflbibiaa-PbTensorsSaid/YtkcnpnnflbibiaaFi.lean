/- The walks: whether any tensor may be. -/
import Derived.Test.YtkcnpnnflbibiaaFh
import Derived.Test.YtkcnpnnflbibiaaZn
set_option linter.unusedVariables false
namespace Go.Proofs.Ytkcnpnnflbibiaa
open Go.RowKit

set_option maxRecDepth 100000 in
set_option maxHeartbeats 3200000 in
theorem tensors_law (t : Tn) (w : World) (B : Nat) (A A' : Option Addr) (n c n' c' : Nat) (hd : Ints w B A n t.dims) (he : Ints w B A' n' t.data) (hB : B ≤ w.heap.size) :
    Calls Try.prog 5 #[.agg #[.int .i64 t.typ, .slice A n c, .slice A' n' c']] w (BolB true w) := by
  have hb0 : Below w.heap.size w (w.alloc (.cells #[.int .i64 t.typ, .slice A n c, .slice A' n' c'] 47)) := (Below.refl _ _).alloc (Nat.le_refl _) _
  have hg := heap_alloc_new w (.cells #[.int .i64 t.typ, .slice A n c, .slice A' n' c'] 47)
  have HC := Lib.hid (fun W (hb : Below w.heap.size w W) => check_any t W w.heap.size A A' n c n' c' (hd.below (hb.mono hB) hB) (he.below (hb.mono hB) hB) hb.size)
  have HR := Lib.hid (fun W (hb : Below w.heap.size w W) => rcheck_any t W w.heap.size A A' n c n' c' (hd.below (hb.mono hB) hB) (he.below (hb.mono hB) hB) hb.size)
  have HL := Lib.hid live_any
  have wl : w.heap.size < (w.alloc (.cells #[.int .i64 t.typ, .slice A n c, .slice A' n' c'] 47)).heap.size := by simp
  have HB0 := Lib.hid hb0
  have x0 : (w.alloc (.cells #[.int .i64 t.typ, .slice A n c, .slice A' n' c'] 47)).cell? ⟨w.heap.size, 0, none⟩ = some (.int .i64 t.typ) := cell_of_row _ _ 0 _ 47 (0, 0) hg
  have x1 : (w.alloc (.cells #[.int .i64 t.typ, .slice A n c, .slice A' n' c'] 47)).cell? ⟨w.heap.size, 1, none⟩ = some (.slice A n c) := cell_of_row _ _ 1 _ 47 (0, 0) hg
  have x2 : (w.alloc (.cells #[.int .i64 t.typ, .slice A n c, .slice A' n' c'] 47)).cell? ⟨w.heap.size, 2, none⟩ = some (.slice A' n' c') := cell_of_row _ _ 2 _ 47 (0, 0) hg
  clear hb0 hg hd he
  go_enter Try.func5, Try.ntmps5
  go_wp2_with fail
  generalize w.alloc (.cells #[.int .i64 t.typ, .slice A n c, .slice A' n' c'] 47) = W at HB0 wl x0 x1 x2 ⊢
  have HBW := Lib.hid (below_drewN HB0.out 1)
  have Wd : Below W.heap.size W (W.drewN 1) := below_drewN (Below.refl _ _) 1
  have HWd := Lib.hid Wd
  clear Wd
  go_region_held3 (fun V => V.cell? ⟨w.heap.size, 0, none⟩ = some (.int .i64 t.typ) ∧ V.cell? ⟨w.heap.size, 1, none⟩ = some (.slice A n c) ∧ V.cell? ⟨w.heap.size, 2, none⟩ = some (.slice A' n' c')) (first | exact ⟨x0, x1, x2⟩ | exact ⟨j0, j1, j2⟩ | exact ⟨k0, k1, k2⟩ | exact ⟨l0, l1, l2⟩ | go_keep)
    (first
      | (go_at_call 15; refine (HC.out _ HBW.out).mono ?_; rintro e wa ⟨rfl, hba⟩; have j0 := (hba.cell (p := ⟨w.heap.size, 0, none⟩) (by exact wl)).trans x0; have j1 := (hba.cell (p := ⟨w.heap.size, 1, none⟩) (by exact wl)).trans x1; have j2 := (hba.cell (p := ⟨w.heap.size, 2, none⟩) (by exact wl)).trans x2; have Hba := Lib.hid (HBW.out.trans (hba.mono HBW.out.size)); have wla : w.heap.size < wa.heap.size := Nat.lt_of_lt_of_le wl hba.size; clear hba)
      | (go_at_call 16; refine (HR.out _ HBW.out).mono ?_; rintro e wa ⟨rfl, hba⟩; have j0 := (hba.cell (p := ⟨w.heap.size, 0, none⟩) (by exact wl)).trans x0; have j1 := (hba.cell (p := ⟨w.heap.size, 1, none⟩) (by exact wl)).trans x1; have j2 := (hba.cell (p := ⟨w.heap.size, 2, none⟩) (by exact wl)).trans x2; have Hba := Lib.hid (HBW.out.trans (hba.mono HBW.out.size)); have wla : w.heap.size < wa.heap.size := Nat.lt_of_lt_of_le wl hba.size; clear hba)
      | (go_at_call 15; refine (HC.out _ Hba.out).mono ?_; rintro e wb ⟨rfl, hbb⟩; have k0 := (hbb.cell (p := ⟨w.heap.size, 0, none⟩) (by exact wla)).trans j0; have k1 := (hbb.cell (p := ⟨w.heap.size, 1, none⟩) (by exact wla)).trans j1; have k2 := (hbb.cell (p := ⟨w.heap.size, 2, none⟩) (by exact wla)).trans j2; have Hbb := Lib.hid (Hba.out.trans (hbb.mono Hba.out.size)); have wlb : w.heap.size < wb.heap.size := Nat.lt_of_lt_of_le wla hbb.size; clear hbb)
      | (go_at_call 16; refine (HR.out _ Hba.out).mono ?_; rintro e wb ⟨rfl, hbb⟩; have k0 := (hbb.cell (p := ⟨w.heap.size, 0, none⟩) (by exact wla)).trans j0; have k1 := (hbb.cell (p := ⟨w.heap.size, 1, none⟩) (by exact wla)).trans j1; have k2 := (hbb.cell (p := ⟨w.heap.size, 2, none⟩) (by exact wla)).trans j2; have Hbb := Lib.hid (Hba.out.trans (hbb.mono Hba.out.size)); have wlb : w.heap.size < wb.heap.size := Nat.lt_of_lt_of_le wla hbb.size; clear hbb)
      | (go_at_call 7; refine (HL.out _).mono ?_; rintro e wc ⟨rfl, hbc⟩; have l0 := (hbc.cell (p := ⟨w.heap.size, 0, none⟩) (by exact wlb)).trans k0; have l1 := (hbc.cell (p := ⟨w.heap.size, 1, none⟩) (by exact wlb)).trans k1; have l2 := (hbc.cell (p := ⟨w.heap.size, 2, none⟩) (by exact wlb)).trans k2; have Hbc := Lib.hid (Hbb.out.trans (hbc.mono Hbb.out.size)); clear hbc))
  all_goals
    go_wp2
    go_ret
    exact bolB_ret Hbc.out rfl
end Go.Proofs.Ytkcnpnnflbibiaa
