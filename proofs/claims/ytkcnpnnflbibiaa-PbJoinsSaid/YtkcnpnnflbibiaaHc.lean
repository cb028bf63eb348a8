/- Copies: tensors. -/
import Derived.Test.YtkcnpnnflbibiaaHb
import Derived.Test.YtkcnpnnflbibiaaZh
set_option linter.unusedVariables false
namespace Go.Proofs.Ytkcnpnnflbibiaa
open Go.RowKit

/-- What a copy of a tensor leaves. -/
def TenIs (t : Tn) (w : World) (e : Ending) (w' : World) : Prop := ∃ A1 c1 A2 c2, e = .returned (.agg #[.int .i64 t.typ, .slice A1 t.dims.length c1, .slice A2 t.data.length c2]) ∧ Slc repInt w' (New w.heap.size w') A1 t.dims.length t.dims ∧ Slc repInt w' (New w.heap.size w') A2 t.data.length t.data ∧ Below w.heap.size w w'
/-- Behind the dimensions' copy. -/
structure CT (w wx : World) (t : Tn) (A2 : Option Addr) (n2 c2 : Nat) (g : Nat) (A9 : Option Addr) (c9 : Nat) : Prop where
  below : Below w.heap.size w wx
  row : wx.heap[g]? = some (.cells #[.int .i64 t.typ, .slice A9 t.dims.length c9, .slice none 0 0] 47 (0, 0))
  res : wx.heap[w.heap.size + 1]? = some (.cells #[.int .i64 0, .slice none 0 0, .slice none 0 0] 47 (0, 0))
  src : wx.cell? ⟨w.heap.size, 2, none⟩ = some (.slice A2 n2 c2)
  dims : Slc repInt wx (fun k => w.heap.size ≤ k ∧ k ≠ g ∧ k ≠ w.heap.size + 1 ∧ k < wx.heap.size) A9 t.dims.length t.dims
  low : w.heap.size + 1 < g
set_option maxRecDepth 100000 in
set_option maxHeartbeats 3200000 in
theorem copyT_any (t : Tn) (w : World) (Z : Nat → Prop) (A1 A2 : Option Addr) (n1 c1 n2 c2 : Nat) (h1 : Slc repInt w Z A1 n1 t.dims) (h2 : Slc repInt w Z A2 n2 t.data) (hZ : ∀ k, Z k → k < w.heap.size) (z1 : n1 * 8 ≤ 140737488351232) (z2 : n2 * 8 ≤ 140737488351232) :
    Calls Try.prog 30 #[.agg #[.int .i64 t.typ, .slice A1 n1 c1, .slice A2 n2 c2]] w (TenIs t w) := by
  obtain ⟨i2, hi2, hz20, hz21, hz22⟩ := info_parts Try.info2
  have HI2 := Lib.hid (show _ ∧ _ ∧ _ ∧ _ from ⟨hi2, hz20, hz21, hz22⟩)
  have hb0 : Below w.heap.size w ((w.alloc (.cells #[.int .i64 t.typ, .slice A1 n1 c1, .slice A2 n2 c2] 47)).alloc (.cells #[.int .i64 0, .slice none 0 0, .slice none 0 0] 47)) := ((Below.refl _ _).alloc (Nat.le_refl _) _).alloc (by simp) _
  have hg1 := (Below.heap_alloc (w.alloc (.cells #[.int .i64 t.typ, .slice A1 n1 c1, .slice A2 n2 c2] 47)) (.cells #[.int .i64 0, .slice none 0 0, .slice none 0 0] 47) w.heap.size (by simp)).trans (heap_alloc_new w (.cells #[.int .i64 t.typ, .slice A1 n1 c1, .slice A2 n2 c2] 47))
  have hg2 := heap_second w (.cells #[.int .i64 t.typ, .slice A1 n1 c1, .slice A2 n2 c2] 47) (.cells #[.int .i64 0, .slice none 0 0, .slice none 0 0] 47) (w.heap.size + 1) rfl
  have z0 : ((w.alloc (.cells #[.int .i64 t.typ, .slice A1 n1 c1, .slice A2 n2 c2] 47)).alloc (.cells #[.int .i64 0, .slice none 0 0, .slice none 0 0] 47)).heap.size = w.heap.size + 2 := by simp
  have x0 : ((w.alloc (.cells #[.int .i64 t.typ, .slice A1 n1 c1, .slice A2 n2 c2] 47)).alloc (.cells #[.int .i64 0, .slice none 0 0, .slice none 0 0] 47)).cell? ⟨w.heap.size, 0, none⟩ = some (.int .i64 t.typ) := cell_of_row _ _ 0 _ 47 (0, 0) hg1
  have x1 : ((w.alloc (.cells #[.int .i64 t.typ, .slice A1 n1 c1, .slice A2 n2 c2] 47)).alloc (.cells #[.int .i64 0, .slice none 0 0, .slice none 0 0] 47)).cell? ⟨w.heap.size, 1, none⟩ = some (.slice A1 n1 c1) := cell_of_row _ _ 1 _ 47 (0, 0) hg1
  have x2 : ((w.alloc (.cells #[.int .i64 t.typ, .slice A1 n1 c1, .slice A2 n2 c2] 47)).alloc (.cells #[.int .i64 0, .slice none 0 0, .slice none 0 0] 47)).cell? ⟨w.heap.size, 2, none⟩ = some (.slice A2 n2 c2) := cell_of_row _ _ 2 _ 47 (0, 0) hg1
  have HB0 := Lib.hid hb0
  have HG1 := Lib.hid hg1
  have HG2 := Lib.hid hg2
  have HZ0 := Lib.hid z0
  have H1 := Lib.hid h1
  have H2 := Lib.hid h2
  have HZ := Lib.hid hZ
  clear hb0 hg1 hg2 z0 h1 h2 hZ hi2 hz20 hz21 hz22
  have HBd := Lib.hid (below_drewN HB0.out 1)
  have HBe := Lib.hid ((below_drewN HB0.out 1).alloc (HB0.out.size) (.cells #[.int .i64 0, .slice none 0 0, .slice none 0 0] 47))
  have hbe : Below ((w.alloc (.cells #[.int .i64 t.typ, .slice A1 n1 c1, .slice A2 n2 c2] 47)).alloc (.cells #[.int .i64 0, .slice none 0 0, .slice none 0 0] 47)).heap.size ((w.alloc (.cells #[.int .i64 t.typ, .slice A1 n1 c1, .slice A2 n2 c2] 47)).alloc (.cells #[.int .i64 0, .slice none 0 0, .slice none 0 0] 47)) ((((w.alloc (.cells #[.int .i64 t.typ, .slice A1 n1 c1, .slice A2 n2 c2] 47)).alloc (.cells #[.int .i64 0, .slice none 0 0, .slice none 0 0] 47)).drewN 1).alloc (.cells #[.int .i64 0, .slice none 0 0, .slice none 0 0] 47)) := (below_drewN (Below.refl _ _) 1).alloc (show ((w.alloc (.cells #[.int .i64 t.typ, .slice A1 n1 c1, .slice A2 n2 c2] 47)).alloc (.cells #[.int .i64 0, .slice none 0 0, .slice none 0 0] 47)).heap.size ≤ ((w.alloc (.cells #[.int .i64 t.typ, .slice A1 n1 c1, .slice A2 n2 c2] 47)).alloc (.cells #[.int .i64 0, .slice none 0 0, .slice none 0 0] 47)).heap.size from Nat.le_refl _) _
  have y0 := (hbe.cell (p := ⟨w.heap.size, 0, none⟩) (by simp; omega)).trans x0
  have y1 := (hbe.cell (p := ⟨w.heap.size, 1, none⟩) (by simp; omega)).trans x1
  have y2 := (hbe.cell (p := ⟨w.heap.size, 2, none⟩) (by simp; omega)).trans x2
  have hg3 : ((((w.alloc (.cells #[.int .i64 t.typ, .slice A1 n1 c1, .slice A2 n2 c2] 47)).alloc (.cells #[.int .i64 0, .slice none 0 0, .slice none 0 0] 47)).drewN 1).alloc (.cells #[.int .i64 0, .slice none 0 0, .slice none 0 0] 47)).heap[w.heap.size + 1 + 1]? = some (.cells #[.int .i64 0, .slice none 0 0, .slice none 0 0] 47 (0, 0)) := by
    have h := heap_alloc_new (((w.alloc (.cells #[.int .i64 t.typ, .slice A1 n1 c1, .slice A2 n2 c2] 47)).alloc (.cells #[.int .i64 0, .slice none 0 0, .slice none 0 0] 47)).drewN 1) (.cells #[.int .i64 0, .slice none 0 0, .slice none 0 0] 47)
    rw [show (((w.alloc (.cells #[.int .i64 t.typ, .slice A1 n1 c1, .slice A2 n2 c2] 47)).alloc (.cells #[.int .i64 0, .slice none 0 0, .slice none 0 0] 47)).drewN 1).heap.size = w.heap.size + 1 + 1 by show ((w.alloc (.cells #[.int .i64 t.typ, .slice A1 n1 c1, .slice A2 n2 c2] 47)).alloc (.cells #[.int .i64 0, .slice none 0 0, .slice none 0 0] 47)).heap.size = _; simp] at h
    exact h
  have HG3 := Lib.hid hg3
  clear hbe hg3
  have HC := Lib.hid (show ∀ wq, Below w.heap.size w wq → _ from fun wq hq => copy_any wq w.heap.size A1 n1 c1 t.dims ((slc_ints H1.out HZ.out).below hq (Nat.le_refl _)) z1)
  go_enter Try.func30, Try.ntmps30
  go_upto_region 1 with (fail)
  go_region_held3 (fun W => W.cell? ⟨w.heap.size, 0, none⟩ = some (.int .i64 t.typ) ∧ W.cell? ⟨w.heap.size, 1, none⟩ = some (.slice A1 n1 c1) ∧ W.cell? ⟨w.heap.size, 2, none⟩ = some (.slice A2 n2 c2)) (first | exact ⟨x0, x1, x2⟩ | exact ⟨j0, j1, j2⟩ | exact ⟨y0, y1, y2⟩ | (refine ⟨?_, ?_, ?_⟩ <;> (rw [World.cell?_setCell_far _ _ _ _ (by dsimp only; omega), World.cell?_setCell_far _ _ _ _ (by dsimp only; omega), World.cell?_setCell_far _ _ _ _ (by dsimp only; omega)]; first | exact j0 | exact j1 | exact j2 | exact World.cell?_alloc_some _ _ _ j0 | exact World.cell?_alloc_some _ _ _ j1 | exact World.cell?_alloc_some _ _ _ j2 | (simp [*, World.cell?_alloc_some]; done))) | go_keep)
    (first
      | (go_at_call 61; refine (HC.out _ HBd.out).mono ?_; rintro e wa ⟨v9, rfl, hown, hba⟩; obtain ⟨A9, c9, hv9, hs9⟩ := own_isSlc3 hown; subst hv9; have j0 := (hba.cell (p := ⟨w.heap.size, 0, none⟩) (by simp; omega)).trans x0; have j1 := (hba.cell (p := ⟨w.heap.size, 1, none⟩) (by simp; omega)).trans x1; have j2 := (hba.cell (p := ⟨w.heap.size, 2, none⟩) (by simp; omega)).trans x2; have z9 : w.heap.size + 2 ≤ wa.heap.size := (by have h := hba.size; simp at h; omega); have HBA := Lib.hid hba; have HS9 := Lib.hid hs9; clear hba hs9 hown)
      | (go_at_call 61; refine (HC.out _ HBe.out).mono ?_; rintro e wa ⟨v9, rfl, hown, hba⟩; obtain ⟨A9, c9, hv9, hs9⟩ := own_isSlc3 hown; subst hv9; have j0 := (hba.cell (p := ⟨w.heap.size, 0, none⟩) (by simp; omega)).trans y0; have j1 := (hba.cell (p := ⟨w.heap.size, 1, none⟩) (by simp; omega)).trans y1; have j2 := (hba.cell (p := ⟨w.heap.size, 2, none⟩) (by simp; omega)).trans y2; have hgn := (hba.block (w.heap.size + 1 + 1) (by simp)).trans HG3.out; have v0 := cell_of_row _ _ 0 _ 47 (0, 0) hgn; have v1 := cell_of_row _ _ 1 _ 47 (0, 0) hgn; have v2 := cell_of_row _ _ 2 _ 47 (0, 0) hgn; simp only [List.getElem?_toArray, List.getElem?_cons_zero, List.getElem?_cons_succ] at v0 v1 v2; have hf : ∀ i, wa.frozen? ⟨w.heap.size + 1 + 1, i, none⟩ = false := (fun i => by simp [World.frozen?, hgn]); have f0 := hf 0; have f1 := hf 1; have f2 := hf 2; have HGN := Lib.hid hgn; clear hgn hf; have z9 : w.heap.size + 2 ≤ wa.heap.size := (by have h := hba.size; simp at h; omega); have HBA := Lib.hid hba; have HS9 := Lib.hid hs9; clear hba hs9 hown))
  · have hct : CT w (wa.alloc (.cells #[.int .i64 t.typ, .slice A9 t.dims.length c9, .slice none 0 0] 47)) t A2 n2 c2 wa.heap.size A9 c9 := by
      have hb : Below wa.heap.size wa (wa.alloc (.cells #[.int .i64 t.typ, .slice A9 t.dims.length c9, .slice none 0 0] 47)) := (Below.refl _ _).alloc (Nat.le_refl _) _
      have hw : Below w.heap.size w wa := HBd.out.trans (HBA.out.mono HBd.out.size)
      have zz : (World.drewN ((w.alloc (.cells #[.int .i64 t.typ, .slice A1 n1 c1, .slice A2 n2 c2] 47)).alloc (.cells #[.int .i64 0, .slice none 0 0, .slice none 0 0] 47)) 1).heap.size = w.heap.size + 2 := by show ((w.alloc (.cells #[.int .i64 t.typ, .slice A1 n1 c1, .slice A2 n2 c2] 47)).alloc (.cells #[.int .i64 0, .slice none 0 0, .slice none 0 0] 47)).heap.size = _; simp
      have hs := HS9.out
      simp only [zz] at hs
      refine ⟨hw.trans (hb.mono hw.size), heap_alloc_new _ _, (hb.block _ (by omega)).trans ((HBA.out.block (w.heap.size + 1) (by rw [zz]; omega)).trans HG2.out), (hb.cell (p := ⟨w.heap.size, 2, none⟩) (by dsimp only; omega)).trans j2, hs.keep (fun k hk => hb.block k hk.2) (fun k hk => ⟨by omega, by omega, by omega, Nat.lt_of_lt_of_le hk.2 hb.size⟩), by omega⟩
    clear j0 j1 j2 HBA HS9 x0 x1 x2 y0 y1 y2
    generalize (wa.alloc (.cells #[.int .i64 t.typ, .slice A9 t.dims.length c9, .slice none 0 0] 47)) = wx at hct ⊢
    generalize wa.heap.size = g at hct ⊢
    have HCT := Lib.hid hct
    have H2' := Lib.hid (H2.out.keep (Z' := fun k => k < wx.heap.size) (fun k hk => hct.below.block k (HZ.out k hk)) (fun k hk => Nat.lt_of_lt_of_le (HZ.out k hk) hct.below.size))
    have L2 := H2.out.len
    have lg := hct.low
    have x2 := hct.src
    have k0 := cell_of_row _ _ 0 _ 47 (0, 0) hct.row
    have k1 := cell_of_row _ _ 1 _ 47 (0, 0) hct.row
    have k2 := cell_of_row _ _ 2 _ 47 (0, 0) hct.row
    simp only [List.getElem?_toArray, List.getElem?_cons_zero, List.getElem?_cons_succ] at k0 k1 k2
    have gz : g < wx.heap.size := World.block_lt_of_cell? wx ⟨g, 0, none⟩ k0
    clear hct
    go_wp2_with (at_builtin; refine wpList_append_n wx repInt flat_int rfl (.tmp 11) (.tmp 13) 45 rfl 2 i2 _ 8 Try.underlying45 HI2.out.1 HI2.out.2.1 HI2.out.2.2.1 HI2.out.2.2.2 rfl (by decide) rfl (fun k => k < wx.heap.size) A2 n2 c2 t.data rfl H2'.out (fun _ h => h) (by omega) ?_; intro A8 c8 w8 hs8 hb8; have HS8 := Lib.hid hs8; have HB8 := Lib.hid hb8; have m0 := (hb8.cell (p := ⟨g, 0, none⟩) gz).trans k0; have m1 := (hb8.cell (p := ⟨g, 1, none⟩) gz).trans k1; have m2 := (hb8.cell (p := ⟨g, 2, none⟩) gz).trans k2; have r8 := (hb8.block (w.heap.size + 1) (by omega)).trans HCT.out.res; have g8 := (hb8.block g gz).trans HCT.out.row; have s0 := cell_of_row _ _ 0 _ 47 (0, 0) r8; have s1 := cell_of_row _ _ 1 _ 47 (0, 0) r8; have s2 := cell_of_row _ _ 2 _ 47 (0, 0) r8; simp only [List.getElem?_toArray, List.getElem?_cons_zero, List.getElem?_cons_succ] at s0 s1 s2; have hf : ∀ i, w8.frozen? ⟨g, i, none⟩ = false := (fun i => by simp [World.frozen?, g8]); have f2 := hf 2; have hg : ∀ i, w8.frozen? ⟨w.heap.size + 1, i, none⟩ = false := (fun i => by simp [World.frozen?, r8]); have e0 := hg 0; have e1 := hg 1; have e2 := hg 2; have ne : ¬ g = w.heap.size + 1 := (by omega); have ne2 : ¬ w.heap.size + 1 = g := (by omega); have R8 := Lib.hid r8; clear hf hg r8 g8 hs8 hb8)
    have r6 : (w8.setCell ⟨g, 2, none⟩ (.slice A8 n2 c8)).heap[w.heap.size + 1]? = some (.cells #[.int .i64 0, .slice none 0 0, .slice none 0 0] 47 (0, 0)) := (Below.heap_setCell _ _ _ _ (by dsimp only; omega)).trans R8.out
    have r7 : ((w8.setCell ⟨g, 2, none⟩ (.slice A8 n2 c8)).setCell ⟨w.heap.size + 1, 0, none⟩ (.int .i64 t.typ)).heap[w.heap.size + 1]? = some (.cells #[.int .i64 t.typ, .slice none 0 0, .slice none 0 0] 47 (0, 0)) := by have := heap_setCell_same (w8.setCell ⟨g, 2, none⟩ (.slice A8 n2 c8)) (w.heap.size + 1) 0 _ 47 (.int .i64 t.typ) r6; simpa using this
    have r8 : (((w8.setCell ⟨g, 2, none⟩ (.slice A8 n2 c8)).setCell ⟨w.heap.size + 1, 0, none⟩ (.int .i64 t.typ)).setCell ⟨w.heap.size + 1, 1, none⟩ (.slice A9 t.dims.length c9)).heap[w.heap.size + 1]? = some (.cells #[.int .i64 t.typ, .slice A9 t.dims.length c9, .slice none 0 0] 47 (0, 0)) := by have := heap_setCell_same ((w8.setCell ⟨g, 2, none⟩ (.slice A8 n2 c8)).setCell ⟨w.heap.size + 1, 0, none⟩ (.int .i64 t.typ)) (w.heap.size + 1) 1 _ 47 (.slice A9 t.dims.length c9) r7; simpa using this
    have r9 : ((((w8.setCell ⟨g, 2, none⟩ (.slice A8 n2 c8)).setCell ⟨w.heap.size + 1, 0, none⟩ (.int .i64 t.typ)).setCell ⟨w.heap.size + 1, 1, none⟩ (.slice A9 t.dims.length c9)).setCell ⟨w.heap.size + 1, 2, none⟩ (.slice A8 n2 c8)).heap[w.heap.size + 1]? = some (.cells #[.int .i64 t.typ, .slice A9 t.dims.length c9, .slice A8 n2 c8] 47 (0, 0)) := by have := heap_setCell_same (((w8.setCell ⟨g, 2, none⟩ (.slice A8 n2 c8)).setCell ⟨w.heap.size + 1, 0, none⟩ (.int .i64 t.typ)).setCell ⟨w.heap.size + 1, 1, none⟩ (.slice A9 t.dims.length c9)) (w.heap.size + 1) 2 _ 47 (.slice A8 n2 c8) r8; simpa using this
    have kp : ∀ k, k ≠ g → k ≠ w.heap.size + 1 → ((((w8.setCell ⟨g, 2, none⟩ (.slice A8 n2 c8)).setCell ⟨w.heap.size + 1, 0, none⟩ (.int .i64 t.typ)).setCell ⟨w.heap.size + 1, 1, none⟩ (.slice A9 t.dims.length c9)).setCell ⟨w.heap.size + 1, 2, none⟩ (.slice A8 n2 c8)).heap[k]? = w8.heap[k]? := fun k h1 h2 => (Below.heap_setCell _ _ _ _ (by dsimp only; omega)).trans ((Below.heap_setCell _ _ _ _ (by dsimp only; omega)).trans ((Below.heap_setCell _ _ _ _ (by dsimp only; omega)).trans (Below.heap_setCell _ _ _ _ (by dsimp only; omega))))
    have zz : ((((w8.setCell ⟨g, 2, none⟩ (.slice A8 n2 c8)).setCell ⟨w.heap.size + 1, 0, none⟩ (.int .i64 t.typ)).setCell ⟨w.heap.size + 1, 1, none⟩ (.slice A9 t.dims.length c9)).setCell ⟨w.heap.size + 1, 2, none⟩ (.slice A8 n2 c8)).heap.size = w8.heap.size := by simp
    have b8 : Below w.heap.size w w8 := HCT.out.below.trans (HB8.out.mono HCT.out.below.size)
    have b9 : Below w.heap.size w ((((w8.setCell ⟨g, 2, none⟩ (.slice A8 n2 c8)).setCell ⟨w.heap.size + 1, 0, none⟩ (.int .i64 t.typ)).setCell ⟨w.heap.size + 1, 1, none⟩ (.slice A9 t.dims.length c9)).setCell ⟨w.heap.size + 1, 2, none⟩ (.slice A8 n2 c8)) := (((b8.setCell (by dsimp only; omega) _).setCell (by dsimp only; omega) _).setCell (by dsimp only; omega) _).setCell (by dsimp only; omega) _
    have z8 := HB8.out.size
    refine bodyPost_ret (results_cell_row rfl _ _ (w.heap.size + 1) 47 _ (0, 0) _ rfl r9 Try.underlying47 rfl (by kernel_rfl)) rfl ?_
    refine ⟨A9, c9, A8, c8, by rw [L2], ?_, ?_, b9⟩
    · exact HCT.out.dims.keep (fun k hk => (kp k hk.2.1 hk.2.2.1).trans (HB8.out.block k hk.2.2.2)) (fun k hk => ⟨hk.1, by rw [zz]; omega⟩)
    · exact HS8.out.keep (fun k hk => kp k (by have := hk.1; omega) (by have := hk.1; omega)) (fun k hk => ⟨by have := hk.1; have := HCT.out.below.size; omega, by rw [zz]; exact hk.2⟩)
  · have hct : CT w (((wa.setCell ⟨w.heap.size + 1 + 1, 0, none⟩ (.int .i64 t.typ)).setCell ⟨w.heap.size + 1 + 1, 1, none⟩ (.slice A9 t.dims.length c9)).setCell ⟨w.heap.size + 1 + 1, 2, none⟩ (.slice none 0 0)) t A2 n2 c2 (w.heap.size + 1 + 1) A9 c9 := by
      have hw : Below w.heap.size w wa := HBe.out.trans (HBA.out.mono HBe.out.size)
      have zz : (World.alloc (World.drewN ((w.alloc (.cells #[.int .i64 t.typ, .slice A1 n1 c1, .slice A2 n2 c2] 47)).alloc (.cells #[.int .i64 0, .slice none 0 0, .slice none 0 0] 47)) 1) (.cells #[.int .i64 0, .slice none 0 0, .slice none 0 0] 47)).heap.size = w.heap.size + 3 := by
        rw [show ∀ (x : World) (o : Obj), (x.alloc o).heap.size = x.heap.size + 1 from fun x o => by simp]
        show ((w.alloc (.cells #[.int .i64 t.typ, .slice A1 n1 c1, .slice A2 n2 c2] 47)).alloc (.cells #[.int .i64 0, .slice none 0 0, .slice none 0 0] 47)).heap.size + 1 = _
        simp
      have r1 : (wa.setCell ⟨w.heap.size + 1 + 1, 0, none⟩ (.int .i64 t.typ)).heap[w.heap.size + 1 + 1]? = some (.cells #[.int .i64 t.typ, .slice none 0 0, .slice none 0 0] 47 (0, 0)) := by have := heap_setCell_same wa (w.heap.size + 1 + 1) 0 _ 47 (.int .i64 t.typ) HGN.out; simpa using this
      have r2 : ((wa.setCell ⟨w.heap.size + 1 + 1, 0, none⟩ (.int .i64 t.typ)).setCell ⟨w.heap.size + 1 + 1, 1, none⟩ (.slice A9 t.dims.length c9)).heap[w.heap.size + 1 + 1]? = some (.cells #[.int .i64 t.typ, .slice A9 t.dims.length c9, .slice none 0 0] 47 (0, 0)) := by have := heap_setCell_same (wa.setCell ⟨w.heap.size + 1 + 1, 0, none⟩ (.int .i64 t.typ)) (w.heap.size + 1 + 1) 1 _ 47 (.slice A9 t.dims.length c9) r1; simpa using this
      have r3 : (((wa.setCell ⟨w.heap.size + 1 + 1, 0, none⟩ (.int .i64 t.typ)).setCell ⟨w.heap.size + 1 + 1, 1, none⟩ (.slice A9 t.dims.length c9)).setCell ⟨w.heap.size + 1 + 1, 2, none⟩ (.slice none 0 0)).heap[w.heap.size + 1 + 1]? = some (.cells #[.int .i64 t.typ, .slice A9 t.dims.length c9, .slice none 0 0] 47 (0, 0)) := by have := heap_setCell_same ((wa.setCell ⟨w.heap.size + 1 + 1, 0, none⟩ (.int .i64 t.typ)).setCell ⟨w.heap.size + 1 + 1, 1, none⟩ (.slice A9 t.dims.length c9)) (w.heap.size + 1 + 1) 2 _ 47 (.slice none 0 0) r2; simpa using this
      have kp : ∀ k, k ≠ w.heap.size + 1 + 1 → (((wa.setCell ⟨w.heap.size + 1 + 1, 0, none⟩ (.int .i64 t.typ)).setCell ⟨w.heap.size + 1 + 1, 1, none⟩ (.slice A9 t.dims.length c9)).setCell ⟨w.heap.size + 1 + 1, 2, none⟩ (.slice none 0 0)).heap[k]? = wa.heap[k]? := fun k h1 => (Below.heap_setCell _ _ _ _ (by dsimp only; omega)).trans ((Below.heap_setCell _ _ _ _ (by dsimp only; omega)).trans (Below.heap_setCell _ _ _ _ (by dsimp only; omega)))
      have zw : (((wa.setCell ⟨w.heap.size + 1 + 1, 0, none⟩ (.int .i64 t.typ)).setCell ⟨w.heap.size + 1 + 1, 1, none⟩ (.slice A9 t.dims.length c9)).setCell ⟨w.heap.size + 1 + 1, 2, none⟩ (.slice none 0 0)).heap.size = wa.heap.size := by simp
      have hs := HS9.out
      simp only [zz] at hs
      have hr : (World.alloc (World.drewN ((w.alloc (.cells #[.int .i64 t.typ, .slice A1 n1 c1, .slice A2 n2 c2] 47)).alloc (.cells #[.int .i64 0, .slice none 0 0, .slice none 0 0] 47)) 1) (.cells #[.int .i64 0, .slice none 0 0, .slice none 0 0] 47)).heap[w.heap.size + 1]? = some (.cells #[.int .i64 0, .slice none 0 0, .slice none 0 0] 47 (0, 0)) := (Below.heap_alloc (World.drewN ((w.alloc (.cells #[.int .i64 t.typ, .slice A1 n1 c1, .slice A2 n2 c2] 47)).alloc (.cells #[.int .i64 0, .slice none 0 0, .slice none 0 0] 47)) 1) (.cells #[.int .i64 0, .slice none 0 0, .slice none 0 0] 47) (w.heap.size + 1) (by show _ < ((w.alloc (.cells #[.int .i64 t.typ, .slice A1 n1 c1, .slice A2 n2 c2] 47)).alloc (.cells #[.int .i64 0, .slice none 0 0, .slice none 0 0] 47)).heap.size; simp)).trans HG2.out
      have hj : (((wa.setCell ⟨w.heap.size + 1 + 1, 0, none⟩ (.int .i64 t.typ)).setCell ⟨w.heap.size + 1 + 1, 1, none⟩ (.slice A9 t.dims.length c9)).setCell ⟨w.heap.size + 1 + 1, 2, none⟩ (.slice none 0 0)).cell? ⟨w.heap.size, 2, none⟩ = some (.slice A2 n2 c2) := (World.cell?_of_block (a := ⟨w.heap.size, 2, none⟩) (kp w.heap.size (by omega))).trans j2
      refine ⟨((hw.setCell (by dsimp only; omega) _).setCell (by dsimp only; omega) _).setCell (by dsimp only; omega) _, r3, (kp _ (by omega)).trans ((HBA.out.block (w.heap.size + 1) (by rw [zz]; omega)).trans hr), hj, hs.keep (fun k hk => kp k (by omega)) (fun k hk => ⟨by omega, by omega, by omega, by rw [zw]; exact hk.2⟩), by omega⟩
    clear j0 j1 j2 HBA HS9 x0 x1 x2 y0 y1 y2 HGN v0 v1 v2 f0 f1 f2 z9
    generalize (((wa.setCell ⟨w.heap.size + 1 + 1, 0, none⟩ (.int .i64 t.typ)).setCell ⟨w.heap.size + 1 + 1, 1, none⟩ (.slice A9 t.dims.length c9)).setCell ⟨w.heap.size + 1 + 1, 2, none⟩ (.slice none 0 0)) = wx at hct ⊢
    generalize w.heap.size + 1 + 1 = g at hct ⊢
    have HCT := Lib.hid hct
    have H2' := Lib.hid (H2.out.keep (Z' := fun k => k < wx.heap.size) (fun k hk => hct.below.block k (HZ.out k hk)) (fun k hk => Nat.lt_of_lt_of_le (HZ.out k hk) hct.below.size))
    have L2 := H2.out.len
    have lg := hct.low
    have x2 := hct.src
    have k0 := cell_of_row _ _ 0 _ 47 (0, 0) hct.row
    have k1 := cell_of_row _ _ 1 _ 47 (0, 0) hct.row
    have k2 := cell_of_row _ _ 2 _ 47 (0, 0) hct.row
    simp only [List.getElem?_toArray, List.getElem?_cons_zero, List.getElem?_cons_succ] at k0 k1 k2
    have gz : g < wx.heap.size := World.block_lt_of_cell? wx ⟨g, 0, none⟩ k0
    clear hct
    go_wp2_with (at_builtin; refine wpList_append_n wx repInt flat_int rfl (.tmp 11) (.tmp 13) 45 rfl 2 i2 _ 8 Try.underlying45 HI2.out.1 HI2.out.2.1 HI2.out.2.2.1 HI2.out.2.2.2 rfl (by decide) rfl (fun k => k < wx.heap.size) A2 n2 c2 t.data rfl H2'.out (fun _ h => h) (by omega) ?_; intro A8 c8 w8 hs8 hb8; have HS8 := Lib.hid hs8; have HB8 := Lib.hid hb8; have m0 := (hb8.cell (p := ⟨g, 0, none⟩) gz).trans k0; have m1 := (hb8.cell (p := ⟨g, 1, none⟩) gz).trans k1; have m2 := (hb8.cell (p := ⟨g, 2, none⟩) gz).trans k2; have r8 := (hb8.block (w.heap.size + 1) (by omega)).trans HCT.out.res; have g8 := (hb8.block g gz).trans HCT.out.row; have s0 := cell_of_row _ _ 0 _ 47 (0, 0) r8; have s1 := cell_of_row _ _ 1 _ 47 (0, 0) r8; have s2 := cell_of_row _ _ 2 _ 47 (0, 0) r8; simp only [List.getElem?_toArray, List.getElem?_cons_zero, List.getElem?_cons_succ] at s0 s1 s2; have hf : ∀ i, w8.frozen? ⟨g, i, none⟩ = false := (fun i => by simp [World.frozen?, g8]); have f2 := hf 2; have hg : ∀ i, w8.frozen? ⟨w.heap.size + 1, i, none⟩ = false := (fun i => by simp [World.frozen?, r8]); have e0 := hg 0; have e1 := hg 1; have e2 := hg 2; have ne : ¬ g = w.heap.size + 1 := (by omega); have ne2 : ¬ w.heap.size + 1 = g := (by omega); have R8 := Lib.hid r8; clear hf hg r8 g8 hs8 hb8)
    have r6 : (w8.setCell ⟨g, 2, none⟩ (.slice A8 n2 c8)).heap[w.heap.size + 1]? = some (.cells #[.int .i64 0, .slice none 0 0, .slice none 0 0] 47 (0, 0)) := (Below.heap_setCell _ _ _ _ (by dsimp only; omega)).trans R8.out
    have r7 : ((w8.setCell ⟨g, 2, none⟩ (.slice A8 n2 c8)).setCell ⟨w.heap.size + 1, 0, none⟩ (.int .i64 t.typ)).heap[w.heap.size + 1]? = some (.cells #[.int .i64 t.typ, .slice none 0 0, .slice none 0 0] 47 (0, 0)) := by have := heap_setCell_same (w8.setCell ⟨g, 2, none⟩ (.slice A8 n2 c8)) (w.heap.size + 1) 0 _ 47 (.int .i64 t.typ) r6; simpa using this
    have r8 : (((w8.setCell ⟨g, 2, none⟩ (.slice A8 n2 c8)).setCell ⟨w.heap.size + 1, 0, none⟩ (.int .i64 t.typ)).setCell ⟨w.heap.size + 1, 1, none⟩ (.slice A9 t.dims.length c9)).heap[w.heap.size + 1]? = some (.cells #[.int .i64 t.typ, .slice A9 t.dims.length c9, .slice none 0 0] 47 (0, 0)) := by have := heap_setCell_same ((w8.setCell ⟨g, 2, none⟩ (.slice A8 n2 c8)).setCell ⟨w.heap.size + 1, 0, none⟩ (.int .i64 t.typ)) (w.heap.size + 1) 1 _ 47 (.slice A9 t.dims.length c9) r7; simpa using this
    have r9 : ((((w8.setCell ⟨g, 2, none⟩ (.slice A8 n2 c8)).setCell ⟨w.heap.size + 1, 0, none⟩ (.int .i64 t.typ)).setCell ⟨w.heap.size + 1, 1, none⟩ (.slice A9 t.dims.length c9)).setCell ⟨w.heap.size + 1, 2, none⟩ (.slice A8 n2 c8)).heap[w.heap.size + 1]? = some (.cells #[.int .i64 t.typ, .slice A9 t.dims.length c9, .slice A8 n2 c8] 47 (0, 0)) := by have := heap_setCell_same (((w8.setCell ⟨g, 2, none⟩ (.slice A8 n2 c8)).setCell ⟨w.heap.size + 1, 0, none⟩ (.int .i64 t.typ)).setCell ⟨w.heap.size + 1, 1, none⟩ (.slice A9 t.dims.length c9)) (w.heap.size + 1) 2 _ 47 (.slice A8 n2 c8) r8; simpa using this
    have kp : ∀ k, k ≠ g → k ≠ w.heap.size + 1 → ((((w8.setCell ⟨g, 2, none⟩ (.slice A8 n2 c8)).setCell ⟨w.heap.size + 1, 0, none⟩ (.int .i64 t.typ)).setCell ⟨w.heap.size + 1, 1, none⟩ (.slice A9 t.dims.length c9)).setCell ⟨w.heap.size + 1, 2, none⟩ (.slice A8 n2 c8)).heap[k]? = w8.heap[k]? := fun k h1 h2 => (Below.heap_setCell _ _ _ _ (by dsimp only; omega)).trans ((Below.heap_setCell _ _ _ _ (by dsimp only; omega)).trans ((Below.heap_setCell _ _ _ _ (by dsimp only; omega)).trans (Below.heap_setCell _ _ _ _ (by dsimp only; omega))))
    have zz : ((((w8.setCell ⟨g, 2, none⟩ (.slice A8 n2 c8)).setCell ⟨w.heap.size + 1, 0, none⟩ (.int .i64 t.typ)).setCell ⟨w.heap.size + 1, 1, none⟩ (.slice A9 t.dims.length c9)).setCell ⟨w.heap.size + 1, 2, none⟩ (.slice A8 n2 c8)).heap.size = w8.heap.size := by simp
    have b8 : Below w.heap.size w w8 := HCT.out.below.trans (HB8.out.mono HCT.out.below.size)
    have b9 : Below w.heap.size w ((((w8.setCell ⟨g, 2, none⟩ (.slice A8 n2 c8)).setCell ⟨w.heap.size + 1, 0, none⟩ (.int .i64 t.typ)).setCell ⟨w.heap.size + 1, 1, none⟩ (.slice A9 t.dims.length c9)).setCell ⟨w.heap.size + 1, 2, none⟩ (.slice A8 n2 c8)) := (((b8.setCell (by dsimp only; omega) _).setCell (by dsimp only; omega) _).setCell (by dsimp only; omega) _).setCell (by dsimp only; omega) _
    have z8 := HB8.out.size
    refine bodyPost_ret (results_cell_row rfl _ _ (w.heap.size + 1) 47 _ (0, 0) _ rfl r9 Try.underlying47 rfl (by kernel_rfl)) rfl ?_
    refine ⟨A9, c9, A8, c8, by rw [L2], ?_, ?_, b9⟩
    · exact HCT.out.dims.keep (fun k hk => (kp k hk.2.1 hk.2.2.1).trans (HB8.out.block k hk.2.2.2)) (fun k hk => ⟨hk.1, by rw [zz]; omega⟩)
    · exact HS8.out.keep (fun k hk => kp k (by have := hk.1; omega) (by have := hk.1; omega)) (fun k hk => ⟨by have := hk.1; have := HCT.out.below.size; omega, by rw [zz]; exact hk.2⟩)
end Go.Proofs.Ytkcnpnnflbibiaa
