/- The walks: some answers that the document gives. -/
import Derived.Test.YtkcnpnnflbibiaaFg
set_option linter.unusedVariables false
namespace Go.Proofs.Ytkcnpnnflbibiaa
open Go.RowKit

theorem small_sz : GrSz smallG := ⟨by decide, by
  intro n hn a ha
  simp only [smallG, List.mem_singleton] at hn
  subst hn
  simp at ha⟩
theorem enc_small_any (w : World) (Z : Nat → Prop) (A1 A2 A3 : Option Addr) (c1 c2 c3 : Nat) (h : GrAt smallG w Z A1 1 A2 1 A3 1 none 0) (hZ : ∀ k, Z k → k < w.heap.size) :
    Calls Try.prog 13 #[.agg #[.string ⟨#[103]⟩, .slice A1 1 c1, .slice A2 1 c2, .slice A3 1 c3, .slice none 0 0]] w fun e w' => e = .returned (.tuple #[.string smallS, .int .i64 0]) ∧ Below w.heap.size w w' := by
  have := encode_any smallG w Z A1 A2 A3 none 1 c1 1 c2 1 c3 0 0 h.nodes h.ins h.outs h.inits hZ small_sz
  refine Calls.mono this fun e w' h => ⟨?_, h.2⟩
  rw [h.1]
  unfold encS encErr
  rw [enc_small]
/-- What Decode leaves of the small graph's text. -/
def DecSmall (w : World) (e : Ending) (w' : World) : Prop :=
  ∃ A1 c1 A2 c2 A3 c3 A4 c4, e = .returned (.tuple #[.agg #[.string ⟨#[103]⟩, .slice A1 1 c1, .slice A2 1 c2, .slice A3 1 c3, .slice A4 0 c4], .int .i64 0]) ∧ Below w.heap.size w w' ∧
    GrAt smallG w' (Since w.heap.size w') A1 1 A2 1 A3 1 A4 0
theorem dec_small_any (w : World) : Calls Try.prog 9 #[.string smallS] w (DecSmall w) := decode_ok dec_small (by decide) w
/-- What Decode leaves where the graph has nothing. -/
def DecNone (err : Int) (w : World) (e : Ending) (w' : World) : Prop :=
  ∃ A1 c1 A2 c2 A3 c3 A4 c4, e = .returned (.tuple #[.agg #[.string ⟨#[]⟩, .slice A1 0 c1, .slice A2 0 c2, .slice A3 0 c3, .slice A4 0 c4], .int .i64 err]) ∧ Below w.heap.size w w'
theorem dec_none {err : Int} {w : World} {e : Ending} {w' : World} (h : DecTo gNone err w e w') : DecNone err w e w' := by
  obtain ⟨A1, c1, A2, c2, A3, c3, A4, c4, he, hb, _⟩ := h
  exact ⟨A1, c1, A2, c2, A3, c3, A4, c4, he, hb⟩
theorem dec_h_any (w : World) : Calls Try.prog 9 #[.string ⟨#[58, 0]⟩] w (DecNone 0 w) := (decode_ok dec_h (by decide) w).mono fun _ _ => dec_none
theorem dec_j_any (w : World) : Calls Try.prog 9 #[.string ⟨#[56, 1]⟩] w (DecNone 3 w) := (decode_no dec_j (by decide) w).mono fun _ _ => dec_none
theorem dec_k_any (w : World) : Calls Try.prog 9 #[.string ⟨#[]⟩] w (DecNone 4 w) := (decode_no dec_k (by decide) w).mono fun _ _ => dec_none
theorem slc0 {α : Type} (ρ : Rep α) (w : World) (Z : Nat → Prop) (A : Option Addr) : Slc ρ w Z A 0 [] := ⟨rfl, Nat.zero_le _, fun h => absurd h (by omega)⟩
theorem same_none (w : World) (A1 A2 A3 A4 : Option Addr) (c1 c2 c3 c4 : Nat) : Calls Try.prog 11 #[.agg #[.string ⟨#[]⟩, .slice A1 0 c1, .slice A2 0 c2, .slice A3 0 c3, .slice A4 0 c4], .agg #[.string ⟨#[]⟩, .slice none 0 0, .slice none 0 0, .slice none 0 0, .slice none 0 0]] w (BolB true w) :=
  same_yes gNone w (fun _ => False) A1 A2 A3 A4 none none none none 0 0 0 0 c1 c2 c3 c4 0 0 0 0 (slc0 _ _ _ _) (slc0 _ _ _ _) (slc0 _ _ _ _) (slc0 _ _ _ _) Slc.nil_ Slc.nil_ Slc.nil_ Slc.nil_ (fun _ h => h.elim)
theorem same_small (w : World) (lo : Nat) (D1 D2 D3 D4 B1 B2 B3 : Option Addr) (d1 d2 d3 d4 b1 b2 b3 : Nat) (h : GrAt smallG w (Since lo w) D1 1 D2 1 D3 1 D4 0) (g : GrAt smallG w (Since lo w) B1 1 B2 1 B3 1 none 0) :
    Calls Try.prog 11 #[.agg #[.string ⟨#[103]⟩, .slice D1 1 d1, .slice D2 1 d2, .slice D3 1 d3, .slice D4 0 d4], .agg #[.string ⟨#[103]⟩, .slice B1 1 b1, .slice B2 1 b2, .slice B3 1 b3, .slice none 0 0]] w (BolB true w) :=
  same_yes smallG w (Since lo w) D1 D2 D3 D4 B1 B2 B3 none 1 1 1 0 d1 d2 d3 d4 b1 b2 b3 0 h.nodes h.ins h.outs h.inits g.nodes g.ins g.outs g.inits (fun k hk => hk.2)
set_option maxRecDepth 100000 in
set_option maxHeartbeats 6400000 in
theorem live_any (w : World) : Calls Try.prog 7 #[] w (BolB true w) := by
  have HS := Lib.hid small_any
  have HD := Lib.hid dec_small_any
  have HH := Lib.hid dec_h_any
  have HJ := Lib.hid dec_j_any
  have HK := Lib.hid dec_k_any
  go_enter Try.func7, Try.ntmps7
  go_wp2_with fail
  refine (HS.out _).mono ?_
  rintro e w1 ⟨A1, c1, A2, c2, A3, c3, rfl, hb1, hat1⟩
  have HE := Lib.hid (enc_small_any w1 _ A1 A2 A3 c1 c2 c3 hat1 (fun k hk => hk.2))
  have Hb1 := Lib.hid hb1
  clear hb1 hat1
  go_wp2_with fail
  refine HE.out.mono ?_
  rintro e w2 ⟨rfl, hb2⟩
  have Hb2 := Lib.hid (Hb1.out.trans (hb2.mono Hb1.out.size))
  clear hb2 HE
  go_wp2_with fail
  refine (HD.out _).mono ?_
  rintro e w3 ⟨D1, d1, D2, d2, D3, d3, D4, d4, rfl, hb3, hat3⟩
  have Hb3 := Lib.hid (Hb2.out.trans (hb3.mono Hb2.out.size))
  have z2 := Hb2.out.size
  have HG3 := Lib.hid (heap_alloc_new w3 (.cells #[.string ⟨#[103]⟩, .slice D1 1 d1, .slice D2 1 d2, .slice D3 1 d3, .slice D4 0 d4] 34))
  have hbt : Below w3.heap.size w3 (w3.alloc (.cells #[.string ⟨#[103]⟩, .slice D1 1 d1, .slice D2 1 d2, .slice D3 1 d3, .slice D4 0 d4] 34)) := (Below.refl _ _).alloc (Nat.le_refl _) _
  have Ht3 := Lib.hid (hat3.later hbt (lo' := w.heap.size) z2)
  have Hb3' := Lib.hid (Hb3.out.trans (hbt.mono Hb3.out.size))
  have z3 : (w3.alloc (.cells #[.string ⟨#[103]⟩, .slice D1 1 d1, .slice D2 1 d2, .slice D3 1 d3, .slice D4 0 d4] 34)).heap.size = w3.heap.size + 1 := by simp
  clear hb3 hat3 hbt
  go_wp2_with fail
  generalize w3.alloc (.cells #[.string ⟨#[103]⟩, .slice D1 1 d1, .slice D2 1 d2, .slice D3 1 d3, .slice D4 0 d4] 34) = w4 at HG3 Ht3 Hb3' z3 ⊢
  refine (HH.out _).mono ?_
  rintro e w5 ⟨E1, e1, E2, e2, E3, e3, E4, e4, rfl, hb5⟩
  have z5 := hb5.size
  have HG35 := Lib.hid ((hb5.block w3.heap.size (by omega)).trans HG3.out)
  have Ht5 := Lib.hid (Ht3.out.later hb5 (Nat.le_refl _))
  have Hb5 := Lib.hid (Hb3'.out.trans (hb5.mono Hb3'.out.size))
  have HG5 := Lib.hid (heap_alloc_new w5 (.cells #[.string ⟨#[]⟩, .slice E1 0 e1, .slice E2 0 e2, .slice E3 0 e3, .slice E4 0 e4] 34))
  have hbt : Below w5.heap.size w5 (w5.alloc (.cells #[.string ⟨#[]⟩, .slice E1 0 e1, .slice E2 0 e2, .slice E3 0 e3, .slice E4 0 e4] 34)) := (Below.refl _ _).alloc (Nat.le_refl _) _
  have Ht5' := Lib.hid (Ht5.out.later hbt (Nat.le_refl _))
  have HG35' := Lib.hid ((hbt.block w3.heap.size (by omega)).trans HG35.out)
  have Hb5' := Lib.hid (Hb5.out.trans (hbt.mono Hb5.out.size))
  have z5' : (w5.alloc (.cells #[.string ⟨#[]⟩, .slice E1 0 e1, .slice E2 0 e2, .slice E3 0 e3, .slice E4 0 e4] 34)).heap.size = w5.heap.size + 1 := by simp
  clear hb5 hbt Ht5 HG35
  go_wp2_with fail
  generalize w5.alloc (.cells #[.string ⟨#[]⟩, .slice E1 0 e1, .slice E2 0 e2, .slice E3 0 e3, .slice E4 0 e4] 34) = w6 at HG5 Ht5' HG35' Hb5' z5' ⊢
  refine (HJ.out _).mono ?_
  rintro e w7 ⟨F1, f1, F2, f2, F3, f3, F4, f4, rfl, hb7⟩
  have z7 := hb7.size
  have hbt : Below w6.heap.size w6 (w7.alloc (.cells #[.string ⟨#[]⟩, .slice F1 0 f1, .slice F2 0 f2, .slice F3 0 f3, .slice F4 0 f4] 34)) := hb7.alloc hb7.size _
  have Ht8 := Lib.hid (Ht5'.out.later hbt (Nat.le_refl _))
  have HG38 := Lib.hid ((hbt.block w3.heap.size (by omega)).trans HG35'.out)
  have HG58 := Lib.hid ((hbt.block w5.heap.size (by omega)).trans HG5.out)
  have Hb8 := Lib.hid (Hb5'.out.trans (hbt.mono Hb5'.out.size))
  have z8 : w6.heap.size ≤ (w7.alloc (.cells #[.string ⟨#[]⟩, .slice F1 0 f1, .slice F2 0 f2, .slice F3 0 f3, .slice F4 0 f4] 34)).heap.size := hbt.size
  clear hb7 hbt HG5 Ht5' HG35'
  go_wp2_with fail
  generalize w7.alloc (.cells #[.string ⟨#[]⟩, .slice F1 0 f1, .slice F2 0 f2, .slice F3 0 f3, .slice F4 0 f4] 34) = w8 at Ht8 HG38 HG58 Hb8 z8 ⊢
  refine (HK.out _).mono ?_
  rintro e w9 ⟨K1, k1, K2, k2, K3, k3, K4, k4, rfl, hb9⟩
  have z9 := hb9.size
  have hbt : Below w8.heap.size w8 (w9.alloc (.cells #[.string ⟨#[]⟩, .slice K1 0 k1, .slice K2 0 k2, .slice K3 0 k3, .slice K4 0 k4] 34)) := hb9.alloc hb9.size _
  have Ht := Lib.hid (Ht8.out.later hbt (Nat.le_refl _))
  have hg3 := (hbt.block w3.heap.size (by omega)).trans HG38.out
  have hg5 := (hbt.block w5.heap.size (by omega)).trans HG58.out
  have Hb := Lib.hid (Hb8.out.trans (hbt.mono Hb8.out.size))
  have zz : w8.heap.size ≤ (w9.alloc (.cells #[.string ⟨#[]⟩, .slice K1 0 k1, .slice K2 0 k2, .slice K3 0 k3, .slice K4 0 k4] 34)).heap.size := hbt.size
  clear hb9 hbt Ht8 HG38 HG58
  have x0 := cell_of_row _ _ 0 _ 34 (0, 0) hg3
  have x1 := cell_of_row _ _ 1 _ 34 (0, 0) hg3
  have x2 := cell_of_row _ _ 2 _ 34 (0, 0) hg3
  have x3 := cell_of_row _ _ 3 _ 34 (0, 0) hg3
  have x4 := cell_of_row _ _ 4 _ 34 (0, 0) hg3
  have y0 := cell_of_row _ _ 0 _ 34 (0, 0) hg5
  have y1 := cell_of_row _ _ 1 _ 34 (0, 0) hg5
  have y2 := cell_of_row _ _ 2 _ 34 (0, 0) hg5
  have y3 := cell_of_row _ _ 3 _ 34 (0, 0) hg5
  have y4 := cell_of_row _ _ 4 _ 34 (0, 0) hg5
  simp only [List.getElem?_toArray, List.getElem?_cons_zero, List.getElem?_cons_succ] at x0 x1 x2 x3 x4 y0 y1 y2 y3 y4
  clear hg3 hg5
  go_wp2_with fail
  generalize w9.alloc (.cells #[.string ⟨#[]⟩, .slice K1 0 k1, .slice K2 0 k2, .slice K3 0 k3, .slice K4 0 k4] 34) = W at Ht Hb zz x0 x1 x2 x3 x4 y0 y1 y2 y3 y4 ⊢
  have hbW : Below w.heap.size w (W.drewN 1) := below_drewN Hb.out 1
  have zW : w.heap.size ≤ W.heap.size := Hb.out.size
  have HbW := Lib.hid hbW
  have HtW := Lib.hid (show GrAt smallG (W.drewN 1) (Since w.heap.size (W.drewN 1)) D1 1 D2 1 D3 1 D4 0 from Ht.out.later (below_drewN (Below.refl _ _) 1) (Nat.le_refl _))
  have HN := Lib.hid (fun w => same_none w E1 E2 E3 E4 e1 e2 e3 e4)
  clear hbW
  go_region_held3 (fun W => W.cell? ⟨w3.heap.size, 0, none⟩ = some (.string ⟨#[103]⟩) ∧ W.cell? ⟨w3.heap.size, 1, none⟩ = some (.slice D1 1 d1) ∧ W.cell? ⟨w3.heap.size, 2, none⟩ = some (.slice D2 1 d2) ∧ W.cell? ⟨w3.heap.size, 3, none⟩ = some (.slice D3 1 d3) ∧ W.cell? ⟨w3.heap.size, 4, none⟩ = some (.slice D4 0 d4) ∧ W.cell? ⟨w5.heap.size, 0, none⟩ = some (.string ⟨#[]⟩) ∧ W.cell? ⟨w5.heap.size, 1, none⟩ = some (.slice E1 0 e1) ∧ W.cell? ⟨w5.heap.size, 2, none⟩ = some (.slice E2 0 e2) ∧ W.cell? ⟨w5.heap.size, 3, none⟩ = some (.slice E3 0 e3) ∧ W.cell? ⟨w5.heap.size, 4, none⟩ = some (.slice E4 0 e4)) (first | exact ⟨x0, x1, x2, x3, x4, y0, y1, y2, y3, y4⟩ | exact ⟨jx0, jx1, jx2, jx3, jx4, jy0, jy1, jy2, jy3, jy4⟩ | exact ⟨kx0, kx1, kx2, kx3, kx4, ky0, ky1, ky2, ky3, ky4⟩ | exact ⟨lx0, lx1, lx2, lx3, lx4, ly0, ly1, ly2, ly3, ly4⟩ | go_keep)
    (first
      | (go_at_call 17; refine (HS.out _).mono ?_; rintro e wa ⟨B1, b1, B2, b2, B3, b3, rfl, hba, hata⟩; have jx0 := (hba.cell (p := ⟨w3.heap.size, 0, none⟩) (by show (_ : Nat) < W.heap.size; dsimp only; omega)).trans x0; have jx1 := (hba.cell (p := ⟨w3.heap.size, 1, none⟩) (by show (_ : Nat) < W.heap.size; dsimp only; omega)).trans x1; have jx2 := (hba.cell (p := ⟨w3.heap.size, 2, none⟩) (by show (_ : Nat) < W.heap.size; dsimp only; omega)).trans x2; have jx3 := (hba.cell (p := ⟨w3.heap.size, 3, none⟩) (by show (_ : Nat) < W.heap.size; dsimp only; omega)).trans x3; have jx4 := (hba.cell (p := ⟨w3.heap.size, 4, none⟩) (by show (_ : Nat) < W.heap.size; dsimp only; omega)).trans x4; have jy0 := (hba.cell (p := ⟨w5.heap.size, 0, none⟩) (by show (_ : Nat) < W.heap.size; dsimp only; omega)).trans y0; have jy1 := (hba.cell (p := ⟨w5.heap.size, 1, none⟩) (by show (_ : Nat) < W.heap.size; dsimp only; omega)).trans y1; have jy2 := (hba.cell (p := ⟨w5.heap.size, 2, none⟩) (by show (_ : Nat) < W.heap.size; dsimp only; omega)).trans y2; have jy3 := (hba.cell (p := ⟨w5.heap.size, 3, none⟩) (by show (_ : Nat) < W.heap.size; dsimp only; omega)).trans y3; have jy4 := (hba.cell (p := ⟨w5.heap.size, 4, none⟩) (by show (_ : Nat) < W.heap.size; dsimp only; omega)).trans y4; have za : W.heap.size ≤ wa.heap.size := hba.size; have HSm := Lib.hid (same_small wa w.heap.size D1 D2 D3 D4 B1 B2 B3 d1 d2 d3 d4 b1 b2 b3 (HtW.out.later hba (Nat.le_refl _)) (hata.keep (fun _ _ => rfl) (fun k hk => ⟨Nat.le_trans zW hk.1, hk.2⟩))); have Hba := Lib.hid (HbW.out.trans (hba.mono HbW.out.size)); clear hba hata)
      | (go_at_call 11; (with_reducible refine HSm.out.mono ?_); rintro e wb ⟨rfl, hbb⟩; have kx0 := (hbb.cell (p := ⟨w3.heap.size, 0, none⟩) (by dsimp only; omega)).trans jx0; have kx1 := (hbb.cell (p := ⟨w3.heap.size, 1, none⟩) (by dsimp only; omega)).trans jx1; have kx2 := (hbb.cell (p := ⟨w3.heap.size, 2, none⟩) (by dsimp only; omega)).trans jx2; have kx3 := (hbb.cell (p := ⟨w3.heap.size, 3, none⟩) (by dsimp only; omega)).trans jx3; have kx4 := (hbb.cell (p := ⟨w3.heap.size, 4, none⟩) (by dsimp only; omega)).trans jx4; have ky0 := (hbb.cell (p := ⟨w5.heap.size, 0, none⟩) (by dsimp only; omega)).trans jy0; have ky1 := (hbb.cell (p := ⟨w5.heap.size, 1, none⟩) (by dsimp only; omega)).trans jy1; have ky2 := (hbb.cell (p := ⟨w5.heap.size, 2, none⟩) (by dsimp only; omega)).trans jy2; have ky3 := (hbb.cell (p := ⟨w5.heap.size, 3, none⟩) (by dsimp only; omega)).trans jy3; have ky4 := (hbb.cell (p := ⟨w5.heap.size, 4, none⟩) (by dsimp only; omega)).trans jy4; have zb : wa.heap.size ≤ wb.heap.size := hbb.size; have Hbb := Lib.hid (Hba.out.trans (hbb.mono Hba.out.size)); clear hbb)
      | (go_at_call 11; (with_reducible refine (HN.out _).mono ?_); rintro e wc ⟨rfl, hbc⟩; have lx0 := (hbc.cell (p := ⟨w3.heap.size, 0, none⟩) (by dsimp only; omega)).trans kx0; have lx1 := (hbc.cell (p := ⟨w3.heap.size, 1, none⟩) (by dsimp only; omega)).trans kx1; have lx2 := (hbc.cell (p := ⟨w3.heap.size, 2, none⟩) (by dsimp only; omega)).trans kx2; have lx3 := (hbc.cell (p := ⟨w3.heap.size, 3, none⟩) (by dsimp only; omega)).trans kx3; have lx4 := (hbc.cell (p := ⟨w3.heap.size, 4, none⟩) (by dsimp only; omega)).trans kx4; have ly0 := (hbc.cell (p := ⟨w5.heap.size, 0, none⟩) (by dsimp only; omega)).trans ky0; have ly1 := (hbc.cell (p := ⟨w5.heap.size, 1, none⟩) (by dsimp only; omega)).trans ky1; have ly2 := (hbc.cell (p := ⟨w5.heap.size, 2, none⟩) (by dsimp only; omega)).trans ky2; have ly3 := (hbc.cell (p := ⟨w5.heap.size, 3, none⟩) (by dsimp only; omega)).trans ky3; have ly4 := (hbc.cell (p := ⟨w5.heap.size, 4, none⟩) (by dsimp only; omega)).trans ky4; have Hbc := Lib.hid (Hbb.out.trans (hbc.mono Hbb.out.size)); clear hbc))
  all_goals
    go_wp2
    go_ret
    exact bolB_ret Hbc.out rfl
end Go.Proofs.Ytkcnpnnflbibiaa
