import Derived.Test.YtbilddeepnnogaaGreatDoorIam
import Derived.StillTailTactics
import Derived.RangeFuncNested
import Derived.RangeFuncBound
import Derived.RangeFuncCalls
import Derived.RangeFuncLeaves
import Derived.Shelf.Abstract
import Derived.Shelf.RegionOpen
import Derived.OwnWalkIn
import Derived.TacticsInMore
import Derived.LoopNIn
import Derived.LoopIn
set_option linter.unusedVariables false
set_option linter.unusedSimpArgs false
/- Views of one dimension: Whole, Spread. -/
section
set_option linter.unusedVariables false
set_option maxRecDepth 100000
namespace Go.Proofs.YtbilddeepnnogaaGreatDoor
open Go.RowKit Go.Shelf

theorem One.turn {w w' : World} {A : Option Addr} {x : Int} {g : Nat} (h : One w A x) (hA : ∀ b off, A = some ⟨b, off, none⟩ → b ≠ g) (hk : ∀ j, j ≠ g → w'.heap[j]? = w.heap[j]?) (hz : w'.heap.size = w.heap.size) : One w' A x := by
  obtain ⟨b, off, rfl, h1, h2⟩ := h
  refine ⟨b, off, rfl, by omega, ?_⟩
  have := hk b (hA b off rfl)
  unfold World.cell? at h2 ⊢
  dsimp only at h2 ⊢
  rw [this]
  exact h2
theorem newS {F : World → Prop} {w : World} (g : Nat) (v : Value) {u : Value} (hc : w.cell? ⟨g, 0, none⟩ = some u) (hf : w.frozen? ⟨g, 0, none⟩ = false) (h : ∀ w', w'.cell? ⟨g, 0, none⟩ = some v → (∀ j, j ≠ g → w'.heap[j]? = w.heap[j]?) → Below g w w' → w'.heap.size = w.heap.size → F w') : F (w.setCell ⟨g, 0, none⟩ v) := by
  refine h _ (World.cell?_setCell_same' _ _ _ (by rw [hc]; rfl)) (fun j hj => ?_) ((Below.refl g w).setCell (p := ⟨g, 0, none⟩) (Nat.le_refl _) _) (by simp [World.setCell])
  exact Below.heap_setCell _ _ _ _ hj
theorem cell_stays {w w' : World} {g b off : Nat} {v : Value} (hk : ∀ j, j ≠ g → w'.heap[j]? = w.heap[j]?) (hb : b ≠ g) (h : w.cell? ⟨b, off, none⟩ = some v) : w'.cell? ⟨b, off, none⟩ = some v := by
  unfold World.cell? at h ⊢
  dsimp only at h ⊢
  rw [hk b hb]
  exact h
theorem New1.lo {w w' : World} {A : Option Addr} {x : Int} (h : New1 w w' A x) : ∀ b off, A = some ⟨b, off, none⟩ → w.heap.size ≤ b := by
  obtain ⟨g, rfl, h1, h2, h3, h4⟩ := h
  rintro b off e
  cases e
  exact h1
set_option maxHeartbeats 3200000 in
theorem whole_any (Ad : Option Addr) (cd : Nat) (x : Int) (w : World) (hd : One w Ad x) (h1 : 1 ≤ x) (h2 : x ≤ 30) :
    Calls Tryz.prog 223 #[.slice Ad 1 cd] w fun e w' => ∃ A1 A2 c1, e = .returned (.tuple #[.agg #[.int .i64 0, .slice A1 1 c1, .slice A2 1 1], .int .i64 0]) ∧ One w' A1 x ∧ One w' A2 1 ∧ Since w w' := by
  have HD := Lib.hid hd
  clear hd
  go_enter Tryz.func223, Tryz.ntmps223
  go_wp2_with fail
  refine newX (F := fun W => Calls _ _ _ W _) ?_
  intro w1 hx
  have b0 := hx.b0 rfl
  have HX := Lib.hid hx
  have hS := strides1_any w1 Ad cd x (HD.out.below hx.below) h1 h2
  clear hx
  refine hS.mono ?_
  rintro e w2 ⟨A2, rfl, hn, hb⟩
  have hx2 := HX.out.all hb
  have o2 := hn.one
  have l2 := hn.lo
  have z1 := HX.out.size
  have z2 := hx2.size
  have HX2 := Lib.hid hx2
  have hC := clone1_any w2 Ad cd x (HD.out.below hx2.below)
  have HO2 := Lib.hid o2
  clear hx2 hn o2 hb b0
  go_wp2_with fail
  refine hC.mono ?_
  rintro e w3 ⟨A1, c1, rfl, hn3, hb3⟩
  have hx3 := HX2.out.all hb3
  have b0 := hx3.b0 rfl
  obtain ⟨r0, r1, r2, r3, r4, r5⟩ := cells3 b0
  have HX3 := Lib.hid hx3
  have o3 := hn3.one
  have l3 := hn3.lo
  have p2 := HO2.out.below hb3
  have HO3 := Lib.hid o3
  have HP2 := Lib.hid p2
  clear hx3 hn3 o3 p2 hb3
  go_wp2_with fail
  refine put3 (F := fun W => bodyPost _ _ _ _ _ W) b0 ?_
  intro w5 g5 hk hb hz
  refine bodyPost_ret (res_row_tmp rfl _ _ w.heap.size 318 _ (0, 0) _ rfl g5 Tryz.underlying318 rfl (by kernel_rfl)) rfl ?_
  simp only [List.length_singleton] at z1 z2
  exact ⟨_, _, _, rfl, HO3.out.turn (fun b off e => by have := l3 b off e; omega) hk hz, HP2.out.turn (fun b off e => by have := l2 b off e; omega) hk hz, HX3.out.below.trans hb⟩
set_option maxHeartbeats 3200000 in
theorem vspread_any (Ad As Bd : Option Addr) (cd cs cb : Nat) (x : Int) (w : World) (hd : One w Ad x) (hs : One w As 1) (hb : One w Bd x) (h1 : 1 ≤ x) (h2 : x ≤ 30) :
    Calls Tryz.prog 224 #[.agg #[.int .i64 0, .slice Ad 1 cd, .slice As 1 cs], .slice Bd 1 cb] w fun e w' => ∃ A1 A2 c1 c2, e = .returned (.tuple #[.agg #[.int .i64 0, .slice A1 1 c1, .slice A2 1 c2], .int .i64 0]) ∧ One w' A1 x ∧ One w' A2 1 ∧ Since w w' := by
  have HD := Lib.hid hd
  have HS := Lib.hid hs
  have HB := Lib.hid hb
  clear hd hs hb
  go_enter Tryz.func224, Tryz.ntmps224
  go_wp2_with fail
  refine newX2 (F := fun W => Calls _ _ _ W _) ?_
  intro w1 hx
  have HX := Lib.hid hx
  have hF := fine_any Ad As cd cs x 1 w1 (HD.out.below hx.below) (HS.out.below hx.below) h1 h2 (by omega) (by omega)
  clear hx
  refine hF.mono ?_
  rintro e w3 ⟨rfl, hb3⟩
  have hx3 := HX.out.all hb3
  obtain ⟨r0, r1, r2, -⟩ := cells3 (hx3.b0 rfl)
  have hB := broad1_any w3 Ad Bd cd cb x (HD.out.below hx3.below) (HB.out.below hx3.below) h1 h2
  have HX3 := Lib.hid hx3
  clear hx3 hb3
  go_wp2_with fail
  refine hB.mono ?_
  rintro e w4 ⟨A1, c1, rfl, hn, hb4⟩
  clear r0 r1 r2
  have hx4 := HX3.out.all hb4
  obtain ⟨r0, r1, r2, -⟩ := cells3 (hx4.b0 rfl)
  have hE := equal1_any w4 A1 Bd c1 cb x hn.one (HB.out.below hx4.below)
  have l1 := hn.lo
  have HX4 := Lib.hid hx4
  have HO1 := Lib.hid hn.one
  have z3 := HX3.out.size
  clear hx4 hn
  simp only [List.length_cons, List.length_nil] at z3
  go_wp2_with (go_at_call 67; refine hE.mono ?_; rintro e w5 ⟨rfl, hb5⟩; clear r0 r1 r2; have hx5 := HX4.out.all hb5; obtain ⟨r0, r1, r2, -⟩ := cells3 (hx5.b0 rfl); have z5 : w.heap.size + 1 < w5.heap.size := (by have := hx5.size; simp only [List.length_cons, List.length_nil] at this; omega); have z6 : w.heap.size < w5.heap.size := (by omega); have hm := make_int1; have HX5 := Lib.hid hx5; have HO5 := Lib.hid (HO1.out.below hb5); clear hx5 hb5)
  refine wp_loop_rounds 2 ?_
  rw [rounds_succ]
  refine newX (F := fun W => Code.wp _ _ _ _ W) ?_
  intro w6 hx6
  obtain ⟨q0, q0f⟩ := cells1 (hx6.b0 rfl)
  have HX6 := Lib.hid hx6
  have r1 := (hx6.below.cell (p := ⟨w.heap.size, 1, none⟩) z6).trans r1
  have r0 := (hx6.below.cell (p := ⟨w.heap.size, 0, none⟩) z6).trans r0
  have r2 := (hx6.below.cell (p := ⟨w.heap.size, 2, none⟩) z6).trans r2
  have o1 := HO5.out.below hx6.below
  have od := HD.out.below (HX5.out.below.trans (hx6.below.mono (by omega)))
  have os := HS.out.below (HX5.out.below.trans (hx6.below.mono (by omega)))
  obtain ⟨d1, f1, rfl, hd1, hc1⟩ := o1
  obtain ⟨d2, f2, rfl, hd2, hc2⟩ := od
  obtain ⟨d3, f3, rfl, hd3, hc3⟩ := os
  clear hx6 hE hm hB hF
  go_wp2_with fail
  generalize hB6 : w5.heap.size = B6 at *
  have zz6 : B6 < w6.heap.size := by have := HX6.out.size; simp only [List.length_singleton] at this; omega
  refine newS (F := fun W => Code.rounds _ _ _ _ _ W) B6 (.int .i64 1) q0 q0f ?_
  intro w7 c7 hk7 hb7 hz7
  have r0 := cell_stays hk7 (by omega) r0
  have hg := HX5.out.b1 rfl
  rw [show w.heap.size + 1 = w.heap.size + 1 from rfl] at hg
  have hg6 := (HX6.out.below.block (w.heap.size + 1) (by omega)).trans hg
  have hg7 := (hk7 (w.heap.size + 1) (by omega)).trans hg6
  rw [rounds_succ]
  obtain ⟨y0, y1, y2, y3, y4, y5⟩ := cells3 hg7
  have hd15 : d1 < B6 := by obtain ⟨_, _, e, h, _⟩ := HO5.out; cases e; omega
  have hd1w := l1 d1 f1 rfl
  have o1 := (HO5.out.below (hB6 ▸ HX6.out.below)).turn (g := B6) (fun b off e => by cases e; omega) hk7 hz7
  have HQ := Lib.hid o1
  clear o1 l1
  go_wp2_with fail
  refine put3 (F := fun W => bodyPost _ _ _ _ _ W) hg7 ?_
  intro w8 g8 hk8 hb8 hz8
  refine bodyPost_ret (res_row_tmp rfl _ _ (w.heap.size + 1) 318 _ (0, 0) _ rfl g8 Tryz.underlying318 rfl (by kernel_rfl)) rfl ?_
  refine ⟨_, _, _, _, rfl, HQ.out.turn (fun b off e => by cases e; omega) hk8 hz8, ⟨B6, 0, rfl, by omega, cell_stays hk8 (by omega) c7⟩, ?_⟩
  exact Below.trans (Below.trans HX5.out.below (hB6 ▸ HX6.out.below |>.mono (by omega))) (Below.trans (hb7.mono (by omega)) (hb8.mono (by omega)))
end Go.Proofs.YtbilddeepnnogaaGreatDoor
end
/- The top: the reference's sameness, the small graph. -/
section
set_option linter.unusedVariables false
set_option maxRecDepth 100000
namespace Go.Proofs.YtbilddeepnnogaaGreatDoor
open Go.RowKit Go.Shelf

set_option maxHeartbeats 1600000 in
theorem same38 (A B : Option Addr) (c c' : Nat) (x : Int) (w : World) (h : One w A x) (g : One w B x) :
    Calls Tryz.prog 38 #[.slice A 1 c, .slice B 1 c'] w fun e w' => e = .returned (.bool true) ∧ Since w w' := by
  obtain ⟨b, off, rfl, hb, hc⟩ := h
  obtain ⟨b', off', rfl, hb', hc'⟩ := g
  go_enter Tryz.func38, Tryz.ntmps38
  go_wp2_with fail
  refine wp_loop_rounds 2 ?_
  rw [rounds_succ]
  go_wp2_with fail
  go_quiet (fail)
  go_wp2_with fail
  rw [rounds_succ]
  go_wp2_with fail
  go_ret
  exact ⟨rfl, below_drewN (Below.refl _ _) _⟩
set_option maxHeartbeats 3200000 in
theorem same12 (Ad At Bd Bt : Option Addr) (cd ct ce cf x : Nat) (ds : List Int) (w : World) (h1 : One w Ad x) (h2 : One w Bd x) (n1 : Nums w At ds) (n2 : Nums w Bt ds) (hl : ds.length = x) (hx : x ≤ 30) :
    Calls Tryz.prog 12 #[.agg #[.int .i64 6, .slice Ad 1 cd, .slice At x ct], .agg #[.int .i64 6, .slice Bd 1 ce, .slice Bt x cf]] w fun e w' => e = .returned (.bool true) ∧ Since w w' := by
  have H1 := Lib.hid h1
  have H2 := Lib.hid h2
  have N1 := Lib.hid n1
  have N2 := Lib.hid n2
  have hxi : (x : Int) ≤ 30 := by omega
  clear h1 h2 n1 n2
  go_enter Tryz.func12, Tryz.ntmps12
  go_wp2_with fail
  refine newX2 (F := fun W => Calls _ _ _ W _) ?_
  intro w1 hx1
  have HX1 := Lib.hid hx1
  clear hx1
  refine (same38 Ad Bd cd ce x w1 (H1.out.below HX1.out.below) (H2.out.below HX1.out.below)).mono ?_
  rintro e w2 ⟨rfl, hs2⟩
  have HX2 := Lib.hid (HX1.out.all hs2)
  clear hs2
  obtain ⟨r0, r1, r2, -⟩ := cells3 (HX2.out.b0 rfl)
  obtain ⟨s0, s1, s2, -⟩ := cells3 (HX2.out.b1 rfl)
  go_wp2_with fail
  clear r0 r1 r2 s0 s1 s2
  go_loopw [5] (fun i wr => ∃ k : Nat, k ≤ x ∧ i = .int .i64 k ∧ Fx w wr [some (.cells #[.int .i64 6, .slice Ad 1 cd, .slice At x ct] 44), some (.cells #[.int .i64 6, .slice Bd 1 ce, .slice Bt x cf] 44)]) (fun i _ => x - (intOf i).toNat)
  case atStart => exact ⟨0, by omega, rfl, HX2.out⟩
  case round =>
    obtain ⟨k, hk, rfl, hs⟩ := hrel
    obtain ⟨r0, r1, r2, -⟩ := cells3 (hs.b0 rfl)
    obtain ⟨s0, s1, s2, -⟩ := cells3 (hs.b1 rfl)
    by_cases hlt : k < x
    · obtain ⟨d, hd⟩ : ∃ d, ds[k]? = some d := ⟨_, List.getElem?_eq_getElem (by omega)⟩
      obtain ⟨b, off, rfl, c0⟩ := N1.out.since hs.below k d hd
      obtain ⟨b', off', rfl, c1⟩ := N2.out.since hs.below k d hd
      have hki : (k : Int) < x := by omega
      have HS := Lib.hid hs
      clear hs hd
      go_wp2_with fail
      go_quiet (fail)
      go_wp2_with fail
      exact ⟨⟨k + 1, by omega, by go_num, HS.out.drewN _⟩, by simp [intOf]; omega⟩
    · obtain rfl : k = x := by omega
      have HS := Lib.hid hs
      clear hs
      go_wp2_with fail
      go_ret
      exact ⟨rfl, HS.out.below⟩
/-- A tensor in a slice of one. -/
def T1 (w : World) (A : Option Addr) (x : Nat) (ds : List Int) : Prop := ∃ b off Ad cd At ct, A = some ⟨b, off, none⟩ ∧ w.cell? ⟨b, off, none⟩ = some (.int .i64 6) ∧ w.cell? ⟨b, off + 1, none⟩ = some (.slice Ad 1 cd) ∧ w.cell? ⟨b, off + 2, none⟩ = some (.slice At x ct) ∧ One w Ad x ∧ Nums w At ds
set_option maxHeartbeats 1600000 in
theorem same8 (A B : Option Addr) (c c' x : Nat) (ds : List Int) (w : World) (h : T1 w A x ds) (g : T1 w B x ds) (hl : ds.length = x) (hx : x ≤ 30) :
    Calls Tryz.prog 8 #[.slice A 1 c, .slice B 1 c'] w fun e w' => e = .returned (.bool true) ∧ Since w w' := by
  obtain ⟨b, off, Ad, cd, At, ct, rfl, p0, p1, p2, p3, p4⟩ := h
  obtain ⟨b', off', Bd, ce, Bt, cf, rfl, q0, q1, q2, q3, q4⟩ := g
  have hS : ∀ W, Since w W → Calls Tryz.prog 12 #[.agg #[.int .i64 6, .slice Ad 1 cd, .slice At x ct], .agg #[.int .i64 6, .slice Bd 1 ce, .slice Bt x cf]] W fun e w' => e = .returned (.bool true) ∧ Since W w' := fun W hW => same12 Ad At Bd Bt cd ct ce cf x ds W (p3.below hW) (q3.below hW) (p4.since hW) (q4.since hW) hl hx
  have HS := Lib.hid hS
  clear hS p3 p4 q3 q4
  go_enter Tryz.func8, Tryz.ntmps8
  go_wp2_with fail
  refine wp_loop_rounds 2 ?_
  rw [rounds_succ]
  go_wp2_with fail
  go_still_tail 8, (by kernel_rfl)
  change wpList _ _ _ _ _ w.drew
  go_wp2_with (go_at_call 12; refine (HS.out _ (Since.refl w).dr).mono ?_; rintro e w3 ⟨rfl, hs3⟩)
  have HF := Lib.hid (Since.trans (Since.refl w).dr hs3)
  clear hs3
  rw [rounds_succ]
  go_wp2_with fail
  go_ret
  exact ⟨rfl, HF.out⟩
end Go.Proofs.YtbilddeepnnogaaGreatDoor
end
/- Views: the iterator over a view's places. -/
section
set_option linter.unusedVariables false
set_option maxRecDepth 100000
namespace Go.Proofs.YtbilddeepnnogaaGreatDoor
open Go.RowKit Go.Shelf

attribute [local go_sem] Oper.semAt_some

/-- A view of x elements, one behind the other, in box q; no part of it lies in block g. -/
structure VwAt (w : World) (q g : Nat) (x : Nat) : Prop where
  row : ∃ d2 f2 d3 f3 cd cs, w.cell? ⟨q, 0, none⟩ = some (.int .i64 0) ∧ w.cell? ⟨q, 1, none⟩ = some (.slice (some ⟨d2, f2, none⟩) 1 cd) ∧ w.cell? ⟨q, 2, none⟩ = some (.slice (some ⟨d3, f3, none⟩) 1 cs) ∧ w.cell? ⟨d2, f2, none⟩ = some (.int .i64 x) ∧ w.cell? ⟨d3, f3, none⟩ = some (.int .i64 1) ∧ q < w.heap.size ∧ d2 < w.heap.size ∧ d3 < w.heap.size ∧ q ≠ g ∧ d2 ≠ g ∧ d3 ≠ g
theorem cell_same {w w' : World} {b off : Nat} {v : Value} (hk : w'.heap[b]? = w.heap[b]?) (h : w.cell? ⟨b, off, none⟩ = some v) : w'.cell? ⟨b, off, none⟩ = some v := by
  unfold World.cell? at h ⊢
  dsimp only at h ⊢
  rw [hk]
  exact h
theorem frozen_same {w w' : World} {b off : Nat} {v : Bool} (hk : w'.heap[b]? = w.heap[b]?) (h : w.frozen? ⟨b, off, none⟩ = v) : w'.frozen? ⟨b, off, none⟩ = v := by
  unfold World.frozen? at h ⊢
  dsimp only at h ⊢
  rw [hk]
  exact h
theorem VwAt.kept {w w' : World} {q g x : Nat} (h : VwAt w q g x) (hk : ∀ j, j < w.heap.size → j ≠ g → w'.heap[j]? = w.heap[j]?) (hz : w.heap.size ≤ w'.heap.size) : VwAt w' q g x := by
  obtain ⟨d2, f2, d3, f3, cd, cs, h0, h1, h2, h3, h4, l0, l1, l2, n0, n1, n2⟩ := h
  exact ⟨d2, f2, d3, f3, cd, cs, cell_same (hk _ l0 n0) h0, cell_same (hk _ l0 n0) h1, cell_same (hk _ l0 n0) h2, cell_same (hk _ l1 n1) h3, cell_same (hk _ l2 n2) h4, by omega, by omega, by omega, n0, n1, n2⟩

set_option maxHeartbeats 3200000 in
theorem places_in (n : Nat) (hn : 1 ≤ n) (l q g x : Nat) (hx1 : 1 ≤ x) (hx2 : x ≤ 30) (J : Nat → World → Prop) (W : World) (hV : VwAt W q g x) (hg : g < W.heap.size)
    (hJ : ∀ k A A', J k A → Only W.heap.size A A' → J k A')
    (hY : ∀ k W1, J k W1 → k < x → W.heap.size < W1.heap.size → YieldAt Fence.wide (n - 1) Tryz.prog l #[.int .i64 k] W1 fun e W' => e = .returned (.bool true) ∧ J (k + 1) W' ∧ (∀ j, j ≤ W.heap.size → j ≠ g → W'.heap[j]? = W1.heap[j]?) ∧ W1.heap.size ≤ W'.heap.size)
    (h0 : J 0 W) :
    CallsIn Fence.wide n Tryz.prog 363 #[.func (.yield l) #[] #[], .pointer (some ⟨q, 0, none⟩)] W fun e W' => (∃ v, e = .returned v) ∧ J x W' := by
  have HV := Lib.hid hV
  obtain ⟨d2, f2, d3, f3, cd, cs, v0, v1, v2, v3, v4, l0, l1, l2, n0, n1, n2⟩ := hV
  have hm := make_int1
  refine callsIn_of_wp Tryz.func363 rfl trivial ?_ rfl
  simp only [Tryz.ntmps363, List.size_toArray, List.length_cons, List.length_nil, Nat.reduceAdd, Nat.reduceSub, Array.replicate_succ, Array.replicate_zero, List.push_toArray, List.append_toArray, List.nil_append, List.cons_append]
  gi_wp2
  gi_loopw [4] (fun p wr => ∃ k : Nat, k < x ∧ p = .int .i64 k ∧ wr.cell? ⟨W.heap.size, 0, none⟩ = some (.int .i64 k) ∧ wr.frozen? ⟨W.heap.size, 0, none⟩ = false ∧ J k wr ∧ W.heap.size < wr.heap.size ∧ ∀ j, j < W.heap.size → j ≠ g → wr.heap[j]? = W.heap[j]?) (fun p _ => x - (intOf p).toNat)
  case atStart => 
    refine ⟨0, by omega, rfl, ?_, ?_, hJ 0 _ _ h0 ((Only.refl _ _).alloc _), by simp, fun j hj _ => (below_new _ _).block j hj⟩
    · rw [cell_of_row _ _ 0 _ 3 (0, 0) (heap_alloc_new W _)]; rfl
    · unfold World.frozen?; rw [heap_alloc_new]; rfl
  case round =>
    obtain ⟨k, hk, rfl, hc, hf, hj, hlt, hs⟩ := hrel
    obtain ⟨fn, tmps, assign, body, hy, hR⟩ := hY k wr hj hk hlt
    have v0 := cell_same (hs q l0 n0) v0
    have v1 := cell_same (hs q l0 n0) v1
    have v2 := cell_same (hs q l0 n0) v2
    have v3 := cell_same (hs d2 l1 n1) v3
    have v4 := cell_same (hs d3 l2 n2) v4
    gi_wp2
    refine hR.mono ?_
    rintro e W3 ⟨rfl, hJ3, hk3, hz3⟩
    have c3 := cell_same (hk3 _ (Nat.le_refl _) (by omega)) hc
    have ff3 := frozen_same (hk3 _ (Nat.le_refl _) (by omega)) hf
    have v0 := cell_same (hk3 q (by omega) n0) v0
    have v1 := cell_same (hk3 q (by omega) n0) v1
    have v2 := cell_same (hk3 q (by omega) n0) v2
    have v3 := cell_same (hk3 d2 (by omega) n1) v3
    have v4 := cell_same (hk3 d3 (by omega) n2) v4
    have s3 : ∀ j, j < W.heap.size → j ≠ g → W3.heap[j]? = W.heap[j]? := fun j h n => (hk3 j (by omega) n).trans (hs j h n)
    clear hk3 hs hy hR
    have hlt3 : W.heap.size < W3.heap.size := by omega
    by_cases hlast : k + 1 < x
    · have e1 : decide ((k : Int) + 1 < x) = true := by simp; omega
      gi_wp2
      refine wpIn_loop_rounds 1 ?_
      rw [roundsIn_succ]
      gi_wp2
      gi_quiet (fail)
      gi_wp2
      refine ⟨⟨k + 1, hlast, by go_num, ?_, ?_, ?_, ?_, ?_⟩, by simp [intOf]; omega⟩
      · exact World.cell?_setCell_same' _ _ _ (by rw [c3]; rfl)
      · show (W3.setCell _ _).frozen? _ = _
        rw [World.frozen?_setCell]
        exact ff3
      · exact hJ _ _ _ hJ3 (((Only.refl _ _).set_ _ _).drewN _)
      · simp [World.setCell]; omega
      · intro j hj hng
        exact (Below.heap_setCell _ _ _ _ (by show j ≠ W.heap.size; omega)).trans (s3 j hj hng)
    · obtain rfl : x = k + 1 := by omega
      have e1 : decide ((k : Int) + 1 < ((k + 1 : Nat) : Int)) = false := by simp
      gi_wp2
      refine wpIn_loop_rounds 2 ?_
      rw [roundsIn_succ]
      gi_wp2
      gi_quiet (fail)
      gi_wp2
      gi_quiet (fail)
      gi_wp2
      rw [roundsIn_succ]
      gi_wp2
      refine bodyPost_ret (results_none rfl _ _ _) rfl ?_
      exact ⟨⟨_, rfl⟩, hJ _ _ _ hJ3 ((((Only.refl _ _).set_ _ _).drewN _).set_ _ _)⟩
/-- A range over such places. -/
theorem wpIn_places {n : Nat} (hn : 3 ≤ n) {g : Operand} {ps : Array Tmp} {assign body : Code} {Q : Exit → Act → World → Prop} {a : Act} {w : World} {q g6 x : Nat} (hx1 : 1 ≤ x) (hx2 : x ≤ 30)
    (hg : a.eval g = .func (.func 363) #[] #[.pointer (some ⟨q, 0, none⟩)]) (hV : VwAt w q g6 x) (hg6 : g6 < w.heap.size) (hps : ps.size = 1)
    (I : Nat → World → Prop) (hI : ∀ k A A' row, I k A → A.grownBy A' row → (∀ r, row = some r → w.heap.size ≤ r ∧ r ≤ w.heap.size + 2) → I k A') (h0 : I 0 w) (a₁ : Nat → Act)
    (hassign : ∀ (l : Nat) (k : Nat) (W : World) (K : Act → World → Prop), K (a₁ k) W →
      assign.wpIn (Fence.wide.inRound l) (n - 1 - 1) Tryz.prog (Exit.then K (fun _ _ _ => False)) { tmps := (ps.zip #[Value.int .i64 k]).foldl (fun t (p, v) => t.setIfInBounds p v) a.tmps, defers := [] } W)
    (hbody : ∀ (l : Nat) (k : Nat) (W : World), I k W → k < x → w.heap.size + 2 < W.heap.size → body.wpIn (Fence.wide.inRound l) (n - 1 - 1) Tryz.prog (fun e _ W' => e = .normal ∧ I (k + 1) W' ∧ (∀ j, j ≤ w.heap.size + 2 → j ≠ g6 → W'.heap[j]? = W.heap[j]?) ∧ W.heap.size ≤ W'.heap.size) (a₁ k) W)
    (hdone : ∀ (W : World), I x W → W.heap[w.heap.size]? = some (.deferred (some [])) → Q .normal { a with defers := { target := .collected w.heap.size, args := #[] } :: a.defers } W) :
    (Code.rangeFunc g ps assign body).wpIn Fence.wide n Tryz.prog Q a w := by
  refine wpIn_rangeFunc ?_
  intro fn hfn
  generalize hR : (fun (st : LoopState) (pe : Option Code) => ({ state := st, pending := pe, fn, tmps := a.tmps, params := ps, assign, body, defers := w.heap.size } : Loop)) = rec
  have hrec : ∀ st pe, rec st pe = { state := st, pending := pe, fn, tmps := a.tmps, params := ps, assign, body, defers := w.heap.size } := fun st pe => by rw [← hR]
  generalize hW1 : (w.alloc (.deferred (some []))).alloc (.loop (rec .ready none)) = W1
  have z1 : W1.heap.size = w.heap.size + 2 := by rw [← hW1]; simp
  have b1 : Below w.heap.size w W1 := by rw [← hW1]; exact ((Below.refl _ w).alloc (Nat.le_refl _) _).alloc (by simp) _
  have hL1 : W1.heap[w.heap.size + 1]? = some (.loop (rec .ready none)) := by
    rw [← hW1]; have := heap_alloc_new (w.alloc (.deferred (some []))) (.loop (rec .ready none)); rwa [World.size_alloc] at this
  have hD1 : W1.heap[w.heap.size]? = some (.deferred (some [])) := by
    rw [← hW1]; exact (Below.heap_alloc _ _ _ (by simp)).trans (heap_alloc_new w _)
  have hI1 : I 0 W1 := by
    rw [← hW1]
    exact hI _ _ _ none (hI _ _ _ none h0 (World.grownBy_alloc w _ none) (fun _ e => by cases e)) (World.grownBy_alloc _ _ none) (fun _ e => by cases e)
  have hC := places_in (n - 1) (by omega) (w.heap.size + 1) q g6 x hx1 hx2
    (fun k W => I k W ∧ W.heap[w.heap.size + 1]? = some (.loop (rec .ready none)) ∧ W.heap[w.heap.size]? = some (.deferred (some [])))
    W1 (hV.kept (fun j hj _ => b1.block j hj) b1.size) (by omega) ?_ ?_ ⟨hI1, hL1, hD1⟩
  · refine ⟨w.heap.size + 1, [{ target := .collected w.heap.size, args := #[] }], W1, { target := .fn (.func 363) #[.pointer (some ⟨q, 0, none⟩)], args := #[.func (.yield (w.heap.size + 1)) #[] #[]] }, W1, 363,
      #[.func (.yield (w.heap.size + 1)) #[] #[], .pointer (some ⟨q, 0, none⟩)], W1, ?_, ?_, fun _ _ => trivial, ?_, fun _ => by omega, ?_⟩
    · rw [← hW1, ← hR]; exact run_enterLoop_outer _ _ _ _ _
    · simp only [resolve, hg]
      simp [go_sem]
    · have eg := enters_of (P := Tryz.prog) Tryz.func363 (by kernel_rfl) rfl
      simp [invoke, go_sem, eg]
    · refine hC.mono ?_
      rintro e W2 ⟨⟨v, rfl⟩, hi, hl, hd⟩
      refine ⟨none, _, by have := run_endLoop (P := Tryz.prog) hl (by rw [hrec]; simp); rw [hrec] at this; exact this, hdone _ (hI _ _ _ (some (w.heap.size + 1)) hi (grownBy_putObj' _ _ _) (fun r e => by cases e; omega)) ((World.putObj_heap_other (by omega)).trans hd)⟩
  · rintro k A A' ⟨hi, hl, hd⟩ ho
    exact ⟨hI _ _ _ (some W1.heap.size) hi ⟨ho.os, ho.tape, ho.output, ho.size, fun j hj hne => ho.block j hj (fun e => hne (by rw [e]))⟩ (fun r e => by cases e; omega),
      (ho.block _ (Array.getElem?_eq_some_iff.1 hl).1 (by omega)).trans hl, (ho.block _ (Array.getElem?_eq_some_iff.1 hd).1 (by omega)).trans hd⟩
  · rintro k W ⟨hi, hl, hd⟩ hk hlt
    have hll : w.heap.size + 1 < W.heap.size := (Array.getElem?_eq_some_iff.1 hl).1
    have hy := run_yield (P := Tryz.prog) (args := #[Value.int .i64 k]) hl (by rw [hrec]; exact hps.symm)
    rw [hrec] at hy
    refine ⟨fn, _, assign, body, hy, roundIn_of_wpIn hfn (hassign _ k W _ ⟨_, run_beginRound hl (by rw [hrec]), ?_⟩)⟩
    generalize hW2 : W.putObj (w.heap.size + 1) (.loop { rec .ready none with state := .busy }) = W2
    have hl2 : W2.heap[w.heap.size + 1]? = some (.loop { rec .ready none with state := .busy }) := by rw [← hW2]; exact World.putObj_heap_same hll
    have ho2 : ∀ j, j ≠ w.heap.size + 1 → W2.heap[j]? = W.heap[j]? := fun j hj => by rw [← hW2]; exact World.putObj_heap_other hj
    have hz2 : W2.heap.size = W.heap.size := by rw [← hW2]; simp
    have hd2 := (ho2 _ (by omega)).trans hd
    have hi2 : I k W2 := by rw [← hW2]; exact hI _ _ _ (some (w.heap.size + 1)) hi (grownBy_putObj' _ _ _) (fun r e => by cases e; omega)
    refine wpIn_mono (hbody _ k W2 hi2 hk (by omega)) ?_
    rintro e a3 W3 ⟨rfl, hi3, hk3, hz3⟩
    have hl3 := (hk3 _ (by omega) (by omega)).trans hl2
    have hd3 := (hk3 _ (by omega) (by omega)).trans hd2
    have her := run_endRound (P := Tryz.prog) none hl3
    rw [hrec] at her
    refine ⟨_, _, her, rfl, ⟨hI _ _ _ (some (w.heap.size + 1)) hi3 (grownBy_putObj' _ _ _) (fun r e => by cases e; omega), ?_, (World.putObj_heap_other (by omega)).trans hd3⟩, fun j hj hng => ?_, by simp; omega⟩
    · rw [World.putObj_heap_same (Array.getElem?_eq_some_iff.1 hl3).1, hrec]
      rfl
    · by_cases hj1 : j = w.heap.size + 1
      · subst hj1
        rw [World.putObj_heap_same (Array.getElem?_eq_some_iff.1 hl3).1, hl, hrec]
        rfl
      · exact (World.putObj_heap_other hj1).trans ((hk3 j (by omega) hng).trans (ho2 j hj1))
end Go.Proofs.YtbilddeepnnogaaGreatDoor
end
