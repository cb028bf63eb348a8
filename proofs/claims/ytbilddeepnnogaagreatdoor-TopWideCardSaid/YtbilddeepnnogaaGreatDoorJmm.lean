import Derived.Test.YtbilddeepnnogaaGreatDoorJkm
import Derived.Test.YtbilddeepnnogaaGreatDoorIdm
import Derived.Laws.LoneSync
import Derived.BigRegion
import Derived.StillTailTactics
set_option linter.unusedVariables false
set_option linter.unusedSimpArgs false
/- Runs: a tensor's own copy, the counter, a part's place. -/
section
set_option linter.unusedVariables false
set_option maxRecDepth 100000
namespace Go.Proofs.YtbilddeepnnogaaGreatDoor
open Go.RowKit Go.Shelf

theorem OwnL.ints {e : TypeId} {w : World} {B : Nat} {Z : Nat → Prop} {v : Value} {l : List Int} (h : OwnL repInt e w B Z v l) (h0 : 0 < l.length) : ∃ g c, v = .slice (some ⟨g, 0, none⟩) l.length c ∧ B ≤ g ∧ g < w.heap.size ∧ l.length ≤ c ∧ (∀ (j : Nat) (d : Int), l[j]? = some d → w.cell? ⟨g, j, none⟩ = some (.int .i64 d)) ∧ ∀ j, w.frozen? ⟨g, j, none⟩ = false := by
  obtain ⟨xs, hx, hr⟩ := h.own
  have hx' := hx
  rcases hx.2 with ⟨_, h1⟩ | ⟨g, cap, cur, rfl, q1, q2, q3, _⟩
  · omega
  · refine ⟨g, cap, rfl, q1, (Array.getElem?_eq_some_iff.1 q2).1, q3, fun j d hj => ?_, fun j => hx'.frozenAt j⟩
    obtain ⟨cs, e1, e2⟩ := hr j d hj
    have e3 := e2 0 (by decide)
    rw [show cs = [.int .i64 d] from e1] at e3
    have hjl := (List.getElem?_eq_some_iff.1 hj).1
    exact (hx'.cellAt j (by simpa [repInt] using hjl)).trans (by simpa [repInt] using e3)
theorem Nums.isSlc {w : World} {A : Option Addr} {ds : List Int} (h : Nums w A ds) (h0 : 0 < ds.length) (h1 : ds.length ≤ 1000) (c : Nat) : IsSlc repInt w (fun k => k < w.heap.size) (.slice A ds.length c) ds := by
  obtain ⟨d0, hd0⟩ : ∃ d, ds[0]? = some d := ⟨_, List.getElem?_eq_getElem h0⟩
  obtain ⟨b, off, rfl, q0⟩ := h 0 d0 hd0
  refine ⟨_, _, _, rfl, ⟨rfl, by unfold maxLen; omega, fun _ => ⟨b, off, rfl, World.block_lt_of_cell? w ⟨b, _, none⟩ q0, fun j y hj => ?_⟩⟩, fun e => by rw [e] at h0; simp at h0⟩
  obtain ⟨b', off', e, q⟩ := h j y hj
  cases e
  refine ⟨_, rfl, fun i hi => ?_⟩
  obtain rfl : i = 0 := by have : i < 1 := hi; omega
  simpa [repInt] using q
set_option maxHeartbeats 3200000 in
theorem sown_any (Ad At : Option Addr) (cd ct x : Nat) (ds : List Int) (w : World) (h : TnOk w Ad At x ds) :
    Calls Tryz.prog 72 #[.agg #[.int .i64 6, .slice Ad 1 cd, .slice At x ct]] w fun e w' => ∃ g1 c1 g2 c2, e = .returned (.agg #[.int .i64 6, .slice (some ⟨g1, 0, none⟩) 1 c1, .slice (some ⟨g2, 0, none⟩) x c2]) ∧ TnOk w' (some ⟨g1, 0, none⟩) (some ⟨g2, 0, none⟩) x ds ∧ w.heap.size ≤ g1 ∧ w.heap.size ≤ g2 ∧ x ≤ c2 ∧ Since w w' := by
  have H := Lib.hid h
  obtain ⟨rfl, hx1, hx2, -, -, -⟩ := h
  go_enter Tryz.func72, Tryz.ntmps72
  go_wp2_with fail
  refine newX2 (F := fun W => Code.wp _ _ _ _ W) ?_
  intro w1 h1
  obtain ⟨r0, r1, r2, -⟩ := cells3 (h1.b0 rfl)
  have HF1 := Lib.hid h1.drew
  have hT1 : TnOk w1.drew Ad At ds.length ds := H.out.since (Since.dr h1.below)
  have HT1 := Lib.hid hT1
  have z1 : w.heap.size + 2 ≤ w1.drew.heap.size := h1.size
  have zd : w1.drew.heap.size = w1.heap.size := rfl
  clear h1 hT1
  have hA : ∀ W, Since w1.drew W → Calls Tryz.prog 65 #[.slice Ad 1 cd] W fun e w' => ∃ g c', e = .returned (.slice (some ⟨g, 0, none⟩) 1 c') ∧ W.heap.size ≤ g ∧ w'.cell? ⟨g, 0, none⟩ = some (.int .i64 (ds.length : Nat)) ∧ Since W w' := fun W hW => (clone1_any W Ad cd ds.length (HT1.out.since hW).dim).mono (by
    rintro e w4 ⟨A4, c4, rfl, ⟨g, rfl, q1, q2, q3, q4⟩, hb4⟩
    exact ⟨g, c4, rfl, q1, q3, hb4⟩)
  have hB : ∀ W, Since w1.drew W → Calls Tryz.prog 75 #[.slice At ds.length ct] W fun e w' => ∃ g c', e = .returned (.slice (some ⟨g, 0, none⟩) ds.length c') ∧ W.heap.size ≤ g ∧ Nums w' (some ⟨g, 0, none⟩) ds ∧ ds.length ≤ c' ∧ Since W w' := fun W hW => (clone75 (l := ds) ((HT1.out.since hW).nums.isSlc (by omega) (by omega) ct) (fun _ h => h) (by omega)).mono (by
    rintro e w5 ⟨A5, c5, rfl, ho5, hb5⟩
    obtain ⟨g, c, ev, q1, q2, q3, q4, q5⟩ := ho5.ints (by omega)
    cases ev
    exact ⟨g, c5, rfl, q1, fun j d hj => ⟨g, 0, rfl, by rw [Nat.zero_add]; exact q4 j d hj⟩, q3, hb5⟩)
  have HAA := Lib.hid hA
  have HBB := Lib.hid hB
  clear hA hB
  go_region_with (first
    | (go_at_call 65; (with_reducible refine (HAA.out _ (by first | with_reducible exact Since.refl _ | with_reducible exact hs5)).mono ?_); rintro e w4 ⟨g4, c4, rfl, l4, q4, hb4⟩; have hs4 : Since w1.drew w4 := (by first | with_reducible exact hb4 | with_reducible exact Since.trans hs5 hb4); have h4 := HF1.out.all hs4; obtain ⟨r0, r1, r2, -⟩ := cells3 (h4.b0 rfl); obtain ⟨s0, s1, s2, e0, e1, e2⟩ := cells3 (h4.b1 rfl))
    | (go_at_call 75; (with_reducible refine (HBB.out _ (by first | with_reducible exact Since.refl _ | with_reducible exact hs4)).mono ?_); rintro e w5 ⟨g5, c5, rfl, l5, q5, m5, hb5⟩; have hs5 : Since w1.drew w5 := (by first | with_reducible exact hb5 | with_reducible exact Since.trans hs4 hb5); have h5 := HF1.out.all hs5; obtain ⟨r0, r1, r2, -⟩ := cells3 (h5.b0 rfl); obtain ⟨s0, s1, s2, e0, e1, e2⟩ := cells3 (h5.b1 rfl)))
  all_goals
    have z4 := hs4.size
    have z5 := hs5.size
    first
      | (have hT : TnOk w5 (some ⟨g4, 0, none⟩) (some ⟨g5, 0, none⟩) ds.length ds := ⟨rfl, hx1, hx2, ⟨g4, 0, rfl, Nat.lt_of_lt_of_le (World.block_lt_of_cell? w4 ⟨g4, 0, none⟩ q4) hb5.size, (hb5.cell (p := ⟨g4, 0, none⟩) (World.block_lt_of_cell? w4 ⟨g4, 0, none⟩ q4)).trans q4⟩, q5, HT1.out.sm⟩
         have hF := h5)
      | (have hT : TnOk w4 (some ⟨g4, 0, none⟩) (some ⟨g5, 0, none⟩) ds.length ds := ⟨rfl, hx1, hx2, ⟨g4, 0, rfl, World.block_lt_of_cell? w4 ⟨g4, 0, none⟩ q4, q4⟩, q5.since hb4, HT1.out.sm⟩
         have hF := h4)
    refine put3 (F := fun W => Exit.then _ _ _ _ W) (hF.b1 rfl) ?_
    intro w6 g6 hk hb hz
    go_wp2_with fail
    refine bodyPost_ret (results_cell_row rfl _ _ (w.heap.size + 1) 44 _ (0, 0) _ rfl g6 Tryz.underlying44 rfl (by kernel_rfl)) rfl ?_
    exact ⟨_, _, _, _, rfl, hT.turn (gs := w.heap.size + 1) (by omega) (by omega) hk hz, by omega, by omega, m5, hF.below.trans (hb.mono (by omega))⟩
theorem wrap_i64_sm (s : Int) (h0 : 0 ≤ s) (h1 : s ≤ 100000) : IntKind.i64.wrap (s + 1) = s + 1 := by rw [IntKind.wrap_i64]; omega
set_option maxHeartbeats 1600000 in
theorem madd_any (p : Nat) (s : Int) (w : World) (hc : w.cell? ⟨p, 5, none⟩ = some (.int .i64 s)) (hz : w.frozen? ⟨p, 5, none⟩ = false) (h0 : 0 ≤ s) (h1 : s ≤ 100000) :
    Calls Tryz.prog 81 #[.pointer (some ⟨p, 5, none⟩), .int .i64 1] w fun e w' => e = .returned (.int .i64 (s + 1)) ∧ w' = w.setCell ⟨p, 5, none⟩ (.int .i64 (s + 1)) := by
  have hadd := run_call_add (P := Tryz.prog) Tryz.func152 (by kernel_rfl) (by kernel_rfl) (by kernel_rfl) .i64 (by kernel_rfl) (y := 1) (s := s + 1) hc hz (by simp [go_sem, wrap_i64_sm s h0 h1])
  go_enter Tryz.func81, Tryz.ntmps81
  go_wp2_with fail
  go_ret
  exact ⟨rfl, rfl⟩
end Go.Proofs.YtbilddeepnnogaaGreatDoor
end
/- Runs: a part's place; a value read. -/
section
set_option linter.unusedVariables false
set_option maxRecDepth 100000
namespace Go.Proofs.YtbilddeepnnogaaGreatDoor
open Go.RowKit Go.Shelf

set_option maxHeartbeats 3200000 in
theorem mbytes_any {b S Dn i : Nat} {o : Op1} {x sz q : Nat} {D : Nat → Bool} (lo hi : Nat) (h1 : lo ≤ hi) (h2 : hi ≤ 30) (hi5 : i ≤ 5) (hx : x ≤ 30) (w : World) (h : WkAt w b S Dn i o x sz q D) :
    Calls Tryz.prog 84 #[.pointer (some ⟨b, 0, none⟩), .int .i64 lo, .int .i64 hi] w fun e w' => ∃ s, e = .returned (.agg #[.string s, .int .i64 (i * up8 (4 * x) + lo * 4 : Nat), .int .i64 ((hi - lo) * 4 : Nat)]) ∧ Since w w' := by
  obtain ⟨⟨nm, A, cA, Ad, cd, cS, cD, hr, -, -⟩, -, -⟩ := h
  have c6 : w.cell? ⟨b, 5, none⟩ = some (.string o.out) := cell_of_row _ _ 5 _ 170 (0, 0) hr
  have c7 : w.cell? ⟨b, 6, none⟩ = some (.int .i64 6) := cell_of_row _ _ 6 _ 170 (0, 0) hr
  have c9 : w.cell? ⟨b, 9, none⟩ = some (.int .i64 (i * up8 (4 * x) : Nat)) := cell_of_row _ _ 9 _ 170 (0, 0) hr
  have nb := (Array.getElem?_eq_some_iff.1 hr).1
  have hup : i * up8 (4 * x) ≤ 5 * 200 := Nat.mul_le_mul hi5 (by unfold up8; omega)
  generalize i * up8 (4 * x) = a at *
  have e1 : (((hi - lo) * 4 : Nat) : Int) = ((hi : Int) - lo) * 4 := by omega
  have e2 : ((a + lo * 4 : Nat) : Int) = (a : Int) + (lo : Int) * 4 := by omega
  have k1 : (lo : Int) ≤ hi := by omega
  have k2 : (hi : Int) ≤ 30 := by omega
  have k3 : (a : Int) ≤ 1000 := by omega
  rw [e1, e2]
  clear hr
  go_enter Tryz.func84, Tryz.ntmps84
  go_wp2_with (go_at_call 157; refine (width157 _).mono ?_; rintro e w4 ⟨rfl, rfl⟩)
  refine newX (F := fun W => Code.wp _ _ _ _ W) ?_
  intro w1 hx
  have c6 := (hx.below.cell (p := ⟨b, 5, none⟩) nb).trans c6
  have c7 := (hx.below.cell (p := ⟨b, 6, none⟩) nb).trans c7
  have c9 := (hx.below.cell (p := ⟨b, 9, none⟩) nb).trans c9
  have hb1 := hx.b0 rfl
  obtain ⟨b0, b1, b2, f0, f1, f2⟩ := cells3 hb1
  have HX := Lib.hid hx
  clear hx
  go_still_tail 20, (by kernel_rfl)
  change wpList _ _ _ _ _ w1.drew
  go_wp2_with fail
  refine put3 (F := fun W => bodyPost _ _ _ _ _ W.drew) hb1 ?_
  intro w5 g5 hk5 hb5 hz5
  refine bodyPost_ret (results_cell_row rfl _ _ w.heap.size 138 _ (0, 0) _ rfl (show w5.drew.heap[w.heap.size]? = _ from g5) Tryz.underlying138 rfl (by kernel_rfl)) rfl ?_
  exact ⟨_, rfl, Since.dr (Below.trans HX.out.below hb5)⟩
end Go.Proofs.YtbilddeepnnogaaGreatDoor
end
/- Runs: the machine. -/
section
set_option linter.unusedVariables false
set_option maxRecDepth 100000
namespace Go.Proofs.YtbilddeepnnogaaGreatDoor
open Go.RowKit Go.Shelf

/-- A slice's block is of a set. -/
def On (Z : Nat → Prop) (A : Option Addr) : Prop := ∀ b off, A = some ⟨b, off, none⟩ → Z b
section
variable {w w' : World} {Z : Nat → Prop} {A B : Option Addr} {m : Nat} {x : Int} {ds : List Int}
theorem Xs.stay (h : Xs w A m) (hZ : On Z A) (hk : ∀ k, k < w.heap.size → Z k → w'.heap[k]? = w.heap[k]?) (hs : w.heap.size ≤ w'.heap.size) : Xs w' A m := by
  obtain ⟨b, off, rfl, h1, h2⟩ := h
  exact ⟨b, off, rfl, Nat.lt_of_lt_of_le h1 hs, fun j hj => (World.cell?_of_block (a := ⟨b, off + j, none⟩) (hk b h1 (hZ b off rfl))).trans (h2 j hj)⟩
theorem One.stay (h : One w A x) (hZ : On Z A) (hk : ∀ k, k < w.heap.size → Z k → w'.heap[k]? = w.heap[k]?) (hs : w.heap.size ≤ w'.heap.size) : One w' A x := by
  obtain ⟨b, off, rfl, h1, h2⟩ := h
  exact ⟨b, off, rfl, Nat.lt_of_lt_of_le h1 hs, (World.cell?_of_block (a := ⟨b, off, none⟩) (hk b h1 (hZ b off rfl))).trans h2⟩
theorem Nums.stay (h : Nums w A ds) (hZ : On Z A) (hk : ∀ k, k < w.heap.size → Z k → w'.heap[k]? = w.heap[k]?) : Nums w' A ds := fun j d hj => by
  obtain ⟨b, off, rfl, q⟩ := h j d hj
  exact ⟨b, off, rfl, (World.cell?_of_block (a := ⟨b, off + j, none⟩) (hk b (World.block_lt_of_cell? w ⟨b, off + j, none⟩ q) (hZ b off rfl))).trans q⟩
end
/-- The blocks that a machine does not turn. -/
def Trn (M Ar n : Nat) (wk Dn : Nat → Nat) (k : Nat) : Prop := k ≠ M ∧ k ≠ Ar ∧ ∀ i, i < n → k ≠ wk i ∧ k ≠ Dn i
/-- Those of them that it reads. -/
def Stc (top M Ar n : Nat) (wk Dn : Nat → Nat) (k : Nat) : Prop := Trn M Ar n wk Dn k ∧ k < top
/-- A node's work, what it leads to in blocks of a set. -/
structure WkZ (Z : Nat → Prop) (w : World) (b S Dn i : Nat) (o : Op1) (x sz q : Nat) (D : Nat → Bool) : Prop where
  row : ∃ nm A cA Ad cd cS cD, w.heap[b]? = some (.cells #[.string o.op, .string nm, .slice A o.m cA, .string o.out, .slice none 0 0, .string o.out, .int .i64 6, .slice Ad 1 cd, .string o.out, .int .i64 (i * up8 (4 * x) : Nat), .int .i64 (4 * (x : Int)), .slice (some ⟨S, 0, none⟩) q cS, .slice (some ⟨Dn, 0, none⟩) q cD, .int .i64 (undone D q : Nat), .int .i64 0, .slice none 0 0] 170 (0, 0)) ∧ Xs w A o.m ∧ On Z A ∧ One w Ad x ∧ On Z Ad
  stat : Z S
  steps : ∀ j, j < q → w.cell? ⟨S, j * 3, none⟩ = some (.int .i64 i) ∧ w.cell? ⟨S, j * 3 + 1, none⟩ = some (.int .i64 (j * sz : Nat)) ∧ w.cell? ⟨S, j * 3 + 2, none⟩ = some (.int .i64 (min (x : Int) ((j * sz : Nat) + (sz : Int))))
  dn : ∃ cs, w.heap[Dn]? = some (.cells cs 4 (0, 0)) ∧ cs.size = q ∧ ∀ j, j < q → cs[j]? = some (.bool (D j))
theorem WkZ.wk {Z : Nat → Prop} {w : World} {b S Dn i : Nat} {o : Op1} {x sz q : Nat} {D : Nat → Bool} (h : WkZ Z w b S Dn i o x sz q D) : WkAt w b S Dn i o x sz q D := by
  obtain ⟨⟨nm, A, cA, Ad, cd, cS, cD, h1, h2, -, h3, -⟩, -, h4, cs, h5, -, h6⟩ := h
  exact ⟨⟨nm, A, cA, Ad, cd, cS, cD, h1, h2, h3⟩, h4, fun j hj => (cell_of_row _ _ j _ 4 (0, 0) h5).trans (h6 j hj)⟩
/-- Blocks that turn are none of another's. -/
structure Apart (base top M Ar n : Nat) (wk Dn : Nat → Nat) : Prop where
  tp : 5 ≤ top
  lo : 5 ≤ base ∧ base ≤ M ∧ base ≤ Ar ∧ ∀ i, i < n → base ≤ wk i ∧ base ≤ Dn i
  ma : M ≠ Ar
  wk1 : ∀ i, i < n → wk i ≠ M ∧ wk i ≠ Ar
  dn1 : ∀ i, i < n → Dn i ≠ M ∧ Dn i ≠ Ar
  wk2 : ∀ i j, i < n → j < n → i ≠ j → wk i ≠ wk j
  dn2 : ∀ i j, i < n → j < n → i ≠ j → Dn i ≠ Dn j
  wd : ∀ i j, i < n → j < n → wk i ≠ Dn j
/-- Where a machine's parts lie. -/
structure Lay where
  (base top M Wb cW Ar nA bA bG : Nat)
  (wk S Dn : Nat → Nat)
/-- A run: which pieces are marked (D), which are written (B). -/
structure Mc (w : World) (L : Lay) (l : List Op1) (x sz q : Nat) (ds : List Int) (D B : Nat → Nat → Bool) : Prop where
  ok : FlatL l
  gl : Gl w
  row : ∃ Ao co cR s, w.heap[L.M]? = some (.cells #[.slice Ao l.length co, .map (some L.bG), .map (some L.bA), .slice (some ⟨L.Wb, 0, none⟩) l.length L.cW, .slice (some ⟨L.Ar, 0, none⟩) L.nA cR, .int .i64 s] 162 (0, 0)) ∧ VlX w (Stc L.top L.M L.Ar l.length L.wk L.Dn) Ao (l.map (·.out)) x ∧ L.nA ≤ cR ∧ 0 ≤ s ∧ s + openN D q l.length ≤ 1000
  wp : ∀ i, i < l.length → w.cell? ⟨L.Wb, i, none⟩ = some (.pointer (some ⟨L.wk i, 0, none⟩))
  sW : Stc L.top L.M L.Ar l.length L.wk L.Dn L.Wb
  wa : ∀ (i : Nat) (o : Op1), l[i]? = some o → WkZ (Stc L.top L.M L.Ar l.length L.wk L.Dn) w (L.wk i) (L.S i) (L.Dn i) i o x sz q (D i)
  given : ∃ f Ad cd At ct, MapIs w L.bG f 1 ∧ f ⟨#[120]⟩ = some (.agg #[.int .i64 6, .slice Ad 1 cd, .slice At x ct]) ∧ TnOk w Ad At x ds ∧ On (Stc L.top L.M L.Ar l.length L.wk L.Dn) Ad ∧ On (Stc L.top L.M L.Ar l.length L.wk L.Dn) At
  at_ : ∃ f, MapIs w L.bA f l.length ∧ f ⟨#[120]⟩ = none ∧ ∀ (i : Nat) (o : Op1), l[i]? = some o → f o.out = some (.int .i64 i)
  sG : Stc L.top L.M L.Ar l.length L.wk L.Dn L.bG
  sA : Stc L.top L.M L.Ar l.length L.wk L.Dn L.bA
  ar : ∃ cs, w.heap[L.Ar]? = some (.cells cs 5 (0, 0)) ∧ cs.size = L.nA
  an : l.length * up8 (4 * x) ≤ L.nA ∧ L.nA ≤ 1000
  apart : Apart L.base L.top L.M L.Ar l.length L.wk L.Dn
  bytes : ∀ (i : Nat) (o : Op1) (j : Nat), l[i]? = some o → j < q → B i j = true → ∀ (e : Nat) (d : Int) (b : Nat), j * sz ≤ e → e < j * sz + sz → ds[e]? = some d → b < 4 → w.cell? ⟨L.Ar, i * up8 (4 * x) + (e * 4 + b), none⟩ = some (byteOf (opV o.op d) b)
theorem Mc.st {w : World} {L : Lay} {l : List Op1} {x sz q : Nat} {ds : List Int} {D B : Nat → Nat → Bool} (h : Mc w L l x sz q ds D B) : MaSt w L.M L.Wb L.cW L.wk L.S L.Dn l x sz q D := by
  obtain ⟨Ao, co, cR, s, hr, -⟩ := h.row
  exact ⟨cell_of_row _ _ 3 _ 162 (0, 0) hr, h.wp, fun i o ho => (h.wa i o ho).wk⟩
/-- What holds as long as none of the blocks turns that are of no set. -/
theorem WkZ.stay {Z : Nat → Prop} {w w' : World} {b S Dn i : Nat} {o : Op1} {x sz q : Nat} {D : Nat → Bool} (h : WkZ Z w b S Dn i o x sz q D) (hk : ∀ k, k < w.heap.size → Z k → w'.heap[k]? = w.heap[k]?) (hs : w.heap.size ≤ w'.heap.size) (hb : w'.heap[b]? = w.heap[b]?) (hd : w'.heap[Dn]? = w.heap[Dn]?) : WkZ Z w' b S Dn i o x sz q D := by
  obtain ⟨⟨nm, A, cA, Ad, cd, cS, cD, h1, h2, h3, h4, h5⟩, h6, h7, cs, h8, h9, h10⟩ := h
  have ce : ∀ o v, w.cell? ⟨S, o, none⟩ = some v → w'.cell? ⟨S, o, none⟩ = some v := fun o v hv => (World.cell?_of_block (a := ⟨S, o, none⟩) (hk S (World.block_lt_of_cell? w ⟨S, o, none⟩ hv) h6)).trans hv
  exact ⟨⟨nm, A, cA, Ad, cd, cS, cD, hb.trans h1, h2.stay h3 hk hs, h3, h4.stay h5 hk hs, h5⟩, h6, fun j hj => by obtain ⟨a, b, c⟩ := h7 j hj; exact ⟨ce _ _ a, ce _ _ b, ce _ _ c⟩,
    cs, hd.trans h8, h9, h10⟩
theorem Mc.since {w w' : World} {L : Lay} {l : List Op1} {x sz q : Nat} {ds : List Int} {D B : Nat → Nat → Bool} (h : Mc w L l x sz q ds D B) (hs : Since w w') : Mc w' L l x sz q ds D B := by
  obtain ⟨Ao, co, cR, s, hr, hv, h1, h2, h3⟩ := h.row
  obtain ⟨f, Ad, cd, At, ct, g1, g2, g3, g4, g5⟩ := h.given
  obtain ⟨f2, a1, a2, a3⟩ := h.at_
  obtain ⟨cs, c1, c2⟩ := h.ar
  refine ⟨h.ok, h.gl.below hs, ⟨Ao, co, cR, s, hs.kp hr, hv.below hs, h1, h2, h3⟩, fun i hi => (hs.cell (p := ⟨L.Wb, i, none⟩) (World.block_lt_of_cell? w ⟨L.Wb, i, none⟩ (h.wp i hi))).trans (h.wp i hi), h.sW, fun i o ho => ?_, ⟨f, Ad, cd, At, ct, g1.below hs, g2, g3.since hs, g4, g5⟩, ⟨f2, a1.below hs, a2, a3⟩, h.sG, h.sA, ⟨cs, hs.kp c1, c2⟩, h.an, h.apart, fun i o j ho hj hB e d b e1 e2 e3 e4 => ?_⟩
  · have hw := h.wa i o ho
    obtain ⟨nm, A, cA, Ad, cd, cS, cD, hr, -⟩ := hw.row
    obtain ⟨ds', hd, -⟩ := hw.dn
    exact hw.stay (fun k hk _ => hs.block k hk) hs.size (hs.block _ (Array.getElem?_eq_some_iff.1 hr).1) (hs.block _ (Array.getElem?_eq_some_iff.1 hd).1)
  · have hc := h.bytes i o j ho hj hB e d b e1 e2 e3 e4
    exact (hs.cell (p := ⟨L.Ar, _, none⟩) (World.block_lt_of_cell? w ⟨L.Ar, _, none⟩ hc)).trans hc
/-- What turns, turns so. -/
theorem Mc.turn {w w' : World} {L : Lay} {l : List Op1} {x sz q : Nat} {ds : List Int} {D B D' B' : Nat → Nat → Bool} (h : Mc w L l x sz q ds D B)
    (hk : ∀ k, k < w.heap.size → Stc L.top L.M L.Ar l.length L.wk L.Dn k → w'.heap[k]? = w.heap[k]?) (hs : w.heap.size ≤ w'.heap.size)
    (hrow : ∀ Ao co cR s, w.heap[L.M]? = some (.cells #[.slice Ao l.length co, .map (some L.bG), .map (some L.bA), .slice (some ⟨L.Wb, 0, none⟩) l.length L.cW, .slice (some ⟨L.Ar, 0, none⟩) L.nA cR, .int .i64 s] 162 (0, 0)) → 0 ≤ s → s + openN D q l.length ≤ 1000 → ∃ s', w'.heap[L.M]? = some (.cells #[.slice Ao l.length co, .map (some L.bG), .map (some L.bA), .slice (some ⟨L.Wb, 0, none⟩) l.length L.cW, .slice (some ⟨L.Ar, 0, none⟩) L.nA cR, .int .i64 s'] 162 (0, 0)) ∧ 0 ≤ s' ∧ s' + openN D' q l.length ≤ 1000)
    (hwk : ∀ (a : Nat) (o : Op1), l[a]? = some o → WkZ (Stc L.top L.M L.Ar l.length L.wk L.Dn) w (L.wk a) (L.S a) (L.Dn a) a o x sz q (D a) → WkZ (Stc L.top L.M L.Ar l.length L.wk L.Dn) w' (L.wk a) (L.S a) (L.Dn a) a o x sz q (D' a))
    (har : ∃ cs, w'.heap[L.Ar]? = some (.cells cs 5 (0, 0)) ∧ cs.size = L.nA)
    (hby : ∀ (i : Nat) (o : Op1) (j : Nat), l[i]? = some o → j < q → B' i j = true → ∀ (e : Nat) (d : Int) (b : Nat), j * sz ≤ e → e < j * sz + sz → ds[e]? = some d → b < 4 → w'.cell? ⟨L.Ar, i * up8 (4 * x) + (e * 4 + b), none⟩ = some (byteOf (opV o.op d) b)) : Mc w' L l x sz q ds D' B' := by
  obtain ⟨Ao, co, cR, s, hr, hv, h1, h2, h3⟩ := h.row
  obtain ⟨s', r1, r2, r3⟩ := hrow Ao co cR s hr h2 h3
  obtain ⟨f, Ad, cd, At, ct, g1, g2, g3, g4, g5⟩ := h.given
  obtain ⟨f2, a1, a2, a3⟩ := h.at_
  obtain ⟨m5, mM, mA, mW⟩ := h.apart.lo
  have low : ∀ k, k < 5 → w'.heap[k]? = w.heap[k]? := fun k hk5 => hk k (by have := h.gl.lt; omega) ⟨⟨by omega, by omega, fun i hi => by have := mW i hi; omega⟩, by have := h.apart.tp; omega⟩
  have gl : Gl w' := by
    obtain ⟨⟨m, q1⟩, q2, q3⟩ := h.gl
    exact ⟨⟨m, (World.cell?_of_block (a := ⟨2, 0, none⟩) (low 2 (by omega))).trans q1⟩, (low 0 (by omega)).trans q2, Nat.le_trans q3 hs⟩
  exact ⟨h.ok, gl, ⟨Ao, co, cR, s', r1, hv.keep hk hs, h1, r2, r3⟩, fun i hi => (World.cell?_of_block (a := ⟨L.Wb, i, none⟩) (hk _ (World.block_lt_of_cell? w ⟨L.Wb, i, none⟩ (h.wp i hi)) h.sW)).trans (h.wp i hi), h.sW, fun a o ho => hwk a o ho (h.wa a o ho),
    ⟨f, Ad, cd, At, ct, g1.keep (hk _ g1.lt h.sG), g2, ⟨g3.len, g3.lo, g3.hi, g3.dim.stay g4 hk hs, g3.nums.stay g5 hk, g3.sm⟩, g4, g5⟩, ⟨f2, a1.keep (hk _ a1.lt h.sA), a2, a3⟩, h.sG, h.sA, har, h.an, h.apart, hby⟩
/-- One more. -/
def up2 (D : Nat → Nat → Bool) (i j : Nat) : Nat → Nat → Bool := fun a b => if a = i ∧ b = j then true else D a b
theorem up2_other {D : Nat → Nat → Bool} {i j a : Nat} (h : a ≠ i) : up2 D i j a = D a := funext fun b => if_neg (fun e => h e.1)
theorem undone_far {D : Nat → Bool} {j q : Nat} (h : q ≤ j) : undone (fun b => if b = j then true else D b) q = undone D q := by
  induction q with
  | zero => rfl
  | succ q ih =>
    rw [undone, undone, ih (by omega)]
    simp [show ¬ q = j by omega]
theorem undone_up {D : Nat → Bool} {j q : Nat} (hj : j < q) (hD : D j = false) : undone (fun b => if b = j then true else D b) q + 1 = undone D q := by
  induction q with
  | zero => omega
  | succ q ih =>
    rw [undone, undone]
    rcases Nat.lt_or_ge j q with h | h
    · have := ih h
      simp only [show ¬ q = j by omega, if_false]
      omega
    · obtain rfl : j = q := by omega
      rw [undone_far (Nat.le_refl _)]
      simp [hD]
theorem up2_same (D : Nat → Nat → Bool) (i j : Nat) : up2 D i j i = fun b => if b = j then true else D i b := funext fun b => by simp [up2]
theorem openN_far {D : Nat → Nat → Bool} {i j q n : Nat} (h : n ≤ i) : openN (up2 D i j) q n = openN D q n := by
  induction n with
  | zero => rfl
  | succ n ih => rw [openN, openN, ih (by omega), up2_other (by omega)]
theorem openN_up {D : Nat → Nat → Bool} {i j q n : Nat} (hi : i < n) (hj : j < q) (hD : D i j = false) : openN (up2 D i j) q n + 1 = openN D q n := by
  induction n with
  | zero => omega
  | succ n ih =>
    rw [openN, openN]
    rcases Nat.lt_or_ge i n with h | h
    · have := ih h
      rw [up2_other (show n ≠ i by omega)]
      omega
    · obtain rfl : i = n := by omega
      have := undone_up hj hD
      rw [openN_far (Nat.le_refl _), up2_same]
      omega
theorem Mc.mark {w : World} {L : Lay} {l : List Op1} {x sz q : Nat} {ds : List Int} {D B : Nat → Nat → Bool} (h : Mc w L l x sz q ds D B) {i j : Nat} {s : Int} (hi : i < l.length) (hj : j < q) (hD : D i j = false) (hs : w.cell? ⟨L.M, 5, none⟩ = some (.int .i64 s)) :
    Mc (((w.setCell ⟨L.Dn i, j, none⟩ (.bool true)).setCell ⟨L.wk i, 13, none⟩ (.int .i64 ((undone (D i) q : Nat) - 1))).setCell ⟨L.M, 5, none⟩ (.int .i64 (s + 1))) L l x sz q ds (up2 D i j) B := by
  have ha := h.apart
  obtain ⟨k1, k2⟩ := ha.wk1 i hi
  obtain ⟨k3, k4⟩ := ha.dn1 i hi
  have k5 := ha.wd i i hi hi
  have far : ∀ k, k ≠ L.M → k ≠ L.wk i → k ≠ L.Dn i → (((w.setCell ⟨L.Dn i, j, none⟩ (.bool true)).setCell ⟨L.wk i, 13, none⟩ (.int .i64 ((undone (D i) q : Nat) - 1))).setCell ⟨L.M, 5, none⟩ (.int .i64 (s + 1))).heap[k]? = w.heap[k]? := fun k h1 h2 h3 => (Below.heap_setCell _ _ _ _ h1).trans ((Below.heap_setCell _ _ _ _ h2).trans (Below.heap_setCell _ _ _ _ h3))
  refine h.turn (fun k hk hz => far k hz.1.1 (hz.1.2.2 i hi).1 (hz.1.2.2 i hi).2) (by simp [World.setCell]) ?_ ?_ ?_ ?_
  · intro Ao co cR s0 hr h2 h3
    have e := cell_of_row _ _ 5 _ 162 (0, 0) hr
    rw [hs] at e
    obtain rfl : s = s0 := by simpa using e
    refine ⟨s + 1, ?_, by omega, by have := openN_up hi hj hD; omega⟩
    have h1 : ((w.setCell ⟨L.Dn i, j, none⟩ (.bool true)).setCell ⟨L.wk i, 13, none⟩ (.int .i64 ((undone (D i) q : Nat) - 1))).heap[L.M]? = w.heap[L.M]? := (Below.heap_setCell _ _ _ _ (fun e => k1 e.symm)).trans (Below.heap_setCell _ _ _ _ (fun e => k3 e.symm))
    simpa using heap_setCell_same _ L.M 5 _ 162 (.int .i64 (s + 1)) (h1.trans hr)
  · intro a o ho hw
    have hal : a < l.length := (List.getElem?_eq_some_iff.1 ho).1
    by_cases e : a = i
    · subst e
      obtain ⟨⟨nm, A, cA, Ad, cd, cS, cD, r1, r2, r3, r4, r5⟩, r6, r7, cs, r8, r9, r10⟩ := hw
      have hst : ∀ k, k < w.heap.size → Stc L.top L.M L.Ar l.length L.wk L.Dn k → (((w.setCell ⟨L.Dn a, j, none⟩ (.bool true)).setCell ⟨L.wk a, 13, none⟩ (.int .i64 ((undone (D a) q : Nat) - 1))).setCell ⟨L.M, 5, none⟩ (.int .i64 (s + 1))).heap[k]? = w.heap[k]? := fun k hk hz => far k hz.1.1 (hz.1.2.2 a hi).1 (hz.1.2.2 a hi).2
      have hsz : w.heap.size ≤ (((w.setCell ⟨L.Dn a, j, none⟩ (.bool true)).setCell ⟨L.wk a, 13, none⟩ (.int .i64 ((undone (D a) q : Nat) - 1))).setCell ⟨L.M, 5, none⟩ (.int .i64 (s + 1))).heap.size := by simp [World.setCell]
      have ce : ∀ o v, w.cell? ⟨L.S a, o, none⟩ = some v → (((w.setCell ⟨L.Dn a, j, none⟩ (.bool true)).setCell ⟨L.wk a, 13, none⟩ (.int .i64 ((undone (D a) q : Nat) - 1))).setCell ⟨L.M, 5, none⟩ (.int .i64 (s + 1))).cell? ⟨L.S a, o, none⟩ = some v := fun o v hv => (World.cell?_of_block (a := ⟨L.S a, o, none⟩) (hst _ (World.block_lt_of_cell? w ⟨L.S a, o, none⟩ hv) r6)).trans hv
      have hun : (((undone (up2 D a j a) q : Nat) : Int)) = ((undone (D a) q : Nat) : Int) - 1 := by
        have := undone_up hj hD
        rw [up2_same]
        omega
      refine ⟨⟨nm, A, cA, Ad, cd, cS, cD, ?_, r2.stay r3 hst hsz, r3, r4.stay r5 hst hsz, r5⟩, r6, fun j hj => by obtain ⟨a1, a2, a3⟩ := r7 j hj; exact ⟨ce _ _ a1, ce _ _ a2, ce _ _ a3⟩, cs.setIfInBounds j (.bool true), ?_, by simpa using r9, fun b hb => ?_⟩
      · rw [hun]
        refine (Below.heap_setCell _ _ _ _ k1).trans ?_
        have h1 : (w.setCell ⟨L.Dn a, j, none⟩ (.bool true)).heap[L.wk a]? = w.heap[L.wk a]? := Below.heap_setCell _ _ _ _ k5
        simpa using heap_setCell_same _ (L.wk a) 13 _ 170 (.int .i64 ((undone (D a) q : Nat) - 1)) (h1.trans r1)
      · refine (Below.heap_setCell _ _ _ _ k3).trans ((Below.heap_setCell _ _ _ _ (fun e => k5 e.symm)).trans ?_)
        exact heap_setCell_same _ (L.Dn a) j _ 4 (.bool true) r8
      · rw [up2_same]
        by_cases e : b = j
        · subst e
          simp [r9, hb]
        · rw [Array.getElem?_setIfInBounds_ne (fun h => e h.symm)]
          simpa [e] using r10 b hb
    · rw [up2_other e]
      have n1 := ha.wk1 a hal
      have n2 := ha.dn1 a hal
      refine hw.stay (fun k hk hz => far k hz.1.1 (hz.1.2.2 i hi).1 (hz.1.2.2 i hi).2) (by simp [World.setCell]) (far _ n1.1 (ha.wk2 a i hal hi e) (ha.wd a i hal hi)) (far _ n2.1 (fun e2 => ha.wd i a hi hal e2.symm) (ha.dn2 a i hal hi e))
  · obtain ⟨cs, c1, c2⟩ := h.ar
    exact ⟨cs, (far _ (fun e => ha.ma e.symm) (fun e => k2 e.symm) (fun e => k4 e.symm)).trans c1, c2⟩
  · intro a o b ho hb hB e d c e1 e2 e3 e4
    exact (World.cell?_of_block (a := ⟨L.Ar, _, none⟩) (far _ (fun e => ha.ma e.symm) (fun e => k2 e.symm) (fun e => k4 e.symm))).trans (h.bytes a o b ho hb hB e d c e1 e2 e3 e4)
end Go.Proofs.YtbilddeepnnogaaGreatDoor
end
